/- slices.IndexFunc, ContainsFunc at []string and []api.Clause, query.some: a function value need be known at the elements alone. -/
import Derived.Test.YthinieokpgmfoaaMatch
set_option linter.unusedVariables false
set_option linter.unusedSimpArgs false
namespace Go.Proofs.Ythinieokpgmfoaa
open Go.RowKit

def PredS1 (g : Nat) (lb : Array Value) (p : ByteArray → Bool) (w : World) (s : ByteArray) : Prop := ∀ (W : World), Below w.heap.size w W → Calls Try.prog g (#[.string s] ++ lb) W fun e w' => e = .returned (.bool (p s)) ∧ Below W.heap.size W w'
def PredC1 (g : Nat) (lb : Array Value) (p : Clause → Bool) (w : World) (x : Clause) : Prop := ∀ (S T : Option Addr) (sa ta : Nat) (W : World), Below w.heap.size w W → SlS W S sa x.tags → SlS W T ta x.types →
  Calls Try.prog g (#[.agg #[.slice S x.tags.length sa, .slice T x.types.length ta]] ++ lb) W fun e w' => e = .returned (.bool (p x)) ∧ Below W.heap.size W w'

set_option maxHeartbeats 400000 in
theorem indexFuncS_in {A : Option Addr} {c : Nat} {xs : List ByteArray} {w : World} (h : SlS w A c xs) (g : Nat) (lb : Array Value) (p : ByteArray → Bool) (eg : ∀ (args : Array Value) (W : World), (callFunc g args).run Try.prog W = .ok (.enter g args) W) (hp : ∀ s ∈ xs, PredS1 g lb p w s) :
    Calls Try.prog 69 #[.slice A xs.length c, .func (.func g) #[] lb] w fun e w' => ∃ i : Int, e = .returned (.int .i64 i) ∧ Below w.heap.size w w' ∧ -1 ≤ i ∧ decide (0 ≤ i) = xs.any p := by
  obtain ⟨h1, h2, h3⟩ := h
  unfold maxLen at h2
  have HP := Lib.hid hp
  clear hp
  go_enter Try.func69, Try.ntmps69
  go_wp2
  go_loopw [8] (fun i wr => ∃ k : Nat, k ≤ xs.length ∧ i = .int .i64 k ∧ Hid ((xs.take k).any p = false) ∧ Below w.heap.size w wr) (fun i _ => xs.length - (intOf i).toNat)
  case atStart => exact ⟨0, Nat.zero_le _, rfl, by exact rfl, Below.refl _ _⟩
  case round =>
    obtain ⟨k, hk, rfl, hn, hb⟩ := hrel
    by_cases hlt : k < xs.length
    · obtain ⟨ad, rfl, hx⟩ := row_str_at (h3.below hb) hlt
      have hmem := List.getElem_mem hlt
      generalize hye : xs[k] = y at hx hmem
      have HM := Lib.hid hmem
      clear hmem
      have HY := Lib.hid hye
      clear hye
      go_wp2_with fail
      refine (HP.out y HM.out wr hb).mono ?_
      rintro e w1 ⟨rfl, hb1⟩
      cases hpy : p y
      · go_wp2
        go_roundw
        case rel => exact ⟨k + 1, by omega, by go_num, by show _ = false; rw [any_take_succ _ _ _ hlt, hn.out, HY.out, hpy]; rfl, bthen hb hb1⟩
        case measure => simp [intOf]; omega
      · go_wp2
        go_ret
        exact ⟨k, rfl, bthen hb hb1, by omega, by rw [any_of_at hlt (by rw [HY.out]; exact hpy)]; simp⟩
    · go_wp2
      go_ret
      obtain rfl : k = xs.length := by omega
      have h4 : (xs.take xs.length).any p = false := hn.out
      rw [List.take_length] at h4
      exact ⟨-1, rfl, hb, by omega, by rw [h4]; rfl⟩

theorem containsFuncS_in {A : Option Addr} {c : Nat} {xs : List ByteArray} {w : World} (h : SlS w A c xs) (g : Nat) (lb : Array Value) (p : ByteArray → Bool) (eg : ∀ (args : Array Value) (W : World), (callFunc g args).run Try.prog W = .ok (.enter g args) W) (hp : ∀ s ∈ xs, PredS1 g lb p w s) :
    Calls Try.prog 37 #[.slice A xs.length c, .func (.func g) #[] lb] w fun e w' => e = .returned (.bool (xs.any p)) ∧ Below w.heap.size w w' := by
  have H := Lib.hid (indexFuncS_in h g lb p eg hp)
  clear hp
  go_enter Try.func37, Try.ntmps37
  go_wp2_with fail
  refine H.out.mono ?_
  rintro e w' ⟨i, rfl, hb, h1, h2⟩
  have H2 := Lib.hid h2
  clear h2
  go_wp2
  go_ret
  exact ⟨ret_bool H2.out, hb⟩
set_option maxHeartbeats 400000 in
theorem indexFuncC_in {A : Option Addr} {c : Nat} {xs : List Clause} {w : World} (h : SlC w A c xs) (g : Nat) (lb : Array Value) (p : Clause → Bool) (eg : ∀ (args : Array Value) (W : World), (callFunc g args).run Try.prog W = .ok (.enter g args) W) (hp : ∀ x ∈ xs, PredC1 g lb p w x) :
    Calls Try.prog 82 #[.slice A xs.length c, .func (.func g) #[] lb] w fun e w' => ∃ i : Int, e = .returned (.int .i64 i) ∧ Below w.heap.size w w' ∧ -1 ≤ i ∧ decide (0 ≤ i) = xs.any p := by
  obtain ⟨h1, h2, h3⟩ := h
  unfold maxLen at h2
  have HP := Lib.hid hp
  clear hp
  go_enter Try.func82, Try.ntmps82
  go_wp2
  go_loopw [8] (fun i wr => ∃ k : Nat, k ≤ xs.length ∧ i = .int .i64 k ∧ Hid ((xs.take k).any p = false) ∧ Below w.heap.size w wr) (fun i _ => xs.length - (intOf i).toNat)
  case atStart => exact ⟨0, Nat.zero_le _, rfl, by exact rfl, Below.refl _ _⟩
  case round =>
    obtain ⟨k, hk, rfl, hn, hb⟩ := hrel
    by_cases hlt : k < xs.length
    · obtain ⟨ad, S, sa, T, ta, rfl, hx, hy, hS, hT⟩ := row_clause_at (h3.below hb) hlt
      have hmem := List.getElem_mem hlt
      generalize hye : xs[k] = y at hx hy hS hT hmem
      have HM := Lib.hid hmem
      clear hmem
      have HY := Lib.hid hye
      clear hye
      go_wp2_with fail
      refine (HP.out y HM.out S T sa ta wr hb ⟨hS.1, hS.2.1, hS.2.2⟩ hT).mono ?_
      rintro e w1 ⟨rfl, hb1⟩
      cases hpy : p y
      · go_wp2
        go_roundw
        case rel => exact ⟨k + 1, by omega, by go_num, by show _ = false; rw [any_take_succ _ _ _ hlt, hn.out, HY.out, hpy]; rfl, bthen hb hb1⟩
        case measure => simp [intOf]; omega
      · go_wp2
        go_ret
        exact ⟨k, rfl, bthen hb hb1, by omega, by rw [any_of_at hlt (by rw [HY.out]; exact hpy)]; simp⟩
    · go_wp2
      go_ret
      obtain rfl : k = xs.length := by omega
      have h4 : (xs.take xs.length).any p = false := hn.out
      rw [List.take_length] at h4
      exact ⟨-1, rfl, hb, by omega, by rw [h4]; rfl⟩

theorem containsFuncC_in {A : Option Addr} {c : Nat} {xs : List Clause} {w : World} (h : SlC w A c xs) (g : Nat) (lb : Array Value) (p : Clause → Bool) (eg : ∀ (args : Array Value) (W : World), (callFunc g args).run Try.prog W = .ok (.enter g args) W) (hp : ∀ x ∈ xs, PredC1 g lb p w x) :
    Calls Try.prog 68 #[.slice A xs.length c, .func (.func g) #[] lb] w fun e w' => e = .returned (.bool (xs.any p)) ∧ Below w.heap.size w w' := by
  have H := Lib.hid (indexFuncC_in h g lb p eg hp)
  clear hp
  go_enter Try.func68, Try.ntmps68
  go_wp2_with fail
  refine H.out.mono ?_
  rintro e w' ⟨i, rfl, hb, h1, h2⟩
  have H2 := Lib.hid h2
  clear h2
  go_wp2
  go_ret
  exact ⟨ret_bool H2.out, hb⟩

theorem some_in {A : Option Addr} {c : Nat} {xs : List Clause} {w : World} (h : SlC w A c xs) (g : Nat) (lb : Array Value) (p : Clause → Bool) (eg : ∀ (args : Array Value) (W : World), (callFunc g args).run Try.prog W = .ok (.enter g args) W) (hp : ∀ x ∈ xs, PredC1 g lb p w x) :
    Calls Try.prog 34 #[.agg #[.slice A xs.length c], .func (.func g) #[] lb] w fun e w' => e = .returned (.bool (xs.any p)) ∧ Below w.heap.size w w' := by
  have H := Lib.hid (fun (o : Obj) => containsFuncC_in (h.alloc o) g lb p eg (fun x hx S T sa ta W hb => hp x hx S T sa ta W (bthen ((Below.refl _ _).alloc (Nat.le_refl _) o) hb)))
  clear hp
  go_enter Try.func34, Try.ntmps34
  go_wp2_with fail
  refine (H.out _).mono ?_
  rintro r w' ⟨rfl, hb⟩
  go_wp2
  go_ret
  exact ⟨rfl, bthen ((Below.refl _ _).alloc (Nat.le_refl _) _) hb⟩
end Go.Proofs.Ythinieokpgmfoaa
