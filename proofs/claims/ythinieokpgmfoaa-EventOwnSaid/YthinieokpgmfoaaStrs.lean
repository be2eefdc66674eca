/- Rows of texts: slices.Index, Contains, IndexFunc, ContainsFunc at []string. -/
import Derived.Test.YthinieokpgmfoaaProg
import Derived.Test.YthinieokpgmfoaaKit
import Derived.WalkKit
import Derived.WalkSpells
import Derived.WalkLawsBesides
import Derived.Deep.QuietTactic
import Derived.BigQuiet
import Derived.Deep.DeepCutAuto
import Derived.Lib.Hide
import Derived.Shelf.Abstract
import Derived.Lib.Strings
set_option linter.unusedVariables false
set_option linter.unusedSimpArgs false
namespace Go.Proofs.Ythinieokpgmfoaa
open Go.RowKit

abbrev SlS (w : World) (A : Option Addr) (c : Nat) (xs : List ByteArray) : Prop := Sl Kn.str (fun _ => True) w A c xs
theorem row_str_at {ok : Nat → Prop} {w : World} {A : Option Addr} {xs : List ByteArray} (h : Row Kn.str ok w A xs) {j : Nat} (hj : j < xs.length) : ∃ ad, A = some ad ∧ w.cell? (ad.add j) = some (.string xs[j]) := by
  obtain ⟨ad, cs, e, _, _, _, hk, hc⟩ := h.at_ hj
  have hk' : cs = [.string xs[j]] := hk
  subst hk'
  exact ⟨ad, e, by simpa [Kn.str, Kn.scalar] using hc 0 _ rfl⟩
theorem any_take_succ {α : Type} (p : α → Bool) (xs : List α) (k : Nat) (h : k < xs.length) : (xs.take (k + 1)).any p = ((xs.take k).any p || p xs[k]) := by
  rw [List.take_succ_eq_append_getElem h, List.any_append]; simp
theorem any_of_at {α : Type} {p : α → Bool} {xs : List α} {k : Nat} (h : k < xs.length) (hp : p xs[k] = true) : xs.any p = true := List.any_eq_true.2 ⟨xs[k], List.getElem_mem h, hp⟩
theorem strEq (s t : ByteArray) : (s.data.toList == t.data.toList) = decide (s = t) := by
  by_cases h : s = t
  · subst h; simp
  · have : ¬ s.data.toList = t.data.toList := fun e => h (ByteArray.ext (Array.ext' e))
    rw [decide_eq_false h, beq_eq_false_iff_ne]; exact this

theorem strEqL (s t : ByteArray) : (s.toList == t.toList) = decide (s = t) := by rw [Lib.toList_data, Lib.toList_data]; exact strEq s t
theorem ret_bool {a b : Bool} (h : a = b) : Ending.returned (.bool a) = .returned (.bool b) := by rw [h]
theorem ret_int {k : IntKind} {a b : Int} (h : a = b) : Ending.returned (.int k a) = .returned (.int k b) := by rw [h]
def hasS (x : ByteArray) (xs : List ByteArray) : Bool := xs.any (fun y => decide (x = y))
theorem hasS_iff (x : ByteArray) (xs : List ByteArray) : hasS x xs = true ↔ x ∈ xs := by
  unfold hasS
  rw [List.any_eq_true]
  exact ⟨fun ⟨y, h1, h2⟩ => by have := of_decide_eq_true h2; subst this; exact h1, fun h => ⟨x, h, by simp⟩⟩

set_option maxHeartbeats 400000 in
theorem indexS_any {A : Option Addr} {c : Nat} {xs : List ByteArray} (x : ByteArray) {w : World} (h : SlS w A c xs) :
    Calls Try.prog 70 #[.slice A xs.length c, .string x] w fun e w' => ∃ i : Int, e = .returned (.int .i64 i) ∧ w = w' ∧ -1 ≤ i ∧ (decide (0 ≤ i) = hasS x xs) := by
  obtain ⟨h1, h2, h3⟩ := h
  unfold maxLen at h2
  go_enter Try.func70, Try.ntmps70
  go_wp2
  go_loop [8] (fun i => ∃ k : Nat, k ≤ xs.length ∧ i = .int .i64 k ∧ Hid ((xs.take k).any (fun y => decide (x = y)) = false)) (fun i => xs.length - (intOf i).toNat)
  case atStart => exact ⟨0, Nat.zero_le _, rfl, by exact rfl⟩
  case round =>
    obtain ⟨k, hk, rfl, hn⟩ := hrel
    by_cases hlt : k < xs.length
    · obtain ⟨ad, rfl, hx⟩ := row_str_at h3 hlt
      generalize hye : xs[k] = y at hx
      have HY := Lib.hid hye
      clear hye
      by_cases hxy : x = y
      · have he : (x.toList == y.toList) = true := by rw [strEqL]; simp [hxy]
        have HXY := Lib.hid hxy
        clear hxy
        go_wp2
        go_ret
        refine ⟨k, rfl, rfl, by omega, ?_⟩
        rw [(hasS_iff x xs).2 (by rw [HXY.out, ← HY.out]; exact List.getElem_mem hlt)]
        simp
      · have he : (x.toList == y.toList) = false := by rw [strEqL]; simp [hxy]
        go_wp2
        go_round
        case rel => exact ⟨k + 1, by omega, by go_num, by show _ = false; rw [any_take_succ _ _ _ hlt, hn.out, HY.out]; simp [hxy]⟩
        case measure => simp [intOf]; omega
    · go_wp2
      go_ret
      obtain rfl : k = xs.length := by omega
      have h4 : (xs.take xs.length).any (fun y => decide (x = y)) = false := hn.out
      rw [List.take_length] at h4
      exact ⟨-1, rfl, rfl, by omega, by rw [show hasS x xs = false from h4]; rfl⟩

theorem containsS_any {A : Option Addr} {c : Nat} {xs : List ByteArray} (x : ByteArray) {w : World} (h : SlS w A c xs) :
    Calls Try.prog 38 #[.slice A xs.length c, .string x] w fun e w' => e = .returned (.bool (hasS x xs)) ∧ w = w' := by
  have H := Lib.hid (indexS_any x h)
  go_enter Try.func38, Try.ntmps38
  go_wp2_with fail
  refine H.out.mono ?_
  rintro e w' ⟨i, rfl, rfl, h1, h2⟩
  have H2 := Lib.hid h2
  clear h2
  go_wp2
  go_ret
  exact ⟨ret_bool H2.out, rfl⟩

/-- A function value on texts: in every world in which what lay there lies unturned it answers p, and turns nothing. -/
def PredS (g : Nat) (lb : Array Value) (p : ByteArray → Bool) (w : World) : Prop := ∀ (s : ByteArray) (W : World), Below w.heap.size w W → Calls Try.prog g (#[.string s] ++ lb) W fun e w' => e = .returned (.bool (p s)) ∧ Below W.heap.size W w'

set_option maxHeartbeats 400000 in
theorem indexFuncS_any {A : Option Addr} {c : Nat} {xs : List ByteArray} {w : World} (h : SlS w A c xs) (g : Nat) (lb : Array Value) (p : ByteArray → Bool) (eg : ∀ (args : Array Value) (W : World), (callFunc g args).run Try.prog W = .ok (.enter g args) W) (hp : PredS g lb p w) :
    Calls Try.prog 69 #[.slice A xs.length c, .func (.func g) #[] lb] w fun e w' => ∃ i : Int, e = .returned (.int .i64 i) ∧ Below w.heap.size w w' ∧ -1 ≤ i ∧ decide (0 ≤ i) = xs.any p := by
  obtain ⟨h1, h2, h3⟩ := h
  unfold maxLen at h2
  have HP := Lib.hid hp
  clear hp
  go_enter Try.func69, Try.ntmps69
  go_wp2
  go_loopw [8] (fun i wr => ∃ k : Nat, k ≤ xs.length ∧ i = .int .i64 k ∧ Hid ((xs.take k).any p = false) ∧ Below w.heap.size w wr) (fun i _ => xs.length - (intOf i).toNat)
  case atStart => exact ⟨0, Nat.zero_le _, rfl, by exact rfl, Below.refl _ _⟩
  case round =>
    obtain ⟨k, hk, rfl, hn, hb⟩ := hrel
    by_cases hlt : k < xs.length
    · obtain ⟨ad, rfl, hx⟩ := row_str_at (h3.below hb) hlt
      generalize hye : xs[k] = y at hx
      have HY := Lib.hid hye
      clear hye
      go_wp2_with fail
      refine (HP.out y wr hb).mono ?_
      rintro e w1 ⟨rfl, hb1⟩
      cases hpy : p y
      · go_wp2
        go_roundw
        case rel => exact ⟨k + 1, by omega, by go_num, by show _ = false; rw [any_take_succ _ _ _ hlt, hn.out, HY.out, hpy]; rfl, bthen hb hb1⟩
        case measure => simp [intOf]; omega
      · go_wp2
        go_ret
        exact ⟨k, rfl, bthen hb hb1, by omega, by rw [any_of_at hlt (by rw [HY.out]; exact hpy)]; simp⟩
    · go_wp2
      go_ret
      obtain rfl : k = xs.length := by omega
      have h4 : (xs.take xs.length).any p = false := hn.out
      rw [List.take_length] at h4
      exact ⟨-1, rfl, hb, by omega, by rw [h4]; rfl⟩

theorem containsFuncS_any {A : Option Addr} {c : Nat} {xs : List ByteArray} {w : World} (h : SlS w A c xs) (g : Nat) (lb : Array Value) (p : ByteArray → Bool) (eg : ∀ (args : Array Value) (W : World), (callFunc g args).run Try.prog W = .ok (.enter g args) W) (hp : PredS g lb p w) :
    Calls Try.prog 37 #[.slice A xs.length c, .func (.func g) #[] lb] w fun e w' => e = .returned (.bool (xs.any p)) ∧ Below w.heap.size w w' := by
  have H := Lib.hid (indexFuncS_any h g lb p eg hp)
  clear hp
  go_enter Try.func37, Try.ntmps37
  go_wp2_with fail
  refine H.out.mono ?_
  rintro e w' ⟨i, rfl, hb, h1, h2⟩
  have H2 := Lib.hid h2
  clear h2
  go_wp2
  go_ret
  exact ⟨ret_bool H2.out, hb⟩
end Go.Proofs.Ythinieokpgmfoaa
