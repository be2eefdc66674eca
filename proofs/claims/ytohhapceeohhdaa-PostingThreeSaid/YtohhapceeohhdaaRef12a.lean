/- Rows of numbers: registrarref12.Ints, registrarref13.in, Both; registrarlaw13.rising: what they come to (walks). -/
import Derived.Test.YtohhapceeohhdaaProg
import Derived.Test.YtohhapceeohhdaaWalk13
set_option linter.unusedVariables false
set_option linter.unusedSimpArgs false
namespace Go.Proofs.Ytohhapceeohhdaa
open Go.RowKit

theorem row_int_at {k : IntKind} {ok : Nat → Prop} {w : World} {A : Option Addr} {xs : List Int} (h : Row (Kn.int k) ok w A xs) {j : Nat} (hj : j < xs.length) : ∃ ad, A = some ad ∧ w.cell? (ad.add j) = some (.int k xs[j]) := by
  obtain ⟨ad, cs, e, _, _, _, hk, hc⟩ := h.at_ hj
  have hk' : cs = [.int k xs[j]] := hk
  subst hk'
  exact ⟨ad, e, by simpa [Kn.int, Kn.scalar] using hc 0 _ rfl⟩

/-- The rows are alike as far as they have been looked at. -/
def AlikeTo (a b : List Int) (k : Nat) : Prop := ∀ j, j < k → a[j]? = b[j]?
theorem alikeTo_all {a b : List Int} (hl : a.length = b.length) (h : AlikeTo a b a.length) : a = b := by
  refine List.ext_getElem? fun j => ?_
  rcases Nat.lt_or_ge j a.length with hj | hj
  · exact h j hj
  · rw [List.getElem?_eq_none hj, List.getElem?_eq_none (by omega)]

set_option maxHeartbeats 400000 in
theorem Ints_any (A B : Option Addr) (ca cb : Nat) (a b : List Int) (w : World) (hca : a.length ≤ ca) (hcb : b.length ≤ cb) (hma : ca ≤ maxLen) (hmb : cb ≤ maxLen)
    (ha : Row (Kn.int .i64) (fun _ => True) w A a) (hb : Row (Kn.int .i64) (fun _ => True) w B b) :
    Calls Try.prog 37 #[.slice A a.length ca, .slice B b.length cb] w fun e w' => e = .returned (.bool (decide (a = b))) ∧ ∃ n, w' = w.drewN n := by
  unfold maxLen at hma hmb
  by_cases hl : a.length = b.length
  · have H0 := Lib.hid hl
    have hl0 : ((a.length : Int) != (b.length : Int)) = false := by rw [hl]; simp
    have hl1 : a.length ≤ b.length := by omega
    have hl2 : b.length ≤ a.length := by omega
    clear hl
    go_enter Try.func37, Try.ntmps37
    go_wp2
    go_loopw [5] (fun i wr => ∃ k n : Nat, k ≤ a.length ∧ i = .int .i64 k ∧ AlikeTo a b k ∧ wr = w.drewN n) (fun i _ => a.length - (intOf i).toNat)
    case atStart => exact ⟨0, 0, Nat.zero_le _, rfl, fun j hj => by omega, rfl⟩
    case round =>
      obtain ⟨k, n, hk, rfl, hal, rfl⟩ := hrel
      by_cases hlt : k < a.length
      · obtain ⟨ad, rfl, hx⟩ := row_int_at ha hlt
        obtain ⟨bd, rfl, hy⟩ := row_int_at hb (j := k) (by omega)
        have hltb : k < b.length := by omega
        generalize hxe : a[k] = x at hx
        generalize hye : b[k] = y at hy
        have HX := Lib.hid hxe
        have HY := Lib.hid hye
        clear hxe hye
        go_wp2
        go_quiet (fail)
        go_wp2
        · have hne : (x != y) = true := by assumption
          go_ret
          refine ⟨?_, _, World.drewN_drewN _ _ _⟩
          have : a ≠ b := fun e => by
            subst e
            rw [HX.out] at HY
            simp [HY.out] at hne
          simp [this]
        · have hne : (x != y) = false := by assumption
          go_roundw
          case rel =>
            refine ⟨k + 1, _, by omega, by go_num, fun j hj => ?_, rfl⟩
            rcases Nat.lt_or_ge j k with h | h
            · exact hal j h
            · obtain rfl : j = k := by omega
              rw [List.getElem?_eq_getElem hlt, List.getElem?_eq_getElem hltb, HX.out, HY.out]
              simp at hne
              rw [hne]
          case measure => simp [intOf]; omega
      · go_wp2
        go_ret
        refine ⟨?_, _, rfl⟩
        obtain rfl : k = a.length := by omega
        simp [alikeTo_all H0.out hal]
  · have hl0 : ((a.length : Int) != (b.length : Int)) = true := by rw [bne_iff_ne]; omega
    go_enter Try.func37, Try.ntmps37
    go_wp2
    go_ret
    refine ⟨?_, 0, rfl⟩
    have : a ≠ b := fun e => hl (by rw [e])
    simp [this]

set_option maxHeartbeats 400000 in
theorem in_any (A : Option Addr) (ca : Nat) (a : List Int) (x : Int) (w : World) (hca : a.length ≤ ca) (hma : ca ≤ maxLen) (ha : Row (Kn.int .i64) (fun _ => True) w A a) :
    Calls Try.prog 110 #[.slice A a.length ca, .int .i64 x] w fun e w' => e = .returned (.bool (decide (x ∈ a))) ∧ w = w' := by
  unfold maxLen at hma
  go_enter Try.func110, Try.ntmps110
  go_wp2
  go_loop [5] (fun i => ∃ k : Nat, k ≤ a.length ∧ i = .int .i64 k ∧ x ∉ a.take k) (fun i => a.length - (intOf i).toNat)
  case atStart => exact ⟨0, Nat.zero_le _, rfl, by simp⟩
  case round =>
    obtain ⟨k, hk, rfl, hn⟩ := hrel
    by_cases hlt : k < a.length
    · obtain ⟨ad, rfl, hx⟩ := row_int_at ha hlt
      generalize hye : a[k] = y at hx
      have HY := Lib.hid hye
      have HN := Lib.hid hn
      clear hye hn
      have hs : a.take (k + 1) = a.take k ++ [y] := by rw [List.take_succ_eq_append_getElem hlt, HY.out]
      have HS := Lib.hid hs
      clear hs
      go_wp2
      · have heq : (y == x) = true := by assumption
        go_ret
        refine ⟨?_, rfl⟩
        simp at heq
        have : x ∈ a := by rw [← heq, ← HY.out]; exact List.getElem_mem hlt
        simp [this]
      · have heq : (y == x) = false := by assumption
        go_round
        case rel =>
          refine ⟨k + 1, by omega, by go_num, ?_⟩
          rw [HS.out]
          simp at heq
          have h1 := HN.out
          simp [h1]
          exact fun e => heq e.symm
        case measure => simp [intOf]; omega
    · go_wp2
      go_ret
      refine ⟨?_, rfl⟩
      obtain rfl : k = a.length := by omega
      rw [List.take_length] at hn
      simp [hn]

set_option maxHeartbeats 400000 in
theorem refBoth_any (A B : Option Addr) (ca cb : Nat) (a b : List Int) (w : World) (hca : a.length ≤ ca) (hcb : b.length ≤ cb) (hma : ca ≤ maxLen) (hmb : cb ≤ maxLen)
    (ha : Row (Kn.int .i64) (fun _ => True) w A a) (hb : Row (Kn.int .i64) (fun _ => True) w B b) (hlen : a.length * 8 ≤ 140737488355328) :
    Calls Try.prog 39 #[.slice A a.length ca, .slice B b.length cb] w fun e w' =>
      ∃ v, e = .returned v ∧ Own (Kn.int .i64) 3 w.heap.size (fun _ => False) w' v (a.filter (fun x => decide (x ∈ b))) ∧ Below w.heap.size w w' := by
  unfold maxLen at hma
  go_enter Try.func39, Try.ntmps39
  go_wp2
  go_loopw [5, 6] (fun v i wr => ∃ k : Nat, k ≤ a.length ∧ i = .int .i64 k ∧ Own (Kn.int .i64) 3 w.heap.size (fun _ => False) wr v ((a.take k).filter (fun x => decide (x ∈ b))) ∧ Below w.heap.size w wr) (fun _ i _ => a.length - (intOf i).toNat)
  case atStart => exact ⟨0, Nat.zero_le _, rfl, by simpa using Own.lit0 _ _ _ _ _ (Nat.le_refl _), (Below.refl _ _).alloc (Nat.le_refl _) _⟩
  case round =>
    obtain ⟨k, hk, rfl, hown, hbel⟩ := hrel
    by_cases hlt : k < a.length
    · obtain ⟨ad, rfl, hx⟩ := row_int_at (ha.below hbel) hlt
      generalize hye : a[k] = y at hx
      have HY := Lib.hid hye
      clear hye
      have HS := Lib.hid (show a.take (k + 1) = a.take k ++ [y] by rw [List.take_succ_eq_append_getElem hlt, HY.out])
      have hb' := hb.below hbel
      have hlf : ((a.take k).filter (fun x => decide (x ∈ b))).length ≤ k := Nat.le_trans (List.length_filter_le _ _) (by simp; omega)
      generalize hdone : (a.take k).filter (fun x => decide (x ∈ b)) = done at hown hlf
      have HD := Lib.hid hdone
      clear hdone
      go_wp2_with fail
      refine (in_any B cb b y wr hcb hmb hb').mono ?_
      rintro e w' ⟨rfl, rfl⟩
      by_cases hin : y ∈ b
      · rw [decide_eq_true hin]
        go_wp2_with (at_builtin; refine wpList_push rfl _ _ _ rfl 3 _ 1 8 Try.underlying22 infoInt rfl (by decide) (by decide) rfl w.heap.size (fun _ => False) _ done rfl hown y _ rfl rfl hbel.size (by omega) ?_; intro v1 w1 hown1 hg1 hat1 hbel1)
        go_roundw
        case rel => exact ⟨k + 1, by omega, by go_num, by rw [HS.out, List.filter_append, HD.out]; simpa [hin] using hown1, hbel1 _ hbel⟩
        case measure => simp [intOf]; omega
      · rw [decide_eq_false hin]
        go_wp2
        go_roundw
        case rel => exact ⟨k + 1, by omega, by go_num, by rw [HS.out, List.filter_append, HD.out]; simpa [hin] using hown, hbel⟩
        case measure => simp [intOf]; omega
    · go_wp2
      go_ret
      refine ⟨_, rfl, ?_, hbel⟩
      obtain rfl : k = a.length := by omega
      rw [List.take_length] at hown
      exact hown
end Go.Proofs.Ytohhapceeohhdaa
