/- slices.BinarySearch at []int; cmp.Less, isNaN at int (walks). -/
import Derived.Test.YteahpkihkfkpfaaStrs
import Derived.Test.YteahpkihkfkpfaaRef12a
set_option linter.unusedVariables false
set_option linter.unusedSimpArgs false
namespace Go.Proofs.Yteahpkihkfkpfaa
open Go.RowKit

theorem isNaN1_any (x : Int) (w : World) : Calls Try.prog 71 #[.int .i64 x] w fun r w' => r = .returned (.bool false) ∧ w = w' := by
  go_enter Try.func71, Try.ntmps71
  go_wp2
  go_ret
  simp
theorem isNaN2_any (x : Int) (w : World) : Calls Try.prog 82 #[.int .i64 x] w fun r w' => r = .returned (.bool false) ∧ w = w' := by
  go_enter Try.func82, Try.ntmps82
  go_wp2
  go_ret
  simp
theorem less_any (x y : Int) (w : World) : Calls Try.prog 70 #[.int .i64 x, .int .i64 y] w fun r w' => r = .returned (.bool (decide (x < y))) ∧ w = w' := by
  go_enter Try.func70, Try.ntmps70
  go_wp2_with fail
  refine (isNaN2_any x _).mono ?_
  rintro r w' ⟨rfl, rfl⟩
  go_wp2
  go_ret
  exact ⟨rfl, rfl⟩

/-- Where x stands, or would stand, in a rising row. -/
structure Cut (l : List Int) (x : Int) (i j : Nat) : Prop where
  ij : i ≤ j
  jn : j ≤ l.length
  lo : ∀ k y, l[k]? = some y → k < i → y < x
  hi : ∀ k y, l[k]? = some y → j ≤ k → x ≤ y

theorem rise_at {l : List Int} (h : l.Pairwise (· < ·)) {i j : Nat} {y z : Int} (hi : l[i]? = some y) (hj : l[j]? = some z) (hij : i < j) : y < z := by
  obtain ⟨h1, rfl⟩ := List.getElem?_eq_some_iff.1 hi
  obtain ⟨h2, rfl⟩ := List.getElem?_eq_some_iff.1 hj
  exact List.pairwise_iff_getElem.1 h i j h1 h2 hij
theorem cut_lo {l : List Int} (h : l.Pairwise (· < ·)) {m k : Nat} {x y z : Int} (hm : l[m]? = some y) (hyx : y < x) (hk : l[k]? = some z) (hkm : k ≤ m) : z < x := by
  rcases Nat.lt_or_eq_of_le hkm with hlt | rfl
  · have := rise_at h hk hm hlt; omega
  · rw [hm] at hk; injection hk with hk; omega
theorem cut_hi {l : List Int} (h : l.Pairwise (· < ·)) {m k : Nat} {x y z : Int} (hm : l[m]? = some y) (hyx : ¬ y < x) (hk : l[k]? = some z) (hkm : m ≤ k) : x ≤ z := by
  rcases Nat.lt_or_eq_of_le hkm with hlt | rfl
  · have := rise_at h hm hk hlt; omega
  · rw [hm] at hk; injection hk with hk; omega

set_option maxHeartbeats 1000000 in
theorem bsearch_any {A : Option Addr} {c : Nat} {l : List Int} {ok : Nat → Prop} {w : World} (h : Sl (Kn.int .i64) ok w A c l) (hr : l.Pairwise (· < ·)) (hl : l.length ≤ 1000000) (x : Int) :
    Calls Try.prog 47 #[.slice A l.length c, .int .i64 x] w fun r w' => ∃ n : Nat, r = .returned (.tuple #[.int .i64 n, .bool (decide (l[n]? = some x))]) ∧ w = w' ∧ Cut l x n n := by
  have HR := Lib.hid hr
  clear hr
  have h1 := h.1
  have h2 := h.2.1
  unfold maxLen at h2
  go_enter Try.func47, Try.ntmps47
  go_wp2_with fail
  go_loop [7, 8] (fun i j => ∃ a b : Nat, i = .int .i64 a ∧ j = .int .i64 b ∧ Hid (Cut l x a b)) (fun i j => (intOf j - intOf i).toNat)
  case atStart => exact ⟨0, l.length, rfl, rfl, ⟨Nat.zero_le _, Nat.le_refl _, by simp, fun k y hk hn => by have := (List.getElem?_eq_some_iff.1 hk).1; omega⟩⟩
  case round =>
    obtain ⟨a, b, rfl, rfl, hc⟩ := hrel
    have hij := hc.out.ij
    have hjn := hc.out.jn
    by_cases hlt : a < b
    · go_upto_region 5 with fail
      obtain ⟨m, hm⟩ : ∃ m : Nat, m = (a + b) / 2 := ⟨_, rfl⟩
      have em : ((a : Int) + (b : Int)) / 2 = (m : Int) := by omega
      rw [em]
      have hml : m < l.length := by omega
      have ham : a ≤ m := by omega
      have hmb : m < b := by omega
      clear em hm
      obtain ⟨ad, rfl, hx⟩ := row_int_at h.2.2 hml
      have hye : l[m]? = some l[m] := List.getElem?_eq_getElem hml
      generalize l[m] = y at hx hye
      have HY := Lib.hid hye
      clear hye
      go_wp2_with fail
      refine (less_any y x _).mono ?_
      rintro r w' ⟨rfl, rfl⟩
      by_cases hyx : y < x
      · go_wp2
        go_round
        case rel => exact ⟨m + 1, b, by go_num, rfl, ⟨by omega, hjn, fun k z hk hn => cut_lo HR.out HY.out hyx hk (by omega), hc.out.hi⟩⟩
        case measure => simp [intOf]; omega
      · go_wp2
        go_round
        case rel => exact ⟨a, m, rfl, rfl, ⟨by omega, by omega, hc.out.lo, fun k z hk hn => cut_hi HR.out HY.out (by omega) hk hn⟩⟩
        case measure => simp [intOf]; omega
    · obtain rfl : a = b := by omega
      by_cases han : a < l.length
      · obtain ⟨ad, rfl, hx⟩ := row_int_at h.2.2 han
        have hye : l[a]? = some l[a] := List.getElem?_eq_getElem han
        generalize l[a] = y at hx hye
        have HY := Lib.hid hye
        clear hye
        by_cases hyx : y = x
        · subst hyx
          go_wp2
          go_ret2
          exact ⟨a, by rw [HY.out]; simp, rfl, hc.out⟩
        · go_wp2_with fail
          refine (isNaN1_any y _).mono ?_
          rintro r w' ⟨rfl, rfl⟩
          go_wp2
          go_ret2
          exact ⟨a, by rw [HY.out]; simp [hyx], rfl, hc.out⟩
      · go_wp2
        go_ret2
        have hnn : l[a]? = none := by rw [List.getElem?_eq_none_iff]; omega
        exact ⟨a, by rw [hnn]; simp, rfl, hc.out⟩
end Go.Proofs.Yteahpkihkfkpfaa
