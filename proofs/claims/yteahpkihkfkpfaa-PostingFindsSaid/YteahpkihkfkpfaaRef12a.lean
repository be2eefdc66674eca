/- Rows of numbers: registrarref12.Ints, registrarref13.in, Both; registrarlaw13.rising: what they come to (walks). -/
import Derived.Test.YteahpkihkfkpfaaProg
import Derived.Test.YteahpkihkfkpfaaWalk13
set_option linter.unusedVariables false
set_option linter.unusedSimpArgs false
namespace Go.Proofs.Yteahpkihkfkpfaa
open Go.RowKit

theorem row_int_at {k : IntKind} {ok : Nat → Prop} {w : World} {A : Option Addr} {xs : List Int} (h : Row (Kn.int k) ok w A xs) {j : Nat} (hj : j < xs.length) : ∃ ad, A = some ad ∧ w.cell? (ad.add j) = some (.int k xs[j]) := by
  obtain ⟨ad, cs, e, _, _, _, hk, hc⟩ := h.at_ hj
  have hk' : cs = [.int k xs[j]] := hk
  subst hk'
  exact ⟨ad, e, by simpa [Kn.int, Kn.scalar] using hc 0 _ rfl⟩

/-- The rows are alike as far as they have been looked at. -/
def AlikeTo (a b : List Int) (k : Nat) : Prop := ∀ j, j < k → a[j]? = b[j]?
theorem alikeTo_all {a b : List Int} (hl : a.length = b.length) (h : AlikeTo a b a.length) : a = b := by
  refine List.ext_getElem? fun j => ?_
  rcases Nat.lt_or_ge j a.length with hj | hj
  · exact h j hj
  · rw [List.getElem?_eq_none hj, List.getElem?_eq_none (by omega)]

set_option maxHeartbeats 400000 in
theorem Ints_any (A B : Option Addr) (ca cb : Nat) (a b : List Int) (w : World) (hca : a.length ≤ ca) (hcb : b.length ≤ cb) (hma : ca ≤ maxLen) (hmb : cb ≤ maxLen)
    (ha : Row (Kn.int .i64) (fun _ => True) w A a) (hb : Row (Kn.int .i64) (fun _ => True) w B b) :
    Calls Try.prog 28 #[.slice A a.length ca, .slice B b.length cb] w fun e w' => e = .returned (.bool (decide (a = b))) ∧ ∃ n, w' = w.drewN n := by
  unfold maxLen at hma hmb
  by_cases hl : a.length = b.length
  · have H0 := Lib.hid hl
    have hl0 : ((a.length : Int) != (b.length : Int)) = false := by rw [hl]; simp
    have hl1 : a.length ≤ b.length := by omega
    have hl2 : b.length ≤ a.length := by omega
    clear hl
    go_enter Try.func28, Try.ntmps28
    go_wp2
    go_loopw [5] (fun i wr => ∃ k n : Nat, k ≤ a.length ∧ i = .int .i64 k ∧ AlikeTo a b k ∧ wr = w.drewN n) (fun i _ => a.length - (intOf i).toNat)
    case atStart => exact ⟨0, 0, Nat.zero_le _, rfl, fun j hj => by omega, rfl⟩
    case round =>
      obtain ⟨k, n, hk, rfl, hal, rfl⟩ := hrel
      by_cases hlt : k < a.length
      · obtain ⟨ad, rfl, hx⟩ := row_int_at ha hlt
        obtain ⟨bd, rfl, hy⟩ := row_int_at hb (j := k) (by omega)
        have hltb : k < b.length := by omega
        generalize hxe : a[k] = x at hx
        generalize hye : b[k] = y at hy
        have HX := Lib.hid hxe
        have HY := Lib.hid hye
        clear hxe hye
        go_wp2
        go_quiet (fail)
        go_wp2
        · have hne : (x != y) = true := by assumption
          go_ret
          refine ⟨?_, _, World.drewN_drewN _ _ _⟩
          have : a ≠ b := fun e => by
            subst e
            rw [HX.out] at HY
            simp [HY.out] at hne
          simp [this]
        · have hne : (x != y) = false := by assumption
          go_roundw
          case rel =>
            refine ⟨k + 1, _, by omega, by go_num, fun j hj => ?_, rfl⟩
            rcases Nat.lt_or_ge j k with h | h
            · exact hal j h
            · obtain rfl : j = k := by omega
              rw [List.getElem?_eq_getElem hlt, List.getElem?_eq_getElem hltb, HX.out, HY.out]
              simp at hne
              rw [hne]
          case measure => simp [intOf]; omega
      · go_wp2
        go_ret
        refine ⟨?_, _, rfl⟩
        obtain rfl : k = a.length := by omega
        simp [alikeTo_all H0.out hal]
  · have hl0 : ((a.length : Int) != (b.length : Int)) = true := by rw [bne_iff_ne]; omega
    go_enter Try.func28, Try.ntmps28
    go_wp2
    go_ret
    refine ⟨?_, 0, rfl⟩
    have : a ≠ b := fun e => hl (by rw [e])
    simp [this]
end Go.Proofs.Yteahpkihkfkpfaa
