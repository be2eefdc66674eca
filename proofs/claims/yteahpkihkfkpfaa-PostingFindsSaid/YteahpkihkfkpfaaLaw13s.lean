/- Both, Either, Ints with slices at hand; 'shown'. -/
import Derived.Test.YteahpkihkfkpfaaProg
import Derived.Test.YteahpkihkfkpfaaRef12a
set_option linter.unusedVariables false
set_option linter.unusedSimpArgs false
namespace Go.Proofs.Yteahpkihkfkpfaa
open Go.RowKit

abbrev SlI (w : World) (A : Option Addr) (c : Nat) (xs : List Int) : Prop := Sl (Kn.int .i64) (fun _ => True) w A c xs
/-- The result is a new row of numbers. -/
def RetInts (xs : List Int) (w : World) (e : Ending) (w' : World) : Prop := ∃ A c, e = .returned (.slice A xs.length c) ∧ Sl (Kn.int .i64) (fun k => w.heap.size ≤ k) w' A c xs ∧ Below w.heap.size w w'
theorem retInts_of {xs : List Int} {w w' : World} {v : Value} (h : Own (Kn.int .i64) 3 w.heap.size (fun _ => False) w' v xs) (hb : Below w.heap.size w w') : RetInts xs w (.returned v) w' := by
  obtain ⟨A, c, rfl, h1⟩ := h.sl
  exact ⟨A, c, rfl, h1.mono (fun k hk => hk.resolve_left id), hb⟩

section
variable {A B : Option Addr} {ca cb : Nat} {a b : List Int} {w : World}
theorem cBoth (ha : SlI w A ca a) (hb : SlI w B cb b) (hl : a.length + b.length ≤ 1000000) : Calls Try.prog 49 #[.slice A a.length ca, .slice B b.length cb] w (RetInts (both a b) w) :=
  (Both_any A B ca cb a b w ha.1 hb.1 ha.2.1 hb.2.1 ha.2.2 hb.2.2 (by omega)).mono (by rintro e w' ⟨v, rfl, h1, h2⟩; exact retInts_of h1 h2)
theorem cEither (ha : SlI w A ca a) (hb : SlI w B cb b) (hl : a.length + b.length ≤ 1000000) : Calls Try.prog 24 #[.slice A a.length ca, .slice B b.length cb] w (RetInts (either a b) w) :=
  (Either_any A B ca cb a b w ha.1 hb.1 ha.2.1 hb.2.1 ha.2.2 hb.2.2 (by omega)).mono (by rintro e w' ⟨v, rfl, h1, h2⟩; exact retInts_of h1 h2)
theorem cInts (ha : SlI w A ca a) (hb : SlI w B cb b) : Calls Try.prog 28 #[.slice A a.length ca, .slice B b.length cb] w fun e w' => e = .returned (.bool (decide (a = b))) ∧ ∃ n, w' = w.drewN n :=
  Ints_any A B ca cb a b w ha.1 hb.1 ha.2.1 hb.2.1 ha.2.2 hb.2.2
theorem cIntsT (ha : SlI w A ca a) (hb : SlI w B cb b) (h : a = b) : Calls Try.prog 28 #[.slice A a.length ca, .slice B b.length cb] w fun e w' => e = .returned (.bool true) ∧ ∃ n, w' = w.drewN n :=
  (cInts ha hb).mono (by rintro e w' ⟨rfl, h2⟩; exact ⟨by simp [h], h2⟩)
end

theorem add_zero' (a : Addr) : a.add 0 = a := rfl
theorem rise135 : both [1, 3, 5] [3, 4, 5] = [3, 5] := by simp [both, mergeW]
theorem rise123 : either [1, 3] [2, 3] = [1, 2, 3] := by simp [either, mergeW]

/-- Two literals, one behind the other. -/
theorem two_lits (w : World) (xs ys : List Int) (h1 : xs.length ≤ maxLen) (h2 : ys.length ≤ maxLen) :
    SlI ((w.alloc (.cells (xs.map (Value.int .i64)).toArray 3)).alloc (.cells (ys.map (Value.int .i64)).toArray 3)) (some ⟨w.heap.size, 0, none⟩) xs.length xs ∧
    SlI ((w.alloc (.cells (xs.map (Value.int .i64)).toArray 3)).alloc (.cells (ys.map (Value.int .i64)).toArray 3)) (some ⟨w.heap.size + 1, 0, none⟩) ys.length ys := by
  refine ⟨((Sl.lit (Value.int .i64) (fun _ => rfl) w 3 xs h1).any).alloc _, ?_⟩
  have := (Sl.lit (Value.int .i64) (fun _ => rfl) (w.alloc (.cells (xs.map (Value.int .i64)).toArray 3)) 3 ys h2).any
  rw [World.size_alloc] at this
  exact this

set_option maxHeartbeats 1000000 in
theorem shown13 (w : World) : Calls Try.prog 19 #[] w fun e w' => e = .returned (.bool true) ∧ Below w.heap.size w w' := by
  have t1 := Lib.hid (fun w : World => two_lits w [1, 3, 5] [3, 4, 5] (by simp [maxLen]) (by simp [maxLen]))
  have t2 := Lib.hid (fun w : World => two_lits w [1, 3] [2, 3] (by simp [maxLen]) (by simp [maxLen]))
  go_enter Try.func19, Try.ntmps19
  go_wp2_with fail
  refine (cBoth (a := [1, 3, 5]) (b := [3, 4, 5]) (t1.out w).1 (t1.out w).2 (by simp)).mono ?_
  rintro e w1 ⟨A1, c1, rfl, h1, hb1⟩
  rw [rise135] at h1 ⊢
  go_wp2_with fail
  refine (cEither (a := [1, 3]) (b := [2, 3]) (t2.out w1).1 (t2.out w1).2 (by simp)).mono ?_
  rintro e w2 ⟨A2, c2, rfl, h2, hb2⟩
  rw [rise123] at h2 ⊢
  have k1 := h1.below (((Below.refl _ w1).alloc (Nat.le_refl _) (.cells #[.int .i64 1, .int .i64 3] 3)).alloc (by simp) (.cells #[.int .i64 2, .int .i64 3] 3))
  have k1 := k1.below hb2
  obtain ⟨a1, rfl, x1⟩ := row_int_at k1.2.2 (j := 0) (by simp)
  obtain ⟨a2, rfl, x2⟩ := row_int_at h2.2.2 (j := 1) (by simp)
  have m1 := h1.1
  have m2 := h2.1
  simp only [List.length_cons, List.length_nil] at m1 m2
  simp only [List.getElem_cons_zero, List.getElem_cons_succ, add_zero'] at x1 x2
  rw [add_pos _ _ (by omega)] at x2
  go_wp2
  go_ret
  exact ⟨rfl, ((((Below.refl _ w).alloc (Nat.le_refl _) _).alloc (by simp) _).trans (hb1.mono (by simp; omega))).trans ((((Below.refl _ _).alloc (by have := hb1.size; simp at this; omega) _).alloc (by have := hb1.size; simp at this ⊢; omega) _).trans (hb2.mono (by have := hb1.size; simp at this ⊢; omega)))⟩
end Go.Proofs.Yteahpkihkfkpfaa
