/- A table in a law: its calls; the document's example (shown). -/
import Derived.Test.YteahpkihkfkpfaaTabNew
import Derived.Test.YteahpkihkfkpfaaTabAdd
import Derived.Test.YteahpkihkfkpfaaTabClone
set_option linter.unusedVariables false
set_option linter.unusedSimpArgs false
namespace Go.Proofs.Yteahpkihkfkpfaa
open Go.RowKit Go.Maps

/-- A table that the law's call has made. -/
structure Ts (w0 w : World) (b N : Nat) (last : Int) (f : ByteArray → List Int) : Prop where
  tb : ∃ m D X, Tb w b m N D last f X ∧ w0.heap.size ≤ m
  lo : w0.heap.size ≤ b
  up : Below w0.heap.size w0 w
section
variable {w0 w w' : World} {b N : Nat} {last : Int} {f : ByteArray → List Int}
theorem Ts.below (h : Ts w0 w b N last f) (hb : Below w.heap.size w w') : Ts w0 w' b N last f := by
  obtain ⟨m, D, X, h1, h2⟩ := h.tb
  exact ⟨⟨m, D, X, h1.below hb, h2⟩, h.lo, bthen h.up (hb.mono (Nat.le_refl _))⟩
theorem Ts.rise (h : Ts w0 w b N last f) (s : ByteArray) : (f s).Pairwise (· < ·) := by obtain ⟨m, D, X, h1, h2⟩ := h.tb; exact h1.rise s
theorem Ts.top (h : Ts w0 w b N last f) (s : ByteArray) : ∀ p ∈ f s, p ≤ last := by obtain ⟨m, D, X, h1, h2⟩ := h.tb; exact h1.top s
theorem Ts.len (h : Ts w0 w b N last f) (s : ByteArray) : (f s).length ≤ N := by obtain ⟨m, D, X, h1, h2⟩ := h.tb; exact h1.len s
theorem cNew (h : Below w0.heap.size w0 w) : Calls Try.prog 15 #[] w fun r w' => ∃ b, r = .returned (.pointer (some ⟨b, 0, none⟩)) ∧ Ts w0 w' b 0 0 (fun _ => []) :=
  (New_any w).mono fun r w' ⟨b, m, D, e, h1, h2, h3, h4⟩ => ⟨b, e, ⟨⟨m, D, _, h1, Nat.le_trans h.size h4⟩, Nat.le_trans h.size h3, bthen h h2⟩⟩
theorem cAdd (h : Ts w0 w b N last f) (hN : N ≤ 900000) {s : ByteArray} (hs : s.size ≤ maxLen) {pos : Int} (hlt : last < pos) :
    Calls Try.prog 17 #[.pointer (some ⟨b, 0, none⟩), .string s, .int .i64 pos] w fun r w' => r = .returned (.tuple #[.int .i64 ((f s).length + 1), .int .i64 0]) ∧ Ts w0 w' b (N + 1) pos (upd f s (f s ++ [pos])) := by
  obtain ⟨m, D, X, h1, h2⟩ := h.tb
  refine (Add_any h1 hN hs pos).mono fun r w' hr => ?_
  obtain ⟨D', e, h3, h4⟩ := hr.2 hlt
  exact ⟨e, ⟨m, D', X, h3, h2⟩, h.lo, h4.below h.up h.up.size (fun k hk => hk.elim (fun e => e ▸ h.lo) (fun e => e ▸ h2))⟩
theorem cAddNo (h : Ts w0 w b N last f) (hN : N ≤ 900000) {s : ByteArray} (hs : s.size ≤ maxLen) {pos : Int} (hle : pos ≤ last) :
    Calls Try.prog 17 #[.pointer (some ⟨b, 0, none⟩), .string s, .int .i64 pos] w fun r w' => r = .returned (.tuple #[.int .i64 0, .int .i64 1]) ∧ w = w' := by
  obtain ⟨m, D, X, h1, h2⟩ := h.tb
  exact (Add_any h1 hN hs pos).mono fun r w' hr => hr.1 hle
theorem cVersion (h : Ts w0 w b N last f) (hN : N ≤ 900000) {s : ByteArray} (hs : s.size ≤ maxLen) (x : Int) :
    Calls Try.prog 16 #[.pointer (some ⟨b, 0, none⟩), .string s, .int .i64 x] w fun r w' => r = .returned (.int .i64 (upTo (f s) x)) ∧ w = w' := by
  obtain ⟨m, D, X, h1, h2⟩ := h.tb
  exact Version_any h1 (by omega) hs x
theorem cPositions (h : Ts w0 w b N last f) (hN : N ≤ 900000) {s : ByteArray} (hs : s.size ≤ maxLen) (x : Int) :
    Calls Try.prog 18 #[.pointer (some ⟨b, 0, none⟩), .string s, .int .i64 x] w fun r w' => ∃ A' c', r = .returned (.slice A' ((f s).take (upTo (f s) x)).length c') ∧ Sl (Kn.int .i64) (fun _ => True) w' A' c' ((f s).take (upTo (f s) x)) ∧ Ts w0 w' b N last f ∧ Below w.heap.size w w' := by
  obtain ⟨m, D, X, h1, h2⟩ := h.tb
  exact (Positions_any h1 hN hs x).mono fun r w' ⟨A', c', e, h3, h4⟩ => ⟨A', c', e, h3.any, h.below h4, h4⟩
end

def sS : ByteArray := ⟨#[115]⟩
def sT : ByteArray := ⟨#[116]⟩
def f1 : ByteArray → List Int := upd (fun _ => []) sS [1]
def f2 : ByteArray → List Int := upd f1 sT [2]
def f3 : ByteArray → List Int := upd f2 sS [1, 5]
theorem f1T : f1 sT = [] := upd_other _ _ (by decide)
theorem f2S : f2 sS = [1] := (upd_other _ _ (by decide)).trans (upd_same _ _ _)
theorem upTo15 : upTo [1, 5] 4 = 1 := by simp [upTo]
theorem f3S : f3 sS = [1, 5] := upd_same _ _ _
set_option maxHeartbeats 1000000 in
theorem shown12 (w : World) : Calls Try.prog 14 #[] w fun r w' => r = .returned (.bool true) ∧ Below w.heap.size w w' := by
  have C0 := Lib.hid (cNew (Below.refl w.heap.size w))
  have C1 : Hid (∀ b w1, Ts w w1 b 0 0 (fun _ => []) → Calls Try.prog 17 #[.pointer (some ⟨b, 0, none⟩), .string ⟨#[115]⟩, .int .i64 1] w1 fun r w' => r = .returned (.tuple #[.int .i64 1, .int .i64 0]) ∧ Ts w w' b 1 1 f1) :=
    Lib.hid (fun b w1 h => (cAdd h (by omega) (s := sS) (by decide) (pos := 1) (by omega)).mono fun r w' ⟨e, h⟩ => ⟨e, h⟩)
  have C2 : Hid (∀ b w1, Ts w w1 b 1 1 f1 → Calls Try.prog 17 #[.pointer (some ⟨b, 0, none⟩), .string ⟨#[116]⟩, .int .i64 2] w1 fun r w' => r = .returned (.tuple #[.int .i64 1, .int .i64 0]) ∧ Ts w w' b 2 2 f2) :=
    Lib.hid (fun b w1 h => (cAdd h (by omega) (s := sT) (by decide) (pos := 2) (by omega)).mono fun r w' ⟨e, h⟩ => ⟨by rw [f1T] at e; exact e, by rw [f1T] at h; exact h⟩)
  have C3 : Hid (∀ b w1, Ts w w1 b 2 2 f2 → Calls Try.prog 17 #[.pointer (some ⟨b, 0, none⟩), .string ⟨#[115]⟩, .int .i64 5] w1 fun r w' => r = .returned (.tuple #[.int .i64 2, .int .i64 0]) ∧ Ts w w' b 3 5 f3) :=
    Lib.hid (fun b w1 h => (cAdd h (by omega) (s := sS) (by decide) (pos := 5) (by omega)).mono fun r w' ⟨e, h⟩ => ⟨by rw [f2S] at e; exact e, by rw [f2S] at h; exact h⟩)
  have C4 : Hid (∀ b w1, Ts w w1 b 3 5 f3 → Calls Try.prog 16 #[.pointer (some ⟨b, 0, none⟩), .string ⟨#[115]⟩, .int .i64 4] w1 fun r w' => r = .returned (.int .i64 1) ∧ w1 = w') :=
    Lib.hid (fun b w1 h => (cVersion h (by omega) (s := sS) (by decide) 4).mono fun r w' ⟨e, h⟩ => ⟨by rw [f3S, upTo15] at e; exact e, h⟩)
  go_enter Try.func14, Try.ntmps14
  go_wp2_with (first | (go_at_call 16; refine (C4.out _ _ H4.out).mono ?_; rintro r w5 ⟨rfl, rfl⟩) | (go_at_call 17; refine (C3.out _ _ H3.out).mono ?_; rintro r w4 ⟨rfl, h4⟩; have H4 := Lib.hid h4; clear h4) | (go_at_call 17; refine (C2.out _ _ H2.out).mono ?_; rintro r w3 ⟨rfl, h3⟩; have H3 := Lib.hid h3; clear h3) | (go_at_call 17; refine (C1.out _ _ H1.out).mono ?_; rintro r w2 ⟨rfl, h2⟩; have H2 := Lib.hid h2; clear h2) | (go_at_call 15; refine C0.out.mono ?_; rintro r w1 ⟨b, rfl, h1⟩; have H1 := Lib.hid h1; clear h1))
  go_ret
  exact ⟨rfl, H4.out.up⟩
end Go.Proofs.Yteahpkihkfkpfaa
