/- What the laws of events share: their heads. -/
import Derived.Test.YthinieokpgmfoaaShown04
import Derived.Test.YthinieokpgmfoaaRef04a
import Derived.Test.YthinieokpgmfoaaTypes
set_option linter.unusedVariables false
set_option linter.unusedSimpArgs false
namespace Go.Proofs.Ythinieokpgmfoaa
open Go.RowKit

theorem toL4' {c : Array Value} {v u x y : Value} (h : c.toList = [v, u, x, y]) : c = #[v, u, x, y] := by cases c; simpa using h
theorem event_in4 {w : World} {e : Event} {c1 : Array Value} (he : kEvent.K (fun _ => True) w e c1.toList) : ∃ A ca B cb, c1 = #[.string e.stream, .string e.type, .slice A e.tags.length ca, .slice B e.fields.length cb] ∧
    Sl Kn.str (fun k => k < w.heap.size) w A ca e.tags ∧ Sl kField (fun k => k < w.heap.size) w B cb e.fields := by
  obtain ⟨A, ca, B, cb, h0, h1, h2⟩ := kEvent_out he
  exact ⟨A, ca, B, cb, toL4' h0, h1.bound.mono (fun _ h => h.2), h2.bound.mono (fun _ h => h.2)⟩
/-- An event in a box of the call's own (block b), its rows handed in. -/
structure A04 (w : World) (b : Nat) (e : Event) (T F : Option Addr) (ct cf : Nat) (X : World) : Prop where
  bx : Bx X b 28 [.string e.stream, .string e.type, .slice T e.tags.length ct, .slice F e.fields.length cf]
  ts : Sl Kn.str (fun k => k < w.heap.size) X T ct e.tags
  fs : Sl kField (fun k => k < w.heap.size) X F cf e.fields
  bb : w.heap.size ≤ b
section
variable {w : World} {b : Nat} {e : Event} {T F : Option Addr} {ct cf : Nat} {X X' : World}
theorem A04.below (h : A04 w b e T F ct cf X) (hb : Below X.heap.size X X') : A04 w b e T F ct cf X' := ⟨h.bx.under hb, h.ts.below hb, h.fs.below hb, h.bb⟩
theorem A04.far (h : A04 w b e T F ct cf X) {p : Addr} (hp : b ≠ p.block) (hw : w.heap.size ≤ p.block) (u : Value) : A04 w b e T F ct cf (X.setCell p u) :=
  ⟨h.bx.far hp u, h.ts.setCell (fun k hk => by omega) u, h.fs.setCell (fun k hk => by omega) u, h.bb⟩
theorem A04.c0 (h : A04 w b e T F ct cf X) : X.cell? ⟨b, 0, none⟩ = some (.string e.stream) := h.bx.cell 0
theorem A04.c1 (h : A04 w b e T F ct cf X) : X.cell? ⟨b, 1, none⟩ = some (.string e.type) := h.bx.cell 1
theorem A04.c2 (h : A04 w b e T F ct cf X) : X.cell? ⟨b, 2, none⟩ = some (.slice T e.tags.length ct) := h.bx.cell 2
theorem A04.c3 (h : A04 w b e T F ct cf X) : X.cell? ⟨b, 3, none⟩ = some (.slice F e.fields.length cf) := h.bx.cell 3
/-- What few brings is stored. -/
theorem A04.few (h : A04 w b e T F ct cf X) : A04 w b (few12 e) T F ct cf ((((X.setCell ⟨b, 0, none⟩ (.string (few12 e).stream)).setCell ⟨b, 1, none⟩ (.string (few12 e).type)).setCell ⟨b, 2, none⟩ (.slice T (few12 e).tags.length ct)).setCell ⟨b, 3, none⟩ (.slice F (few12 e).fields.length cf)) := by
  have hb := h.bb
  refine ⟨?_, ?_, ?_, h.bb⟩
  · exact (((h.bx.set 0 _).set 1 _).set 2 _).set 3 _
  · exact ((((h.ts.take 12).setCell (fun k hk => by simp; omega) _).setCell (fun k hk => by simp; omega) _).setCell (fun k hk => by simp; omega) _).setCell (fun k hk => by simp; omega) _
  · exact ((((h.fs.take 12).setCell (fun k hk => by simp; omega) _).setCell (fun k hk => by simp; omega) _).setCell (fun k hk => by simp; omega) _).setCell (fun k hk => by simp; omega) _
/-- Four cells of another box of the call's own are written. -/
theorem A04.far4 (h : A04 w b e T F ct cf X) {g : Nat} (hg : b ≠ g) (hw : w.heap.size ≤ g) (u0 u1 u2 u3 : Value) : A04 w b e T F ct cf ((((X.setCell ⟨g, 0, none⟩ u0).setCell ⟨g, 1, none⟩ u1).setCell ⟨g, 2, none⟩ u2).setCell ⟨g, 3, none⟩ u3) :=
  (((h.far (by exact hg) (by exact hw) u0).far (by exact hg) (by exact hw) u1).far (by exact hg) (by exact hw) u2).far (by exact hg) (by exact hw) u3
end
theorem below4 {w X : World} (h : Below w.heap.size w X) {g : Nat} (hw : w.heap.size ≤ g) (u0 u1 u2 u3 : Value) : Below w.heap.size w ((((X.setCell ⟨g, 0, none⟩ u0).setCell ⟨g, 1, none⟩ u1).setCell ⟨g, 2, none⟩ u2).setCell ⟨g, 3, none⟩ u3) :=
  (((h.setCell (by exact hw) u0).setCell (by exact hw) u1).setCell (by exact hw) u2).setCell (by exact hw) u3
theorem few12_tags (e : Event) : (few12 e).tags.length ≤ 12 := by simp [few12]; omega
theorem few12_fields (e : Event) : (few12 e).fields.length ≤ 12 := by simp [few12]; omega
theorem good_few12 (e : Event) (h : goodEvent e) : goodEvent (few12 e) := ⟨h.1, h.2.1, fun x hx => h.2.2.1 x (List.mem_of_mem_take hx), fun x hx => h.2.2.2 x (List.mem_of_mem_take hx)⟩
end Go.Proofs.Ythinieokpgmfoaa
