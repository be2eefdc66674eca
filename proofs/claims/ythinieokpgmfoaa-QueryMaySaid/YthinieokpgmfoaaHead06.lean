/- registrarlaw06.shown; what the laws of queries share. -/
import Derived.Test.YthinieokpgmfoaaFew06
import Derived.Test.YthinieokpgmfoaaSpread
import Derived.Deep.RegionHeld3
set_option linter.unusedVariables false
set_option linter.unusedSimpArgs false
namespace Go.Proofs.Ythinieokpgmfoaa
open Go.RowKit

def evST : Event := ⟨⟨#[115]⟩, ⟨#[116]⟩, [], []⟩
theorem mTrue (l : List Clause) (e : Event) : matchM (l ++ [⟨[], []⟩]) e = true := by simp [matchM, clauseM]

set_option maxHeartbeats 1000000 in
theorem shown06 (w : World) : Calls Try.prog 12 #[] w fun r w' => r = .returned (.bool true) ∧ Below w.heap.size w w' := by
  have m0 : Hid (matchM [] evST = false) := by show _ = _; rfl
  have m1 : Hid (matchM [⟨[], []⟩] evST = true) := by show _ = _; exact mTrue [] _
  have ha := fun (o : Obj) => (Below.refl w.heap.size w).alloc (Nat.le_refl _) o
  go_enter Try.func12, Try.ntmps12
  go_wp2_with fail
  refine (Match_any (q := []) (Q := none) (cq := 0) (e := evST) (A := none) (ca := 0) (B := none) (cb := 0) Sl.nil_ Sl.nil_).mono ?_
  rintro r w1 ⟨rfl, hb⟩
  rw [m0.out]
  have hb1 := bthen (ha _) hb
  have hc : Bx w1 w.heap.size 28 [.string evST.stream, .string evST.type, .slice none 0 0, .slice none 0 0] := (Bx.new w _ _).below hb (by simp)
  have l1 := hc.lt
  have c0 := hc.cell 0
  have c1 := hc.cell 1
  have c2 := hc.cell 2
  have c3 := hc.cell 3
  have H := Lib.hid (Sl.one (d := kClause) (y := ⟨[], []⟩) (cs := [.slice none 0 0, .slice none 0 0]) (w := w1) (ok := fun _ => False) 33 (kClause_mk Sl.nil_ Sl.nil_) w1.heap.size rfl).any
  go_wp2_with fail
  refine (Match_any (q := [⟨[], []⟩]) (e := evST) (A := none) (ca := 0) (B := none) (cb := 0) H.out Sl.nil_).mono ?_
  rintro r w2 ⟨rfl, hb2⟩
  rw [m1.out]
  go_wp2
  go_ret
  exact ⟨rfl, bthen (bthen hb1 ((Below.refl _ _).alloc (Nat.le_refl _) _)) hb2⟩

theorem toL1 {c : Array Value} {v : Value} (h : c.toList = [v]) : c = #[v] := by cases c; simpa using h
theorem toL2 {c : Array Value} {v u : Value} (h : c.toList = [v, u]) : c = #[v, u] := by cases c; simpa using h
theorem toL4 {c : Array Value} {v u x y : Value} (h : c.toList = [v, u, x, y]) : c = #[v, u, x, y] := by cases c; simpa using h
theorem query_in {w : World} {q : List Clause} {c0 : Array Value} (hq : kQuery.K (fun _ => True) w q c0.toList) : ∃ Q cq, c0 = #[.slice Q q.length cq] ∧ Sl kClause (fun k => True ∧ k < w.heap.size) w Q cq q := by
  obtain ⟨Q, cq, h0, h1, h2, h3⟩ := hq
  have : Sl kClause (fun _ => True) w Q cq q := ⟨h1, h2, h3⟩
  exact ⟨Q, cq, toL1 h0, this.bound⟩
theorem event_in {w : World} {e : Event} {c1 : Array Value} (he : kEvent.K (fun _ => True) w e c1.toList) : ∃ A ca B cb, c1 = #[.string e.stream, .string e.type, .slice A e.tags.length ca, .slice B e.fields.length cb] ∧ Sl Kn.str (fun k => True ∧ k < w.heap.size) w A ca e.tags := by
  obtain ⟨A, ca, B, cb, h0, h1, _⟩ := kEvent_out he
  exact ⟨A, ca, B, cb, toL4 h0, h1.bound⟩

/-- Behind the head of a law of queries: q and e in their boxes, the first two blocks of the call. -/
structure H06 (w : World) (q : List Clause) (e : Event) (B : Option Addr) (cb : Nat) (W : World) (A : Option Addr) (c : Nat) (T : Option Addr) (ct : Nat) : Prop where
  bq : Bx W w.heap.size 24 [.slice A q.length c]
  be : Bx W (w.heap.size + 1) 28 [.string e.stream, .string e.type, .slice T e.tags.length ct, .slice B e.fields.length cb]
  sq : Sl kClause (fun k => k < w.heap.size ∨ w.heap.size + 2 ≤ k) W A c q
  st : Sl Kn.str (fun k => k < w.heap.size) W T ct e.tags
  bel : Below w.heap.size w W
theorem H06.under {w : World} {q : List Clause} {e : Event} {B : Option Addr} {cb : Nat} {W W' : World} {A : Option Addr} {c : Nat} {T : Option Addr} {ct : Nat} (h : H06 w q e B cb W A c T ct) (hb : Below W.heap.size W W') : H06 w q e B cb W' A c T ct :=
  ⟨h.bq.under hb, h.be.under hb, h.sq.below hb, h.st.below hb, bthen h.bel hb⟩
/-- The boxes made; shown and few called; few's result stored. -/
theorem H06.few {w w1 w2 : World} {q : List Clause} {e : Event} {Q A T B : Option Addr} {cq c ct cb : Nat} (hT : Sl Kn.str (fun k => True ∧ k < w.heap.size) w T ct e.tags)
    (hb1 : Below (w.heap.size + 1 + 1) ((w.alloc (.cells #[.slice Q q.length cq] 24)).alloc (.cells #[.string e.stream, .string e.type, .slice T e.tags.length ct, .slice B e.fields.length cb] 28)) w1)
    (hs : Sl kClause (fun k => (True ∧ k < w.heap.size) ∨ w1.heap.size ≤ k) w2 A c (fewM q)) (hb2 : Below w1.heap.size w1 w2) :
    H06 w (fewM q) e B cb (w2.setCell ⟨w.heap.size, 0, none⟩ (.slice A (fewM q).length c)) A c T ct := by
  have hsz := hb1.size
  simp at hsz
  have hbx : Bx w1 w.heap.size 24 [.slice Q q.length cq] := ((Bx.new w 24 [.slice Q q.length cq]).alloc _).below hb1 (by omega)
  have hbe : Bx w1 (w.heap.size + 1) 28 [.string e.stream, .string e.type, .slice T e.tags.length ct, .slice B e.fields.length cb] := by
    have := Bx.new (w.alloc (.cells #[.slice Q q.length cq] 24)) 28 [.string e.stream, .string e.type, .slice T e.tags.length ct, .slice B e.fields.length cb]
    rw [show (w.alloc (.cells #[.slice Q q.length cq] 24)).heap.size = w.heap.size + 1 by simp] at this
    exact this.below hb1 (by omega)
  have hT2 : Sl Kn.str (fun k => True ∧ k < w.heap.size) w2 T ct e.tags := (((hT.alloc _).alloc _).stay (by simpa using hb1.size) (fun k hk hl => hb1.block k (by omega))).below hb2
  refine ⟨(hbx.under hb2).set 0 _, (hbe.under hb2).far (by simp) _, (hs.setCell (fun k hk => by simp; omega) _).mono (fun k hk => by omega), (hT2.setCell (fun k hk => by simp; omega) _).mono (fun k hk => hk.2), ?_⟩
  refine Below.setCell ?_ (by simp) _
  refine Below.trans ?_ (hb2.mono (by omega))
  exact (((Below.refl w.heap.size w).alloc (Nat.le_refl _) _).alloc (by simp) _).trans (hb1.mono (by omega))
/-- The tags cut. -/
def cutE (e : Event) : Event := { e with tags := e.tags.take 20 }
theorem H06.cut {w W : World} {q : List Clause} {e : Event} {B A T : Option Addr} {cb c ct : Nat} (h : H06 w q e B cb W A c T ct) (h20 : 20 < e.tags.length) :
    H06 w q (cutE e) B cb (W.setCell ⟨w.heap.size + 1, 2, none⟩ (.slice T 20 ct)) A c T ct := by
  have hl : (e.tags.take 20).length = 20 := by simp; omega
  refine ⟨h.bq.far (by simp) _, ?_, h.sq.setCell (fun k hk => by simp; omega) _, (h.st.take 20).setCell (fun k hk => by simp; omega) _, h.bel.setCell (by simp) _⟩
  have := h.be.set 2 (.slice T 20 ct)
  simp only [cutE, hl]
  exact this
theorem H06.keep {w W : World} {q : List Clause} {e : Event} {B A T : Option Addr} {cb c ct : Nat} (h : H06 w q e B cb W A c T ct) (h20 : ¬ 20 < e.tags.length) : H06 w q (cutE e) B cb W A c T ct := by
  have : cutE e = e := by unfold cutE; rw [List.take_of_length_le (by omega)]
  rw [this]; exact h
end Go.Proofs.Ythinieokpgmfoaa
