/- (*streams.Table).Add. -/
import Derived.Test.YteahpkihkfkpfaaTabAdded
import Derived.Test.YteahpkihkfkpfaaStep
import Derived.Test.YteahpkihkfkpfaaStrs
import Derived.Test.YteahpkihkfkpfaaWalk13
import Derived.Deep.RegionLaw
import Derived.WideKeyEntry
set_option linter.unusedVariables false
set_option linter.unusedSimpArgs false
namespace Go.Proofs.Yteahpkihkfkpfaa
open Go.RowKit Go.Maps Go.WideMaps Go.ChangeMaps

section
variable {P : Program} {ops : Array Oper} {o : Oper} {a : Act} {Q : Exit → Act → World → Prop}
/-- 'append(l[:len(l):len(l)], x)' at a step of a region that draws. -/
theorem step_full {W : World} {K : Act → World → Prop} {E : Prop} (hgd : o.guard = none) (s x : Operand) (t : TypeId)
    (ho : o.op = .call { callee := .builtin .append, args := #[s, x], argTypes := #[t, t] })
    (e : TypeId) (ht : P.underlying t = some (.slice e)) (hinfo : (P.info? e).map (fun i => (i.zero, i.size, i.bytes)) = some (some (.int .i64 0), 1, 8))
    {ok : Nat → Prop} {A : Option Addr} {c : Nat} {l : List Int} (h : Sl (Kn.int .i64) ok W A c l) (h0 : l = [] → A = none) (y : Int) (B c2 : Nat) (hs : a.eval s = .slice A l.length l.length) (hx : a.eval x = .slice (some ⟨B, 0, none⟩) 1 c2)
    (hc : W.cell? ⟨B, 0, none⟩ = some (.int .i64 y)) (hl : l.length ≤ 1000000)
    (hK : ∀ A' c' w1, Sl (Kn.int .i64) (fun k => W.heap.size ≤ k) w1 A' c' (l ++ [y]) → Below W.heap.size W w1 → K (a.put o.dst (.slice A' (l.length + 1) c')) w1) :
    if Region.wanted o (yielded ops a.tmps) = true then Oper.wp P o a W K Q else E := by
  have hw : Region.wanted o (yielded ops a.tmps) = true := by simp [Region.wanted, hgd]
  rw [if_pos hw]
  obtain ⟨A', c', w1, hr, h1, h2⟩ := run_append_full (P := P) t o.type e ht hinfo h h0 y (c2 := c2) hc hl
  rw [show (l ++ [y]).length = l.length + 1 by simp] at hr
  unfold Oper.wp execOp
  simp only [ho, resolve, invoke, builtin, Sem.run_bind, Sem.run_pure, Result.andThen_ok, List.map_toArray, List.map_cons, List.map_nil, hs, hx]
  rw [hr]
  simp only [Result.andThen_ok]
  exact hK A' c' w1 h1 h2
end

theorem But.grown {S : Nat → Prop} {w w' : World} {row : Option Nat} (h : w.grownBy w' row) (hS : ∀ k, row = some k → S k) : But S w w' :=
  ⟨h.os, h.tape, h.output, h.size, fun k hk hn => h.block k hk (fun e => hn (hS k e.symm))⟩
theorem But.setCell {S : Nat → Prop} (w : World) {p : Addr} (hp : S p.block) (u : Value) : But S w (w.setCell p u) :=
  ⟨rfl, rfl, rfl, by simp [World.setCell], fun k _ hn => heap_setCell_other w p k u (fun e => hn (e ▸ hp))⟩
theorem Tb.finish {w w1 w3 : World} {b m N : Nat} {D : DataW Value} {last : Int} {f : ByteArray → List Int} {X : Nat → Prop} (h : Tb w b m N D last f X) {s : ByteArray} {pos : Int} (hlt : last < pos) {A' : Option Addr} {c' H : Nat} (hb : Below w.heap.size w w1)
    (hsl : Sl (Kn.int .i64) (fun k => H ≤ k) w1 A' c' (f s ++ [pos])) (hH : w.heap.size ≤ H) (hom : w3.ownsMap Try.prog 9 RV m (N + 1) (D.put (keyS s) (.held (.slice A' ((f s).length + 1) c')))) (hg : w1.grownBy w3 (some m))
    (hx : Bx w3 b 79 [.int .i64 last, .map (some m)]) :
    ∃ D', Tb (w3.setCell ⟨b, 0, none⟩ (.int .i64 pos)) b m (N + 1) D' pos (upd f s (f s ++ [pos])) X ∧ But (fun k => k = b ∨ k = m) w (w3.setCell ⟨b, 0, none⟩ (.int .i64 pos)) := by
  have hbut : But (fun k => k = b ∨ k = m) w (w3.setCell ⟨b, 0, none⟩ (.int .i64 pos)) :=
    ((But.of_below hb).trans (But.grown hg (fun k e => .inr (Option.some.inj e).symm))).trans (But.setCell _ (.inl rfl) _)
  rw [show (f s).length + 1 = (f s ++ [pos]).length by simp] at hom
  refine ⟨_, h.added hlt (hx.set 0 _) (hom.setCell (fun e => h.ne e.symm) _) ?_ hbut, hbut⟩
  have hbl := h.bx.lt
  have hml := h.mp.om.lt
  exact ((hsl.grown hg (fun k hk e => by have := Option.some.inj e; omega)).setCell (fun k hk e => by simp at e; omega) _).mono (fun k hk => by omega)

set_option maxHeartbeats 1000000 in
theorem Add_any {w : World} {b m N : Nat} {D : DataW Value} {last : Int} {f : ByteArray → List Int} {X : Nat → Prop} (h : Tb w b m N D last f X) (hN : N ≤ 900000) {s : ByteArray} (hs : s.size ≤ maxLen) (pos : Int) :
    Calls Try.prog 17 #[.pointer (some ⟨b, 0, none⟩), .string s, .int .i64 pos] w fun r w' =>
      (pos ≤ last → r = .returned (.tuple #[.int .i64 0, .int .i64 1]) ∧ w = w') ∧
      (last < pos → ∃ D', r = .returned (.tuple #[.int .i64 ((f s).length + 1), .int .i64 0]) ∧ Tb w' b m (N + 1) D' pos (upd f s (f s ++ [pos])) X ∧ But (fun k => k = b ∨ k = m) w w') := by
  obtain ⟨A, c, _, hl, hsl, hnil⟩ := h.mp.look Try.underlying77 hs
  have hb0 := h.bx.cell 0
  have hb1 := h.bx.cell 1
  simp only [List.getElem?_cons_succ, List.getElem?_cons_zero] at hb0 hb1
  have hf0 := h.bx.free 0
  have hlen := h.len s
  have hc1 := hsl.1
  have hc2 := hsl.2.1
  unfold maxLen at hc2
  go_enter Try.func17, Try.ntmps17
  by_cases hp : pos ≤ last
  · go_wp2_with fail
    go_ret2
    exact ⟨fun _ => ⟨rfl, rfl⟩, fun h => absurd h (by omega)⟩
  · go_wp2_with fail
    have hbl := h.bx.lt
    have hW : Below w.heap.size w (w.alloc (.cells #[.int .i64 pos] 3)).drew := below_drawn ((Below.refl _ _).alloc (Nat.le_refl _) _)
    have HC := Lib.hid (show World.cell? (w.alloc (.cells #[.int .i64 pos] 3)).drew ⟨w.heap.size, 0, none⟩ = some (.int .i64 pos) from (Bx.new w 3 [.int .i64 pos]).c0)
    have HSL := Lib.hid (hsl.below hW)
    go_region_law (refine step_full (W := (w.alloc (.cells #[.int .i64 pos] 3)).drew) rfl _ _ _ rfl 3 Try.underlying30 infoInt HSL.out hnil pos w.heap.size 1 rfl rfl HC.out (by omega) ?_; intro A' c' w1 hs1 hb1; have HB := Lib.hid (show Below w.heap.size w w1 from bthen hW hb1); have HS := Lib.hid hs1; clear hs1 hb1; obtain ⟨v0, st, w2, w3, hm1, hm2, _, hm3, hm4⟩ := Mp.steps (h.mp.stay (But.of_below (S := fun _ => False) HB.out) (fun _ _ _ h => h)) (by omega) Try.underlying77 hs (.slice A' ((f s).length + 1) c'); have HM := Lib.hid hm3; have HG := Lib.hid hm4; clear hm3 hm4; have hx0 : Bx w3 b 79 [.int .i64 last, .map (some m)] := (h.bx.under HB.out).grown HG.out (fun e => h.ne (Option.some.inj e)); have hc0 := hx0.c0; have hq1 : w1.cell? ⟨b, 1, none⟩ = some (.map (some m)) := (h.bx.under HB.out).cell 1; have hf3 := hx0.free 0)
    all_goals
      go_wp2
      go_ret2
      refine ⟨fun h => absurd h (by omega), fun _ => ?_⟩
      obtain ⟨D', h1, h2⟩ := h.finish hp HB.out HS.out (by simp) HM.out HG.out hx0
      exact ⟨D', rfl, h1, h2⟩
end Go.Proofs.Yteahpkihkfkpfaa
