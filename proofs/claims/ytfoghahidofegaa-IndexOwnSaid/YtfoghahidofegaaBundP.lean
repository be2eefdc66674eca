/- posting.Lists: its state as Lean data; lists.add. posting.Lists: its state; New; Add. posting.Lists: Tag, Type, clause, Find (walks). (*posting.Lists).Find (walk). -/
import Derived.Test.YtfoghahidofegaaBundB
import Derived.Test.YtfoghahidofegaaBundS
import Derived.Test.YtfoghahidofegaaBundA
import Derived.Deep.RegionHeld3
import Derived.Deep.DeepFit
set_option linter.unusedVariables false
set_option linter.unusedSimpArgs false
namespace Go.Proofs.Ytfoghahidofegaa
open Go.RowKit Go.Maps

/-- A position behind a row, once. -/
def addP (l : List Int) (pos : Int) : List Int := if l.getLast? = some pos then l else l ++ [pos]
theorem upd_id (f : ByteArray → List Int) (s : ByteArray) : upd f s (f s) = f := by
  funext k
  by_cases h : k = s
  · subst h; exact upd_same _ _ _
  · exact upd_other _ _ h
theorem Mp.grow {w : World} {ok : Nat → Prop} {m N N' : Nat} {D : DataW Value} {f : ByteArray → List Int} (h : Mp w ok m N D f) (hN : N ≤ N') : Mp w ok m N' D f := ⟨h.om.mono hN, h.row, h.has⟩
theorem addFull {w w1 w3 : World} {ok : Nat → Prop} {m N : Nat} {D : DataW Value} {f : ByteArray → List Int} (h : Mp w ok m N D f) (hok : ∀ k, w.heap.size ≤ k → ok k) {s : ByteArray} {l : List Int} (hl : l ≠ []) {A' : Option Addr} {c' n : Nat} (hn : l.length = n)
    (hb : Below w.heap.size w w1) (hsl : Sl (Kn.int .i64) (fun k => w.heap.size ≤ k) w1 A' c' l) (hom : w3.ownsMap Try.prog 9 RV m (N + 1) (D.put (keyS s) (.held (.slice A' n c')))) (hg : w1.grownBy w3 (some m)) :
    Mp w3 ok m (N + 1) (D.put (keyS s) (.held (.slice A' n c'))) (upd f s l) ∧ But (fun k => k = m) w w3 := by
  subst hn
  have hml := h.om.lt
  have hbut : But (fun k => k = m) w w3 := (But.of_below hb).trans (But.grown hg (fun k e => (Option.some.inj e).symm))
  exact ⟨h.put hl hom (hsl.grown hg (fun k hk e => by have := Option.some.inj e; omega)) (fun k hk _ => ⟨hok k hk, by omega⟩) hbut (fun k _ _ h1 h2 => h1 h2), hbut⟩

section
variable {P : Program} {ops : Array Oper} {rest : List Oper} {o : Oper} {a : Act} {Q : Exit → Act → World → Prop}
/-- 'append(l[:len(l):len(l)], x)' at the operation. -/
theorem wpList_full {W : World} (hgd : o.guard = none) (s x : Operand) (t : TypeId)
    (ho : o.op = .call { callee := .builtin .append, args := #[s, x], argTypes := #[t, t] })
    (e : TypeId) (ht : P.underlying t = some (.slice e)) (hinfo : (P.info? e).map (fun i => (i.zero, i.size, i.bytes)) = some (some (.int .i64 0), 1, 8))
    {ok : Nat → Prop} {A : Option Addr} {c : Nat} {l : List Int} (h : Sl (Kn.int .i64) ok W A c l) (h0 : l = [] → A = none) (y : Int) (B c2 : Nat) (hs : a.eval s = .slice A l.length l.length) (hx : a.eval x = .slice (some ⟨B, 0, none⟩) 1 c2)
    (hc : W.cell? ⟨B, 0, none⟩ = some (.int .i64 y)) (hl : l.length ≤ 1000000)
    (hK : ∀ A' c' w1, Sl (Kn.int .i64) (fun k => W.heap.size ≤ k) w1 A' c' (l ++ [y]) → Below W.heap.size W w1 → wpList P ops Q rest (a.put o.dst (.slice A' (l.length + 1) c')) w1) :
    wpList P ops Q (o :: rest) a W := by
  obtain ⟨A', c', w1, hr, h1, h2⟩ := run_append_full (P := P) t o.type e ht hinfo h h0 y (c2 := c2) hc hl
  rw [show (l ++ [y]).length = l.length + 1 by simp] at hr
  refine wpList_plain hgd fun K hK' => ?_
  unfold Oper.wp execOp
  simp only [ho, resolve, invoke, builtin, Sem.run_bind, Sem.run_pure, Result.andThen_ok, List.map_toArray, List.map_cons, List.map_nil, hs, hx]
  rw [hr]
  simp only [Result.andThen_ok]
  exact hK' _ _ (hK A' c' w1 h1 h2)
end

set_option maxHeartbeats 1000000 in
theorem addL_any {w : World} {ok : Nat → Prop} {m N : Nat} {D : DataW Value} {f : ByteArray → List Int} (h : Mp w ok m N D f) (hok : ∀ k, w.heap.size ≤ k → ok k) (hN : N ≤ 900000) {s : ByteArray} (hs : s.size ≤ maxLen) (hlen : (f s).length ≤ 900000) (pos : Int) :
    Calls Try.prog 66 #[.map (some m), .string s, .int .i64 pos] w fun r w' => r = .returned (.tuple #[]) ∧ ∃ D', Mp w' ok m (N + 1) D' (upd f s (addP (f s) pos)) ∧ But (fun k => k = m) w w' := by
  obtain ⟨A, c, _, hl, hsl, hnil⟩ := h.look Try.underlying111 hs
  have HM := Lib.hid h
  have HSL := Lib.hid hsl
  have hc1 := hsl.1
  have hc2 := hsl.2.1
  have HN := Lib.hid hnil
  unfold maxLen at hc2
  have HOK := Lib.hid hok
  clear h hsl hnil hok
  have hfin : ∀ (h2 : ¬ (f s).getLast? = some pos), Hid (∀ (w1 w3 : World) (A' : Option Addr) (c' : Nat), Below w.heap.size w w1 → Sl (Kn.int .i64) (fun k => w.heap.size ≤ k) w1 A' c' (f s ++ [pos]) → w3.ownsMap Try.prog 9 RV m (N + 1) (D.put (keyS s) (.held (.slice A' ((f s).length + 1) c'))) → w1.grownBy w3 (some m) → ∃ D', Mp w3 ok m (N + 1) D' (upd f s (addP (f s) pos)) ∧ But (fun k => k = m) w w3) := fun h2 => Lib.hid (fun w1 w3 A' c' hb hsl hom hg => by
    have e : addP (f s) pos = f s ++ [pos] := if_neg h2
    rw [e]
    exact ⟨_, addFull HM.out HOK.out (by simp) (by simp) hb hsl hom hg⟩)
  go_enter Try.func66, Try.ntmps66
  have HA := Lib.hid (show Below w.heap.size w (w.alloc (.cells #[.int .i64 pos] 3)) from (Below.refl _ _).alloc (Nat.le_refl _) _)
  have HSLA := Lib.hid (HSL.out.below HA.out)
  have HC := Lib.hid (show World.cell? (w.alloc (.cells #[.int .i64 pos] 3)) ⟨w.heap.size, 0, none⟩ = some (.int .i64 pos) from (Bx.new w 3 [.int .i64 pos]).c0)
  by_cases hz : (f s).length = 0
  · have HF := hfin (by rw [List.eq_nil_of_length_eq_zero hz]; simp)
    have d1 : decide (0 < (f s).length) = false := decide_eq_false (by omega)
    have HZ := Lib.hid hz
    clear hfin hz
    go_wp2_with (at_builtin; refine wpList_full (W := w.alloc (.cells #[.int .i64 pos] 3)) rfl _ _ _ rfl 3 Try.underlying97 infoInt HSLA.out HN.out pos w.heap.size 1 rfl rfl HC.out (by omega) ?_; intro A' c' w1 hs1 hb1; have HB := Lib.hid (show Below w.heap.size w w1 from bthen HA.out hb1); have HS1 := Lib.hid (hs1.mono (fun k hk => show w.heap.size ≤ k by simp at hk; omega)); clear hs1 hb1; obtain ⟨v0, st, w2, w3, _, _, hm, hom, hgr⟩ := Mp.steps (HM.out.stay (But.of_below (S := fun _ => False) HB.out) (fun _ _ _ h => h)) (by omega) Try.underlying111 hs (.slice A' ((f s).length + 1) c'); have HOM := Lib.hid hom; have HGR := Lib.hid hgr; clear hom hgr)
    go_end0
    exact ⟨rfl, HF.out _ _ _ _ HB.out HS1.out HOM.out HGR.out⟩
  · obtain ⟨k, hk⟩ : ∃ k, (f s).length = k + 1 := ⟨(f s).length - 1, by omega⟩
    have hkl : k < (f s).length := by omega
    obtain ⟨ad, rfl, hx⟩ := row_int_at HSL.out.2.2 hkl
    have hlast : (f s).getLast? = some (f s)[k] := by rw [List.getLast?_eq_getElem?, show (f s).length - 1 = k by omega, List.getElem?_eq_getElem hkl]
    generalize (f s)[k] = y at hx hlast
    have ew : IntKind.i64.wrap (((f s).length : Int) - 1) = (k : Int) := by rw [IntWalk.i64_in _ (by omega)]; omega
    have b1 : (0 : Int) ≤ (k : Int) := Int.natCast_nonneg _
    have b2 : (k : Int) < ((f s).length : Int) := by omega
    have d1 : decide (0 < (f s).length) = true := decide_eq_true (by omega)
    have hz' : 0 < (f s).length := by omega
    have HK := Lib.hid hk
    clear hk hz
    by_cases hy : y = pos
    · have e : upd f s (addP (f s) pos) = f := by
        rw [show addP (f s) pos = f s from if_pos (by rw [hlast, hy])]
        exact upd_id f s
      have HE := Lib.hid e
      subst hy
      clear hfin e hlast
      go_wp2_with fail
      refine bodyPost_ret (results_none rfl _ _ _) rfl ?_
      exact ⟨rfl, D, by rw [HE.out]; exact HM.out.grow (by omega), But.refl _ _⟩
    · have HF := hfin (by rw [hlast]; intro e; exact hy (Option.some.inj e))
      have d2 : (y == pos) = false := by simp [hy]
      clear hfin hlast
      go_wp2_with (at_builtin; refine wpList_full (W := w.alloc (.cells #[.int .i64 pos] 3)) rfl _ _ _ rfl 3 Try.underlying97 infoInt HSLA.out HN.out pos w.heap.size 1 rfl rfl HC.out (by omega) ?_; intro A' c' w1 hs1 hb1; have HB := Lib.hid (show Below w.heap.size w w1 from bthen HA.out hb1); have HS1 := Lib.hid (hs1.mono (fun k hk => show w.heap.size ≤ k by simp at hk; omega)); clear hs1 hb1; obtain ⟨v0, st, w2, w3, _, _, hm, hom, hgr⟩ := Mp.steps (HM.out.stay (But.of_below (S := fun _ => False) HB.out) (fun _ _ _ h => h)) (by omega) Try.underlying111 hs (.slice A' ((f s).length + 1) c'); have HOM := Lib.hid hom; have HGR := Lib.hid hgr; clear hom hgr)
      go_end0
      exact ⟨rfl, HF.out _ _ _ _ HB.out HS1.out HOM.out HGR.out⟩
end Go.Proofs.Ytfoghahidofegaa

namespace Go.Proofs.Ytfoghahidofegaa
open Go.RowKit Go.Maps

/-- A posting.Lists in block p, its maps in mt (tags) and my (types); its rows hang on no block of X. -/
structure Ps (w : World) (p mt my M : Nat) (Dt Dy : DataW Value) (A : Option Addr) (c : Nat) (all : List Int) (ft fy : ByteArray → List Int) (X : Nat → Prop) : Prop where
  bx : Bx w p 113 [.slice A all.length c, .map (some mt), .map (some my)]
  sl : Sl (Kn.int .i64) (fun k => k ≠ p ∧ k ≠ mt ∧ k ≠ my ∧ ¬ X k) w A c all
  nil_ : all = [] → A = none
  mpt : Mp w (fun k => k ≠ p ∧ k ≠ my ∧ ¬ X k) mt M Dt ft
  mpy : Mp w (fun k => k ≠ p ∧ k ≠ mt ∧ ¬ X k) my M Dy fy
  d1 : p ≠ mt
  d2 : p ≠ my
  d3 : mt ≠ my
  xp : ¬ X p
  xt : ¬ X mt
  xy : ¬ X my
  xs : ∀ k, X k → k < w.heap.size
/-- What its rows say. -/
structure Pf (all : List Int) (ft fy : ByteArray → List Int) : Prop where
  rise : all.Pairwise (· < ·)
  rt : ∀ s, (ft s).Pairwise (· < ·)
  ry : ∀ s, (fy s).Pairwise (· < ·)
  st : ∀ s, ∀ p ∈ ft s, p ∈ all
  sy : ∀ s, ∀ p ∈ fy s, p ∈ all
  lt : ∀ s, (ft s).length ≤ all.length
  ly : ∀ s, (fy s).length ≤ all.length
  pos : ∀ p ∈ all, 1 ≤ p
section
variable {w w' : World} {p mt my M : Nat} {Dt Dy : DataW Value} {A : Option Addr} {c : Nat} {all : List Int} {ft fy : ByteArray → List Int} {X Y : Nat → Prop}
theorem Ps.far (h : Ps w p mt my M Dt Dy A c all ft fy X) (hb : But X w w') : Ps w' p mt my M Dt Dy A c all ft fy X :=
  ⟨h.bx.stay (fun hk => hb.block _ hk h.xp), h.sl.stay hb.size (fun k hk hl => hb.block k hl hk.2.2.2), h.nil_, h.mpt.stay hb (fun k _ hk hx => hk.elim (fun h1 => h1.2.2 hx) (fun e => h.xt (e ▸ hx))), h.mpy.stay hb (fun k _ hk hx => hk.elim (fun h1 => h1.2.2 hx) (fun e => h.xy (e ▸ hx))),
    h.d1, h.d2, h.d3, h.xp, h.xt, h.xy, fun k hk => Nat.lt_of_lt_of_le (h.xs k hk) hb.size⟩
theorem Ps.below (h : Ps w p mt my M Dt Dy A c all ft fy X) (hb : Below w.heap.size w w') : Ps w' p mt my M Dt Dy A c all ft fy X := h.far (But.of_below hb)
theorem Mp.fence {ok ok' : Nat → Prop} {m N : Nat} {D : DataW Value} {f : ByteArray → List Int} (h : Mp w ok m N D f) (hb : Below w.heap.size w w') (hY : ∀ k, k < w.heap.size → ok k → ok' k) : Mp w' ok' m N D f := by
  refine ⟨(h.stay (But.of_below (S := fun _ => False) hb) (fun _ _ _ h => h)).om, fun s => ?_, h.has⟩
  obtain ⟨A, c, h1, h2⟩ := h.row s
  exact ⟨A, c, h1, (h2.below hb).mono (fun k hk => ⟨hY k hk.2.2 hk.1, hk.2.1, by have := hb.size; omega⟩)⟩
theorem Ps.fence (h : Ps w p mt my M Dt Dy A c all ft fy X) (hb : Below w.heap.size w w') (hY : ∀ k, Y k → X k ∨ (w.heap.size ≤ k ∧ k < w'.heap.size)) : Ps w' p mt my M Dt Dy A c all ft fy Y := by
  have hp := h.bx.lt
  have ht := h.mpt.om.lt
  have hy := h.mpy.om.lt
  have hn : ∀ k, k < w.heap.size → ¬ X k → ¬ Y k := fun k hk hx hyk => (hY k hyk).elim hx (fun h => by omega)
  exact ⟨h.bx.under hb, (h.sl.bound.below hb).mono (fun k hk => ⟨hk.1.1, hk.1.2.1, hk.1.2.2.1, hn k hk.2 hk.1.2.2.2⟩), h.nil_, h.mpt.fence hb (fun k hk h1 => ⟨h1.1, h1.2.1, hn k hk h1.2.2⟩), h.mpy.fence hb (fun k hk h1 => ⟨h1.1, h1.2.1, hn k hk h1.2.2⟩),
    h.d1, h.d2, h.d3, hn _ hp h.xp, hn _ ht h.xt, hn _ hy h.xy, fun k hk => (hY k hk).elim (fun h1 => Nat.lt_of_lt_of_le (h.xs k h1) hb.size) (fun h => h.2)⟩
theorem Mp.move {ok ok' S : Nat → Prop} {m N : Nat} {D : DataW Value} {f : ByteArray → List Int} (h : Mp w ok m N D f) (hb : But S w w') (h1 : ∀ k, ok k → ¬ S k) (h2 : ¬ S m) (hY : ∀ k, k < w.heap.size → ok k → ok' k) : Mp w' ok' m N D f := by
  refine ⟨(h.stay hb (fun k _ hk hs => hk.elim (fun h3 => h1 k h3 hs) (fun e => h2 (e ▸ hs)))).om, fun s => ?_, h.has⟩
  obtain ⟨A, c, h3, h4⟩ := h.row s
  exact ⟨A, c, h3, (h4.stay hb.size (fun k hk hl => hb.block k hl (h1 k hk.1))).mono (fun k hk => ⟨hY k hk.2.2 hk.1, hk.2.1, by have := hb.size; omega⟩)⟩
/-- Blocks of X turn; another set of blocks is fenced off. -/
theorem Ps.move (h : Ps w p mt my M Dt Dy A c all ft fy X) (hb : But X w w') (hY : ∀ k, Y k → X k ∨ (w.heap.size ≤ k ∧ k < w'.heap.size)) : Ps w' p mt my M Dt Dy A c all ft fy Y := by
  have hp := h.bx.lt
  have ht := h.mpt.om.lt
  have hy := h.mpy.om.lt
  have hn : ∀ k, k < w.heap.size → ¬ X k → ¬ Y k := fun k hk hx hyk => (hY k hyk).elim hx (fun h => by omega)
  exact ⟨h.bx.stay (fun hk => hb.block _ hk h.xp), (h.sl.bound.stay hb.size (fun k hk hl => hb.block k hl hk.1.2.2.2)).mono (fun k hk => ⟨hk.1.1, hk.1.2.1, hk.1.2.2.1, hn k hk.2 hk.1.2.2.2⟩), h.nil_, h.mpt.move hb (fun k hk => hk.2.2) h.xt (fun k hk h1 => ⟨h1.1, h1.2.1, hn k hk h1.2.2⟩), h.mpy.move hb (fun k hk => hk.2.2) h.xy (fun k hk h1 => ⟨h1.1, h1.2.1, hn k hk h1.2.2⟩),
    h.d1, h.d2, h.d3, hn _ hp h.xp, hn _ ht h.xt, hn _ hy h.xy, fun k hk => (hY k hk).elim (fun h1 => Nat.lt_of_lt_of_le (h.xs k h1) hb.size) (fun h => h.2)⟩
theorem Ps.less (h : Ps w p mt my M Dt Dy A c all ft fy X) (hY : ∀ k, Y k → X k) : Ps w p mt my M Dt Dy A c all ft fy Y := h.fence (Below.refl _ _) (fun k hk => .inl (hY k hk))
/-- The row of all positions is another one. -/
theorem Ps.row (h : Ps w p mt my M Dt Dy A c all ft fy X) {A' : Option Addr} {c' n : Nat} {all' : List Int} (hn : all'.length = n) (h0 : all' ≠ []) {w1 : World} (hb : Below w.heap.size w w1) (hsl : Sl (Kn.int .i64) (fun k => w.heap.size ≤ k) w1 A' c' all') :
    Ps (w1.setCell ⟨p, 0, none⟩ (.slice A' n c')) p mt my M Dt Dy A' c' all' ft fy X ∧ But (fun k => k = p) w (w1.setCell ⟨p, 0, none⟩ (.slice A' n c')) := by
  subst hn
  have hp := h.bx.lt
  have ht := h.mpt.om.lt
  have hy := h.mpy.om.lt
  have hbut : But (fun k => k = p) w (w1.setCell ⟨p, 0, none⟩ (.slice A' all'.length c')) := (But.of_below hb).trans ⟨rfl, rfl, rfl, by simp [World.setCell], fun k _ hn => heap_setCell_other w1 _ k _ hn⟩
  refine ⟨⟨(h.bx.under hb).set 0 _, (hsl.setCell (fun k hk e => by simp at e; omega) _).mono (fun k hk => ⟨by omega, by omega, by omega, fun hx => by have := h.xs k hx; omega⟩), fun e => absurd e h0, h.mpt.stay hbut (fun k _ hk e => ?_), h.mpy.stay hbut (fun k _ hk e => ?_), h.d1, h.d2, h.d3, h.xp, h.xt, h.xy, fun k hk => Nat.lt_of_lt_of_le (h.xs k hk) hbut.size⟩, hbut⟩
  · subst e; exact hk.elim (fun h1 => h1.1 rfl) (fun e => h.d1 e)
  · subst e; exact hk.elim (fun h1 => h1.1 rfl) (fun e => h.d2 e)
/-- The map of tags is another one. -/
theorem Ps.tag (h : Ps w p mt my M Dt Dy A c all ft fy X) {M' : Nat} {Dt' : DataW Value} {ft' : ByteArray → List Int} (hM : M ≤ M') (hm : Mp w' (fun k => k ≠ p ∧ k ≠ my ∧ ¬ X k) mt M' Dt' ft') (hb : But (fun k => k = mt) w w') : Ps w' p mt my M' Dt' Dy A c all ft' fy X :=
  ⟨h.bx.stay (fun hk => hb.block _ hk h.d1), h.sl.stay hb.size (fun k hk hl => hb.block k hl hk.2.1), h.nil_, hm, (h.mpy.stay hb (fun k _ hk e => hk.elim (fun h1 => h1.2.1 e) (fun e1 => h.d3 (e.symm.trans e1)))).grow hM, h.d1, h.d2, h.d3, h.xp, h.xt, h.xy, fun k hk => Nat.lt_of_lt_of_le (h.xs k hk) hb.size⟩
theorem Ps.typ (h : Ps w p mt my M Dt Dy A c all ft fy X) {M' : Nat} {Dy' : DataW Value} {fy' : ByteArray → List Int} (hM : M ≤ M') (hm : Mp w' (fun k => k ≠ p ∧ k ≠ mt ∧ ¬ X k) my M' Dy' fy') (hb : But (fun k => k = my) w w') : Ps w' p mt my M' Dt Dy' A c all ft fy' X :=
  ⟨h.bx.stay (fun hk => hb.block _ hk h.d2), h.sl.stay hb.size (fun k hk hl => hb.block k hl hk.2.2.1), h.nil_, (h.mpt.stay hb (fun k _ hk e => hk.elim (fun h1 => h1.2.1 e) (fun e1 => h.d3 (e1.symm.trans e)))).grow hM, hm, h.d1, h.d2, h.d3, h.xp, h.xt, h.xy, fun k hk => Nat.lt_of_lt_of_le (h.xs k hk) hb.size⟩
end

theorem PNew_any (w : World) (X : Nat → Prop) (hX : ∀ k, X k → k < w.heap.size) : Calls Try.prog 44 #[] w fun r w' => ∃ p mt my Dt Dy, r = .returned (.pointer (some ⟨p, 0, none⟩)) ∧ Ps w' p mt my 0 Dt Dy none 0 [] (fun _ => []) (fun _ => []) X ∧ Below w.heap.size w w' ∧ w.heap.size ≤ p ∧ w.heap.size ≤ mt ∧ w.heap.size ≤ my := by
  have hmm := @run_makeMap Try.prog
  go_enter Try.func44, Try.ntmps44
  go_wp2
  go_ret
  have hb : Below w.heap.size w ((w.alloc (.map #[] 0)).alloc (.map #[] 0)) := ((Below.refl _ _).alloc (Nat.le_refl _) _).alloc (by simp) _
  have mk : ∀ {ok : Nat → Prop} {W : World} {m : Nat}, W.ownsMap Try.prog 9 RV m 0 (.map []) → Mp W ok m 0 (.map []) (fun _ => []) := fun hom => ⟨hom, fun s => ⟨none, 0, by simp [DataW.atKey], Sl.nil_⟩, fun s => by simp [Maps.has]⟩
  refine ⟨w.heap.size + 1 + 1, w.heap.size, w.heap.size + 1, .map [], .map [], rfl, ⟨?_, Sl.nil_, fun _ => rfl, mk (((World.ownsMap_made w _ _ _).alloc _).alloc _), mk ?_, by omega, by omega, by omega, fun h => by have := hX _ h; omega, fun h => by have := hX _ h; omega, fun h => by have := hX _ h; omega, fun k h => by have := hX _ h; simp; omega⟩, hb.alloc (by simp; omega) _, by omega, by omega, by omega⟩
  · have := Bx.new ((w.alloc (.map #[] 0)).alloc (.map #[] 0)) 113 [.slice none 0 0, .map (some w.heap.size), .map (some (w.heap.size + 1))]
    rwa [show ((w.alloc (.map #[] 0)).alloc (.map #[] 0)).heap.size = w.heap.size + 1 + 1 by simp] at this
  · have := (World.ownsMap_made (w.alloc (.map #[] 0)) Try.prog 9 RV)
    rw [show (w.alloc (.map #[] 0)).heap.size = w.heap.size + 1 by simp] at this
    exact this.alloc _
end Go.Proofs.Ytfoghahidofegaa

namespace Go.Proofs.Ytfoghahidofegaa
open Go.RowKit Go.Maps

theorem Mp.lookP {w : World} {ok : Nat → Prop} {m N : Nat} {D : DataW Value} {f : ByteArray → List Int} (h : Mp w ok m N D f) {s : ByteArray} (hs : s.size ≤ maxLen) :
    ∃ A c, (Instr.lookup 111 (.map (some m)) (.string s) false).run Try.prog w = .ok (.slice A (f s).length c) w ∧ SlI w A c (f s) := by
  obtain ⟨A, c, _, h1, h2, _⟩ := h.look Try.underlying111 hs
  exact ⟨A, c, h1, h2.any⟩

/-- The positions of a clause. -/
def typesL (fy : ByteArray → List Int) (ts : List ByteArray) : List Int := ts.foldl (fun l s => either l (fy s)) []
def tagsL (ft : ByteArray → List Int) (ts : List ByteArray) (l : List Int) : List Int := ts.foldl (fun l s => both l (ft s)) l
def clauseL (all : List Int) (ft fy : ByteArray → List Int) (c : Clause) : List Int := tagsL ft c.tags (if c.types.length = 0 then all else typesL fy c.types)
theorem typesL_snoc (fy : ByteArray → List Int) (ts : List ByteArray) (s : ByteArray) : typesL fy (ts ++ [s]) = either (typesL fy ts) (fy s) := by simp [typesL, List.foldl_append]
theorem tagsL_snoc (ft : ByteArray → List Int) (ts : List ByteArray) (s : ByteArray) (l : List Int) : tagsL ft (ts ++ [s]) l = both (tagsL ft ts l) (ft s) := by simp [tagsL, List.foldl_append]
theorem sub_len {a b : List Int} (ha : Rise a) (hb : Rise b) (h : ∀ x ∈ a, x ∈ b) : a.length ≤ b.length := by
  have e : a = b.filter (fun x => decide (x ∈ a)) := rise_ext ha (List.Pairwise.filter _ hb) (fun x => by
    rw [List.mem_filter]; simp only [decide_eq_true_eq]; exact ⟨fun hx => ⟨h x hx, hx⟩, fun hx => hx.2⟩)
  rw [e]; exact List.length_filter_le _ _
theorem typesL_rm {fy : ByteArray → List Int} (hy : ∀ s, Rise (fy s)) (ts : List ByteArray) : Rise (typesL fy ts) ∧ ∀ x, x ∈ typesL fy ts ↔ ∃ s ∈ ts, x ∈ fy s := by
  have key : ∀ (ts : List ByteArray) (l : List Int), Rise l → Rise (ts.foldl (fun l s => either l (fy s)) l) ∧ ∀ x, x ∈ ts.foldl (fun l s => either l (fy s)) l ↔ x ∈ l ∨ ∃ s ∈ ts, x ∈ fy s := by
    intro ts
    induction ts with
    | nil => intro l hl; exact ⟨hl, fun x => by simp⟩
    | cons s ts ih =>
      intro l hl
      obtain ⟨h1, h2⟩ := ih (either l (fy s)) (either_rise hl (hy s))
      refine ⟨h1, fun x => ?_⟩
      rw [List.foldl_cons, h2, mem_either hl (hy s)]
      simp [or_assoc]
  obtain ⟨h1, h2⟩ := key ts [] List.Pairwise.nil
  exact ⟨h1, fun x => by rw [show typesL fy ts = ts.foldl (fun l s => either l (fy s)) [] from rfl, h2]; simp⟩
theorem tagsL_rm {ft : ByteArray → List Int} (ht : ∀ s, Rise (ft s)) : ∀ (ts : List ByteArray) {l : List Int} (_ : Rise l), Rise (tagsL ft ts l) ∧ ∀ x, x ∈ tagsL ft ts l ↔ x ∈ l ∧ ∀ s ∈ ts, x ∈ ft s
  | [], l, hl => ⟨hl, fun x => by simp [tagsL]⟩
  | s :: ts, l, hl => by
    obtain ⟨h1, h2⟩ := tagsL_rm ht ts (both_rise hl (ht s))
    refine ⟨h1, fun x => ?_⟩
    rw [show tagsL ft (s :: ts) l = tagsL ft ts (both l (ft s)) from rfl, h2, mem_both hl (ht s)]
    simp [and_assoc]
theorem clauseL_rm {all : List Int} {ft fy : ByteArray → List Int} (h : Pf all ft fy) (c : Clause) : Rise (clauseL all ft fy c) ∧ ∀ x, x ∈ clauseL all ft fy c ↔ (if c.types.length = 0 then x ∈ all else ∃ s ∈ c.types, x ∈ fy s) ∧ ∀ s ∈ c.tags, x ∈ ft s := by
  unfold clauseL
  by_cases hz : c.types.length = 0
  · simp only [hz, if_true]
    exact tagsL_rm h.rt c.tags h.rise
  · simp only [hz, if_false]
    obtain ⟨h1, h2⟩ := typesL_rm h.ry c.types
    obtain ⟨h3, h4⟩ := tagsL_rm h.rt c.tags h1
    exact ⟨h3, fun x => by rw [h4, h2]⟩
theorem clauseL_sub {all : List Int} {ft fy : ByteArray → List Int} (h : Pf all ft fy) (c : Clause) : ∀ x ∈ clauseL all ft fy c, x ∈ all := fun x hx => by
  obtain ⟨h1, _⟩ := ((clauseL_rm h c).2 x).1 hx
  split at h1
  · exact h1
  · obtain ⟨s, _, h2⟩ := h1; exact h.sy s x h2
/-- The positions of a query. -/
def queryL (all : List Int) (ft fy : ByteArray → List Int) (q : List Clause) : List Int := q.foldl (fun l c => either l (clauseL all ft fy c)) []
theorem queryL_snoc (all : List Int) (ft fy : ByteArray → List Int) (q : List Clause) (c : Clause) : queryL all ft fy (q ++ [c]) = either (queryL all ft fy q) (clauseL all ft fy c) := by simp [queryL, List.foldl_append]
theorem queryL_rm {all : List Int} {ft fy : ByteArray → List Int} (h : Pf all ft fy) (q : List Clause) : Rise (queryL all ft fy q) ∧ ∀ x, x ∈ queryL all ft fy q ↔ ∃ c ∈ q, x ∈ clauseL all ft fy c := by
  have key : ∀ (q : List Clause) (l : List Int), Rise l → Rise (q.foldl (fun l c => either l (clauseL all ft fy c)) l) ∧ ∀ x, x ∈ q.foldl (fun l c => either l (clauseL all ft fy c)) l ↔ x ∈ l ∨ ∃ c ∈ q, x ∈ clauseL all ft fy c := by
    intro q
    induction q with
    | nil => intro l hl; exact ⟨hl, fun x => by simp⟩
    | cons c q ih =>
      intro l hl
      obtain ⟨h1, h2⟩ := ih (either l (clauseL all ft fy c)) (either_rise hl (clauseL_rm h c).1)
      refine ⟨h1, fun x => ?_⟩
      rw [List.foldl_cons, h2, mem_either hl (clauseL_rm h c).1]
      simp [or_assoc]
  obtain ⟨h1, h2⟩ := key q [] List.Pairwise.nil
  exact ⟨h1, fun x => by rw [show queryL all ft fy q = q.foldl (fun l c => either l (clauseL all ft fy c)) [] from rfl, h2]; simp⟩
theorem queryL_sub {all : List Int} {ft fy : ByteArray → List Int} (h : Pf all ft fy) (q : List Clause) : ∀ x ∈ queryL all ft fy q, x ∈ all := fun x hx => by
  obtain ⟨c, _, h2⟩ := ((queryL_rm h q).2 x).1 hx
  exact clauseL_sub h c x h2

set_option maxHeartbeats 2000000 in
set_option maxRecDepth 4000 in
theorem pclause_any {w : World} {p mt my M : Nat} {Dt Dy : DataW Value} {A : Option Addr} {c : Nat} {all : List Int} {ft fy : ByteArray → List Int} {X : Nat → Prop} (h : Ps w p mt my M Dt Dy A c all ft fy X) (hp : Pf all ft fy) (hl : all.length ≤ 100000)
    {cl : Clause} {T Y : Option Addr} {ct cy : Nat} (hT : SlS w T ct cl.tags) (hY : SlS w Y cy cl.types) (hgT : ∀ x ∈ cl.tags, x.size ≤ maxLen) (hgY : ∀ x ∈ cl.types, x.size ≤ maxLen) :
    Calls Try.prog 71 #[.pointer (some ⟨p, 0, none⟩), .agg #[.slice T cl.tags.length ct, .slice Y cl.types.length cy]] w fun r w' => ∃ A' c', r = .returned (.slice A' (clauseL all ft fy cl).length c') ∧ SlI w' A' c' (clauseL all ft fy cl) ∧ Below w.heap.size w w' := by
  have HP := Lib.hid h
  have HPF := Lib.hid hp
  have HT := Lib.hid hT
  have HY := Lib.hid hY
  have HGT := Lib.hid hgT
  have HGY := Lib.hid hgY
  have hty := hY.1
  have htm := hY.2.1
  have hay := hT.1
  have ham := hT.2.1
  unfold maxLen at htm ham
  have HB0 := Lib.hid (show Below w.heap.size w (w.alloc (.cells #[.slice T cl.tags.length ct, .slice Y cl.types.length cy] 95)) from (Below.refl _ _).alloc (Nat.le_refl _) _)
  have HBX := Lib.hid (Bx.new w 95 [.slice T cl.tags.length ct, .slice Y cl.types.length cy])
  have hp0 : (w.alloc (.cells #[.slice T cl.tags.length ct, .slice Y cl.types.length cy] 95)).cell? ⟨p, 0, none⟩ = some (.slice A all.length c) := (h.bx.under HB0.out).c0
  have hc1 : (w.alloc (.cells #[.slice T cl.tags.length ct, .slice Y cl.types.length cy] 95)).cell? ⟨w.heap.size, 1, none⟩ = some (.slice Y cl.types.length cy) := HBX.out.cell 1
  have hAl := h.sl.1
  have hpl := h.bx.lt
  clear h hp hT hY hgT hgY
  obtain ⟨L, hL⟩ : ∃ L, L = (if cl.types.length = 0 then all else typesL fy cl.types) := ⟨_, rfl⟩
  have hcl : clauseL all ft fy cl = tagsL ft cl.tags L := by rw [hL]; rfl
  have hbl : L.length ≤ 100000 := by
    rw [hL]
    split
    · exact hl
    · exact Nat.le_trans (sub_len (typesL_rm HPF.out.ry _).1 HPF.out.rise (fun x hx => by obtain ⟨s, _, h2⟩ := ((typesL_rm HPF.out.ry _).2 x).1 hx; exact HPF.out.sy s x h2)) hl
  have hrl : Rise L := by
    rw [hL]
    split
    · exact HPF.out.rise
    · exact (typesL_rm HPF.out.ry _).1
  have HRL := Lib.hid hrl
  rw [hcl]
  have HLE := Lib.hid hL
  clear hrl hcl hL
  go_enter Try.func71, Try.ntmps71
  go_upto_if 17 with fail
  go_cut [5] (fun v wx => ∃ B cb, v = .slice B L.length cb ∧ SlI wx B cb L ∧ Below (w.heap.size + 1) (w.alloc (.cells #[.slice T cl.tags.length ct, .slice Y cl.types.length cy] 95)) wx)
  case first =>
    by_cases hz : cl.types.length = 0
    · have HLA := Lib.hid (show L = all by rw [HLE.out, if_pos hz])
      have d1 : decide (0 < cl.types.length) = false := decide_eq_false (by omega)
      have hz0 : ¬ 0 < cl.types.length := by omega
      clear hz
      go_wp2_with fail
      go_meet
      case rel => exact ⟨A, c, by rw [HLA.out], by rw [HLA.out]; exact (HP.out.sl.below HB0.out).any, Below.refl _ _⟩
    · have HLA := Lib.hid (show L = typesL fy cl.types by rw [HLE.out, if_neg hz])
      have d1 : decide (0 < cl.types.length) = true := decide_eq_true (by omega)
      have hz' : 0 < cl.types.length := by omega
      clear hz
      simp only [d1]
      go_wp2_with fail
      go_loopw [5, 21] (fun v i wr => ∃ (k : Nat) (B : Option Addr) (cb : Nat), k ≤ cl.types.length ∧ i = .int .i64 k ∧ v = .slice B (typesL fy (cl.types.take k)).length cb ∧ SlI wr B cb (typesL fy (cl.types.take k)) ∧ Below (w.heap.size + 1) (w.alloc (.cells #[.slice T cl.tags.length ct, .slice Y cl.types.length cy] 95)) wr) (fun _ i _ => cl.types.length - (intOf i).toNat)
      case atStart => exact ⟨0, none, 0, Nat.zero_le _, rfl, rfl, Sl.nil_, Below.refl _ _⟩
      case round =>
        obtain ⟨k, B, cb, hk, rfl, rfl, hs, hb⟩ := hrel
        have HS := Lib.hid hs
        have HB := Lib.hid hb
        have HB1 := Lib.hid (show Below w.heap.size w wr from HB0.out.trans (hb.mono (by omega)))
        clear hs hb
        by_cases hlt : k < cl.types.length
        · obtain ⟨ad, rfl, hx⟩ := row_str_at (HY.out.below HB1.out).2.2 hlt
          have hsz := HGY.out _ (List.getElem_mem hlt)
          have hsn := typesL_snoc fy (cl.types.take k) cl.types[k]
          rw [← List.take_succ_eq_append_getElem hlt] at hsn
          generalize cl.types[k] = s at *
          have HSN := Lib.hid hsn
          clear hsn
          have hp2 : wr.cell? ⟨p, 2, none⟩ = some (.map (some my)) := (HP.out.bx.under HB1.out).cell 2
          obtain ⟨E, ce, hlk, he⟩ := (HP.out.below HB1.out).mpy.lookP hsz
          have hb1 : (typesL fy (cl.types.take k)).length ≤ 100000 := Nat.le_trans (sub_len (typesL_rm HPF.out.ry _).1 HPF.out.rise (fun x hx => by obtain ⟨s, _, h2⟩ := ((typesL_rm HPF.out.ry _).2 x).1 hx; exact HPF.out.sy s x h2)) hl
          have hb2 := HPF.out.ly s
          have C := Lib.hid (cEither HS.out he (by omega))
          clear he
          go_wp2_with (first | (go_at_call 70; go_fit C.out; rintro r w6 ⟨A6, c6, rfl, h6, hb6⟩; have H6 := Lib.hid h6.any; have HB6 := Lib.hid (show Below (w.heap.size + 1) _ w6 from HB.out.trans (hb6.mono (by have := HB.out.size; simp at this; omega))); clear h6 hb6))
          go_roundw
          case rel => exact ⟨k + 1, A6, c6, by omega, by go_num, by rw [HSN.out], by rw [HSN.out]; exact H6.out, HB6.out⟩
          case measure => simp [intOf]; omega
        · obtain rfl : k = cl.types.length := by omega
          rw [List.take_length, ← HLA.out] at HS ⊢
          go_wp2_with fail
          go_meet
          case rel => exact ⟨B, cb, rfl, HS.out, HB.out⟩
  case rest =>
    obtain ⟨B, cb, rfl, hs, hb⟩ := hcut
    have HB := Lib.hid hb
    have HS := Lib.hid hs
    have HB1 := Lib.hid (show Below w.heap.size w wc from HB0.out.trans (hb.mono (by omega)))
    have hc0 : wc.cell? ⟨w.heap.size, 0, none⟩ = some (.slice T cl.tags.length ct) := (HBX.out.below HB.out (by omega)).c0
    clear hs hb hp0 hc1
    go_wp2_with fail
    go_loopw [5, 37] (fun v i wr => ∃ (k : Nat) (B : Option Addr) (cb : Nat), k ≤ cl.tags.length ∧ i = .int .i64 k ∧ v = .slice B (tagsL ft (cl.tags.take k) L).length cb ∧ SlI wr B cb (tagsL ft (cl.tags.take k) L) ∧ Below w.heap.size w wr) (fun _ i _ => cl.tags.length - (intOf i).toNat)
    case atStart => exact ⟨0, B, cb, Nat.zero_le _, rfl, rfl, HS.out, HB1.out⟩
    case round =>
      obtain ⟨k, B2, cb2, hk, rfl, rfl, hs, hb⟩ := hrel
      have HS2 := Lib.hid hs
      have HB2 := Lib.hid hb
      clear hs hb
      by_cases hlt : k < cl.tags.length
      · obtain ⟨ad, rfl, hx⟩ := row_str_at (HT.out.below HB2.out).2.2 hlt
        have hsz := HGT.out _ (List.getElem_mem hlt)
        have hsn := tagsL_snoc ft (cl.tags.take k) cl.tags[k] L
        rw [← List.take_succ_eq_append_getElem hlt] at hsn
        generalize cl.tags[k] = s at *
        have HSN := Lib.hid hsn
        clear hsn
        have hp1 : wr.cell? ⟨p, 1, none⟩ = some (.map (some mt)) := (HP.out.bx.under HB2.out).cell 1
        obtain ⟨E, ce, hlk, he⟩ := (HP.out.below HB2.out).mpt.lookP hsz
        have hb1 : (tagsL ft (cl.tags.take k) L).length ≤ 100000 := Nat.le_trans (sub_len (tagsL_rm HPF.out.rt _ HRL.out).1 HRL.out (fun x hx => (((tagsL_rm HPF.out.rt _ HRL.out).2 x).1 hx).1)) hbl
        have hb2 := HPF.out.lt s
        have C := Lib.hid (cBoth HS2.out he (by omega))
        clear he
        go_wp2_with (first | (go_at_call 80; go_fit C.out; rintro r w6 ⟨A6, c6, rfl, h6, hb6⟩; have H6 := Lib.hid h6.any; have HB6 := Lib.hid (bthen HB2.out hb6); clear h6 hb6))
        go_roundw
        case rel => exact ⟨k + 1, A6, c6, by omega, by go_num, by rw [HSN.out], by rw [HSN.out]; exact H6.out, HB6.out⟩
        case measure => simp [intOf]; omega
      · obtain rfl : k = cl.tags.length := by omega
        rw [List.take_length] at HS2 ⊢
        go_wp2_with fail
        go_ret
        exact ⟨B2, cb2, rfl, HS2.out, HB2.out⟩
end Go.Proofs.Ytfoghahidofegaa

namespace Go.Proofs.Ytfoghahidofegaa
open Go.RowKit Go.Maps

def findL (all : List Int) (ft fy : ByteArray → List Int) (q : List Clause) (x : Int) : List Int := (queryL all ft fy q).take (upTo (queryL all ft fy q) x)

set_option maxHeartbeats 2000000 in
set_option maxRecDepth 4000 in
theorem Find_any {w : World} {p mt my M : Nat} {Dt Dy : DataW Value} {A : Option Addr} {c : Nat} {all : List Int} {ft fy : ByteArray → List Int} {X : Nat → Prop} (h : Ps w p mt my M Dt Dy A c all ft fy X) (hp : Pf all ft fy) (hl : all.length ≤ 100000)
    {q : List Clause} {Q : Option Addr} {cq : Nat} (hq : SlC w Q cq q) (hg : ∀ c ∈ q, goodClause c) (x : Int) :
    Calls Try.prog 53 #[.pointer (some ⟨p, 0, none⟩), .agg #[.slice Q q.length cq], .int .i64 x] w (RetInts (findL all ft fy q x) w) := by
  have HP := Lib.hid h
  have HPF := Lib.hid hp
  have HQ := Lib.hid hq
  have HG := Lib.hid hg
  have hq1 := hq.1
  have hq2 := hq.2.1
  unfold maxLen at hq2
  have HB0 := Lib.hid (show Below w.heap.size w (w.alloc (.cells #[.slice Q q.length cq] 56)) from (Below.refl _ _).alloc (Nat.le_refl _) _)
  have hbl : ∀ k, (queryL all ft fy (q.take k)).length ≤ 100000 := fun k => Nat.le_trans (sub_len (queryL_rm hp _).1 hp.rise (queryL_sub hp _)) hl
  have HBL := Lib.hid hbl
  clear h hp hq hg hbl
  go_enter Try.func53, Try.ntmps53
  go_wp2_with fail
  go_loopw [7, 15] (fun v i wr => ∃ (k : Nat) (B : Option Addr) (cb : Nat), k ≤ q.length ∧ i = .int .i64 k ∧ v = .slice B (queryL all ft fy (q.take k)).length cb ∧ SlI wr B cb (queryL all ft fy (q.take k)) ∧ Below w.heap.size w wr) (fun _ i _ => q.length - (intOf i).toNat)
  case atStart => exact ⟨0, none, 0, Nat.zero_le _, rfl, rfl, Sl.nil_, HB0.out⟩
  case round =>
    obtain ⟨k, B, cb, hk, rfl, rfl, hs, hb⟩ := hrel
    have HS := Lib.hid hs
    have HB := Lib.hid hb
    clear hs hb
    by_cases hlt : k < q.length
    · obtain ⟨ad, S, sa, T, ta, rfl, hx1, hx2, hs1, hs2⟩ := row_clause_at (HQ.out.below HB.out).2.2 hlt
      have hgc := HG.out _ (List.getElem_mem hlt)
      have hsn := queryL_snoc all ft fy (q.take k) q[k]
      rw [← List.take_succ_eq_append_getElem hlt] at hsn
      generalize q[k] = cl at *
      have HSN := Lib.hid hsn
      have hl1 := HBL.out k
      have hl2 : (clauseL all ft fy cl).length ≤ 100000 := Nat.le_trans (sub_len (clauseL_rm HPF.out cl).1 HPF.out.rise (clauseL_sub HPF.out cl)) hl
      have HA := Lib.hid (show Below wr.heap.size wr (wr.alloc (.cells #[.slice S cl.tags.length sa, .slice T cl.types.length ta] 95)) from (Below.refl _ _).alloc (Nat.le_refl _) _)
      have C := Lib.hid (pclause_any (HP.out.below (bthen HB.out HA.out)) HPF.out hl (hs1.below HA.out) (hs2.below HA.out) hgc.1 hgc.2)
      have H1 := Lib.hid hs1
      have H2 := Lib.hid hs2
      clear hs1 hs2 hsn hgc
      generalize queryL all ft fy (q.take k) = L at *
      go_wp2_with (first
        | (go_at_call 70; go_fit (cEither (HS7.out) HC7.out (by omega)); rintro r w8 ⟨A8, c8, rfl, h8, hb8⟩; have H8 := Lib.hid h8.any; have HB8 := Lib.hid (bthen HB7.out hb8); clear h8 hb8)
        | (go_at_call 71; go_fit C.out; rintro r w7 ⟨A7, c7, rfl, h7, hb7⟩; have HC7 := Lib.hid h7; have HB7 := Lib.hid (bthen (bthen HB.out HA.out) hb7); have HS7 := Lib.hid ((HS.out.below HA.out).below hb7); clear h7 hb7))
      go_roundw
      case rel => exact ⟨k + 1, A8, c8, by omega, by go_num, by rw [HSN.out], by rw [HSN.out]; exact H8.out, HB8.out⟩
      case measure => simp [intOf]; omega
    · obtain rfl : k = q.length := by omega
      have hl1 := HBL.out q.length
      rw [List.take_length] at HS hl1 ⊢
      have hrl := (queryL_rm HPF.out q).1
      have hfl : findL all ft fy q x = (queryL all ft fy q).take (upTo (queryL all ft fy q) x) := rfl
      generalize queryL all ft fy q = L at *
      have HFL := Lib.hid hfl
      have C1 := Lib.hid (bsearch_any HS.out hrl (by omega) x)
      have HRL := Lib.hid hrl
      have hc1 := HS.out.1
      have hc2 := HS.out.2.1
      unfold maxLen at hc2
      clear hrl hfl
      go_wp2_with fail
      refine C1.out.mono ?_
      rintro r w7 ⟨n, rfl, rfl, hcut⟩
      have HC := Lib.hid (hcut.counts HRL.out)
      have hn := hcut.jn
      clear hcut
      by_cases hx : L[n]? = some x
      · rw [if_pos hx] at HC
        have hnl : n < L.length := (List.getElem?_eq_some_iff.1 hx).1
        have hd : decide (L[n]? = some x) = true := by simp [hx]
        have hlt : (L.take (n + 1)).length = n + 1 := by rw [List.length_take]; omega
        have C2 := Lib.hid (cloneInts_any (l := L.take (n + 1)) (HS.out.take _) (by rw [hlt]; omega))
        rw [hlt] at C2
        have b1 : (n : Int) + 1 ≤ (cb : Int) := by omega
        have b2 : n + 1 ≤ cb := by omega
        have HLT := Lib.hid hlt
        clear hx hlt
        rw [hd]
        go_wp2_with (first | (go_at_call 69; go_fit C2.out; rintro r w8 ⟨A8, c8, rfl, h8, hb8⟩))
        go_ret
        exact ⟨A8, c8, by rw [HFL.out, HC.out, HLT.out]; rfl, by rw [HFL.out, HC.out]; exact h8.mono (fun k hk => Nat.le_trans HB.out.size hk), bthen HB.out hb8⟩
      · rw [if_neg hx] at HC
        have hd : decide (L[n]? = some x) = false := by simp [hx]
        have hlt : (L.take n).length = n := by rw [List.length_take]; omega
        have C2 := Lib.hid (cloneInts_any (l := L.take n) (HS.out.take _) (by rw [hlt]; omega))
        rw [hlt] at C2
        have b1 : (n : Int) ≤ (cb : Int) := by omega
        have b2 : n ≤ cb := by omega
        have HLT := Lib.hid hlt
        clear hx hlt
        rw [hd]
        go_wp2_with (first | (go_at_call 69; go_fit C2.out; rintro r w8 ⟨A8, c8, rfl, h8, hb8⟩))
        go_ret
        exact ⟨A8, c8, by rw [HFL.out, HC.out, HLT.out]; rfl, by rw [HFL.out, HC.out]; exact h8.mono (fun k hk => Nat.le_trans HB.out.size hk), bthen HB.out hb8⟩
end Go.Proofs.Ytfoghahidofegaa
