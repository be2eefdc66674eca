/- posting.Lists: its state; New; Add. -/
import Derived.Test.YteahpkihkfkpfaaPst
import Derived.Test.YteahpkihkfkpfaaQTypes
import Derived.Deep.RegionHeld3
set_option linter.unusedVariables false
set_option linter.unusedSimpArgs false
namespace Go.Proofs.Yteahpkihkfkpfaa
open Go.RowKit Go.Maps

/-- A posting.Lists in block p, its maps in mt (tags) and my (types); its rows hang on no block of X. -/
structure Ps (w : World) (p mt my M : Nat) (Dt Dy : DataW Value) (A : Option Addr) (c : Nat) (all : List Int) (ft fy : ByteArray → List Int) (X : Nat → Prop) : Prop where
  bx : Bx w p 85 [.slice A all.length c, .map (some mt), .map (some my)]
  sl : Sl (Kn.int .i64) (fun k => k ≠ p ∧ k ≠ mt ∧ k ≠ my ∧ ¬ X k) w A c all
  nil_ : all = [] → A = none
  mpt : Mp w (fun k => k ≠ p ∧ k ≠ my ∧ ¬ X k) mt M Dt ft
  mpy : Mp w (fun k => k ≠ p ∧ k ≠ mt ∧ ¬ X k) my M Dy fy
  d1 : p ≠ mt
  d2 : p ≠ my
  d3 : mt ≠ my
  xp : ¬ X p
  xt : ¬ X mt
  xy : ¬ X my
  xs : ∀ k, X k → k < w.heap.size
/-- What its rows say. -/
structure Pf (all : List Int) (ft fy : ByteArray → List Int) : Prop where
  rise : all.Pairwise (· < ·)
  rt : ∀ s, (ft s).Pairwise (· < ·)
  ry : ∀ s, (fy s).Pairwise (· < ·)
  st : ∀ s, ∀ p ∈ ft s, p ∈ all
  sy : ∀ s, ∀ p ∈ fy s, p ∈ all
  lt : ∀ s, (ft s).length ≤ all.length
  ly : ∀ s, (fy s).length ≤ all.length
  pos : ∀ p ∈ all, 1 ≤ p
section
variable {w w' : World} {p mt my M : Nat} {Dt Dy : DataW Value} {A : Option Addr} {c : Nat} {all : List Int} {ft fy : ByteArray → List Int} {X Y : Nat → Prop}
theorem Ps.far (h : Ps w p mt my M Dt Dy A c all ft fy X) (hb : But X w w') : Ps w' p mt my M Dt Dy A c all ft fy X :=
  ⟨h.bx.stay (fun hk => hb.block _ hk h.xp), h.sl.stay hb.size (fun k hk hl => hb.block k hl hk.2.2.2), h.nil_, h.mpt.stay hb (fun k _ hk hx => hk.elim (fun h1 => h1.2.2 hx) (fun e => h.xt (e ▸ hx))), h.mpy.stay hb (fun k _ hk hx => hk.elim (fun h1 => h1.2.2 hx) (fun e => h.xy (e ▸ hx))),
    h.d1, h.d2, h.d3, h.xp, h.xt, h.xy, fun k hk => Nat.lt_of_lt_of_le (h.xs k hk) hb.size⟩
theorem Ps.below (h : Ps w p mt my M Dt Dy A c all ft fy X) (hb : Below w.heap.size w w') : Ps w' p mt my M Dt Dy A c all ft fy X := h.far (But.of_below hb)
theorem Mp.fence {ok ok' : Nat → Prop} {m N : Nat} {D : DataW Value} {f : ByteArray → List Int} (h : Mp w ok m N D f) (hb : Below w.heap.size w w') (hY : ∀ k, k < w.heap.size → ok k → ok' k) : Mp w' ok' m N D f := by
  refine ⟨(h.stay (But.of_below (S := fun _ => False) hb) (fun _ _ _ h => h)).om, fun s => ?_, h.has⟩
  obtain ⟨A, c, h1, h2⟩ := h.row s
  exact ⟨A, c, h1, (h2.below hb).mono (fun k hk => ⟨hY k hk.2.2 hk.1, hk.2.1, by have := hb.size; omega⟩)⟩
theorem Ps.fence (h : Ps w p mt my M Dt Dy A c all ft fy X) (hb : Below w.heap.size w w') (hY : ∀ k, Y k → X k ∨ (w.heap.size ≤ k ∧ k < w'.heap.size)) : Ps w' p mt my M Dt Dy A c all ft fy Y := by
  have hp := h.bx.lt
  have ht := h.mpt.om.lt
  have hy := h.mpy.om.lt
  have hn : ∀ k, k < w.heap.size → ¬ X k → ¬ Y k := fun k hk hx hyk => (hY k hyk).elim hx (fun h => by omega)
  exact ⟨h.bx.under hb, (h.sl.bound.below hb).mono (fun k hk => ⟨hk.1.1, hk.1.2.1, hk.1.2.2.1, hn k hk.2 hk.1.2.2.2⟩), h.nil_, h.mpt.fence hb (fun k hk h1 => ⟨h1.1, h1.2.1, hn k hk h1.2.2⟩), h.mpy.fence hb (fun k hk h1 => ⟨h1.1, h1.2.1, hn k hk h1.2.2⟩),
    h.d1, h.d2, h.d3, hn _ hp h.xp, hn _ ht h.xt, hn _ hy h.xy, fun k hk => (hY k hk).elim (fun h1 => Nat.lt_of_lt_of_le (h.xs k h1) hb.size) (fun h => h.2)⟩
theorem Mp.move {ok ok' S : Nat → Prop} {m N : Nat} {D : DataW Value} {f : ByteArray → List Int} (h : Mp w ok m N D f) (hb : But S w w') (h1 : ∀ k, ok k → ¬ S k) (h2 : ¬ S m) (hY : ∀ k, k < w.heap.size → ok k → ok' k) : Mp w' ok' m N D f := by
  refine ⟨(h.stay hb (fun k _ hk hs => hk.elim (fun h3 => h1 k h3 hs) (fun e => h2 (e ▸ hs)))).om, fun s => ?_, h.has⟩
  obtain ⟨A, c, h3, h4⟩ := h.row s
  exact ⟨A, c, h3, (h4.stay hb.size (fun k hk hl => hb.block k hl (h1 k hk.1))).mono (fun k hk => ⟨hY k hk.2.2 hk.1, hk.2.1, by have := hb.size; omega⟩)⟩
/-- Blocks of X turn; another set of blocks is fenced off. -/
theorem Ps.move (h : Ps w p mt my M Dt Dy A c all ft fy X) (hb : But X w w') (hY : ∀ k, Y k → X k ∨ (w.heap.size ≤ k ∧ k < w'.heap.size)) : Ps w' p mt my M Dt Dy A c all ft fy Y := by
  have hp := h.bx.lt
  have ht := h.mpt.om.lt
  have hy := h.mpy.om.lt
  have hn : ∀ k, k < w.heap.size → ¬ X k → ¬ Y k := fun k hk hx hyk => (hY k hyk).elim hx (fun h => by omega)
  exact ⟨h.bx.stay (fun hk => hb.block _ hk h.xp), (h.sl.bound.stay hb.size (fun k hk hl => hb.block k hl hk.1.2.2.2)).mono (fun k hk => ⟨hk.1.1, hk.1.2.1, hk.1.2.2.1, hn k hk.2 hk.1.2.2.2⟩), h.nil_, h.mpt.move hb (fun k hk => hk.2.2) h.xt (fun k hk h1 => ⟨h1.1, h1.2.1, hn k hk h1.2.2⟩), h.mpy.move hb (fun k hk => hk.2.2) h.xy (fun k hk h1 => ⟨h1.1, h1.2.1, hn k hk h1.2.2⟩),
    h.d1, h.d2, h.d3, hn _ hp h.xp, hn _ ht h.xt, hn _ hy h.xy, fun k hk => (hY k hk).elim (fun h1 => Nat.lt_of_lt_of_le (h.xs k h1) hb.size) (fun h => h.2)⟩
theorem Ps.less (h : Ps w p mt my M Dt Dy A c all ft fy X) (hY : ∀ k, Y k → X k) : Ps w p mt my M Dt Dy A c all ft fy Y := h.fence (Below.refl _ _) (fun k hk => .inl (hY k hk))
/-- The row of all positions is another one. -/
theorem Ps.row (h : Ps w p mt my M Dt Dy A c all ft fy X) {A' : Option Addr} {c' n : Nat} {all' : List Int} (hn : all'.length = n) (h0 : all' ≠ []) {w1 : World} (hb : Below w.heap.size w w1) (hsl : Sl (Kn.int .i64) (fun k => w.heap.size ≤ k) w1 A' c' all') :
    Ps (w1.setCell ⟨p, 0, none⟩ (.slice A' n c')) p mt my M Dt Dy A' c' all' ft fy X ∧ But (fun k => k = p) w (w1.setCell ⟨p, 0, none⟩ (.slice A' n c')) := by
  subst hn
  have hp := h.bx.lt
  have ht := h.mpt.om.lt
  have hy := h.mpy.om.lt
  have hbut : But (fun k => k = p) w (w1.setCell ⟨p, 0, none⟩ (.slice A' all'.length c')) := (But.of_below hb).trans ⟨rfl, rfl, rfl, by simp [World.setCell], fun k _ hn => heap_setCell_other w1 _ k _ hn⟩
  refine ⟨⟨(h.bx.under hb).set 0 _, (hsl.setCell (fun k hk e => by simp at e; omega) _).mono (fun k hk => ⟨by omega, by omega, by omega, fun hx => by have := h.xs k hx; omega⟩), fun e => absurd e h0, h.mpt.stay hbut (fun k _ hk e => ?_), h.mpy.stay hbut (fun k _ hk e => ?_), h.d1, h.d2, h.d3, h.xp, h.xt, h.xy, fun k hk => Nat.lt_of_lt_of_le (h.xs k hk) hbut.size⟩, hbut⟩
  · subst e; exact hk.elim (fun h1 => h1.1 rfl) (fun e => h.d1 e)
  · subst e; exact hk.elim (fun h1 => h1.1 rfl) (fun e => h.d2 e)
/-- The map of tags is another one. -/
theorem Ps.tag (h : Ps w p mt my M Dt Dy A c all ft fy X) {M' : Nat} {Dt' : DataW Value} {ft' : ByteArray → List Int} (hM : M ≤ M') (hm : Mp w' (fun k => k ≠ p ∧ k ≠ my ∧ ¬ X k) mt M' Dt' ft') (hb : But (fun k => k = mt) w w') : Ps w' p mt my M' Dt' Dy A c all ft' fy X :=
  ⟨h.bx.stay (fun hk => hb.block _ hk h.d1), h.sl.stay hb.size (fun k hk hl => hb.block k hl hk.2.1), h.nil_, hm, (h.mpy.stay hb (fun k _ hk e => hk.elim (fun h1 => h1.2.1 e) (fun e1 => h.d3 (e.symm.trans e1)))).grow hM, h.d1, h.d2, h.d3, h.xp, h.xt, h.xy, fun k hk => Nat.lt_of_lt_of_le (h.xs k hk) hb.size⟩
theorem Ps.typ (h : Ps w p mt my M Dt Dy A c all ft fy X) {M' : Nat} {Dy' : DataW Value} {fy' : ByteArray → List Int} (hM : M ≤ M') (hm : Mp w' (fun k => k ≠ p ∧ k ≠ mt ∧ ¬ X k) my M' Dy' fy') (hb : But (fun k => k = my) w w') : Ps w' p mt my M' Dt Dy' A c all ft fy' X :=
  ⟨h.bx.stay (fun hk => hb.block _ hk h.d2), h.sl.stay hb.size (fun k hk hl => hb.block k hl hk.2.2.1), h.nil_, (h.mpt.stay hb (fun k _ hk e => hk.elim (fun h1 => h1.2.1 e) (fun e1 => h.d3 (e1.symm.trans e)))).grow hM, hm, h.d1, h.d2, h.d3, h.xp, h.xt, h.xy, fun k hk => Nat.lt_of_lt_of_le (h.xs k hk) hb.size⟩
end

theorem PNew_any (w : World) (X : Nat → Prop) (hX : ∀ k, X k → k < w.heap.size) : Calls Try.prog 20 #[] w fun r w' => ∃ p mt my Dt Dy, r = .returned (.pointer (some ⟨p, 0, none⟩)) ∧ Ps w' p mt my 0 Dt Dy none 0 [] (fun _ => []) (fun _ => []) X ∧ Below w.heap.size w w' ∧ w.heap.size ≤ p ∧ w.heap.size ≤ mt ∧ w.heap.size ≤ my := by
  have hmm := @run_makeMap Try.prog
  go_enter Try.func20, Try.ntmps20
  go_wp2
  go_ret
  have hb : Below w.heap.size w ((w.alloc (.map #[] 0)).alloc (.map #[] 0)) := ((Below.refl _ _).alloc (Nat.le_refl _) _).alloc (by simp) _
  have mk : ∀ {ok : Nat → Prop} {W : World} {m : Nat}, W.ownsMap Try.prog 9 RV m 0 (.map []) → Mp W ok m 0 (.map []) (fun _ => []) := fun hom => ⟨hom, fun s => ⟨none, 0, by simp [DataW.atKey], Sl.nil_⟩, fun s => by simp [Maps.has]⟩
  refine ⟨w.heap.size + 1 + 1, w.heap.size, w.heap.size + 1, .map [], .map [], rfl, ⟨?_, Sl.nil_, fun _ => rfl, mk (((World.ownsMap_made w _ _ _).alloc _).alloc _), mk ?_, by omega, by omega, by omega, fun h => by have := hX _ h; omega, fun h => by have := hX _ h; omega, fun h => by have := hX _ h; omega, fun k h => by have := hX _ h; simp; omega⟩, hb.alloc (by simp; omega) _, by omega, by omega, by omega⟩
  · have := Bx.new ((w.alloc (.map #[] 0)).alloc (.map #[] 0)) 85 [.slice none 0 0, .map (some w.heap.size), .map (some (w.heap.size + 1))]
    rwa [show ((w.alloc (.map #[] 0)).alloc (.map #[] 0)).heap.size = w.heap.size + 1 + 1 by simp] at this
  · have := (World.ownsMap_made (w.alloc (.map #[] 0)) Try.prog 9 RV)
    rw [show (w.alloc (.map #[] 0)).heap.size = w.heap.size + 1 by simp] at this
    exact this.alloc _
end Go.Proofs.Yteahpkihkfkpfaa
