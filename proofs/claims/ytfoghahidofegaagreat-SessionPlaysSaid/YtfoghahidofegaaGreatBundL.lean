/- A session's state; session.New, At, keep (walks). session.Session: Read, Query, own, Check (walks). session.Session: own, Check; slices.Clip (walks); append(v, y) at a step of a region that draws, v another's row cut to its length. session.Session: Append (walk). session.Session: Guards, Events, Clone (walks). registrarlaw19.add (walk): both indexes take events. registrarlaw19.shown (walk); small facts of the laws of layer 19. What sessions keep: more plain facts. A law with sessions: its state. -/
import Derived.Test.YtfoghahidofegaaGreatBundK
import Derived.Test.YtfoghahidofegaaGreatBundG
import Derived.Test.YtfoghahidofegaaGreatBundI
import Derived.Test.YtfoghahidofegaaGreatBundJ
set_option linter.unusedVariables false
set_option linter.unusedSimpArgs false
namespace Go.Proofs.YtfoghahidofegaaGreat
open Go.RowKit Go.Maps

/-- A session in the box b (of type t); what it has hangs on no block of X, nor on its box. -/
structure Ss (w : World) (t : TypeId) (b : Nat) (at_ : Nat) (gs : List Grd) (vs : List Event) (X : Nat → Prop) : Prop where
  bx : ∃ G cg E ce, Bx w b t [.int .i64 at_, .slice G gs.length cg, .slice E vs.length ce] ∧ Sl kGuard (fun k => k ≠ b ∧ ¬ X k) w G cg gs ∧ Sl kEvent (fun k => k ≠ b ∧ ¬ X k) w E ce vs ∧ (vs = [] → E = none)
  gin : ∀ g ∈ gs, GrdIn g ∧ mayG g = 0
  vin : ∀ v ∈ vs, EvIn v ∧ mayE v = 0
  gl : gs.length ≤ 16
  vl : vs.length ≤ 16
  xb : ¬ X b
  xs : ∀ k, X k → k < w.heap.size
section
variable {w w' w1 : World} {t : TypeId} {b at_ : Nat} {gs gs' : List Grd} {vs vs' : List Event} {X Y : Nat → Prop}
theorem Ss.lt (h : Ss w t b at_ gs vs X) : b < w.heap.size := by
  obtain ⟨G, cg, E, ce, h1, _⟩ := h.bx
  exact h1.lt
/-- Blocks of X alone turn, new ones are fenced off. -/
theorem Ss.move (h : Ss w t b at_ gs vs X) (hb : But X w w') (hY : ∀ k, Y k → X k ∨ (w.heap.size ≤ k ∧ k < w'.heap.size)) : Ss w' t b at_ gs vs Y := by
  obtain ⟨G, cg, E, ce, h1, h2, h3, h4⟩ := h.bx
  have hl := h1.lt
  have hm : ∀ k, (k ≠ b ∧ ¬ X k) ∧ k < w.heap.size → k ≠ b ∧ ¬ Y k := fun k hk => ⟨hk.1.1, fun hy => (hY k hy).elim hk.1.2 (fun h => by omega)⟩
  exact ⟨⟨G, cg, E, ce, h1.stay (fun hk => hb.block _ hk h.xb), (h2.bound.stay hb.size (fun k hk hl => hb.block k hl hk.1.2)).mono hm, (h3.bound.stay hb.size (fun k hk hl => hb.block k hl hk.1.2)).mono hm, h4⟩, h.gin, h.vin, h.gl, h.vl,
    fun hy => (hY _ hy).elim h.xb (fun h => by omega), fun k hk => (hY k hk).elim (fun hx => Nat.lt_of_lt_of_le (h.xs k hx) hb.size) (fun h => h.2)⟩
theorem Ss.far (h : Ss w t b at_ gs vs X) (hb : But X w w') : Ss w' t b at_ gs vs X := h.move hb (fun k hk => .inl hk)
theorem Ss.below (h : Ss w t b at_ gs vs X) (hb : Below w.heap.size w w') : Ss w' t b at_ gs vs X := h.far (But.of_below hb)
theorem Ss.less (h : Ss w t b at_ gs vs X) (hY : ∀ k, Y k → X k) : Ss w t b at_ gs vs Y := h.move (But.of_below (Below.refl _ _)) (fun k hk => .inl (hY k hk))
/-- Other guards are put in. -/
theorem Ss.putG (h : Ss w t b at_ gs vs X) (hb : Below w.heap.size w w1) {G : Option Addr} {cg : Nat} (hG : Sl kGuard (fun k => (k ≠ b ∧ ¬ X k) ∨ w.heap.size ≤ k) w1 G cg gs') (hg : ∀ g ∈ gs', GrdIn g ∧ mayG g = 0) (hl : gs'.length ≤ 16) :
    Ss (w1.setCell ⟨b, 1, none⟩ (.slice G gs'.length cg)) t b at_ gs' vs X ∧ But (fun k => k = b) w (w1.setCell ⟨b, 1, none⟩ (.slice G gs'.length cg)) := by
  have hlt := h.lt
  obtain ⟨G0, c0, E, ce, h1, h2, h3, h4⟩ := h.bx
  have hsz : (w1.setCell ⟨b, 1, none⟩ (.slice G gs'.length cg)).heap.size = w1.heap.size := by simp [World.setCell]
  have hbut : But (fun k => k = b) w (w1.setCell ⟨b, 1, none⟩ (.slice G gs'.length cg)) := (But.of_below hb).trans (But.setCell (S := fun k => k = b) w1 (p := ⟨b, 1, none⟩) rfl _)
  refine ⟨⟨⟨G, cg, E, ce, ?_, ?_, ?_, h4⟩, hg, h.vin, hl, h.vl, h.xb, fun k hk => by have := h.xs k hk; have := hb.size; omega⟩, hbut⟩
  · exact (h1.under hb).set 1 _
  · exact (hG.setCell (p := ⟨b, 1, none⟩) (fun k hk => hk.elim (fun h => h.1) (fun h => by show k ≠ b; omega)) _).mono (fun k hk => hk.elim id (fun hk => ⟨by omega, fun hx => by have := h.xs k hx; omega⟩))
  · exact (h3.below hb).setCell (p := ⟨b, 1, none⟩) (fun k hk => hk.1) _
/-- Other events are put in. -/
theorem Ss.putV (h : Ss w t b at_ gs vs X) (hb : Below w.heap.size w w1) {E : Option Addr} {ce : Nat} (hE : Sl kEvent (fun k => (k ≠ b ∧ ¬ X k) ∨ w.heap.size ≤ k) w1 E ce vs') (hv : ∀ v ∈ vs', EvIn v ∧ mayE v = 0) (hl : vs'.length ≤ 16) (hn : vs' = [] → E = none) :
    Ss (w1.setCell ⟨b, 2, none⟩ (.slice E vs'.length ce)) t b at_ gs vs' X ∧ But (fun k => k = b) w (w1.setCell ⟨b, 2, none⟩ (.slice E vs'.length ce)) := by
  have hlt := h.lt
  obtain ⟨G, cg, E0, c0, h1, h2, h3, h4⟩ := h.bx
  have hbut : But (fun k => k = b) w (w1.setCell ⟨b, 2, none⟩ (.slice E vs'.length ce)) := (But.of_below hb).trans (But.setCell (S := fun k => k = b) w1 (p := ⟨b, 2, none⟩) rfl _)
  have hsz : (w1.setCell ⟨b, 2, none⟩ (.slice E vs'.length ce)).heap.size = w1.heap.size := by simp [World.setCell]
  refine ⟨⟨⟨G, cg, E, ce, ?_, ?_, ?_, hn⟩, h.gin, hv, h.gl, hl, h.xb, fun k hk => by have := h.xs k hk; have := hb.size; omega⟩, hbut⟩
  · exact (h1.under hb).set 2 _
  · exact (h2.below hb).setCell (p := ⟨b, 2, none⟩) (fun k hk => hk.1) _
  · exact (hE.setCell (p := ⟨b, 2, none⟩) (fun k hk => hk.elim (fun h => h.1) (fun h => by show k ≠ b; omega)) _).mono (fun k hk => hk.elim id (fun hk => ⟨by omega, fun hx => by have := h.xs k hx; omega⟩))
end
section
variable {w : World} {b at_ : Nat} {gs : List Grd} {vs : List Event} {X : Nat → Prop}
theorem sNew {B : Six} {es : List Event} {Z : Nat → Prop} (h : Ix w B es Z) (hX : ∀ k, X k → k < w.heap.size) :
    Calls Tryz.prog 28 #[.pointer (some ⟨B.b, 0, none⟩)] w fun r w' => ∃ b : Nat, r = .returned (.pointer (some ⟨b, 0, none⟩)) ∧ Ss w' 127 b es.length [] [] X ∧ Below w.heap.size w w' ∧ w.heap.size ≤ b := by
  have C := Lib.hid (iLast h)
  clear h
  go_enter Tryz.func28, Tryz.ntmps28
  go_wp2_with (go_at_call 15; go_fit C.out; rintro r w2 ⟨rfl, rfl⟩)
  go_ret
  refine ⟨w.heap.size, rfl, ⟨⟨none, 0, none, 0, Bx.new w 127 [.int .i64 es.length, .slice none 0 0, .slice none 0 0], Sl.nil_, Sl.nil_, fun _ => rfl⟩, by simp, by simp, by simp, by simp, fun hx => by have := hX _ hx; omega, fun k hk => by have := hX k hk; simp; omega⟩, (Below.refl _ _).alloc (Nat.le_refl _) _, Nat.le_refl _⟩
theorem sAt (h : Ss w 127 b at_ gs vs X) : Calls Tryz.prog 40 #[.pointer (some ⟨b, 0, none⟩)] w fun r w' => r = .returned (.int .i64 at_) ∧ w = w' := by
  obtain ⟨G, cg, E, ce, hx, _⟩ := h.bx
  have x0 := hx.cell 0
  simp only [List.getElem?_cons_zero] at x0
  clear h hx
  go_enter Tryz.func40, Tryz.ntmps40
  go_wp2_with fail
  go_ret
  exact ⟨rfl, rfl⟩
set_option maxHeartbeats 4000000 in
set_option maxRecDepth 8000 in
theorem sKeep (h : Ss w 127 b at_ gs vs X) {s : ByteArray} {v : Int} {q : List Clause} {a : Bool} {Q : Option Addr} {cq : Nat} (hq : Sl kClause (fun k => k ≠ b ∧ ¬ X k) w Q cq q) (hg : GrdIn (s, v, q, a)) :
    Calls Tryz.prog 77 #[.pointer (some ⟨b, 0, none⟩), .agg #[.string s, .int .i64 v, .slice Q q.length cq, .bool a]] w fun r w' => r = .returned (.int .i64 (addE gs (s, v, q, a))) ∧ Ss w' 127 b at_ (keepL gs (s, v, q, a)) vs X ∧ But (fun k => k = b) w w' := by
  obtain ⟨W1, hW1⟩ : ∃ W1, W1 = w.alloc (.cells #[.string s, .int .i64 v, .slice Q q.length cq, .bool a] 52) := ⟨_, rfl⟩
  have HW1 := Lib.hid hW1
  have hb1 : Below w.heap.size w W1 := by rw [hW1]; exact (Below.refl _ _).alloc (Nat.le_refl _) _
  have hx : Bx W1 w.heap.size 52 [.string s, .int .i64 v, .slice Q q.length cq, .bool a] := by rw [hW1]; exact Bx.new w _ _
  have h1 := h.below hb1
  obtain ⟨G, cg, E, ce, hbx, hG, hE, hn⟩ := h1.bx
  have HB1 := Lib.hid hb1
  have H := Lib.hid h
  have HK := Lib.hid (fun W (hb : Below W1.heap.size W1 W) => show Below W1.heap.size W1 W ∧ W.cell? ⟨b, 1, none⟩ = some (.slice G gs.length cg) ∧ W.cell? ⟨w.heap.size, 0, none⟩ = some (.string s) ∧ W.cell? ⟨w.heap.size, 1, none⟩ = some (.int .i64 v) ∧ W.cell? ⟨w.heap.size, 2, none⟩ = some (.slice Q q.length cq) ∧ W.cell? ⟨w.heap.size, 3, none⟩ = some (.bool a) from
    ⟨hb, (hbx.under hb).cell 1, (hx.under hb).cell 0, (hx.under hb).cell 1, (hx.under hb).cell 2, (hx.under hb).cell 3⟩)
  obtain ⟨e, he⟩ : ∃ e, addE gs (s, v, q, a) = e := ⟨_, rfl⟩
  obtain ⟨L, hL⟩ : ∃ L, addL gs (s, v, q, a) = L := ⟨_, rfl⟩
  have CA := Lib.hid (fun W (R : Prop) (hW : Below W1.heap.size W1 W ∧ R) => show Calls Tryz.prog 25 #[.slice G gs.length cg, .agg #[.string s, .int .i64 v, .slice Q q.length cq, .bool a]] W fun r w' => (∃ (A' : Option Addr) (c' : Nat), r = .returned (.tuple #[.slice A' L.length c', .int .i64 e]) ∧ Sl kGuard (fun k => (k ≠ b ∧ ¬ X k) ∨ w.heap.size ≤ k) w' A' c' L) ∧ Below W.heap.size W w' from by
    have := guardAdd_any (hG.below hW.1) (by have := h.gl; omega) ((hq.any.below hb1).below hW.1) (fun c hc => (hg.2 c hc).1) (s := s) (v := v) (a := a)
    rw [hL, he] at this
    exact this.mono (fun r w' ⟨A', c', e, h1, h2⟩ => ⟨⟨A', c', e, h1.mono (fun k hk => hk.imp id (fun hk => by have := hb1.size; have := hW.1.size; omega))⟩, h2⟩))
  have HKP : Hid ((e = 0 → L = keepL gs (s, v, q, a) ∧ (∀ g ∈ L, GrdIn g ∧ mayG g = 0) ∧ L.length ≤ 16) ∧ (e ≠ 0 → keepL gs (s, v, q, a) = gs)) := Lib.hid (by
    constructor
    · intro h0
      have hk := keepL_ok (he.trans h0)
      rw [hL] at hk
      refine ⟨hk.symm, ?_, ?_⟩
      · intro g hg'
        rw [← hk] at hg'
        rcases keepL_mem g hg' with h2 | ⟨rfl, h2⟩
        · exact h.gin g h2
        · exact ⟨hg, h2⟩
      · rw [← hk]; exact keepL_len h.gl
    · intro h0
      exact keepL_no (by rw [he]; exact h0))
  rw [he]
  have hf1 := hbx.free 1
  have HF := Lib.hid (fun W (hb : Below W1.heap.size W1 W) => (hbx.under hb).free 1)
  clear h h1 hq hg hb1 hx hbx hG hE hn he hL hf1
  go_enter Tryz.func77, Tryz.ntmps77
  go_upto_region 1 with fail
  rw [← HW1.out]
  clear hW1 HW1
  go_cut [5, 6] (fun l f wx => f = .int .i64 e ∧ Below w.heap.size w wx ∧ Below W1.heap.size W1 wx ∧ ∃ (A' : Option Addr) (c' : Nat), l = .slice A' L.length c' ∧ Sl kGuard (fun k => (k ≠ b ∧ ¬ X k) ∨ w.heap.size ≤ k) wx A' c' L)
  case first =>
    go_region_held3 (fun W => Below W1.heap.size W1 W ∧ W.cell? ⟨b, 1, none⟩ = some (.slice G gs.length cg) ∧ W.cell? ⟨w.heap.size, 0, none⟩ = some (.string s) ∧ W.cell? ⟨w.heap.size, 1, none⟩ = some (.int .i64 v) ∧ W.cell? ⟨w.heap.size, 2, none⟩ = some (.slice Q q.length cq) ∧ W.cell? ⟨w.heap.size, 3, none⟩ = some (.bool a))
      (first | exact HK.out _ (below_drawn (Below.refl _ _)) | (assumption) | exact HK.out _ HB2.out)
      (first | (go_at_call 25; go_fit (CA.out _ _ (by assumption)); rintro r w2 ⟨⟨A2, c2, rfl, hs2⟩, hb2⟩; have HS2 := Lib.hid hs2; have HB2 := Lib.hid (bthen (below_drawn (Below.refl _ _)) hb2); clear hs2 hb2))
    all_goals go_wp2_with fail
    all_goals go_meet
    all_goals exact ⟨rfl, bthen HB1.out HB2.out, HB2.out, A2, c2, rfl, HS2.out⟩
  case rest =>
    obtain ⟨rfl, hbc, hbd, A', c', rfl, hs⟩ := hcut
    have HBC := Lib.hid hbc
    have HS := Lib.hid hs
    have f1 := HF.out _ hbd
    have k1 := (HK.out _ hbd).2.1
    clear hbc hs hbd CA HK HF
    by_cases h0 : e = 0
    · subst h0
      obtain ⟨h1, h2, h3⟩ := HKP.out.1 rfl
      obtain ⟨h4, h5⟩ := H.out.putG HBC.out HS.out h2 h3
      have H1 := Lib.hid h1
      have H4 := Lib.hid h4
      have H5 := Lib.hid h5
      clear h1 h2 h3 h4 h5 HKP
      go_wp2_with fail
      go_ret
      exact ⟨rfl, by rw [← H1.out]; exact H4.out, H5.out⟩
    · have H1 := Lib.hid (HKP.out.2 h0)
      have d0 : (e == 0) = false := by simp [h0]
      clear HKP h0
      go_wp2_with fail
      go_ret
      exact ⟨rfl, by rw [H1.out]; exact H.out.below HBC.out, But.of_below HBC.out⟩
end
end Go.Proofs.YtfoghahidofegaaGreat

namespace Go.Proofs.YtfoghahidofegaaGreat
open Go.RowKit Go.Maps

/-- What is told of what was read, of what was asked for. -/
def rdR (es : List Event) (at_ : Nat) (gs : List Grd) (s : ByteArray) : List Rec := if addE gs (gRead es at_ s) ≠ 0 then [] else strmR es s at_
def akR (es : List Event) (at_ : Nat) (gs : List Grd) (q : List Clause) : List Rec := if addE gs (gAsk at_ q) ≠ 0 then [] else qryR es q at_
theorem rdR_len (es : List Event) (at_ : Nat) (gs : List Grd) (s : ByteArray) : (rdR es at_ gs s).length ≤ es.length := by
  unfold rdR; split
  · simp
  · exact strmR_len _ _ _
section
variable {w : World} {b at_ : Nat} {gs : List Grd} {vs : List Event} {X : Nat → Prop} {B : Six} {es : List Event} {Z : Nat → Prop}
set_option maxHeartbeats 4000000 in
set_option maxRecDepth 8000 in
theorem sRead (h : Ss w 127 b at_ gs vs X) (hi : Ix w B es Z) (hZ : Z b) {s : ByteArray} (hs : s.size ≤ maxLen) :
    Calls Tryz.prog 31 #[.pointer (some ⟨b, 0, none⟩), .pointer (some ⟨B.b, 0, none⟩), .string s] w fun r w' => ∃ (A : Option Addr) (c : Nat), r = .returned (.tuple #[.slice A (rdR es at_ gs s).length c, .int .i64 (addE gs (gRead es at_ s))]) ∧
      Sl kRec (fun k => w.heap.size ≤ k) w' A c (rdR es at_ gs s) ∧ Ss w' 127 b at_ (keepL gs (gRead es at_ s)) vs X ∧ But (fun k => k = b) w w' := by
  obtain ⟨G, cg, E, ce, hbx, _⟩ := h.bx
  have x0 := hbx.cell 0
  simp only [List.getElem?_cons_zero] at x0
  obtain ⟨n, hn⟩ : ∃ n, verR es s at_ = n := ⟨_, rfl⟩
  obtain ⟨e, he⟩ : ∃ e, addE gs (gRead es at_ s) = e := ⟨_, rfl⟩
  have CV := Lib.hid (iVersion hi hs at_)
  rw [hn] at CV
  have CK := Lib.hid (sKeep h (s := s) (v := (n : Int)) (q := []) (a := false) (Q := none) (cq := 0) Sl.nil_ ⟨hs, by simp⟩)
  have hgr : (s, (n : Int), ([] : List Clause), false) = gRead es at_ s := by unfold gRead; rw [hn]
  rw [hgr, he] at CK
  have HI := Lib.hid (fun W (hb : But (fun k => k = b) w W) => (iStream (hi.far (hb.mono (fun k hk => by rw [hk]; exact hZ))) hs (at_ : Int)))
  have HR := Lib.hid (show (e ≠ 0 → rdR es at_ gs s = []) ∧ (e = 0 → rdR es at_ gs s = strmR es s at_) from by
    unfold rdR
    rw [he]
    exact ⟨fun h => if_pos h, fun h => if_neg (by simp [h])⟩)
  have HAT := Lib.hid (fun W (hb : Ss W 127 b at_ (keepL gs (gRead es at_ s)) vs X) => show W.cell? ⟨b, 0, none⟩ = some (.int .i64 at_) from by
    obtain ⟨_, _, _, _, h1, _⟩ := hb.bx
    exact h1.cell 0)
  rw [he]
  clear h hi hbx hn he hgr
  by_cases h0 : e = 0
  · subst h0
    have hr := HR.out.2 rfl
    rw [hr]
    clear hr HR
    obtain ⟨l, hl⟩ : ∃ l, strmR es s at_ = l := ⟨_, rfl⟩
    rw [hl] at HI ⊢
    clear hl
    go_enter Tryz.func31, Tryz.ntmps31
    go_wp2_with (first
      | (go_at_call 37; go_fit CV.out; rintro r w2 ⟨rfl, rfl⟩)
      | (go_at_call 77; go_fit CK.out; rintro r w3 ⟨rfl, h3, hb3⟩; have H3 := Lib.hid h3; have HB3 := Lib.hid hb3; have x3 := HAT.out _ h3; clear h3 hb3)
      | (go_at_call 64; go_fit (HI.out _ HB3.out); rintro r w4 ⟨A4, c4, rfl, h4, hb4⟩; have H4 := Lib.hid h4; have HB4 := Lib.hid hb4; clear h4 hb4))
    go_ret2
    exact ⟨A4, c4, rfl, H4.out.mono (fun k hk => by have := HB3.out.size; omega), H3.out.below HB4.out, HB3.out.trans (But.of_below HB4.out)⟩
  · have hr := HR.out.1 h0
    rw [hr]
    have d0 : (e == 0) = false := by simp [h0]
    clear hr HR h0
    go_enter Tryz.func31, Tryz.ntmps31
    go_wp2_with (first
      | (go_at_call 37; go_fit CV.out; rintro r w2 ⟨rfl, rfl⟩)
      | (go_at_call 77; go_fit CK.out; rintro r w3 ⟨rfl, h3, hb3⟩; have H3 := Lib.hid h3; have HB3 := Lib.hid hb3; have x3 := HAT.out _ h3; clear h3 hb3))
    go_ret2
    exact ⟨none, 0, rfl, Sl.nil_, H3.out, HB3.out⟩

set_option maxHeartbeats 4000000 in
set_option maxRecDepth 8000 in
theorem sQuery (h : Ss w 127 b at_ gs vs X) (hi : Ix w B es Z) (hZ : Z b) {q : List Clause} {Q : Option Addr} {cq : Nat} (hq : Sl kClause (fun k => k ≠ b ∧ ¬ X k) w Q cq q) (hg : ∀ c ∈ q, goodClause c) :
    Calls Tryz.prog 41 #[.pointer (some ⟨b, 0, none⟩), .pointer (some ⟨B.b, 0, none⟩), .agg #[.slice Q q.length cq]] w fun r w' => ∃ (A : Option Addr) (c : Nat), r = .returned (.tuple #[.slice A (akR es at_ gs q).length c, .int .i64 (addE gs (gAsk at_ q))]) ∧
      Sl kRec (fun k => w.heap.size ≤ k) w' A c (akR es at_ gs q) ∧ Ss w' 127 b at_ (keepL gs (gAsk at_ q)) vs X ∧ But (fun k => k = b) w w' := by
  obtain ⟨W1, hW1⟩ : ∃ W1, W1 = w.alloc (.cells #[.slice Q q.length cq] 25) := ⟨_, rfl⟩
  have HW1 := Lib.hid hW1
  have hb1 : Below w.heap.size w W1 := by rw [hW1]; exact (Below.refl _ _).alloc (Nat.le_refl _) _
  have hxq : Bx W1 w.heap.size 25 [.slice Q q.length cq] := by rw [hW1]; exact Bx.new w _ _
  have h1 := h.below hb1
  have hlt := h.lt
  obtain ⟨G, cg, E, ce, hbx, _⟩ := h1.bx
  obtain ⟨e, he⟩ : ∃ e, addE gs (gAsk at_ q) = e := ⟨_, rfl⟩
  have CK := Lib.hid (sKeep (h1.below (below_drawn (Below.refl _ _))) (s := ⟨#[]⟩) (v := (at_ : Int)) (q := q) (a := true) ((hq.below hb1).below (below_drawn (Below.refl _ _))) ⟨(by decide : (⟨#[]⟩ : ByteArray).size ≤ maxLen), hg⟩)
  have hgr : ((⟨#[]⟩ : ByteArray), (at_ : Int), q, true) = gAsk at_ q := rfl
  rw [hgr, he] at CK
  have HB1 := Lib.hid hb1
  have HK1 := Lib.hid (show W1.drew.cell? ⟨b, 0, none⟩ = some (.int .i64 at_) ∧ W1.drew.cell? ⟨w.heap.size, 0, none⟩ = some (.slice Q q.length cq) from ⟨(hbx.under (below_drawn (Below.refl _ _))).cell 0, (hxq.under (below_drawn (Below.refl _ _))).cell 0⟩)
  have HKB := Lib.hid (fun W (hs : Ss W 127 b at_ (keepL gs (gAsk at_ q)) vs X) (hb : But (fun k => k = b) W1 W) W' (hW' : Below W.heap.size W W') => show Below W.heap.size W W' ∧ W'.cell? ⟨b, 0, none⟩ = some (.int .i64 at_) ∧ W'.cell? ⟨w.heap.size, 0, none⟩ = some (.slice Q q.length cq) from by
    obtain ⟨_, _, _, _, h2, _⟩ := (hs.below hW').bx
    exact ⟨hW', h2.cell 0, ((hxq.stay (w' := W) (fun hk => hb.block _ hk (by omega))).under hW').cell 0⟩)
  have CQ := Lib.hid (fun W (hb : But (fun k => k = b) W1 W) W' (R : Prop) (hW' : Below W.heap.size W W' ∧ R) => show Calls Tryz.prog 65 #[.pointer (some ⟨B.b, 0, none⟩), .agg #[.slice Q q.length cq], .int .i64 at_] W' fun r w' => (∃ A c, r = .returned (.slice A (qryR es q at_).length c) ∧ Sl kRec (fun k => W'.heap.size ≤ k) w' A c (qryR es q at_)) ∧ Below W'.heap.size W' w' from by
    have hi' := ((hi.below hb1).far (hb.mono (fun k hk => by rw [hk]; exact hZ))).below hW'.1
    have hq' : SlC W' Q cq q := ((((hq.below hb1).mono (fun k hk => hk.1)).stay hb.size (fun k hk hl => hb.block k hl hk)).below hW'.1).any
    exact (iQuery hi' hq' hg at_).mono (fun r w' ⟨A, c, e, h1, h2⟩ => ⟨⟨A, c, e, h1⟩, h2⟩))
  have HR := Lib.hid (show (e ≠ 0 → akR es at_ gs q = []) ∧ (e = 0 → akR es at_ gs q = qryR es q at_) from by
    unfold akR
    rw [he]
    exact ⟨fun h => if_pos h, fun h => if_neg (by simp [h])⟩)
  rw [he]
  clear h hi hq hg hb1 hxq h1 hbx he hgr
  obtain ⟨R, hR⟩ : ∃ R, akR es at_ gs q = R := ⟨_, rfl⟩
  rw [hR] at HR ⊢
  clear hR
  go_enter Tryz.func41, Tryz.ntmps41
  go_upto_region 1 with fail
  rw [← HW1.out]
  clear hW1 HW1
  go_cut [8] (fun f wx => f = .int .i64 e ∧ Ss wx 127 b at_ (keepL gs (gAsk at_ q)) vs X ∧ But (fun k => k = b) W1 wx)
  case first =>
    go_region_held3 (fun W => W.cell? ⟨b, 0, none⟩ = some (.int .i64 at_) ∧ W.cell? ⟨w.heap.size, 0, none⟩ = some (.slice Q q.length cq))
      (first | exact HK1.out | exact HS2.out | (assumption))
      (first | (go_at_call 77; go_fit CK.out; rintro r w2 ⟨rfl, h2, hb2⟩; have H2 := Lib.hid h2; have HB2 := Lib.hid (show But (fun k => k = b) W1 w2 from (But.of_below (below_drawn (Below.refl _ _))).trans hb2); have HS2 := Lib.hid (HKB.out w2 h2 HB2.out w2 (Below.refl _ _)).2; clear h2 hb2))
    all_goals go_wp2_with fail
    all_goals go_meet
    all_goals exact ⟨rfl, H2.out, HB2.out⟩
  case rest =>
    obtain ⟨rfl, hs, hb⟩ := hcut
    have HS := Lib.hid hs
    have HB := Lib.hid hb
    clear hs hb HK1 CK
    by_cases h0 : e = 0
    · subst h0
      have HRQ := Lib.hid (HR.out.2 rfl)
      clear HR
      obtain ⟨v2, hv2⟩ : ∃ v2, v2 = wc := ⟨_, rfl⟩
      subst hv2
      go_upto_region 4 with fail
      go_region_held3 (fun W => Below v2.heap.size v2 W ∧ W.cell? ⟨b, 0, none⟩ = some (.int .i64 at_) ∧ W.cell? ⟨w.heap.size, 0, none⟩ = some (.slice Q q.length cq))
        (first | exact HKB.out _ HS.out HB.out _ (below_drawn (Below.refl _ _)) | (assumption) | exact HKB.out _ HS.out HB.out _ HB5.out)
        (first | (go_at_call 65; go_fit (CQ.out _ HB.out _ _ (by assumption)); rintro r w5 ⟨⟨A5, c5, rfl, h5⟩, hb5⟩; have H5 := Lib.hid h5; have HB5 := Lib.hid (bthen (below_drawn (Below.refl _ _)) hb5); clear h5 hb5))
      all_goals go_wp2_with fail
      all_goals go_ret2
      all_goals exact ⟨A5, c5, by rw [HRQ.out]; rfl, by rw [HRQ.out]; exact H5.out.mono (fun k hk => by have h8 : v2.heap.size ≤ k := hk; have := HB.out.size; have := HB1.out.size; omega), HS.out.below HB5.out, (But.of_below HB1.out).trans (HB.out.trans (But.of_below HB5.out))⟩
    · have HRQ := Lib.hid (HR.out.1 h0)
      clear HR
      have d0 : (e == 0) = false := by simp [h0]
      clear h0
      go_wp2_with fail
      go_ret2
      exact ⟨none, 0, by rw [HRQ.out]; rfl, by rw [HRQ.out]; exact Sl.nil_, HS.out, (But.of_below HB1.out).trans HB.out⟩
end
end Go.Proofs.YtfoghahidofegaaGreat

namespace Go.Proofs.YtfoghahidofegaaGreat
open Go.RowKit Go.Maps

section
variable {α : Type} {d : Kn α} {P : Program} {ops : Array Oper} {rest : List Oper} {o : Oper} {a : Act} {Q : Exit → Act → World → Prop}
theorem step_pushN {W : World} {K : Act → World → Prop} {E : Prop} (hgd : o.guard = none) (s x : Operand) (t : TypeId)
    (ho : o.op = .call { callee := .builtin .append, args := #[s, x], argTypes := #[t, t] })
    (e : TypeId) (z : Value) (size bytes : Nat) (ht : P.underlying t = some (.slice e)) (hinfo : (P.info? e).map (fun i => (i.zero, i.size, i.bytes)) = some (some z, size, bytes)) (hz : z.cells.size = size) (hs0 : 0 < size) (hb0 : 0 < bytes)
    (hd : d.sz = size) (base : Nat) (ok : Nat → Prop) (v : Value) (xs : List α) (g : Option Nat) (hs : a.eval s = v) (hnx : NxR d e base ok W v xs g) (y : α) (cs : List Value) (hk : d.K (fun k => ok k ∧ some k ≠ g) W y cs)
    (H : Nat) (hH : W.heap.size = H) (hx : a.eval x = .slice (some ⟨H, 0, none⟩) 1 1) (hbase : base ≤ W.heap.size) (hl : (xs.length + 1) * bytes ≤ 140737488355328)
    (h : ∀ v1 w1 g1, NxR d e base ok w1 v1 (xs ++ [y]) g1 → W.grownBy w1 g → (g1 = g ∨ ∃ b, g1 = some b ∧ W.heap.size ≤ b) → K (a.put o.dst v1) w1) :
    if Region.wanted o (yielded ops a.tmps) = true then Oper.wp P o a (W.alloc (.cells cs.toArray e)) K Q else E := by
  rcases hnx with ⟨hown, rfl⟩ | ⟨rfl, A, rfl, hsl, hnil⟩
  · exact step_push hgd s x t ho e z size bytes ht hinfo hz hs0 hb0 hd base ok v xs hs hown y cs hk H hH hx hbase hl (fun v1 w1 h1 h2 h3 _ => h v1 w1 _ (.inl ⟨h1, rfl⟩) h2 (h3.imp id (fun e1 => ⟨_, e1, by omega⟩)))
  · cases A with
    | none =>
      have hxs := hsl.none_nil'
      subst hxs
      exact step_push hgd s x t ho e z size bytes ht hinfo hz hs0 hb0 hd base ok (.slice none 0 0) [] hs (Own.nil_ _ _ _ _ _) y cs (d.mono (fun k hk => ⟨hk.1, by simp [Value.ownBlock]⟩) hk) H hH hx hbase hl (fun v1 w1 h1 h2 h3 _ => h v1 w1 _ (.inl ⟨h1, rfl⟩) h2 (h3.imp id (fun e1 => ⟨_, e1, by omega⟩)))
    | some ad =>
      obtain ⟨v', w', hr, h1, h2, b, h3, h4⟩ := run_append_fullD (P := P) t o.type e z size bytes ht hinfo hz hs0 hd hsl y (d.mono (fun k hk => hk.1) hk) hH hl hb0
      have hw : Region.wanted o (yielded ops a.tmps) = true := by simp [Region.wanted, hgd]
      rw [if_pos hw]
      unfold Oper.wp
      simp only [execOp, ho, resolve, invoke, builtin, Sem.run_bind, Sem.run_pure, Result.andThen_ok, List.map_toArray, List.map_cons, List.map_nil, hs, hx, hr]
      exact h v' w' _ (.inl ⟨h1.lower hbase, rfl⟩) h2 (.inr ⟨b, h3, h4⟩)
end
theorem clipE_any {w : World} {E : Option Addr} {n ce : Nat} (h1 : n ≤ ce) (h2 : ce ≤ maxLen) : Calls Tryz.prog 82 #[.slice E n ce] w fun r w' => r = .returned (.slice E n n) ∧ w = w' := by
  unfold maxLen at h2
  have b1 : (0 : Int) ≤ (n : Int) := Int.natCast_nonneg _
  have b2 : (n : Int) ≤ (ce : Int) := by omega
  have b3 : (n : Int) ≤ (n : Int) := Int.le_refl _
  go_enter Tryz.func82, Tryz.ntmps82
  go_wp2_with fail
  go_ret
  exact ⟨rfl, rfl⟩
theorem cntS_snoc (vs : List Event) (v : Event) (s : ByteArray) : cntS (vs ++ [v]) s = cntS vs s + if v.stream = s then 1 else 0 := by
  unfold cntS
  rw [List.filter_append, List.length_append]
  by_cases h : v.stream = s <;> simp [h]
section
variable {w : World} {b at_ : Nat} {gs : List Grd} {vs : List Event} {X : Nat → Prop} {B : Six} {es : List Event} {Z : Nat → Prop}
set_option maxHeartbeats 4000000 in
set_option maxRecDepth 8000 in
theorem sOwn (h : Ss w 127 b at_ gs vs X) (s : ByteArray) :
    Calls Tryz.prog 81 #[.pointer (some ⟨b, 0, none⟩), .string s] w fun r w' => r = .returned (.int .i64 (cntS vs s)) ∧ Below w.heap.size w w' := by
  obtain ⟨G, cg, E, ce, hbx, _, hE, _⟩ := h.bx
  have hvl := h.vl
  have x2 := hbx.cell 2
  simp only [List.getElem?_cons_succ, List.getElem?_cons_zero] at x2
  have HE := Lib.hid hE.any
  have hc1 := hE.1
  have hc2 := hE.2.1
  unfold maxLen at hc2
  clear h hbx hE
  go_enter Tryz.func81, Tryz.ntmps81
  go_wp2_with fail
  go_loopw [5, 13] (fun n i wr => ∃ k : Nat, k ≤ vs.length ∧ i = .int .i64 k ∧ n = .int .i64 (cntS (vs.take k) s : Int) ∧ Below w.heap.size w wr) (fun _ i _ => vs.length - (intOf i).toNat)
  case atStart => exact ⟨0, Nat.zero_le _, rfl, rfl, Below.refl _ _⟩
  case round =>
    obtain ⟨k, hk, rfl, rfl, hb⟩ := hrel
    by_cases hlt : k < vs.length
    · obtain ⟨ad, S, sa, T, ta, rfl, c0, c1, c2, c3, _, _⟩ := row_ev_at (HE.out.below hb).2.2 hlt
      have HCN := Lib.hid (show cntS (vs.take (k + 1)) s = cntS (vs.take k) s + if vs[k].stream = s then 1 else 0 by rw [List.take_succ_eq_append_getElem hlt, cntS_snoc])
      have hcn := cntS_le (vs.take k) s
      rw [List.length_take] at hcn
      generalize vs[k] = v at c0 c1 c2 c3 HCN
      generalize cntS (vs.take k) s = m at hcn HCN ⊢
      have hq := strEqL v.stream s
      have HB := Lib.hid hb
      have i1 : (0 : Int) ≤ (k : Int) := Int.natCast_nonneg _
      have i2 : (k : Int) < (vs.length : Int) := by omega
      have i3 : IntKind.i64.wrap ((k : Int) + 1) = (k : Int) + 1 := IntWalk.i64_in _ (by omega)
      have i4 : IntKind.i64.wrap ((m : Int) + 1) = (m : Int) + 1 := IntWalk.i64_in _ (by omega)
      clear hb
      by_cases hs : v.stream = s
      · rw [decide_eq_true hs] at hq
        have HCN := Lib.hid (show ((cntS (vs.take (k + 1)) s : Nat) : Int) = (m : Int) + 1 by rw [HCN.out, if_pos hs]; omega)
        clear hs
        go_wp2_with fail
        go_roundw
        case rel => exact ⟨k + 1, by omega, by go_num, by rw [HCN.out], HB.out.alloc HB.out.size _⟩
        case measure => simp [intOf]; omega
      · rw [decide_eq_false hs] at hq
        have HCN := Lib.hid (show ((cntS (vs.take (k + 1)) s : Nat) : Int) = (m : Int) by rw [HCN.out, if_neg hs]; omega)
        clear hs
        go_wp2_with fail
        go_roundw
        case rel => exact ⟨k + 1, by omega, by go_num, by rw [HCN.out], HB.out.alloc HB.out.size _⟩
        case measure => simp [intOf]; omega
    · obtain rfl : k = vs.length := by omega
      rw [List.take_length]
      go_wp2_with fail
      go_ret
      exact ⟨rfl, hb⟩
set_option maxHeartbeats 2000000 in
theorem sCheck (h : Ss w 127 b at_ gs vs X) (hi : Ix w B es Z) :
    Calls Tryz.prog 38 #[.pointer (some ⟨b, 0, none⟩), .pointer (some ⟨B.b, 0, none⟩)] w fun r w' => r = .returned (.int .i64 (chkE es gs vs)) ∧ Below w.heap.size w w' := by
  obtain ⟨G, cg, E, ce, hbx, hG, hE, _⟩ := h.bx
  have x1 := hbx.cell 1
  have x2 := hbx.cell 2
  simp only [List.getElem?_cons_succ, List.getElem?_cons_zero] at x1 x2
  have C := Lib.hid (all_any hi hG.any (fun g hg => (h.gin g hg).1))
  unfold chkE
  obtain ⟨o, ho⟩ : ∃ o, gs.any (fun g => !holdsR es g) = o := ⟨_, rfl⟩
  rw [ho] at C ⊢
  obtain ⟨n, hn⟩ : ∃ n, vs.length = n := ⟨_, rfl⟩
  rw [hn] at x2 ⊢
  clear h hi hbx hG hE ho hn
  by_cases h0 : n = 0
  · subst h0
    go_enter Tryz.func38, Tryz.ntmps38
    go_wp2_with fail
    go_ret
    exact ⟨rfl, Below.refl _ _⟩
  · rw [if_neg h0]
    have d0 : ((n : Int) == 0) = false := by simp [h0]
    have d1 : ¬ (n : Int) = 0 := by omega
    cases o
    all_goals
      go_enter Tryz.func38, Tryz.ntmps38
      go_wp2_with (go_at_call 26; go_fit C.out; rintro r w2 ⟨rfl, hb2⟩; have HB2 := Lib.hid hb2; clear hb2)
      go_ret
      exact ⟨rfl, HB2.out⟩
end
end Go.Proofs.YtfoghahidofegaaGreat

namespace Go.Proofs.YtfoghahidofegaaGreat
open Go.RowKit Go.Maps

theorem normOk_any {w : World} {e : Event} {T F : Option Addr} {ct cf : Nat} (hT : SlS w T ct e.tags) (hF : SlF w F cf e.fields) (hok : OkE e) (hin : EvIn e) :
    Calls Tryz.prog 83 #[vEvent e T ct F cf] w fun r w' => ∃ (T' F' : Option Addr) (ct' cf' : Nat), r = .returned (.agg #[.string e.stream, .string e.type, .slice T' e.tags.length ct', .slice F' e.fields.length cf']) ∧ Sl Kn.str (fun k => w.heap.size ≤ k) w' T' ct' e.tags ∧ Sl kField (fun k => w.heap.size ≤ k) w' F' cf' e.fields ∧ Below w.heap.size w w' := by
  refine (normE_any hT hF hin.tl hin.fl hin.fs).mono ?_
  rintro r w' ⟨vt, vf, M, rfl, h1, h2, h3, _, hb⟩
  rw [uniq_of_rise hok.rt] at h1
  rw [normF_of_rise hok.rf] at h2
  obtain ⟨T', ct', rfl, h4⟩ := h1.sl
  obtain ⟨F', cf', rfl, h5⟩ := h2.sl
  exact ⟨T', F', ct', cf', rfl, h4.mono (fun k hk => hk.elim False.elim id), h5.mono (fun k hk => hk.elim False.elim (fun h => by omega)), hb⟩
theorem app_no {es : List Event} {at_ : Nat} {gs : List Grd} {vs : List Event} {v : Event} {n : Int} (h : appE es at_ gs vs v n ≠ 0) : appG es at_ gs vs v n = gs ∧ appV es at_ gs vs v n = vs := by
  unfold appG appV
  exact ⟨if_neg (fun h2 => h h2.1), if_neg h⟩
theorem app_ok {es : List Event} {at_ : Nat} {gs : List Grd} {vs : List Event} {v : Event} {n : Int} (h : appE es at_ gs vs v n = 0) : appG es at_ gs vs v n = (if 0 ≤ n then keepL gs (gRead es at_ v.stream) else gs) ∧ appV es at_ gs vs v n = vs ++ [v] := by
  unfold appG appV
  refine ⟨?_, if_pos h⟩
  by_cases h2 : 0 ≤ n
  · rw [if_pos ⟨h, h2⟩, if_pos h2]
  · rw [if_neg (fun h3 => h2 h3.2), if_neg h2]
section
variable {w : World} {b at_ : Nat} {gs : List Grd} {vs : List Event} {X : Nat → Prop} {B : Six} {es : List Event} {Z : Nat → Prop}
set_option maxHeartbeats 16000000 in
set_option maxRecDepth 8000 in
theorem sAppend (h : Ss w 127 b at_ gs vs X) (hi : Ix w B es Z) (hZ : Z b) {v : Event} {T F : Option Addr} {ct cf : Nat} (hT : Sl Kn.str (fun k => k ≠ b) w T ct v.tags) (hF : Sl kField (fun k => k ≠ b) w F cf v.fields) (hlen : v.fields.length ≤ 1000000) (hgt : ∀ s ∈ v.tags, s.size ≤ maxLen) (hin : mayE v = 0 → EvIn v) (n : Int) :
    Calls Tryz.prog 34 #[.pointer (some ⟨b, 0, none⟩), .pointer (some ⟨B.b, 0, none⟩), vEvent v T ct F cf, .int .i64 n] w fun r w' => r = .returned (.int .i64 (appE es at_ gs vs v n)) ∧ Ss w' 127 b at_ (appG es at_ gs vs v n) (appV es at_ gs vs v n) X ∧ But (fun k => k = b) w w' := by
  obtain ⟨W1, hW1⟩ : ∃ W1, W1 = w.alloc (.cells #[.string v.stream, .string v.type, .slice T v.tags.length ct, .slice F v.fields.length cf] 42) := ⟨_, rfl⟩
  have HW1 := Lib.hid hW1
  have hb1 : Below w.heap.size w W1 := by rw [hW1]; exact (Below.refl _ _).alloc (Nat.le_refl _) _
  have hx : Bx W1 w.heap.size 42 [.string v.stream, .string v.type, .slice T v.tags.length ct, .slice F v.fields.length cf] := by rw [hW1]; exact Bx.new w _ _
  have h1 := h.below hb1
  have hi1 := hi.below hb1
  have hlt := h.lt
  obtain ⟨m, hm⟩ : ∃ m, mayE v = m := ⟨_, rfl⟩
  have CM := Lib.hid (show Calls Tryz.prog 80 #[vEvent v T ct F cf] W1 fun r w' => r = .returned (.int .i64 m) ∧ Below W1.heap.size W1 w' from by rw [← hm]; exact mayE_any (hT.any.below hb1) (hF.any.below hb1) hlen hgt)
  unfold vEvent at CM
  have k0 := hx.cell 0
  have k1 := hx.cell 1
  have k2 := hx.cell 2
  have k3 := hx.cell 3
  simp only [List.getElem?_cons_succ, List.getElem?_cons_zero] at k0 k1 k2 k3
  have HB1 := Lib.hid hb1
  have HX := Lib.hid hx
  have H1 := Lib.hid h1
  have HI1 := Lib.hid hi1
  have HT := Lib.hid (hT.below hb1)
  have HF := Lib.hid (hF.below hb1)
  have HMV := Lib.hid hm
  have HINV := Lib.hid hin
  have HS0 := Lib.hid h
  unfold vEvent
  clear h h1 hi hi1 hT hF hlen hgt hin hb1 hx hm
  by_cases hm0 : m = 0
  rotate_left
  · have HAE := Lib.hid (show appE es at_ gs vs v n = m by unfold appE; rw [HMV.out, if_pos hm0])
    have HAN := Lib.hid (app_no (es := es) (at_ := at_) (gs := gs) (vs := vs) (v := v) (n := n) (by rw [HAE.out]; exact hm0))
    have d0 : (m == 0) = false := by simp [hm0]
    clear hm0
    go_enter Tryz.func34, Tryz.ntmps34
    go_upto_region 1 with fail
    rw [← HW1.out]
    clear hW1 HW1
    go_wp2_with (go_at_call 80; go_fit CM.out; rintro r w2 ⟨rfl, hb2⟩; have HB2 := Lib.hid hb2; clear hb2)
    go_ret
    exact ⟨by rw [HAE.out]; rfl, by rw [HAN.out.1, HAN.out.2]; exact HS0.out.below (bthen HB1.out HB2.out), But.of_below (bthen HB1.out HB2.out)⟩
  subst hm0
  have HM0 := HMV
  have HOK := Lib.hid ((mayE_iff v).1 HM0.out)
  have HIN := Lib.hid (HINV.out HM0.out)
  obtain ⟨nv, hnv⟩ : ∃ nv, verR es v.stream at_ = nv := ⟨_, rfl⟩
  have hnvl : nv ≤ 1000 := by rw [← hnv]; have := strmR_len es v.stream at_; have := HI1.out.len; unfold verR; omega
  obtain ⟨no, hno⟩ : ∃ no, cntS vs v.stream = no := ⟨_, rfl⟩
  have hnol : no ≤ 16 := by rw [← hno]; have := cntS_le vs v.stream; have := HS0.out.vl; omega
  have CV := Lib.hid (fun W (R : Prop) (hW : Below W1.heap.size W1 W ∧ R) => show Calls Tryz.prog 37 #[.pointer (some ⟨B.b, 0, none⟩), .string v.stream, .int .i64 at_] W fun r w' => r = .returned (.int .i64 nv) ∧ W = w' from by rw [← hnv]; exact iVersion (HI1.out.below hW.1) HIN.out.st at_)
  have HKV := Lib.hid (fun W (hW : Below W1.heap.size W1 W) => show Below W1.heap.size W1 W ∧ W.cell? ⟨b, 0, none⟩ = some (.int .i64 at_) ∧ W.cell? ⟨w.heap.size, 0, none⟩ = some (.string v.stream) from by
    obtain ⟨_, _, _, _, h2, _⟩ := (H1.out.below hW).bx
    exact ⟨hW, h2.cell 0, (HX.out.under hW).cell 0⟩)
  have HAPP : Hid (appE es at_ gs vs v n = if 16 ≤ vs.length then 3 else if n < -1 then 1 else if 0 ≤ n ∧ n ≠ (nv : Int) + (no : Int) then 23 else if 0 ≤ n then addE gs (gRead es at_ v.stream) else 0) := Lib.hid (by unfold appE; rw [HM0.out, hnv, hno, if_neg (by simp)])
  clear HMV HINV
  go_enter Tryz.func34, Tryz.ntmps34
  go_upto_region 1 with fail
  rw [← HW1.out]
  clear hW1 HW1
  go_upto_region 4 with (go_at_call 80; go_fit CM.out; rintro r w2 ⟨rfl, hb2⟩; have HB2 := Lib.hid hb2; clear hb2)
  clear CM k0 k1 k2 k3
  go_cut [10] (fun x wx => x = .int .i64 nv ∧ Below W1.heap.size W1 wx)
  case first =>
    go_region_held3 (fun W => Below W1.heap.size W1 W ∧ W.cell? ⟨b, 0, none⟩ = some (.int .i64 at_) ∧ W.cell? ⟨w.heap.size, 0, none⟩ = some (.string v.stream))
      (first | exact HKV.out _ (below_drawn HB2.out) | (assumption))
      (first | (go_at_call 37; go_fit (CV.out _ _ (by assumption)); rintro r w3 ⟨rfl, rfl⟩))
    all_goals go_wp2_with fail
    all_goals go_meet
    all_goals exact ⟨rfl, below_drawn HB2.out⟩
  case rest =>
    obtain ⟨rfl, hbc⟩ := hcut
    have HBC := Lib.hid hbc
    have HSC := Lib.hid (H1.out.below hbc)
    have HBW := Lib.hid (bthen HB1.out hbc)
    have hxc := HX.out.under hbc
    have HXC := Lib.hid hxc
    have x0 := hxc.cell 0
    simp only [List.getElem?_cons_zero] at x0
    obtain ⟨G, cg, E, ce, hbx, _⟩ := HSC.out.bx
    have x2 := hbx.cell 2
    simp only [List.getElem?_cons_succ, List.getElem?_cons_zero] at x2
    have CO := Lib.hid (show Calls Tryz.prog 81 #[.pointer (some ⟨b, 0, none⟩), .string v.stream] wc fun r w' => r = .returned (.int .i64 no) ∧ Below wc.heap.size wc w' from by rw [← hno]; exact sOwn HSC.out v.stream)
    have hvl := HSC.out.vl
    have ewr : IntKind.i64.wrap ((nv : Int) + (no : Int)) = (nv : Int) + (no : Int) := IntWalk.i64_in _ (by omega)
    clear hbc hxc hbx CV HKV
    have hnvv := Lib.hid hnv
    clear hnv hno
    obtain ⟨v2, hv2⟩ : ∃ v2, v2 = wc := ⟨_, rfl⟩
    subst hv2
    by_cases h16 : 16 ≤ vs.length
    · have HAE := Lib.hid (show appE es at_ gs vs v n = 3 by rw [HAPP.out, if_pos h16])
      have HAN := Lib.hid (app_no (es := es) (at_ := at_) (gs := gs) (vs := vs) (v := v) (n := n) (by rw [HAE.out]; simp))
      go_wp2_with fail
      go_ret
      exact ⟨by rw [HAE.out]; rfl, by rw [HAN.out.1, HAN.out.2]; exact HSC.out, But.of_below HBW.out⟩
    by_cases hn1 : n < -1
    · have HAE := Lib.hid (show appE es at_ gs vs v n = 1 by rw [HAPP.out, if_neg h16, if_pos hn1])
      have HAN := Lib.hid (app_no (es := es) (at_ := at_) (gs := gs) (vs := vs) (v := v) (n := n) (by rw [HAE.out]; simp))
      go_wp2_with fail
      go_ret
      exact ⟨by rw [HAE.out]; rfl, by rw [HAN.out.1, HAN.out.2]; exact HSC.out, But.of_below HBW.out⟩
    have HV16 := Lib.hid (show vs.length < 16 by omega)
    have HTW := Lib.hid (fun W (hb : But (fun k => k = b) W1 W) => ((HT.out.stay hb.size (fun k hk hl => hb.block k hl hk)).any))
    have HFW := Lib.hid (fun W (hb : But (fun k => k = b) W1 W) => ((HF.out.stay hb.size (fun k hk hl => hb.block k hl hk)).any))
    by_cases hn0 : 0 ≤ n
    · by_cases hne : n = (nv : Int) + (no : Int)
      · obtain ⟨f, hf⟩ : ∃ f, addE gs (gRead es at_ v.stream) = f := ⟨_, rfl⟩
        have hgr : (v.stream, (nv : Int), ([] : List Clause), false) = gRead es at_ v.stream := by unfold gRead; rw [hnvv.out]
        have CK := Lib.hid (fun W (hW : Below v2.heap.size v2 W) => show Calls Tryz.prog 77 #[.pointer (some ⟨b, 0, none⟩), .agg #[.string v.stream, .int .i64 nv, .slice none 0 0, .bool false]] W fun r w' => r = .returned (.int .i64 f) ∧ Ss w' 127 b at_ (keepL gs (gRead es at_ v.stream)) vs X ∧ But (fun k => k = b) W w' from by
          have := sKeep (HSC.out.below hW) (s := v.stream) (v := (nv : Int)) (q := []) (a := false) (Q := none) (cq := 0) Sl.nil_ ⟨HIN.out.st, by simp⟩
          rw [hgr, hf] at this
          exact this)
        have HAE := Lib.hid (show appE es at_ gs vs v n = f by rw [HAPP.out, if_neg h16, if_neg hn1, if_neg (fun h => h.2 hne), if_pos hn0]; exact hf)
        have HKN := Lib.hid (show f ≠ 0 → keepL gs (gRead es at_ v.stream) = gs from fun h => keepL_no (by rw [hf]; exact h))
        have HXU := Lib.hid (fun W (hW : Below v2.heap.size v2 W) => show W.cell? ⟨w.heap.size, 0, none⟩ = some (.string v.stream) from (HXC.out.under hW).cell 0)
        have dq : (n == (nv : Int) + (no : Int)) = true := by simp [hne]
        have HNE := Lib.hid hne
        clear hgr hf hne
        by_cases h0 : f = 0
        · subst h0
          have HAO := Lib.hid (app_ok HAE.out)
          have HAG := Lib.hid (show appG es at_ gs vs v n = keepL gs (gRead es at_ v.stream) by rw [HAO.out.1, if_pos hn0])
          have HAV := Lib.hid (HAO.out.2)
          go_upto_region 15 with (first
            | (go_at_call 81; go_fit CO.out; rintro r w3 ⟨rfl, hb3⟩; have HB3 := Lib.hid hb3; have x3 := HXU.out _ hb3; clear hb3)
            | (go_at_call 77; go_fit (CK.out _ HB3.out); rintro r w4 ⟨rfl, h4, hb4⟩; have HS15 := Lib.hid h4; have HB4 := Lib.hid (show But (fun k => k = b) v2 w4 from (But.of_below HB3.out).trans hb4); clear h4 hb4))
          obtain ⟨wk, hwk⟩ : ∃ wk, wk = w4 := ⟨_, rfl⟩
          subst hwk
          have HBV := Lib.hid (show But (fun k => k = b) W1 wk from (But.of_below HBC.out).trans HB4.out)
          have HB15 := Lib.hid (show But (fun k => k = b) w wk from (But.of_below HB1.out).trans HBV.out)
          have HBX15 := Lib.hid (HX.out.stay (w' := wk) (fun hk => HBV.out.block _ hk (by omega)))
          have HT15 := Lib.hid (HTW.out _ HBV.out)
          have HF15 := Lib.hid (HFW.out _ HBV.out)
          clear x0 x2 CO CK HAPP HAO
          obtain ⟨G, cg, E, ce, hbx, hG, hE, hn⟩ := HS15.out.bx
          have hvl := HS15.out.vl
          have hc1 := hE.1
          have hc2 := hE.2.1
          have HKC := Lib.hid (fun W (hb : Below wk.heap.size wk W) => show W.cell? ⟨b, 2, none⟩ = some (.slice E vs.length ce) ∧ W.cell? ⟨w.heap.size, 0, none⟩ = some (.string v.stream) ∧ W.cell? ⟨w.heap.size, 1, none⟩ = some (.string v.type) ∧ W.cell? ⟨w.heap.size, 2, none⟩ = some (.slice T v.tags.length ct) ∧ W.cell? ⟨w.heap.size, 3, none⟩ = some (.slice F v.fields.length cf) from
            ⟨(hbx.under hb).cell 2, (HBX15.out.under hb).cell 0, (HBX15.out.under hb).cell 1, (HBX15.out.under hb).cell 2, (HBX15.out.under hb).cell 3⟩)
          have HFR := Lib.hid (fun W (hb : Below wk.heap.size wk W) => (hbx.under hb).free 2)
          have CN := Lib.hid (fun W (hb : Below wk.heap.size wk W) => normOk_any (w := W) (HT15.out.below hb) (HF15.out.below hb) HOK.out HIN.out)
          have CC := Lib.hid (fun W => clipE_any (w := W) (E := E) hc1 hc2)
          have HNX := Lib.hid (fun W (hb : Below wk.heap.size wk W) => show NxR kEvent 42 wk.heap.size (fun k => (k ≠ b ∧ ¬ X k) ∨ wk.heap.size ≤ k) W (.slice E vs.length vs.length) vs none from
            .inr ⟨rfl, E, rfl, ⟨Nat.le_refl _, by unfold maxLen; omega, ((hE.below hb).mono (fun k hk => .inl hk)).2.2⟩, hn⟩)
          obtain ⟨k0, k1, k2, k3, k4⟩ := HKC.out wk (Below.refl _ _)
          have HVL := Lib.hid hvl
          clear hbx hG hE hn hc1 hc2
          unfold vEvent at CN
          go_region_law
            (first
              | (refine step_pushN (W := w9) rfl _ _ _ rfl 42 _ 4 80 Tryz.underlying43 infoEv rfl (by decide) (by decide) rfl wk.heap.size (fun k => (k ≠ b ∧ ¬ X k) ∨ wk.heap.size ≤ k) (.slice E vs.length vs.length) vs none rfl (HNX.out _ HB9.out) v [.string v.stream, .string v.type, .slice T9 v.tags.length ct9, .slice F9 v.fields.length cf9] (kEvent_mk (HT9.out.mono (fun k hk => ⟨.inr hk, by simp⟩)) (HF9.out.mono (fun k hk => ⟨.inr hk, by simp⟩))) w9.heap.size rfl rfl HB9.out.size (by have := HVL.out; omega) ?_; intro v10 w10 g10 hnx10 hg10 hat10; obtain ⟨A10, c10, hv10, hsl10⟩ := hnx10.slice; subst hv10; have HSL10 := Lib.hid (show Sl kEvent (fun k => (k ≠ b ∧ ¬ X k) ∨ wk.heap.size ≤ k) w10 A10 c10 (vs ++ [v]) from hsl10.mono (fun k hk => hk.elim id .inr)); have HB10 := Lib.hid (bthen HB9.out (show Below w9.heap.size w9 w10 from ⟨hg10.os, hg10.tape, hg10.output, hg10.size, fun k hk => hg10.block k hk (by simp)⟩)); have f10 := HFR.out _ HB10.out; have c10' := (HKC.out _ HB10.out).1; clear hnx10 hg10 hat10 hsl10)
              | (go_simp; go_at_call 82; go_fit (CC.out _); rintro r w8 ⟨rfl, rfl⟩)
              | (go_simp; go_at_call 83; go_fit (CN.out _ (below_drawn (Below.refl _ _))); rintro r w9 ⟨T9, F9, ct9, cf9, rfl, ht9, hf9, hb9⟩; have HB9 := Lib.hid (show Below wk.heap.size wk w9 from bthen (below_drawn (Below.refl wk.heap.size wk)) hb9); have HT9 := Lib.hid (show Sl Kn.str (fun k => wk.heap.size ≤ k) w9 T9 ct9 v.tags from ht9); have HF9 := Lib.hid (show Sl kField (fun k => wk.heap.size ≤ k) w9 F9 cf9 v.fields from hf9); obtain ⟨e0, e1, e2, e3, e4⟩ := HKC.out _ HB9.out; clear ht9 hf9 hb9))
          all_goals go_wp2_with fail
          all_goals go_ret
          all_goals
            have hput := HS15.out.putV HB10.out HSL10.out (fun x hx => (List.mem_append.1 hx).elim (HS15.out.vin x) (fun hx => by rw [List.mem_singleton.1 hx]; exact ⟨HIN.out, HM0.out⟩)) (by rw [List.length_append, List.length_singleton]; have := HV16.out; omega) (fun h => by simp at h)
            rw [List.length_append, List.length_singleton] at hput
            exact ⟨by rw [HAE.out]; rfl, by rw [HAG.out, HAV.out]; exact hput.1, HB15.out.trans hput.2⟩
        · have HAN := Lib.hid (app_no (es := es) (at_ := at_) (gs := gs) (vs := vs) (v := v) (n := n) (by rw [HAE.out]; exact h0))
          have d0 : (f == 0) = false := by simp [h0]
          have HKN := Lib.hid (HKN.out h0)
          clear h0
          go_wp2_with (first
            | (go_at_call 81; go_fit CO.out; rintro r w3 ⟨rfl, hb3⟩; have HB3 := Lib.hid hb3; have x3 := HXU.out _ hb3; clear hb3)
            | (go_at_call 77; go_fit (CK.out _ HB3.out); rintro r w4 ⟨rfl, h4, hb4⟩; have HS4 := Lib.hid h4; have HB4 := Lib.hid (show But (fun k => k = b) v2 w4 from (But.of_below HB3.out).trans hb4); clear h4 hb4))
          go_ret
          exact ⟨by rw [HAE.out]; rfl, by rw [HAN.out.1, HAN.out.2]; have := HS4.out; rw [HKN.out] at this; exact this, (But.of_below HBW.out).trans HB4.out⟩
      · have HAE := Lib.hid (show appE es at_ gs vs v n = 23 by rw [HAPP.out, if_neg h16, if_neg hn1, if_pos ⟨hn0, hne⟩])
        have HAN := Lib.hid (app_no (es := es) (at_ := at_) (gs := gs) (vs := vs) (v := v) (n := n) (by rw [HAE.out]; simp))
        have dq : (n == (nv : Int) + (no : Int)) = false := by simp [hne]
        have dq2 : (n != (nv : Int) + (no : Int)) = true := by simp [hne]
        clear hne
        go_wp2_with (first
          | (go_at_call 81; go_fit CO.out; rintro r w3 ⟨rfl, hb3⟩; have HB3 := Lib.hid hb3; clear hb3))
        go_ret
        exact ⟨by rw [HAE.out]; rfl, by rw [HAN.out.1, HAN.out.2]; exact HSC.out.below HB3.out, But.of_below (bthen HBW.out HB3.out)⟩
    · have HAE := Lib.hid (show appE es at_ gs vs v n = 0 by rw [HAPP.out, if_neg h16, if_neg hn1, if_neg (fun h => hn0 h.1), if_neg hn0])
      have HAO := Lib.hid (app_ok HAE.out)
      have HAG := Lib.hid (show appG es at_ gs vs v n = gs by rw [HAO.out.1, if_neg hn0])
      have HAV := Lib.hid (HAO.out.2)
      go_upto_region 15 with fail
      obtain ⟨wk, hwk⟩ : ∃ wk, wk = v2 := ⟨_, rfl⟩
      subst hwk
      have HS15 := HSC
      have HBV := Lib.hid (show But (fun k => k = b) W1 wk from But.of_below HBC.out)
      have HB15 := Lib.hid (show But (fun k => k = b) w wk from But.of_below HBW.out)
      have HBX15 := HXC
      have HT15 := Lib.hid (HTW.out _ HBV.out)
      have HF15 := Lib.hid (HFW.out _ HBV.out)
      clear x0 x2 CO HAPP HAO
      obtain ⟨G, cg, E, ce, hbx, hG, hE, hn⟩ := HS15.out.bx
      have hvl := HS15.out.vl
      have hc1 := hE.1
      have hc2 := hE.2.1
      have HKC := Lib.hid (fun W (hb : Below wk.heap.size wk W) => show W.cell? ⟨b, 2, none⟩ = some (.slice E vs.length ce) ∧ W.cell? ⟨w.heap.size, 0, none⟩ = some (.string v.stream) ∧ W.cell? ⟨w.heap.size, 1, none⟩ = some (.string v.type) ∧ W.cell? ⟨w.heap.size, 2, none⟩ = some (.slice T v.tags.length ct) ∧ W.cell? ⟨w.heap.size, 3, none⟩ = some (.slice F v.fields.length cf) from
        ⟨(hbx.under hb).cell 2, (HBX15.out.under hb).cell 0, (HBX15.out.under hb).cell 1, (HBX15.out.under hb).cell 2, (HBX15.out.under hb).cell 3⟩)
      have HFR := Lib.hid (fun W (hb : Below wk.heap.size wk W) => (hbx.under hb).free 2)
      have CN := Lib.hid (fun W (hb : Below wk.heap.size wk W) => normOk_any (w := W) (HT15.out.below hb) (HF15.out.below hb) HOK.out HIN.out)
      have CC := Lib.hid (fun W => clipE_any (w := W) (E := E) hc1 hc2)
      have HNX := Lib.hid (fun W (hb : Below wk.heap.size wk W) => show NxR kEvent 42 wk.heap.size (fun k => (k ≠ b ∧ ¬ X k) ∨ wk.heap.size ≤ k) W (.slice E vs.length vs.length) vs none from
        .inr ⟨rfl, E, rfl, ⟨Nat.le_refl _, by unfold maxLen; omega, ((hE.below hb).mono (fun k hk => .inl hk)).2.2⟩, hn⟩)
      obtain ⟨k0, k1, k2, k3, k4⟩ := HKC.out wk (Below.refl _ _)
      have HVL := Lib.hid hvl
      clear hbx hG hE hn hc1 hc2
      unfold vEvent at CN
      go_region_law
        (first
          | (refine step_pushN (W := w9) rfl _ _ _ rfl 42 _ 4 80 Tryz.underlying43 infoEv rfl (by decide) (by decide) rfl wk.heap.size (fun k => (k ≠ b ∧ ¬ X k) ∨ wk.heap.size ≤ k) (.slice E vs.length vs.length) vs none rfl (HNX.out _ HB9.out) v [.string v.stream, .string v.type, .slice T9 v.tags.length ct9, .slice F9 v.fields.length cf9] (kEvent_mk (HT9.out.mono (fun k hk => ⟨.inr hk, by simp⟩)) (HF9.out.mono (fun k hk => ⟨.inr hk, by simp⟩))) w9.heap.size rfl rfl HB9.out.size (by have := HVL.out; omega) ?_; intro v10 w10 g10 hnx10 hg10 hat10; obtain ⟨A10, c10, hv10, hsl10⟩ := hnx10.slice; subst hv10; have HSL10 := Lib.hid (show Sl kEvent (fun k => (k ≠ b ∧ ¬ X k) ∨ wk.heap.size ≤ k) w10 A10 c10 (vs ++ [v]) from hsl10.mono (fun k hk => hk.elim id .inr)); have HB10 := Lib.hid (bthen HB9.out (show Below w9.heap.size w9 w10 from ⟨hg10.os, hg10.tape, hg10.output, hg10.size, fun k hk => hg10.block k hk (by simp)⟩)); have f10 := HFR.out _ HB10.out; have c10' := (HKC.out _ HB10.out).1; clear hnx10 hg10 hat10 hsl10)
          | (go_simp; go_at_call 82; go_fit (CC.out _); rintro r w8 ⟨rfl, rfl⟩)
          | (go_simp; go_at_call 83; go_fit (CN.out _ (below_drawn (Below.refl _ _))); rintro r w9 ⟨T9, F9, ct9, cf9, rfl, ht9, hf9, hb9⟩; have HB9 := Lib.hid (show Below wk.heap.size wk w9 from bthen (below_drawn (Below.refl wk.heap.size wk)) hb9); have HT9 := Lib.hid (show Sl Kn.str (fun k => wk.heap.size ≤ k) w9 T9 ct9 v.tags from ht9); have HF9 := Lib.hid (show Sl kField (fun k => wk.heap.size ≤ k) w9 F9 cf9 v.fields from hf9); obtain ⟨e0, e1, e2, e3, e4⟩ := HKC.out _ HB9.out; clear ht9 hf9 hb9))
      all_goals go_wp2_with fail
      all_goals go_ret
      all_goals
        have hput := HS15.out.putV HB10.out HSL10.out (fun x hx => (List.mem_append.1 hx).elim (HS15.out.vin x) (fun hx => by rw [List.mem_singleton.1 hx]; exact ⟨HIN.out, HM0.out⟩)) (by rw [List.length_append, List.length_singleton]; have := HV16.out; omega) (fun h => by simp at h)
        rw [List.length_append, List.length_singleton] at hput
        exact ⟨by rw [HAE.out]; rfl, by rw [HAG.out, HAV.out]; exact hput.1, HB15.out.trans hput.2⟩
end
end Go.Proofs.YtfoghahidofegaaGreat

namespace Go.Proofs.YtfoghahidofegaaGreat
open Go.RowKit Go.Maps

/-- A guard's query is written into a row of the call's own. -/
theorem Own.setG {e : TypeId} {base : Nat} {ok : Nat → Prop} {w : World} {v : Value} {gs : List Grd} (h : Own kGuard e base ok w v gs) {g : Nat} (hg : v.ownBlock = some g) {k : Nat} {s : ByteArray} {ver : Int} {q : List Clause} {a : Bool} (hk : gs[k]? = some (s, ver, q, a))
    {Q : Option Addr} {cq : Nat} (hq : Sl kClause (fun j => ok j ∧ j ≠ g) w Q cq q) : Own kGuard e base ok (w.setCell ⟨g, k * 4 + 2, none⟩ (.slice Q q.length cq)) v gs := by
  obtain ⟨css, h1, h2, h3, h4, h5⟩ := h
  obtain ⟨cs, h6, h7⟩ := h5 k _ hk
  obtain ⟨c0, c1, hc0, e0, c2, c3, hc2, e2, c4, c5, hc4, ⟨Q0, cq0, e4, _⟩, e5⟩ := h7
  have e0' : c0 = [.string s] := e0
  have e2' : c2 = [.int .i64 ver] := e2
  have e5' : c5 = [.bool a] := e5
  subst e0' e2' e5' e4 hc4 hc2
  have hkl := (List.getElem?_eq_some_iff.1 h6).1
  have hl4 : cs.length = 4 := h3 _ (List.mem_of_getElem? h6)
  have a0 := Own.setAt (d := kGuard) h1 h3 hg (i := 2) h6 (by show 2 < 4; omega) (.slice Q q.length cq)
  have hnew : cs.set 2 (.slice Q q.length cq) = [.string s, .int .i64 ver, .slice Q q.length cq, .bool a] := by rw [hc0]; rfl
  rw [hnew] at a0
  refine ⟨css.set k [.string s, .int .i64 ver, .slice Q q.length cq, .bool a], a0, by simp [h2], ?_, fun c hc => ?_, fun j x hj => ?_⟩
  · intro c' hc'
    rcases List.mem_or_eq_of_mem_set hc' with h | h
    · exact h3 _ h
    · rw [h]; rfl
  · rcases List.mem_or_eq_of_mem_set hc with h | h
    · exact h4 _ h
    · rw [h]; simp [Value.oneCell']
  · have mv : ∀ {x : Grd} {c : List Value}, kGuard.K (fun j => ok j ∧ some j ≠ v.ownBlock) w x c → kGuard.K (fun j => ok j ∧ some j ≠ v.ownBlock) (w.setCell ⟨g, k * 4 + 2, none⟩ (.slice Q q.length cq)) x c :=
      fun hx => Kn.stay hx (by simp [World.setCell]) (fun i hi _ => heap_setCell_other w _ i _ (fun e => hi.2 (by rw [hg, show i = g from e])))
    by_cases hjk : j = k
    · subst hjk
      have hx : (s, ver, q, a) = x := by rw [hk] at hj; exact Option.some.inj hj
      subst hx
      refine ⟨_, List.getElem?_set_self hkl, mv ?_⟩
      exact kGuard_mk (hq.mono (fun i hi => ⟨hi.1, fun e => hi.2 (by rw [hg] at e; exact Option.some.inj e)⟩))
    · obtain ⟨c, h8, h9⟩ := h5 j x hj
      exact ⟨c, by rw [List.getElem?_set_ne (fun e => hjk e.symm)]; exact h8, mv h9⟩

set_option maxHeartbeats 2000000 in
theorem cloneE_any {ok : Nat → Prop} {A : Option Addr} {c : Nat} {l : List Event} {w : World} (h : Sl kEvent ok w A c l) (hl : l.length ≤ 1000000) :
    Calls Tryz.prog 85 #[.slice A l.length c] w fun r w' => ∃ v, r = .returned v ∧ Own kEvent 42 w.heap.size (fun k => ok k ∧ k < w.heap.size) w' v l ∧ Below w.heap.size w w' ∧ (A = none → v = .slice none 0 0) := by
  have HO := Lib.hid (Own.lit0 kEvent 42 w.heap.size (fun k => ok k ∧ k < w.heap.size) w (Nat.le_refl _))
  have HR := Lib.hid (show Row kEvent (fun k => (ok k ∧ k < w.heap.size) ∧ some k ≠ (Value.slice (some ⟨w.heap.size, 0, none⟩) 0 0).ownBlock) (w.alloc (.cells #[] 42)) A l from
    (h.2.2.bound.below ((Below.refl _ _).alloc (Nat.le_refl _) _)).mono (fun k hk => ⟨hk, fun e1 => by have h2 := hk.2; simp [Value.ownBlock] at e1; omega⟩))
  cases A with
  | none =>
    obtain rfl := h.none_nil
    have hq := fun W => Lib.run_eql_slice_nil (P := Tryz.prog) W 43 _ none 0 c 0 0 Tryz.underlying43
    go_enter Tryz.func85, Tryz.ntmps85
    go_wp2_with fail
    go_ret
    exact ⟨_, rfl, Own.nil_ _ _ _ _ _, Below.refl _ _, fun _ => rfl⟩
  | some ad =>
    clear h
    have hq := fun W => Lib.run_eql_slice_nil (P := Tryz.prog) W 43 _ (some ad) l.length c 0 0 Tryz.underlying43
    go_enter Tryz.func85, Tryz.ntmps85
    go_wp2_with (at_builtin; refine wpList_spread rfl _ _ _ rfl 42 _ 4 80 Tryz.underlying43 infoEv rfl (by decide) (by decide) rfl w.heap.size (fun k => ok k ∧ k < w.heap.size) _ [] rfl HO.out l (some ad) c HR.out rfl (by simp) (by simp; omega) ?_; intro v1 w1 hown1 hg1 hat1 hbel1; have HO1 := Lib.hid (show Own kEvent 42 w.heap.size (fun k => ok k ∧ k < w.heap.size) w1 v1 l from hown1); have HB1 := Lib.hid (hbel1 w ((Below.refl _ _).alloc (Nat.le_refl _) _)); clear hown1 hg1 hat1 hbel1)
    go_ret
    exact ⟨v1, rfl, HO1.out, HB1.out, fun h => by cases h⟩
section
variable {w : World} {b at_ : Nat} {gs : List Grd} {vs : List Event} {X : Nat → Prop}
set_option maxHeartbeats 4000000 in
set_option maxRecDepth 8000 in
theorem sGuards (h : Ss w 127 b at_ gs vs X) :
    Calls Tryz.prog 32 #[.pointer (some ⟨b, 0, none⟩)] w fun r w' => ∃ A c, r = .returned (.slice A gs.length c) ∧ Sl kGuard (fun k => (k ≠ b ∧ ¬ X k) ∨ w.heap.size ≤ k) w' A c gs ∧ Below w.heap.size w w' := by
  obtain ⟨G, cg, E, ce, hbx, hG, hE, _⟩ := h.bx
  have x1 := hbx.cell 1
  simp only [List.getElem?_cons_succ, List.getElem?_cons_zero] at x1
  have hgl := h.gl
  have CL := Lib.hid (cloneG_any hG (by omega))
  have HGI := Lib.hid h.gin
  clear h hbx hG hE
  go_enter Tryz.func32, Tryz.ntmps32
  go_wp2_with (go_at_call 73; go_fit CL.out; rintro r w2 ⟨v, rfl, hown, hb⟩; have HO := Lib.hid (hown.mono (ok' := fun k => (k ≠ b ∧ ¬ X k) ∨ w.heap.size ≤ k) (fun k hk => .inl hk.1)); have HB := Lib.hid hb; obtain ⟨A1, c1, hv, hlc, hcm, hw⟩ := hown.where_; subst hv; have HW := Lib.hid hw; clear hown hb hw)
  unfold maxLen at hcm
  go_loopw [12] (fun i wr => ∃ k : Nat, k ≤ gs.length ∧ i = .int .i64 k ∧ Own kGuard 52 w.heap.size (fun k => (k ≠ b ∧ ¬ X k) ∨ w.heap.size ≤ k) wr (.slice A1 gs.length c1) gs ∧ Below w.heap.size w wr) (fun i _ => gs.length - (intOf i).toNat)
  case atStart => exact ⟨0, Nat.zero_le _, rfl, HO.out, HB.out⟩
  case round =>
    obtain ⟨k, hk, rfl, ho, hb⟩ := hrel
    by_cases hlt : k < gs.length
    · obtain ⟨g, rfl, hg, hbg, hgl2, _⟩ := HW.out (by omega)
      obtain ⟨_, _, _, _, _, hgw⟩ := ho.where_
      obtain ⟨g', hg1, hg2, _, hgl3, cs, hbx⟩ := hgw (by omega)
      have hgg : g' = g := by rw [hg2] at hg; exact Option.some.inj hg
      subst hgg
      have hro : Row kGuard (fun _ => True) wr (some ⟨g', 0, none⟩) gs := (own_slF ho).any.2.2
      obtain ⟨ad, had⟩ : ∃ ad : Addr, ad = ⟨g', 0, none⟩ := ⟨_, rfl⟩
      rw [← had] at hro
      obtain ⟨ad', Q, cq, e1, c0, c1', c2, c3, hQ⟩ := row_guard_at hro hlt
      injection e1 with e1
      subst e1
      obtain ⟨hgi, hgm⟩ := HGI.out _ (List.getElem_mem hlt)
      have HAT := Lib.hid (List.getElem?_eq_getElem hlt)
      have HA2 := Lib.hid (show (⟨(ad.add (k * 4)).block, (ad.add (k * 4)).off + 2, none⟩ : Addr) = ⟨g', k * 4 + 2, none⟩ by rw [had, add0'])
      have HADD := Lib.hid had
      generalize gs[k] = x at c2 hQ hgi hgm HAT
      obtain ⟨s, ver, q, a⟩ := x
      simp only at c2 hQ
      have hnq := mayG_q hgm
      have hnl := mayG_len hgm
      simp only at hnq hnl
      have CN := Lib.hid (show Calls Tryz.prog 74 #[.agg #[.slice Q q.length cq]] wr fun r w' => ∃ A c, r = .returned (.agg #[.slice A q.length c]) ∧ Sl kClause (fun k => wr.heap.size ≤ k) w' A c q ∧ Below wr.heap.size wr w' from by
        have := Norm_any hQ (by omega) (fun c hc => by have := hnl.2 c hc; omega)
        rw [hnq] at this
        exact this)
      have HO2 := Lib.hid ho
      have HB2 := Lib.hid hb
      have HG2 := Lib.hid hg2
      have HCF := Lib.hid (fun (W : World) (hW : Below wr.heap.size wr W) => show W.cell? ⟨(ad.add (k * 4)).block, (ad.add (k * 4)).off + 2, none⟩ = some (.slice Q q.length cq) ∧ W.frozen? ⟨(ad.add (k * 4)).block, (ad.add (k * 4)).off + 2, none⟩ = false from
        ⟨(hW.cell (World.block_lt_of_cell? wr _ c2)).trans c2, by rw [HA2.out]; exact (hbx.under hW).free _⟩)
      have i1 : (0 : Int) ≤ (k : Int) := Int.natCast_nonneg _
      have i2 : (k : Int) < (gs.length : Int) := by omega
      have HGL := Lib.hid hgl3
      have HBG := Lib.hid hbg
      clear c0 c1' c3 hQ hbx hg hg1 hg2 hro ho hb hgi hgm hnq hnl
      rw [← had]
      clear had
      go_wp2_with (go_at_call 74; go_fit CN.out; rintro r4 w4 ⟨Q4, cq4, rfl, h4, hb4⟩; have H4 := Lib.hid h4; have HB4 := Lib.hid hb4; obtain ⟨j2, f2⟩ := HCF.out _ hb4; clear h4 hb4)
      go_roundw
      case rel =>
        refine ⟨k + 1, by omega, by go_num, ?_, ?_⟩
        · rw [HA2.out, HADD.out]
          exact (HO2.out.below HB4.out).setG HG2.out HAT.out (H4.out.mono (fun j hj => ⟨.inr (by have := HB2.out.size; omega), by have := HGL.out; omega⟩))
        · rw [HA2.out]
          exact (bthen HB2.out HB4.out).setCell (by exact HBG.out) _
      case measure => simp [intOf]; omega
    · obtain rfl : k = gs.length := by omega
      have hs := own_slF ho
      have HS := Lib.hid hs
      have HB3 := Lib.hid hb
      clear hs ho hb
      go_wp2_with fail
      go_ret
      exact ⟨A1, c1, rfl, HS.out.mono (fun j hj => hj.elim id .inr), HB3.out⟩

set_option maxHeartbeats 4000000 in
set_option maxRecDepth 8000 in
theorem sEvents (h : Ss w 127 b at_ gs vs X) :
    Calls Tryz.prog 35 #[.pointer (some ⟨b, 0, none⟩)] w fun r w' => ∃ A c, r = .returned (.slice A vs.length c) ∧ Sl kEvent (fun k => w.heap.size ≤ k) w' A c vs ∧ Below w.heap.size w w' := by
  obtain ⟨G, cg, E, ce, hbx, _, hE, _⟩ := h.bx
  have x2 := hbx.cell 2
  simp only [List.getElem?_cons_succ, List.getElem?_cons_zero] at x2
  have hvl := h.vl
  have HVI := Lib.hid h.vin
  have HE := Lib.hid hE.bound
  have hc1 := hE.1
  have hc2 := hE.2.1
  unfold maxLen at hc2
  clear h hbx hE
  go_enter Tryz.func35, Tryz.ntmps35
  go_wp2_with fail
  go_loopw [3, 11] (fun v i wr => ∃ k : Nat, k ≤ vs.length ∧ i = .int .i64 k ∧ Own kEvent 42 w.heap.size (fun k => w.heap.size ≤ k) wr v (vs.take k) ∧ Below w.heap.size w wr) (fun _ i _ => vs.length - (intOf i).toNat)
  case atStart => exact ⟨0, Nat.zero_le _, rfl, Own.nil_ _ _ _ _ _, Below.refl _ _⟩
  case round =>
    obtain ⟨k, hk, rfl, ho, hb⟩ := hrel
    by_cases hlt : k < vs.length
    · obtain ⟨ad, S, sa, T, ta, rfl, c0, c1, c2, c3, hS, hT⟩ := row_ev_at (HE.out.stay hb.size (fun j hj _ => hb.block j hj.2)).2.2 hlt
      obtain ⟨hin, hmv⟩ := HVI.out _ (List.getElem_mem hlt)
      have HTK := Lib.hid (show vs.take (k + 1) = vs.take k ++ [vs[k]] from List.take_succ_eq_append_getElem hlt)
      have HTL := Lib.hid (show (vs.take k).length = k by rw [List.length_take]; omega)
      generalize vs[k] = v at c0 c1 c2 c3 hS hT hin hmv HTK
      have hA : ∀ o : Obj, Below wr.heap.size wr (wr.alloc o) := fun o => (Below.refl _ _).alloc (Nat.le_refl _) o
      have CN := Lib.hid (fun o => normOk_any (w := wr.alloc o) (hS.any.below (hA o)) (hT.any.below (hA o)) ((mayE_iff v).1 hmv) hin)
      unfold vEvent at CN
      have HO := Lib.hid ho
      have HB := Lib.hid hb
      have HA := Lib.hid hA
      have i1 : (0 : Int) ≤ (k : Int) := Int.natCast_nonneg _
      have i2 : (k : Int) < (vs.length : Int) := by omega
      have i3 : IntKind.i64.wrap ((k : Int) + 1) = (k : Int) + 1 := IntWalk.i64_in _ (by omega)
      have hbs := hb.size
      clear hS hT hin hmv hA ho hb
      go_wp2_with (first
        | (go_at_call 83; go_fit (CN.out _); rintro r w5 ⟨T5, F5, ct5, cf5, rfl, ht5, hf5, hb5⟩; have HB5 := Lib.hid (bthen (HA.out _) hb5); have h5s := (bthen (HA.out _) hb5).size; have HT5 := Lib.hid (ht5.mono (ok' := fun k => wr.heap.size ≤ k) (fun j hj => by have h9 := (HA.out (.cells #[.string v.stream, .string v.type, .slice S v.tags.length sa, .slice T v.fields.length ta] 42)).size; omega)); have HF5 := Lib.hid (hf5.mono (ok' := fun k => wr.heap.size ≤ k) (fun j hj => by have h9 := (HA.out (.cells #[.string v.stream, .string v.type, .slice S v.tags.length sa, .slice T v.fields.length ta] 42)).size; omega)); clear ht5 hf5 hb5)
        | (at_builtin; refine wpList_pushH (W := w5) rfl _ _ _ rfl 42 _ 4 80 Tryz.underlying43 infoEv rfl (by decide) (by decide) rfl w.heap.size (fun k => w.heap.size ≤ k) _ (vs.take k) rfl (HO.out.below HB5.out) v [.string v.stream, .string v.type, .slice T5 v.tags.length ct5, .slice F5 v.fields.length cf5] (kEvent_mk (HT5.out.mono (fun j hj => ⟨by omega, fun e => by have := HO.out.block_lt j e.symm; omega⟩)) (HF5.out.mono (fun j hj => ⟨by omega, fun e => by have := HO.out.block_lt j e.symm; omega⟩))) w5.heap.size rfl rfl (by omega) (by rw [HTL.out]; omega) ?_; intro v1 w6 hown1 hg1 hat1 hbel1; have HO6 := Lib.hid hown1; have HB6 := Lib.hid (hbel1 w (bthen HB.out HB5.out)); clear hown1 hg1 hat1 hbel1))
      go_roundw
      case rel => exact ⟨k + 1, by omega, by go_num, by rw [HTK.out]; exact HO6.out, HB6.out⟩
      case measure => simp [intOf]; omega
    · obtain rfl : k = vs.length := by omega
      rw [List.take_length] at ho
      obtain ⟨A1, c1, rfl, hsl⟩ := ho.sl
      have HS := Lib.hid hsl
      have HB := Lib.hid hb
      clear ho hb hsl
      go_wp2_with fail
      go_ret
      exact ⟨A1, c1, rfl, HS.out.mono (fun j hj => hj.elim id id), HB.out⟩

set_option maxHeartbeats 8000000 in
set_option maxRecDepth 8000 in
theorem sClone (h : Ss w 127 b at_ gs vs X) :
    Calls Tryz.prog 42 #[.pointer (some ⟨b, 0, none⟩)] w fun r w' => ∃ b2 : Nat, r = .returned (.pointer (some ⟨b2, 0, none⟩)) ∧ Ss w' 127 b2 at_ gs vs (fun k => X k ∨ k = b) ∧ Below w.heap.size w w' ∧ w.heap.size ≤ b2 := by
  obtain ⟨G, cg, E, ce, hbx, hG, hE, hn⟩ := h.bx
  have hgl := h.gl
  have hvl := h.vl
  have hlt := h.lt
  have H := Lib.hid h
  have HN := Lib.hid hn
  have HK := Lib.hid (fun W (hb : Below w.heap.size w W) => show Below w.heap.size w W ∧ W.cell? ⟨b, 0, none⟩ = some (.int .i64 at_) ∧ W.cell? ⟨b, 1, none⟩ = some (.slice G gs.length cg) ∧ W.cell? ⟨b, 2, none⟩ = some (.slice E vs.length ce) from ⟨hb, (hbx.under hb).cell 0, (hbx.under hb).cell 1, (hbx.under hb).cell 2⟩)
  have C1 := Lib.hid (fun W (R : Prop) (hW : Below w.heap.size w W ∧ R) => show Calls Tryz.prog 73 #[.slice G gs.length cg] W fun r w' => (∃ A c, r = .returned (.slice A gs.length c) ∧ Sl kGuard (fun k => (k ≠ b ∧ ¬ X k) ∨ w.heap.size ≤ k) w' A c gs) ∧ Below W.heap.size W w' from
    (cloneG_any (hG.below hW.1) (by omega)).mono (fun r w' ⟨v, e, ho, hb⟩ => by
      obtain ⟨A, c, rfl, hs⟩ := ho.sl
      exact ⟨⟨A, c, e, hs.mono (fun k hk => hk.elim (fun h => .inl h.1) (fun h => .inr (Nat.le_trans hW.1.size h)))⟩, hb⟩))
  have C2 := Lib.hid (fun W (R : Prop) (hW : Below w.heap.size w W ∧ R) => show Calls Tryz.prog 85 #[.slice E vs.length ce] W fun r w' => (∃ A c, r = .returned (.slice A vs.length c) ∧ Sl kEvent (fun k => (k ≠ b ∧ ¬ X k) ∨ w.heap.size ≤ k) w' A c vs ∧ (vs = [] → A = none)) ∧ Below W.heap.size W w' from
    (cloneE_any (hE.below hW.1) (by omega)).mono (fun r w' ⟨v, e, ho, hb, hno⟩ => by
      obtain ⟨A, c, rfl, hs⟩ := ho.sl
      refine ⟨⟨A, c, e, hs.mono (fun k hk => hk.elim (fun h => .inl h.1) (fun h => .inr (Nat.le_trans hW.1.size h))), fun h0 => ?_⟩, hb⟩
      have := hno (hn h0)
      injection this))
  clear h hbx hG hE hn
  go_enter Tryz.func42, Tryz.ntmps42
  go_upto_region 1 with fail
  go_region_held3 (fun W => Below w.heap.size w W ∧ W.cell? ⟨b, 0, none⟩ = some (.int .i64 at_) ∧ W.cell? ⟨b, 1, none⟩ = some (.slice G gs.length cg) ∧ W.cell? ⟨b, 2, none⟩ = some (.slice E vs.length ce))
    (first | exact HK.out _ (below_drawn (Below.refl _ _)) | (assumption) | exact HK.out _ HB3.out | exact HK.out _ HB4.out | exact HK.out _ (below_made HB4.out (Nat.le_refl _) _) | exact HK.out _ (below_made HB3.out (Nat.le_refl _) _))
    (first
      | (go_at_call 73; go_fit (C1.out _ _ (by assumption)); rintro r w3 ⟨⟨A3, c3, rfl, h3⟩, hb3⟩; have H3 := Lib.hid h3; have HB3 := Lib.hid (show Below w.heap.size w w3 from bthen (And.left (by assumption : Below w.heap.size w _ ∧ _)) hb3); clear h3 hb3)
      | (go_at_call 85; go_fit (C2.out _ _ (by assumption)); rintro r w4 ⟨⟨A4, c4, rfl, h4, hn4⟩, hb4⟩; have H4 := Lib.hid h4; have HN4 := Lib.hid hn4; have HB4 := Lib.hid (show Below w.heap.size w w4 from bthen (And.left (by assumption : Below w.heap.size w _ ∧ _)) hb4); have HB34 := Lib.hid hb4; clear h4 hn4 hb4))
  all_goals go_wp2_with fail
  all_goals go_ret
  all_goals
    have s4 := HB4.out.size
    have hm : ∀ k, ((k ≠ b ∧ ¬ X k) ∨ w.heap.size ≤ k) ∧ k < w4.heap.size → k ≠ w4.heap.size ∧ ¬ (X k ∨ k = b) := fun k hk => ⟨by omega, fun hx => hk.1.elim (fun h => hx.elim h.2 h.1) (fun h => hx.elim (fun hx => by have := H.out.xs k hx; omega) (fun e => by omega))⟩
    refine ⟨w4.heap.size, rfl, ⟨⟨A3, c3, A4, c4, Bx.new w4 127 [.int .i64 at_, .slice A3 gs.length c3, .slice A4 vs.length c4], (((H3.out.below HB34.out).bound.alloc _).mono hm), ((H4.out.bound.alloc _).mono hm), HN4.out⟩, H.out.gin, H.out.vin, hgl, hvl, fun hx => hx.elim (fun hx => by have := H.out.xs _ hx; omega) (fun e => by omega), fun k hk => ?_⟩, And.left (by assumption : Below w.heap.size w (w4.alloc _) ∧ _), s4⟩
    have hz : ∀ o, (w4.alloc o).heap.size = w4.heap.size + 1 := fun o => by simp
    rw [hz]
    exact hk.elim (fun hx => by have := H.out.xs k hx; omega) (fun e => by omega)
end
end Go.Proofs.YtfoghahidofegaaGreat

namespace Go.Proofs.YtfoghahidofegaaGreat
open Go.RowKit Go.Maps

/-- Both indexes of a law, Z: the boxes of its sessions. -/
structure F2 (w wr : World) (B : Six) (y : Nat) (es : List Event) (Z : Nat → Prop) : Prop where
  ix : Ix wr B es (fun k => k < w.heap.size ∨ k = y ∨ Z k)
  rx : ∃ A c, Rx wr y A c (recsOf es) (fun k => B.has k ∨ Z k)
  lo : ∀ k, B.has k → w.heap.size ≤ k
  yl : w.heap.size ≤ y
  bel : Below w.heap.size w wr
  zl : ∀ k, Z k → w.heap.size ≤ k
section
variable {w wr w' : World} {B : Six} {y : Nat} {es fs : List Event} {Z Y : Nat → Prop}
theorem F2.below (h : F2 w wr B y es Z) (hb : Below wr.heap.size wr w') : F2 w w' B y es Z := by
  obtain ⟨A, c, h1⟩ := h.rx
  exact ⟨h.ix.below hb, ⟨A, c, h1.below hb⟩, h.lo, h.yl, bthen h.bel hb, h.zl⟩
theorem F2.addX (h : F2 w wr B y es Z) (hb : But B.has wr w') : ∃ A c, Rx w' y A c (recsOf es) (fun k => B.has k ∨ Z k) := by
  obtain ⟨A, c, h1⟩ := h.rx
  exact ⟨A, c, h1.far (hb.mono (fun k hk => .inl hk))⟩
/-- Boxes of Z turn. -/
theorem F2.far (h : F2 w wr B y es Z) (hb : But Z wr w') : F2 w w' B y es Z := by
  obtain ⟨A, c, h1⟩ := h.rx
  exact ⟨h.ix.far (hb.mono (fun k hk => .inr (.inr hk))), ⟨A, c, h1.far (hb.mono (fun k hk => .inr hk))⟩, h.lo, h.yl, hb.below h.bel h.bel.size h.zl, h.zl⟩
/-- New blocks are taken as boxes. -/
theorem F2.fence (h : F2 w wr B y es Z) (hb : Below wr.heap.size wr w') (hY : ∀ k, Y k → Z k ∨ (wr.heap.size ≤ k ∧ k < w'.heap.size)) : F2 w w' B y es Y := by
  obtain ⟨A, c, h1⟩ := h.rx
  refine ⟨h.ix.fence hb (fun k hk => ?_), ⟨A, c, h1.fence hb (fun k hk => ?_)⟩, h.lo, h.yl, bthen h.bel hb, fun k hk => (hY k hk).elim (h.zl k) (fun h2 => Nat.le_trans h.bel.size h2.1)⟩
  · rcases hk with hk | hk | hk
    · exact .inl (.inl hk)
    · exact .inl (.inr (.inl hk))
    · exact (hY k hk).imp (fun h => .inr (.inr h)) id
  · rcases hk with hk | hk
    · exact .inl (.inl hk)
    · exact (hY k hk).imp .inr id
theorem F2.offZ (h : F2 w wr B y es Z) : ∀ k, Z k → ¬ B.has k ∧ k ≠ y ∧ k < wr.heap.size := fun k hk => by
  obtain ⟨A, c, h1⟩ := h.rx
  exact ⟨fun hB => h.ix.off k hB (.inr (.inr hk)), fun e => h1.xy (.inr (e ▸ hk)), h.ix.xs k (.inr (.inr hk))⟩
end
theorem addErr2 {es : List Event} {e : Event} (he : mayE e = 0) (hl : es.length ≤ 800) : addErr es es.length [e] = 0 := by
  have h1 : badE [e] = 0 := badE_ok.2 (fun x hx => by rw [List.mem_singleton.1 hx]; exact (mayE_iff e).1 he)
  unfold addErr mayB
  simp [h1]
  omega
theorem addTo2 {es : List Event} {e : Event} (he : mayE e = 0) (hl : es.length ≤ 800) : addTo es es.length [e] = es ++ [e] := by
  unfold addTo; rw [addErr2 he hl]; rfl

set_option maxHeartbeats 8000000 in
set_option maxRecDepth 100000 in
theorem add19_any {w w0 : World} {B : Six} {y : Nat} {es0 : List Event} {Z : Nat → Prop} (h : F2 w w0 B y es0 Z) {A : Option Addr} {c : Nat} {l : List Event} (hA : Sl kEvent (fun k => k < w.heap.size) w A c l) (hg : ∀ e ∈ l, (∀ s ∈ e.tags, s.size ≤ maxLen) ∧ (mayE e = 0 → EvIn e)) (hl0 : es0.length ≤ 700) :
    Calls Tryz.prog 36 #[.pointer (some ⟨B.b, 0, none⟩), .pointer (some ⟨y, 0, none⟩), .slice A l.length c] w0 fun r w' => r = .returned (.tuple #[]) ∧ F2 w w' B y (es0 ++ (l.take 20).filter okE) Z ∧ But (fun k => B.has k ∨ k = y) w0 w' := by
  have HF0 := Lib.hid h
  have HA := Lib.hid hA
  have HG := Lib.hid hg
  have HL0 := Lib.hid hl0
  have hc1 := hA.1
  have hc2 := hA.2.1
  unfold maxLen at hc2
  clear h hA hg hl0
  go_enter Tryz.func36, Tryz.ntmps36
  go_wp2_with fail
  go_loopw [6] (fun i wr => ∃ k : Nat, k ≤ l.length ∧ k ≤ 20 ∧ i = .int .i64 k ∧ F2 w wr B y (es0 ++ (l.take k).filter okE) Z ∧ But (fun k => B.has k ∨ k = y) w0 wr) (fun i _ => l.length - (intOf i).toNat)
  case atStart => exact ⟨0, Nat.zero_le _, Nat.zero_le _, rfl, by simpa using HF0.out, But.of_below (Below.refl _ _)⟩
  case round =>
    clear HF0
    obtain ⟨k, hk, hk30, rfl, hfi, hbut⟩ := hrel
    by_cases hlt : k < l.length ∧ k < 20
    · obtain ⟨hlt, h20⟩ := hlt
      have hrows : Sl kEvent (fun k => k < w.heap.size) wr A c l := HA.out.stay hfi.bel.size (fun j hj _ => hfi.bel.block j hj)
      obtain ⟨ad, S, sa, T, ta, rfl, c0, c1, c2, c3, hS, hT⟩ := row_ev_at hrows.2.2 hlt
      have HIN := Lib.hid (HG.out _ (List.getElem_mem hlt))
      have HTK := Lib.hid (show l.take (k + 1) = l.take k ++ [l[k]] from List.take_succ_eq_append_getElem hlt)
      have hel : (es0 ++ (l.take k).filter okE).length ≤ 700 + k := by have := filter_len30 l k; rw [List.length_append]; have := HL0.out; omega
      have HFT := Lib.hid (show es0 ++ (l.take (k + 1)).filter okE = (es0 ++ (l.take k).filter okE) ++ [l[k]].filter okE by rw [List.take_succ_eq_append_getElem hlt, List.filter_append, List.append_assoc])
      generalize l[k] = e at c0 c1 c2 c3 hS hT HIN HTK HFT
      generalize es0 ++ (l.take k).filter okE = es at hfi HFT hel
      have HBUT := Lib.hid hbut
      obtain ⟨m, hm⟩ : ∃ m, mayE e = m := ⟨_, rfl⟩
      have CM := Lib.hid (show Calls Tryz.prog 33 #[vEvent e S sa T ta] wr fun r w' => r = .returned (.int .i64 m) ∧ Below wr.heap.size wr w' from by rw [← hm]; exact refMayE_any hS.any hT.any HIN.out.1)
      have HFI := Lib.hid hfi
      have i1 : (0 : Int) ≤ (k : Int) := Int.natCast_nonneg _
      have i2 : (k : Int) < (l.length : Int) := by omega
      have HCS := Lib.hid (fun W (hb : Below wr.heap.size wr W) => show W.cell? (ad.add (k * 4)) = some (.string e.stream) ∧ W.cell? ⟨(ad.add (k * 4)).block, (ad.add (k * 4)).off + 1, none⟩ = some (.string e.type) ∧ W.cell? ⟨(ad.add (k * 4)).block, (ad.add (k * 4)).off + 2, none⟩ = some (.slice S e.tags.length sa) ∧ W.cell? ⟨(ad.add (k * 4)).block, (ad.add (k * 4)).off + 3, none⟩ = some (.slice T e.fields.length ta) from
        ⟨(hb.cell (World.block_lt_of_cell? wr _ c0)).trans c0, (hb.cell (World.block_lt_of_cell? wr _ c1)).trans c1, (hb.cell (World.block_lt_of_cell? wr _ c2)).trans c2, (hb.cell (World.block_lt_of_cell? wr _ c3)).trans c3⟩)
      have HS := Lib.hid hS
      have HT := Lib.hid hT
      have HM := Lib.hid hm
      clear hS hT hm hrows hfi hbut
      unfold vEvent at CM
      by_cases hm0 : m = 0
      · subst hm0
        have HNX := Lib.hid (show es0 ++ (l.take (k + 1)).filter okE = es ++ [e] by rw [HFT.out]; congr 1; simp [okE, HM.out])
        have HEL := Lib.hid (show es.length ≤ 800 by omega)
        go_upto_region 4 with ((go_at_call 33; go_fit CM.out; rintro r w4 ⟨rfl, hb4⟩; have HB4 := Lib.hid hb4; clear hb4))


        have HF4 := Lib.hid (HFI.out.below HB4.out)
        obtain ⟨A4, c4, hr4⟩ := HF4.out.rx
        have HR4 := Lib.hid hr4
        have HK := Lib.hid (fun W (hb : Below w4.heap.size w4 W) => show W.cell? ⟨y, 0, none⟩ = some (.slice A4 es.length c4) ∧ W.cell? (ad.add (k * 4)) = some (.string e.stream) ∧ W.cell? ⟨(ad.add (k * 4)).block, (ad.add (k * 4)).off + 1, none⟩ = some (.string e.type) ∧ W.cell? ⟨(ad.add (k * 4)).block, (ad.add (k * 4)).off + 2, none⟩ = some (.slice S e.tags.length sa) ∧ W.cell? ⟨(ad.add (k * 4)).block, (ad.add (k * 4)).off + 3, none⟩ = some (.slice T e.fields.length ta) from
          ⟨by have := (HR4.out.bx.under hb).cell 0; rw [recsOf_len] at this; exact this, HCS.out _ (bthen HB4.out hb)⟩)
        clear hr4 c0 c1 c2 c3 HCS
        go_cut [7] (fun p wx => ∃ g E, p = .pointer (some ⟨g, 0, none⟩) ∧ Bx wx g 45 [.int .i64 es.length, .slice (some ⟨E, 0, none⟩) 1 1] ∧ Sl kEvent (fun j => j < w.heap.size ∨ w4.heap.size ≤ j) wx (some ⟨E, 0, none⟩) 1 [e] ∧ Below w4.heap.size w4 wx ∧ w4.heap.size ≤ g)
        case first =>
          go_region_held3 (fun W => W.cell? ⟨y, 0, none⟩ = some (.slice A4 es.length c4) ∧ W.cell? (ad.add (k * 4)) = some (.string e.stream) ∧ W.cell? ⟨(ad.add (k * 4)).block, (ad.add (k * 4)).off + 1, none⟩ = some (.string e.type) ∧ W.cell? ⟨(ad.add (k * 4)).block, (ad.add (k * 4)).off + 2, none⟩ = some (.slice S e.tags.length sa) ∧ W.cell? ⟨(ad.add (k * 4)).block, (ad.add (k * 4)).off + 3, none⟩ = some (.slice T e.fields.length ta))
            (first | exact HK.out _ (below_drawn (Below.refl _ _)) | exact HK.out _ (below_made (below_drawn (Below.refl _ _)) (Nat.le_refl _) _) | exact HK.out _ (below_made (below_made (below_drawn (Below.refl _ _)) (Nat.le_refl _) _) (Nat.le_refl _) _) | (assumption)) (fail)
          all_goals go_wp2_with fail
          all_goals go_meet
          all_goals first
            | exact ⟨w4.heap.size, w4.heap.size + 1, rfl, (Bx.new w4 _ _).under (below_drawn (below_made (Below.refl _ _) (Nat.le_refl _) _)), ((Sl.one (d := kEvent) (ok := fun j => j < w.heap.size) (w := w4.alloc (.cells #[.int .i64 es.length, .slice (some ⟨w4.heap.size + 1, 0, none⟩) 1 1] 45)) (y := e) (cs := [.string e.stream, .string e.type, .slice S e.tags.length sa, .slice T e.fields.length ta]) 42 (kEvent_mk (HS.out.below (bthen HB4.out ((Below.refl _ _).alloc (Nat.le_refl _) _))) (HT.out.below (bthen HB4.out ((Below.refl _ _).alloc (Nat.le_refl _) _)))) (w4.heap.size + 1) (by simp)).mono (fun j hj => hj.imp id (fun h => by omega))).below (below_drawn (Below.refl _ _)), below_drawn (below_made (below_made (Below.refl _ _) (Nat.le_refl _) _) (by simp) _), Nat.le_refl _⟩
            | exact ⟨w4.heap.size + 1, w4.heap.size, rfl, (by have := Bx.new (w4.alloc (.cells #[.string e.stream, .string e.type, .slice S e.tags.length sa, .slice T e.fields.length ta] 42)) 45 [.int .i64 es.length, .slice (some ⟨w4.heap.size, 0, none⟩) 1 1]; simpa using this), (Sl.one (d := kEvent) (ok := fun j => j < w.heap.size) (w := w4) (y := e) (cs := [.string e.stream, .string e.type, .slice S e.tags.length sa, .slice T e.fields.length ta]) 42 (kEvent_mk (HS.out.below HB4.out) (HT.out.below HB4.out)) w4.heap.size rfl).alloc _, below_made (below_made (Below.refl _ _) (Nat.le_refl _) _) (Nat.le_refl _) _, Nat.le_succ _⟩
            | exact ⟨w4.heap.size + 1, w4.heap.size, rfl, Bx.under (by have := Bx.new (w4.alloc (.cells #[.string e.stream, .string e.type, .slice S e.tags.length sa, .slice T e.fields.length ta] 42)) 45 [.int .i64 es.length, .slice (some ⟨w4.heap.size, 0, none⟩) 1 1]; simpa using this) (below_drawn (Below.refl _ _)), ((Sl.one (d := kEvent) (ok := fun j => j < w.heap.size) (w := w4) (y := e) (cs := [.string e.stream, .string e.type, .slice S e.tags.length sa, .slice T e.fields.length ta]) 42 (kEvent_mk (HS.out.below HB4.out) (HT.out.below HB4.out)) w4.heap.size rfl).alloc _).below (below_drawn (Below.refl _ _)), below_drawn (below_made (below_made (Below.refl _ _) (Nat.le_refl _) _) (Nat.le_refl _) _), Nat.le_succ _⟩
        case rest =>
          obtain ⟨g, E, rfl, hbx, hsl, hbc, hgw⟩ := hcut
          clear HK CM
          have hbc' := Lib.hid hbc
          have HFC := Lib.hid (HF4.out.below hbc)
          have HBX := Lib.hid hbx
          have HSL := Lib.hid hsl
          have hgB : ∀ j, B.has j → j < w4.heap.size := fun j hj => HF4.out.ix.lt j hj
          have HGB := Lib.hid hgB
          have hw4 : w.heap.size ≤ w4.heap.size := HF4.out.bel.size
          have CA : Hid (Calls Tryz.prog 14 #[.pointer (some ⟨B.b, 0, none⟩), .agg #[.int .i64 es.length, .slice (some ⟨E, 0, none⟩) 1 1]] wc fun r w' => (∃ v, r = .returned v) ∧ Ix w' B (es ++ [e]) (fun j => j < w.heap.size ∨ j = y ∨ Z j) ∧ But B.has wc w') := Lib.hid (by
            refine (iAdd_any (bs := [e]) (after := es.length) HFC.out.ix (HSL.out.mono (fun j hj hB => hj.elim (fun h => by have := HFC.out.lo j hB; omega) (fun h => by have := HGB.out j hB; omega))) (fun x hx => by rw [List.mem_singleton.1 hx]; exact HIN.out.2 HM.out) (by have := HEL.out; simp; omega)).mono ?_
            rintro r w' ⟨A', c', e1, _, h1, h2⟩
            rw [addTo2 HM.out HEL.out] at h1
            exact ⟨⟨_, e1⟩, h1, h2⟩)
          have g0 := hbx.cell 0
          have g1 := hbx.cell 1
          simp only [List.getElem?_cons_succ, List.getElem?_cons_zero] at g0 g1
          clear hbx hsl hgB
          go_upto_region 6 with (go_at_call 14; go_fit CA.out; rintro r w5 ⟨⟨v5, rfl⟩, h5, hb5⟩; have HI5 := Lib.hid h5; have HB5 := Lib.hid hb5; clear h5 hb5)
          obtain ⟨A5, c5, hr5⟩ := HFC.out.addX HB5.out
          have HR5 := Lib.hid hr5
          have hx5 := HBX.out.stay (w' := w5) (fun hk => HB5.out.block _ hk (fun hB => by have := HGB.out g hB; omega))
          have g2 := hx5.cell 0
          have g3 := hx5.cell 1
          simp only [List.getElem?_cons_succ, List.getElem?_cons_zero] at g2 g3
          have hyw := HF4.out.yl
          have hy4 : y < w4.heap.size := HR4.out.bx.lt
          have hyB : ¬ B.has y := fun h => HR4.out.xy (.inl h)
          have HZ4 := Lib.hid (fun j (hj : Z j) => show w.heap.size ≤ j ∧ j < w4.heap.size ∧ j ≠ y from ⟨HF4.out.zl j hj, HF4.out.ix.xs j (.inr (.inr hj)), fun e => HR4.out.xy (.inr (e ▸ hj))⟩)
          have CB : Hid (Calls Tryz.prog 17 #[.pointer (some ⟨y, 0, none⟩), .agg #[.int .i64 es.length, .slice (some ⟨E, 0, none⟩) 1 1]] w5 fun r w' => (∃ v, r = .returned v) ∧ (∃ A' c', Rx w' y A' c' (recsOf (es ++ [e])) (fun j => B.has j ∨ Z j)) ∧ But (fun j => j = y) w5 w') := Lib.hid (by
            refine (ref14AddOk (bs := [e]) (after := es.length) HR5.out ((HSL.out.stay HB5.out.size (fun j hj hl => HB5.out.block j hl (fun hB => hj.elim (fun h => by have := HFC.out.lo j hB; omega) (fun h => by have := HGB.out j hB; omega)))).mono (fun j hj => ⟨fun e1 => by omega, fun hB => hB.elim (fun hB => hj.elim (fun h => by have := HFC.out.lo j hB; omega) (fun h => by have := HGB.out j hB; omega)) (fun hz => by have := HZ4.out j hz; omega)⟩)) (fun x hx => by rw [List.mem_singleton.1 hx]; exact HIN.out.2 HM.out) (by have := HEL.out; simp; omega) (addErr2 HM.out HEL.out)).mono ?_
            rintro r w' ⟨v, A', c', e1, _, h1, h2⟩
            exact ⟨⟨_, e1⟩, ⟨A', c', h1.less (fun j hj => .inl hj)⟩, h2⟩)
          clear hx5 hr5
          go_wp2_with (go_at_call 17; go_fit CB.out; rintro r w6 ⟨⟨v6, rfl⟩, h6, hb6⟩; have HR6 := Lib.hid h6; have HB6 := Lib.hid hb6; clear h6 hb6)
          go_roundw
          case rel =>
            refine ⟨k + 1, by omega, by omega, by go_num, ?_, (((HBUT.out.trans (But.of_below (bthen HB4.out hbc'.out))).trans (HB5.out.mono (fun j hj => .inl hj))).trans (HB6.out.mono (fun j hj => .inr hj)))⟩
            rw [HNX.out]
            exact ⟨HI5.out.far (HB6.out.mono (fun j hj => .inr (.inl hj))), HR6.out, HFC.out.lo, hyw, HB6.out.below (HB5.out.below HFC.out.bel HFC.out.bel.size HFC.out.lo) (by have := HFC.out.bel.size; have := HB5.out.size; omega) (fun j hj => by rw [hj]; exact hyw), HFC.out.zl⟩
          case measure => simp [intOf]; omega
      · have d0 : (m == 0) = false := by simp [hm0]
        have HNX := Lib.hid (show es0 ++ (l.take (k + 1)).filter okE = es by rw [HFT.out]; simp [okE, HM.out, hm0])
        clear hm0
        go_wp2_with (go_at_call 33; go_fit CM.out; rintro r w4 ⟨rfl, hb4⟩; have HB4 := Lib.hid hb4; clear hb4)
        go_roundw
        case rel => exact ⟨k + 1, by omega, by omega, by go_num, by rw [HNX.out]; exact HFI.out.below HB4.out, HBUT.out.trans (But.of_below HB4.out)⟩
        case measure => simp [intOf]; omega
    · have hstop : k < l.length → ¬ k < 20 := fun h h2 => hlt ⟨h, h2⟩
      have HFN := Lib.hid (show F2 w wr B y (es0 ++ (l.take 20).filter okE) Z ∧ But (fun k => B.has k ∨ k = y) w0 wr by
        have e : l.take k = l.take 20 := by
          rcases Nat.lt_or_ge k l.length with h | h
          · have : k = 20 := by have := hstop h; omega
            rw [this]
          · rw [List.take_of_length_le h, List.take_of_length_le (by omega)]
        rw [e] at hfi
        exact ⟨hfi, hbut⟩)
      clear hfi hbut hlt
      rcases Nat.lt_or_ge k l.length with hc | hc
      · have h10 := hstop hc
        clear hstop
        go_wp2_with fail
        refine bodyPost_end (results_none rfl _ _ _) rfl ?_
        exact ⟨rfl, HFN.out⟩
      · clear hstop
        go_wp2_with fail
        refine bodyPost_end (results_none rfl _ _ _) rfl ?_
        exact ⟨rfl, HFN.out⟩
end Go.Proofs.YtfoghahidofegaaGreat

namespace Go.Proofs.YtfoghahidofegaaGreat
open Go.RowKit Go.Maps

abbrev exV : Event := evOf sbS sbT
abbrev exG1 : List Grd := appG [] 0 [] [] exV 0
abbrev exV1 : List Event := appV [] 0 [] [] exV 0
abbrev exG2 : List Grd := appG [] 0 exG1 exV1 exV 0
abbrev exV2 : List Event := appV [] 0 exG1 exV1 exV 0
abbrev exG3 : List Grd := appG [] 0 exG2 exV2 exV 1
abbrev exV3 : List Event := appV [] 0 exG2 exV2 exV 1
theorem exE1 : appE [] 0 [] [] exV 0 = 0 := by decide +kernel
theorem exE2 : appE [] 0 exG1 exV1 exV 0 = 23 := by decide +kernel
theorem exE3 : appE [] 0 exG2 exV2 exV 1 = 0 := by decide +kernel
theorem exE4 : chkE [] exG3 exV3 = 0 := by decide +kernel
set_option maxHeartbeats 8000000 in
set_option maxRecDepth 100000 in
theorem shown19_any (w : World) : Calls Tryz.prog 27 #[] w fun r w' => r = .returned (.bool true) ∧ Below w.heap.size w w' := by
  have C1 := Lib.hid (lNew w (Nat.le_refl _))
  go_enter Tryz.func27, Tryz.ntmps27
  go_upto_region 6 with (first
    | (go_at_call 12; go_fit C1.out; rintro r w2 ⟨B, rfl, h2, hb2⟩; have H2 := Lib.hid h2; have HB2 := Lib.hid hb2; have C2 := Lib.hid (sNew h2.ix (X := fun _ => False) (fun k hk => hk.elim)); clear h2 hb2)
    | (go_at_call 28; go_fit C2.out; rintro r w3 ⟨b, rfl, h3, hb3, hl3⟩; have H3 := Lib.hid h3; have HB3 := Lib.hid hb3; have HL3 := Lib.hid hl3; clear h3 hb3 hl3))
  obtain ⟨W4, hW4⟩ : ∃ W4, W4 = w3.alloc (.cells #[.string ⟨#[115]⟩, .string ⟨#[116]⟩, .slice none 0 0, .slice none 0 0] 42) := ⟨_, rfl⟩
  have hb4 : Below w3.heap.size w3 W4 := by rw [hW4]; exact (Below.refl _ _).alloc (Nat.le_refl _) _
  have x4 : Bx W4 w3.heap.size 42 [.string ⟨#[115]⟩, .string ⟨#[116]⟩, .slice none 0 0, .slice none 0 0] := by rw [hW4]; exact Bx.new w3 _ _
  have HW4 := Lib.hid hW4
  rw [← HW4.out]
  have hlb := H3.out.lt
  have HI4 := Lib.hid (show Ix W4 B [] (fun k => k < w.heap.size ∨ k = b) from (H2.out.ix.fence HB3.out (fun k hk => hk.elim .inl (fun e => .inr (by rw [e]; exact ⟨HL3.out, hlb⟩)))).below hb4)
  have HS4 := Lib.hid (H3.out.below hb4)
  have HBW := Lib.hid (bthen HB2.out (bthen HB3.out hb4))
  have HBL := Lib.hid (show w.heap.size ≤ b from Nat.le_trans HB2.out.size HL3.out)
  have HX := Lib.hid (fun W (hb : But (fun k => k = b) W4 W) => x4.stay (w' := W) (fun hk => hb.block _ hk (by omega)))
  have HII := Lib.hid (fun W (hb : But (fun k => k = b) W4 W) => HI4.out.far (hb.mono (fun k hk => .inr hk)))
  have CA := Lib.hid (fun W (gs : List Grd) (vs : List Event) (hb : But (fun k => k = b) W4 W) (hs : Ss W 127 b ([] : List Event).length gs vs (fun _ => False)) (n : Int) => sAppend hs (HII.out W hb) (.inr rfl) (v := exV) (T := none) (F := none) (ct := 0) (cf := 0) Sl.nil_ Sl.nil_ (by simp [exV, evOf]) (by simp [exV, evOf]) (fun _ => evOf_in sbS_le sbT_le) n)
  unfold vEvent at CA
  have D1 := Lib.hid (CA.out W4 [] [] (But.of_below (Below.refl _ _)) HS4.out 0)
  have D2 := Lib.hid (fun W (hb : But (fun k => k = b) W4 W) (hs : Ss W 127 b ([] : List Event).length exG1 exV1 (fun _ => False)) => show Calls Tryz.prog 34 #[.pointer (some ⟨b, 0, none⟩), .pointer (some ⟨B.b, 0, none⟩), .agg #[.string ⟨#[115]⟩, .string ⟨#[116]⟩, .slice none 0 0, .slice none 0 0], .int .i64 0] W fun r w' => r = .returned (.int .i64 23) ∧ Ss w' 127 b ([] : List Event).length exG2 exV2 (fun _ => False) ∧ But (fun k => k = b) W w' from by
    have := CA.out W exG1 exV1 hb hs 0
    rw [show appE [] ([] : List Event).length exG1 exV1 exV 0 = 23 from exE2] at this
    exact this)
  have D3 := Lib.hid (fun W (hb : But (fun k => k = b) W4 W) (hs : Ss W 127 b ([] : List Event).length exG2 exV2 (fun _ => False)) => show Calls Tryz.prog 34 #[.pointer (some ⟨b, 0, none⟩), .pointer (some ⟨B.b, 0, none⟩), .agg #[.string ⟨#[115]⟩, .string ⟨#[116]⟩, .slice none 0 0, .slice none 0 0], .int .i64 1] W fun r w' => r = .returned (.int .i64 0) ∧ Ss w' 127 b ([] : List Event).length exG3 exV3 (fun _ => False) ∧ But (fun k => k = b) W w' from by
    have := CA.out W exG2 exV2 hb hs 1
    rw [show appE [] ([] : List Event).length exG2 exV2 exV 1 = 0 from exE3] at this
    exact this)
  have D1 : Hid (Calls Tryz.prog 34 #[.pointer (some ⟨b, 0, none⟩), .pointer (some ⟨B.b, 0, none⟩), .agg #[.string ⟨#[115]⟩, .string ⟨#[116]⟩, .slice none 0 0, .slice none 0 0], .int .i64 0] W4 fun r w' => r = .returned (.int .i64 0) ∧ Ss w' 127 b ([] : List Event).length exG1 exV1 (fun _ => False) ∧ But (fun k => k = b) W4 w') := Lib.hid (by
    have := D1.out
    rw [show appE [] ([] : List Event).length [] [] exV 0 = 0 from exE1] at this
    exact this)
  have D4 := Lib.hid (fun W (hb : But (fun k => k = b) W4 W) (hs : Ss W 127 b ([] : List Event).length exG3 exV3 (fun _ => False)) => show Calls Tryz.prog 38 #[.pointer (some ⟨b, 0, none⟩), .pointer (some ⟨B.b, 0, none⟩)] W fun r w' => r = .returned (.int .i64 0) ∧ Below W.heap.size W w' from by
    have := sCheck hs (HII.out W hb)
    rw [exE4] at this
    exact this)
  have k0 := x4.cell 0
  have k1 := x4.cell 1
  have k2 := x4.cell 2
  have k3 := x4.cell 3
  simp only [List.getElem?_cons_succ, List.getElem?_cons_zero] at k0 k1 k2 k3
  have HC := Lib.hid (fun W (hb : But (fun k => k = b) W4 W) => show W.cell? ⟨w3.heap.size, 0, none⟩ = some (.string ⟨#[115]⟩) ∧ W.cell? ⟨w3.heap.size, 1, none⟩ = some (.string ⟨#[116]⟩) ∧ W.cell? ⟨w3.heap.size, 2, none⟩ = some (.slice none 0 0) ∧ W.cell? ⟨w3.heap.size, 3, none⟩ = some (.slice none 0 0) from ⟨(HX.out W hb).cell 0, (HX.out W hb).cell 1, (HX.out W hb).cell 2, (HX.out W hb).cell 3⟩)
  clear hb4 x4 CA hW4
  go_wp2_with (first
    | (go_at_call 38; go_fit (D4.out _ HB7.out HS7.out); rintro r w8 ⟨rfl, hb8⟩; have HB8 := Lib.hid hb8; clear hb8)
    | (go_at_call 34; go_fit (D3.out _ HB6.out HS6.out); rintro r w7 ⟨rfl, h7, hb7⟩; have HS7 := Lib.hid h7; have HB7 := Lib.hid (show But (fun k => k = b) W4 w7 from HB6.out.trans hb7); clear h7 hb7)
    | (go_at_call 34; go_fit (D2.out _ HB5.out HS5.out); rintro r w6 ⟨rfl, h6, hb6⟩; have HS6 := Lib.hid h6; have HB6 := Lib.hid (show But (fun k => k = b) W4 w6 from HB5.out.trans hb6); obtain ⟨m0, m1, m2, m3⟩ := HC.out _ HB6.out; clear h6 hb6)
    | (go_at_call 34; go_fit D1.out; rintro r w5 ⟨rfl, h5, hb5⟩; have HS5 := Lib.hid h5; have HB5 := Lib.hid hb5; obtain ⟨l0, l1, l2, l3⟩ := HC.out _ hb5; clear h5 hb5))
  go_ret
  exact ⟨rfl, bthen ((HB7.out.below HBW.out HBW.out.size (fun k hk => by rw [hk]; exact HBL.out))) HB8.out⟩
end Go.Proofs.YtfoghahidofegaaGreat

namespace Go.Proofs.YtfoghahidofegaaGreat
open Go.RowKit

theorem mayG_read {es : List Event} {at_ : Nat} {s : ByteArray} (hl : es.length ≤ 900) : mayG (gRead es at_ s) = if mayN s = true then 0 else 5 := by
  have h1 := strmR_len es s at_
  unfold mayG gRead
  have h2 : ¬ ((verR es s at_ : Int) < 0 ∨ 1048576 < (verR es s at_ : Int)) := by unfold verR; omega
  rw [if_neg h2, if_neg (by simp)]
  by_cases h : mayN s = true
  · rw [if_neg (by simp [h]), if_neg (by simp), if_pos h]
  · rw [if_pos (by simpa using h), if_neg h]
theorem addE_nil {g : Grd} (h : mayG g = 0) : addE [] g = 0 ∧ keepL [] g = [g] := by
  have h0 : addE [] g = 0 := by unfold addE hasG; simp [h]
  refine ⟨h0, ?_⟩
  rw [keepL_ok h0]
  unfold addL hasG
  simp [h0]
theorem addE_has {gs : List Grd} {g : Grd} (h : mayG g = 0) (hh : g ∈ gs) : addE gs g = 0 ∧ keepL gs g = gs := by
  have h1 := hasG_mem.2 hh
  have h0 : addE gs g = 0 := by unfold addE; rw [if_neg (by simp [h]), if_pos h1]
  refine ⟨h0, ?_⟩
  rw [keepL_ok h0]
  unfold addL
  rw [if_neg (by simp [h0]), if_pos h1]
theorem okN {v : Event} (h : mayE v = 0) : mayN v.stream = true := ((mayE_iff v).1 h).st
theorem app_any {es : List Event} {at_ : Nat} {gs : List Grd} {vs : List Event} {v : Event} (h : mayE v = 0) (hl : vs.length < 16) : appE es at_ gs vs v (-1) = 0 ∧ appG es at_ gs vs v (-1) = gs ∧ appV es at_ gs vs v (-1) = vs ++ [v] := by
  have h0 : appE es at_ gs vs v (-1) = 0 := by unfold appE; rw [if_neg (by simp [h]), if_neg (by omega), if_neg (by omega), if_neg (by omega), if_neg (by omega)]
  obtain ⟨h1, h2⟩ := app_ok h0
  exact ⟨h0, by rw [h1, if_neg (by omega)], h2⟩
theorem app_big {es : List Event} {at_ : Nat} {gs : List Grd} {vs : List Event} {v : Event} {n : Int} (h : mayE v = 0) (hl : 16 ≤ vs.length) : appE es at_ gs vs v n = 3 := by unfold appE; rw [if_neg (by simp [h]), if_pos hl]
theorem app_first {es : List Event} {at_ : Nat} {v : Event} (h : mayE v = 0) (hl : es.length ≤ 900) : appE es at_ [] [] v (verR es v.stream at_) = 0 ∧ appG es at_ [] [] v (verR es v.stream at_) = [gRead es at_ v.stream] ∧ appV es at_ [] [] v (verR es v.stream at_) = [v] := by
  have hg : mayG (gRead es at_ v.stream) = 0 := by rw [mayG_read hl, if_pos (okN h)]
  obtain ⟨h3, h4⟩ := addE_nil hg
  have h0 : appE es at_ [] [] v (verR es v.stream at_) = 0 := by
    unfold appE
    rw [if_neg (by simp [h]), if_neg (by simp), if_neg (by omega), if_neg (by simp [cntS]), if_pos (by omega), h3]
  obtain ⟨h1, h2⟩ := app_ok h0
  exact ⟨h0, by rw [h1, if_pos (by omega), h4], by rw [h2]; rfl⟩
theorem app_second {es : List Event} {at_ : Nat} {v : Event} (h : mayE v = 0) (hl : es.length ≤ 900) : appE es at_ [gRead es at_ v.stream] [v] v ((verR es v.stream at_ : Int) + 1) = 0 ∧ appG es at_ [gRead es at_ v.stream] [v] v ((verR es v.stream at_ : Int) + 1) = [gRead es at_ v.stream] ∧ appV es at_ [gRead es at_ v.stream] [v] v ((verR es v.stream at_ : Int) + 1) = [v, v] := by
  have hg : mayG (gRead es at_ v.stream) = 0 := by rw [mayG_read hl, if_pos (okN h)]
  obtain ⟨h3, h4⟩ := addE_has (gs := [gRead es at_ v.stream]) hg (List.mem_singleton.2 rfl)
  have h0 : appE es at_ [gRead es at_ v.stream] [v] v ((verR es v.stream at_ : Int) + 1) = 0 := by
    unfold appE
    rw [if_neg (by simp [h]), if_neg (by simp), if_neg (by omega), if_neg (by simp [cntS]), if_pos (by omega), h3]
  obtain ⟨h1, h2⟩ := app_ok h0
  exact ⟨h0, by rw [h1, if_pos (by omega), h4], by rw [h2]; rfl⟩
theorem chk_free {es : List Event} {v : Event} : chkE es [] [v] = 0 := by unfold chkE; simp
theorem chk_read {es es2 : List Event} {at_ : Nat} {s : ByteArray} {v v' : Event} : chkE es2 [gRead es at_ s] [v, v'] = if (verR es2 s es2.length : Int) ≠ (verR es s at_ : Int) then 20 else 0 := by
  unfold chkE
  rw [if_neg (by simp)]
  unfold gRead holdsR
  simp only [List.any_cons, List.any_nil, Bool.or_false, Bool.false_eq_true, if_false]
  by_cases h : (verR es2 s es2.length : Int) = (verR es s at_ : Int) <;> simp [h]
end Go.Proofs.YtfoghahidofegaaGreat

namespace Go.Proofs.YtfoghahidofegaaGreat
open Go.RowKit Go.Maps

theorem filE20 (l : List Event) : ((l.take 20).filter okE).length ≤ 20 := filter_len30 l 20
theorem f2_new {w w2 : World} {B : Six} (h : Li w w2 B []) (hb : Below w.heap.size w w2) : F2 w (w2.alloc (.cells #[.slice none 0 0] 34)) B w2.heap.size [] (fun _ => False) := by
  have hb' := (Below.refl w2.heap.size w2).alloc (Nat.le_refl _) (.cells #[.slice none 0 0] 34)
  refine ⟨h.ix.fence hb' (fun k hk => hk.elim .inl (fun e => e.elim (fun e => .inr (by subst e; simp)) False.elim)), ⟨none, 0, ⟨Bx.new w2 _ _, Sl.nil_, fun hB => hB.elim (fun hB => by have := h.ix.lt _ hB; omega) id, fun k hk => hk.elim (fun hk => by have := h.ix.lt k hk; simp; omega) False.elim⟩⟩, h.lo, h.size, bthen hb hb', fun k hk => hk.elim⟩
/-- Two sessions of a law, beside both indexes. -/
structure Sf (w wr : World) (B : Six) (y : Nat) (es : List Event) (n : Nat) (b1 : Nat) (g1 : List Grd) (v1 : List Event) (b2 : Nat) (g2 : List Grd) (v2 : List Event) : Prop where
  f : F2 w wr B y es (fun k => k = b1 ∨ k = b2)
  a : Ss wr 127 b1 n g1 v1 (fun k => B.has k ∨ k = y ∨ k = b2)
  b : Ss wr 127 b2 n g2 v2 (fun k => B.has k ∨ k = y ∨ k = b1)
section
variable {w wr w' : World} {B : Six} {y n b1 b2 : Nat} {es es' : List Event} {g1 g2 g' : List Grd} {v1 v2 v' : List Event}
theorem Sf.below (h : Sf w wr B y es n b1 g1 v1 b2 g2 v2) (hb : Below wr.heap.size wr w') : Sf w w' B y es n b1 g1 v1 b2 g2 v2 := ⟨h.f.below hb, h.a.below hb, h.b.below hb⟩
theorem Sf.stepA (h : Sf w wr B y es n b1 g1 v1 b2 g2 v2) (ha : Ss w' 127 b1 n g' v' (fun k => B.has k ∨ k = y ∨ k = b2)) (hb : But (fun k => k = b1) wr w') : Sf w w' B y es n b1 g' v' b2 g2 v2 :=
  ⟨h.f.far (hb.mono (fun k hk => .inl hk)), ha, h.b.far (hb.mono (fun k hk => .inr (.inr hk)))⟩
theorem Sf.stepB (h : Sf w wr B y es n b1 g1 v1 b2 g2 v2) (ha : Ss w' 127 b2 n g' v' (fun k => B.has k ∨ k = y ∨ k = b1)) (hb : But (fun k => k = b2) wr w') : Sf w w' B y es n b1 g1 v1 b2 g' v' :=
  ⟨h.f.far (hb.mono (fun k hk => .inr hk)), h.a.far (hb.mono (fun k hk => .inr (.inr hk))), ha⟩
theorem Sf.stepF (h : Sf w wr B y es n b1 g1 v1 b2 g2 v2) (hf : F2 w w' B y es' (fun k => k = b1 ∨ k = b2)) (hb : But (fun k => B.has k ∨ k = y) wr w') : Sf w w' B y es' n b1 g1 v1 b2 g2 v2 :=
  ⟨hf, h.a.far (hb.mono (fun k hk => hk.imp id .inl)), h.b.far (hb.mono (fun k hk => hk.imp id .inl))⟩
theorem Sf.start {w6 w7 w8 : World} (h6 : F2 w w6 B y es (fun _ => False)) (h7 : Ss w7 127 b1 n [] [] (fun k => B.has k ∨ k = y)) (hb7 : Below w6.heap.size w6 w7) (hl7 : w6.heap.size ≤ b1) (h8 : Ss w8 127 b2 n [] [] (fun k => B.has k ∨ k = y ∨ k = b1)) (hb8 : Below w7.heap.size w7 w8) (hl8 : w7.heap.size ≤ b2) :
    Sf w w8 B y es n b1 [] [] b2 [] [] := by
  have l1 := h7.lt
  have l2 := h8.lt
  refine ⟨(h6.fence hb7 (Y := fun k => k = b1) (fun k hk => .inr (by rw [hk]; exact ⟨hl7, l1⟩))).fence hb8 (fun k hk => hk.elim .inl (fun e => .inr (by rw [e]; exact ⟨hl8, l2⟩))), h7.move (But.of_below hb8) (fun k hk => ?_), h8⟩
  rcases hk with hk | hk | hk
  · exact .inl (.inl hk)
  · exact .inl (.inr hk)
  · exact .inr (by rw [hk]; exact ⟨hl8, l2⟩)
theorem F2.xs0 (h : F2 w wr B y es (fun _ => False)) : ∀ k, (B.has k ∨ k = y) → k < wr.heap.size := fun k hk => by
  obtain ⟨A, c, h1⟩ := h.rx
  exact hk.elim (h.ix.lt k) (fun e => e ▸ h1.bx.lt)
end
end Go.Proofs.YtfoghahidofegaaGreat
