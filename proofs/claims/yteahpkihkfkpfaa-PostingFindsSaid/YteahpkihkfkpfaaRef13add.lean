/- registrarref13.Lists: Add (walk; 20 orders in one region, 60 s). -/
import Derived.Test.YteahpkihkfkpfaaRef13f
import Derived.Test.YteahpkihkfkpfaaStep3
set_option linter.unusedVariables false
set_option linter.unusedSimpArgs false
namespace Go.Proofs.Yteahpkihkfkpfaa
open Go.RowKit

def lastE (es : List EP) : Int := (es.getLast?.map (·.2)).getD 0
def RLAdd (w : World) (y : Nat) (X : Nat → Prop) (es : List EP) (e : Event) (pos : Int) (r : Ending) (w' : World) : Prop :=
  (pos < 1 ∨ pos ≤ lastE es → r = .returned (.int .i64 1) ∧ Below w.heap.size w w') ∧
  (¬ pos < 1 → ¬ pos ≤ lastE es → r = .returned (.int .i64 0) ∧ (∃ E cE P cP, Rl w' y E cE P cP (es ++ [(e, pos)]) X) ∧ But (fun k => k = y) w w')
theorem RLAdd.no {w w' : World} {y : Nat} {X : Nat → Prop} {es : List EP} {e : Event} {pos : Int} {r : Ending} (h : pos < 1 ∨ pos ≤ lastE es) (hr : r = .returned (.int .i64 1)) (hw : Below w.heap.size w w') : RLAdd w y X es e pos r w' :=
  ⟨fun _ => ⟨hr, hw⟩, fun h1 h2 => (h.elim h1 h2).elim⟩
theorem RLAdd.yes {w w' : World} {y : Nat} {X : Nat → Prop} {es : List EP} {e : Event} {pos : Int} {r : Ending} {E P : Option Addr} {cE cP : Nat} (h1 : ¬ pos < 1) (h2 : ¬ pos ≤ lastE es) (hr : r = .returned (.int .i64 0)) (ht : Rl w' y E cE P cP (es ++ [(e, pos)]) X) (hb : But (fun k => k = y) w w') :
    RLAdd w y X es e pos r w' := ⟨fun h => (h.elim h1 h2).elim, fun _ _ => ⟨hr, ⟨E, cE, P, cP, ht⟩, hb⟩⟩
theorem infoEvent' : (Try.prog.info? 39).map (fun i => (i.zero, i.size, i.bytes)) = some (some (.agg #[.string ByteArray.empty, .string ByteArray.empty, .slice none 0 0, .slice none 0 0]), 4, 80) := by kernel_rfl

theorem kInt_own {e : TypeId} {base : Nat} {ok ok' : Nat → Prop} {w : World} {v : Value} {xs : List Int} (h : Own (Kn.int .i64) e base ok w v xs) : Own (Kn.int .i64) e base ok' w v xs := h
/-- Behind the first store. -/
structure RE (Z : World) (y : Nat) (A2 : Option Addr) (c2 : Nat) (P : Option Addr) (cP : Nat) (es : List EP) (e : Event) (X : Nat → Prop) (wx : World) : Prop where
  bx : Bx wx y 59 [.slice A2 (es.length + 1) c2, .slice P es.length cP]
  se : Sl kEvent (fun k => k ≠ y ∧ ¬ X k) wx A2 c2 (es.map (·.1) ++ [e])
  sp : Sl (Kn.int .i64) (fun k => k ≠ y ∧ ¬ X k) wx P cP (posE es)
  but : But (fun k => k = y) Z wx
theorem re_mk {Z w6 : World} {y cE cP : Nat} {E P : Option Addr} {es : List EP} {X : Nat → Prop} (h : Rl Z y E cE P cP es X) {e : Event} {A2 : Option Addr} {c2 er : Nat} {OK : Nat → Prop} (hOK : OK = fun k => (k ≠ y ∧ ¬ X k) ∧ k < Z.heap.size) (her : Z.heap.size ≤ er)
    (hs : Sl kEvent (fun k => (OK k ∨ k = er) ∨ Z.heap.size ≤ k) w6 A2 c2 (([] ++ es.map (·.1)) ++ [e])) (hb : Below Z.heap.size Z w6) : RE Z y A2 c2 P cP es e X (w6.setCell ⟨y, 0, none⟩ (.slice A2 (es.length + 1) c2)) := by
  have hy := h.bx.lt
  have hbut : But (fun k => k = y) Z (w6.setCell ⟨y, 0, none⟩ (.slice A2 (es.length + 1) c2)) := (But.of_below hb).trans ⟨rfl, rfl, rfl, by simp [World.setCell], fun k _ hn => heap_setCell_other w6 _ k _ hn⟩
  have hq : ∀ k, ((OK k ∨ k = er) ∨ Z.heap.size ≤ k) → k ≠ y ∧ ¬ X k := fun k hk => by
    subst hOK
    rcases hk with (hk | hk) | hk
    · exact hk.1
    · exact ⟨by omega, fun hx => by have := h.xs k hx; omega⟩
    · exact ⟨by omega, fun hx => by have := h.xs k hx; omega⟩
  exact ⟨(h.bx.under hb).set 0 _, (hs.setCell (fun k hk => (hq k hk).1) _).mono hq, (h.sp.below hb).setCell (fun k hk => hk.1) _, hbut⟩
theorem re_end {Z w1 w3 : World} {y cE cP : Nat} {E P : Option Addr} {es : List EP} {X : Nat → Prop} (h0 : Rl Z y E cE P cP es X) {e : Event} {A2 A3 : Option Addr} {c2 c3 : Nat} (h : RE Z y A2 c2 P cP es e X w1) {pos : Int} (hs : Sl (Kn.int .i64) (fun k => False ∨ w1.heap.size ≤ k) w3 A3 c3 (([] ++ posE es) ++ [pos])) (hb : Below w1.heap.size w1 w3) :
    Rl (w3.setCell ⟨y, 1, none⟩ (.slice A3 (es.length + 1) c3)) y A2 c2 A3 c3 (es ++ [(e, pos)]) X ∧ But (fun k => k = y) Z (w3.setCell ⟨y, 1, none⟩ (.slice A3 (es.length + 1) c3)) := by
  have hy := h.bx.lt
  have hbut : But (fun k => k = y) Z (w3.setCell ⟨y, 1, none⟩ (.slice A3 (es.length + 1) c3)) := (h.but.trans (But.of_below hb)).trans ⟨rfl, rfl, rfl, by simp [World.setCell], fun k _ hn => heap_setCell_other w3 _ k _ hn⟩
  have hxl : ∀ k, X k → k < w1.heap.size := fun k hk => Nat.lt_of_lt_of_le (h0.xs k hk) h.but.size
  have hq : ∀ k, (False ∨ w1.heap.size ≤ k) → k ≠ y ∧ ¬ X k := fun k hk => by
    rcases hk with hk | hk
    · exact hk.elim
    · exact ⟨by omega, fun hx => by have := hxl k hx; omega⟩
  refine ⟨⟨?_, ?_, ?_, h0.xy, fun k hk => Nat.lt_of_lt_of_le (h0.xs k hk) hbut.size⟩, hbut⟩
  · rw [show (es ++ [(e, pos)]).length = es.length + 1 by simp]
    exact (h.bx.under hb).set 1 _
  · rw [show (es ++ [(e, pos)]).map (·.1) = es.map (·.1) ++ [e] by simp]
    exact (h.se.below hb).setCell (fun k hk => hk.1) _
  · rw [posE_snoc]
    exact (hs.setCell (fun k hk => (hq k hk).1) _).mono hq

set_option maxHeartbeats 2000000 in
set_option maxRecDepth 8000 in
theorem refLAdd_any {w : World} {y cE cP : Nat} {E P : Option Addr} {es : List EP} {X : Nat → Prop} (h : Rl w y E cE P cP es X) (hl : es.length ≤ 900000) {e : Event} {T F : Option Addr} {ct cf : Nat} (hT : Sl Kn.str (fun k => k ≠ y ∧ ¬ X k) w T ct e.tags) (hF : Sl kField (fun k => k ≠ y ∧ ¬ X k) w F cf e.fields) (pos : Int) :
    Calls Try.prog 32 #[.pointer (some ⟨y, 0, none⟩), vEvent e T ct F cf, .int .i64 pos] w (RLAdd w y X es e pos) := by
  have hc1 := h.se.1
  have hc2 := h.se.2.1
  have hc3 := h.sp.1
  have hc4 := h.sp.2.1
  unfold maxLen at hc2 hc4
  rw [List.length_map] at hc1
  unfold posE at hc3
  rw [List.length_map] at hc3
  unfold vEvent
  obtain ⟨W0, hW0⟩ : ∃ W0, W0 = w.alloc (.cells #[.string e.stream, .string e.type, .slice T e.tags.length ct, .slice F e.fields.length cf] 39) := ⟨_, rfl⟩
  have HW0 := Lib.hid hW0
  have HBW := Lib.hid (show Below w.heap.size w W0 by rw [hW0]; exact (Below.refl _ _).alloc (Nat.le_refl _) _)
  have HEB := Lib.hid (show Bx W0 w.heap.size 39 [.string e.stream, .string e.type, .slice T e.tags.length ct, .slice F e.fields.length cf] by rw [hW0]; exact Bx.new w _ _)
  have HT := Lib.hid (hT.bound.below HBW.out)
  have HF := Lib.hid (hF.bound.below HBW.out)
  have hyl0 := h.bx.lt
  have h0 := h.below HBW.out
  have hy0 := h0.bx.cell 0
  have hy1 := h0.bx.cell 1
  simp only [List.getElem?_cons_succ, List.getElem?_cons_zero] at hy0 hy1
  have hyl := h0.bx.lt
  have H := Lib.hid h0
  have HXS := Lib.hid h.xs
  clear h h0 hT hF
  go_enter Try.func32, Try.ntmps32
  go_upto_region 1 with fail
  rw [← HW0.out]
  clear hW0
  generalize hg : w.heap.size = g at *
  go_cut [32] (fun v wx => v = .bool (decide (pos < 1 ∨ pos ≤ lastE es)) ∧ ∃ n, wx = W0.drewN n)
  case first =>
    by_cases hp1 : pos < 1
    · have d0 : decide (pos < 1) = true := decide_eq_true hp1
      have d9 : decide (pos < 1 ∨ pos ≤ lastE es) = true := decide_eq_true (.inl hp1)
      have HD9 := Lib.hid d9
      clear d9
      go_quiet (fail)
      go_wp2
      go_meet
      case rel => exact ⟨congrArg Value.bool HD9.out.symm, _, rfl⟩
    · have d0 : decide (pos < 1) = false := decide_eq_false hp1
      by_cases hn : es = []
      · subst hn
        have d9 : decide (pos < 1 ∨ pos ≤ lastE []) = false := decide_eq_false (by simp [lastE]; omega)
        have HD9 := Lib.hid d9
        clear d9
        go_quiet (fail)
        go_wp2
        go_meet
        case rel => exact ⟨congrArg Value.bool HD9.out.symm, _, rfl⟩
      · have hpos : 0 < es.length := List.length_pos_iff.2 hn
        obtain ⟨k, hk⟩ : ∃ k, es.length = k + 1 := ⟨es.length - 1, by omega⟩
        have hkl : k < es.length := by omega
        obtain ⟨pd, hP, hx2⟩ := row_int_at H.out.sp.2.2 (j := k) (by simp [posE]; omega)
        subst hP
        have hlast : lastE es = (posE es)[k]'(by simp [posE]; omega) := by
          unfold lastE posE
          rw [List.getLast?_eq_getElem?, show es.length - 1 = k by omega, List.getElem?_eq_getElem hkl]; simp
        generalize (posE es)[k]'(by simp [posE]; omega) = y9 at hx2 hlast
        have ew : IntKind.i64.wrap ((es.length : Int) - 1) = (k : Int) := by rw [IntWalk.i64_in _ (by omega)]; omega
        have b1 : (0 : Int) ≤ (k : Int) := Int.natCast_nonneg _
        have b2 : (k : Int) < (es.length : Int) := by omega
        have d1 : decide ((0 : Int) < (es.length : Int)) = true := decide_eq_true (by omega)
        have d1' : decide (0 < es.length) = true := decide_eq_true (by omega)
        have HK9 := Lib.hid hk
        by_cases hpy : pos ≤ y9
        · have d2 : decide (pos ≤ y9) = true := decide_eq_true hpy
          have HD9 := Lib.hid (show decide (pos < 1 ∨ pos ≤ lastE es) = true from decide_eq_true (.inr (by rw [hlast]; exact hpy)))
          clear hk hlast hn
          go_quiet (fail)
          go_wp2
          go_meet
          case rel => exact ⟨congrArg Value.bool HD9.out.symm, _, rfl⟩
        · have d2 : decide (pos ≤ y9) = false := decide_eq_false hpy
          have HD9 := Lib.hid (show decide (pos < 1 ∨ pos ≤ lastE es) = false from decide_eq_false (by rw [hlast]; omega))
          clear hk hlast hn
          go_quiet (fail)
          go_wp2
          go_meet
          case rel => exact ⟨congrArg Value.bool HD9.out.symm, _, rfl⟩
  case rest =>
    obtain ⟨rfl, n, rfl⟩ := hcut
    by_cases hbad : pos < 1 ∨ pos ≤ lastE es
    · rw [decide_eq_true hbad]
      go_wp2_with fail
      go_ret
      exact RLAdd.no hbad rfl (by subst hg; exact bthen HBW.out (below_drewN (Below.refl _ _) n))
    · rw [decide_eq_false hbad]
      have HBAD := Lib.hid hbad
      clear hbad
      have H1 := Lib.hid (show Rl (W0.drewN n) y E cE P cP es X from H.out.below (below_drewN (Below.refl _ _) n))
      have HB1 := Lib.hid (show Below w.heap.size w (W0.drewN n) by subst hg; exact bthen HBW.out (below_drewN (Below.refl _ _) n))
      have HT1 := Lib.hid (HT.out.below (below_drewN (Below.refl _ _) n))
      have HF1 := Lib.hid (HF.out.below (below_drewN (Below.refl _ _) n))
      have HE1 := Lib.hid (HEB.out.under (below_drewN (Below.refl _ _) n))
      have hyl1 : y < (W0.drewN n).heap.size := hyl
      have hgl1 : g < (W0.drewN n).heap.size := HE1.out.lt
      clear hy0 hy1 hyl H HT HF HEB
      go_upto_region 3 with fail
      generalize W0.drewN n = Z at *
      have HK := Lib.hid (fun W (hb : Below Z.heap.size Z W) => show Below Z.heap.size Z W ∧ W.cell? ⟨y, 0, none⟩ = some (.slice E es.length cE) ∧ W.cell? ⟨g, 0, none⟩ = some (.string e.stream) ∧ W.cell? ⟨g, 1, none⟩ = some (.string e.type) ∧ W.cell? ⟨g, 2, none⟩ = some (.slice T e.tags.length ct) ∧ W.cell? ⟨g, 3, none⟩ = some (.slice F e.fields.length cf) from
        ⟨hb, (H1.out.bx.under hb).cell 0, (HE1.out.under hb).cell 0, (HE1.out.under hb).cell 1, (HE1.out.under hb).cell 2, (HE1.out.under hb).cell 3⟩)
      obtain ⟨OK, hOKd⟩ : ∃ OK : Nat → Prop, OK = fun k => (k ≠ y ∧ ¬ X k) ∧ k < Z.heap.size := ⟨_, rfl⟩
      have HOKD := Lib.hid hOKd
      have HOK := Lib.hid (show ∀ k, OK k → k < Z.heap.size by subst hOKd; exact fun k h => h.2)
      have HRE := Lib.hid (show ∀ W, Below Z.heap.size Z W → Row kEvent OK W E (es.map (·.1)) by subst hOKd; exact fun W hb => H1.out.se.2.2.bound.below hb)
      have HKE := Lib.hid (show ∀ W, Below Z.heap.size Z W → kEvent.K OK W e [.string e.stream, .string e.type, .slice T e.tags.length ct, .slice F e.fields.length cf] by
        subst hOKd
        exact fun W hb => kEvent_mk ((HT1.out.below hb).mono (fun k hk => ⟨hk.1, by omega⟩)) ((HF1.out.below hb).mono (fun k hk => ⟨hk.1, by omega⟩)))
      clear hOKd
      obtain ⟨_, z0, z1, z2, z3, z4⟩ := HK.out Z (Below.refl _ _)
      have HLL := Lib.hid (show (([] ++ List.map (fun (a : EP) => a.1) es) ++ [e]).length = es.length + 1 by simp)
      go_cut [42] (fun _ wx => ∃ A2 c2, RE Z y A2 c2 P cP es e X wx)
      case first =>
        go_region_law
          (first
            | (refine step_pushO rfl _ _ _ rfl 39 _ 4 80 Try.underlying33 infoEvent' rfl (by decide) (by decide) rfl Z OK HOK.out _ _ rfl (HO1.out.alloc _) e [.string e.stream, .string e.type, .slice T e.tags.length ct, .slice F e.fields.length cf] w5.heap.size (Bx.new w5 _ _) (fun e1 => by have := HO1.out.block_lt _ e1.symm; omega) (HKE.out _ (below_made HB5.out (Nat.le_refl _) _)) True (by first | exact ⟨below_drawn (Below.refl _ _), trivial⟩ | exact ⟨below_made (below_drawn (Below.refl _ _)) (Nat.le_refl _) _, trivial⟩ | exact ⟨below_made (below_made (below_drawn (Below.refl _ _)) (Nat.le_refl _) _) (Nat.le_refl _) _, trivial⟩ | exact ⟨HB5.out, trivial⟩ | exact ⟨below_made HB5.out (Nat.le_refl _) _, trivial⟩) rfl (by simp; omega) ?_; intro v2 w6 hown2 hbel2; have HO2 := Lib.hid hown2; have HB6 := Lib.hid hbel2; have kf := (H1.out.bx.under hbel2).free 0; have kc := (H1.out.bx.under hbel2).cell 0; simp only [List.getElem?_cons_zero] at kc; obtain ⟨A2, c2, hv2, hsl2⟩ := hown2.sl; rw [HLL.out] at hv2; subst hv2; have HSL2 := Lib.hid hsl2; clear hown2 hbel2 hsl2)
            | (refine step_pushO rfl _ _ _ rfl 39 _ 4 80 Try.underlying33 infoEvent' rfl (by decide) (by decide) rfl Z OK HOK.out _ _ rfl HO1.out e [.string e.stream, .string e.type, .slice T e.tags.length ct, .slice F e.fields.length cf] _ KB1.out.1 (fun e1 => KB1.out.2 e1.symm) (HKE.out _ HB5.out) True (by first | exact ⟨below_drawn (Below.refl _ _), trivial⟩ | exact ⟨below_made (below_drawn (Below.refl _ _)) (Nat.le_refl _) _, trivial⟩ | exact ⟨below_made (below_made (below_drawn (Below.refl _ _)) (Nat.le_refl _) _) (Nat.le_refl _) _, trivial⟩ | exact ⟨HB5.out, trivial⟩ | exact ⟨below_made HB5.out (Nat.le_refl _) _, trivial⟩) rfl (by simp; omega) ?_; intro v2 w6 hown2 hbel2; have HO2 := Lib.hid hown2; have HB6 := Lib.hid hbel2; have kf := (H1.out.bx.under hbel2).free 0; have kc := (H1.out.bx.under hbel2).cell 0; simp only [List.getElem?_cons_zero] at kc; obtain ⟨A2, c2, hv2, hsl2⟩ := hown2.sl; rw [HLL.out] at hv2; subst hv2; have HSL2 := Lib.hid hsl2; clear hown2 hbel2 hsl2)
            | (refine step_spreadO rfl _ _ _ rfl 39 _ 4 80 Try.underlying33 infoEvent' rfl (by decide) (by decide) rfl Z OK HOK.out _ [] rfl (Own.lit_at (by first | exact heap_alloc_new Z _ | exact heap_alloc2_new Z _ _ | exact two_old Z _ _) (by simp)) (es.map (·.1)) E cE HRE.out True (by first | exact ⟨below_drawn (Below.refl _ _), trivial⟩ | exact ⟨below_made (below_drawn (Below.refl _ _)) (Nat.le_refl _) _, trivial⟩ | exact ⟨below_made (below_made (below_drawn (Below.refl _ _)) (Nat.le_refl _) _) (Nat.le_refl _) _, trivial⟩ | exact ⟨HB5.out, trivial⟩ | exact ⟨below_made HB5.out (Nat.le_refl _) _, trivial⟩) es.length (by simp) rfl (by simp; omega) ?_; intro v1 w5 hown1 hg1 hat1 hbel1; have HO1 := Lib.hid hown1; have HB5 := Lib.hid hbel1; obtain ⟨_, a0, a1, a2, a3, a4⟩ := HK.out _ hbel1; have hs5 := hbel1.size; (first | (have KB1 := Lib.hid (box_grown (b := Z.heap.size + 1) (t := 39) (cs := [.string e.stream, .string e.type, .slice T e.tags.length ct, .slice F e.fields.length cf]) (by exact heap_alloc2_new Z _ _) (by show (some Z.heap.size : Option Nat) ≠ some (Z.heap.size + 1); simp) hg1 hat1)) | (have KB1 := Lib.hid (box_grown (b := Z.heap.size) (t := 39) (cs := [.string e.stream, .string e.type, .slice T e.tags.length ct, .slice F e.fields.length cf]) (by exact two_old Z _ _) (by show (some (Z.heap.size + 1) : Option Nat) ≠ some Z.heap.size; simp) hg1 hat1)) | skip); clear hown1 hg1 hat1 hbel1))
        all_goals go_wp2_with fail
        all_goals go_meet
        all_goals first
          | exact ⟨A2, c2, re_mk H1.out HOKD.out (by first | exact Nat.le_refl _ | exact Nat.le_succ _ | exact HB5.out.size) HSL2.out HB6.out⟩
      case rest =>
        obtain ⟨A2, c2, hre⟩ := hcut
        have HRE2 := Lib.hid hre
        have hy0 := hre.bx.cell 0
        have hy1 := hre.bx.cell 1
        simp only [List.getElem?_cons_succ, List.getElem?_cons_zero] at hy0 hy1
        have hyl2 := hre.bx.lt
        have HO0 := Lib.hid (Own.lit0 (Kn.int .i64) 3 wc.heap.size (fun k => k < wc.heap.size) wc (Nat.le_refl _))
        have HR1 := Lib.hid (show Row (Kn.int .i64) (fun k => k < wc.heap.size ∧ some k ≠ (Value.slice (some ⟨wc.heap.size, 0, none⟩) 0 0).ownBlock) (wc.alloc (.cells #[] 3)) P (posE es) from
          (hre.sp.2.2.bound.below ((Below.refl _ _).alloc (Nat.le_refl _) _)).mono (fun k hk => ⟨hk.2, fun e => by have h2 := hk.2; simp [Value.ownBlock] at e; omega⟩))
        clear hre
        have hpl : (posE es).length = es.length := by simp [posE]
        have HPL := Lib.hid hpl
        clear hpl
        go_wp2_with (first
          | (at_builtin; refine wpList_pushH (d := Kn.int .i64) (W := w2) rfl _ _ _ rfl 3 _ 1 8 Try.underlying30 infoInt rfl (by decide) (by decide) rfl wc.heap.size (fun k => k < wc.heap.size) (.slice A4 es.length c4) ([] ++ posE es) rfl HO2.out pos [.int .i64 pos] rfl w2.heap.size rfl rfl HZ2.out (by rw [List.nil_append, HPL.out]; omega) ?_; intro v3 w3 hown3 hg3 hat3 hbel3; obtain ⟨A3, c3, rfl, hs3⟩ := (kInt_own (ok' := fun _ => False) hown3).sl; have hl3 : (([] ++ posE es) ++ [pos]).length = es.length + 1 := (by rw [List.length_append, List.nil_append, HPL.out]; rfl); rw [hl3]; have HS3 := Lib.hid hs3; have HB3 := Lib.hid (hbel3 wc HB2.out); have hx3 := HRE2.out.bx.under HB3.out; have hc3 := hx3.cell 1; have hf3 := hx3.free 1; simp only [List.getElem?_cons_succ, List.getElem?_cons_zero] at hc3; have HT9 := Lib.hid (re_end H1.out HRE2.out HS3.out HB3.out); clear hown3 hg3 hat3 hbel3 hl3 hs3 hx3)
          | (at_builtin; refine wpList_spreadN rfl _ _ _ rfl 3 _ 1 8 Try.underlying30 infoInt rfl (by decide) (by decide) rfl wc.heap.size (fun k => k < wc.heap.size) _ [] rfl HO0.out (posE es) es.length HPL.out _ _ HR1.out rfl (by simp) (by have := HPL.out; simp; omega) ?_; intro v2 w2 hown2 hg2 hat2 hbel2; obtain ⟨A4, c4, rfl, _⟩ := hown2.sl; have hl2 : ([] ++ posE es).length = es.length := HPL.out; rw [hl2] at hown2 hat2 ⊢; have HO2 := Lib.hid hown2; have HB2 := Lib.hid (hbel2 wc ((Below.refl _ _).alloc (Nat.le_refl _) _)); have HZ2 := Lib.hid HB2.out.size; clear hown2 hg2 hat2 hbel2 hl2))
        go_ret
        exact RLAdd.yes (fun h => HBAD.out (.inl h)) (fun h => HBAD.out (.inr h)) rfl HT9.out.1 ((But.of_below HB1.out).trans HT9.out.2)
end Go.Proofs.Yteahpkihkfkpfaa
