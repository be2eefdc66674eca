/- (*posting.Lists).Clone; it in a law. -/
import Derived.Test.YteahpkihkfkpfaaLaw13p
set_option linter.unusedVariables false
set_option linter.unusedSimpArgs false
namespace Go.Proofs.Yteahpkihkfkpfaa
open Go.RowKit Go.Maps

theorem Mp.copy {w w' : World} {ok ok' : Nat → Prop} {m m2 N : Nat} {D : DataW Value} {f : ByteArray → List Int} (h : Mp w ok m N D f) (hb : Below w.heap.size w w') (hm : w.heap.size ≤ m2) (hom : w'.ownsMap Try.prog 9 RV m2 N D) (hok : ∀ k, k < w.heap.size → ok' k) : Mp w' ok' m2 N D f := by
  refine ⟨hom, fun s => ?_, h.has⟩
  obtain ⟨A, c, h1, h2⟩ := h.row s
  exact ⟨A, c, h1, (h2.below hb).mono (fun k hk => ⟨hok k hk.2.2, by omega, by have := hb.size; omega⟩)⟩
set_option maxHeartbeats 2000000 in
theorem PClone_any {w : World} {p mt my M : Nat} {Dt Dy : DataW Value} {A : Option Addr} {c : Nat} {all : List Int} {ft fy : ByteArray → List Int} {X : Nat → Prop} (h : Ps w p mt my M Dt Dy A c all ft fy X) :
    Calls Try.prog 27 #[.pointer (some ⟨p, 0, none⟩)] w fun r w' => ∃ p2 mt2 my2, r = .returned (.pointer (some ⟨p2, 0, none⟩)) ∧ w.heap.size ≤ p2 ∧ w.heap.size ≤ mt2 ∧ w.heap.size ≤ my2 ∧ Below w.heap.size w w' ∧
      Ps w' p2 mt2 my2 M Dt Dy A c all ft fy (fun _ => False) ∧ Ps w' p mt my M Dt Dy A c all ft fy (fun k => w.heap.size ≤ k ∧ k < w'.heap.size) := by
  have HK : Hid (∀ W, Below w.heap.size w W → Below w.heap.size w W ∧ W.cell? ⟨p, 0, none⟩ = some (.slice A all.length c) ∧ W.cell? ⟨p, 1, none⟩ = some (.map (some mt)) ∧ W.cell? ⟨p, 2, none⟩ = some (.map (some my))) :=
    Lib.hid (fun W hW => ⟨hW, (h.bx.under hW).cell 0, (h.bx.under hW).cell 1, (h.bx.under hW).cell 2⟩)
  have C1 : Hid (∀ W (R : Prop), Below w.heap.size w W ∧ R → Calls Try.prog 53 #[.map (some mt)] W fun e w' => (∃ m2, e = .returned (.map (some m2)) ∧ W.heap.size ≤ m2 ∧ m2 < w'.heap.size ∧ w'.ownsMap Try.prog 9 RV m2 M Dt) ∧ Below W.heap.size W w') :=
    Lib.hid (fun W R hW => pmapClone_owns _ _ _ _ _ _ (h.below hW.1).mpt.om)
  have C2 : Hid (∀ W (R : Prop), Below w.heap.size w W ∧ R → Calls Try.prog 53 #[.map (some my)] W fun e w' => (∃ m2, e = .returned (.map (some m2)) ∧ W.heap.size ≤ m2 ∧ m2 < w'.heap.size ∧ w'.ownsMap Try.prog 9 RV m2 M Dy) ∧ Below W.heap.size W w') :=
    Lib.hid (fun W R hW => pmapClone_owns _ _ _ _ _ _ (h.below hW.1).mpy.om)
  have H := Lib.hid h
  have hne : ¬ mt = my := h.d3
  clear h
  go_enter Try.func27, Try.ntmps27
  go_wp2_with fail
  go_region_held3 (fun W => Below w.heap.size w W ∧ W.cell? ⟨p, 0, none⟩ = some (.slice A all.length c) ∧ W.cell? ⟨p, 1, none⟩ = some (.map (some mt)) ∧ W.cell? ⟨p, 2, none⟩ = some (.map (some my))) (first | exact HK.out _ (below_drawn (Below.refl _ _)) | (assumption) | exact HK.out _ (bthen (And.left (by assumption : Below w.heap.size w _ ∧ _)) (by assumption)) | exact HK.out _ ((And.left (by assumption : Below w.heap.size w _ ∧ _)).alloc (And.left (by assumption : Below w.heap.size w _ ∧ _)).size _)) (first | (go_at_call 53; go_fit (C1.out _ _ (by assumption)); rintro r w3 ⟨⟨m2, rfl, hm1, hm2, hom⟩, hb⟩; have HO := Lib.hid hom; have HBA := Lib.hid hb; clear hom) | (go_at_call 53; go_fit (C2.out _ _ (by assumption)); rintro r w4 ⟨⟨m3, rfl, hn1, hn2, hom⟩, hb⟩; have HO2 := Lib.hid hom; have HBB := Lib.hid hb; clear hom))
  all_goals go_wp2
  all_goals go_ret
  all_goals
    have hB : Below w.heap.size w (w4.alloc (.cells #[.slice A all.length c, .map (some m2), .map (some m3)] 85)) := And.left (by assumption : Below w.heap.size w (w4.alloc _) ∧ _)
    have hs0 : w.drew.heap.size = w.heap.size := rfl
    have hs1 := HBA.out.size
    have hs2 := HBB.out.size
    have hz : (w4.alloc (.cells #[.slice A all.length c, .map (some m2), .map (some m3)] 85)).heap.size = w4.heap.size + 1 := by simp
    have ho1 := (HO.out.kept (row := none) ⟨HBB.out.os, HBB.out.tape, HBB.out.output, HBB.out.size, fun k hk _ => HBB.out.block k hk⟩ (by simp)).alloc (.cells #[.slice A all.length c, .map (some m2), .map (some m3)] 85)
    have ho2 := HO2.out.alloc (.cells #[.slice A all.length c, .map (some m2), .map (some m3)] 85)
    refine ⟨w4.heap.size, m2, m3, rfl, by omega, by omega, by omega, hB, ⟨Bx.new w4 _ [.slice A all.length c, .map (some m2), .map (some m3)], (H.out.sl.bound.below hB).mono (fun k hk => ⟨by omega, by omega, by omega, fun h => h⟩), H.out.nil_, H.out.mpt.copy hB (by omega) ho1 (fun k hk => ⟨by omega, by omega, fun h => h⟩), H.out.mpy.copy hB (by omega) ho2 (fun k hk => ⟨by omega, by omega, fun h => h⟩), by omega, by omega, by omega, fun h => h, fun h => h, fun h => h, fun _ h => h.elim⟩, H.out.fence hB (fun k hk => .inr hk)⟩
theorem cPClone {w : World} {p L B : Nat} {es : List EP} {X : Nat → Prop} (h : Qs w p es L B X) : Calls Try.prog 27 #[.pointer (some ⟨p, 0, none⟩)] w fun r w' => ∃ p2, r = .returned (.pointer (some ⟨p2, 0, none⟩)) ∧ Qs w' p2 es w.heap.size w'.heap.size (fun _ => False) ∧ Qs w' p es L B (fun k => w.heap.size ≤ k ∧ k < w'.heap.size) ∧ Below w.heap.size w w' := by
  obtain ⟨mt, my, M, Dt, Dy, A, c, h3, h4⟩ := h.ps
  refine (PClone_any h3).mono fun r w' hr => ?_
  obtain ⟨p2, mt2, my2, e, h5, h6, h7, hb, h8, h9⟩ := hr
  exact ⟨p2, e, ⟨⟨mt2, my2, M, Dt, Dy, A, c, h8, h6, h8.mpt.om.lt, h7, h8.mpy.om.lt, h4.2.2.2.2⟩, h5, h8.bx.lt, h.ok, h.len⟩, ⟨⟨mt, my, M, Dt, Dy, A, c, h9, h4⟩, h.lo, h.hi, h.ok, h.len⟩, hb⟩
end Go.Proofs.Yteahpkihkfkpfaa
