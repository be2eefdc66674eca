/- maps.Clone; (*streams.Table).Clone. maps.Clone at posting's maps (walk). posting.Lists by named blocks: Clone. index.Index: Clone (walk). registrarlaw14.less: a query of at most 8 clauses, of 8 tags and 8 types each (walk). registrarlaw14.Ask as an argument. registrarref14.Index: All, Since (walk). IndexPlays: the reference's Add of any batch; a clone takes the index's place. -/
import Derived.Test.YtfoghahidofegaaGreatBundS
import Derived.Shelf.SlMaps.Clone
import Derived.Test.YtfoghahidofegaaGreatBundP
import Derived.Test.YtfoghahidofegaaGreatBundI
import Derived.Deep.RegionHeld3
import Derived.Test.YtfoghahidofegaaGreatBundK
import Derived.Test.YtfoghahidofegaaGreatBundJ
import Derived.Test.YtfoghahidofegaaGreatBundM
import Derived.Test.YtfoghahidofegaaGreatBundL
import Derived.Test.YtfoghahidofegaaGreatBundG
set_option linter.unusedVariables false
set_option linter.unusedSimpArgs false
namespace Go.Proofs.YtfoghahidofegaaGreat
open Go.RowKit Go.Maps
set_option maxHeartbeats 1000000 in
theorem mapClone_any (b : Nat) (es : Array MapEntry) (clock : Nat) (w : World) (hb : w.heap[b]? = some (.map es clock)) :
    Calls Tryz.prog 93 #[.map (some b)] w fun e w' => e = .returned (.map (some w.heap.size)) ∧ w' = w.alloc (.map es clock) := by
  have hq := fun w => run_eql_map_nil_sl (P := Tryz.prog) w 140 _ _ (some b) Tryz.underlying140
  have hf : Tryz.prog.funcs[127]? = some Tryz.f127 := by kernel_rfl
  have hx : (callFunc 127 #[.iface 140 (.map (some b))]).run Tryz.prog w = .ok (.value (.iface 140 (.map (some w.heap.size)))) (w.alloc (.map es clock)) := by
    rw [run_callFunc_extern hf (by kernel_rfl) (by kernel_rfl) (by kernel_rfl) (e := Extern.MapsClone.clone) (by kernel_rfl), run_maps_clone_sl w 140 hb]
    rfl
  have ht : ∀ W : World, (Instr.typeAssert (.iface 140 (.map (some w.heap.size))) 20 140 false).run Tryz.prog W = .ok (.map (some w.heap.size)) W := fun W => run_typeAssert_map_sl W 140 20 _ _ _ Tryz.underlying140
  go_enter Tryz.func93, Tryz.ntmps93
  go_wp2_with fail
  go_ret
  exact ⟨rfl, rfl⟩
theorem mapClone_owns (k : TypeId) (R : Value → Option (DataW Value × List MemPlace)) (b n : Nat) (D : DataW Value) (w : World) (hown : w.ownsMap Tryz.prog k R b n D) :
    Calls Tryz.prog 93 #[.map (some b)] w fun e w' => (∃ m, e = .returned (.map (some m)) ∧ w.heap.size ≤ m ∧ m < w'.heap.size ∧ w'.ownsMap Tryz.prog k R m n D) ∧ Below w.heap.size w w' := by
  have hlt := hown.lt
  obtain ⟨es, clock, hb, F, hs, hD⟩ := hown
  refine (mapClone_any b es clock w hb).mono fun e w' ⟨he, hw⟩ => ?_
  subst hw
  exact ⟨⟨_, he, Nat.le_refl _, by simp, ⟨es, clock, (MapKept.heap_alloc w _).1, F, hs, hD⟩⟩, (Below.refl _ w).alloc (Nat.le_refl _) _⟩

set_option maxHeartbeats 1000000 in
theorem Clone_any {w : World} {b m N : Nat} {D : DataW Value} {last : Int} {f : ByteArray → List Int} {X : Nat → Prop} (h : Tb w b m N D last f X) :
    Calls Tryz.prog 53 #[.pointer (some ⟨b, 0, none⟩)] w fun r w' => ∃ b2 m2, r = .returned (.pointer (some ⟨b2, 0, none⟩)) ∧ w.heap.size ≤ b2 ∧ w.heap.size ≤ m2 ∧ Below w.heap.size w w' ∧
      Tb w' b2 m2 N D last f (fun k => k = b ∨ k = m ∨ X k) ∧ Tb w' b m N D last f (fun k => k = b2 ∨ k = m2 ∨ X k) := by
  have HK : Hid (∀ W, Below w.heap.size w W → Below w.heap.size w W ∧ W.cell? ⟨b, 0, none⟩ = some (.int .i64 last) ∧ W.cell? ⟨b, 1, none⟩ = some (.map (some m))) :=
    Lib.hid (fun W hW => ⟨hW, (h.bx.under hW).cell 0, (h.bx.under hW).cell 1⟩)
  have C1 : Hid (∀ W, Below w.heap.size w W ∧ W.cell? ⟨b, 0, none⟩ = some (.int .i64 last) ∧ W.cell? ⟨b, 1, none⟩ = some (.map (some m)) → Calls Tryz.prog 93 #[.map (some m)] W fun e w' => (∃ m2, e = .returned (.map (some m2)) ∧ W.heap.size ≤ m2 ∧ m2 < w'.heap.size ∧ w'.ownsMap Tryz.prog 9 RV m2 N D) ∧ Below W.heap.size W w') :=
    Lib.hid (fun W hW => mapClone_owns _ _ _ _ _ _ (h.below hW.1).mp.om)
  have H := Lib.hid h
  clear h
  go_enter Tryz.func53, Tryz.ntmps53
  go_wp2_with fail
  go_region_held3 (fun W => Below w.heap.size w W ∧ W.cell? ⟨b, 0, none⟩ = some (.int .i64 last) ∧ W.cell? ⟨b, 1, none⟩ = some (.map (some m))) (first | exact HK.out _ (below_drawn (Below.refl _ _)) | (assumption) | exact HK.out _ (bthen (And.left (by assumption : Below w.heap.size w _ ∧ _)) (by assumption)) | exact HK.out _ ((And.left (by assumption : Below w.heap.size w _ ∧ _)).alloc (And.left (by assumption : Below w.heap.size w _ ∧ _)).size _)) (first | (go_at_call 93; refine (C1.out _ (by assumption)).mono ?_; rintro r w' ⟨⟨m2, rfl, hm1, hm2, hom⟩, hb⟩; have HO := Lib.hid hom; clear hom))
  all_goals go_wp2
  all_goals go_ret
  all_goals
    have hB : Below w.heap.size w (w'.alloc (.cells #[.int .i64 last, .map (some m2)] 142)) := And.left (by assumption : Below w.heap.size w (w'.alloc _) ∧ _)
    have hs1 : w.heap.size ≤ w'.heap.size := hb.size
    have hs2 : w.heap.size ≤ m2 := hm1
    refine ⟨w'.heap.size, m2, rfl, hs1, hs2, hB, H.out.copy hB hs1 hs2 (by omega) (Bx.new w' _ [.int .i64 last, .map (some m2)]) (HO.out.alloc _), H.out.fence hB (fun k hk => ?_)⟩
    have hz : (w'.alloc (.cells #[.int .i64 last, .map (some m2)] 142)).heap.size = w'.heap.size + 1 := by simp
    rcases hk with rfl | rfl | hk
    · exact .inr ⟨by omega, by omega⟩
    · exact .inr ⟨by omega, by omega⟩
    · exact .inl hk
end Go.Proofs.YtfoghahidofegaaGreat

namespace Go.Proofs.YtfoghahidofegaaGreat
open Go.RowKit Go.Maps

theorem pmapClone_owns (k : TypeId) (R : Value → Option (DataW Value × List MemPlace)) (b n : Nat) (D : DataW Value) (w : World) (hown : w.ownsMap Tryz.prog k R b n D) :
    Calls Tryz.prog 94 #[.map (some b)] w fun e w' => (∃ m, e = .returned (.map (some m)) ∧ w.heap.size ≤ m ∧ m < w'.heap.size ∧ w'.ownsMap Tryz.prog k R m n D) ∧ Below w.heap.size w w' := by
  have hlt := hown.lt
  obtain ⟨es, clock, hb, F, hs, hD⟩ := hown
  have key : Calls Tryz.prog 94 #[.map (some b)] w fun e w' => e = .returned (.map (some w.heap.size)) ∧ w' = w.alloc (.map es clock) := by
    have hq := fun w => run_eql_map_nil_sl (P := Tryz.prog) w 143 _ _ (some b) Tryz.underlying143
    have hf : Tryz.prog.funcs[127]? = some Tryz.f127 := by kernel_rfl
    have hx : (callFunc 127 #[.iface 143 (.map (some b))]).run Tryz.prog w = .ok (.value (.iface 143 (.map (some w.heap.size)))) (w.alloc (.map es clock)) := by
      rw [run_callFunc_extern hf (by kernel_rfl) (by kernel_rfl) (by kernel_rfl) (e := Extern.MapsClone.clone) (by kernel_rfl), run_maps_clone_sl w 143 hb]
      rfl
    have ht : ∀ W : World, (Instr.typeAssert (.iface 143 (.map (some w.heap.size))) 20 143 false).run Tryz.prog W = .ok (.map (some w.heap.size)) W := fun W => run_typeAssert_map_sl W 143 20 _ _ _ Tryz.underlying143
    go_enter Tryz.func94, Tryz.ntmps94
    go_wp2_with fail
    go_ret
    exact ⟨rfl, rfl⟩
  refine key.mono fun e w' ⟨he, hw⟩ => ?_
  subst hw
  exact ⟨⟨_, he, Nat.le_refl _, by simp, ⟨es, clock, (MapKept.heap_alloc w _).1, F, hs, hD⟩⟩, (Below.refl _ w).alloc (Nat.le_refl _) _⟩
end Go.Proofs.YtfoghahidofegaaGreat

namespace Go.Proofs.YtfoghahidofegaaGreat
open Go.RowKit Go.Maps

set_option maxHeartbeats 2000000 in
theorem PClone3_any {w : World} {p mt my M : Nat} {Dt Dy : DataW Value} {A : Option Addr} {c : Nat} {all : List Int} {ft fy : ByteArray → List Int} {X : Nat → Prop} (h : Ps w p mt my M Dt Dy A c all ft fy X) :
    Calls Tryz.prog 54 #[.pointer (some ⟨p, 0, none⟩)] w fun r w' => ∃ p2 mt2 my2, r = .returned (.pointer (some ⟨p2, 0, none⟩)) ∧ w.heap.size ≤ p2 ∧ w.heap.size ≤ mt2 ∧ w.heap.size ≤ my2 ∧ Below w.heap.size w w' ∧
      Ps w' p2 mt2 my2 M Dt Dy A c all ft fy (fun k => k = p ∨ k = mt ∨ k = my ∨ X k) ∧ Ps w' p mt my M Dt Dy A c all ft fy X := by
  have HK : Hid (∀ W, Below w.heap.size w W → Below w.heap.size w W ∧ W.cell? ⟨p, 0, none⟩ = some (.slice A all.length c) ∧ W.cell? ⟨p, 1, none⟩ = some (.map (some mt)) ∧ W.cell? ⟨p, 2, none⟩ = some (.map (some my))) :=
    Lib.hid (fun W hW => ⟨hW, (h.bx.under hW).cell 0, (h.bx.under hW).cell 1, (h.bx.under hW).cell 2⟩)
  have C1 : Hid (∀ W (R : Prop), Below w.heap.size w W ∧ R → Calls Tryz.prog 94 #[.map (some mt)] W fun e w' => (∃ m2, e = .returned (.map (some m2)) ∧ W.heap.size ≤ m2 ∧ m2 < w'.heap.size ∧ w'.ownsMap Tryz.prog 9 RV m2 M Dt) ∧ Below W.heap.size W w') :=
    Lib.hid (fun W R hW => pmapClone_owns _ _ _ _ _ _ (h.below hW.1).mpt.om)
  have C2 : Hid (∀ W (R : Prop), Below w.heap.size w W ∧ R → Calls Tryz.prog 94 #[.map (some my)] W fun e w' => (∃ m2, e = .returned (.map (some m2)) ∧ W.heap.size ≤ m2 ∧ m2 < w'.heap.size ∧ w'.ownsMap Tryz.prog 9 RV m2 M Dy) ∧ Below W.heap.size W w') :=
    Lib.hid (fun W R hW => pmapClone_owns _ _ _ _ _ _ (h.below hW.1).mpy.om)
  have H := Lib.hid h
  have hne : ¬ mt = my := h.d3
  clear h
  go_enter Tryz.func54, Tryz.ntmps54
  go_wp2_with fail
  go_region_held3 (fun W => Below w.heap.size w W ∧ W.cell? ⟨p, 0, none⟩ = some (.slice A all.length c) ∧ W.cell? ⟨p, 1, none⟩ = some (.map (some mt)) ∧ W.cell? ⟨p, 2, none⟩ = some (.map (some my))) (first | exact HK.out _ (below_drawn (Below.refl _ _)) | (assumption) | exact HK.out _ (bthen (And.left (by assumption : Below w.heap.size w _ ∧ _)) (by assumption)) | exact HK.out _ ((And.left (by assumption : Below w.heap.size w _ ∧ _)).alloc (And.left (by assumption : Below w.heap.size w _ ∧ _)).size _)) (first | (go_at_call 94; go_fit (C1.out _ _ (by assumption)); rintro r w3 ⟨⟨m2, rfl, hm1, hm2, hom⟩, hb⟩; have HO := Lib.hid hom; have HBA := Lib.hid hb; clear hom) | (go_at_call 94; go_fit (C2.out _ _ (by assumption)); rintro r w4 ⟨⟨m3, rfl, hn1, hn2, hom⟩, hb⟩; have HO2 := Lib.hid hom; have HBB := Lib.hid hb; clear hom))
  all_goals go_wp2
  all_goals go_ret
  all_goals
    have hB : Below w.heap.size w (w4.alloc (.cells #[.slice A all.length c, .map (some m2), .map (some m3)] 146)) := And.left (by assumption : Below w.heap.size w (w4.alloc _) ∧ _)
    have hs0 : w.drew.heap.size = w.heap.size := rfl
    have hs1 := HBA.out.size
    have hs2 := HBB.out.size
    have hz : (w4.alloc (.cells #[.slice A all.length c, .map (some m2), .map (some m3)] 146)).heap.size = w4.heap.size + 1 := by simp
    have ho1 := (HO.out.kept (row := none) ⟨HBB.out.os, HBB.out.tape, HBB.out.output, HBB.out.size, fun k hk _ => HBB.out.block k hk⟩ (by simp)).alloc (.cells #[.slice A all.length c, .map (some m2), .map (some m3)] 146)
    have ho2 := HO2.out.alloc (.cells #[.slice A all.length c, .map (some m2), .map (some m3)] 146)
    have hp := H.out.bx.lt
    have ht := H.out.mpt.om.lt
    have hy := H.out.mpy.om.lt
    have hx2 : ∀ k, (k = p ∨ k = mt ∨ k = my ∨ X k) → k < w.heap.size := fun k hk => by
      rcases hk with e | e | e | e
      · omega
      · omega
      · omega
      · exact H.out.xs k e
    have hno : ∀ k, k ≠ p → k ≠ mt → k ≠ my → ¬ X k → ¬ (k = p ∨ k = mt ∨ k = my ∨ X k) := fun k h1 h2 h3 h4 h => by
      rcases h with e | e | e | e
      · exact h1 e
      · exact h2 e
      · exact h3 e
      · exact h4 e
    refine ⟨w4.heap.size, m2, m3, rfl, by omega, by omega, by omega, hB, ⟨Bx.new w4 _ [.slice A all.length c, .map (some m2), .map (some m3)], (H.out.sl.bound.below hB).mono (fun k hk => ⟨by omega, by omega, by omega, hno k hk.1.1 hk.1.2.1 hk.1.2.2.1 hk.1.2.2.2⟩), H.out.nil_, H.out.mpt.copy' hB (by omega) ho1 (fun k hk h1 h2 => ⟨by omega, by omega, hno k h1.1 h2 h1.2.1 h1.2.2⟩), H.out.mpy.copy' hB (by omega) ho2 (fun k hk h1 h2 => ⟨by omega, by omega, hno k h1.1 h1.2.1 h2 h1.2.2⟩), by omega, by omega, by omega, fun h => ?_, fun h => ?_, fun h => ?_, fun k hk => ?_⟩, H.out.below hB⟩
    · have := hx2 _ h; omega
    · have := hx2 _ h; omega
    · have := hx2 _ h; omega
    · have := hx2 _ hk; omega

section
variable {w w' : World} {p mt my : Nat} {es : List EP} {X Y : Nat → Prop}
theorem c3Clone (h : Q3 w p mt my es X) : Calls Tryz.prog 54 #[.pointer (some ⟨p, 0, none⟩)] w fun r w' => ∃ p2 mt2 my2, r = .returned (.pointer (some ⟨p2, 0, none⟩)) ∧ w.heap.size ≤ p2 ∧ w.heap.size ≤ mt2 ∧ w.heap.size ≤ my2 ∧ Below w.heap.size w w' ∧ Q3 w' p2 mt2 my2 es (fun k => k = p ∨ k = mt ∨ k = my ∨ X k) ∧ Q3 w' p mt my es X := by
  obtain ⟨M, Dt, Dy, A, c, h3, h4⟩ := h.ps
  refine (PClone3_any h3).mono fun r w' hr => ?_
  obtain ⟨p2, mt2, my2, e, h5, h6, h7, hb, h8, h9⟩ := hr
  exact ⟨p2, mt2, my2, e, h5, h6, h7, hb, ⟨⟨M, Dt, Dy, A, c, h8, h4⟩, h.ok, h.len⟩, ⟨⟨M, Dt, Dy, A, c, h9, h4⟩, h.ok, h.len⟩⟩
end
end Go.Proofs.YtfoghahidofegaaGreat

namespace Go.Proofs.YtfoghahidofegaaGreat
open Go.RowKit Go.Maps

section
variable {w : World} {B : Six} {es : List Event} {X : Nat → Prop}
set_option maxHeartbeats 4000000 in
theorem iClone (h : Ix w B es X) : Calls Tryz.prog 13 #[.pointer (some ⟨B.b, 0, none⟩)] w fun r w' => ∃ B2 : Six, r = .returned (.pointer (some ⟨B2.b, 0, none⟩)) ∧ Ix w' B2 es (fun k => B.has k ∨ X k) ∧ Ix w' B es (fun k => B2.has k ∨ X k) ∧ Below w.heap.size w w' ∧ ∀ k, B2.has k → w.heap.size ≤ k ∧ k < w'.heap.size := by
  obtain ⟨A, c, hx, hrs, hnil⟩ := h.rs
  obtain ⟨N, D, hN, ht⟩ := h.tb
  have hlt := h.lt
  have hoff := h.off
  have hxs := h.xs
  have HRS := Lib.hid hrs.bound
  have hps := h.ps
  have C1 : Hid (∀ W (R : Prop), Below w.heap.size w W ∧ R → Calls Tryz.prog 53 #[.pointer (some ⟨B.bt, 0, none⟩)] W fun r w' => (∃ b2 m2, r = .returned (.pointer (some ⟨b2, 0, none⟩)) ∧ W.heap.size ≤ b2 ∧ W.heap.size ≤ m2 ∧ Tb w' b2 m2 N D es.length (posS es) (fun k => B.has k ∨ X k)) ∧ Below W.heap.size W w') := Lib.hid (fun W R hW => by
    refine (Clone_any (ht.below hW.1)).mono fun r w' hr => ?_
    obtain ⟨b2, m2, e, h1, h2, h3, h4, _⟩ := hr
    refine ⟨⟨b2, m2, e, h1, h2, h4.less (fun k hk => ?_)⟩, h3⟩
    rcases hk with (hk | hk | hk | hk | hk | hk) | hk
    · exact .inr (.inr (.inr (.inl hk)))
    · exact .inl hk
    · exact .inr (.inl hk)
    · exact .inr (.inr (.inr (.inr (.inl hk))))
    · exact .inr (.inr (.inr (.inr (.inr (.inl hk)))))
    · exact .inr (.inr (.inr (.inr (.inr (.inr hk)))))
    · exact .inr (.inr (.inl hk)))
  have C2 : Hid (∀ W b2 m2 (R : Prop), Below w.heap.size w W ∧ R → w.heap.size ≤ b2 → b2 < W.heap.size → w.heap.size ≤ m2 → m2 < W.heap.size → Calls Tryz.prog 54 #[.pointer (some ⟨B.p, 0, none⟩)] W fun r w' => (∃ p2 mt2 my2, r = .returned (.pointer (some ⟨p2, 0, none⟩)) ∧ W.heap.size ≤ p2 ∧ W.heap.size ≤ mt2 ∧ W.heap.size ≤ my2 ∧ Q3 w' p2 mt2 my2 (zipP es) (fun k => (B.has k ∨ X k) ∨ k = b2 ∨ k = m2)) ∧ Below W.heap.size W w') := Lib.hid (fun W b2 m2 R hW g1 g2 g3 g4 => by
    have hq : Q3 W B.p B.mt B.my (zipP es) (fun k => (X k ∨ k = B.b ∨ k = B.bt ∨ k = B.m) ∨ k = b2 ∨ k = m2) := hps.move (But.of_below hW.1) (fun k hk => hk.imp id (fun hk => hk.elim (fun e => ⟨by omega, by omega⟩) (fun e => ⟨by omega, by omega⟩)))
    refine (c3Clone hq).mono fun r w' hr => ?_
    obtain ⟨p2, mt2, my2, e, h1, h2, h3, h4, h5, _⟩ := hr
    refine ⟨⟨p2, mt2, my2, e, h1, h2, h3, h5.move (But.refl _ _) (fun k hk => .inl ?_)⟩, h4⟩
    rcases hk with ((hk | hk | hk | hk | hk | hk) | hk) | hk
    · exact .inr (.inr (.inr (.inl (.inr (.inl hk)))))
    · exact .inr (.inr (.inr (.inl (.inr (.inr (.inl hk))))))
    · exact .inr (.inr (.inr (.inl (.inr (.inr (.inr hk))))))
    · exact .inl hk
    · exact .inr (.inl hk)
    · exact .inr (.inr (.inl hk))
    · exact .inr (.inr (.inr (.inl (.inl hk))))
    · exact .inr (.inr (.inr (.inr hk))))
  have HX := Lib.hid hx
  have H := Lib.hid h
  have HK : Hid (∀ W, Below w.heap.size w W → Below w.heap.size w W ∧ W.cell? ⟨B.b, 0, none⟩ = some (.slice A es.length c) ∧ W.cell? ⟨B.b, 1, none⟩ = some (.pointer (some ⟨B.bt, 0, none⟩)) ∧ W.cell? ⟨B.b, 2, none⟩ = some (.pointer (some ⟨B.p, 0, none⟩))) := Lib.hid (fun W hW => ⟨hW, (HX.out.under hW).cell 0, (HX.out.under hW).cell 1, (HX.out.under hW).cell 2⟩)
  have HLT := Lib.hid hlt
  have HNIL := Lib.hid hnil
  clear h hx hrs ht hps hlt hoff hxs hnil
  go_enter Tryz.func13, Tryz.ntmps13
  go_wp2_with fail
  go_region_held3 (fun W => Below w.heap.size w W ∧ W.cell? ⟨B.b, 0, none⟩ = some (.slice A es.length c) ∧ W.cell? ⟨B.b, 1, none⟩ = some (.pointer (some ⟨B.bt, 0, none⟩)) ∧ W.cell? ⟨B.b, 2, none⟩ = some (.pointer (some ⟨B.p, 0, none⟩)))
    (first | exact HK.out _ (below_drawn (Below.refl _ _)) | (assumption) | exact HK.out _ (bthen (And.left (by assumption : Below w.heap.size w _ ∧ _)) (by assumption)) | exact HK.out _ ((And.left (by assumption : Below w.heap.size w _ ∧ _)).alloc (And.left (by assumption : Below w.heap.size w _ ∧ _)).size _))
    (first
      | (go_at_call 54; go_fit (C2.out _ b2 m2 _ (by assumption) HB2.out HTB.out.bx.lt HM2.out HTB.out.mp.om.lt); rintro r w4 ⟨⟨p2, mt2, my2, rfl, g1, g2, g3, hq⟩, hb⟩; have HQ := Lib.hid hq; have HG := Lib.hid (And.intro g1 (And.intro g2 g3)); have HBB := Lib.hid hb; clear hq g1 g2 g3)
      | (go_at_call 53; go_fit (C1.out _ _ (by assumption)); rintro r w3 ⟨⟨b2, m2, rfl, g1, g2, htb⟩, hb⟩; have HB2 : Hid (w.heap.size ≤ b2) := Lib.hid (show w.heap.size ≤ b2 from g1); have HM2 : Hid (w.heap.size ≤ m2) := Lib.hid (show w.heap.size ≤ m2 from g2); have HTB := Lib.hid htb; have HBA := Lib.hid hb; clear htb g1 g2))
  all_goals go_wp2
  all_goals go_ret
  all_goals
    have hA : Below w4.heap.size w4 (w4.alloc (.cells #[.slice A es.length c, .pointer (some ⟨b2, 0, none⟩), .pointer (some ⟨p2, 0, none⟩)] 107)) := (Below.refl _ _).alloc (Nat.le_refl _) _
    have hB : Below w.heap.size w (w4.alloc (.cells #[.slice A es.length c, .pointer (some ⟨b2, 0, none⟩), .pointer (some ⟨p2, 0, none⟩)] 107)) := And.left (by assumption : Below w.heap.size w (w4.alloc _) ∧ _)
    have hlt := HLT.out
    have hoff := H.out.off
    have hxs := H.out.xs
    have s1 : w.heap.size ≤ w3.heap.size := HBA.out.size
    have s2 := HBB.out.size
    obtain ⟨g1, g2, g3⟩ := HG.out
    have g4 := HB2.out
    have g5 := HM2.out
    have l1 := HTB.out.bx.lt
    have l2 := HTB.out.mp.om.lt
    obtain ⟨l3, l4, l5, _⟩ := HQ.out.lt
    have hz : (w4.alloc (.cells #[.slice A es.length c, .pointer (some ⟨b2, 0, none⟩), .pointer (some ⟨p2, 0, none⟩)] 107)).heap.size = w4.heap.size + 1 := by simp
    have hnew : ∀ k, Six.has ⟨w4.heap.size, b2, m2, p2, mt2, my2⟩ k → w.heap.size ≤ k ∧ k < w4.heap.size + 1 := by
      rintro k (hk | hk | hk | hk | hk | hk)
      · have : k = w4.heap.size := hk; omega
      · have : k = b2 := hk; omega
      · have : k = m2 := hk; omega
      · have : k = p2 := hk; omega
      · have : k = mt2 := hk; omega
      · have : k = my2 := hk; omega
    refine ⟨⟨w4.heap.size, b2, m2, p2, mt2, my2⟩, rfl, ⟨⟨A, c, Bx.new w4 _ [.slice A es.length c, .pointer (some ⟨b2, 0, none⟩), .pointer (some ⟨p2, 0, none⟩)], (HRS.out.below hB).mono (fun k hk => ⟨fun hh => by have := hnew k hh; have := hk.2; omega, fun hh => hh.elim hk.1.1 hk.1.2⟩), HNIL.out⟩, ⟨N, D, hN, HTB.out.fence (bthen HBB.out hA) (fun k hk => ?_)⟩, HQ.out.move (But.of_below hA) (fun k hk => ?_), H.out.ok, H.out.inn, H.out.len, fun hh => ?_⟩, H.out.fence hB (fun k hk => hk.elim (fun hk => .inr (by rw [hz]; exact hnew k hk)) .inl), hB, fun k hk => by rw [hz]; exact hnew k hk⟩
    · rcases hk with hk | hk | hk | hk | hk
      · exact .inl hk
      · have : k = w4.heap.size := hk; exact .inr ⟨by omega, by omega⟩
      · have : k = p2 := hk; exact .inr ⟨by omega, by omega⟩
      · have : k = mt2 := hk; exact .inr ⟨by omega, by omega⟩
      · have : k = my2 := hk; exact .inr ⟨by omega, by omega⟩
    · rcases hk with hk | hk | hk | hk
      · exact .inl (.inl hk)
      · have : k = w4.heap.size := hk; exact .inr ⟨by omega, by omega⟩
      · exact .inl (.inr (.inl hk))
      · exact .inl (.inr (.inr hk))
    · rcases hh with hh | hh
      · have h9 : w4.heap.size < w.heap.size := hlt _ hh; omega
      · have h9 : w4.heap.size < w.heap.size := hxs _ hh; omega
end
end Go.Proofs.YtfoghahidofegaaGreat

namespace Go.Proofs.YtfoghahidofegaaGreat
open Go.RowKit

set_option maxHeartbeats 4000000 in
set_option maxRecDepth 100000 in
theorem less14_any (ok : Nat → Prop) {q : List Clause} {Q : Option Addr} {cq : Nat} {w : World} (hq : Sl kClause ok w Q cq q) :
    Calls Tryz.prog 61 #[.agg #[.slice Q q.length cq]] w fun r w' => ∃ A c, r = .returned (.agg #[.slice A (fewM q).length c]) ∧ Sl kClause (fun k => ok k ∨ w.heap.size ≤ k) w' A c (fewM q) ∧ Below w.heap.size w w' := by
  have hq2 := hq.2.1
  unfold maxLen at hq2
  have hq1 := hq.1
  have h0 : FewAt ok q Q cq w 0 (.slice none 0 0) (((w.alloc (.cells #[.slice Q q.length cq] 25)).alloc (.cells #[.slice none 0 0] 25)).alloc (.cells #[.slice none 0 0] 25)) := by
    refine ⟨?_, ?_, ?_, Own.nil_ _ _ _ _ _, ((hq.bound.alloc _).alloc _).alloc _, by simp, (((Below.refl _ _).alloc (Nat.le_refl _) _).alloc (by simp) _).alloc (by simp; omega) _⟩
    · exact ((Bx.new w _ [.slice Q q.length cq]).alloc _).alloc _
    · exact (by simpa using Bx.new (w.alloc (.cells #[.slice Q q.length cq] 25)) 25 [.slice none 0 0] : Bx _ (w.heap.size + 1) _ _).alloc _
    · simpa using Bx.new ((w.alloc (.cells #[.slice Q q.length cq] 25)).alloc (.cells #[.slice none 0 0] 25)) 25 [.slice none 0 0]
  have H0 := Lib.hid h0
  clear h0
  go_enter Tryz.func61, Tryz.ntmps61
  go_wp2
  go_loopw [4, 5] (fun i _ wr => ∃ (k : Nat) (v : Value), k ≤ 8 ∧ k ≤ q.length ∧ i = .int .i64 k ∧ FewAt ok q Q cq w k v wr) (fun i _ _ => q.length - (intOf i).toNat)
  case atStart => exact ⟨0, _, Nat.zero_le _, Nat.zero_le _, rfl, H0.out⟩
  case round =>
    clear H0
    obtain ⟨k, v, hk8, hk, rfl, hf⟩ := hrel
    have c1 := hf.b1.c0
    have c2 := hf.b2.c0
    have c3 := hf.b3.c0
    have f3 := hf.b3.free 0
    have hsz := hf.size
    have l1 : w.heap.size < wr.heap.size := by omega
    have l2 : w.heap.size + 1 < wr.heap.size := by omega
    have l3 : w.heap.size + 1 + 1 < wr.heap.size := by omega
    by_cases hlt : k < q.length ∧ k < 8
    · obtain ⟨hlt, h8⟩ := hlt
      obtain ⟨ad, S, sa, T, ta, rfl, hx, hy, hS, hT⟩ := row_clause_at hf.sl.2.2 hlt
      have hst := Lib.hid (fun (W w1 : World) (v1 : Value) => FewAt.step (W := W) (w1 := w1) (v1 := v1) hf)
      have hown := Lib.hid hf.own
      have hbx := Lib.hid (fun (W w1 : World) => FewAt.box (W := W) (w1 := w1) hf)
      have hkk : ∀ n m, (cutC q[k]).tags.length = n → (cutC q[k]).types.length = m → kClause.K (fun j => (ok j ∧ j < w.heap.size) ∧ some j ≠ v.ownBlock) wr (cutC q[k]) [.slice S n sa, .slice T m ta] := fun n m e1 e2 =>
        kClause.mono (fun j hj => ⟨hj, fun e => by have := hf.own.base_le j e.symm; omega⟩) (kClause_mk' (hS.take 8) (hT.take 8) e1 e2)
      have hxe : q[k]? = some q[k] := List.getElem?_eq_getElem hlt
      have hlen : ∀ y, ((q.take k).map cutC ++ [cutC y]).length = k + 1 := by intro y; simp; omega
      have HX := Lib.hid hxe
      generalize q[k] = x at hx hy hS hT hkk HX
      clear hf hxe
      have hsa := hS.1
      have hta := hT.1
      by_cases ht : 8 < x.tags.length <;> by_cases hty : 8 < x.types.length
      · have HK := Lib.hid (fun o => kClause.below (hkk 8 8 (by simp [cutC]; omega) (by simp [cutC]; omega)) ((Below.refl _ wr).alloc (Nat.le_refl _) o))
        clear hkk
        go_wp2_with (at_builtin; refine wpList_pushH rfl _ _ _ rfl 118 _ 2 48 Tryz.underlying23 infoClause rfl (by decide) (by decide) rfl (w.heap.size + 3) (fun k => ok k ∧ k < w.heap.size) _ ((q.take k).map cutC) rfl (hown.out.alloc _) (cutC x) _ (HK.out _) (wr.heap.size + 1) (by simp) rfl (by simp; omega) (by simp; omega) ?_; intro v1 w1 hown1 hg1 hat1 hbel1; obtain ⟨A1, cc1, rfl, hsl1⟩ := hown1.sl; rw [hlen] at hown1; have k3 := (hbx.out _ w1 ((Below.refl _ wr).alloc (Nat.le_refl _) _) hg1).c0; have kf := (hbx.out _ w1 ((Below.refl _ wr).alloc (Nat.le_refl _) _) hg1).free 0)
        go_roundw
        case rel => exact ⟨k + 1, _, by omega, by omega, by go_num, hst.out _ w1 _ ((Below.refl _ wr).alloc (Nat.le_refl _) _) hg1 x HX.out h8 hown1⟩
        case measure => simp [intOf]; omega
      · have HK := Lib.hid (fun o => kClause.below (hkk 8 x.types.length (by simp [cutC]; omega) (by simp [cutC]; omega)) ((Below.refl _ wr).alloc (Nat.le_refl _) o))
        clear hkk
        go_wp2_with (at_builtin; refine wpList_pushH rfl _ _ _ rfl 118 _ 2 48 Tryz.underlying23 infoClause rfl (by decide) (by decide) rfl (w.heap.size + 3) (fun k => ok k ∧ k < w.heap.size) _ ((q.take k).map cutC) rfl (hown.out.alloc _) (cutC x) _ (HK.out _) (wr.heap.size + 1) (by simp) rfl (by simp; omega) (by simp; omega) ?_; intro v1 w1 hown1 hg1 hat1 hbel1; obtain ⟨A1, cc1, rfl, hsl1⟩ := hown1.sl; rw [hlen] at hown1; have k3 := (hbx.out _ w1 ((Below.refl _ wr).alloc (Nat.le_refl _) _) hg1).c0; have kf := (hbx.out _ w1 ((Below.refl _ wr).alloc (Nat.le_refl _) _) hg1).free 0)
        go_roundw
        case rel => exact ⟨k + 1, _, by omega, by omega, by go_num, hst.out _ w1 _ ((Below.refl _ wr).alloc (Nat.le_refl _) _) hg1 x HX.out h8 hown1⟩
        case measure => simp [intOf]; omega
      · have HK := Lib.hid (fun o => kClause.below (hkk x.tags.length 8 (by simp [cutC]; omega) (by simp [cutC]; omega)) ((Below.refl _ wr).alloc (Nat.le_refl _) o))
        clear hkk
        go_wp2_with (at_builtin; refine wpList_pushH rfl _ _ _ rfl 118 _ 2 48 Tryz.underlying23 infoClause rfl (by decide) (by decide) rfl (w.heap.size + 3) (fun k => ok k ∧ k < w.heap.size) _ ((q.take k).map cutC) rfl (hown.out.alloc _) (cutC x) _ (HK.out _) (wr.heap.size + 1) (by simp) rfl (by simp; omega) (by simp; omega) ?_; intro v1 w1 hown1 hg1 hat1 hbel1; obtain ⟨A1, cc1, rfl, hsl1⟩ := hown1.sl; rw [hlen] at hown1; have k3 := (hbx.out _ w1 ((Below.refl _ wr).alloc (Nat.le_refl _) _) hg1).c0; have kf := (hbx.out _ w1 ((Below.refl _ wr).alloc (Nat.le_refl _) _) hg1).free 0)
        go_roundw
        case rel => exact ⟨k + 1, _, by omega, by omega, by go_num, hst.out _ w1 _ ((Below.refl _ wr).alloc (Nat.le_refl _) _) hg1 x HX.out h8 hown1⟩
        case measure => simp [intOf]; omega
      · have HK := Lib.hid (fun o => kClause.below (hkk x.tags.length x.types.length (by simp [cutC]; omega) (by simp [cutC]; omega)) ((Below.refl _ wr).alloc (Nat.le_refl _) o))
        clear hkk
        go_wp2_with (at_builtin; refine wpList_pushH rfl _ _ _ rfl 118 _ 2 48 Tryz.underlying23 infoClause rfl (by decide) (by decide) rfl (w.heap.size + 3) (fun k => ok k ∧ k < w.heap.size) _ ((q.take k).map cutC) rfl (hown.out.alloc _) (cutC x) _ (HK.out _) (wr.heap.size + 1) (by simp) rfl (by simp; omega) (by simp; omega) ?_; intro v1 w1 hown1 hg1 hat1 hbel1; obtain ⟨A1, cc1, rfl, hsl1⟩ := hown1.sl; rw [hlen] at hown1; have k3 := (hbx.out _ w1 ((Below.refl _ wr).alloc (Nat.le_refl _) _) hg1).c0; have kf := (hbx.out _ w1 ((Below.refl _ wr).alloc (Nat.le_refl _) _) hg1).free 0)
        go_roundw
        case rel => exact ⟨k + 1, _, by omega, by omega, by go_num, hst.out _ w1 _ ((Below.refl _ wr).alloc (Nat.le_refl _) _) hg1 x HX.out h8 hown1⟩
        case measure => simp [intOf]; omega
    · have hown := hf.own
      have hfin : (q.take k).map cutC = fewM q := by
        unfold fewM
        congr 1
        rcases Nat.lt_or_ge k 8 with h | h
        · rw [List.take_of_length_le (by omega), List.take_of_length_le (by omega)]
        · rw [show k = 8 by omega]
      rw [hfin] at hown
      obtain ⟨A1, cc1, rfl, hsl1⟩ := hown.sl
      have hb := hf.bel
      have hR := Lib.hid (show Bx (wr.setCell ⟨w.heap.size + 1, 0, none⟩ (.slice A1 (fewM q).length cc1)) (w.heap.size + 1) 25 [.slice A1 (fewM q).length cc1] from hf.b2.set 0 _)
      have f2 := hf.b2.free 0
      clear hf hfin
      rcases Nat.lt_or_ge k q.length with hc | hc
      · have h8 : ¬ k < 8 := fun h => hlt ⟨hc, h⟩
        go_wp2_with fail
        exact bodyPost_ret (v := .agg #[.slice A1 (fewM q).length cc1]) (by simp [results, Tryz.results61, go_sem, hR.out.c0]) rfl ⟨A1, cc1, rfl, (hsl1.setCell (fun j hj => by simp; omega) _).mono (fun k hk => hk.imp And.left (fun h => by omega)), hb.setCell (by simp) _⟩
      · go_wp2_with fail
        exact bodyPost_ret (v := .agg #[.slice A1 (fewM q).length cc1]) (by simp [results, Tryz.results61, go_sem, hR.out.c0]) rfl ⟨A1, cc1, rfl, (hsl1.setCell (fun j hj => by simp; omega) _).mono (fun k hk => hk.imp And.left (fun h => by omega)), hb.setCell (by simp) _⟩
end Go.Proofs.YtfoghahidofegaaGreat

namespace Go.Proofs.YtfoghahidofegaaGreat
open Go.RowKit Go.Maps

abbrev Ak : Type := ByteArray × List Clause × Int
abbrev kAsk : Kn Ak := Kn.pair Kn.str (Kn.pair kQuery (Kn.int .i64))
abbrev goodAsk (g : Ak) : Prop := gS g.1 ∧ (∀ c ∈ g.2.1, goodClause c) ∧ gN g.2.2
theorem opAsk : Opens Tryz.prog 27 kAsk goodAsk :=
  Opens.struct (d := kAsk) (good := goodAsk) Tryz.underlying27 (by kernel_rfl)
    (OpensFs.cons (good := gS) (good' := fun (y : List Clause × Int) => (∀ c ∈ y.1, goodClause c) ∧ gN y.2) (d := Kn.str) opStr (by kernel_rfl)
      (OpensFs.cons (good := fun y : List Clause => ∀ c ∈ y, goodClause c) (good' := gN) (d := kQuery) opQuery (by kernel_rfl) (OpensFs.last opInt (by kernel_rfl))))
theorem ask_in {w : World} {g : Ak} {c : Array Value} (h : kAsk.K (fun _ => True) w g c.toList) : ∃ Q cq, c = #[.string g.1, .slice Q g.2.1.length cq, .int .i64 g.2.2] ∧ Sl kClause (fun k => k < w.heap.size) w Q cq g.2.1 := by
  obtain ⟨c0, c1, h0, h1, c2, c3, h2, h3, h4⟩ := h
  obtain ⟨Q, cq, h7, h8, h9, h10⟩ := h3
  have e0 : c0 = [.string g.1] := h1
  have e3 : c3 = [.int .i64 g.2.2] := h4
  have hs : Sl kClause (fun _ => True) w Q cq g.2.1 := ⟨h8, h9, h10⟩
  refine ⟨Q, cq, ?_, hs.bound.mono (fun _ h => h.2)⟩
  subst e0 e3 h7 h2
  cases c
  simpa using h0
theorem fewM_good {q : List Clause} (h : ∀ c ∈ q, goodClause c) : ∀ c ∈ fewM q, goodClause c := fun c hc => by
  obtain ⟨x, hx, rfl⟩ := List.mem_map.1 hc
  have := h x (List.mem_of_mem_take hx)
  exact ⟨fun y hy => this.1 y (List.mem_of_mem_take hy), fun y hy => this.2 y (List.mem_of_mem_take hy)⟩
end Go.Proofs.YtfoghahidofegaaGreat

namespace Go.Proofs.YtfoghahidofegaaGreat
open Go.RowKit Go.Maps

section
variable {w : World} {y : Nat} {A : Option Addr} {c : Nat} {rs : List Rec} {X : Nat → Prop}
set_option maxHeartbeats 4000000 in
set_option maxRecDepth 100000 in
theorem ref14All_any (h : Rx w y A c rs X) (hl : rs.length ≤ 100000) (x : Int) :
    Calls Tryz.prog 63 #[.pointer (some ⟨y, 0, none⟩), .int .i64 x] w (RetRef y (rs.filter (fun r => decide (r.pos ≤ x))) w) := by
  have hc1 := h.sl.1
  have hc2 := h.sl.2.1
  unfold maxLen at hc2
  have H := Lib.hid h
  obtain ⟨f, hf⟩ : ∃ f : Rec → Bool, f = fun r => decide (r.pos ≤ x) := ⟨_, rfl⟩
  rw [← hf]
  have HF := Lib.hid hf
  have hyl := h.bx.lt
  have HO := Lib.hid (Own.lit0 kRec 101 w.heap.size (fun j => j < w.heap.size) w (Nat.le_refl _))
  clear h hf
  go_enter Tryz.func63, Tryz.ntmps63
  go_wp2_with fail
  go_loopw [5, 6] (fun v i wr => ∃ k : Nat, k ≤ rs.length ∧ i = .int .i64 k ∧ Own kRec 101 w.heap.size (fun j => j < w.heap.size) wr v ((rs.take k).filter f) ∧ Below w.heap.size w wr) (fun _ i _ => rs.length - (intOf i).toNat)
  case atStart => exact ⟨0, Nat.zero_le _, rfl, HO.out, (Below.refl _ _).alloc (Nat.le_refl _) _⟩
  case round =>
    clear HO
    obtain ⟨k, hk, rfl, ho, hb⟩ := hrel
    have x0 := (H.out.bx.under hb).cell 0
    simp only [List.getElem?_cons_zero] at x0
    by_cases hlt : k < rs.length
    · obtain ⟨ad, S, sa, T, ta, rfl, c0, c1, c2, c3, c4, c5, hS, hT⟩ := row_rec_at ((H.out.sl.bound).below hb).2.2 hlt
      have HY := Lib.hid (fun hy => filter_take_yes (f := f) hlt hy)
      have HN := Lib.hid (fun hy => filter_take_no (f := f) hlt hy)
      have hfl : ((rs.take k).filter f).length ≤ k := by have := List.length_filter_le f (rs.take k); rw [List.length_take] at this; omega
      generalize rs[k] = r at c0 c1 c2 c3 c4 c5 hS hT HY HN
      have HS := Lib.hid hS
      have HT := Lib.hid hT
      have HOW := Lib.hid ho
      have HB := Lib.hid hb
      have e1 : (0 : Int) ≤ (k : Int) := Int.natCast_nonneg _
      have e2 : (k : Int) < (rs.length : Int) := by omega
      have hbs := hb.size
      have hfr : f r = (decide (r.pos ≤ x)) := by rw [HF.out]
      have HFR := Lib.hid hfr
      clear hS hT ho hb hfr
      by_cases h2 : r.pos ≤ x
      · have HTK := Lib.hid (HY.out (by rw [HFR.out, decide_eq_true h2]))
        go_wp2_with (at_builtin; refine wpList_pushH (W := wr) rfl _ _ _ rfl 101 _ 6 96 Tryz.underlying32 infoRec rfl (by decide) (by decide) rfl w.heap.size (fun i => i < w.heap.size) u5 _ rfl HOW.out r [.int .i64 r.pos, .int .i64 r.ver, .string r.ev.stream, .string r.ev.type, .slice S r.ev.tags.length sa, .slice T r.ev.fields.length ta] (kRec_mk (HS.out.mono (fun i hi => ⟨hi.2, own_far HOW.out i hi.2⟩)) (HT.out.mono (fun i hi => ⟨hi.2, own_far HOW.out i hi.2⟩))) wr.heap.size rfl rfl hbs (by omega) ?_; intro v1 w5 hown1 hg1 hat1 hbel1; have HO5 := Lib.hid hown1; have HB5 := Lib.hid (hbel1 w HB.out); clear hown1 hg1 hat1 hbel1)
        go_roundw
        case rel => exact ⟨k + 1, by omega, by go_num, by rw [HTK.out]; exact HO5.out, HB5.out⟩
        case measure => simp [intOf]; omega
      · have HTK := Lib.hid (HN.out (by rw [HFR.out, decide_eq_false h2]))
        go_wp2_with fail
        go_roundw
        case rel => exact ⟨k + 1, by omega, by go_num, by rw [HTK.out]; exact HOW.out, HB.out⟩
        case measure => simp [intOf]; omega
    · obtain rfl : k = rs.length := by omega
      rw [List.take_length] at ho
      obtain ⟨A1, c1, rfl, hs⟩ := ho.sl
      have HS := Lib.hid hs.any
      have HB := Lib.hid hb
      clear ho hs hb
      go_wp2_with fail
      go_ret
      exact ⟨A1, c1, rfl, HS.out, HB.out⟩

set_option maxHeartbeats 4000000 in
set_option maxRecDepth 100000 in
theorem ref14Since_any {es : List Event} (h : Rx w y A c (recsOf es) X) (hl : es.length ≤ 100000) {q : List Clause} {Q : Option Addr} {cq : Nat} (hq : SlC w Q cq q) (a : Int) :
    Calls Tryz.prog 67 #[.pointer (some ⟨y, 0, none⟩), .agg #[.slice Q q.length cq], .int .i64 a] w fun r w' => r = .returned (.bool (sinceR es q a)) ∧ Below w.heap.size w w' := by
  obtain ⟨W1, hW1⟩ : ∃ W1, W1 = w.alloc (.cells #[.slice Q q.length cq] 25) := ⟨_, rfl⟩
  have HW1 := Lib.hid hW1
  have hb1 : Below w.heap.size w W1 := by rw [hW1]; exact (Below.refl _ _).alloc (Nat.le_refl _) _
  have hxq : Bx W1 w.heap.size 25 [.slice Q q.length cq] := by rw [hW1]; exact Bx.new w _ _
  have HB1 := Lib.hid hb1
  have HXQ := Lib.hid hxq
  have HQ := Lib.hid (hq.below hb1)
  have H := Lib.hid (h.below hb1)
  have HLEN := Lib.hid hl
  have hyl := (h.below hb1).bx.lt
  have hc1 := h.sl.1
  have hc2 := h.sl.2.1
  rw [recsOf_len] at hc1
  unfold maxLen at hc2
  have HK := Lib.hid (fun W (hw : Below W1.heap.size W1 W) => show Below W1.heap.size W1 W ∧ W.cell? ⟨w.heap.size, 0, none⟩ = some (.slice Q q.length cq) ∧ W.cell? ⟨y, 0, none⟩ = some (.slice A es.length c) from
    ⟨hw, (HXQ.out.under hw).cell 0, by have := (H.out.bx.under hw).cell 0; rw [recsOf_len] at this; exact this⟩)
  have CQ := Lib.hid (fun W (R : Prop) (hW : Below W1.heap.size W1 W ∧ R) => show Calls Tryz.prog 44 #[.pointer (some ⟨y, 0, none⟩), .agg #[.slice Q q.length cq], .int .i64 es.length] W (RetRef y (qryR es q es.length) W) from
    ref14Query_any (H.out.below hW.1) (by rw [recsOf_len]; exact HLEN.out) (HQ.out.below hW.1) es.length)
  have HS := Lib.hid (since_last es q a)
  have hlen := qryR_len es q es.length
  generalize sinceR es q a = R at HS ⊢
  have hrec : ∀ r ∈ qryR es q es.length, True := fun _ _ => trivial
  generalize qryR es q es.length = rs at HS CQ hlen
  clear h hq hb1 hxq hrec
  go_enter Tryz.func67, Tryz.ntmps67
  go_upto_region 1 with fail
  rw [← HW1.out]
  clear hW1 HW1
  go_cut [7] (fun v wx => ∃ P cp, v = .slice P rs.length cp ∧ SlR wx P cp rs ∧ Below W1.heap.size W1 wx)
  case first =>
    go_region_held3 (fun W => Below W1.heap.size W1 W ∧ W.cell? ⟨w.heap.size, 0, none⟩ = some (.slice Q q.length cq) ∧ W.cell? ⟨y, 0, none⟩ = some (.slice A es.length c)) (first | exact HK.out _ (below_drawn (Below.refl _ _)) | exact HK.out _ (bthen (And.left (by assumption : Below W1.heap.size W1 _ ∧ _)) (by assumption)) | (assumption))
      (first | (go_at_call 44; go_fit (CQ.out _ _ (by assumption)); rintro r w5 ⟨P, cp, rfl, hs5, hb5⟩; have HS5 := Lib.hid hs5; have HB5 := Lib.hid (bthen (And.left (by assumption : Below W1.heap.size W1 _ ∧ _)) hb5); clear hs5))
    all_goals go_wp2_with fail
    all_goals go_meet
    all_goals exact ⟨P, cp, rfl, HS5.out, HB5.out⟩
  case rest =>
    obtain ⟨P, cp, rfl, hsl, hbc⟩ := hcut
    have HBC := Lib.hid hbc
    have hs2 := hsl.2.1
    unfold maxLen at hs2
    rcases Nat.eq_zero_or_pos rs.length with h0 | h0
    · have hR : R = false := by
        have := HS.out
        rw [List.eq_nil_of_length_eq_zero h0] at this
        exact this
      have g1 : decide ((0 : Int) < (rs.length : Int)) = false := decide_eq_false (by omega)
      clear hbc hsl
      rw [h0]
      go_wp2_with fail
      go_ret
      exact ⟨by rw [hR]; rfl, bthen HB1.out HBC.out⟩
    · obtain ⟨n, hn⟩ : ∃ n, rs.length = n + 1 := ⟨rs.length - 1, by omega⟩
      obtain ⟨ad, S, sa, T, ta, rfl, c0, c1, c2, c3, c4, c5, hS, hT⟩ := row_rec_at hsl.2.2 (show n < rs.length by omega)
      have hlast : rs.getLast? = some rs[n] := by rw [List.getLast?_eq_getElem?, show rs.length - 1 = n by omega, List.getElem?_eq_getElem (by omega)]
      have hR : R = decide (a < rs[n].pos) := by rw [HS.out, hlast]
      generalize rs[n] = r at c0 c1 c2 c3 c4 c5 hS hT hR
      rw [hn]
      have hcp : n + 1 ≤ cp := by have := hsl.1; omega
      have i1 : (0 : Int) ≤ (n : Int) := Int.natCast_nonneg _
      have i2 : (0 : Int) < ((n + 1 : Nat) : Int) := by omega
      have i3 : (((n + 1 : Nat) : Int)) - 1 = (n : Int) := by omega
      clear hbc hsl c1 c2 c3 c4 c5 hS hT hlast
      go_wp2_with fail
      go_ret
      exact ⟨by rw [hR]; rfl, bthen HB1.out HBC.out⟩
end
end Go.Proofs.YtfoghahidofegaaGreat

namespace Go.Proofs.YtfoghahidofegaaGreat
open Go.RowKit Go.Maps

def sbZ' : ByteArray := ⟨#[122]⟩
abbrev zzB : Event := evOf sbZ' sbZ'
theorem zzB_in : EvIn zzB := evOf_in (by decide) (by decide)
theorem rAdd_any {w : World} {y : Nat} {A : Option Addr} {c : Nat} {es : List Event} {X : Nat → Prop} (h : Rx w y A c (recsOf es) X) {E : Option Addr} {ce : Nat} {bs : List Event} {after : Int} (hE : Sl kEvent (fun k => k ≠ y ∧ ¬ X k) w E ce bs) (hg : ∀ e ∈ bs, EvIn e) (hl : es.length + bs.length ≤ 880) :
    Calls Tryz.prog 17 #[.pointer (some ⟨y, 0, none⟩), .agg #[.int .i64 after, .slice E bs.length ce]] w fun r w' => ∃ (A' : Option Addr) (c' : Nat), r = .returned (.tuple #[.slice A' (addRs es after bs).length c', .int .i64 (addErr es after bs)]) ∧ SlR w' A' c' (addRs es after bs) ∧
      (∃ A2 c2, Rx w' y A2 c2 (recsOf (addTo es after bs)) X) ∧ But (fun k => k = y) w w' := by
  by_cases hz : addErr es after bs = 0
  · refine (ref14AddOk h hE hg (by rw [List.length_append]; omega) hz).mono fun r w' hr => ?_
    obtain ⟨v, A2, c2, e, h1, h2, h3⟩ := hr
    obtain ⟨A', c', rfl, hs⟩ := h1.sl
    have e1 : addRs es after bs = recsFrom es bs := if_pos hz
    have e2 : addTo es after bs = es ++ bs := if_pos hz
    rw [e1, e2, hz]
    exact ⟨A', c', e, hs.any, ⟨A2, c2, h2.less (fun k hk => .inl hk)⟩, h3⟩
  · refine (ref14AddNo h hE.any hg hz).mono fun r w' hr => ?_
    obtain ⟨h1, h2⟩ := hr
    have e1 : addRs es after bs = [] := if_neg hz
    have e2 : addTo es after bs = es := if_neg hz
    rw [e1, e2]
    exact ⟨none, 0, h1, Sl.nil_, ⟨A, c, h.below h2⟩, But.of_below h2⟩
abbrev noZ : Nat → Prop := fun _ => False
section
variable {w wr w1 w2 : World} {B B2 : Six} {y : Nat} {es es' : List Event}
/-- A clone takes the index's place; the old one goes its own way. -/
theorem F2.turn (h : F2 w wr B y es noZ) (hb : Below wr.heap.size wr w1) (h2 : Ix w1 B2 es (fun k => B.has k ∨ k < w.heap.size ∨ k = y ∨ noZ k)) (hn : ∀ k, B2.has k → wr.heap.size ≤ k ∧ k < w1.heap.size) (hbut : But B.has w1 w2) : F2 w w2 B2 y es noZ := by
  obtain ⟨A, c, h1⟩ := h.rx
  have hws := h.bel.size
  have hr1 : Rx w1 y A c (recsOf es) (fun k => B.has k ∨ B2.has k) := h1.fence hb (fun k hk => hk.elim (fun h => .inl (.inl h)) (fun h => .inr (hn k h)))
  refine ⟨(h2.far (hbut.mono (fun k hk => .inl hk))).less (fun k hk => .inr hk), ⟨A, c, (hr1.far (hbut.mono (fun k hk => .inl hk))).less (fun k hk => hk.elim .inr (fun h => h.elim))⟩, fun k hk => Nat.le_trans hws (hn k hk).1, h.yl, ?_, fun k hk => hk.elim⟩
  exact hbut.below (bthen h.bel hb) (Nat.le_trans hws hb.size) (fun k hk => h.lo k hk)
/-- Both indexes take a batch. -/
theorem F2.addI (h : F2 w wr B y es noZ) (h1 : Ix w1 B es' (fun k => k < w.heap.size ∨ k = y ∨ noZ k)) (hb1 : But B.has wr w1) (h2 : ∃ A c, Rx w2 y A c (recsOf es') (fun k => B.has k ∨ noZ k)) (hb2 : But (fun k => k = y) w1 w2) : F2 w w2 B y es' noZ :=
  ⟨h1.far (hb2.mono (fun k hk => .inr (.inl hk))), h2, h.lo, h.yl, hb2.below (hb1.below h.bel h.bel.size h.lo) (Nat.le_trans h.bel.size hb1.size) (fun k hk => hk ▸ h.yl), h.zl⟩
end
end Go.Proofs.YtfoghahidofegaaGreat
