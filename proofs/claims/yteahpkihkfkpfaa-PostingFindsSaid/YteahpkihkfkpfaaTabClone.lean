/- maps.Clone; (*streams.Table).Clone. -/
import Derived.Test.YteahpkihkfkpfaaTabPositions
import Derived.Shelf.SlMaps.Clone
set_option linter.unusedVariables false
set_option linter.unusedSimpArgs false
namespace Go.Proofs.Yteahpkihkfkpfaa
open Go.RowKit Go.Maps
set_option maxHeartbeats 1000000 in
theorem mapClone_any (b : Nat) (es : Array MapEntry) (clock : Nat) (w : World) (hb : w.heap[b]? = some (.map es clock)) :
    Calls Try.prog 54 #[.map (some b)] w fun e w' => e = .returned (.map (some w.heap.size)) ∧ w' = w.alloc (.map es clock) := by
  have hq := fun w => run_eql_map_nil_sl (P := Try.prog) w 77 _ _ (some b) Try.underlying77
  have hf : Try.prog.funcs[73]? = some Try.f73 := by kernel_rfl
  have hx : (callFunc 73 #[.iface 77 (.map (some b))]).run Try.prog w = .ok (.value (.iface 77 (.map (some w.heap.size)))) (w.alloc (.map es clock)) := by
    rw [run_callFunc_extern hf (by kernel_rfl) (by kernel_rfl) (by kernel_rfl) (e := Extern.MapsClone.clone) (by kernel_rfl), run_maps_clone_sl w 77 hb]
    rfl
  have ht : ∀ W : World, (Instr.typeAssert (.iface 77 (.map (some w.heap.size))) 20 77 false).run Try.prog W = .ok (.map (some w.heap.size)) W := fun W => run_typeAssert_map_sl W 77 20 _ _ _ Try.underlying77
  go_enter Try.func54, Try.ntmps54
  go_wp2_with fail
  go_ret
  exact ⟨rfl, rfl⟩
theorem mapClone_owns (k : TypeId) (R : Value → Option (DataW Value × List MemPlace)) (b n : Nat) (D : DataW Value) (w : World) (hown : w.ownsMap Try.prog k R b n D) :
    Calls Try.prog 54 #[.map (some b)] w fun e w' => (∃ m, e = .returned (.map (some m)) ∧ w.heap.size ≤ m ∧ m < w'.heap.size ∧ w'.ownsMap Try.prog k R m n D) ∧ Below w.heap.size w w' := by
  have hlt := hown.lt
  obtain ⟨es, clock, hb, F, hs, hD⟩ := hown
  refine (mapClone_any b es clock w hb).mono fun e w' ⟨he, hw⟩ => ?_
  subst hw
  exact ⟨⟨_, he, Nat.le_refl _, by simp, ⟨es, clock, (MapKept.heap_alloc w _).1, F, hs, hD⟩⟩, (Below.refl _ w).alloc (Nat.le_refl _) _⟩

set_option maxHeartbeats 1000000 in
theorem Clone_any {w : World} {b m N : Nat} {D : DataW Value} {last : Int} {f : ByteArray → List Int} {X : Nat → Prop} (h : Tb w b m N D last f X) :
    Calls Try.prog 29 #[.pointer (some ⟨b, 0, none⟩)] w fun r w' => ∃ b2 m2, r = .returned (.pointer (some ⟨b2, 0, none⟩)) ∧ w.heap.size ≤ b2 ∧ w.heap.size ≤ m2 ∧ Below w.heap.size w w' ∧
      Tb w' b2 m2 N D last f (fun k => k = b ∨ k = m ∨ X k) ∧ Tb w' b m N D last f (fun k => k = b2 ∨ k = m2 ∨ X k) := by
  have HK : Hid (∀ W, Below w.heap.size w W → Below w.heap.size w W ∧ W.cell? ⟨b, 0, none⟩ = some (.int .i64 last) ∧ W.cell? ⟨b, 1, none⟩ = some (.map (some m))) :=
    Lib.hid (fun W hW => ⟨hW, (h.bx.under hW).cell 0, (h.bx.under hW).cell 1⟩)
  have C1 : Hid (∀ W, Below w.heap.size w W ∧ W.cell? ⟨b, 0, none⟩ = some (.int .i64 last) ∧ W.cell? ⟨b, 1, none⟩ = some (.map (some m)) → Calls Try.prog 54 #[.map (some m)] W fun e w' => (∃ m2, e = .returned (.map (some m2)) ∧ W.heap.size ≤ m2 ∧ m2 < w'.heap.size ∧ w'.ownsMap Try.prog 9 RV m2 N D) ∧ Below W.heap.size W w') :=
    Lib.hid (fun W hW => mapClone_owns _ _ _ _ _ _ (h.below hW.1).mp.om)
  have H := Lib.hid h
  clear h
  go_enter Try.func29, Try.ntmps29
  go_wp2_with fail
  go_region_held3 (fun W => Below w.heap.size w W ∧ W.cell? ⟨b, 0, none⟩ = some (.int .i64 last) ∧ W.cell? ⟨b, 1, none⟩ = some (.map (some m))) (first | exact HK.out _ (below_drawn (Below.refl _ _)) | (assumption) | exact HK.out _ (bthen (And.left (by assumption : Below w.heap.size w _ ∧ _)) (by assumption)) | exact HK.out _ ((And.left (by assumption : Below w.heap.size w _ ∧ _)).alloc (And.left (by assumption : Below w.heap.size w _ ∧ _)).size _)) (first | (go_at_call 54; refine (C1.out _ (by assumption)).mono ?_; rintro r w' ⟨⟨m2, rfl, hm1, hm2, hom⟩, hb⟩; have HO := Lib.hid hom; clear hom))
  all_goals go_wp2
  all_goals go_ret
  all_goals
    have hB : Below w.heap.size w (w'.alloc (.cells #[.int .i64 last, .map (some m2)] 79)) := And.left (by assumption : Below w.heap.size w (w'.alloc _) ∧ _)
    have hs1 : w.heap.size ≤ w'.heap.size := hb.size
    have hs2 : w.heap.size ≤ m2 := hm1
    refine ⟨w'.heap.size, m2, rfl, hs1, hs2, hB, H.out.copy hB hs1 hs2 (by omega) (Bx.new w' _ [.int .i64 last, .map (some m2)]) (HO.out.alloc _), H.out.fence hB (fun k hk => ?_)⟩
    have hz : (w'.alloc (.cells #[.int .i64 last, .map (some m2)] 79)).heap.size = w'.heap.size + 1 := by simp
    rcases hk with rfl | rfl | hk
    · exact .inr ⟨by omega, by omega⟩
    · exact .inr ⟨by omega, by omega⟩
    · exact .inl hk
end Go.Proofs.Yteahpkihkfkpfaa
