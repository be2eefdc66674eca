/- QueryMay: the law's walk. -/
import Derived.Test.YthinieokpgmfoaaLawQueryFits
import Derived.Test.YthinieokpgmfoaaRef06m
import Derived.Test.YthinieokpgmfoaaRef06y
set_option linter.unusedVariables false
set_option linter.unusedSimpArgs false
namespace Go.Proofs.Ythinieokpgmfoaa
open Go.RowKit

set_option maxHeartbeats 4000000 in
set_option maxRecDepth 100000 in
theorem queryMay_walk (w : World) (c0 : Array Value) (a : List Clause) (ha : kQuery.K (fun _ => True) w a c0.toList) (ga : ∀ c ∈ a, goodClause c) (c1 : Array Value) (b : List Clause) (hb : kQuery.K (fun _ => True) w b c1.toList) (gb : ∀ c ∈ b, goodClause c) :
    Calls Try.prog 10 #[.agg c0, .agg c1] w fun r w' => r = .returned (.bool true) ∧ Below w.heap.size w w' := by
  obtain ⟨P, cp, rfl, hP⟩ := query_in ha
  obtain ⟨Q, cq, rfl, hQ⟩ := query_in hb
  have HGA := Lib.hid (good_fewM a ga)
  have hfa := fewM_len2 a
  clear ha hb ga gb
  obtain ⟨W0, hW0⟩ : ∃ W0, W0 = (w.alloc (.cells #[.slice P a.length cp] 24)).alloc (.cells #[.slice Q b.length cq] 24) := ⟨_, rfl⟩
  have HW0 := Lib.hid hW0
  have HB0 := Lib.hid (show Below w.heap.size w W0 by rw [hW0]; exact ((Below.refl _ _).alloc (Nat.le_refl _) _).alloc (by simp) _)
  have HXA := Lib.hid (show Bx W0 w.heap.size 24 [.slice P a.length cp] by rw [hW0]; exact (Bx.new w _ _).alloc _)
  have HXB := Lib.hid (show Bx W0 (w.heap.size + 1) 24 [.slice Q b.length cq] by
    rw [hW0]; have := Bx.new (w.alloc (.cells #[.slice P a.length cp] 24)) 24 [.slice Q b.length cq]
    simpa using this)
  have HP := Lib.hid (hP.below HB0.out)
  have HQ := Lib.hid (hQ.below HB0.out)
  have HS := Lib.hid (shown06 W0)
  clear hP hQ
  go_enter Try.func10, Try.ntmps10
  go_upto_region 1 with fail
  rw [← HW0.out]
  clear hW0
  go_upto_region 2 with (go_at_call 12; go_fit HS.out; rintro r w1 ⟨rfl, hb1⟩; have HX1 := Lib.hid (HXA.out.under hb1); have HY1 := Lib.hid (HXB.out.under hb1); have HB1 := Lib.hid (bthen HB0.out hb1); have CF := Lib.hid (few_any _ (HP.out.below hb1)); have HQ1 := Lib.hid (HQ.out.below hb1); have i0 := HX1.out.c0; clear hb1)
  go_upto_region 3 with (go_at_call 13; go_fit CF.out; rintro r w2 ⟨A, c, rfl, hs2, hb2⟩; have HS2 := Lib.hid hs2; have HB2 := Lib.hid hb2; have i1 := (HX1.out.under hb2).c0; have i2 := (HX1.out.under hb2).free 0; clear hs2 hb2)
  have hlt1 := HX1.out.lt
  have hlt2 := HY1.out.lt
  have hsz2 := HB2.out.size
  have HX3 := Lib.hid (show Bx (w2.setCell ⟨w.heap.size, 0, none⟩ (.slice A (fewM a).length c)) w.heap.size 24 [.slice A (fewM a).length c] from (HX1.out.under HB2.out).set 0 _)
  have HY3 := Lib.hid (show Bx (w2.setCell ⟨w.heap.size, 0, none⟩ (.slice A (fewM a).length c)) (w.heap.size + 1) 24 [.slice Q b.length cq] from (HY1.out.under HB2.out).far (by simp) _)
  have HS3 := Lib.hid (show Sl kClause (fun k => k ≠ w.heap.size + 1) (w2.setCell ⟨w.heap.size, 0, none⟩ (.slice A (fewM a).length c)) A c (fewM a) from (HS2.out.setCell (fun k hk e => by simp at e; omega) _).mono (fun k hk => by omega))
  have HQ3 := Lib.hid (show Sl kClause (fun k => k < w.heap.size) (w2.setCell ⟨w.heap.size, 0, none⟩ (.slice A (fewM a).length c)) Q cq b from ((HQ1.out.below HB2.out).setCell (fun k hk e => by simp at e; omega) _).mono (fun k hk => hk.2))
  have HB3 := Lib.hid (show Below w.heap.size w (w2.setCell ⟨w.heap.size, 0, none⟩ (.slice A (fewM a).length c)) from (bthen HB1.out HB2.out).setCell (by simp) _)
  have hz3 : w.heap.size + 1 < (w2.setCell ⟨w.heap.size, 0, none⟩ (.slice A (fewM a).length c)).heap.size := by simp [World.setCell]; omega
  clear i0 i1 i2 hlt1 hlt2 hsz2 HS2 HB2 HX1 HY1 HB1 CF HQ1
  generalize w2.setCell ⟨w.heap.size, 0, none⟩ (.slice A (fewM a).length c) = w3 at HX3 HY3 HS3 HQ3 HB3 hz3 ⊢
  generalize fewM a = a at *
  have CF := Lib.hid (few_any _ HQ3.out)
  have i0 := HY3.out.c0
  go_upto_region 4 with (go_at_call 13; go_fit CF.out; rintro r w4 ⟨B, d, rfl, hs4, hb4⟩; have HS4 := Lib.hid hs4; have HB4 := Lib.hid hb4; have i1 := (HY3.out.under hb4).c0; have i2 := (HY3.out.under hb4).free 0; clear hs4 hb4)
  have HX5 := Lib.hid (show Bx (w4.setCell ⟨w.heap.size + 1, 0, none⟩ (.slice B (fewM b).length d)) w.heap.size 24 [.slice A a.length c] from (HX3.out.under HB4.out).far (by simp) _)
  have HY5 := Lib.hid (show Bx (w4.setCell ⟨w.heap.size + 1, 0, none⟩ (.slice B (fewM b).length d)) (w.heap.size + 1) 24 [.slice B (fewM b).length d] from (HY3.out.under HB4.out).set 0 _)
  have HSA := Lib.hid (show SlC (w4.setCell ⟨w.heap.size + 1, 0, none⟩ (.slice B (fewM b).length d)) A c a from ((HS3.out.below HB4.out).setCell (fun k hk e => by simp at e; omega) _).any)
  have HSB := Lib.hid (show SlC (w4.setCell ⟨w.heap.size + 1, 0, none⟩ (.slice B (fewM b).length d)) B d (fewM b) from (HS4.out.setCell (fun k hk e => by simp at e; omega) _).any)
  have HB5 := Lib.hid (show Below w.heap.size w (w4.setCell ⟨w.heap.size + 1, 0, none⟩ (.slice B (fewM b).length d)) from (bthen HB3.out HB4.out).setCell (by simp) _)
  clear i0 i1 i2 HS4 HB4 HX3 HY3 HS3 HQ3 HB3 hz3 CF
  generalize w4.setCell ⟨w.heap.size + 1, 0, none⟩ (.slice B (fewM b).length d) = X at HX5 HY5 HSA HSB HB5 ⊢
  generalize fewM b = b at *
  obtain ⟨ha8, hat⟩ := hfa
  have HAT := Lib.hid hat
  clear hat
  have HK := Lib.hid (fun W (hb : Below X.heap.size X W) => show Below X.heap.size X W ∧ W.cell? ⟨w.heap.size, 0, none⟩ = some (.slice A a.length c) ∧ W.cell? ⟨w.heap.size + 1, 0, none⟩ = some (.slice B b.length d) from ⟨hb, (HX5.out.under hb).c0, (HY5.out.under hb).c0⟩)
  have C1 := Lib.hid (fun W (R : Prop) (hb : Below X.heap.size X W ∧ R) => show Calls Try.prog 15 #[.agg #[.slice A a.length c]] W fun r w' => ∃ A1 c1, r = .returned (.agg #[.slice A1 a.length c1]) ∧ SlC w' A1 c1 (a.map normC) ∧ Below W.heap.size W w' from by
    have := Norm_any (HSA.out.below hb.1) (by omega) (fun c hc => by have := HAT.out c hc; omega)
    rw [List.length_map] at this
    exact this.mono fun r w' ⟨A9, c9, e1, h1, hb9⟩ => ⟨A9, c9, e1, h1.any, hb9⟩)
  have C2 := Lib.hid (fun W (R : Prop) (hb : Below X.heap.size X W ∧ R) => show Calls Try.prog 31 #[.agg #[.slice A a.length c]] W fun r w' => ∃ A1 c1, r = .returned (.agg #[.slice A1 a.length c1]) ∧ SlC w' A1 c1 (a.map normC) ∧ Below W.heap.size W w' from by
    have := refNorm_any (HSA.out.below hb.1) (by omega) (fun c hc => by have := HAT.out c hc; omega)
    rw [List.length_map] at this
    exact this)
  have C3 := Lib.hid (fun W A1 d1 A2 d2 (h1 : SlC W A1 d1 (a.map normC)) (h2 : SlC W A2 d2 (a.map normC)) => show Calls Try.prog 30 #[.agg #[.slice A1 a.length d1], .agg #[.slice A2 a.length d2]] W fun r w' => r = .returned (.bool true) ∧ Below W.heap.size W w' from by
    have := refSame_any h1 h2
    rwa [List.length_map, decide_eq_true rfl] at this)
  go_cut [6] (fun v wx => v = .bool true ∧ Below X.heap.size X wx)
  case first =>
    go_region_held3 (fun W => Below X.heap.size X W ∧ W.cell? ⟨w.heap.size, 0, none⟩ = some (.slice A a.length c) ∧ W.cell? ⟨w.heap.size + 1, 0, none⟩ = some (.slice B b.length d))
      (first | exact HK.out _ (below_drawn (Below.refl _ _)) | exact HK.out _ (bthen (And.left (by assumption : Below X.heap.size X _ ∧ _)) (by assumption)))
      (first
        | (go_at_call 30; refine (C3.out _ _ _ _ _ H1.out H2.out).mono ?_; rintro r w' ⟨rfl, hb⟩)
        | (go_at_call 31; refine (C2.out _ _ (by assumption)).mono ?_; rintro r w6 ⟨A2, d2, rfl, h2, hb⟩; have H2 := Lib.hid h2; have H1 := Lib.hid (H1'.out.below hb); clear h2)
        | (go_at_call 15; refine (C1.out _ _ (by assumption)).mono ?_; rintro r w5 ⟨A1, d1, rfl, h1, hb⟩; have H1' := Lib.hid h1; clear h1))
    all_goals go_wp2_with fail
    all_goals go_meet
    all_goals exact ⟨rfl, And.left (by assumption : Below X.heap.size X _ ∧ _)⟩
  case rest =>
    obtain ⟨rfl, hcX⟩ := hcut
    have HCX := Lib.hid hcX
    obtain ⟨e, he⟩ : ∃ e, mayQ a = e := ⟨_, rfl⟩
    obtain ⟨s, hs⟩ : ∃ s, decide (a = b) = s := ⟨_, rfl⟩
    have D1 := Lib.hid (fun W (R : Prop) (hb : Below X.heap.size X W ∧ R) => show Calls Try.prog 32 #[.agg #[.slice A a.length c]] W fun r w' => r = .returned (.int .i64 e) ∧ Below W.heap.size W w' from by
      rw [← he]; exact mayQ_any (HSA.out.below hb.1) (fun c hc => by have := HAT.out c hc; omega) (fun c hc => (HGA.out c hc).1))
    have D2 := Lib.hid (fun W (R : Prop) (hb : Below X.heap.size X W ∧ R) => show Calls Try.prog 33 #[.agg #[.slice A a.length c]] W fun r w' => r = .returned (.int .i64 e) ∧ Below W.heap.size W w' from by
      rw [← he]; exact refMayQ_any (HSA.out.below hb.1) (fun c hc => (HGA.out c hc).1))
    have D3 := Lib.hid (fun W (R : Prop) (hb : Below X.heap.size X W ∧ R) => show Calls Try.prog 17 #[.agg #[.slice A a.length c], .agg #[.slice B b.length d]] W fun r w' => r = .returned (.bool s) ∧ Below W.heap.size W w' from by
      rw [← hs]; exact Same_any (HSA.out.below hb.1) (HSB.out.below hb.1))
    have D4 := Lib.hid (fun W (R : Prop) (hb : Below X.heap.size X W ∧ R) => show Calls Try.prog 30 #[.agg #[.slice A a.length c], .agg #[.slice B b.length d]] W fun r w' => r = .returned (.bool s) ∧ Below W.heap.size W w' from by
      rw [← hs]; exact refSame_any (HSA.out.below hb.1) (HSB.out.below hb.1))
    clear he hs hcX C1 C2 C3
    go_upto_region 5 with fail
    rcases s with _ | _
    all_goals go_region_held3 (fun W => Below X.heap.size X W ∧ W.cell? ⟨w.heap.size, 0, none⟩ = some (.slice A a.length c) ∧ W.cell? ⟨w.heap.size + 1, 0, none⟩ = some (.slice B b.length d))
      (first | exact HK.out _ (below_drawn HCX.out) | exact HK.out _ (bthen (And.left (by assumption : Below X.heap.size X _ ∧ _)) (by assumption)))
      (first
        | (go_at_call 32; refine (D1.out _ _ (by assumption)).mono ?_; rintro r w' ⟨rfl, hb⟩)
        | (go_at_call 33; refine (D2.out _ _ (by assumption)).mono ?_; rintro r w' ⟨rfl, hb⟩)
        | (go_at_call 17; refine (D3.out _ _ (by assumption)).mono ?_; rintro r w' ⟨rfl, hb⟩)
        | (go_at_call 30; refine (D4.out _ _ (by assumption)).mono ?_; rintro r w' ⟨rfl, hb⟩))
    all_goals go_wp2_with fail
    all_goals go_ret
    all_goals exact ⟨rfl, bthen HB5.out (And.left (by assumption : Below X.heap.size X _ ∧ _))⟩
end Go.Proofs.Ythinieokpgmfoaa
