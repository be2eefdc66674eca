/- EventMay: the law's walk. -/
import Derived.Test.YthinieokpgmfoaaHead04
import Derived.Test.YthinieokpgmfoaaRef04b
import Derived.Test.YthinieokpgmfoaaRef04n
import Derived.Deep.RegionHeld3
set_option linter.unusedVariables false
set_option linter.unusedSimpArgs false
namespace Go.Proofs.Ythinieokpgmfoaa
open Go.RowKit

/-- event.Norm, its result as slices. -/
theorem normE_sl {w : World} {e : Event} {T F : Option Addr} {ct cf : Nat} (hT : SlS w T ct e.tags) (hF : SlF w F cf e.fields) (hlt : e.tags.length ≤ 1000000) (hl : e.fields.length ≤ 1000000) (hg : ∀ x ∈ e.fields, x.1.size ≤ maxLen) :
    Calls Try.prog 21 #[vEvent e T ct F cf] w fun r w' => ∃ (T' F' : Option Addr) (ct' cf' : Nat), r = .returned (.agg #[.string e.stream, .string e.type, .slice T' (uniq e.tags).length ct', .slice F' (normF e.fields).length cf']) ∧ SlS w' T' ct' (uniq e.tags) ∧ SlF w' F' cf' (normF e.fields) ∧ Below w.heap.size w w' := by
  refine (normE_any hT hF hlt hl hg).mono ?_
  rintro r w' ⟨vt, vf, M, rfl, h1, h2, _, _, hb⟩
  obtain ⟨T', ct', rfl, h3⟩ := h1.sl
  obtain ⟨F', cf', rfl, h4⟩ := h2.sl
  exact ⟨T', F', ct', cf', rfl, h3.any, h4.any, hb⟩

set_option maxHeartbeats 4000000 in
set_option maxRecDepth 100000 in
theorem eventMay_walk (w : World) (c0 : Array Value) (a : Event) (ha : kEvent.K (fun _ => True) w a c0.toList) (ga : goodEvent a) :
    Calls Try.prog 4 #[.agg c0] w fun r w' => r = .returned (.bool true) ∧ Below w.heap.size w w' := by
  obtain ⟨T, ct, F, cf, rfl, hT, hF⟩ := event_in4 ha
  have hta := few12_tags a
  have hfa := few12_fields a
  have HG := Lib.hid (good_few12 a ga)
  clear ha ga
  obtain ⟨W0, hW0⟩ : ∃ W0, W0 = (w.alloc (.cells #[.string a.stream, .string a.type, .slice T a.tags.length ct, .slice F a.fields.length cf] 28)) := ⟨_, rfl⟩
  have HW0 := Lib.hid hW0
  have HB0 := Lib.hid (show Below w.heap.size w W0 by rw [hW0]; exact (Below.refl _ _).alloc (Nat.le_refl _) _)
  have HA := Lib.hid (show A04 w w.heap.size a T F ct cf W0 from ⟨by rw [hW0]; exact Bx.new w _ _, hT.below HB0.out, hF.below HB0.out, Nat.le_refl _⟩)
  have HS := Lib.hid (shown04 W0)
  clear hT hF
  go_enter Try.func4, Try.ntmps4
  go_upto_region 1 with fail
  rw [← HW0.out]
  clear hW0
  go_upto_region 2 with (go_at_call 18; go_fit HS.out; rintro r w1 ⟨rfl, hb1⟩; have HA1 := Lib.hid (HA.out.below hb1); have HBW := Lib.hid (bthen HB0.out hb1); clear hb1)
  clear HA HB0 HS HW0
  have k0 := HA1.out.c0
  have k1 := HA1.out.c1
  have k2 := HA1.out.c2
  have k3 := HA1.out.c3
  have CF := Lib.hid (few04_any (w := w1) (e := a) (T := T) (F := F) (ct := ct) (cf := cf) HA1.out.ts.1 HA1.out.fs.1)
  go_upto_region 3 with (go_at_call 19; go_fit CF.out; rintro r w2 ⟨rfl, hb2⟩; have HA2 := Lib.hid (HA1.out.below hb2); have HBV := Lib.hid (bthen HBW.out hb2); have j0 := HA2.out.c0; have j1 := HA2.out.c1; have j2 := HA2.out.c2; have j3 := HA2.out.c3; have f0 := HA2.out.bx.free 0; have f1 := HA2.out.bx.free 1; have f2 := HA2.out.bx.free 2; have f3 := HA2.out.bx.free 3; clear hb2)
  have HA3 := Lib.hid HA2.out.few
  have HBW3 := Lib.hid (below4 HBV.out (Nat.le_refl _) (.string (few12 a).stream) (.string (few12 a).type) (.slice T (few12 a).tags.length ct) (.slice F (few12 a).fields.length cf))
  clear HA2 HBV j0 j1 j2 j3 f0 f1 f2 f3 k0 k1 k2 k3 CF HA1 HBW
  generalize ((((w2.setCell ⟨w.heap.size, 0, none⟩ (.string (few12 a).stream)).setCell ⟨w.heap.size, 1, none⟩ (.string (few12 a).type)).setCell ⟨w.heap.size, 2, none⟩ (.slice T (few12 a).tags.length ct)).setCell ⟨w.heap.size, 3, none⟩ (.slice F (few12 a).fields.length cf)) = X at HA3 HBW3 ⊢
  generalize few12 a = a at HA3 HBW3 hta hfa HG ⊢
  have HK := Lib.hid (fun W (hb : Below X.heap.size X W) => show Below X.heap.size X W ∧ W.cell? ⟨w.heap.size, 0, none⟩ = some (.string a.stream) ∧ W.cell? ⟨w.heap.size, 1, none⟩ = some (.string a.type) ∧ W.cell? ⟨w.heap.size, 2, none⟩ = some (.slice T a.tags.length ct) ∧ W.cell? ⟨w.heap.size, 3, none⟩ = some (.slice F a.fields.length cf) from
    ⟨hb, (HA3.out.below hb).c0, (HA3.out.below hb).c1, (HA3.out.below hb).c2, (HA3.out.below hb).c3⟩)
  have C1 := Lib.hid (fun W (R : Prop) (hb : Below X.heap.size X W ∧ R) => normE_sl (HA3.out.below hb.1).ts.any (HA3.out.below hb.1).fs.any (by omega) (by omega) (fun x hx => (HG.out.2.2.2 x hx).1))
  have C2 := Lib.hid (fun W (R : Prop) (hb : Below X.heap.size X W ∧ R) => refNormE_any (HA3.out.below hb.1).ts.any (HA3.out.below hb.1).fs.any (by omega) (by omega))
  have C3 := Lib.hid (fun W T1 F1 c1 d1 T2 F2 c2 d2 (h1 : SlS W T1 c1 (uniq a.tags)) (h2 : SlF W F1 d1 (normF a.fields)) (h3 : SlS W T2 c2 (uniq a.tags)) (h4 : SlF W F2 d2 (normF a.fields)) => show Calls Try.prog 20 #[.agg #[.string a.stream, .string a.type, .slice T1 (uniq a.tags).length c1, .slice F1 (normF a.fields).length d1], .agg #[.string a.stream, .string a.type, .slice T2 (uniq a.tags).length c2, .slice F2 (normF a.fields).length d2]] W fun r w' => r = .returned (.bool true) ∧ Below W.heap.size W w' from by
    have := refSameE_any (x := normE a) (y := normE a) h1 h2 h3 h4
    rwa [sameE_refl] at this)
  obtain ⟨m, hm⟩ : ∃ m, mayE a = m := ⟨_, rfl⟩
  have D1 := Lib.hid (fun W (R : Prop) (hb : Below X.heap.size X W ∧ R) => show Calls Try.prog 23 #[vEvent a T ct F cf] W fun r w' => r = .returned (.int .i64 m) ∧ Below W.heap.size W w' from by
    rw [← hm]; exact mayE_any (HA3.out.below hb.1).ts.any (HA3.out.below hb.1).fs.any (by omega) HG.out.2.2.1)
  have D2 := Lib.hid (fun W (R : Prop) (hb : Below X.heap.size X W ∧ R) => show Calls Try.prog 24 #[vEvent a T ct F cf] W fun r w' => r = .returned (.int .i64 m) ∧ Below W.heap.size W w' from by
    rw [← hm]; exact refMayE_any (HA3.out.below hb.1).ts.any (HA3.out.below hb.1).fs.any HG.out.2.2.1)
  clear hm HA3 hta hfa HG
  generalize (uniq a.tags).length = nt at C1 C2 C3
  generalize (normF a.fields).length = nf at C1 C2 C3
  go_cut [4] (fun v wx => v = .bool true ∧ Below X.heap.size X wx)
  case first =>
    go_region_held3 (fun W => Below X.heap.size X W ∧ W.cell? ⟨w.heap.size, 0, none⟩ = some (.string a.stream) ∧ W.cell? ⟨w.heap.size, 1, none⟩ = some (.string a.type) ∧ W.cell? ⟨w.heap.size, 2, none⟩ = some (.slice T a.tags.length ct) ∧ W.cell? ⟨w.heap.size, 3, none⟩ = some (.slice F a.fields.length cf))
      (first | exact HK.out _ (below_drawn (Below.refl _ _)) | exact HK.out _ (bthen (And.left (by assumption : Below X.heap.size X _ ∧ _)) (by assumption)))
      (first
        | (go_at_call 20; with_reducible (refine (C3.out _ _ _ _ _ _ _ _ _ H1.out H1b.out H2.out H2b.out).mono ?_); rintro r w' ⟨rfl, hb⟩)
        | (go_at_call 22; with_reducible (refine (C2.out _ _ (by assumption)).mono ?_); rintro r w6 ⟨T2, F2, c2, d2, rfl, h2, h2b, hb⟩; have H2 := Lib.hid h2; have H2b := Lib.hid h2b; have H1 := Lib.hid (H1'.out.below hb); have H1b := Lib.hid (H1b'.out.below hb); clear h2 h2b)
        | (go_at_call 21; with_reducible (refine (C1.out _ _ (by assumption)).mono ?_); rintro r w5 ⟨T1, F1, c1, d1, rfl, h1, h1b, hb⟩; have H1' := Lib.hid h1; have H1b' := Lib.hid h1b; clear h1 h1b))
    all_goals go_wp2_with fail
    all_goals go_meet
    all_goals exact ⟨rfl, And.left (by assumption : Below X.heap.size X _ ∧ _)⟩
  case rest =>
    obtain ⟨rfl, hcX⟩ := hcut
    have HCX := Lib.hid hcX
    clear hcX C1 C2 C3
    go_upto_region 4 with fail
    go_region_held3 (fun W => Below X.heap.size X W ∧ W.cell? ⟨w.heap.size, 0, none⟩ = some (.string a.stream) ∧ W.cell? ⟨w.heap.size, 1, none⟩ = some (.string a.type) ∧ W.cell? ⟨w.heap.size, 2, none⟩ = some (.slice T a.tags.length ct) ∧ W.cell? ⟨w.heap.size, 3, none⟩ = some (.slice F a.fields.length cf))
      (first | exact HK.out _ (below_drawn HCX.out) | exact HK.out _ (bthen (And.left (by assumption : Below X.heap.size X _ ∧ _)) (by assumption)))
      (first
        | (go_at_call 23; with_reducible (refine (D1.out _ _ (by assumption)).mono ?_); rintro r w' ⟨rfl, hb⟩)
        | (go_at_call 24; with_reducible (refine (D2.out _ _ (by assumption)).mono ?_); rintro r w' ⟨rfl, hb⟩))
    all_goals go_wp2_with fail
    all_goals go_ret
    all_goals exact ⟨rfl, bthen HBW3.out (And.left (by assumption : Below X.heap.size X _ ∧ _))⟩
end Go.Proofs.Ythinieokpgmfoaa
