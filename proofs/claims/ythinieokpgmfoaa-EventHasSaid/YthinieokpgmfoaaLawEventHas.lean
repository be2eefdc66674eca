/- EventHas: the law's walk. -/
import Derived.Test.YthinieokpgmfoaaHead04
import Derived.Test.YthinieokpgmfoaaArr2
import Derived.Test.YthinieokpgmfoaaRef06
import Derived.Deep.RegionHeld3
set_option linter.unusedVariables false
set_option linter.unusedSimpArgs false
namespace Go.Proofs.Ythinieokpgmfoaa
open Go.RowKit

set_option maxHeartbeats 4000000 in
set_option maxRecDepth 100000 in
theorem eventHas_walk (w : World) (c0 : Array Value) (a : Event) (ha : kEvent.K (fun _ => True) w a c0.toList) (ga : goodEvent a) (c1 : Array Value) (b : Event) (hb : kEvent.K (fun _ => True) w b c1.toList) (gb : goodEvent b)
    (c2 : Array Value) (x : ByteArray × ByteArray) (hx : (Kn.pair Kn.str Kn.str).K (fun _ => True) w x c2.toList) (gx : gS x.1 ∧ gS x.2) :
    Calls Try.prog 8 #[.agg c0, .agg c1, .agg c2] w fun r w' => r = .returned (.bool true) ∧ Below w.heap.size w w' := by
  obtain ⟨T, ct, F, cf, rfl, hT, hF⟩ := event_in4 ha
  obtain ⟨T', ct', F', cf', rfl, hT', hF'⟩ := event_in4 hb
  obtain rfl := twoS_in hx
  clear ha hb hx ga gb gx
  obtain ⟨x0, x1⟩ := x
  obtain ⟨W0, hW0⟩ : ∃ W0, W0 = ((w.alloc (.cells #[.string a.stream, .string a.type, .slice T a.tags.length ct, .slice F a.fields.length cf] 28)).alloc (.cells #[.string b.stream, .string b.type, .slice T' b.tags.length ct', .slice F' b.fields.length cf'] 28)).alloc (.cells #[.string x0, .string x1] 47) := ⟨_, rfl⟩
  have HW0 := Lib.hid hW0
  have HB0 := Lib.hid (show Below w.heap.size w W0 by rw [hW0]; exact (((Below.refl _ _).alloc (Nat.le_refl _) _).alloc (by simp) _).alloc (by simp; omega) _)
  have HA := Lib.hid (show A04 w w.heap.size a T F ct cf W0 from ⟨by rw [hW0]; exact ((Bx.new w _ _).alloc _).alloc _, hT.below HB0.out, hF.below HB0.out, Nat.le_refl _⟩)
  have HB := Lib.hid (show A04 w (w.heap.size + 1) b T' F' ct' cf' W0 from ⟨by
    rw [hW0]
    have := (Bx.new (w.alloc (.cells #[.string a.stream, .string a.type, .slice T a.tags.length ct, .slice F a.fields.length cf] 28)) 28 [.string b.stream, .string b.type, .slice T' b.tags.length ct', .slice F' b.fields.length cf']).alloc (.cells #[.string x0, .string x1] 47)
    simpa using this, hT'.below HB0.out, hF'.below HB0.out, by omega⟩)
  have HX := Lib.hid (show Bx W0 (w.heap.size + 1 + 1) 47 [.string x0, .string x1] by
    rw [hW0]
    have := Bx.new ((w.alloc (.cells #[.string a.stream, .string a.type, .slice T a.tags.length ct, .slice F a.fields.length cf] 28)).alloc (.cells #[.string b.stream, .string b.type, .slice T' b.tags.length ct', .slice F' b.fields.length cf'] 28)) 47 [.string x0, .string x1]
    simpa using this)
  have HS := Lib.hid (shown04 W0)
  clear hT hF hT' hF'
  go_enter Try.func8, Try.ntmps8
  go_upto_region 1 with fail
  rw [← HW0.out]
  clear hW0
  go_upto_region 2 with (go_at_call 18; go_fit HS.out; rintro r w1 ⟨rfl, hb1⟩; have HA1 := Lib.hid (HA.out.below hb1); have HB1 := Lib.hid (HB.out.below hb1); have HX1 := Lib.hid (HX.out.under hb1); have HBW := Lib.hid (bthen HB0.out hb1); clear hb1)
  clear HA HB HX HB0 HS HW0
  have k0 := HA1.out.c0
  have k1 := HA1.out.c1
  have k2 := HA1.out.c2
  have k3 := HA1.out.c3
  have CF := Lib.hid (few04_any (w := w1) (e := a) (T := T) (F := F) (ct := ct) (cf := cf) HA1.out.ts.1 HA1.out.fs.1)
  go_upto_region 3 with (go_at_call 19; go_fit CF.out; rintro r w2 ⟨rfl, hb2⟩; have HA2 := Lib.hid (HA1.out.below hb2); have HB2 := Lib.hid (HB1.out.below hb2); have HX2 := Lib.hid (HX1.out.under hb2); have HBV := Lib.hid (bthen HBW.out hb2); have j0 := HA2.out.c0; have j1 := HA2.out.c1; have j2 := HA2.out.c2; have j3 := HA2.out.c3; have f0 := HA2.out.bx.free 0; have f1 := HA2.out.bx.free 1; have f2 := HA2.out.bx.free 2; have f3 := HA2.out.bx.free 3; clear hb2)
  have HA3 := Lib.hid HA2.out.few
  have HB3 := Lib.hid (HB2.out.far4 (g := w.heap.size) (by omega) (Nat.le_refl _) (.string (few12 a).stream) (.string (few12 a).type) (.slice T (few12 a).tags.length ct) (.slice F (few12 a).fields.length cf))
  have HX3 := Lib.hid ((((HX2.out.far (p := ⟨w.heap.size, 0, none⟩) (by simp; omega) (.string (few12 a).stream)).far (p := ⟨w.heap.size, 1, none⟩) (by simp; omega) (.string (few12 a).type)).far (p := ⟨w.heap.size, 2, none⟩) (by simp; omega) (.slice T (few12 a).tags.length ct)).far (p := ⟨w.heap.size, 3, none⟩) (by simp; omega) (.slice F (few12 a).fields.length cf))
  have HBW3 := Lib.hid (below4 HBV.out (Nat.le_refl _) (.string (few12 a).stream) (.string (few12 a).type) (.slice T (few12 a).tags.length ct) (.slice F (few12 a).fields.length cf))
  clear HA2 HB2 HX2 HBV j0 j1 j2 j3 f0 f1 f2 f3 k0 k1 k2 k3 CF HA1 HB1 HX1 HBW
  generalize ((((w2.setCell ⟨w.heap.size, 0, none⟩ (.string (few12 a).stream)).setCell ⟨w.heap.size, 1, none⟩ (.string (few12 a).type)).setCell ⟨w.heap.size, 2, none⟩ (.slice T (few12 a).tags.length ct)).setCell ⟨w.heap.size, 3, none⟩ (.slice F (few12 a).fields.length cf)) = w3 at HA3 HB3 HX3 HBW3 ⊢
  generalize few12 a = a at HA3 HB3 HX3 HBW3 ⊢
  have k0 := HB3.out.c0
  have k1 := HB3.out.c1
  have k2 := HB3.out.c2
  have k3 := HB3.out.c3
  have CF := Lib.hid (few04_any (w := w3) (e := b) (T := T') (F := F') (ct := ct') (cf := cf') HB3.out.ts.1 HB3.out.fs.1)
  go_upto_region 4 with (go_at_call 19; go_fit CF.out; rintro r w4 ⟨rfl, hb2⟩; have HA2 := Lib.hid (HA3.out.below hb2); have HB2 := Lib.hid (HB3.out.below hb2); have HX2 := Lib.hid (HX3.out.under hb2); have HBV := Lib.hid (bthen HBW3.out hb2); have j0 := HB2.out.c0; have j1 := HB2.out.c1; have j2 := HB2.out.c2; have j3 := HB2.out.c3; have f0 := HB2.out.bx.free 0; have f1 := HB2.out.bx.free 1; have f2 := HB2.out.bx.free 2; have f3 := HB2.out.bx.free 3; clear hb2)
  have HB5 := Lib.hid HB2.out.few
  have HA5 := Lib.hid (HA2.out.far4 (g := w.heap.size + 1) (by omega) (by omega) (.string (few12 b).stream) (.string (few12 b).type) (.slice T' (few12 b).tags.length ct') (.slice F' (few12 b).fields.length cf'))
  have HX5 := Lib.hid ((((HX2.out.far (p := ⟨w.heap.size + 1, 0, none⟩) (by simp) (.string (few12 b).stream)).far (p := ⟨w.heap.size + 1, 1, none⟩) (by simp) (.string (few12 b).type)).far (p := ⟨w.heap.size + 1, 2, none⟩) (by simp) (.slice T' (few12 b).tags.length ct')).far (p := ⟨w.heap.size + 1, 3, none⟩) (by simp) (.slice F' (few12 b).fields.length cf'))
  have HBW5 := Lib.hid (below4 HBV.out (g := w.heap.size + 1) (by omega) (.string (few12 b).stream) (.string (few12 b).type) (.slice T' (few12 b).tags.length ct') (.slice F' (few12 b).fields.length cf'))
  clear HA2 HB2 HX2 HBV j0 j1 j2 j3 f0 f1 f2 f3 k0 k1 k2 k3 CF HA3 HB3 HX3 HBW3
  generalize ((((w4.setCell ⟨w.heap.size + 1, 0, none⟩ (.string (few12 b).stream)).setCell ⟨w.heap.size + 1, 1, none⟩ (.string (few12 b).type)).setCell ⟨w.heap.size + 1, 2, none⟩ (.slice T' (few12 b).tags.length ct')).setCell ⟨w.heap.size + 1, 3, none⟩ (.slice F' (few12 b).fields.length cf')) = w5 at HA5 HB5 HX5 HBW5 ⊢
  generalize few12 b = b at HA5 HB5 HX5 HBW5 ⊢
  have k0 := HA5.out.c0
  have k1 := HA5.out.c1
  have k2 := HA5.out.c2
  have k3 := HA5.out.c3
  have y1 := HX5.out.cell 1
  simp only [List.getElem?_cons_succ, List.getElem?_cons_zero] at y1
  have C1 := Lib.hid (valueE_any (T := T) (ct := ct) HA5.out.fs.any x1)
  have C2 := Lib.hid (fun W (hb : Below w5.heap.size w5 W) => refValue_any (T := T) (ct := ct) (HA5.out.below hb).fs.any x1)
  obtain ⟨n, hn⟩ : ∃ n, (valF a.fields x1).1 = n := ⟨_, rfl⟩
  obtain ⟨o, ho⟩ : ∃ o, (valF a.fields x1).2 = o := ⟨_, rfl⟩
  rw [hn, ho] at C1 C2
  clear hn ho
  go_upto_region 6 with (first
    | (go_at_call 27; go_fit C1.out; rintro r w6 ⟨rfl, hb6⟩; have HB6 := Lib.hid hb6; have k0' := (HA5.out.below hb6).c0; have k1' := (HA5.out.below hb6).c1; have k2' := (HA5.out.below hb6).c2; have k3' := (HA5.out.below hb6).c3; have y1' := (HX5.out.under hb6).cell 1; simp only [List.getElem?_cons_succ, List.getElem?_cons_zero] at y1'; clear hb6)
    | (go_at_call 28; go_fit (C2.out _ HB6.out); rintro r w7 ⟨rfl, hb7⟩; have HB7 := Lib.hid (bthen HB6.out hb7); clear hb7))
  clear k0 k1 k2 k3 y1 k0' k1' k2' k3' y1' C1 C2 HB6
  have HA7 := Lib.hid (HA5.out.below HB7.out)
  have HC7 := Lib.hid (HB5.out.below HB7.out)
  have HX7 := Lib.hid (HX5.out.under HB7.out)
  have HBW := Lib.hid (bthen HBW5.out HB7.out)
  clear HA5 HB5 HX5 HBW5 HB7
  obtain ⟨X, hX⟩ : ∃ X, X = w7 := ⟨_, rfl⟩
  subst hX
  have HK := Lib.hid (fun W (hb : Below X.heap.size X W) => show Below X.heap.size X W ∧ W.cell? ⟨w.heap.size, 0, none⟩ = some (.string a.stream) ∧ W.cell? ⟨w.heap.size, 1, none⟩ = some (.string a.type) ∧ W.cell? ⟨w.heap.size, 2, none⟩ = some (.slice T a.tags.length ct) ∧ W.cell? ⟨w.heap.size, 3, none⟩ = some (.slice F a.fields.length cf) ∧
    W.cell? ⟨w.heap.size + 1, 0, none⟩ = some (.string b.stream) ∧ W.cell? ⟨w.heap.size + 1, 1, none⟩ = some (.string b.type) ∧ W.cell? ⟨w.heap.size + 1, 2, none⟩ = some (.slice T' b.tags.length ct') ∧ W.cell? ⟨w.heap.size + 1, 3, none⟩ = some (.slice F' b.fields.length cf') ∧ W.cell? ⟨w.heap.size + 1 + 1, 0, none⟩ = some (.string x0) from
    ⟨hb, (HA7.out.below hb).c0, (HA7.out.below hb).c1, (HA7.out.below hb).c2, (HA7.out.below hb).c3, (HC7.out.below hb).c0, (HC7.out.below hb).c1, (HC7.out.below hb).c2, (HC7.out.below hb).c3, (HX7.out.under hb).c0⟩)
  obtain ⟨s, hs⟩ : ∃ s, sameE a b = s := ⟨_, rfl⟩
  obtain ⟨t, ht⟩ : ∃ t, hasS x0 a.tags = t := ⟨_, rfl⟩
  have D1 := Lib.hid (fun W (R : Prop) (hb : Below X.heap.size X W ∧ R) => show Calls Try.prog 25 #[vEvent a T ct F cf, vEvent b T' ct' F' cf'] W fun r w' => r = .returned (.bool s) ∧ Below W.heap.size W w' from by
    rw [← hs]; exact sameE_any (HA7.out.below hb.1).ts.any (HA7.out.below hb.1).fs.any (HC7.out.below hb.1).ts.any (HC7.out.below hb.1).fs.any)
  have D2 := Lib.hid (fun W (R : Prop) (hb : Below X.heap.size X W ∧ R) => show Calls Try.prog 20 #[vEvent a T ct F cf, vEvent b T' ct' F' cf'] W fun r w' => r = .returned (.bool s) ∧ Below W.heap.size W w' from by
    rw [← hs]; exact refSameE_any (HA7.out.below hb.1).ts.any (HA7.out.below hb.1).fs.any (HC7.out.below hb.1).ts.any (HC7.out.below hb.1).fs.any)
  have D3 := Lib.hid (fun W (R : Prop) (hb : Below X.heap.size X W ∧ R) => show Calls Try.prog 26 #[vEvent a T ct F cf, .string x0] W fun r w' => r = .returned (.bool t) ∧ Below W.heap.size W w' from by
    rw [← ht]; exact Has_any (HA7.out.below hb.1).ts.any x0)
  have D4 := Lib.hid (fun W (R : Prop) (hb : Below X.heap.size X W ∧ R) => show Calls Try.prog 29 #[vEvent a T ct F cf, .string x0] W fun r w' => r = .returned (.bool t) ∧ Below W.heap.size W w' from by
    rw [← ht]; exact Has04_any (HA7.out.below hb.1).ts.any x0)
  clear hs ht
  rcases s with _ | _ <;> rcases t with _ | _ <;> rcases o with _ | _
  all_goals go_region_held3 (fun W => Below X.heap.size X W ∧ W.cell? ⟨w.heap.size, 0, none⟩ = some (.string a.stream) ∧ W.cell? ⟨w.heap.size, 1, none⟩ = some (.string a.type) ∧ W.cell? ⟨w.heap.size, 2, none⟩ = some (.slice T a.tags.length ct) ∧ W.cell? ⟨w.heap.size, 3, none⟩ = some (.slice F a.fields.length cf) ∧
      W.cell? ⟨w.heap.size + 1, 0, none⟩ = some (.string b.stream) ∧ W.cell? ⟨w.heap.size + 1, 1, none⟩ = some (.string b.type) ∧ W.cell? ⟨w.heap.size + 1, 2, none⟩ = some (.slice T' b.tags.length ct') ∧ W.cell? ⟨w.heap.size + 1, 3, none⟩ = some (.slice F' b.fields.length cf') ∧ W.cell? ⟨w.heap.size + 1 + 1, 0, none⟩ = some (.string x0))
    (first | exact HK.out _ (below_drawn (Below.refl _ _)) | exact HK.out _ (bthen (And.left (by assumption : Below X.heap.size X _ ∧ _)) (by assumption)))
    (first
      | (go_at_call 25; refine (D1.out _ _ (by assumption)).mono ?_; rintro r w' ⟨rfl, hb⟩)
      | (go_at_call 20; refine (D2.out _ _ (by assumption)).mono ?_; rintro r w' ⟨rfl, hb⟩)
      | (go_at_call 26; refine (D3.out _ _ (by assumption)).mono ?_; rintro r w' ⟨rfl, hb⟩)
      | (go_at_call 29; refine (D4.out _ _ (by assumption)).mono ?_; rintro r w' ⟨rfl, hb⟩))
  all_goals go_wp2_with fail
  all_goals go_ret
  all_goals exact ⟨rfl, bthen HBW.out (And.left (by assumption : Below X.heap.size X _ ∧ _))⟩
end Go.Proofs.Ythinieokpgmfoaa
