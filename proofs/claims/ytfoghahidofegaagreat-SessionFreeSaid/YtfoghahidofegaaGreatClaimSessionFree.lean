/- SessionFree: the law's walk. The closed facts that every row of this seat leans on, each proved for itself: the order's text is long, so it is read once as a list of signs. The row of the law SessionFree, over its walk: for every input the call returns true and each argument reads afterwards as it read before. No conditions. -/
import Derived.Test.YtfoghahidofegaaGreatBundL
import Derived.Test.YtfoghahidofegaaGreatRows
import Derived.JoinedOf
import Derived.KernelRfl
import Derived.Test.YtfoghahidofegaaGreatBundA
import Derived.WalkKit
import Derived.ProofKit
import Derived.OpenShut
import Derived.ShutString
import Derived.ChangeOld
import Derived.Below
import Derived.SizedLaws
set_option linter.unusedVariables false
set_option linter.unusedSimpArgs false
namespace Go.Proofs.YtfoghahidofegaaGreat
open Go.RowKit Go.Maps

set_option maxHeartbeats 16000000 in
set_option maxRecDepth 100000 in
theorem sessionFree_walk (w : World) (A : Option Addr) (c : Nat) (l : List Event) (h : Sl kEvent (fun _ => True) w A c l) (hg : ∀ x ∈ l, goodEvent x) (A' : Option Addr) (c' : Nat) (l' : List Event) (h' : Sl kEvent (fun _ => True) w A' c' l') (hg' : ∀ x ∈ l', goodEvent x)
    (c2 : Array Value) (v : Event) (hv : kEvent.K (fun _ => True) w v c2.toList) (gv : goodEvent v) :
    Calls Tryz.prog 6 #[.slice A l.length c, .slice A' l'.length c', .agg c2] w fun r w' => r = .returned (.bool true) ∧ Below w.heap.size w w' := by
  have HL0 := Lib.hid (show Sl kEvent (fun k => k < w.heap.size) w A c l from h.bound.mono (fun _ h => h.2))
  have HM0 := Lib.hid (show Sl kEvent (fun k => k < w.heap.size) w A' c' l' from h'.bound.mono (fun _ h => h.2))
  have HG := Lib.hid (ev_in hg)
  have HG' := Lib.hid (ev_in hg')
  have HV := Lib.hid (ev_in (l := [v]) (fun x hx => by rw [List.mem_singleton.1 hx]; exact gv) v (List.mem_singleton.2 rfl))
  obtain ⟨T, ct, F, cf, rfl, hT, hF⟩ := event_in18 hv
  have HT := Lib.hid hT
  have HF := Lib.hid hF
  obtain ⟨W1, hW1⟩ : ∃ W1, W1 = w.alloc (.cells #[.string v.stream, .string v.type, .slice T v.tags.length ct, .slice F v.fields.length cf] 42) := ⟨_, rfl⟩
  have HW1 := Lib.hid hW1
  have hb1 : Below w.heap.size w W1 := by rw [hW1]; exact (Below.refl _ _).alloc (Nat.le_refl _) _
  have hx1 : Bx W1 w.heap.size 42 [.string v.stream, .string v.type, .slice T v.tags.length ct, .slice F v.fields.length cf] := by rw [hW1]; exact Bx.new w _ _
  have hlx := hx1.lt
  have HB1 := Lib.hid hb1
  have C1 := Lib.hid (shown19_any W1)
  have HBX := Lib.hid (fun W (hW : Below W1.heap.size W1 W) => hx1.under hW)
  have HC := Lib.hid (fun W (hW : Below W1.heap.size W1 W) => show W.cell? ⟨w.heap.size, 0, none⟩ = some (.string v.stream) ∧ W.cell? ⟨w.heap.size, 1, none⟩ = some (.string v.type) ∧ W.cell? ⟨w.heap.size, 2, none⟩ = some (.slice T v.tags.length ct) ∧ W.cell? ⟨w.heap.size, 3, none⟩ = some (.slice F v.fields.length cf) from
    ⟨(hx1.under hW).cell 0, (hx1.under hW).cell 1, (hx1.under hW).cell 2, (hx1.under hW).cell 3⟩)
  have HTW := Lib.hid (fun W (hW : Below W1.heap.size W1 W) => show Sl Kn.str (fun k => k < W1.heap.size) W T ct v.tags from ((hT.below hb1).mono (fun k hk => (by have := hb1.size; omega : k < W1.heap.size))).stay hW.size (fun k hk _ => hW.block k hk))
  have HFW := Lib.hid (fun W (hW : Below W1.heap.size W1 W) => show Sl kField (fun k => k < W1.heap.size) W F cf v.fields from ((hF.below hb1).mono (fun k hk => (by have := hb1.size; omega : k < W1.heap.size))).stay hW.size (fun k hk _ => hW.block k hk))
  obtain ⟨m, hm⟩ : ∃ m, mayE v = m := ⟨_, rfl⟩
  have CM := Lib.hid (fun W (hW : Below W1.heap.size W1 W) => show Calls Tryz.prog 33 #[.agg #[.string v.stream, .string v.type, .slice T v.tags.length ct, .slice F v.fields.length cf]] W fun r w' => r = .returned (.int .i64 m) ∧ Below W.heap.size W w' from by rw [← hm]; exact refMayE_any (HTW.out W hW).any (HFW.out W hW).any HV.out.1)
  have HM := Lib.hid hm
  have HL1 := Lib.hid (HL0.out.below hb1 |>.mono (fun k hk => (by have := hb1.size; omega : k < W1.heap.size)))
  have HM1 := Lib.hid (HM0.out.below hb1 |>.mono (fun k hk => (by have := hb1.size; omega : k < W1.heap.size)))
  clear h hg h' hg' hv gv hT hF hb1 hx1 hm HL0 HM0 HT HF
  go_enter Tryz.func6, Tryz.ntmps6
  go_upto_region 1 with fail
  rw [← HW1.out]
  clear hW1 HW1
  go_upto_region 4 with (first
    | (go_at_call 12; go_fit C2.out; rintro r w3 ⟨B, rfl, h3, hb3⟩; have H3 := Lib.hid h3; have HB3 := Lib.hid (bthen HB2.out hb3); clear h3 hb3)
    | (go_at_call 27; go_fit C1.out; rintro r w2 ⟨rfl, hb2⟩; have HB2 := Lib.hid hb2; have C2 := Lib.hid (lNew W1 (wr := w2) hb2.size); clear hb2))
  have HF4 := Lib.hid (f2_new H3.out HB3.out)
  generalize w3.heap.size = y at HF4 ⊢
  generalize (w3.alloc (.cells #[.slice none 0 0] 34)) = w4 at HF4 ⊢
  obtain ⟨k0, k1, k2, k3⟩ := HC.out _ HF4.out.bel
  clear H3 HB3 HB2 C1 C2
  by_cases hm0 : m = 0
  rotate_left
  · have d0 : (m == 0) = false := by simp [hm0]
    have d1 : (m != 0) = true := by simp [hm0]
    clear hm0
    go_wp2_with (go_at_call 33; go_fit (CM.out _ HF4.out.bel); rintro r w5 ⟨rfl, hb5⟩; have HB5 := Lib.hid hb5; clear hb5)
    go_ret
    exact ⟨rfl, bthen HB1.out (bthen HF4.out.bel HB5.out)⟩
  subst hm0
  have HIN := Lib.hid (HV.out.2 HM.out)
  obtain ⟨es, hes⟩ : ∃ es, (l.take 20).filter okE = es := ⟨_, rfl⟩
  have hel : es.length ≤ 20 := by rw [← hes]; exact filE20 l
  obtain ⟨fs, hfs⟩ : ∃ fs, (l'.take 20).filter okE = fs := ⟨_, rfl⟩
  have hfl : fs.length ≤ 20 := by rw [← hfs]; exact filE20 l'
  have CA1 := Lib.hid (fun W0 (hF : F2 W1 W0 B y [] (fun _ => False)) => show Calls Tryz.prog 36 #[.pointer (some ⟨B.b, 0, none⟩), .pointer (some ⟨y, 0, none⟩), .slice A l.length c] W0 fun r w' => r = .returned (.tuple #[]) ∧ F2 W1 w' B y es (fun _ => False) from by
    have := add19_any hF HL1.out HG.out (by simp)
    rw [hes, List.nil_append] at this
    exact this.mono (fun r w' h => ⟨h.1, h.2.1⟩))
  go_upto_region 11 with (first
    | (go_at_call 28; go_fit C8.out; rintro r w8 ⟨b2, rfl, h8, hb8, hl8⟩; have H8 := Lib.hid (Sf.start H6.out H7.out HB7.out HL7.out h8 hb8 hl8); clear h8 hb8 hl8)
    | (go_at_call 28; go_fit C7.out; rintro r w7 ⟨b1, rfl, h7, hb7, hl7⟩; have H7 := Lib.hid h7; have HB7 := Lib.hid hb7; have HL7 := Lib.hid hl7; have C8 := Lib.hid (sNew ((H6.out.below hb7).ix) (X := fun k => B.has k ∨ k = y ∨ k = b1) (fun k hk => hk.elim (fun h => Nat.lt_of_lt_of_le (H6.out.xs0 k (.inl h)) hb7.size) (fun h => h.elim (fun h => Nat.lt_of_lt_of_le (H6.out.xs0 k (.inr h)) hb7.size) (fun h => by rw [h]; exact h7.lt)))); clear h7 hb7 hl7)
    | (go_at_call 36; go_fit (CA1.out _ (HF4.out.below HB5.out)); rintro r w6 ⟨rfl, h6⟩; have H6 := Lib.hid h6; have C7 := Lib.hid (sNew h6.ix (X := fun k => B.has k ∨ k = y) h6.xs0); clear h6)
    | (go_at_call 33; go_fit (CM.out _ HF4.out.bel); rintro r w5 ⟨rfl, hb5⟩; have HB5 := Lib.hid hb5; clear hb5))
  clear k0 k1 k2 k3 CA1 CM C7 C8 H7 HB7 HL7 H6 HB5 HF4
  obtain ⟨n, hn⟩ : ∃ n, es.length = n := ⟨_, rfl⟩
  rw [hn] at H8
  obtain ⟨q, hq⟩ : ∃ q, verR es v.stream n = q := ⟨_, rfl⟩
  have hqn : q ≤ 20 := by have := strmR_len es v.stream n; rw [← hq]; unfold verR; omega
  have HQ := Lib.hid hq
  have HN := Lib.hid hn
  have D1 := Lib.hid (fun W (R : Prop) (hW : Below w8.heap.size w8 W ∧ R) => show Calls Tryz.prog 15 #[.pointer (some ⟨B.b, 0, none⟩)] W fun r w' => r = .returned (.int .i64 n) ∧ W = w' from by
    have := iLast (H8.out.below hW.1).f.ix
    rw [HN.out] at this
    exact this)
  have D2 := Lib.hid (fun W (R : Prop) (hW : Below w8.heap.size w8 W ∧ R) => show Calls Tryz.prog 37 #[.pointer (some ⟨B.b, 0, none⟩), .string v.stream, .int .i64 n] W fun r w' => r = .returned (.int .i64 q) ∧ W = w' from by
    rw [← HQ.out]
    exact iVersion (H8.out.below hW.1).f.ix HIN.out.st n)
  have HK := Lib.hid (fun W (hb : Below w8.heap.size w8 W) => show Below w8.heap.size w8 W ∧ W.cell? ⟨w.heap.size, 0, none⟩ = some (.string v.stream) from ⟨hb, (HC.out W (H8.out.below hb).f.bel).1⟩)
  clear hq hn
  go_upto_region 13 with fail
  go_cut [12] (fun x wx => x = .int .i64 q ∧ Below w8.heap.size w8 wx)
  case first =>
    go_region_held3 (fun W => Below w8.heap.size w8 W ∧ W.cell? ⟨w.heap.size, 0, none⟩ = some (.string v.stream)) (first | exact HK.out _ (below_drawn (Below.refl _ _)) | (assumption))
      (first
        | (go_at_call 15; go_fit (D1.out _ _ (by assumption)); rintro r w9 ⟨rfl, rfl⟩)
        | (go_at_call 37; go_fit (D2.out _ _ (by assumption)); rintro r w9 ⟨rfl, rfl⟩))
    all_goals go_wp2_with fail
    all_goals go_meet
    all_goals exact ⟨rfl, below_drawn (Below.refl _ _)⟩
  case rest =>
    obtain ⟨rfl, hbc⟩ := hcut
    have H9 := Lib.hid (H8.out.below hbc)
    clear hbc D1 D2 HK H8
    obtain ⟨v9, hv9⟩ : ∃ v9, v9 = wc := ⟨_, rfl⟩
    subst hv9
    have hnl : es.length ≤ 900 := by omega
    have CAA := Lib.hid (show Calls Tryz.prog 34 #[.pointer (some ⟨b1, 0, none⟩), .pointer (some ⟨B.b, 0, none⟩), .agg #[.string v.stream, .string v.type, .slice T v.tags.length ct, .slice F v.fields.length cf], .int .i64 (-1)] v9 fun r w' => r = .returned (.int .i64 0) ∧ Sf W1 w' B y es n b1 [] [v] b2 [] [] from by
      have hb := H9.out.f.bel
      have hl := H9.out.f.zl b1 (.inl rfl)
      have := sAppend H9.out.a H9.out.f.ix (.inr (.inr (.inl rfl))) (v := v) (T := T) (F := F) (ct := ct) (cf := cf) ((HTW.out _ hb).mono (fun k hk => by omega)) ((HFW.out _ hb).mono (fun k hk => by omega)) (by have := HIN.out.fl; omega) HV.out.1 HV.out.2 (-1)
      obtain ⟨e1, e2, e3⟩ := app_any (es := es) (at_ := n) (gs := []) (vs := []) (v := v) HM.out (by simp)
      rw [e1, e2, e3] at this
      exact this.mono (fun r w' h => ⟨h.1, H9.out.stepA h.2.1 h.2.2⟩))
    have CBB := Lib.hid (fun W (hS : Sf W1 W B y es n b1 [] [v] b2 [] []) => show Calls Tryz.prog 34 #[.pointer (some ⟨b2, 0, none⟩), .pointer (some ⟨B.b, 0, none⟩), .agg #[.string v.stream, .string v.type, .slice T v.tags.length ct, .slice F v.fields.length cf], .int .i64 q] W fun r w' => r = .returned (.int .i64 0) ∧ Sf W1 w' B y es n b1 [] [v] b2 [gRead es n v.stream] [v] from by
      have hb := hS.f.bel
      have hl := hS.f.zl b2 (.inr rfl)
      have := sAppend hS.b hS.f.ix (.inr (.inr (.inr rfl))) (v := v) (T := T) (F := F) (ct := ct) (cf := cf) ((HTW.out _ hb).mono (fun k hk => by omega)) ((HFW.out _ hb).mono (fun k hk => by omega)) (by have := HIN.out.fl; omega) HV.out.1 HV.out.2 (q : Int)
      obtain ⟨e1, e2, e3⟩ := app_first (es := es) (at_ := n) (v := v) HM.out hnl
      rw [HQ.out] at e1 e2 e3
      rw [e1, e2, e3] at this
      exact this.mono (fun r w' h => ⟨h.1, hS.stepB h.2.1 h.2.2⟩))
    have CCC := Lib.hid (fun W (hS : Sf W1 W B y es n b1 [] [v] b2 [gRead es n v.stream] [v]) => show Calls Tryz.prog 34 #[.pointer (some ⟨b2, 0, none⟩), .pointer (some ⟨B.b, 0, none⟩), .agg #[.string v.stream, .string v.type, .slice T v.tags.length ct, .slice F v.fields.length cf], .int .i64 ((q : Int) + 1)] W fun r w' => r = .returned (.int .i64 0) ∧ Sf W1 w' B y es n b1 [] [v] b2 [gRead es n v.stream] [v, v] from by
      have hb := hS.f.bel
      have hl := hS.f.zl b2 (.inr rfl)
      have := sAppend hS.b hS.f.ix (.inr (.inr (.inr rfl))) (v := v) (T := T) (F := F) (ct := ct) (cf := cf) ((HTW.out _ hb).mono (fun k hk => by omega)) ((HFW.out _ hb).mono (fun k hk => by omega)) (by have := HIN.out.fl; omega) HV.out.1 HV.out.2 ((q : Int) + 1)
      obtain ⟨e1, e2, e3⟩ := app_second (es := es) (at_ := n) (v := v) HM.out hnl
      rw [HQ.out] at e1 e2 e3
      rw [e1, e2, e3] at this
      exact this.mono (fun r w' h => ⟨h.1, hS.stepB h.2.1 h.2.2⟩))
    have CDD := Lib.hid (fun W (hS : Sf W1 W B y es n b1 [] [v] b2 [gRead es n v.stream] [v, v]) => show Calls Tryz.prog 36 #[.pointer (some ⟨B.b, 0, none⟩), .pointer (some ⟨y, 0, none⟩), .slice A' l'.length c'] W fun r w' => r = .returned (.tuple #[]) ∧ Sf W1 w' B y (es ++ fs) n b1 [] [v] b2 [gRead es n v.stream] [v, v] from by
      have := add19_any hS.f HM1.out HG'.out (by omega)
      rw [hfs] at this
      exact this.mono (fun r w' h => ⟨h.1, hS.stepF h.2.1 h.2.2⟩))
    have HCS := Lib.hid (fun W es' g1 v1 g2 v2 (hS : Sf W1 W B y es' n b1 g1 v1 b2 g2 v2) => HC.out W hS.f.bel)
    obtain ⟨k0, k1, k2, k3⟩ := HCS.out _ _ _ _ _ _ H9.out
    have ewq : IntKind.i64.wrap ((q : Int) + 1) = (q : Int) + 1 := IntWalk.i64_in _ (by omega)
    go_upto_region 19 with (first
      | (go_at_call 34; go_fit (CCC.out _ H11.out); rintro r w12 ⟨rfl, h12⟩; have H12 := Lib.hid h12; clear h12)
      | (go_at_call 34; go_fit (CBB.out _ H10.out); rintro r w11 ⟨rfl, h11⟩; have H11 := Lib.hid h11; obtain ⟨m0, m1, m2, m3⟩ := HCS.out _ _ _ _ _ _ h11; clear h11)
      | (go_at_call 34; go_fit CAA.out; rintro r w10 ⟨rfl, h10⟩; have H10 := Lib.hid h10; obtain ⟨l0, l1, l2, l3⟩ := HCS.out _ _ _ _ _ _ h10; clear h10)
      | (go_at_call 36; go_fit (CDD.out _ H12.out); rintro r w13 ⟨rfl, h13⟩; have H13 := Lib.hid h13; clear h13))
    clear k0 k1 k2 k3 l0 l1 l2 l3 m0 m1 m2 m3 CAA CBB CCC CDD HCS H9 H10 H11 H12 ewq
    obtain ⟨n2, hn2⟩ : ∃ n2, (es ++ fs).length = n2 := ⟨_, rfl⟩
    obtain ⟨q2, hq2⟩ : ∃ q2, verR (es ++ fs) v.stream n2 = q2 := ⟨_, rfl⟩
    obtain ⟨bb, hbb⟩ : ∃ bb, ((q2 : Int) != (q : Int)) = bb := ⟨_, rfl⟩
    have HCK := Lib.hid (show chkE (es ++ fs) [gRead es n v.stream] [v, v] = if bb = true then 20 else 0 by
      rw [chk_read, hn2, hq2, HQ.out, ← hbb]
      by_cases h : (q2 : Int) = (q : Int)
      · simp [h]
      · rw [if_pos h, if_pos (by simpa using h)])
    have HN2 := Lib.hid hn2
    have HQ2 := Lib.hid hq2
    have D1 := Lib.hid (fun W (R : Prop) (hW : Below w13.heap.size w13 W ∧ R) => show Calls Tryz.prog 15 #[.pointer (some ⟨B.b, 0, none⟩)] W fun r w' => r = .returned (.int .i64 n2) ∧ W = w' from by
      have := iLast (H13.out.below hW.1).f.ix
      rw [HN2.out] at this
      exact this)
    have D2 := Lib.hid (fun W (R : Prop) (hW : Below w13.heap.size w13 W ∧ R) => show Calls Tryz.prog 37 #[.pointer (some ⟨B.b, 0, none⟩), .string v.stream, .int .i64 n2] W fun r w' => r = .returned (.int .i64 q2) ∧ W = w' from by
      rw [← HQ2.out]
      exact iVersion (H13.out.below hW.1).f.ix HIN.out.st n2)
    have HK := Lib.hid (fun W (hb : Below w13.heap.size w13 W) => show Below w13.heap.size w13 W ∧ W.cell? ⟨w.heap.size, 0, none⟩ = some (.string v.stream) from ⟨hb, (HC.out W (H13.out.below hb).f.bel).1⟩)
    clear hn2 hq2
    go_cut [76] (fun x wx => x = .bool bb ∧ Below w13.heap.size w13 wx)
    case first =>
      go_region_held3 (fun W => Below w13.heap.size w13 W ∧ W.cell? ⟨w.heap.size, 0, none⟩ = some (.string v.stream)) (first | exact HK.out _ (below_drawn (Below.refl _ _)) | (assumption))
        (first
          | (go_at_call 15; go_fit (D1.out _ _ (by assumption)); rintro r w14 ⟨rfl, rfl⟩)
          | (go_at_call 37; go_fit (D2.out _ _ (by assumption)); rintro r w14 ⟨rfl, rfl⟩))
      all_goals go_wp2_with fail
      all_goals go_meet
      all_goals exact ⟨by first | rfl | (rw [hbb]), below_drawn (Below.refl _ _)⟩
    case rest =>
      obtain ⟨rfl, hbc⟩ := hcut
      obtain ⟨v14, hv14⟩ : ∃ v14, v14 = wc := ⟨_, rfl⟩
      subst hv14
      have H14 := Lib.hid (H13.out.below hbc)
      clear hbc D1 D2 HK H13 hbb
      have E1 := Lib.hid (show Calls Tryz.prog 38 #[.pointer (some ⟨b1, 0, none⟩), .pointer (some ⟨B.b, 0, none⟩)] v14 fun r w' => r = .returned (.int .i64 0) ∧ Below v14.heap.size v14 w' from by
        have := sCheck H14.out.a H14.out.f.ix
        rw [chk_free] at this
        exact this)
      have E2 := Lib.hid (fun W (hW : Below v14.heap.size v14 W) => show Calls Tryz.prog 38 #[.pointer (some ⟨b2, 0, none⟩), .pointer (some ⟨B.b, 0, none⟩)] W fun r w' => r = .returned (.int .i64 (if bb = true then 20 else 0)) ∧ Below W.heap.size W w' from by
        have := sCheck (H14.out.below hW).b (H14.out.below hW).f.ix
        rw [HCK.out] at this
        exact this)
      have E3 := Lib.hid (fun W (hW : Below v14.heap.size v14 W) => show Calls Tryz.prog 32 #[.pointer (some ⟨b1, 0, none⟩)] W fun r w' => (∃ A c, r = .returned (.slice A 0 c)) ∧ Below W.heap.size W w' from
        (sGuards (H14.out.below hW).a).mono (fun r w' ⟨A, c, e, _, h⟩ => ⟨⟨A, c, e⟩, h⟩))
      have E4 := Lib.hid (fun W (hW : Below v14.heap.size v14 W) => show Calls Tryz.prog 32 #[.pointer (some ⟨b2, 0, none⟩)] W fun r w' => (∃ A c, r = .returned (.slice A 1 c)) ∧ Below W.heap.size W w' from
        (sGuards (H14.out.below hW).b).mono (fun r w' ⟨A, c, e, _, h⟩ => ⟨⟨A, c, e⟩, h⟩))
      have E5 := Lib.hid (fun W (hW : Below v14.heap.size v14 W) => show Calls Tryz.prog 35 #[.pointer (some ⟨b2, 0, none⟩)] W fun r w' => (∃ A c, r = .returned (.slice A 2 c)) ∧ Below W.heap.size W w' from
        (sEvents (H14.out.below hW).b).mono (fun r w' ⟨A, c, e, _, h⟩ => ⟨⟨A, c, e⟩, h⟩))
      cases bb
      all_goals
        go_wp2_with (first
          | (go_at_call 35; go_fit (E5.out _ HB18.out); rintro r w19 ⟨⟨A19, c19, rfl⟩, hb19⟩; have HB19 := Lib.hid (bthen HB18.out hb19); clear hb19)
          | (go_at_call 32; go_fit (E4.out _ HB17.out); rintro r w18 ⟨⟨A18, c18, rfl⟩, hb18⟩; have HB18 := Lib.hid (bthen HB17.out hb18); clear hb18)
          | (go_at_call 32; go_fit (E3.out _ HB16.out); rintro r w17 ⟨⟨A17, c17, rfl⟩, hb17⟩; have HB17 := Lib.hid (bthen HB16.out hb17); clear hb17)
          | (go_at_call 38; go_fit (E2.out _ HB15.out); rintro r w16 ⟨rfl, hb16⟩; have HB16 := Lib.hid (bthen HB15.out hb16); clear hb16)
          | (go_at_call 38; go_fit E1.out; rintro r w15 ⟨rfl, hb15⟩; have HB15 := Lib.hid hb15; clear hb15))
        go_ret
        exact ⟨rfl, bthen HB1.out (bthen H14.out.f.bel HB19.out)⟩
end Go.Proofs.YtfoghahidofegaaGreat

namespace Go.Proofs.YtfoghahidofegaaGreat

set_option maxRecDepth 100000 in
def ordN : List Nat := [104, 97, 114, 110, 101, 115, 115, 32, 52, 51, 57, 99, 56, 54, 52, 48, 57, 53, 57, 98, 54, 102, 49, 100, 98, 52, 54, 57, 49, 55, 52, 101, 99, 98, 102, 48, 52, 98, 98, 55, 55, 51, 55, 102, 97, 97, 102, 100, 101, 56, 102, 54, 51, 52, 56, 50, 52, 101, 56, 97, 49, 101, 54, 49, 52, 53, 52, 50, 54, 55, 97, 101, 32, 99, 117, 116, 32, 97, 116, 32, 114, 101, 103, 105, 115, 116, 114, 97, 114, 47, 114, 101, 103, 105, 115, 116, 114, 97, 114, 108, 97, 119, 49, 52, 46, 73, 110, 100, 101, 120, 80, 108, 97, 121, 115, 32, 114, 101, 103, 105, 115, 116, 114, 97, 114, 47, 114, 101, 103, 105, 115, 116, 114, 97, 114, 108, 97, 119, 49, 56, 46, 71, 117, 97, 114, 100, 76, 105, 115, 116, 115, 32, 114, 101, 103, 105, 115, 116, 114, 97, 114, 47, 114, 101, 103, 105, 115, 116, 114, 97, 114, 108, 97, 119, 49, 57, 46, 83, 101, 115, 115, 105, 111, 110, 77, 97, 110, 121, 32, 114, 101, 103, 105, 115, 116, 114, 97, 114, 47, 114, 101, 103, 105, 115, 116, 114, 97, 114, 108, 97, 119, 49, 57, 46, 83, 101, 115, 115, 105, 111, 110, 70, 114, 101, 101, 32, 114, 101, 103, 105, 115, 116, 114, 97, 114, 47, 114, 101, 103, 105, 115, 116, 114, 97, 114, 108, 97, 119, 49, 57, 46, 83, 101, 115, 115, 105, 111, 110, 83, 101, 101, 115, 32, 114, 101, 103, 105, 115, 116, 114, 97, 114, 47, 114, 101, 103, 105, 115, 116, 114, 97, 114, 108, 97, 119, 49, 57, 46, 83, 101, 115, 115, 105, 111, 110, 65, 116, 32, 114, 101, 103, 105, 115, 116, 114, 97, 114, 47, 114, 101, 103, 105, 115, 116, 114, 97, 114, 108, 97, 119, 49, 57, 46, 83, 101, 115, 115, 105, 111, 110, 82, 101, 102, 117, 115, 101, 115, 32, 114, 101, 103, 105, 115, 116, 114, 97, 114, 47, 114, 101, 103, 105, 115, 116, 114, 97, 114, 108, 97, 119, 49, 57, 46, 83, 101, 115, 115, 105, 111, 110, 80, 108, 97, 121, 115]
def ordL : List Char := ordN.map Char.ofNat
theorem order_eq : Tryz.prog.initOrder = String.ofList ordL := by kernel_rfl
theorem signs_eq : Tryz.prog.initOrder.toList = ordL := by rw [order_eq, String.toList_ofList]
def ordRest : List (List Char) := (behindMainWord (wordsSigns ordL)).tail
theorem words_eq : behindMainWord (wordsSigns ordL) = "cut".toList :: ordRest := by kernel_rfl
theorem strip_cut (r : List (List Char)) : stripLifts liftWords ("cut".toList :: r) = ([], "cut".toList :: r) := by kernel_rfl
theorem mayEnter_of (P : Program) (rest : List (List Char)) (h : behindMainWord (wordsSigns P.initOrder.toList) = "cut".toList :: rest) (h1 : P.laysLater = false) (h2 : P.bearsReflect = false) (h3 : P.doorFits [] = true) : P.mayEnter = true := by
  unfold Program.mayEnter
  rw [h]
  dsimp only
  rw [strip_cut, h1, h2, h3]
  simp
theorem lifts_of (P : Program) (rest : List (List Char)) (h : behindMainWord (wordsSigns P.initOrder.toList) = "cut".toList :: rest) : P.liftsFinal = false := by
  unfold Program.liftsFinal Program.headLifts
  rw [h, strip_cut]
  simp
theorem make_of (P : Program) (rest : List (List Char)) (h : behindMainWord (wordsSigns P.initOrder.toList) = "cut".toList :: rest) : P.make = some .cut := by
  unfold Program.make
  rw [h]
  dsimp only
  rw [if_neg (by decide), if_pos (by simp)]
theorem door_of (P : Program) (h : P.doorRows = []) : P.doorFits [] = true := by
  unfold Program.doorFits
  rw [h]
  simp
theorem head_eq : behindMainWord (wordsSigns Tryz.prog.initOrder.toList) = "cut".toList :: ordRest := by rw [signs_eq]; exact words_eq
theorem h_later : Tryz.prog.laysLater = false := by kernel_rfl
theorem h_refl : Tryz.prog.bearsReflect = false := by kernel_rfl
theorem h_rows : Tryz.prog.doorRows = [] := by kernel_rfl
theorem mayEnter_eq : Tryz.prog.mayEnter = true := mayEnter_of _ _ head_eq h_later h_refl (door_of _ h_rows)
theorem lifts_eq : Tryz.prog.liftsFinal = false := lifts_of _ _ head_eq
theorem make_eq : Tryz.prog.make = some .cut := make_of _ _ head_eq
theorem laidOut_eq : laidOutB Tryz.prog = true := by kernel_rfl
theorem mapsRowed_eq : mapsRowed Tryz.prog = true := by kernel_rfl
theorem stops_eq : (Tryz.prog.stops == []) = true := by kernel_rfl
theorem stopKnobs_eq : (Tryz.prog.stopKnobs == []) = true := by kernel_rfl
theorem heard_eq : Tryz.prog.stopsHeard = true := by kernel_rfl
theorem own_eq : ownKnob Tryz.prog.godebug = none := by kernel_rfl

/-- The rows' one great closed fact, out of its parts. -/
theorem joined_of {P : Program} {f : FuncId} {fn : Func} {s : ChangeSpec} {c : OpenClaim}
    (k1 : c.wf (OpenSpec.ofChange s) = true) (k2 : laidOutB P = true) (k3 : mapsRowed P = true) (k4 : fn.params.all (P.readableRec ·) = true) (k5 : namedTie P c.named s.vars = true)
    (k6 : (c.stops == []) = true) (k7 : (P.stops == []) = true) (k8 : (c.knobs == []) = true) (k9 : (P.stopKnobs == []) = true)
    (k10 : (c.inPlace == P.inPlace f) = true) (k11 : (c.unfollowed == P.unfollowed f) = true) (k12 : (c.recurses == P.recurses f) = true) (k13 : (c.named == P.varsNamed f) = true)
    (k14 : (c.maps == (fn.params.toList ++ s.plain.varTypes P).any (P.mapsRec ·)) = true) (k15 : (c.ifaces == (fn.params.toList ++ s.plain.varTypes P).any (P.ifacesRec ·)) = true) (k16 : (c.mapsOut == P.mapsAmong fn.resultTypes.toList) = true)
    (k17 : (c.loops == (fn.params.toList ++ s.plain.varTypes P).any (P.loopsFrom ·)) = true) (k18 : (c.wideKeys == (fn.params.toList ++ s.plain.varTypes P ++ fn.resultTypes.toList).any (P.wideKeysFrom ·)) = true)
    (k19 : s.vars.all (P.varReadable ·) = true) (k20 : fn.resultTypes.all (fun t => P.readableRec t && decide (t < P.types.size)) = true) (k21 : (c.ifacesOut == fn.resultTypes.toList.any (P.ifacesRec ·)) = true) (k22 : (c.loopsOut == fn.resultTypes.toList.any (P.loopsFrom ·)) = true)
    (k23 : (c.plainKeys == P.plainKeys) = true) (k24 : c.shortTexts.isNone = true) (k25 : P.stopsHeard = true) (k26 : P.mayEnter = true) (k27 : (c.lifted == P.liftsFinal) = true) (k28 : (P.make == some c.make) = true)
    (k29 : c.kinds = [] ∧ c.domain = []) (k30 : (c.pinned == c.pinnedBy) = true)
    (k31 : (c.veiled == (fn.params.toList ++ s.plain.varTypes P ++ fn.resultTypes.toList).any (P.veiledRec ·)) = true) (k32 : c.veiledFits P fn.params.toList (fn.params.toList ++ s.plain.varTypes P ++ fn.resultTypes.toList) = true) :
    joinedFacts P f fn s c = true := by
  unfold joinedFacts
  rw [k1, k2, k3, k4, k5, k6, k7, k8, k9, k10, k11, k12, k13, k14, k15, k16, k17, k18, k19, k20, k21, k22, k23, k24, k25, k26, k27, k28, k29.1, k29.2, k30, k31, k32]
  rfl
end Go.Proofs.YtfoghahidofegaaGreat

namespace Go.Proofs.YtfoghahidofegaaGreat.sessionFree
open Go.ChangeShapes Go.WideShapes Go.ChangeAt Go.RowKit
open Go.ChangeMaps (open_string shut_string)
set_option maxRecDepth 100000 in
theorem lifted (os : Os) (started : os.Started) (H : Type) (enc : TypeId × Value → H) :
    ReturnsInHanded {} Tryz.checked os 6 .any (Rows.sessionFreeSpec.pre6 enc Tryz.prog Tryz.f6 Rows.sessionFreeRow.domain false) (Rows.sessionFreeSpec.post enc Tryz.prog Tryz.f6 false true false false) := by
  refine returnsInHanded_of_change_sized (C := Tryz.checked) own_eq started (by kernel_rfl) Tryz.func6
    (ChangeSpec.witness6 (enc := enc) (C := Tryz.checked) false ⟨#[], #[.slice none 0 0, .slice none 0 0, .agg #[.string ByteArray.empty, .string ByteArray.empty, .slice none 0 0, .slice none 0 0]], []⟩ 8 (by kernel_rfl) (by kernel_rfl) (by kernel_rfl) (by kernel_rfl)) ?_
  intro W base args ds gs before hval0 hW hcnd hsz0 _
  have hval : ∀ (j : Nat) t v, Tryz.f6.params[j]? = some t → args[j]? = some v → Value.okWide Tryz.prog W .any base t v := hval0
  have hW' := hW
  obtain ⟨p, q, hA0, hV, rfl, hfz, hnd⟩ := hW
  have hA : DataW.TrodAll enc Tryz.prog W 0 (fun _ => true) true Tryz.f6.params.toList args.toList ds p := hA0
  rw [Tryz.params6] at hA hval
  obtain ⟨v0, vs0, d0, ds0, p0, q0, hargs, rfl, rfl, h0, r0⟩ := trodAll_cons hA
  obtain ⟨v1, vs1, d1, ds1, p1, q1, rfl, rfl, rfl, h1, r1⟩ := trodAll_cons r0
  obtain ⟨v2, vs2, d2, ds2, p2, q2, rfl, rfl, rfl, h2, r2⟩ := trodAll_cons r1
  obtain ⟨rfl, rfl, rfl⟩ := trodAll_nil r2
  obtain rfl : args = #[v0, v1, v2] := by cases args; simp_all
  obtain ⟨rfl, rfl⟩ := trodVars_none hV
  have k0 := h0
  have lt0 : ∀ x ∈ p0, x.block < W.heap.size := by obtain ⟨m, hm⟩ := k0; exact DataW.trod_lt m _ _ _ hm
  obtain ⟨a0, len0, cap0, rfl⟩ := okWide_slice Tryz.underlying43 (hval 0 43 v0 rfl rfl)
  obtain ⟨x0, ⟨A0, c0, e0, l0, m0, w0⟩, g0⟩ := (opEvs).arg h0
  simp only [Value.cells, List.cons.injEq, Value.slice.injEq, and_true] at e0
  obtain ⟨rfl, rfl, rfl⟩ := e0
  have k1 := h1
  have lt1 : ∀ x ∈ p1, x.block < W.heap.size := by obtain ⟨m, hm⟩ := k1; exact DataW.trod_lt m _ _ _ hm
  obtain ⟨a1, len1, cap1, rfl⟩ := okWide_slice Tryz.underlying43 (hval 1 43 v1 rfl rfl)
  obtain ⟨x1, ⟨A1, c1, e1, l1, m1, w1⟩, g1⟩ := (opEvs).arg h1
  simp only [Value.cells, List.cons.injEq, Value.slice.injEq, and_true] at e1
  obtain ⟨rfl, rfl, rfl⟩ := e1
  have k2 := h2
  have lt2 : ∀ x ∈ p2, x.block < W.heap.size := by obtain ⟨m, hm⟩ := k2; exact DataW.trod_lt m _ _ _ hm
  obtain ⟨cs2, rfl, _⟩ := okWide_struct Tryz.underlying42 (hval 2 42 v2 rfl rfl)
  obtain ⟨x2, w2, g2⟩ := (opEvent).arg h2
  clear hA0 hval0
  refine (sessionFree_walk W _ _ x0 ⟨l0, m0, w0⟩ g0 _ _ x1 ⟨l1, m1, w1⟩ g1 cs2 x2 w2 g2).mono fun e W' ⟨he, bel⟩ => ?_
  subst he
  exact ⟨_, rfl, _, _, _, [], _, [], hW', trodAll_mk1 (shut_bool Tryz.underlying4 _), (trodAll_cons_mk (Below.trod laidOut_eq (by kernel_rfl) (of_decide_eq_true (by kernel_rfl)) k0 bel lt0) (trodAll_cons_mk (Below.trod laidOut_eq (by kernel_rfl) (of_decide_eq_true (by kernel_rfl)) k1 bel lt1) (trodAll_cons_mk (Below.trod laidOut_eq (by kernel_rfl) (of_decide_eq_true (by kernel_rfl)) k2 bel lt2) trodAll_mk0))), rfl, bel.frame _, fun h => by cases h⟩
theorem k10 : (Rows.sessionFreeRow.inPlace == Tryz.prog.inPlace 6) = true := by kernel_rfl
theorem k11 : (Rows.sessionFreeRow.unfollowed == Tryz.prog.unfollowed 6) = true := by kernel_rfl
theorem k12 : (Rows.sessionFreeRow.recurses == Tryz.prog.recurses 6) = true := by kernel_rfl
theorem k13 : (Rows.sessionFreeRow.named == Tryz.prog.varsNamed 6) = true := by kernel_rfl
theorem k23 : (Rows.sessionFreeRow.plainKeys == Tryz.prog.plainKeys) = true := by kernel_rfl
theorem kfn : Tryz.pinned.checked.prog.funcNamed Rows.sessionFreeRow.func = some 6 := by kernel_rfl
theorem closed : joinedFacts Tryz.prog 6 Tryz.f6 Rows.sessionFreeSpec Rows.sessionFreeRow = true :=
  joined_of (by kernel_rfl) laidOut_eq mapsRowed_eq (by kernel_rfl) (by kernel_rfl) rfl stops_eq rfl stopKnobs_eq k10 k11 k12 k13 (by kernel_rfl) (by kernel_rfl) (by kernel_rfl) (by kernel_rfl) (by kernel_rfl) (by kernel_rfl) (by kernel_rfl) (by kernel_rfl) (by kernel_rfl) k23 rfl heard_eq mayEnter_eq (by rw [lifts_eq]; rfl) (by rw [make_eq]; rfl) ⟨rfl, rfl⟩ (by kernel_rfl) (by kernel_rfl) (by kernel_rfl)
theorem over : Rows.sessionFreeRow.holds Tryz.pinned (OpenSpec.ofChange Rows.sessionFreeSpec) :=
  OpenClaim.holds_of_wide 6 Tryz.f6 rfl rfl rfl rfl rfl rfl rfl ⟨rfl, rfl, rfl, rfl, rfl⟩ rfl rfl rfl rfl rfl kfn Tryz.func6 closed
    (of_decide_eq_true (by kernel_rfl)) (by unfold Func.isWrapper; first | (rw [if_pos (by decide +kernel)]; kernel_rfl) | (rw [if_neg (by decide +kernel)]; exact ⟨rfl, rfl⟩))
    (fun os started H enc _ => lifted os started H enc)
theorem proved : Rows.SessionFreeSaid := over
#print axioms proved
end Go.Proofs.YtfoghahidofegaaGreat.sessionFree
