/- SessionRefuses: the law's walk. The closed facts that every row of this seat leans on, each proved for itself: the order's text is long, so it is read once as a list of signs. The row of the law SessionRefuses, over its walk: for every input the call returns true and each argument reads afterwards as it read before. No conditions. -/
import Derived.Test.YtfoghahidofegaaGreatBundO
import Derived.Test.YtfoghahidofegaaGreatBundM
import Derived.Test.YtfoghahidofegaaGreatRows
import Derived.JoinedOf
import Derived.KernelRfl
import Derived.Test.YtfoghahidofegaaGreatBundA
import Derived.WalkKit
import Derived.ProofKit
import Derived.OpenShut
import Derived.ShutString
import Derived.ChangeOld
import Derived.Below
import Derived.SizedLaws
set_option linter.unusedVariables false
set_option linter.unusedSimpArgs false
namespace Go.Proofs.YtfoghahidofegaaGreat
open Go.RowKit Go.Maps

set_option maxHeartbeats 32000000 in
set_option maxRecDepth 100000 in
theorem sessionRefuses_walk (w : World) (A : Option Addr) (c : Nat) (l : List Event) (h : Sl kEvent (fun _ => True) w A c l) (hg : ∀ x ∈ l, goodEvent x) (A' : Option Addr) (c' : Nat) (os : List Op19) (h' : Sl kOp19 (fun _ => True) w A' c' os) (hg' : ∀ x ∈ os, goodOp19 x) :
    Calls Tryz.prog 9 #[.slice A l.length c, .slice A' os.length c'] w fun r w' => r = .returned (.bool true) ∧ Below w.heap.size w w' := by
  have HL1 := Lib.hid (show Sl kEvent (fun k => k < w.heap.size) w A c l from h.bound.mono (fun _ h => h.2))
  have HM0 := Lib.hid (show Sl kOp19 (fun k => k < w.heap.size) w A' c' os from h'.bound.mono (fun _ h => h.2))
  have HG := Lib.hid (ev_in hg)
  have HGO := Lib.hid hg'
  have hc1 := h'.1
  have hc2 := h'.2.1
  unfold maxLen at hc2
  have C1 := Lib.hid (shown19_any w)
  clear h hg h' hg'
  go_enter Tryz.func9, Tryz.ntmps9
  go_upto_region 4 with (first
    | (go_at_call 12; go_fit C2.out; rintro r w3 ⟨B, rfl, h3, hb3⟩; have H3 := Lib.hid h3; have HB3 := Lib.hid (bthen HB2.out hb3); clear h3 hb3)
    | (go_at_call 27; go_fit C1.out; rintro r w2 ⟨rfl, hb2⟩; have HB2 := Lib.hid hb2; have C2 := Lib.hid (lNew w (wr := w2) hb2.size); clear hb2))
  have HF4 := Lib.hid (f2_new H3.out HB3.out)
  generalize w3.heap.size = y at HF4 ⊢
  generalize (w3.alloc (.cells #[.slice none 0 0] 34)) = w4 at HF4 ⊢
  clear H3 HB3 HB2 C1 C2
  obtain ⟨es, hes⟩ : ∃ es, (l.take 20).filter okE = es := ⟨_, rfl⟩
  have hel : es.length ≤ 20 := by rw [← hes]; exact filE20 l
  obtain ⟨n, hn⟩ : ∃ n, es.length = n := ⟨_, rfl⟩
  have HN := Lib.hid hn
  have CA1 := Lib.hid (show Calls Tryz.prog 36 #[.pointer (some ⟨B.b, 0, none⟩), .pointer (some ⟨y, 0, none⟩), .slice A l.length c] w4 fun r w' => r = .returned (.tuple #[]) ∧ F2 w w' B y es (fun _ => False) from by
    have := add19_any HF4.out HL1.out HG.out (by simp)
    rw [hes, List.nil_append] at this
    exact this.mono (fun r w' h => ⟨h.1, h.2.1⟩))
  clear hes hn
  go_upto_region 10 with (first
    | (go_at_call 28; go_fit C8.out; rintro r w8 ⟨b, rfl, h8, hb8, hl8⟩; have H8 := Lib.hid (S1.start H7.out h8 hb8 hl8); clear h8 hb8 hl8)
    | (go_at_call 36; go_fit CA1.out; rintro r w7 ⟨rfl, h7⟩; have H7 := Lib.hid h7; have C8 := Lib.hid (sNew h7.ix (X := fun k => B.has k ∨ k = y) h7.xs0); clear h7))
  have H8 := Lib.hid (show S1 w w8 B y es n b [] [] by rw [← HN.out]; exact H8.out)
  clear CA1 C8 H7 HF4 HL1 HG
  go_upto_block 0 with fail
  go_cut [9] (fun _ wx => ∃ gs vs, S1 w wx B y es n b gs vs)
  case first =>
    go_wp2_with fail
    go_loopw [9] (fun i wr => ∃ (k : Nat) (gs : List Grd) (vs : List Event), k ≤ os.length ∧ k ≤ 40 ∧ i = .int .i64 k ∧ S1 w wr B y es n b gs vs) (fun i _ => os.length - (intOf i).toNat)
    case atStart => exact ⟨0, [], [], Nat.zero_le _, Nat.zero_le _, rfl, H8.out⟩
    case round =>
      clear H8
      obtain ⟨k, gs, vs, hk, hk40, rfl, hs⟩ := hrel
      have HS := Lib.hid hs
      by_cases hlt : k < os.length ∧ k < 40
      · obtain ⟨hlt, h40⟩ := hlt
        obtain ⟨ad, T, ct, F, cf, Q, cq, rfl, d0, d1, d2, d3, d4, d5, d6, d7, hT, hF, hQ⟩ := row_op19_at (HM0.out.stay hs.f.bel.size (fun j hj _ => hs.f.bel.block j hj)).2.2 hlt
        have hgo := HGO.out _ (List.getElem_mem hlt)
        generalize os[k] = o at d0 d1 d2 d3 d4 d5 d6 d7 hT hF hQ hgo
        obtain ⟨oa, ob, s, v, q⟩ := o
        simp only at d0 d1 d2 d3 d4 d5 d6 d7 hT hF hQ
        obtain ⟨g1, g2, g3, g4, g5⟩ := hgo
        obtain ⟨m1, hm1⟩ : ∃ m1, min 10 v.tags.length = m1 := ⟨_, rfl⟩
        obtain ⟨m2, hm2⟩ : ∃ m2, min 10 v.fields.length = m2 := ⟨_, rfl⟩
        obtain ⟨m, hm⟩ : ∃ m, min 8 q.length = m := ⟨_, rfl⟩
        have CF := Lib.hid (few19_any (w := wr) oa ob s v.stream v.type (T := T) (F := F) (Q := Q) hT.1 hT.2.1 hF.1 hF.2.1 hQ.1 hQ.2.1)
        rw [hm1, hm2, hm] at CF
        have HT := Lib.hid (show Sl Kn.str (fun j => j < w.heap.size) wr T ct (cutV v).tags from hT.take 10)
        have HF := Lib.hid (show Sl kField (fun j => j < w.heap.size) wr F cf (cutV v).fields from hF.take 10)
        have HQ := Lib.hid (show Sl kClause (fun j => j < w.heap.size) wr Q cq (q.take 8) from hQ.take 8)
        have HM1 := Lib.hid (show (cutV v).tags.length = m1 by show (v.tags.take 10).length = m1; rw [List.length_take]; exact hm1)
        have HM2 := Lib.hid (show (cutV v).fields.length = m2 by show (v.fields.take 10).length = m2; rw [List.length_take]; exact hm2)
        have HM3 := Lib.hid (show (q.take 8).length = m by rw [List.length_take]; exact hm)
        have HVI := Lib.hid (ev_in (l := [cutV v]) (fun x hx => by rw [List.mem_singleton.1 hx]; exact cutV_good g4) (cutV v) (List.mem_singleton.2 rfl))
        have HQG := Lib.hid (show ∀ c ∈ q.take 8, goodClause c from fun c hc => g5 c (List.mem_of_mem_take hc))
        have HSG := Lib.hid (show s.size ≤ maxLen from g3)
        have hfl : m2 ≤ 10 := by omega
        obtain ⟨kd, hkd⟩ : ∃ kd, kindN oa 3 = kd := ⟨_, rfl⟩
        have hkd3 : kd < 3 := by rw [← hkd]; exact kindN_lt oa (by omega)
        have CKD := Lib.hid (fun W => kind19_any (w := W) oa g1 3 (by omega) (by omega))
        rw [hkd] at CKD
        have i1 : (0 : Int) ≤ (k : Int) := Int.natCast_nonneg _
        have i2 : (k : Int) < (os.length : Int) := by omega
        clear hs hT hF hQ g1 g2 g3 g4 g5 hm1 hm2 hm hkd
        go_upto_region 14 with (go_at_call 39; go_fit CF.out; rintro r w9 ⟨rfl, hb9⟩; have HB9 := Lib.hid hb9; clear hb9)
        obtain ⟨X0, hX0⟩ : ∃ X0, X0 = w9.alloc (.cells #[.int .i64 oa, .int .i64 ob, .string s, .string v.stream, .string v.type, .slice T m1 ct, .slice F m2 cf, .slice Q m cq] 77) := ⟨_, rfl⟩
        rw [← hX0]
        have hbX : Below w9.heap.size w9 X0 := by rw [hX0]; exact (Below.refl _ _).alloc (Nat.le_refl _) _
        have hxX : Bx X0 w9.heap.size 77 [.int .i64 oa, .int .i64 ob, .string s, .string v.stream, .string v.type, .slice T m1 ct, .slice F m2 cf, .slice Q m cq] := by rw [hX0]; exact Bx.new w9 _ _
        have HSX := Lib.hid (HS.out.below (bthen HB9.out hbX))
        have HBX9 := Lib.hid (bthen HB9.out hbX)
        have hbl : b < w9.heap.size := by have := HS.out.s.lt; have := HB9.out.size; omega
        obtain ⟨gx, hgx⟩ : ∃ gx, gx = w9.heap.size := ⟨_, rfl⟩
        rw [← hgx] at hxX hbl ⊢
        have hbgx : gx ≠ b := by omega
        have HXB := Lib.hid (fun W (hb : But (fun j => j = b) X0 W) => hxX.stay (w' := W) (fun hk => hb.block _ hk hbgx))
        have HBO := Lib.hid (fun W (hb : But (fun j => j = b) X0 W) W' (hW : Below W.heap.size W W') => show W'.cell? ⟨gx, 0, none⟩ = some (.int .i64 oa) ∧ W'.cell? ⟨gx, 1, none⟩ = some (.int .i64 ob) ∧ W'.cell? ⟨gx, 2, none⟩ = some (.string s) ∧ W'.cell? ⟨gx, 3, none⟩ = some (.string v.stream) ∧ W'.cell? ⟨gx, 4, none⟩ = some (.string v.type) ∧ W'.cell? ⟨gx, 5, none⟩ = some (.slice T m1 ct) ∧ W'.cell? ⟨gx, 6, none⟩ = some (.slice F m2 cf) ∧ W'.cell? ⟨gx, 7, none⟩ = some (.slice Q m cq) from
          have hB := (HXB.out W hb).under hW
          ⟨hB.cell 0, hB.cell 1, hB.cell 2, hB.cell 3, hB.cell 4, hB.cell 5, hB.cell 6, hB.cell 7⟩)
        have HTX := Lib.hid (HT.out.below HBX9.out)
        have HFX := Lib.hid (HF.out.below HBX9.out)
        have HQX := Lib.hid (HQ.out.below HBX9.out)
        clear hX0 hbX hxX hgx d0 d1 d2 d3 d4 d5 d6 d7 CF HT HF HQ
        have CG := Lib.hid (sGuards HSX.out.s)
        have CE := Lib.hid (fun W (hW : Below X0.heap.size X0 W) => sEvents (HSX.out.below hW).s)
        go_upto_block 2 with (first
          | (go_at_call 46; go_fit (CKD.out _); rintro r w12 ⟨rfl, rfl⟩)
          | (go_at_call 32; go_fit CG.out; rintro r w10 ⟨A10, c10, rfl, h10, hb10⟩; have HG10 := Lib.hid (h10.mono (ok' := fun j => j ≠ b) (fun j hj => hj.elim And.left (fun h => by have := HSX.out.s.lt; omega))); have HB10 := Lib.hid hb10; clear h10 hb10)
          | (go_at_call 35; go_fit (CE.out _ HB10.out); rintro r w11 ⟨A11, c11, rfl, h11, hb11⟩; have HE11 := Lib.hid (h11.mono (ok' := fun j => j ≠ b) (fun j hj => by have := (HSX.out.below HB10.out).s.lt; omega)); have HB11 := Lib.hid (bthen HB10.out hb11); have HG11 := Lib.hid (HG10.out.below hb11); obtain ⟨k0, k1, k2, k3, k4, k5, k6, k7⟩ := HBO.out X0 (But.of_below (Below.refl _ _)) w11 (bthen HB10.out hb11); clear h11 hb11))
        clear k0 k1 k2 k3 k4 k5 k6 k7
        clear CG CE HG10
        have HS11 := Lib.hid (HSX.out.below HB11.out)
        have HO11 := Lib.hid (fun W (hW : Below w11.heap.size w11 W) => HBO.out X0 (But.of_below (Below.refl _ _)) W (bthen HB11.out hW))
        have HTW := Lib.hid (HTX.out.below HB11.out)
        have HFW := Lib.hid (HFX.out.below HB11.out)
        have HQW := Lib.hid (HQX.out.below HB11.out)
        go_cut [13] (fun ev wx => ∃ (e : Int) (gs' : List Grd) (vs' : List Event), ev = .int .i64 e ∧ S1 w wx B y es n b gs' vs' ∧ But (fun j => j = b) w11 wx ∧ (e ≠ 0 → gs' = gs ∧ vs' = vs) ∧ (kd ≠ 2 → vs' = vs) ∧ (kd = 2 → e = 0 → vs'.length = vs.length + 1))
        case first =>
          obtain ⟨o0, o1, o2, o3, o4, o5, o6, o7⟩ := HO11.out _ (Below.refl _ _)
          have hcase : kd = 0 ∨ kd = 1 ∨ kd = 2 := by omega
          clear hkd3
          rcases hcase with rfl | rfl | rfl
          · obtain ⟨e, he⟩ : ∃ e, addE gs (gRead es n s) = e := ⟨_, rfl⟩
            have CR := Lib.hid (show Calls Tryz.prog 31 #[.pointer (some ⟨b, 0, none⟩), .pointer (some ⟨B.b, 0, none⟩), .string s] w11 fun r w' => (∃ A m c, r = .returned (.tuple #[.slice A m c, .int .i64 e])) ∧ S1 w w' B y es n b (keepL gs (gRead es n s)) vs ∧ But (fun j => j = b) w11 w' from by
              have := sRead HS11.out.s HS11.out.f.ix (.inr (.inr rfl)) HSG.out
              rw [he] at this
              exact this.mono (fun r w' ⟨A, c, e, _, h2, h3⟩ => ⟨⟨A, _, c, e⟩, HS11.out.step h2 h3, h3⟩))
            have HKN := Lib.hid (show e ≠ 0 → keepL gs (gRead es n s) = gs from fun h => keepL_no (by rw [he]; exact h))
            clear he
            go_wp2_with (first
              | (go_at_call 31; go_fit CR.out; rintro r w13 ⟨⟨A13, m13, c13, rfl⟩, h13, hb13⟩; have H13 := Lib.hid h13; have HB13 := Lib.hid hb13; clear h13 hb13))
            go_meet
            exact ⟨e, _, vs, rfl, H13.out, HB13.out, fun h => ⟨HKN.out h, rfl⟩, fun _ => rfl, fun h => by cases h⟩
          · obtain ⟨e, he⟩ : ∃ e, addE gs (gAsk n (q.take 8)) = e := ⟨_, rfl⟩
            have CR := Lib.hid (show Calls Tryz.prog 41 #[.pointer (some ⟨b, 0, none⟩), .pointer (some ⟨B.b, 0, none⟩), .agg #[.slice Q m cq]] w11 fun r w' => (∃ A m c, r = .returned (.tuple #[.slice A m c, .int .i64 e])) ∧ S1 w w' B y es n b (keepL gs (gAsk n (q.take 8))) vs ∧ But (fun j => j = b) w11 w' from by
              have := sQuery HS11.out.s HS11.out.f.ix (.inr (.inr rfl)) (HQW.out.mono (fun j hj => HS11.out.free j hj)) HQG.out
              rw [he, HM3.out] at this
              exact this.mono (fun r w' ⟨A, c, e, _, h2, h3⟩ => ⟨⟨A, _, c, e⟩, HS11.out.step h2 h3, h3⟩))
            have HKN := Lib.hid (show e ≠ 0 → keepL gs (gAsk n (q.take 8)) = gs from fun h => keepL_no (by rw [he]; exact h))
            clear he
            go_wp2_with (first
              | (go_at_call 41; go_fit CR.out; rintro r w13 ⟨⟨A13, m13, c13, rfl⟩, h13, hb13⟩; have H13 := Lib.hid h13; have HB13 := Lib.hid hb13; clear h13 hb13))
            go_meet
            exact ⟨e, _, vs, rfl, H13.out, HB13.out, fun h => ⟨HKN.out h, rfl⟩, fun _ => rfl, fun h => by cases h⟩
          · obtain ⟨e, he⟩ : ∃ e, appE es n gs vs (cutV v) ob = e := ⟨_, rfl⟩
            have CR := Lib.hid (show Calls Tryz.prog 34 #[.pointer (some ⟨b, 0, none⟩), .pointer (some ⟨B.b, 0, none⟩), .agg #[.string v.stream, .string v.type, .slice T m1 ct, .slice F m2 cf], .int .i64 ob] w11 fun r w' => r = .returned (.int .i64 e) ∧ S1 w w' B y es n b (appG es n gs vs (cutV v) ob) (appV es n gs vs (cutV v) ob) ∧ But (fun j => j = b) w11 w' from by
              have := sAppend HS11.out.s HS11.out.f.ix (.inr (.inr rfl)) (v := cutV v) (HTW.out.mono (fun j hj => (HS11.out.free j hj).1)) (HFW.out.mono (fun j hj => (HS11.out.free j hj).1)) (by rw [HM2.out]; omega) HVI.out.1 HVI.out.2 ob
              unfold vEvent at this
              rw [he, HM1.out, HM2.out] at this
              exact this.mono (fun r w' h => ⟨h.1, HS11.out.step h.2.1 h.2.2, h.2.2⟩))
            have HKN := Lib.hid (show (e ≠ 0 → appG es n gs vs (cutV v) ob = gs ∧ appV es n gs vs (cutV v) ob = vs) ∧ (e = 0 → (appV es n gs vs (cutV v) ob).length = vs.length + 1) from ⟨fun h => app_no (by rw [he]; exact h), fun h => by rw [(app_ok (he.trans h)).2]; simp⟩)
            clear he
            go_wp2_with (first
              | (go_at_call 34; go_fit CR.out; rintro r w13 ⟨rfl, h13, hb13⟩; have H13 := Lib.hid h13; have HB13 := Lib.hid hb13; clear h13 hb13))
            go_meet
            exact ⟨e, _, _, rfl, H13.out, HB13.out, HKN.out.1, fun h => absurd rfl h, fun _ => HKN.out.2⟩
        case rest =>
          obtain ⟨e, gs', vs', rfl, hs', hbc, q1, q2, q3⟩ := hcut
          obtain ⟨v13, hv13⟩ : ∃ v13, v13 = wc := ⟨_, rfl⟩
          subst hv13
          have H13 := Lib.hid hs'
          have HG13 := Lib.hid (HG11.out.stay hbc.size (fun j hj hl => hbc.block j hl hj))
          have HE13 := Lib.hid (HE11.out.stay hbc.size (fun j hj hl => hbc.block j hl hj))
          have HO13 := Lib.hid (fun W (hW : Below v13.heap.size v13 W) => (HBO.out v13 ((But.of_below HB11.out).trans hbc) W hW).1)
          have hvl := hs'.s.vl
          have hvl0 := HS.out.s.vl
          clear hs' hbc HO11 HTW HFW HQW HBO HXB
          obtain ⟨o1, ho1⟩ : ∃ o1, decide (gs = gs') = o1 := ⟨_, rfl⟩
          obtain ⟨o2, ho2⟩ : ∃ o2, decide (vs = vs') = o2 := ⟨_, rfl⟩
          have C1 := Lib.hid (sGuards H13.out.s)
          have C2 := Lib.hid (fun W (A1 : Option Addr) (c1 : Nat) (hW : Below v13.heap.size v13 W) (hs : Sl kGuard (fun _ => True) W A1 c1 gs') => show Calls Tryz.prog 47 #[.slice A10 gs.length c10, .slice A1 gs'.length c1] W fun r w' => r = .returned (.bool o1) ∧ Below W.heap.size W w' from by rw [← ho1]; exact refSameG_any (HG13.out.any.below hW) hs)
          have C3 := Lib.hid (fun W (hW : Below v13.heap.size v13 W) => sEvents (H13.out.below hW).s)
          have C4 := Lib.hid (fun W (A1 : Option Addr) (c1 : Nat) (hW : Below v13.heap.size v13 W) (hs : Sl kEvent (fun _ => True) W A1 c1 vs') => show Calls Tryz.prog 48 #[.slice A11 vs.length c11, .slice A1 vs'.length c1] W fun r w' => r = .returned (.bool o2) ∧ Below W.heap.size W w' from by rw [← ho2]; exact refSameAll_any (HE13.out.any.below hW) hs)
          have C5 := Lib.hid (fun W (hW : Below v13.heap.size v13 W) => show Calls Tryz.prog 35 #[.pointer (some ⟨b, 0, none⟩)] W fun r w' => (∃ A c, r = .returned (.slice A vs'.length c)) ∧ Below W.heap.size W w' from
            (sEvents (H13.out.below hW).s).mono (fun r w' ⟨A, c, e, _, h⟩ => ⟨⟨A, c, e⟩, h⟩))
          have hsort : (e ≠ 0 ∧ o1 = true ∧ o2 = true) ∨ (e = 0 ∧ kd ≠ 2 ∧ o2 = true) ∨ (e = 0 ∧ kd = 2 ∧ vs'.length = vs.length + 1) := by
            by_cases h0 : e = 0
            · by_cases h2 : kd = 2
              · exact .inr (.inr ⟨h0, h2, q3 h2 h0⟩)
              · exact .inr (.inl ⟨h0, h2, by rw [← ho2]; exact decide_eq_true (q2 h2).symm⟩)
            · obtain ⟨h3, h4⟩ := q1 h0
              exact .inl ⟨h0, by rw [← ho1]; exact decide_eq_true h3.symm, by rw [← ho2]; exact decide_eq_true h4.symm⟩
          obtain ⟨nv, hnv⟩ : ∃ nv, vs'.length = nv := ⟨_, rfl⟩
          obtain ⟨nw, hnw⟩ : ∃ nw, vs.length = nw := ⟨_, rfl⟩
          rw [hnv] at hsort hvl C5
          rw [hnw] at hsort hvl0 C4 ⊢
          have ew : IntKind.i64.wrap ((nw : Int) + 1) = (nw : Int) + 1 := IntWalk.i64_in _ (by omega)
          have HNV := Lib.hid hnv
          have HNW := Lib.hid hnw
          clear q1 q2 q3 ho1 ho2 hnv hnw HG11 HE11 HS11 hkd3
          rcases hsort with ⟨h0, rfl, rfl⟩ | ⟨rfl, h2, rfl⟩ | ⟨rfl, rfl, h3⟩
          · have d0 : (e == 0) = false := by simp [h0]
            have d1 : (e != 0) = true := by simp [h0]
            clear h0
            go_wp2_with (first
              | (go_at_call 48; go_fit (C4.out _ _ _ HB16.out HE16.out); rintro r w17 ⟨rfl, hb17⟩; have HB17 := Lib.hid (bthen HB16.out hb17); have o0 := HO13.out _ (bthen HB16.out hb17); clear hb17)
              | (go_at_call 35; go_fit (C3.out _ HB15.out); rintro r w16 ⟨A16, c16, rfl, h16, hb16⟩; have HE16 := Lib.hid h16.any; have HB16 := Lib.hid (bthen HB15.out hb16); clear h16 hb16)
              | (go_at_call 47; go_fit (C2.out _ _ _ HB14.out HG14.out); rintro r w15 ⟨rfl, hb15⟩; have HB15 := Lib.hid (bthen HB14.out hb15); clear hb15)
              | (go_at_call 32; go_fit C1.out; rintro r w14 ⟨A14, c14, rfl, h14, hb14⟩; have HG14 := Lib.hid h14.any; have HB14 := Lib.hid hb14; clear h14 hb14))
            go_roundw
            case rel => exact ⟨k + 1, gs', vs', by omega, by omega, by go_num, H13.out.below HB17.out⟩
            case measure => simp [intOf]; omega
          · have dk1 : ((kd : Int) == 2) = false := by simp; omega
            have dk2 : ((kd : Int) != 2) = true := by simp; omega
            have dk3 : ¬ (kd : Int) = 2 := by omega
            clear h2
            cases o1
            all_goals
              go_wp2_with (first
                | (go_at_call 48; go_fit (C4.out _ _ _ HB16.out HE16.out); rintro r w17 ⟨rfl, hb17⟩; have HB17 := Lib.hid (bthen HB16.out hb17); have o0 := HO13.out _ (bthen HB16.out hb17); clear hb17)
                | (go_at_call 35; go_fit (C3.out _ HB15.out); rintro r w16 ⟨A16, c16, rfl, h16, hb16⟩; have HE16 := Lib.hid h16.any; have HB16 := Lib.hid (bthen HB15.out hb16); clear h16 hb16)
                | (go_at_call 47; go_fit (C2.out _ _ _ HB14.out HG14.out); rintro r w15 ⟨rfl, hb15⟩; have HB15 := Lib.hid (bthen HB14.out hb15); clear hb15)
                | (go_at_call 32; go_fit C1.out; rintro r w14 ⟨A14, c14, rfl, h14, hb14⟩; have HG14 := Lib.hid h14.any; have HB14 := Lib.hid hb14; clear h14 hb14)
                | (go_at_call 46; go_fit (CKD.out _); rintro r w18 ⟨rfl, rfl⟩))
              go_roundw
            · exact ⟨k + 1, gs', vs', by omega, by omega, by go_num, H13.out.below HB17.out⟩
            · simp [intOf]; omega
            · exact ⟨k + 1, gs', vs', by omega, by omega, by go_num, H13.out.below HB17.out⟩
            · simp [intOf]; omega
          · have dn1 : ((nv : Int) != (nw : Int) + 1) = false := by simp; omega
            have dn2 : (nv : Int) = (nw : Int) + 1 := by omega
            clear h3
            cases o1 <;> cases o2
            all_goals
              go_wp2_with (first
                | (go_at_call 35; go_fit (C5.out _ HB17.out); rintro r w19 ⟨⟨A19, c19, rfl⟩, hb19⟩; have HB19 := Lib.hid (bthen HB17.out hb19); clear hb19)
                | (go_at_call 48; go_fit (C4.out _ _ _ HB16.out HE16.out); rintro r w17 ⟨rfl, hb17⟩; have HB17 := Lib.hid (bthen HB16.out hb17); have o0 := HO13.out _ (bthen HB16.out hb17); clear hb17)
                | (go_at_call 35; go_fit (C3.out _ HB15.out); rintro r w16 ⟨A16, c16, rfl, h16, hb16⟩; have HE16 := Lib.hid h16.any; have HB16 := Lib.hid (bthen HB15.out hb16); clear h16 hb16)
                | (go_at_call 47; go_fit (C2.out _ _ _ HB14.out HG14.out); rintro r w15 ⟨rfl, hb15⟩; have HB15 := Lib.hid (bthen HB14.out hb15); clear hb15)
                | (go_at_call 32; go_fit C1.out; rintro r w14 ⟨A14, c14, rfl, h14, hb14⟩; have HG14 := Lib.hid h14.any; have HB14 := Lib.hid hb14; clear h14 hb14)
                | (go_at_call 46; go_fit (CKD.out _); rintro r w18 ⟨rfl, rfl⟩))
              go_roundw
            · exact ⟨k + 1, gs', vs', by omega, by omega, by go_num, H13.out.below HB19.out⟩
            · simp [intOf]; omega
            · exact ⟨k + 1, gs', vs', by omega, by omega, by go_num, H13.out.below HB19.out⟩
            · simp [intOf]; omega
            · exact ⟨k + 1, gs', vs', by omega, by omega, by go_num, H13.out.below HB19.out⟩
            · simp [intOf]; omega
            · exact ⟨k + 1, gs', vs', by omega, by omega, by go_num, H13.out.below HB19.out⟩
            · simp [intOf]; omega
      · have HF := Lib.hid (show ∃ gs vs, S1 w wr B y es n b gs vs from ⟨gs, vs, hs⟩)
        have hstop : k < os.length → ¬ k < 40 := fun h h2 => hlt ⟨h, h2⟩
        clear hs HS hlt
        rcases Nat.lt_or_ge k os.length with hc | hc
        · have h10 := hstop hc
          clear hstop
          go_wp2_with fail
          go_meet
          exact HF.out
        · clear hstop
          go_wp2_with fail
          go_meet
          exact HF.out
  case rest =>
    obtain ⟨gs, vs, hs⟩ := hcut
    obtain ⟨v5, hv5⟩ : ∃ v5, v5 = wc := ⟨_, rfl⟩
    subst hv5
    have H5 := Lib.hid hs
    obtain ⟨A3, c3, hrx⟩ := hs.f.rx
    have HK := Lib.hid (fun W (hb : Below v5.heap.size v5 W) => show Below v5.heap.size v5 W ∧ W.cell? ⟨y, 0, none⟩ = some (.slice A3 n c3) from ⟨hb, by have := (hrx.bx.under hb).cell 0; rw [recsOf_len, HN.out] at this; exact this⟩)
    have C1 := Lib.hid (fun W (R : Prop) (hW : Below v5.heap.size v5 W ∧ R) => sAt (H5.out.below hW.1).s)
    clear hs hrx H8
    go_upto_region 30 with fail
    go_region_held3 (fun W => Below v5.heap.size v5 W ∧ W.cell? ⟨y, 0, none⟩ = some (.slice A3 n c3)) (first | exact HK.out _ (below_drawn (Below.refl _ _)) | (assumption))
      (first | (go_at_call 40; go_fit (C1.out _ _ (by assumption)); rintro r w6 ⟨rfl, rfl⟩))
    all_goals go_wp2_with fail
    all_goals go_ret
    all_goals exact ⟨by first | rfl | simp, bthen H5.out.f.bel (below_drawn (Below.refl _ _))⟩
end Go.Proofs.YtfoghahidofegaaGreat

namespace Go.Proofs.YtfoghahidofegaaGreat

set_option maxRecDepth 100000 in
def ordN : List Nat := [104, 97, 114, 110, 101, 115, 115, 32, 52, 51, 57, 99, 56, 54, 52, 48, 57, 53, 57, 98, 54, 102, 49, 100, 98, 52, 54, 57, 49, 55, 52, 101, 99, 98, 102, 48, 52, 98, 98, 55, 55, 51, 55, 102, 97, 97, 102, 100, 101, 56, 102, 54, 51, 52, 56, 50, 52, 101, 56, 97, 49, 101, 54, 49, 52, 53, 52, 50, 54, 55, 97, 101, 32, 99, 117, 116, 32, 97, 116, 32, 114, 101, 103, 105, 115, 116, 114, 97, 114, 47, 114, 101, 103, 105, 115, 116, 114, 97, 114, 108, 97, 119, 49, 52, 46, 73, 110, 100, 101, 120, 80, 108, 97, 121, 115, 32, 114, 101, 103, 105, 115, 116, 114, 97, 114, 47, 114, 101, 103, 105, 115, 116, 114, 97, 114, 108, 97, 119, 49, 56, 46, 71, 117, 97, 114, 100, 76, 105, 115, 116, 115, 32, 114, 101, 103, 105, 115, 116, 114, 97, 114, 47, 114, 101, 103, 105, 115, 116, 114, 97, 114, 108, 97, 119, 49, 57, 46, 83, 101, 115, 115, 105, 111, 110, 77, 97, 110, 121, 32, 114, 101, 103, 105, 115, 116, 114, 97, 114, 47, 114, 101, 103, 105, 115, 116, 114, 97, 114, 108, 97, 119, 49, 57, 46, 83, 101, 115, 115, 105, 111, 110, 70, 114, 101, 101, 32, 114, 101, 103, 105, 115, 116, 114, 97, 114, 47, 114, 101, 103, 105, 115, 116, 114, 97, 114, 108, 97, 119, 49, 57, 46, 83, 101, 115, 115, 105, 111, 110, 83, 101, 101, 115, 32, 114, 101, 103, 105, 115, 116, 114, 97, 114, 47, 114, 101, 103, 105, 115, 116, 114, 97, 114, 108, 97, 119, 49, 57, 46, 83, 101, 115, 115, 105, 111, 110, 65, 116, 32, 114, 101, 103, 105, 115, 116, 114, 97, 114, 47, 114, 101, 103, 105, 115, 116, 114, 97, 114, 108, 97, 119, 49, 57, 46, 83, 101, 115, 115, 105, 111, 110, 82, 101, 102, 117, 115, 101, 115, 32, 114, 101, 103, 105, 115, 116, 114, 97, 114, 47, 114, 101, 103, 105, 115, 116, 114, 97, 114, 108, 97, 119, 49, 57, 46, 83, 101, 115, 115, 105, 111, 110, 80, 108, 97, 121, 115]
def ordL : List Char := ordN.map Char.ofNat
theorem order_eq : Tryz.prog.initOrder = String.ofList ordL := by kernel_rfl
theorem signs_eq : Tryz.prog.initOrder.toList = ordL := by rw [order_eq, String.toList_ofList]
def ordRest : List (List Char) := (behindMainWord (wordsSigns ordL)).tail
theorem words_eq : behindMainWord (wordsSigns ordL) = "cut".toList :: ordRest := by kernel_rfl
theorem strip_cut (r : List (List Char)) : stripLifts liftWords ("cut".toList :: r) = ([], "cut".toList :: r) := by kernel_rfl
theorem mayEnter_of (P : Program) (rest : List (List Char)) (h : behindMainWord (wordsSigns P.initOrder.toList) = "cut".toList :: rest) (h1 : P.laysLater = false) (h2 : P.bearsReflect = false) (h3 : P.doorFits [] = true) : P.mayEnter = true := by
  unfold Program.mayEnter
  rw [h]
  dsimp only
  rw [strip_cut, h1, h2, h3]
  simp
theorem lifts_of (P : Program) (rest : List (List Char)) (h : behindMainWord (wordsSigns P.initOrder.toList) = "cut".toList :: rest) : P.liftsFinal = false := by
  unfold Program.liftsFinal Program.headLifts
  rw [h, strip_cut]
  simp
theorem make_of (P : Program) (rest : List (List Char)) (h : behindMainWord (wordsSigns P.initOrder.toList) = "cut".toList :: rest) : P.make = some .cut := by
  unfold Program.make
  rw [h]
  dsimp only
  rw [if_neg (by decide), if_pos (by simp)]
theorem door_of (P : Program) (h : P.doorRows = []) : P.doorFits [] = true := by
  unfold Program.doorFits
  rw [h]
  simp
theorem head_eq : behindMainWord (wordsSigns Tryz.prog.initOrder.toList) = "cut".toList :: ordRest := by rw [signs_eq]; exact words_eq
theorem h_later : Tryz.prog.laysLater = false := by kernel_rfl
theorem h_refl : Tryz.prog.bearsReflect = false := by kernel_rfl
theorem h_rows : Tryz.prog.doorRows = [] := by kernel_rfl
theorem mayEnter_eq : Tryz.prog.mayEnter = true := mayEnter_of _ _ head_eq h_later h_refl (door_of _ h_rows)
theorem lifts_eq : Tryz.prog.liftsFinal = false := lifts_of _ _ head_eq
theorem make_eq : Tryz.prog.make = some .cut := make_of _ _ head_eq
theorem laidOut_eq : laidOutB Tryz.prog = true := by kernel_rfl
theorem mapsRowed_eq : mapsRowed Tryz.prog = true := by kernel_rfl
theorem stops_eq : (Tryz.prog.stops == []) = true := by kernel_rfl
theorem stopKnobs_eq : (Tryz.prog.stopKnobs == []) = true := by kernel_rfl
theorem heard_eq : Tryz.prog.stopsHeard = true := by kernel_rfl
theorem own_eq : ownKnob Tryz.prog.godebug = none := by kernel_rfl

/-- The rows' one great closed fact, out of its parts. -/
theorem joined_of {P : Program} {f : FuncId} {fn : Func} {s : ChangeSpec} {c : OpenClaim}
    (k1 : c.wf (OpenSpec.ofChange s) = true) (k2 : laidOutB P = true) (k3 : mapsRowed P = true) (k4 : fn.params.all (P.readableRec ·) = true) (k5 : namedTie P c.named s.vars = true)
    (k6 : (c.stops == []) = true) (k7 : (P.stops == []) = true) (k8 : (c.knobs == []) = true) (k9 : (P.stopKnobs == []) = true)
    (k10 : (c.inPlace == P.inPlace f) = true) (k11 : (c.unfollowed == P.unfollowed f) = true) (k12 : (c.recurses == P.recurses f) = true) (k13 : (c.named == P.varsNamed f) = true)
    (k14 : (c.maps == (fn.params.toList ++ s.plain.varTypes P).any (P.mapsRec ·)) = true) (k15 : (c.ifaces == (fn.params.toList ++ s.plain.varTypes P).any (P.ifacesRec ·)) = true) (k16 : (c.mapsOut == P.mapsAmong fn.resultTypes.toList) = true)
    (k17 : (c.loops == (fn.params.toList ++ s.plain.varTypes P).any (P.loopsFrom ·)) = true) (k18 : (c.wideKeys == (fn.params.toList ++ s.plain.varTypes P ++ fn.resultTypes.toList).any (P.wideKeysFrom ·)) = true)
    (k19 : s.vars.all (P.varReadable ·) = true) (k20 : fn.resultTypes.all (fun t => P.readableRec t && decide (t < P.types.size)) = true) (k21 : (c.ifacesOut == fn.resultTypes.toList.any (P.ifacesRec ·)) = true) (k22 : (c.loopsOut == fn.resultTypes.toList.any (P.loopsFrom ·)) = true)
    (k23 : (c.plainKeys == P.plainKeys) = true) (k24 : c.shortTexts.isNone = true) (k25 : P.stopsHeard = true) (k26 : P.mayEnter = true) (k27 : (c.lifted == P.liftsFinal) = true) (k28 : (P.make == some c.make) = true)
    (k29 : c.kinds = [] ∧ c.domain = []) (k30 : (c.pinned == c.pinnedBy) = true)
    (k31 : (c.veiled == (fn.params.toList ++ s.plain.varTypes P ++ fn.resultTypes.toList).any (P.veiledRec ·)) = true) (k32 : c.veiledFits P fn.params.toList (fn.params.toList ++ s.plain.varTypes P ++ fn.resultTypes.toList) = true) :
    joinedFacts P f fn s c = true := by
  unfold joinedFacts
  rw [k1, k2, k3, k4, k5, k6, k7, k8, k9, k10, k11, k12, k13, k14, k15, k16, k17, k18, k19, k20, k21, k22, k23, k24, k25, k26, k27, k28, k29.1, k29.2, k30, k31, k32]
  rfl
end Go.Proofs.YtfoghahidofegaaGreat

namespace Go.Proofs.YtfoghahidofegaaGreat.sessionRefuses
open Go.ChangeShapes Go.WideShapes Go.ChangeAt Go.RowKit
open Go.ChangeMaps (open_string shut_string)
set_option maxRecDepth 100000 in
theorem lifted (os : Os) (started : os.Started) (H : Type) (enc : TypeId × Value → H) :
    ReturnsInHanded {} Tryz.checked os 9 .any (Rows.sessionRefusesSpec.pre6 enc Tryz.prog Tryz.f9 Rows.sessionRefusesRow.domain false) (Rows.sessionRefusesSpec.post enc Tryz.prog Tryz.f9 false true false false) := by
  refine returnsInHanded_of_change_sized (C := Tryz.checked) own_eq started (by kernel_rfl) Tryz.func9
    (ChangeSpec.witness6 (enc := enc) (C := Tryz.checked) false ⟨#[], #[.slice none 0 0, .slice none 0 0], []⟩ 8 (by kernel_rfl) (by kernel_rfl) (by kernel_rfl) (by kernel_rfl)) ?_
  intro W base args ds gs before hval0 hW hcnd hsz0 _
  have hval : ∀ (j : Nat) t v, Tryz.f9.params[j]? = some t → args[j]? = some v → Value.okWide Tryz.prog W .any base t v := hval0
  have hW' := hW
  obtain ⟨p, q, hA0, hV, rfl, hfz, hnd⟩ := hW
  have hA : DataW.TrodAll enc Tryz.prog W 0 (fun _ => true) true Tryz.f9.params.toList args.toList ds p := hA0
  rw [Tryz.params9] at hA hval
  obtain ⟨v0, vs0, d0, ds0, p0, q0, hargs, rfl, rfl, h0, r0⟩ := trodAll_cons hA
  obtain ⟨v1, vs1, d1, ds1, p1, q1, rfl, rfl, rfl, h1, r1⟩ := trodAll_cons r0
  obtain ⟨rfl, rfl, rfl⟩ := trodAll_nil r1
  obtain rfl : args = #[v0, v1] := by cases args; simp_all
  obtain ⟨rfl, rfl⟩ := trodVars_none hV
  have k0 := h0
  have lt0 : ∀ x ∈ p0, x.block < W.heap.size := by obtain ⟨m, hm⟩ := k0; exact DataW.trod_lt m _ _ _ hm
  obtain ⟨a0, len0, cap0, rfl⟩ := okWide_slice Tryz.underlying43 (hval 0 43 v0 rfl rfl)
  obtain ⟨x0, ⟨A0, c0, e0, l0, m0, w0⟩, g0⟩ := (opEvs).arg h0
  simp only [Value.cells, List.cons.injEq, Value.slice.injEq, and_true] at e0
  obtain ⟨rfl, rfl, rfl⟩ := e0
  have k1 := h1
  have lt1 : ∀ x ∈ p1, x.block < W.heap.size := by obtain ⟨m, hm⟩ := k1; exact DataW.trod_lt m _ _ _ hm
  obtain ⟨a1, len1, cap1, rfl⟩ := okWide_slice Tryz.underlying86 (hval 1 86 v1 rfl rfl)
  obtain ⟨x1, ⟨A1, c1, e1, l1, m1, w1⟩, g1⟩ := (opOps19).arg h1
  simp only [Value.cells, List.cons.injEq, Value.slice.injEq, and_true] at e1
  obtain ⟨rfl, rfl, rfl⟩ := e1
  clear hA0 hval0
  refine (sessionRefuses_walk W _ _ x0 ⟨l0, m0, w0⟩ g0 _ _ x1 ⟨l1, m1, w1⟩ g1).mono fun e W' ⟨he, bel⟩ => ?_
  subst he
  exact ⟨_, rfl, _, _, _, [], _, [], hW', trodAll_mk1 (shut_bool Tryz.underlying4 _), (trodAll_cons_mk (Below.trod laidOut_eq (by kernel_rfl) (of_decide_eq_true (by kernel_rfl)) k0 bel lt0) (trodAll_cons_mk (Below.trod laidOut_eq (by kernel_rfl) (of_decide_eq_true (by kernel_rfl)) k1 bel lt1) trodAll_mk0)), rfl, bel.frame _, fun h => by cases h⟩
theorem k10 : (Rows.sessionRefusesRow.inPlace == Tryz.prog.inPlace 9) = true := by kernel_rfl
theorem k11 : (Rows.sessionRefusesRow.unfollowed == Tryz.prog.unfollowed 9) = true := by kernel_rfl
theorem k12 : (Rows.sessionRefusesRow.recurses == Tryz.prog.recurses 9) = true := by kernel_rfl
theorem k13 : (Rows.sessionRefusesRow.named == Tryz.prog.varsNamed 9) = true := by kernel_rfl
theorem k23 : (Rows.sessionRefusesRow.plainKeys == Tryz.prog.plainKeys) = true := by kernel_rfl
theorem kfn : Tryz.pinned.checked.prog.funcNamed Rows.sessionRefusesRow.func = some 9 := by kernel_rfl
theorem closed : joinedFacts Tryz.prog 9 Tryz.f9 Rows.sessionRefusesSpec Rows.sessionRefusesRow = true :=
  joined_of (by kernel_rfl) laidOut_eq mapsRowed_eq (by kernel_rfl) (by kernel_rfl) rfl stops_eq rfl stopKnobs_eq k10 k11 k12 k13 (by kernel_rfl) (by kernel_rfl) (by kernel_rfl) (by kernel_rfl) (by kernel_rfl) (by kernel_rfl) (by kernel_rfl) (by kernel_rfl) (by kernel_rfl) k23 rfl heard_eq mayEnter_eq (by rw [lifts_eq]; rfl) (by rw [make_eq]; rfl) ⟨rfl, rfl⟩ (by kernel_rfl) (by kernel_rfl) (by kernel_rfl)
theorem over : Rows.sessionRefusesRow.holds Tryz.pinned (OpenSpec.ofChange Rows.sessionRefusesSpec) :=
  OpenClaim.holds_of_wide 9 Tryz.f9 rfl rfl rfl rfl rfl rfl rfl ⟨rfl, rfl, rfl, rfl, rfl⟩ rfl rfl rfl rfl rfl kfn Tryz.func9 closed
    (of_decide_eq_true (by kernel_rfl)) (by unfold Func.isWrapper; first | (rw [if_pos (by decide +kernel)]; kernel_rfl) | (rw [if_neg (by decide +kernel)]; exact ⟨rfl, rfl⟩))
    (fun os started H enc _ => lifted os started H enc)
theorem proved : Rows.SessionRefusesSaid := over
#print axioms proved
end Go.Proofs.YtfoghahidofegaaGreat.sessionRefuses
