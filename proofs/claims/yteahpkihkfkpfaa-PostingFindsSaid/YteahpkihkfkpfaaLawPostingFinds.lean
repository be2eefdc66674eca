/- PostingFinds: the law's walk. -/
import Derived.Test.YteahpkihkfkpfaaPfState
set_option linter.unusedVariables false
set_option linter.unusedSimpArgs false
namespace Go.Proofs.Yteahpkihkfkpfaa
open Go.RowKit Go.Maps

theorem op_facts {w : World} {ad : Addr} {c : Nat} {l : List EP} (h : Sl kOp (fun j => j < w.heap.size) w (some ad) c l) {j : Nat} (hj : j < l.length) :
    ∃ T ct F cf, (∀ W, Below w.heap.size w W → W.cell? (ad.add (j * 5)) = some (.string l[j].1.stream) ∧ W.cell? ⟨(ad.add (j * 5)).block, (ad.add (j * 5)).off + 1, none⟩ = some (.string l[j].1.type) ∧ W.cell? ⟨(ad.add (j * 5)).block, (ad.add (j * 5)).off + 2, none⟩ = some (.slice T l[j].1.tags.length ct) ∧
      W.cell? ⟨(ad.add (j * 5)).block, (ad.add (j * 5)).off + 3, none⟩ = some (.slice F l[j].1.fields.length cf) ∧ W.cell? ⟨(ad.add (j * 5)).block, (ad.add (j * 5)).off + 4, none⟩ = some (.int .i64 l[j].2)) ∧ Sl Kn.str (fun j => j < w.heap.size) w T ct l[j].1.tags ∧ Sl kField (fun j => j < w.heap.size) w F cf l[j].1.fields := by
  obtain ⟨ad', T, ct, F, cf, e, h0, h1, h2, h3, h4, h5, h6, hlt⟩ := row_op_at h.2.2 hj
  injection e with e
  subst e
  refine ⟨T, ct, F, cf, fun W hb => ?_, h5, h6⟩
  have hbl : ∀ o, W.cell? ⟨(ad.add (j * 5)).block, o, none⟩ = w.cell? ⟨(ad.add (j * 5)).block, o, none⟩ := fun o => World.cell?_of_block (hb.block _ (by rw [block_add]; exact hlt))
  have hbl0 : W.cell? (ad.add (j * 5)) = w.cell? (ad.add (j * 5)) := World.cell?_of_block (hb.block _ (by rw [block_add]; exact hlt))
  exact ⟨hbl0.trans h0, (hbl _).trans h1, (hbl _).trans h2, (hbl _).trans h3, (hbl _).trans h4⟩
theorem tmod4 (a : Int) : -3 ≤ a.tmod 4 ∧ a.tmod 4 ≤ 3 := by
  have h := Int.natAbs_tmod a 4
  rw [show Int.natAbs 4 = 4 from rfl] at h
  omega
section
variable {w wr : World} {p mt my y g k : Nat} {gv : List Value} {es : List EP} {pos : Int}
theorem Pf2.tags (h : Pf2 w wr p mt my y g gv k es pos) {s : ByteArray} (hs : s.size ≤ maxLen) : ∃ L, ∀ W (R : Prop), Below wr.heap.size wr W ∧ R →
    Calls Try.prog 26 #[.pointer (some ⟨p, 0, none⟩), .string s] W (RetInts L W) ∧ Calls Try.prog 33 #[.pointer (some ⟨y, 0, none⟩), .string s] W (RetInts L W) := by
  refine ⟨tagE es s, fun W R hb => ⟨c3Tag (h.q.below hb.1) hs, ?_⟩⟩
  obtain ⟨E, cE, P, cP, hr⟩ := h.r
  exact refTag_any (hr.below hb.1) (by have := h.q.len; omega) s
theorem Pf2.types (h : Pf2 w wr p mt my y g gv k es pos) {s : ByteArray} (hs : s.size ≤ maxLen) : ∃ L, ∀ W (R : Prop), Below wr.heap.size wr W ∧ R →
    Calls Try.prog 25 #[.pointer (some ⟨p, 0, none⟩), .string s] W (RetInts L W) ∧ Calls Try.prog 34 #[.pointer (some ⟨y, 0, none⟩), .string s] W (RetInts L W) := by
  refine ⟨typeE es s, fun W R hb => ⟨c3Type (h.q.below hb.1) hs, ?_⟩⟩
  obtain ⟨E, cE, P, cP, hr⟩ := h.r
  exact refType_any (hr.below hb.1) (by have := h.q.len; omega) s
end
theorem add_0 (a : Addr) : a.add 0 = a := by unfold Addr.add; rw [if_pos rfl]
set_option maxHeartbeats 2000000 in
set_option maxRecDepth 8000 in
theorem postingFinds_walk (w : World) (A : Option Addr) (c : Nat) (l : List EP) (h : Sl kOp (fun _ => True) w A c l) (hg : ∀ e ∈ l, goodOp e) (cs : Array Value) (q : List Clause) (hq : kQuery.K (fun _ => True) w q cs.toList) (gq : ∀ c ∈ q, goodClause c) (x : Int) (hx : (Lit.int .i64 x).wf = true) :
    Calls Try.prog 7 #[.slice A l.length c, .agg cs, .int .i64 x] w fun r w' => r = .returned (.bool true) ∧ Below w.heap.size w w' := by
  obtain ⟨Q, cq, ecs, hq1, hq2, hq3⟩ := hq
  obtain rfl : cs = #[.slice Q q.length cq] := by cases cs; simp_all
  have HL := Lib.hid (show Sl kOp (fun j => j < w.heap.size) w A c l from h.bound.mono (fun j hj => hj.2))
  have HQ := Lib.hid (show SlC w Q cq q from ⟨hq1, hq2, hq3⟩)
  have HG := Lib.hid hg
  have HGQ := Lib.hid gq
  have hc1 := h.1
  have hc2 := h.2.1
  unfold maxLen at hc2
  obtain ⟨W0, hW0⟩ : ∃ W0, W0 = w.alloc (.cells #[.slice Q q.length cq] 52) := ⟨_, rfl⟩
  have HW0 := Lib.hid hW0
  have HB0 := Lib.hid (show Below w.heap.size w W0 by rw [hW0]; exact (Below.refl _ _).alloc (Nat.le_refl _) _)
  have HX0 := Lib.hid (show Bx W0 w.heap.size 52 [.slice Q q.length cq] by rw [hW0]; exact Bx.new w _ _)
  have HS := Lib.hid (shown13 W0)
  clear h hg gq hx ecs hq1 hq2 hq3
  go_enter Try.func7, Try.ntmps7
  go_upto_region 1 with fail
  rw [← HW0.out]
  clear hW0
  go_upto_region 2 with (go_at_call 19; go_fit HS.out; rintro r w1 ⟨rfl, h1⟩; have H1 := Lib.hid h1; clear h1)
  have HX1 := Lib.hid (HX0.out.under H1.out)
  have CN := Lib.hid (c3New w1 (fun k => k = w.heap.size) (fun k hk => by subst hk; exact HX1.out.lt))
  go_upto_region 5 with (go_at_call 20; go_fit CN.out; rintro r w2 ⟨p, mt, my, rfl, hqs, hb2, hp1, hp2, hp3⟩; have HQS := Lib.hid hqs; have HB2 := Lib.hid hb2; clear hqs hb2)
  have HX2 := Lib.hid (HX1.out.under HB2.out)
  have hgl : w.heap.size < w2.heap.size := HX2.out.lt
  have hs1 := HX1.out.lt
  have HBA := Lib.hid (show Below w2.heap.size w2 (w2.alloc (.cells #[.slice none 0 0, .slice none 0 0] 59)) from (Below.refl _ _).alloc (Nat.le_refl _) _)
  have H0 := Lib.hid (show Pf2 w (w2.alloc (.cells #[.slice none 0 0, .slice none 0 0] 59)) p mt my w2.heap.size w.heap.size [.slice Q q.length cq] 0 [] 0 from by
    obtain ⟨q1, q2, q3, _⟩ := HQS.out.lt
    refine ⟨HQS.out.move (But.of_below HBA.out) (fun j hj => ?_), ⟨none, 0, none, 0, rl_new w2 _ (fun j hj => ?_)⟩, ⟨by omega, by omega, by omega, by omega⟩, bthen (bthen (bthen HB0.out H1.out) HB2.out) HBA.out, Nat.le_refl _, fun z hz => by simp [posE] at hz, by omega, HX2.out.under HBA.out⟩
    · rcases hj with hj | hj
      · exact .inr (by subst hj; simp)
      · exact .inl hj
    · omega)
  go_wp2_with fail
  go_loopw [8, 10, 11] (fun pv ps i wr => ∃ (k : Nat) (es : List EP) (p' mt' my' : Nat) (pos : Int), k ≤ l.length ∧ k ≤ 60 ∧ i = .int .i64 k ∧ pv = .pointer (some ⟨p', 0, none⟩) ∧ ps = .int .i64 pos ∧ Pf2 w wr p' mt' my' w2.heap.size w.heap.size [.slice Q q.length cq] k es pos) (fun _ _ i _ => l.length - (intOf i).toNat)
  case atStart => exact ⟨0, [], p, mt, my, 0, by omega, by omega, rfl, rfl, rfl, H0.out⟩
  case round =>
    obtain ⟨k, es, p', mt', my', pos, hkl, hk6, rfl, rfl, rfl, hP⟩ := hrel
    have HP := Lib.hid hP
    clear hP
    by_cases hlt : k < l.length ∧ k < 60
    · obtain ⟨hlt, hlt6⟩ := hlt
      have b1 : (0 : Int) ≤ (k : Int) := Int.natCast_nonneg _
      have b2 : (k : Int) < (l.length : Int) := by omega
      obtain ⟨ad, rfl, _⟩ := HL.out.2.2 (by omega)
      go_upto_if 38 with fail
      go_cut [8, 12] (fun pv _ wx => ∃ p2 mt2 my2, pv = .pointer (some ⟨p2, 0, none⟩) ∧ Pf2 w wx p2 mt2 my2 w2.heap.size w.heap.size [.slice Q q.length cq] k es pos)
      case first =>
        by_cases hk9 : (k : Int) % 9 = 8
        · have d9 : ((k : Int) % 9 == 8) = true := by simp [hk9]
          have hl0 : 0 < l.length := by omega
          obtain ⟨T, ct, F, cf, hcl, hT, hF⟩ := op_facts HL.out hl0
          rw [Nat.zero_mul, add_0] at hcl
          have hge := HG.out _ (List.getElem_mem hl0)
          generalize l[0] = e at *
          have HCL := Lib.hid hcl
          have HT := Lib.hid (show Sl Kn.str (fun j => j < w.heap.size) w T ct (few10 e.1).tags from hT.take 10)
          have HGE := Lib.hid (goodFew e.1 hge.1)
          have hts : (few10 e.1).tags.length ≤ 50 := by simp [few10]; omega
          have C1 := Lib.hid (fun W => few13_any (w := W) (e := e.1) (T := T) (F := F) (cf := cf) hT.1)
          clear hk9 hcl hT hF hge
          generalize few10 e.1 = e1 at *
          go_wp2_with (first
            | (go_at_call 21; go_fit (HC4.out.old (by omega) (HT.out.below HC4.out.bel) hts HGE.out); rintro r w5 ⟨rfl, h5⟩; have HP5 := Lib.hid h5; clear h5)
            | (go_at_call 22; go_fit (C1.out _); rintro r w4 ⟨rfl, h4⟩; have HC4 := Lib.hid (HC3.out.below h4); clear h4)
            | (go_at_call 27; go_fit HP.out.clone; rintro r w3 ⟨p2, mt2, my2, rfl, h3⟩; have HC3 := Lib.hid h3; obtain ⟨y0, y1, y2, y3, y4⟩ := HCL.out w3 h3.bel; clear h3))
          go_meet
          case rel => exact ⟨_, _, _, rfl, HP5.out⟩
        · have d9 : ((k : Int) % 9 == 8) = false := by simp [hk9]
          clear hk9
          go_wp2_with fail
          go_meet
          case rel => exact ⟨_, _, _, rfl, HP.out⟩
      case rest =>
        clear HP
        obtain ⟨p3, mt3, my3, rfl, hP3⟩ := hcut
        obtain ⟨T, ct, F, cf, hcl, hT, hF⟩ := op_facts HL.out hlt
        have hge := HG.out _ (List.getElem_mem hlt)
        generalize l[k] = eo at *
        obtain ⟨e, far⟩ := eo
        have HCL := Lib.hid hcl
        have HP3 := Lib.hid hP3
        have HT := Lib.hid hT
        have HF := Lib.hid hF
        have HGE := Lib.hid hge
        obtain ⟨y0, y1, y2, y3, y4⟩ := hcl wc hP3.bel
        have hps := hP3.ps
        have hb4 := tmod4 far
        obtain ⟨xx, hxx⟩ : ∃ xx, xx = pos + far.tmod 4 := ⟨_, rfl⟩
        have hx1 : -(3 * (k : Int) + 3) ≤ xx ∧ xx ≤ 3 * (k : Int) + 3 := by omega
        have ew : wrap64 (pos + far.tmod 4) = xx := by rw [hxx]; exact IntWalk.wrap64_in (pos + far.tmod 4) (by omega)
        clear hcl hge hP3 hxx hb4 hps
        go_upto_region 17 with fail
        rw [ew]
        clear ew
        obtain ⟨hp1, hp2, hp3, hp4⟩ := HP3.out.lo
        have hgs : w.heap.size < w2.heap.size := hgl
        have HT1 := Lib.hid (show Sl Kn.str (fun j => j < w.heap.size) w T ct (few10 e).tags from hT.take 10)
        have HT2 := Lib.hid (show Sl Kn.str (fun j => j < w.heap.size ∧ j ≠ w.heap.size) w T ct (few10 e).tags from (hT.take 10).mono (fun j hj => ⟨hj, by omega⟩))
        have HF2 := Lib.hid (show Sl kField (fun j => j < w.heap.size ∧ j ≠ w.heap.size) w F cf (few10 e).fields from hF.mono (fun j hj => ⟨hj, by omega⟩))
        have HGE1 := Lib.hid (goodFew e HGE.out.1)
        have hts : (few10 e).tags.length ≤ 50 := by simp [few10]; omega
        have C1 := Lib.hid (fun W => few13_any (w := W) (e := e) (T := T) (F := F) (cf := cf) hT.1)
        clear hT hF
        generalize few10 e = e1 at *
        have hpart : (xx < 1 ∨ xx ≤ lastE es) ∨ (¬ xx < 1 ∧ ¬ xx ≤ lastE es) := by omega
        rcases hpart with hno | ⟨hy1, hy2⟩
        rotate_left
        · have HY1 := Lib.hid (show ¬ xx < 1 by omega)
          have HY2 := Lib.hid (show ¬ xx ≤ lastE es by omega)
          clear hy1 hy2
          go_upto_region 20 with (first
            | (go_at_call 32; go_fit (Pf3.add2 (x := xx) HP6.out (.inr (Nat.le_refl _)) (by omega) (HT2.out.below HP6.out.bel) (HF2.out.below HP6.out.bel) hx1 (by have := HY1.out; omega) (by have := HY2.out; omega)); rintro r w7 ⟨rfl, h7⟩; have HP7 := Lib.hid h7; clear h7)
            | (go_at_call 22; go_fit (C1.out _); rintro r w6 ⟨rfl, h6⟩; have HP6 := Lib.hid (HP5.out.below h6); clear h6)
            | (go_at_call 21; go_fit (Pf2.add1 (x := xx) HP4.out (by omega) (HT1.out.below HP4.out.bel) hts HGE1.out (by have := HY1.out; omega) (by have := HY2.out; omega)); rintro r w5 ⟨rfl, h5⟩; have HP5 := Lib.hid h5; obtain ⟨z0, z1, z2, z3, z4⟩ := HCL.out w5 h5.bel; clear h5)
            | (go_at_call 22; go_fit (C1.out _); rintro r w4 ⟨rfl, h4⟩; have HP4 := Lib.hid (HP3.out.below h4); clear h4))
          have hle7 := HP7.out.q.len
          obtain ⟨x0, x1, x2, x3, x4⟩ := HCL.out w7 HP7.out.bel
          obtain ⟨X, hX⟩ : ∃ X, X = w7 := ⟨w7, rfl⟩
          subst hX
          go_upto_if 86 with fail
          go_cut [14] (fun _ wx => Below X.heap.size X wx)
          case first =>
            by_cases htl : 0 < e.tags.length
            · have d86 : decide (0 < e.tags.length) = true := decide_eq_true htl
              have hgt0 := HGE.out.1.2.2.1 e.tags[0] (List.getElem_mem htl)
              obtain ⟨td, htd, _⟩ := row_str_at HT.out.2.2 htl
              subst htd
              have htc : ∀ W, Below w.heap.size w W → W.cell? td = some (.string e.tags[0]) := fun W hb => by
                obtain ⟨td', e1, h1⟩ := row_str_at (HT.out.below hb).2.2 htl
                injection e1 with e1
                subst e1
                rwa [add_0] at h1
              have HTN := Lib.hid htl
              generalize e.tags[0] = t0 at hgt0 htc
              have HK : Hid (∀ W, Below X.heap.size X W → Below X.heap.size X W ∧ W.cell? ⟨(ad.add (k * 5)).block, (ad.add (k * 5)).off + 2, none⟩ = some (.slice (some td) e.tags.length ct) ∧ W.cell? td = some (.string t0)) :=
                Lib.hid (fun W hW => ⟨hW, (HCL.out W (bthen HP7.out.bel hW)).2.2.1, htc W (bthen HP7.out.bel hW)⟩)
              obtain ⟨LT, hLT⟩ := HP7.out.tags hgt0
              have CT := Lib.hid hLT
              have b4 : (0 : Int) < (e.tags.length : Int) := by omega
              clear hLT htc hgt0
              go_upto_region 21 with fail
              go_region_held3 (fun W => Below X.heap.size X W ∧ W.cell? ⟨(ad.add (k * 5)).block, (ad.add (k * 5)).off + 2, none⟩ = some (.slice (some td) e.tags.length ct) ∧ W.cell? td = some (.string t0)) (first | exact HK.out _ (below_drawn (Below.refl _ _)) | exact HK.out _ (bthen (And.left (by assumption : Below X.heap.size X _ ∧ _)) (by assumption))) (first
                | (go_at_call 28; refine (cIntsEq H10.out H11.out).mono ?_; rintro r w12 ⟨rfl, hb⟩)
                | (go_at_call 33; refine (CT.out _ _ (by assumption)).2.mono ?_; rintro r w11 ⟨A11, c11, rfl, h11, hb⟩; have H11 := Lib.hid h11.any; have H10 := Lib.hid (H10'.out.below hb); clear h11)
                | (go_at_call 26; refine (CT.out _ _ (by assumption)).1.mono ?_; rintro r w10 ⟨A10, c10, rfl, h10, hb⟩; have H10' := Lib.hid h10.any; clear h10))
              all_goals go_wp2_with fail
              all_goals go_meet
              all_goals exact And.left (by assumption : Below X.heap.size X _ ∧ _)
            · have d86 : decide (0 < e.tags.length) = false := decide_eq_false htl
              go_wp2_with fail
              go_meet
              case rel => exact Below.refl _ _
          case rest =>
            have HP8 := Lib.hid (HP7.out.below hcut)
            clear HP7 hcut x0 x1 x2 x3 x4
            obtain ⟨LY, hLY⟩ := HP8.out.types HGE.out.1.2.1
            have CY := Lib.hid hLY
            have HK : Hid (∀ W, Below wc.heap.size wc W → Below wc.heap.size wc W ∧ W.cell? ⟨(ad.add (k * 5)).block, (ad.add (k * 5)).off + 1, none⟩ = some (.string e.type)) :=
              Lib.hid (fun W hW => ⟨hW, (HCL.out W (bthen HP8.out.bel hW)).2.1⟩)
            clear hLY
            go_upto_region 24 with fail
            go_region_held3 (fun W => Below wc.heap.size wc W ∧ W.cell? ⟨(ad.add (k * 5)).block, (ad.add (k * 5)).off + 1, none⟩ = some (.string e.type)) (first | exact HK.out _ (below_drawn (Below.refl _ _)) | exact HK.out _ (bthen (And.left (by assumption : Below wc.heap.size wc _ ∧ _)) (by assumption))) (first
              | (go_at_call 28; refine (cIntsEq H10.out H11.out).mono ?_; rintro r w12 ⟨rfl, hb⟩)
              | (go_at_call 34; refine (CY.out _ _ (by assumption)).2.mono ?_; rintro r w11 ⟨A11, c11, rfl, h11, hb⟩; have H11 := Lib.hid h11.any; have H10 := Lib.hid (H10'.out.below hb); clear h11)
              | (go_at_call 25; refine (CY.out _ _ (by assumption)).1.mono ?_; rintro r w10 ⟨A10, c10, rfl, h10, hb⟩; have H10' := Lib.hid h10.any; clear h10))
            all_goals go_wp2_with fail
            all_goals go_roundw
            all_goals first
              | exact ⟨k + 1, _, _, _, _, xx, by omega, by omega, by go_num, rfl, rfl, HP8.out.below (And.left (by assumption : Below wc.heap.size wc _ ∧ _))⟩
              | (simp [intOf]; omega)
        · have HNO := Lib.hid hno
          clear hno
          go_upto_region 20 with (first
            | (go_at_call 32; go_fit (HP6.out.no2 (by omega) (HT2.out.below HP6.out.bel) (HF2.out.below HP6.out.bel) hx1 HNO.out); rintro r w7 ⟨rfl, h7⟩; have HP7 := Lib.hid h7; clear h7)
            | (go_at_call 22; go_fit (C1.out _); rintro r w6 ⟨rfl, h6⟩; have HP6 := Lib.hid (HP5.out.below h6); clear h6)
            | (go_at_call 21; go_fit (HP4.out.no1 HNO.out); rintro r w5 ⟨rfl, h5⟩; have HP5 := Lib.hid h5; obtain ⟨z0, z1, z2, z3, z4⟩ := HCL.out w5 h5.bel; clear h5)
            | (go_at_call 22; go_fit (C1.out _); rintro r w4 ⟨rfl, h4⟩; have HP4 := Lib.hid (HP3.out.below h4); clear h4))
          have hle7 := HP7.out.q.len
          obtain ⟨x0, x1, x2, x3, x4⟩ := HCL.out w7 HP7.out.bel
          obtain ⟨X, hX⟩ : ∃ X, X = w7 := ⟨w7, rfl⟩
          subst hX
          go_upto_if 86 with fail
          go_cut [14] (fun _ wx => Below X.heap.size X wx)
          case first =>
            by_cases htl : 0 < e.tags.length
            · have d86 : decide (0 < e.tags.length) = true := decide_eq_true htl
              have hgt0 := HGE.out.1.2.2.1 e.tags[0] (List.getElem_mem htl)
              obtain ⟨td, htd, _⟩ := row_str_at HT.out.2.2 htl
              subst htd
              have htc : ∀ W, Below w.heap.size w W → W.cell? td = some (.string e.tags[0]) := fun W hb => by
                obtain ⟨td', e1, h1⟩ := row_str_at (HT.out.below hb).2.2 htl
                injection e1 with e1
                subst e1
                rwa [add_0] at h1
              have HTN := Lib.hid htl
              generalize e.tags[0] = t0 at hgt0 htc
              have HK : Hid (∀ W, Below X.heap.size X W → Below X.heap.size X W ∧ W.cell? ⟨(ad.add (k * 5)).block, (ad.add (k * 5)).off + 2, none⟩ = some (.slice (some td) e.tags.length ct) ∧ W.cell? td = some (.string t0)) :=
                Lib.hid (fun W hW => ⟨hW, (HCL.out W (bthen HP7.out.bel hW)).2.2.1, htc W (bthen HP7.out.bel hW)⟩)
              obtain ⟨LT, hLT⟩ := HP7.out.tags hgt0
              have CT := Lib.hid hLT
              have b4 : (0 : Int) < (e.tags.length : Int) := by omega
              clear hLT htc hgt0
              go_upto_region 21 with fail
              go_region_held3 (fun W => Below X.heap.size X W ∧ W.cell? ⟨(ad.add (k * 5)).block, (ad.add (k * 5)).off + 2, none⟩ = some (.slice (some td) e.tags.length ct) ∧ W.cell? td = some (.string t0)) (first | exact HK.out _ (below_drawn (Below.refl _ _)) | exact HK.out _ (bthen (And.left (by assumption : Below X.heap.size X _ ∧ _)) (by assumption))) (first
                | (go_at_call 28; refine (cIntsEq H10.out H11.out).mono ?_; rintro r w12 ⟨rfl, hb⟩)
                | (go_at_call 33; refine (CT.out _ _ (by assumption)).2.mono ?_; rintro r w11 ⟨A11, c11, rfl, h11, hb⟩; have H11 := Lib.hid h11.any; have H10 := Lib.hid (H10'.out.below hb); clear h11)
                | (go_at_call 26; refine (CT.out _ _ (by assumption)).1.mono ?_; rintro r w10 ⟨A10, c10, rfl, h10, hb⟩; have H10' := Lib.hid h10.any; clear h10))
              all_goals go_wp2_with fail
              all_goals go_meet
              all_goals exact And.left (by assumption : Below X.heap.size X _ ∧ _)
            · have d86 : decide (0 < e.tags.length) = false := decide_eq_false htl
              go_wp2_with fail
              go_meet
              case rel => exact Below.refl _ _
          case rest =>
            have HP8 := Lib.hid (HP7.out.below hcut)
            clear HP7 hcut x0 x1 x2 x3 x4
            obtain ⟨LY, hLY⟩ := HP8.out.types HGE.out.1.2.1
            have CY := Lib.hid hLY
            have HK : Hid (∀ W, Below wc.heap.size wc W → Below wc.heap.size wc W ∧ W.cell? ⟨(ad.add (k * 5)).block, (ad.add (k * 5)).off + 1, none⟩ = some (.string e.type)) :=
              Lib.hid (fun W hW => ⟨hW, (HCL.out W (bthen HP8.out.bel hW)).2.1⟩)
            clear hLY
            go_upto_region 24 with fail
            go_region_held3 (fun W => Below wc.heap.size wc W ∧ W.cell? ⟨(ad.add (k * 5)).block, (ad.add (k * 5)).off + 1, none⟩ = some (.string e.type)) (first | exact HK.out _ (below_drawn (Below.refl _ _)) | exact HK.out _ (bthen (And.left (by assumption : Below wc.heap.size wc _ ∧ _)) (by assumption))) (first
              | (go_at_call 28; refine (cIntsEq H10.out H11.out).mono ?_; rintro r w12 ⟨rfl, hb⟩)
              | (go_at_call 34; refine (CY.out _ _ (by assumption)).2.mono ?_; rintro r w11 ⟨A11, c11, rfl, h11, hb⟩; have H11 := Lib.hid h11.any; have H10 := Lib.hid (H10'.out.below hb); clear h11)
              | (go_at_call 25; refine (CY.out _ _ (by assumption)).1.mono ?_; rintro r w10 ⟨A10, c10, rfl, h10, hb⟩; have H10' := Lib.hid h10.any; clear h10))
            all_goals go_wp2_with fail
            all_goals go_roundw
            all_goals first
              | exact ⟨k + 1, _, _, _, _, xx, by omega, by omega, by go_num, rfl, rfl, HP8.out.below (And.left (by assumption : Below wc.heap.size wc _ ∧ _))⟩
              | (simp [intOf]; omega)
    · have CL := Lib.hid (pless_any (fun j => j < w.heap.size) ((HQ.out.bound.mono (fun j hj => hj.2)).below HP.out.bel))
      have hgw : w.heap.size < wr.heap.size := HP.out.gx.lt
      have hgx := HP.out.gx.c0
      have hgf := HP.out.gx.free 0
      have hsp : ¬ k < l.length ∨ (k < l.length ∧ ¬ k < 60) := by omega
      have HGF := Lib.hid (goodFewM q HGQ.out)
      obtain ⟨q2, hq2⟩ : ∃ q2, fewM q = q2 := ⟨_, rfl⟩
      rw [hq2] at CL HGF
      clear hlt hq2
      rcases hsp with hlt1 | ⟨hlt1, hlt2⟩
      all_goals
        go_upto_region 28 with (go_at_call 30; go_fit CL.out; rintro r w3 ⟨A2, c2, rfl, hsq, hb3⟩; have HSQ := Lib.hid hsq; have HP3 := Lib.hid (HP.out.below hb3); have hX3 := (HP.out.gx.under hb3); have hq0 := hX3.c0; have hqf := hX3.free 0; have hsz3 := hb3.size; clear hsq hb3 hX3)
        have HSQ4 := Lib.hid (show SlC (w3.setCell ⟨w.heap.size, 0, none⟩ (.slice A2 q2.length c2)) A2 c2 q2 from (HSQ.out.setCell (fun j hj e => by simp at e; omega) _).any)
        have HQ4 := Lib.hid (show Q3 (w3.setCell ⟨w.heap.size, 0, none⟩ (.slice A2 q2.length c2)) p' mt' my' es (fun j => j = w2.heap.size ∨ j = w.heap.size) from HP3.out.q.move (But.setCell (S := fun j => j = w2.heap.size ∨ j = w.heap.size) (p := ⟨w.heap.size, 0, none⟩) w3 (.inr rfl) _) (fun j hj => .inl hj))
        have HX4 := Lib.hid (show Bx (w3.setCell ⟨w.heap.size, 0, none⟩ (.slice A2 q2.length c2)) w.heap.size 52 [.slice A2 q2.length c2] from HP3.out.gx.set 0 _)
        have HB4 := Lib.hid (show Below w.heap.size w (w3.setCell ⟨w.heap.size, 0, none⟩ (.slice A2 q2.length c2)) from HP3.out.bel.setCell (by simp) _)
        obtain ⟨E, cE, P, cP, hr⟩ := HP3.out.r
        have HR4 := Lib.hid (hr.far (But.setCell (S := fun j => j = p' ∨ j = mt' ∨ j = my' ∨ j = w.heap.size) (p := ⟨w.heap.size, 0, none⟩) w3 (.inr (.inr (.inr rfl))) (.slice A2 q2.length c2)))
        clear hr
        generalize w3.setCell ⟨w.heap.size, 0, none⟩ (.slice A2 q2.length c2) = X at *
        have CF := Lib.hid (fun W (R : Prop) (hb : Below X.heap.size X W ∧ R) => c3Find (HQ4.out.below hb.1) (HSQ4.out.below hb.1) HGF.out x)
        have CG := Lib.hid (fun W (R : Prop) (hb : Below X.heap.size X W ∧ R) => refFind_any (HR4.out.below hb.1) (by have := HQ4.out.len; omega) (HSQ4.out.below hb.1) x)
        have HK : Hid (∀ W, Below X.heap.size X W → Below X.heap.size X W ∧ W.cell? ⟨w.heap.size, 0, none⟩ = some (.slice A2 q2.length c2)) := Lib.hid (fun W hW => ⟨hW, (HX4.out.under hW).c0⟩)
        clear hq0 hqf hgx hgf
        generalize findE es q2 x = L at CF CG
        go_region_held3 (fun W => Below X.heap.size X W ∧ W.cell? ⟨w.heap.size, 0, none⟩ = some (.slice A2 q2.length c2)) (first | exact HK.out _ (below_drawn (Below.refl _ _)) | exact HK.out _ (bthen (And.left (by assumption : Below X.heap.size X _ ∧ _)) (by assumption))) (first
          | (go_at_call 28; refine (cIntsEq H10.out H11.out).mono ?_; rintro r w12 ⟨rfl, hb⟩)
          | (go_at_call 35; refine (CG.out _ _ (by assumption)).mono ?_; rintro r w11 ⟨A11, c11, rfl, h11, hb⟩; have H11 := Lib.hid h11.any; have H10 := Lib.hid (H10'.out.below hb); clear h11)
          | (go_at_call 31; refine (CF.out _ _ (by assumption)).mono ?_; rintro r w10 ⟨A10, c10, rfl, h10, hb⟩; have H10' := Lib.hid h10.any; clear h10))
        all_goals go_wp2_with fail
        all_goals go_ret
        all_goals exact ⟨rfl, bthen HB4.out (And.left (by assumption : Below X.heap.size X _ ∧ _))⟩
end Go.Proofs.Yteahpkihkfkpfaa
