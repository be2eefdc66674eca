/- registrarlaw14.alike (walk): the index answers as the reference. IndexPlays: the law's walk. The closed facts that every row of this seat leans on, each proved for itself: the order's text is long, so it is read once as a list of signs. The row of the law IndexPlays, over its walk: for every input the call returns true and each argument reads afterwards as it read before. No conditions. -/
import Derived.Test.YtfoghahidofegaaGreatBundT
import Derived.Test.YtfoghahidofegaaGreatBundI
import Derived.Test.YtfoghahidofegaaGreatBundR
import Derived.Deep.CutBlock
import Derived.Test.YtfoghahidofegaaGreatRows
import Derived.JoinedOf
import Derived.KernelRfl
import Derived.Test.YtfoghahidofegaaGreatBundA
import Derived.WalkKit
import Derived.ProofKit
import Derived.OpenShut
import Derived.ShutString
import Derived.ChangeOld
import Derived.Below
import Derived.SizedLaws
set_option linter.unusedVariables false
set_option linter.unusedSimpArgs false
namespace Go.Proofs.YtfoghahidofegaaGreat
open Go.RowKit Go.Maps

set_option maxHeartbeats 8000000 in
set_option maxRecDepth 100000 in
theorem alike14_any {w : World} {B : Six} {y : Nat} {A : Option Addr} {c : Nat} {es : List Event} {X Y : Nat → Prop} (hi : Ix w B es X) (hr : Rx w y A c (recsOf es) Y) (hl : es.length ≤ 900) {s : ByteArray} (hs : s.size ≤ maxLen) {q : List Clause} {Q : Option Addr} {cq : Nat} (hq : SlC w Q cq q) (hg : ∀ c ∈ q, goodClause c) (a : Int) :
    Calls Tryz.prog 19 #[.pointer (some ⟨B.b, 0, none⟩), .pointer (some ⟨y, 0, none⟩), .agg #[.string s, .slice Q q.length cq, .int .i64 a]] w fun r w' => r = .returned (.bool true) ∧ Below w.heap.size w w' := by
  obtain ⟨W1, hW1⟩ : ∃ W1, W1 = w.alloc (.cells #[.string s, .slice Q q.length cq, .int .i64 a] 27) := ⟨_, rfl⟩
  have HW1 := Lib.hid hW1
  have hb1 : Below w.heap.size w W1 := by rw [hW1]; exact (Below.refl _ _).alloc (Nat.le_refl _) _
  have hx1 : Bx W1 w.heap.size 27 [.string s, .slice Q q.length cq, .int .i64 a] := by rw [hW1]; exact Bx.new w _ _
  have HB1 := Lib.hid hb1
  have HX1 := Lib.hid hx1
  have HI := Lib.hid (hi.below hb1)
  have HR := Lib.hid (hr.below hb1)
  have HL := Lib.hid hl
  have HS := Lib.hid hs
  have HGQ := Lib.hid (fewM_good hg)
  have CL := Lib.hid (less14_any (fun _ => True) (hq.below hb1))
  have c1 := hx1.cell 1
  simp only [List.getElem?_cons_succ, List.getElem?_cons_zero] at c1
  clear hi hr hl hs hq hg hb1 hx1
  go_enter Tryz.func19, Tryz.ntmps19
  go_upto_region 1 with fail
  rw [← HW1.out]
  clear hW1 HW1
  go_upto_region 2 with (go_at_call 61; go_fit CL.out; rintro r w2 ⟨Q2, cq2, rfl, h2, hb2⟩; have H2 := Lib.hid h2; have HB2 := Lib.hid hb2; clear h2 hb2)
  obtain ⟨W3, hW3⟩ : ∃ W3, W3 = w2.alloc (.cells #[.slice Q2 (fewM q).length cq2] 25) := ⟨_, rfl⟩
  rw [← hW3]
  have hb3 : Below W1.heap.size W1 W3 := by rw [hW3]; exact bthen HB2.out ((Below.refl _ _).alloc (Nat.le_refl _) _)
  have hxg : Bx W3 w2.heap.size 25 [.slice Q2 (fewM q).length cq2] := by rw [hW3]; exact Bx.new w2 _ _
  have hq3 : SlC W3 Q2 cq2 (fewM q) := by rw [hW3]; exact (H2.out.any).alloc _
  have HQ3 := Lib.hid hq3
  have HXG := Lib.hid hxg
  have HX3 := Lib.hid (HX1.out.under hb3)
  have HI3 := Lib.hid (HI.out.below hb3)
  have HR3 := Lib.hid (HR.out.below hb3)
  have HB3 := Lib.hid (bthen HB1.out hb3)
  clear hW3 hb3 hxg hq3 H2 HB2 CL c1 HI HR HX1 HB1
  generalize w2.heap.size = g at *
  generalize fewM q = qs at *
  obtain ⟨m, hm⟩ : ∃ m, qs.length = m := ⟨_, rfl⟩
  rw [hm] at HXG
  have HK := Lib.hid (fun W (hb : Below W3.heap.size W3 W) => show Below W3.heap.size W3 W ∧ W.cell? ⟨w.heap.size, 0, none⟩ = some (.string s) ∧ W.cell? ⟨w.heap.size, 2, none⟩ = some (.int .i64 a) ∧ W.cell? ⟨g, 0, none⟩ = some (.slice Q2 m cq2) ∧ W.cell? ⟨y, 0, none⟩ = some (.slice A es.length c) from
    ⟨hb, (HX3.out.under hb).cell 0, (HX3.out.under hb).cell 2, (HXG.out.under hb).cell 0, by have := (HR3.out.bx.under hb).cell 0; rw [recsOf_len] at this; exact this⟩)
  have hyl := HR3.out.bx.lt
  have hln : es.length ≤ 100000 := by have := HL.out; omega
  have HLN := Lib.hid (show (recsOf es).length ≤ 100000 by rw [recsOf_len]; exact hln)
  obtain ⟨N1, hN1⟩ : ∃ N1, (allR es a).length = N1 := ⟨_, rfl⟩
  obtain ⟨N2, hN2⟩ : ∃ N2, (strmR es s a).length = N2 := ⟨_, rfl⟩
  obtain ⟨N3, hN3⟩ : ∃ N3, (qryR es qs a).length = N3 := ⟨_, rfl⟩
  have IA := Lib.hid (fun W (R : Prop) (hW : Below W3.heap.size W3 W ∧ R) => show Calls Tryz.prog 62 #[.pointer (some ⟨B.b, 0, none⟩), .int .i64 a] W fun r w' => ∃ P p, r = .returned (.slice P N1 p) ∧ SlR w' P p (allR es a) ∧ Below W.heap.size W w' from
    (iAll (HI3.out.below hW.1) a).mono (fun r w' ⟨P, p, e, h, hb⟩ => ⟨P, p, by rw [← hN1]; exact e, h.any, hb⟩))
  have RA := Lib.hid (fun W (R : Prop) (hW : Below W3.heap.size W3 W ∧ R) => show Calls Tryz.prog 63 #[.pointer (some ⟨y, 0, none⟩), .int .i64 a] W fun r w' => ∃ P p, r = .returned (.slice P N1 p) ∧ SlR w' P p (allR es a) ∧ Below W.heap.size W w' from
    (ref14All_any (HR3.out.below hW.1) HLN.out a).mono (fun r w' ⟨P, p, e, h, hb⟩ => ⟨P, p, by rw [← hN1]; exact e, h, hb⟩))
  have IS := Lib.hid (fun W (R : Prop) (hW : Below W3.heap.size W3 W ∧ R) => show Calls Tryz.prog 64 #[.pointer (some ⟨B.b, 0, none⟩), .string s, .int .i64 a] W fun r w' => ∃ P p, r = .returned (.slice P N2 p) ∧ SlR w' P p (strmR es s a) ∧ Below W.heap.size W w' from
    (iStream (HI3.out.below hW.1) HS.out a).mono (fun r w' ⟨P, p, e, h, hb⟩ => ⟨P, p, by rw [← hN2]; exact e, h.any, hb⟩))
  have RS := Lib.hid (fun W (R : Prop) (hW : Below W3.heap.size W3 W ∧ R) => show Calls Tryz.prog 43 #[.pointer (some ⟨y, 0, none⟩), .string s, .int .i64 a] W fun r w' => ∃ P p, r = .returned (.slice P N2 p) ∧ SlR w' P p (strmR es s a) ∧ Below W.heap.size W w' from
    (ref14Stream_any (HR3.out.below hW.1) HLN.out s a).mono (fun r w' ⟨P, p, e, h, hb⟩ => ⟨P, p, by rw [← hN2]; exact e, h, hb⟩))
  have IQ := Lib.hid (fun W (R : Prop) (hW : Below W3.heap.size W3 W ∧ R) => show Calls Tryz.prog 65 #[.pointer (some ⟨B.b, 0, none⟩), .agg #[.slice Q2 m cq2], .int .i64 a] W fun r w' => ∃ P p, r = .returned (.slice P N3 p) ∧ SlR w' P p (qryR es qs a) ∧ Below W.heap.size W w' from by
    have := iQuery (HI3.out.below hW.1) (HQ3.out.below hW.1) HGQ.out a
    rw [hm] at this
    exact this.mono (fun r w' ⟨P, p, e, h, hb⟩ => ⟨P, p, by rw [← hN3]; exact e, h.any, hb⟩))
  have RQ := Lib.hid (fun W (R : Prop) (hW : Below W3.heap.size W3 W ∧ R) => show Calls Tryz.prog 44 #[.pointer (some ⟨y, 0, none⟩), .agg #[.slice Q2 m cq2], .int .i64 a] W fun r w' => ∃ P p, r = .returned (.slice P N3 p) ∧ SlR w' P p (qryR es qs a) ∧ Below W.heap.size W w' from by
    have := ref14Query_any (HR3.out.below hW.1) HLN.out (HQ3.out.below hW.1) a
    rw [hm] at this
    exact this.mono (fun r w' ⟨P, p, e, h, hb⟩ => ⟨P, p, by rw [← hN3]; exact e, h, hb⟩))
  have DM := Lib.hid (fun W (rs : List Rec) (N : Nat) (P P' : Option Addr) (p p' : Nat) (hN : rs.length = N) (h1 : SlR W P p rs) (h2 : SlR W P' p' rs) => show Calls Tryz.prog 18 #[.slice P N p, .slice P' N p'] W fun r w' => r = .returned (.bool true) ∧ Below W.heap.size W w' from by
    have := ref14Same_any h1 h2
    rw [hN, sameRs_refl] at this
    exact this)
  have CV := Lib.hid (fun W (R : Prop) (hW : Below W3.heap.size W3 W ∧ R) => show Calls Tryz.prog 37 #[.pointer (some ⟨B.b, 0, none⟩), .string s, .int .i64 a] W fun r w' => r = .returned (.int .i64 N2) ∧ W = w' from by
    have := iVersion (HI3.out.below hW.1) HS.out a
    unfold verR at this
    rw [hN2] at this
    exact this)
  have CT := Lib.hid (fun W (R : Prop) (hW : Below W3.heap.size W3 W ∧ R) => show Calls Tryz.prog 15 #[.pointer (some ⟨B.b, 0, none⟩)] W fun r w' => r = .returned (.int .i64 es.length) ∧ W = w' from iLast (HI3.out.below hW.1))
  obtain ⟨sn, hsn⟩ : ∃ sn, sinceR es qs a = sn := ⟨_, rfl⟩
  have IZ := Lib.hid (fun W (R : Prop) (hW : Below W3.heap.size W3 W ∧ R) => show Calls Tryz.prog 66 #[.pointer (some ⟨B.b, 0, none⟩), .agg #[.slice Q2 m cq2], .int .i64 a] W fun r w' => r = .returned (.bool sn) ∧ Below W.heap.size W w' from by
    have := iSince (HI3.out.below hW.1) (HQ3.out.below hW.1) HGQ.out a
    rw [hm, hsn] at this
    exact this)
  have RZ := Lib.hid (fun W (R : Prop) (hW : Below W3.heap.size W3 W ∧ R) => show Calls Tryz.prog 67 #[.pointer (some ⟨y, 0, none⟩), .agg #[.slice Q2 m cq2], .int .i64 a] W fun r w' => r = .returned (.bool sn) ∧ Below W.heap.size W w' from by
    have := ref14Since_any (HR3.out.below hW.1) hln (HQ3.out.below hW.1) a
    rw [hm, hsn] at this
    exact this)
  have HN1 := Lib.hid hN1
  have HN2 := Lib.hid hN2
  have HN3 := Lib.hid hN3
  clear hN1 hN2 hN3 hsn hm hln
  have hc2 := HR3.out.sl.2.1
  have hc1 := HR3.out.sl.1
  rw [recsOf_len] at hc1
  unfold maxLen at hc2
  go_cut [8] (fun v wx => v = .bool true ∧ Below W3.heap.size W3 wx)
  case first =>
    go_region_held3 (fun W => Below W3.heap.size W3 W ∧ W.cell? ⟨w.heap.size, 0, none⟩ = some (.string s) ∧ W.cell? ⟨w.heap.size, 2, none⟩ = some (.int .i64 a) ∧ W.cell? ⟨g, 0, none⟩ = some (.slice Q2 m cq2) ∧ W.cell? ⟨y, 0, none⟩ = some (.slice A es.length c)) (first | exact HK.out _ (below_drawn (Below.refl _ _)) | (assumption) | exact HK.out _ (bthen (And.left (by assumption : Below W3.heap.size W3 _ ∧ _)) (by assumption)))
      (first
        | (go_at_call 18; go_fit (DM.out _ _ _ _ _ _ _ HN1.out HP2.out HR2.out); rintro r w9 ⟨rfl, hb9⟩; have HB9 := Lib.hid hb9)
        | (go_at_call 62; go_fit (IA.out _ _ (by assumption)); rintro r w8 ⟨P8, c8, rfl, hr8, hb8⟩; have HR2 := Lib.hid (HR1.out.below hb8); have HP2 := Lib.hid hr8; clear hr8)
        | (go_at_call 63; go_fit (RA.out _ _ (by assumption)); rintro r w8 ⟨P8, c8, rfl, hr8, hb8⟩; have HP2 := Lib.hid (HP1.out.below hb8); have HR2 := Lib.hid hr8; clear hr8)
        | (go_at_call 62; go_fit (IA.out _ _ (by assumption)); rintro r w7 ⟨P7, c7, rfl, hr7, hb7⟩; have HP1 := Lib.hid hr7; clear hr7)
        | (go_at_call 63; go_fit (RA.out _ _ (by assumption)); rintro r w7 ⟨P7, c7, rfl, hr7, hb7⟩; have HR1 := Lib.hid hr7; clear hr7))
    all_goals go_wp2_with fail
    all_goals go_meet
    all_goals exact ⟨rfl, And.left (by assumption : Below W3.heap.size W3 w9 ∧ _)⟩
  case rest =>
  obtain ⟨rfl, hbz⟩ := hcut
  obtain ⟨Z, hZ⟩ : ∃ Z, Z = wc := ⟨_, rfl⟩
  subst hZ
  have HKZ := HK
  have HK := Lib.hid (fun W (hb : Below Z.heap.size Z W) => HKZ.out W (bthen hbz hb))
  have HBZ := Lib.hid hbz
  clear hbz
  go_upto_region 3 with fail
  go_cut [9] (fun v wx => v = .bool true ∧ Below W3.heap.size W3 wx)
  case first =>
    go_region_held3 (fun W => Below W3.heap.size W3 W ∧ W.cell? ⟨w.heap.size, 0, none⟩ = some (.string s) ∧ W.cell? ⟨w.heap.size, 2, none⟩ = some (.int .i64 a) ∧ W.cell? ⟨g, 0, none⟩ = some (.slice Q2 m cq2) ∧ W.cell? ⟨y, 0, none⟩ = some (.slice A es.length c)) (first | exact HK.out _ (below_drawn (Below.refl _ _)) | (assumption) | exact HKZ.out _ (bthen (And.left (by assumption : Below W3.heap.size W3 _ ∧ _)) (by assumption)))
      (first
        | (go_at_call 18; go_fit (DM.out _ _ _ _ _ _ _ HN2.out HP2.out HR2.out); rintro r w9 ⟨rfl, hb9⟩; have HB9 := Lib.hid hb9)
        | (go_at_call 64; go_fit (IS.out _ _ (by assumption)); rintro r w8 ⟨P8, c8, rfl, hr8, hb8⟩; have HR2 := Lib.hid (HR1.out.below hb8); have HP2 := Lib.hid hr8; clear hr8)
        | (go_at_call 43; go_fit (RS.out _ _ (by assumption)); rintro r w8 ⟨P8, c8, rfl, hr8, hb8⟩; have HP2 := Lib.hid (HP1.out.below hb8); have HR2 := Lib.hid hr8; clear hr8)
        | (go_at_call 64; go_fit (IS.out _ _ (by assumption)); rintro r w7 ⟨P7, c7, rfl, hr7, hb7⟩; have HP1 := Lib.hid hr7; clear hr7)
        | (go_at_call 43; go_fit (RS.out _ _ (by assumption)); rintro r w7 ⟨P7, c7, rfl, hr7, hb7⟩; have HR1 := Lib.hid hr7; clear hr7))
    all_goals go_wp2_with fail
    all_goals go_meet
    all_goals exact ⟨rfl, And.left (by assumption : Below W3.heap.size W3 w9 ∧ _)⟩
  case rest =>
  obtain ⟨rfl, hbz⟩ := hcut
  obtain ⟨Z2, hZ⟩ : ∃ Z, Z = wc := ⟨_, rfl⟩
  subst hZ
  have HK := Lib.hid (fun W (hb : Below Z2.heap.size Z2 W) => HKZ.out W (bthen hbz hb))
  have HBZ := Lib.hid hbz
  clear hbz
  go_upto_region 4 with fail
  go_cut [10] (fun v wx => v = .bool true ∧ Below W3.heap.size W3 wx)
  case first =>
    go_region_held3 (fun W => Below W3.heap.size W3 W ∧ W.cell? ⟨w.heap.size, 0, none⟩ = some (.string s) ∧ W.cell? ⟨w.heap.size, 2, none⟩ = some (.int .i64 a) ∧ W.cell? ⟨g, 0, none⟩ = some (.slice Q2 m cq2) ∧ W.cell? ⟨y, 0, none⟩ = some (.slice A es.length c)) (first | exact HK.out _ (below_drawn (Below.refl _ _)) | (assumption) | exact HKZ.out _ (bthen (And.left (by assumption : Below W3.heap.size W3 _ ∧ _)) (by assumption)))
      (first
        | (go_at_call 18; go_fit (DM.out _ _ _ _ _ _ _ HN3.out HP2.out HR2.out); rintro r w9 ⟨rfl, hb9⟩; have HB9 := Lib.hid hb9)
        | (go_at_call 65; go_fit (IQ.out _ _ (by assumption)); rintro r w8 ⟨P8, c8, rfl, hr8, hb8⟩; have HR2 := Lib.hid (HR1.out.below hb8); have HP2 := Lib.hid hr8; clear hr8)
        | (go_at_call 44; go_fit (RQ.out _ _ (by assumption)); rintro r w8 ⟨P8, c8, rfl, hr8, hb8⟩; have HP2 := Lib.hid (HP1.out.below hb8); have HR2 := Lib.hid hr8; clear hr8)
        | (go_at_call 65; go_fit (IQ.out _ _ (by assumption)); rintro r w7 ⟨P7, c7, rfl, hr7, hb7⟩; have HP1 := Lib.hid hr7; clear hr7)
        | (go_at_call 44; go_fit (RQ.out _ _ (by assumption)); rintro r w7 ⟨P7, c7, rfl, hr7, hb7⟩; have HR1 := Lib.hid hr7; clear hr7))
    all_goals go_wp2_with fail
    all_goals go_meet
    all_goals exact ⟨rfl, And.left (by assumption : Below W3.heap.size W3 w9 ∧ _)⟩
  case rest =>
  obtain ⟨rfl, hbz⟩ := hcut
  obtain ⟨Z3, hZ⟩ : ∃ Z, Z = wc := ⟨_, rfl⟩
  subst hZ
  have HK := Lib.hid (fun W (hb : Below Z3.heap.size Z3 W) => HKZ.out W (bthen hbz hb))
  have HBZ := Lib.hid hbz
  clear hbz
  have i0 : (0 : Int) ≤ (es.length : Int) := Int.natCast_nonneg _
  go_upto_region 5 with fail
  go_cut [6] (fun v wx => v = .bool true ∧ Below W3.heap.size W3 wx)
  case first =>
    cases sn
    all_goals go_region_held3 (fun W => Below W3.heap.size W3 W ∧ W.cell? ⟨w.heap.size, 0, none⟩ = some (.string s) ∧ W.cell? ⟨w.heap.size, 2, none⟩ = some (.int .i64 a) ∧ W.cell? ⟨g, 0, none⟩ = some (.slice Q2 m cq2) ∧ W.cell? ⟨y, 0, none⟩ = some (.slice A es.length c)) (first | exact HK.out _ (below_drawn (Below.refl _ _)) | (assumption) | exact HKZ.out _ (bthen (And.left (by assumption : Below W3.heap.size W3 _ ∧ _)) (by assumption)))
      (first
        | (go_at_call 15; go_fit (CT.out _ _ (by assumption)); rintro r w4 ⟨rfl, rfl⟩)
        | (go_at_call 37; go_fit (CV.out _ _ (by assumption)); rintro r w4 ⟨rfl, rfl⟩)
        | (go_at_call 43; go_fit (RS.out _ _ (by assumption)); rintro r w7 ⟨P7, c7, rfl, hr7, hb7⟩; clear hr7)
        | (go_at_call 66; go_fit (IZ.out _ _ (by assumption)); rintro r w9 ⟨rfl, hb9⟩)
        | (go_at_call 67; go_fit (RZ.out _ _ (by assumption)); rintro r w9 ⟨rfl, hb9⟩))
    all_goals go_wp2_with fail
    all_goals go_meet
    all_goals exact ⟨rfl, And.left (by assumption)⟩
  case rest =>
  obtain ⟨rfl, hbz⟩ := hcut
  have HBZ := Lib.hid (bthen HB3.out hbz)
  clear hbz
  go_wp2_with fail
  go_ret
  exact ⟨rfl, HBZ.out⟩
end Go.Proofs.YtfoghahidofegaaGreat

namespace Go.Proofs.YtfoghahidofegaaGreat
open Go.RowKit Go.Maps

set_option maxHeartbeats 8000000 in
set_option maxRecDepth 100000 in
theorem indexPlays_walk (w : World) (A : Option Addr) (c : Nat) (l : List Bt) (h : Sl kBatch (fun _ => True) w A c l) (hg : ∀ x ∈ l, goodBatch x) (c1 : Array Value) (x : Ak) (hx : kAsk.K (fun _ => True) w x c1.toList) (gx : goodAsk x) :
    Calls Tryz.prog 3 #[.slice A l.length c, .agg c1] w fun r w' => r = .returned (.bool true) ∧ Below w.heap.size w w' := by
  have HL0 := Lib.hid (show Sl kBatch (fun k => k < w.heap.size) w A c l from h.bound.mono (fun _ h => h.2))
  have HG := Lib.hid hg
  have hc1 := h.1
  have hc2 := h.2.1
  unfold maxLen at hc2
  obtain ⟨Q, cq, rfl, hq⟩ := ask_in hx
  obtain ⟨s, q, a⟩ := x
  obtain ⟨gs, gq, ga⟩ := gx
  simp only at hq gs gq ga ⊢
  have HGQ := Lib.hid gq
  have HS := Lib.hid (show s.size ≤ maxLen from gs)
  obtain ⟨W1, hW1⟩ : ∃ W1, W1 = w.alloc (.cells #[.string s, .slice Q q.length cq, .int .i64 a] 27) := ⟨_, rfl⟩
  have HW1 := Lib.hid hW1
  have hb1 : Below w.heap.size w W1 := by rw [hW1]; exact (Below.refl _ _).alloc (Nat.le_refl _) _
  have hx1 : Bx W1 w.heap.size 27 [.string s, .slice Q q.length cq, .int .i64 a] := by rw [hW1]; exact Bx.new w _ _
  have HB1 := Lib.hid hb1
  have HX1 := Lib.hid hx1
  have HQ := Lib.hid (show Sl kClause (fun _ => True) w Q cq q from hq.any)
  have hgl := hx1.lt
  have C1 := Lib.hid (shown14_any W1)
  clear h hg hx hq gs gq ga hb1 hx1
  go_enter Tryz.func3, Tryz.ntmps3
  go_upto_region 1 with fail
  rw [← HW1.out]
  clear hW1 HW1
  go_upto_region 3 with (first
    | (go_at_call 12; go_fit C2.out; rintro r w2 ⟨B, rfl, h2, hb2⟩; have H2 := Lib.hid h2; have HB2 := Lib.hid (bthen HBS.out hb2); have HBL := Lib.hid hb2; clear h2 hb2)
    | (go_at_call 11; go_fit C1.out; rintro r w1 ⟨rfl, hb1⟩; have HBS := Lib.hid hb1; have C2 := Lib.hid (lNew W1 (wr := w1) hb1.size); clear hb1))
  have HBA := Lib.hid (show Below w2.heap.size w2 (w2.alloc (.cells #[.slice none 0 0] 34)) from (Below.refl _ _).alloc (Nat.le_refl _) _)
  have HF0 := Lib.hid (show F2 W1 (w2.alloc (.cells #[.slice none 0 0] 34)) B w2.heap.size [] noZ from by
    have hs := HB2.out.size
    have hlt := fun k (hk : B.has k) => H2.out.ix.lt k hk
    refine ⟨H2.out.ix.fence HBA.out (fun k hk => ?_), ⟨none, 0, Bx.new w2 _ _, Sl.nil_, fun hk => ?_, fun k hk => ?_⟩, H2.out.lo, hs, bthen HB2.out HBA.out, fun k hk => hk.elim⟩
    · rcases hk with hk | hk | hk
      · exact .inl hk
      · exact .inr ⟨by omega, by subst hk; simp⟩
      · exact hk.elim
    · exact hk.elim (fun hk => by have := hlt _ hk; omega) id
    · rcases hk with hk | hk
      · have := hlt k hk; simp; omega
      · exact hk.elim)
  go_upto_region 6 with fail
  have hyw : W1.heap.size ≤ w2.heap.size := HB2.out.size
  clear HBA H2 HB2 HBL HBS C1 C2
  generalize w2.alloc (.cells #[.slice none 0 0] 34) = w3 at HF0 ⊢
  generalize w2.heap.size = y at HF0 hyw ⊢
  go_wp2_with fail
  go_loopw [6, 8] (fun pv i wr => ∃ (k : Nat) (B : Six) (es : List Event), k ≤ l.length ∧ k ≤ 25 ∧ i = .int .i64 k ∧ pv = .pointer (some ⟨B.b, 0, none⟩) ∧ es.length ≤ 8 * k ∧ F2 W1 wr B y es noZ) (fun _ i _ => l.length - (intOf i).toNat)
  case atStart => exact ⟨0, B, [], Nat.zero_le _, Nat.zero_le _, rfl, rfl, Nat.le_refl _, HF0.out⟩
  case round =>
    clear HF0
    obtain ⟨k, B, es, hk, hk25, rfl, rfl, hes, hf⟩ := hrel
    by_cases hlt : k < l.length ∧ k < 25
    · obtain ⟨hlt, h25⟩ := hlt
      have i1 : (0 : Int) ≤ (k : Int) := Int.natCast_nonneg _
      have i2 : (k : Int) < (l.length : Int) := by omega
      have HF := Lib.hid hf
      clear hf
      go_upto_if 38 with fail
      go_cut [6, 9] (fun pv _ wx => ∃ B2 : Six, pv = .pointer (some ⟨B2.b, 0, none⟩) ∧ F2 W1 wx B2 y es noZ)
      case first =>
        by_cases hk5 : (k : Int) % 5 = 4
        · have d5 : ((k : Int) % 5 == 4) = true := by simp [hk5]
          have C3 := Lib.hid (iClone HF.out.ix)
          clear hk5
          go_wp2_with (first
            | (go_at_call 14; go_fit CA.out; rintro r w5 ⟨⟨v5, rfl⟩, h5⟩; have HF5 := Lib.hid h5; clear h5)
            | (go_at_call 15; go_fit CT.out; rintro r w4 ⟨rfl, rfl⟩)
            | (go_at_call 13; go_fit C3.out; rintro r w4 ⟨B2, rfl, h41, h42, hb4, hn4⟩; have CT := Lib.hid (iLast h42); have CA : Hid (Calls Tryz.prog 14 #[.pointer (some ⟨B.b, 0, none⟩), .agg #[.int .i64 es.length, .slice (some ⟨w4.heap.size, 0, none⟩) 1 1]] (w4.alloc (.cells #[.string ⟨#[122]⟩, .string ⟨#[122]⟩, .slice none 0 0, .slice none 0 0] 42)) fun r w' => (∃ v, r = .returned v) ∧ F2 W1 w' B2 y es noZ) := Lib.hid (by { have hA : Below w4.heap.size w4 (w4.alloc (.cells #[.string ⟨#[122]⟩, .string ⟨#[122]⟩, .slice none 0 0, .slice none 0 0] 42)) := (Below.refl _ _).alloc (Nat.le_refl _) _; have hS := Sl.one (d := kEvent) (ok := fun _ => False) (w := w4) (y := zzB) (cs := [.string sbZ', .string sbZ', .slice none 0 0, .slice none 0 0]) 42 (evOf_K sbZ' sbZ' _ _) w4.heap.size rfl; refine (iAdd_any (bs := [zzB]) (after := es.length) (h42.below hA) (hS.mono (fun j hj hB => hj.elim id (fun hj => by have := h42.lt j hB; omega))) (fun x hx => by rw [List.mem_singleton.1 hx]; exact zzB_in) (by simp; omega)).mono ?_; rintro r w' ⟨A', c', e, _, _, hbut⟩; exact ⟨⟨_, e⟩, HF.out.turn (bthen hb4 hA) (h41.below hA) (fun j hj => ⟨(hn4 j hj).1, Nat.lt_of_lt_of_le (hn4 j hj).2 hA.size⟩) hbut⟩ }); clear h41 h42 hb4 hn4))
          go_meet
          case rel => exact ⟨_, rfl, HF5.out⟩
        · have d5 : ((k : Int) % 5 == 4) = false := by simp [hk5]
          clear hk5
          go_wp2_with fail
          go_meet
          case rel => exact ⟨_, rfl, HF.out⟩
      case rest =>
        clear HF
        obtain ⟨B2, rfl, hf⟩ := hcut
        have hrows : Sl kBatch (fun k => k < w.heap.size) wc A c l := (HL0.out.below HB1.out).stay hf.bel.size (fun j hj hl => hf.bel.block j hl)
        obtain ⟨ad, Q', cq', rfl, x0, x1, hQ'⟩ := row_batch_at hrows.2.2 hlt
        have hin := few8_in (HG.out _ (List.getElem_mem hlt)).2
        have HF := Lib.hid hf
        obtain ⟨ad2, hX0⟩ : ∃ z, z = l[k] := ⟨_, rfl⟩
        have HX0 := Lib.hid (fun W (hW : Below wc.heap.size wc W) => show W.cell? (ad.add (k * 2)) = some (.int .i64 (l[k]).1) from (hW.cell (World.block_lt_of_cell? wc _ x0)).trans x0)
        generalize l[k] = b at x0 x1 hQ' hin HX0 hX0
        have HIN := Lib.hid hin
        have CF := Lib.hid (few14_any (a := b.1) (fun j => j < w.heap.size) hQ')
        have f8 := few8_len b.2
        have hww := HB1.out.size
        have hwc := hf.bel.size
        clear hf hrows hQ' hin hX0 ad2
        go_upto_region 16 with (go_at_call 16; go_fit CF.out; rintro r w4 ⟨A4, c4, rfl, h4, hb4⟩; have H4 := Lib.hid h4; have HB4 := Lib.hid hb4; clear h4 hb4)
        have k0 := HX0.out _ (bthen HB4.out ((Below.refl _ _).alloc (Nat.le_refl _) (.cells #[.int .i64 b.1, .slice A4 (few8 b.2).length c4] 45)))
        obtain ⟨N, hN⟩ : ∃ N, (few8 b.2).length = N := ⟨_, rfl⟩
        have HNN := Lib.hid hN
        rw [hN] at f8
        obtain ⟨w5, hw5⟩ : ∃ w5, w5 = w4.alloc (.cells #[.int .i64 b.1, .slice A4 (few8 b.2).length c4] 45) := ⟨_, rfl⟩
        have hb5 : Below w4.heap.size w4 w5 := by rw [hw5]; exact (Below.refl _ _).alloc (Nat.le_refl _) _
        have hx5 : Bx w5 w4.heap.size 45 [.int .i64 b.1, .slice A4 (few8 b.2).length c4] := by rw [hw5]; exact Bx.new w4 _ _
        rw [← hw5] at k0 ⊢
        rw [HNN.out] at hx5
        have HB5 := Lib.hid hb5
        have HX5 := Lib.hid hx5
        have hs4 := HB4.out.size
        have hs5 := hx5.lt
        have HF4 := Lib.hid (HF.out.below (bthen HB4.out hb5))
        have x5 := hx5.free 0
        have g0 := hx5.cell 0
        have g1 := hx5.cell 1
        simp only [List.getElem?_cons_succ, List.getElem?_cons_zero] at g0 g1
        have HGO := Lib.hid (show ∀ j, B2.has j → j < wc.heap.size from fun j hj => HF.out.ix.lt j hj)
        have hyc : y < wc.heap.size := HF.out.rx.elim (fun _ h => h.elim (fun _ h => h.bx.lt))
        have HE := Lib.hid (show Sl kEvent (fun j => ¬ B2.has j ∧ j ≠ y) w4 A4 c4 (few8 b.2) from H4.out.mono (fun j hj => ⟨fun hB => hj.elim (fun h => by have := HF.out.lo j hB; omega) (fun h => by have := HGO.out j hB; omega), fun e => hj.elim (fun h => by omega) (fun h => by omega)⟩))
        have HGO4 := Lib.hid (show ∀ j, B2.has j → j < w4.heap.size from fun j hj => Nat.lt_of_lt_of_le (HGO.out j hj) hs4)
        have hy4 : y < w4.heap.size := by omega
        have HFW4 := Lib.hid (HF.out.below HB4.out)
        clear hw5 hb5 hx5 CF x0 x1 HX0
        go_upto_if 61 with fail
        go_cut [10] (fun pv wx => pv = .pointer (some ⟨w4.heap.size, 0, none⟩) ∧ ∃ af : Int, Bx wx w4.heap.size 45 [.int .i64 af, .slice A4 N c4] ∧ Below w4.heap.size w4 wx)
        case first =>
          by_cases h0 : (0 : Int) ≤ b.1
          · obtain ⟨A6, c6, hr6⟩ := HF4.out.rx
            have y0 := hr6.bx.cell 0
            rw [recsOf_len] at y0
            simp only [List.getElem?_cons_zero] at y0
            have HSB := Lib.hid (fun v => show Below w4.heap.size w4 (w5.setCell ⟨w4.heap.size, 0, none⟩ v) from HB5.out.setCell (Nat.le_refl _) v)
            have HSX := Lib.hid (fun v => HX5.out.set 0 v)
            clear hr6
            go_wp2_with fail
            go_meet
            case rel => exact ⟨rfl, _, HSX.out _, HSB.out _⟩
          · go_wp2_with fail
            go_meet
            case rel => exact ⟨rfl, _, HX5.out, HB5.out⟩
        case rest =>
          obtain ⟨rfl, af, hx6, hb6⟩ := hcut
          obtain ⟨w6, hw6⟩ : ∃ w6, w6 = wc := ⟨_, rfl⟩
          subst hw6
          have HX6 := Lib.hid hx6
          have HB6 := Lib.hid hb6
          have HF6 := Lib.hid (HFW4.out.below hb6)
          have g2 := hx6.cell 0
          have g3 := hx6.cell 1
          simp only [List.getElem?_cons_succ, List.getElem?_cons_zero] at g2 g3
          have HE6 := Lib.hid (HE.out.below hb6)
          have hle : es.length + (few8 b.2).length ≤ 880 := by rw [HNN.out]; omega
          obtain ⟨e, he⟩ : ∃ e, addErr es af (few8 b.2) = e := ⟨_, rfl⟩
          obtain ⟨rs, hrs⟩ : ∃ rs, addRs es af (few8 b.2) = rs := ⟨_, rfl⟩
          obtain ⟨es2, hes2⟩ : ∃ es2, addTo es af (few8 b.2) = es2 := ⟨_, rfl⟩
          have hle2 : es2.length ≤ 8 * (k + 1) := by have := addTo_len es af (few8 b.2); rw [hes2, HNN.out] at this; omega
          obtain ⟨M, hM⟩ : ∃ M, rs.length = M := ⟨_, rfl⟩
          have CA := Lib.hid (iAdd_any (after := af) HF6.out.ix (HE6.out.mono (fun j hj => hj.1)) HIN.out hle)
          have CB := Lib.hid (fun W (hb : But B2.has w6 W) => show Calls Tryz.prog 17 #[.pointer (some ⟨y, 0, none⟩), .agg #[.int .i64 af, .slice A4 N c4]] W fun r w' => ∃ (A' : Option Addr) (c' : Nat), r = .returned (.tuple #[.slice A' M c', .int .i64 e]) ∧ SlR w' A' c' rs ∧ (∃ A2 c2, Rx w' y A2 c2 (recsOf es2) (fun k => B2.has k ∨ noZ k)) ∧ But (fun k => k = y) W w' from by
            obtain ⟨A7, c7, hr7⟩ := HF6.out.addX hb
            have := rAdd_any (after := af) hr7 ((HE6.out.stay hb.size (fun j hj hl => hb.block j hl hj.1)).mono (fun j hj => ⟨hj.2, fun h => h.elim hj.1 id⟩)) HIN.out hle
            rw [he, hrs, hes2, hM, HNN.out] at this
            exact this)
          rw [he, hrs, hes2, hM, HNN.out] at CA
          have HM := Lib.hid hM
          have hgB : ¬ B2.has w4.heap.size := fun hB => by have := HGO4.out _ hB; omega
          clear hx6 hb6 he hrs hes2 hM hle
          go_wp2_with (first
            | (go_at_call 18; go_fit CS.out; rintro r w9 ⟨rfl, hb9⟩; have HF9 := Lib.hid (HF8.out.below hb9); clear hb9)
            | (go_at_call 17; go_fit (CB.out _ HB7.out); rintro r w8 ⟨A8, c8, rfl, h81, h82, hb8⟩; have HF8 := Lib.hid (HF6.out.addI HI7.out HB7.out h82 hb8); have CS : Hid (Calls Tryz.prog 18 #[.slice A7 M c7, .slice A8 M c8] w8 fun r w' => r = .returned (.bool true) ∧ Below w8.heap.size w8 w') := Lib.hid (by { have h := ref14Same_any (HR7.out.stay hb8.size (fun j hj hl => hb8.block j hl (fun e => by have : y < w6.heap.size := (HF6.out.rx.elim (fun _ h => h.elim (fun _ h => h.bx.lt))); omega))).any h81; rw [sameRs_refl, HM.out] at h; exact h }); clear h81 h82 hb8)
            | (go_at_call 14; go_fit CA.out; rintro r w7 ⟨A7, c7, rfl, h71, h72, hb7⟩; have HR7 := Lib.hid h71; have HI7 := Lib.hid h72; have HB7 := Lib.hid hb7; have hx7 := HX6.out.stay (w' := w7) (fun hk => hb7.block _ hk hgB); have g4 := hx7.cell 0; have g5 := hx7.cell 1; (simp only [List.getElem?_cons_succ, List.getElem?_cons_zero] at g4 g5); clear h71 h72 hb7 hx7))
          go_roundw
          case rel => exact ⟨k + 1, B2, es2, by omega, by omega, by go_num, rfl, hle2, HF9.out⟩
          case measure => simp [intOf]; omega
    · have HF := Lib.hid hf
      have CAL := Lib.hid (alike14_any HF.out.ix (HF.out.rx.choose_spec.choose_spec) (by omega) HS.out (HQ.out.below (bthen HB1.out HF.out.bel)) HGQ.out a)
      have hx := HX1.out.under HF.out.bel
      have k0 := hx.cell 0
      have k1 := hx.cell 1
      have k2 := hx.cell 2
      simp only [List.getElem?_cons_succ, List.getElem?_cons_zero] at k0 k1 k2
      have hstop : k < l.length → ¬ k < 25 := fun h h2 => hlt ⟨h, h2⟩
      have HBW := Lib.hid (bthen HB1.out hf.bel)
      clear hlt hx hf hes
      rcases Nat.lt_or_ge k l.length with hc | hc
      · have h10 := hstop hc
        clear hstop
        go_wp2_with (go_at_call 19; go_fit CAL.out; rintro r w9 ⟨rfl, hb9⟩; have HB9 := Lib.hid hb9; clear hb9)
        go_ret
        exact ⟨rfl, bthen HBW.out HB9.out⟩
      · clear hstop
        go_wp2_with (go_at_call 19; go_fit CAL.out; rintro r w9 ⟨rfl, hb9⟩; have HB9 := Lib.hid hb9; clear hb9)
        go_ret
        exact ⟨rfl, bthen HBW.out HB9.out⟩
end Go.Proofs.YtfoghahidofegaaGreat

namespace Go.Proofs.YtfoghahidofegaaGreat

set_option maxRecDepth 100000 in
def ordN : List Nat := [104, 97, 114, 110, 101, 115, 115, 32, 52, 51, 57, 99, 56, 54, 52, 48, 57, 53, 57, 98, 54, 102, 49, 100, 98, 52, 54, 57, 49, 55, 52, 101, 99, 98, 102, 48, 52, 98, 98, 55, 55, 51, 55, 102, 97, 97, 102, 100, 101, 56, 102, 54, 51, 52, 56, 50, 52, 101, 56, 97, 49, 101, 54, 49, 52, 53, 52, 50, 54, 55, 97, 101, 32, 99, 117, 116, 32, 97, 116, 32, 114, 101, 103, 105, 115, 116, 114, 97, 114, 47, 114, 101, 103, 105, 115, 116, 114, 97, 114, 108, 97, 119, 49, 52, 46, 73, 110, 100, 101, 120, 80, 108, 97, 121, 115, 32, 114, 101, 103, 105, 115, 116, 114, 97, 114, 47, 114, 101, 103, 105, 115, 116, 114, 97, 114, 108, 97, 119, 49, 56, 46, 71, 117, 97, 114, 100, 76, 105, 115, 116, 115, 32, 114, 101, 103, 105, 115, 116, 114, 97, 114, 47, 114, 101, 103, 105, 115, 116, 114, 97, 114, 108, 97, 119, 49, 57, 46, 83, 101, 115, 115, 105, 111, 110, 77, 97, 110, 121, 32, 114, 101, 103, 105, 115, 116, 114, 97, 114, 47, 114, 101, 103, 105, 115, 116, 114, 97, 114, 108, 97, 119, 49, 57, 46, 83, 101, 115, 115, 105, 111, 110, 70, 114, 101, 101, 32, 114, 101, 103, 105, 115, 116, 114, 97, 114, 47, 114, 101, 103, 105, 115, 116, 114, 97, 114, 108, 97, 119, 49, 57, 46, 83, 101, 115, 115, 105, 111, 110, 83, 101, 101, 115, 32, 114, 101, 103, 105, 115, 116, 114, 97, 114, 47, 114, 101, 103, 105, 115, 116, 114, 97, 114, 108, 97, 119, 49, 57, 46, 83, 101, 115, 115, 105, 111, 110, 65, 116, 32, 114, 101, 103, 105, 115, 116, 114, 97, 114, 47, 114, 101, 103, 105, 115, 116, 114, 97, 114, 108, 97, 119, 49, 57, 46, 83, 101, 115, 115, 105, 111, 110, 82, 101, 102, 117, 115, 101, 115, 32, 114, 101, 103, 105, 115, 116, 114, 97, 114, 47, 114, 101, 103, 105, 115, 116, 114, 97, 114, 108, 97, 119, 49, 57, 46, 83, 101, 115, 115, 105, 111, 110, 80, 108, 97, 121, 115]
def ordL : List Char := ordN.map Char.ofNat
theorem order_eq : Tryz.prog.initOrder = String.ofList ordL := by kernel_rfl
theorem signs_eq : Tryz.prog.initOrder.toList = ordL := by rw [order_eq, String.toList_ofList]
def ordRest : List (List Char) := (behindMainWord (wordsSigns ordL)).tail
theorem words_eq : behindMainWord (wordsSigns ordL) = "cut".toList :: ordRest := by kernel_rfl
theorem strip_cut (r : List (List Char)) : stripLifts liftWords ("cut".toList :: r) = ([], "cut".toList :: r) := by kernel_rfl
theorem mayEnter_of (P : Program) (rest : List (List Char)) (h : behindMainWord (wordsSigns P.initOrder.toList) = "cut".toList :: rest) (h1 : P.laysLater = false) (h2 : P.bearsReflect = false) (h3 : P.doorFits [] = true) : P.mayEnter = true := by
  unfold Program.mayEnter
  rw [h]
  dsimp only
  rw [strip_cut, h1, h2, h3]
  simp
theorem lifts_of (P : Program) (rest : List (List Char)) (h : behindMainWord (wordsSigns P.initOrder.toList) = "cut".toList :: rest) : P.liftsFinal = false := by
  unfold Program.liftsFinal Program.headLifts
  rw [h, strip_cut]
  simp
theorem make_of (P : Program) (rest : List (List Char)) (h : behindMainWord (wordsSigns P.initOrder.toList) = "cut".toList :: rest) : P.make = some .cut := by
  unfold Program.make
  rw [h]
  dsimp only
  rw [if_neg (by decide), if_pos (by simp)]
theorem door_of (P : Program) (h : P.doorRows = []) : P.doorFits [] = true := by
  unfold Program.doorFits
  rw [h]
  simp
theorem head_eq : behindMainWord (wordsSigns Tryz.prog.initOrder.toList) = "cut".toList :: ordRest := by rw [signs_eq]; exact words_eq
theorem h_later : Tryz.prog.laysLater = false := by kernel_rfl
theorem h_refl : Tryz.prog.bearsReflect = false := by kernel_rfl
theorem h_rows : Tryz.prog.doorRows = [] := by kernel_rfl
theorem mayEnter_eq : Tryz.prog.mayEnter = true := mayEnter_of _ _ head_eq h_later h_refl (door_of _ h_rows)
theorem lifts_eq : Tryz.prog.liftsFinal = false := lifts_of _ _ head_eq
theorem make_eq : Tryz.prog.make = some .cut := make_of _ _ head_eq
theorem laidOut_eq : laidOutB Tryz.prog = true := by kernel_rfl
theorem mapsRowed_eq : mapsRowed Tryz.prog = true := by kernel_rfl
theorem stops_eq : (Tryz.prog.stops == []) = true := by kernel_rfl
theorem stopKnobs_eq : (Tryz.prog.stopKnobs == []) = true := by kernel_rfl
theorem heard_eq : Tryz.prog.stopsHeard = true := by kernel_rfl
theorem own_eq : ownKnob Tryz.prog.godebug = none := by kernel_rfl

/-- The rows' one great closed fact, out of its parts. -/
theorem joined_of {P : Program} {f : FuncId} {fn : Func} {s : ChangeSpec} {c : OpenClaim}
    (k1 : c.wf (OpenSpec.ofChange s) = true) (k2 : laidOutB P = true) (k3 : mapsRowed P = true) (k4 : fn.params.all (P.readableRec ·) = true) (k5 : namedTie P c.named s.vars = true)
    (k6 : (c.stops == []) = true) (k7 : (P.stops == []) = true) (k8 : (c.knobs == []) = true) (k9 : (P.stopKnobs == []) = true)
    (k10 : (c.inPlace == P.inPlace f) = true) (k11 : (c.unfollowed == P.unfollowed f) = true) (k12 : (c.recurses == P.recurses f) = true) (k13 : (c.named == P.varsNamed f) = true)
    (k14 : (c.maps == (fn.params.toList ++ s.plain.varTypes P).any (P.mapsRec ·)) = true) (k15 : (c.ifaces == (fn.params.toList ++ s.plain.varTypes P).any (P.ifacesRec ·)) = true) (k16 : (c.mapsOut == P.mapsAmong fn.resultTypes.toList) = true)
    (k17 : (c.loops == (fn.params.toList ++ s.plain.varTypes P).any (P.loopsFrom ·)) = true) (k18 : (c.wideKeys == (fn.params.toList ++ s.plain.varTypes P ++ fn.resultTypes.toList).any (P.wideKeysFrom ·)) = true)
    (k19 : s.vars.all (P.varReadable ·) = true) (k20 : fn.resultTypes.all (fun t => P.readableRec t && decide (t < P.types.size)) = true) (k21 : (c.ifacesOut == fn.resultTypes.toList.any (P.ifacesRec ·)) = true) (k22 : (c.loopsOut == fn.resultTypes.toList.any (P.loopsFrom ·)) = true)
    (k23 : (c.plainKeys == P.plainKeys) = true) (k24 : c.shortTexts.isNone = true) (k25 : P.stopsHeard = true) (k26 : P.mayEnter = true) (k27 : (c.lifted == P.liftsFinal) = true) (k28 : (P.make == some c.make) = true)
    (k29 : c.kinds = [] ∧ c.domain = []) (k30 : (c.pinned == c.pinnedBy) = true)
    (k31 : (c.veiled == (fn.params.toList ++ s.plain.varTypes P ++ fn.resultTypes.toList).any (P.veiledRec ·)) = true) (k32 : c.veiledFits P fn.params.toList (fn.params.toList ++ s.plain.varTypes P ++ fn.resultTypes.toList) = true) :
    joinedFacts P f fn s c = true := by
  unfold joinedFacts
  rw [k1, k2, k3, k4, k5, k6, k7, k8, k9, k10, k11, k12, k13, k14, k15, k16, k17, k18, k19, k20, k21, k22, k23, k24, k25, k26, k27, k28, k29.1, k29.2, k30, k31, k32]
  rfl
end Go.Proofs.YtfoghahidofegaaGreat

namespace Go.Proofs.YtfoghahidofegaaGreat.indexPlays
open Go.ChangeShapes Go.WideShapes Go.ChangeAt Go.RowKit
open Go.ChangeMaps (open_string shut_string)
set_option maxRecDepth 100000 in
theorem lifted (os : Os) (started : os.Started) (H : Type) (enc : TypeId × Value → H) :
    ReturnsInHanded {} Tryz.checked os 3 .any (Rows.indexPlaysSpec.pre6 enc Tryz.prog Tryz.f3 Rows.indexPlaysRow.domain false) (Rows.indexPlaysSpec.post enc Tryz.prog Tryz.f3 false true false false) := by
  refine returnsInHanded_of_change_sized (C := Tryz.checked) own_eq started (by kernel_rfl) Tryz.func3
    (ChangeSpec.witness6 (enc := enc) (C := Tryz.checked) false ⟨#[], #[.slice none 0 0, .agg #[.string ByteArray.empty, .slice none 0 0, .int .i64 0]], []⟩ 8 (by kernel_rfl) (by kernel_rfl) (by kernel_rfl) (by kernel_rfl)) ?_
  intro W base args ds gs before hval0 hW hcnd hsz0 _
  have hval : ∀ (j : Nat) t v, Tryz.f3.params[j]? = some t → args[j]? = some v → Value.okWide Tryz.prog W .any base t v := hval0
  have hW' := hW
  obtain ⟨p, q, hA0, hV, rfl, hfz, hnd⟩ := hW
  have hA : DataW.TrodAll enc Tryz.prog W 0 (fun _ => true) true Tryz.f3.params.toList args.toList ds p := hA0
  rw [Tryz.params3] at hA hval
  obtain ⟨v0, vs0, d0, ds0, p0, q0, hargs, rfl, rfl, h0, r0⟩ := trodAll_cons hA
  obtain ⟨v1, vs1, d1, ds1, p1, q1, rfl, rfl, rfl, h1, r1⟩ := trodAll_cons r0
  obtain ⟨rfl, rfl, rfl⟩ := trodAll_nil r1
  obtain rfl : args = #[v0, v1] := by cases args; simp_all
  obtain ⟨rfl, rfl⟩ := trodVars_none hV
  have k0 := h0
  have lt0 : ∀ x ∈ p0, x.block < W.heap.size := by obtain ⟨m, hm⟩ := k0; exact DataW.trod_lt m _ _ _ hm
  obtain ⟨a0, len0, cap0, rfl⟩ := okWide_slice Tryz.underlying22 (hval 0 22 v0 rfl rfl)
  obtain ⟨x0, ⟨A0, c0, e0, l0, m0, w0⟩, g0⟩ := (opBatches).arg h0
  simp only [Value.cells, List.cons.injEq, Value.slice.injEq, and_true] at e0
  obtain ⟨rfl, rfl, rfl⟩ := e0
  have k1 := h1
  have lt1 : ∀ x ∈ p1, x.block < W.heap.size := by obtain ⟨m, hm⟩ := k1; exact DataW.trod_lt m _ _ _ hm
  obtain ⟨cs1, rfl, _⟩ := okWide_struct Tryz.underlying27 (hval 1 27 v1 rfl rfl)
  obtain ⟨x1, w1, g1⟩ := (opAsk).arg h1
  clear hA0 hval0
  refine (indexPlays_walk W _ _ x0 ⟨l0, m0, w0⟩ g0 cs1 x1 w1 g1).mono fun e W' ⟨he, bel⟩ => ?_
  subst he
  exact ⟨_, rfl, _, _, _, [], _, [], hW', trodAll_mk1 (shut_bool Tryz.underlying4 _), (trodAll_cons_mk (Below.trod laidOut_eq (by kernel_rfl) (of_decide_eq_true (by kernel_rfl)) k0 bel lt0) (trodAll_cons_mk (Below.trod laidOut_eq (by kernel_rfl) (of_decide_eq_true (by kernel_rfl)) k1 bel lt1) trodAll_mk0)), rfl, bel.frame _, fun h => by cases h⟩
theorem k10 : (Rows.indexPlaysRow.inPlace == Tryz.prog.inPlace 3) = true := by kernel_rfl
theorem k11 : (Rows.indexPlaysRow.unfollowed == Tryz.prog.unfollowed 3) = true := by kernel_rfl
theorem k12 : (Rows.indexPlaysRow.recurses == Tryz.prog.recurses 3) = true := by kernel_rfl
theorem k13 : (Rows.indexPlaysRow.named == Tryz.prog.varsNamed 3) = true := by kernel_rfl
theorem k23 : (Rows.indexPlaysRow.plainKeys == Tryz.prog.plainKeys) = true := by kernel_rfl
theorem kfn : Tryz.pinned.checked.prog.funcNamed Rows.indexPlaysRow.func = some 3 := by kernel_rfl
theorem closed : joinedFacts Tryz.prog 3 Tryz.f3 Rows.indexPlaysSpec Rows.indexPlaysRow = true :=
  joined_of (by kernel_rfl) laidOut_eq mapsRowed_eq (by kernel_rfl) (by kernel_rfl) rfl stops_eq rfl stopKnobs_eq k10 k11 k12 k13 (by kernel_rfl) (by kernel_rfl) (by kernel_rfl) (by kernel_rfl) (by kernel_rfl) (by kernel_rfl) (by kernel_rfl) (by kernel_rfl) (by kernel_rfl) k23 rfl heard_eq mayEnter_eq (by rw [lifts_eq]; rfl) (by rw [make_eq]; rfl) ⟨rfl, rfl⟩ (by kernel_rfl) (by kernel_rfl) (by kernel_rfl)
theorem over : Rows.indexPlaysRow.holds Tryz.pinned (OpenSpec.ofChange Rows.indexPlaysSpec) :=
  OpenClaim.holds_of_wide 3 Tryz.f3 rfl rfl rfl rfl rfl rfl rfl ⟨rfl, rfl, rfl, rfl, rfl⟩ rfl rfl rfl rfl rfl kfn Tryz.func3 closed
    (of_decide_eq_true (by kernel_rfl)) (by unfold Func.isWrapper; first | (rw [if_pos (by decide +kernel)]; kernel_rfl) | (rw [if_neg (by decide +kernel)]; exact ⟨rfl, rfl⟩))
    (fun os started H enc _ => lifted os started H enc)
theorem proved : Rows.IndexPlaysSaid := over
#print axioms proved
end Go.Proofs.YtfoghahidofegaaGreat.indexPlays
