/- IndexRefuses: the law's walk. The closed facts that every row of this seat leans on, each proved for itself: the order's text is long, so it is read once as a list of signs. The row of the law IndexRefuses, over its walk: for every input the call returns true and each argument reads afterwards as it read before. No conditions. -/
import Derived.Test.YtigejdnjdajbhaaBundJ
import Derived.Test.YtigejdnjdajbhaaBundR
import Derived.Deep.CutBlock
import Derived.Test.YtigejdnjdajbhaaRows
import Derived.JoinedOf
import Derived.KernelRfl
import Derived.Test.YtigejdnjdajbhaaBundA
import Derived.WalkKit
import Derived.ProofKit
import Derived.OpenShut
import Derived.ShutString
import Derived.ChangeOld
import Derived.Below
import Derived.SizedLaws
set_option linter.unusedVariables false
set_option linter.unusedSimpArgs false
namespace Go.Proofs.Ytigejdnjdajbhaa
open Go.RowKit Go.Maps

theorem batch_in {w : World} {b : Bt} {c1 : Array Value} (hb : kBatch.K (fun _ => True) w b c1.toList) : ∃ E ce, c1 = #[.int .i64 b.1, .slice E b.2.length ce] ∧ Sl kEvent (fun k => k < w.heap.size) w E ce b.2 := by
  obtain ⟨E, ce, h1, h2⟩ := kBatch_out hb
  exact ⟨E, ce, by cases c1; simpa using h1, h2.bound.mono (fun _ h => h.2)⟩
set_option maxHeartbeats 8000000 in
set_option maxRecDepth 100000 in
theorem indexRefuses_walk (w : World) (A : Option Addr) (c : Nat) (l : List Bt) (h : Sl kBatch (fun _ => True) w A c l) (hg : ∀ x ∈ l, goodBatch x) (c1 : Array Value) (b : Bt) (hb : kBatch.K (fun _ => True) w b c1.toList) (gb : goodBatch b) :
    Calls Try.prog 3 #[.slice A l.length c, .agg c1] w fun r w' => r = .returned (.bool true) ∧ Below w.heap.size w w' := by
  obtain ⟨E, ce, rfl, hE⟩ := batch_in hb
  obtain ⟨W0, hW0⟩ : ∃ W0, W0 = w.alloc (.cells #[.int .i64 b.1, .slice E b.2.length ce] 25) := ⟨_, rfl⟩
  have HW0 := Lib.hid hW0
  have hs0 : W0.heap.size = w.heap.size + 1 := by rw [hW0]; simp
  have HS0 := Lib.hid hs0
  have HB0 := Lib.hid (show Below w.heap.size w W0 by rw [hW0]; exact (Below.refl _ _).alloc (Nat.le_refl _) _)
  have HX0 := Lib.hid (show Bx W0 w.heap.size 25 [.int .i64 b.1, .slice E b.2.length ce] by rw [hW0]; exact Bx.new w _ _)
  have HL0 := Lib.hid (show Sl kBatch (fun k => k < w.heap.size) w A c l from h.bound.mono (fun _ h => h.2))
  have HE0 := Lib.hid hE
  have HG := Lib.hid hg
  have HGB := Lib.hid (few8_in gb.2)
  have C1 := Lib.hid (shown14_any W0)
  have hc2 := h.2.1
  unfold maxLen at hc2
  have hc1 := h.1
  clear hb hE h hg gb hs0
  go_enter Try.func3, Try.ntmps3
  go_upto_region 1 with fail
  rw [← HW0.out]
  clear hW0
  go_upto_block 0 with (first
    | (go_at_call 11; go_fit C2.out; rintro r w2 ⟨B, rfl, h2, hb2⟩; have H2 := Lib.hid h2; have HX2 := Lib.hid (HX1.out.under hb2); have HB2 := Lib.hid (bthen HB1.out hb2); clear h2 hb2)
    | (go_at_call 10; go_fit C1.out; rintro r w1 ⟨rfl, hb1⟩; have HX1 := Lib.hid (HX0.out.under hb1); have HB1 := Lib.hid (bthen HB0.out hb1); have C2 := Lib.hid (lNew W0 hb1.size); clear hb1))
  go_cut [7] (fun _ wx => ∃ es, es.length ≤ 80 ∧ Li W0 wx B es ∧ Bx wx w.heap.size 25 [.int .i64 b.1, .slice E b.2.length ce] ∧ Below w.heap.size w wx)
  case first =>
    go_wp2_with fail
    go_loopw [7] (fun i wr => ∃ k : Nat, k ≤ l.length ∧ k ≤ 10 ∧ i = .int .i64 k ∧ Li W0 wr B (growB [] (l.take k)) ∧ Bx wr w.heap.size 25 [.int .i64 b.1, .slice E b.2.length ce] ∧ Below w.heap.size w wr) (fun i _ => l.length - (intOf i).toNat)
    case atStart => exact ⟨0, Nat.zero_le _, Nat.zero_le _, rfl, H2.out, HX2.out, HB2.out⟩
    case round =>
      clear H2 HX2 HB2 C2 HX1 HB1
      obtain ⟨k, hk, hk10, rfl, hli, hbx, hbl⟩ := hrel
      have HLI := Lib.hid hli
      have HBX := Lib.hid hbx
      have HBL := Lib.hid hbl
      have hlen : (growB [] (l.take k)).length ≤ 80 := by
        have := growB_len [] (l.take k)
        rw [List.length_take] at this
        simp at this
        omega
      by_cases hlt : k < l.length ∧ k < 10
      · obtain ⟨hlt, h10⟩ := hlt
        have hrows : Sl kBatch (fun k => k < w.heap.size) wr A c l := HL0.out.stay hbl.size (fun j hj _ => hbl.block j hj)
        obtain ⟨ad, Q, cq, rfl, x0, x1, hQ⟩ := row_batch_at hrows.2.2 hlt
        have hin := few8_in (HG.out _ (List.getElem_mem hlt)).2
        have HST := Lib.hid (show growB [] (l.take (k + 1)) = addTo (growB [] (l.take k)) (growB [] (l.take k)).length (few8 (l[k]).2) by rw [List.take_succ_eq_append_getElem hlt, growB_snoc])
        generalize l[k] = q at x0 x1 hQ hin HST
        generalize growB [] (l.take k) = es at hlen HST HLI
        have HIN := Lib.hid hin
        have CF := Lib.hid (few14_any (a := q.1) (fun j => j < w.heap.size) hQ)
        have i1 : (0 : Int) ≤ (k : Int) := Int.natCast_nonneg _
        have i2 : (k : Int) < (l.length : Int) := by omega
        have f8 := few8_len q.2
        clear hli hbx hbl hrows hQ hin
        go_upto_region 9 with (go_at_call 12; go_fit CF.out; rintro r w4 ⟨A4, c4, rfl, h4, hb4⟩; have H4 := Lib.hid h4; have HB4 := Lib.hid hb4; clear h4 hb4)
        have HA5 := Lib.hid (fun (o : Obj) => show Below w4.heap.size w4 (w4.alloc o) from (Below.refl _ _).alloc (Nat.le_refl _) o)
        have CL := Lib.hid (fun (o : Obj) => iLast (((HLI.out.below HB4.out).below (HA5.out o)).ix))
        have CA : Hid (∀ o : Obj, Calls Try.prog 14 #[.pointer (some ⟨B.b, 0, none⟩), .agg #[.int .i64 es.length, .slice A4 (few8 q.2).length c4]] (w4.alloc o) fun r w' => ∃ (A' : Option Addr) (c' : Nat), r = .returned (.tuple #[.slice A' (addRs es es.length (few8 q.2)).length c', .int .i64 (addErr es es.length (few8 q.2))]) ∧ Li W0 w' B (addTo es es.length (few8 q.2)) ∧ Bx w' w.heap.size 25 [.int .i64 b.1, .slice E b.2.length ce] ∧ Below w.heap.size w w') := Lib.hid (fun o => by
          have hI := (HLI.out.below HB4.out).below (HA5.out o)
          refine (lAdd hI (after := es.length) ((H4.out.below (HA5.out o)).mono (fun j hj hB => hj.elim (fun h => by have := HLI.out.lo j hB; rw [HS0.out] at this; omega) (fun h => by have := HLI.out.ix.lt j hB; omega))) HIN.out (by omega)).mono ?_
          · rintro r w' ⟨A', c', e, _, h1, h2⟩
            exact ⟨A', c', e, h1, But.box hI h2 ((HBX.out.under HB4.out).under (HA5.out o)) (by rw [HS0.out]; omega), But.bel hI h2 (by rw [HS0.out]; omega) (bthen HBL.out (bthen HB4.out (HA5.out o)))⟩)
        go_wp2_with (first
          | (go_at_call 14; go_fit (CA.out _); rintro r w6 ⟨A6, c6, rfl, h6, h7, h8⟩; have H6 := Lib.hid h6; have H7 := Lib.hid h7; have H8 := Lib.hid h8; clear h6 h7 h8)
          | (go_at_call 13; go_fit (CL.out _); rintro r w5 ⟨rfl, rfl⟩))
        go_roundw
        case rel => exact ⟨k + 1, by omega, by omega, by go_num, by rw [HST.out]; exact H6.out, H7.out, H8.out⟩
        case measure => simp [intOf]; omega
      · have hstop : k < l.length → ¬ k < 10 := fun h h2 => hlt ⟨h, h2⟩
        have HF := Lib.hid (show ∃ es, es.length ≤ 80 ∧ Li W0 wr B es ∧ Bx wr w.heap.size 25 [.int .i64 b.1, .slice E b.2.length ce] ∧ Below w.heap.size w wr from ⟨_, hlen, hli, hbx, hbl⟩)
        clear hlen HLI HBX HBL hli hbx hbl hlt
        rcases Nat.lt_or_ge k l.length with hc | hc
        · have h10 := hstop hc
          clear hstop
          go_wp2_with fail
          go_meet
          exact HF.out
        · clear hstop
          go_wp2_with fail
          go_meet
          exact HF.out
  case rest =>
    obtain ⟨es, hlen, hli, hbx, hbl⟩ := hcut
    obtain ⟨W3, hW3⟩ : ∃ W3, W3 = wc := ⟨_, rfl⟩
    subst hW3
    have HLI := Lib.hid hli
    have HBX := Lib.hid hbx
    have HBL := Lib.hid hbl
    have CL := Lib.hid (iLast HLI.out.ix)
    have CA := Lib.hid (iAll HLI.out.ix es.length)
    have hal : allR es es.length = recsOf es := allR_all es (Int.le_refl _)
    rw [hal, recsOf_len] at CA
    have hQ3 : Sl kEvent (fun k => k < w.heap.size) W3 E ce b.2 := HE0.out.stay hbl.size (fun j hj _ => hbl.block j hj)
    have HQ3 := Lib.hid hQ3
    have f8 := few8_len b.2
    clear hal hli hbx hbl hQ3 H2 HX2 HB2 C2 HX1 HB1 C1
    go_upto_region 12 with (first
      | (go_at_call 15; go_fit CA.out; rintro r w4 ⟨P, cp, rfl, h4, hb4⟩; have H4 := Lib.hid h4; have HB4 := Lib.hid hb4; clear h4 hb4)
      | (go_at_call 13; go_fit CL.out; rintro r w3 ⟨rfl, rfl⟩))
    have CF := Lib.hid (few14_any (a := b.1) (fun j => j < w.heap.size) (HQ3.out.below HB4.out))
    have k0 := (HBX.out.under HB4.out).cell 0
    have k1 := (HBX.out.under HB4.out).cell 1
    simp only [List.getElem?_cons_succ, List.getElem?_cons_zero] at k0 k1
    go_upto_region 13 with (go_at_call 12; go_fit CF.out; rintro r w5 ⟨A5, c5, rfl, h5, hb5⟩; have H5 := Lib.hid h5; have HB5 := Lib.hid hb5; have HX5 := Lib.hid ((HBX.out.under HB4.out).under hb5); have j0 := HX5.out.cell 0; have j1 := HX5.out.cell 1; simp only [List.getElem?_cons_succ, List.getElem?_cons_zero] at j0 j1; have f0 := HX5.out.free 0; have f1 := HX5.out.free 1; clear h5 hb5)
    have HI6 := Lib.hid ((((HLI.out.below HB4.out).below HB5.out).set (p := ⟨w.heap.size, 0, none⟩) (by rw [HS0.out]; exact Nat.lt_succ_self _) (.int .i64 b.1)).set (p := ⟨w.heap.size, 1, none⟩) (by rw [HS0.out]; exact Nat.lt_succ_self _) (.slice A5 (few8 b.2).length c5))
    have HX6 := Lib.hid (show Bx ((w5.setCell ⟨w.heap.size, 0, none⟩ (.int .i64 b.1)).setCell ⟨w.heap.size, 1, none⟩ (.slice A5 (few8 b.2).length c5)) w.heap.size 25 [.int .i64 b.1, .slice A5 (few8 b.2).length c5] from (HX5.out.set 0 _).set 1 _)
    have hws : w.heap.size < W3.heap.size := by have := HLI.out.size; have := HS0.out; omega
    have hw34 := HB4.out.size
    have HP6 := Lib.hid (((H4.out.below HB5.out).setCell (p := ⟨w.heap.size, 0, none⟩) (fun j hj => by show j ≠ w.heap.size; omega) (.int .i64 b.1)).setCell (p := ⟨w.heap.size, 1, none⟩) (fun j hj => by show j ≠ w.heap.size; omega) (.slice A5 (few8 b.2).length c5))
    have HE6 := Lib.hid ((H5.out.setCell (p := ⟨w.heap.size, 0, none⟩) (fun j hj => by show j ≠ w.heap.size; omega) (.int .i64 b.1)).setCell (p := ⟨w.heap.size, 1, none⟩) (fun j hj => by show j ≠ w.heap.size; omega) (.slice A5 (few8 b.2).length c5))
    have HB6 := Lib.hid (((bthen HBL.out (bthen HB4.out HB5.out)).setCell (p := ⟨w.heap.size, 0, none⟩) (Nat.le_refl _) (.int .i64 b.1)).setCell (p := ⟨w.heap.size, 1, none⟩) (Nat.le_refl _) (.slice A5 (few8 b.2).length c5))
    have HNB := Lib.hid (fun j (hj : j < w.heap.size ∨ W3.heap.size ≤ j) => show ¬ B.has j from HLI.out.off (hj.imp (fun h => by rw [HS0.out]; omega) id))
    clear k0 k1 j0 j1 f0 f1 HX5 H4 H5 HBX HBL CF CL CA
    generalize (w5.setCell ⟨w.heap.size, 0, none⟩ (.int .i64 b.1)).setCell ⟨w.heap.size, 1, none⟩ (.slice A5 (few8 b.2).length c5) = W6 at HI6 HX6 HP6 HE6 HB6 ⊢
    have HE6B := Lib.hid (show Sl kEvent (fun k => ¬ B.has k) W6 A5 c5 (few8 b.2) from HE6.out.mono (fun j hj => HNB.out j (hj.imp id (fun h => by omega))))
    have HP6B := Lib.hid (show Sl kRec (fun k => ¬ B.has k) W6 P cp (recsOf es) from HP6.out.mono (fun j hj => HNB.out j (.inr hj)))
    generalize few8 b.2 = bs at *
    have k0 := HX6.out.cell 0
    have k1 := HX6.out.cell 1
    simp only [List.getElem?_cons_succ, List.getElem?_cons_zero] at k0 k1
    obtain ⟨b1, hb1⟩ : ∃ b1, b1 = b.1 := ⟨_, rfl⟩
    rw [← hb1] at HX6 k0 ⊢
    have HB1E := Lib.hid hb1
    clear hb1 HNB HP6 HE6 hws hw34 HB4 HB5 HQ3 HG HL0 HE0 HX0
    by_cases hok : addErr es b1 bs = 0
    · obtain ⟨hm, hbe⟩ := addErr_ok hok
      have CADD : Hid (Calls Try.prog 14 #[.pointer (some ⟨B.b, 0, none⟩), .agg #[.int .i64 b1, .slice A5 bs.length c5]] W6 fun r w' => ∃ (A' : Option Addr) (c' : Nat), r = .returned (.tuple #[.slice A' bs.length c', .int .i64 0]) ∧ Li W0 w' B (es ++ bs) ∧ Bx w' w.heap.size 25 [.int .i64 b1, .slice A5 bs.length c5] ∧ Below w.heap.size w w' ∧ SlE w' A5 c5 bs) := Lib.hid (by
        refine (lAdd HI6.out (after := b1) HE6B.out HGB.out (by omega)).mono ?_
        rintro r w' ⟨A', c', e, _, h1, h2⟩
        rw [addRs_len, if_pos hok, hok] at e
        rw [show addTo es b1 bs = es ++ bs from if_pos hok] at h1
        exact ⟨A', c', e, h1, But.box HI6.out h2 HX6.out (by rw [HS0.out]; omega), But.bel HI6.out h2 (by rw [HS0.out]; omega) HB6.out, (HE6B.out.stay h2.size (fun j hj hl => h2.block j hl hj)).any⟩)
      have HM := Lib.hid hm
      have hbe2 : (b1 == (es.length : Int)) = true := by simp [hbe]
      have hsum : IntKind.i64.wrap ((es.length : Int) + (bs.length : Int)) = ((es ++ bs).length : Int) := by rw [IntWalk.i64_in _ (by omega), List.length_append]; omega
      have hsum2 : (((es ++ bs).length : Int) == (es.length : Int) + (bs.length : Int)) = true := by rw [List.length_append]; simp
      clear hok hm hbe
      go_upto_region 14 with (go_at_call 14; go_fit CADD.out; rintro r w7 ⟨A7, c7, rfl, h71, h72, h73, h74⟩; have H7 := Lib.hid h71; have HX7 := Lib.hid h72; have HB7 := Lib.hid h73; have HE7 := Lib.hid h74; clear h71 h72 h73 h74)
      have j0 := HX7.out.cell 0
      have j1 := HX7.out.cell 1
      simp only [List.getElem?_cons_succ, List.getElem?_cons_zero] at j0 j1
      have CM := Lib.hid (ref10May_any (after := b1) HE7.out HGB.out)
      rw [HM.out] at CM
      clear k0 k1
      go_upto_region 16 with (go_at_call 16; go_fit CM.out; rintro r w8 ⟨rfl, hb8⟩; have HB8 := Lib.hid hb8; have HX8 := Lib.hid (HX7.out.under hb8); have i0 := HX8.out.cell 0; have i1 := HX8.out.cell 1; simp only [List.getElem?_cons_succ, List.getElem?_cons_zero] at i0 i1; have CL8 := Lib.hid (iLast (H7.out.below hb8).ix); clear hb8)
      go_wp2_with (go_at_call 13; go_fit CL8.out; rintro r w9 ⟨rfl, rfl⟩)
      go_ret
      exact ⟨rfl, bthen HB7.out HB8.out⟩
    · have CADD : Hid (Calls Try.prog 14 #[.pointer (some ⟨B.b, 0, none⟩), .agg #[.int .i64 b1, .slice A5 bs.length c5]] W6 fun r w' => ∃ (A' : Option Addr) (c' : Nat), r = .returned (.tuple #[.slice A' 0 c', .int .i64 (addErr es b1 bs)]) ∧ Li W0 w' B es ∧ Bx w' w.heap.size 25 [.int .i64 b1, .slice A5 bs.length c5] ∧ Below w.heap.size w w' ∧ SlE w' A5 c5 bs ∧ SlR w' P cp (recsOf es)) := Lib.hid (by
        refine (lAdd HI6.out (after := b1) HE6B.out HGB.out (by omega)).mono ?_
        rintro r w' ⟨A', c', e, _, h1, h2⟩
        rw [addRs_len, if_neg hok] at e
        rw [show addTo es b1 bs = es from if_neg hok] at h1
        exact ⟨A', c', e, h1, But.box HI6.out h2 HX6.out (by rw [HS0.out]; omega), But.bel HI6.out h2 (by rw [HS0.out]; omega) HB6.out, (HE6B.out.stay h2.size (fun j hj hl => h2.block j hl hj)).any, (HP6B.out.stay h2.size (fun j hj hl => h2.block j hl hj)).any⟩)
      have hor : mayB b1 bs ≠ 0 ∨ (mayB b1 bs = 0 ∧ b1 ≠ es.length) := by
        by_cases h1 : mayB b1 bs = 0
        · refine .inr ⟨h1, fun e => hok ?_⟩
          unfold addErr
          rw [h1, e]; simp
        · exact .inl h1
      generalize addErr es b1 bs = e at CADD hok
      have he1 : (e != 0) = true := by simp [hok]
      have he2 : (e == 0) = false := by simp [hok]
      obtain ⟨m, hm⟩ : ∃ m, mayB b1 bs = m := ⟨_, rfl⟩
      rw [hm] at hor
      have HM := Lib.hid hm
      clear hok hm
      go_upto_region 14 with (go_at_call 14; go_fit CADD.out; rintro r w7 ⟨A7, c7, rfl, h71, h72, h73, h74, h75⟩; have H7 := Lib.hid h71; have HX7 := Lib.hid h72; have HB7 := Lib.hid h73; have HE7 := Lib.hid h74; have HP7 := Lib.hid h75; clear h71 h72 h73 h74 h75)
      have j0 := HX7.out.cell 0
      have j1 := HX7.out.cell 1
      simp only [List.getElem?_cons_succ, List.getElem?_cons_zero] at j0 j1
      have CM := Lib.hid (ref10May_any (after := b1) HE7.out HGB.out)
      rw [HM.out] at CM
      have hal : allR es es.length = recsOf es := allR_all es (Int.le_refl _)
      have CX := Lib.hid (fun W (hW : Below w7.heap.size w7 W) => And.intro (iLast (H7.out.below hW).ix) (by
        have := iAll (H7.out.below hW).ix es.length
        rw [hal, recsOf_len] at this
        exact this))
      have CS := Lib.hid (fun W (hW : Below w7.heap.size w7 W) (Q : Option Addr) (cq : Nat) (hQ : SlR W Q cq (recsOf es)) => show Calls Try.prog 17 #[.slice P es.length cp, .slice Q es.length cq] W fun r w' => r = .returned (.bool true) ∧ Below W.heap.size W w' from by
        have := ref14Same_any (HP7.out.below hW) hQ
        rw [recsOf_len, sameRs_refl] at this
        exact this)
      clear k0 k1 hal
      go_cut [12] (fun v wx => v = .bool false ∧ Below w7.heap.size w7 wx)
      case first =>
        rcases hor with h1 | ⟨h1, h2⟩
        · have m0 : (m == 0) = false := by simp [h1]
          clear h1
          go_wp2_with (go_at_call 16; go_fit CM.out; rintro r w8 ⟨rfl, hb8⟩; have HB8 := Lib.hid hb8; clear hb8)
          go_meet
          exact ⟨rfl, HB8.out⟩
        · subst h1
          have m0 : (b1 == (es.length : Int)) = false := by simp [h2]
          clear h2
          go_wp2_with (go_at_call 16; go_fit CM.out; rintro r w8 ⟨rfl, hb8⟩; have HB8 := Lib.hid hb8; have i0 := (HX7.out.under hb8).cell 0; simp only [List.getElem?_cons_zero] at i0; clear hb8)
          go_meet
          exact ⟨rfl, HB8.out⟩
      case rest =>
        obtain ⟨rfl, hb8⟩ := hcut
        have HB8 := Lib.hid hb8
        have C9 := Lib.hid (CX.out _ hb8).1
        have C10 := Lib.hid (CX.out _ hb8).2
        clear hb8 hor
        go_wp2_with (first
          | (go_at_call 17; go_fit C11.out; rintro r w11 ⟨rfl, hb11⟩; have HB11 := Lib.hid hb11; clear hb11)
          | (go_at_call 15; go_fit C10.out; rintro r w10 ⟨Q, cq, rfl, h10, hb10⟩; have HB10 := Lib.hid hb10; have C11 := Lib.hid (CS.out _ (bthen HB8.out hb10) Q cq h10.any); clear h10 hb10)
          | (go_at_call 13; go_fit C9.out; rintro r w9 ⟨rfl, rfl⟩))
        go_ret
        exact ⟨rfl, bthen HB7.out (bthen HB8.out (bthen HB10.out HB11.out))⟩
end Go.Proofs.Ytigejdnjdajbhaa

namespace Go.Proofs.Ytigejdnjdajbhaa

set_option maxRecDepth 100000 in
def ordN : List Nat := [104, 97, 114, 110, 101, 115, 115, 32, 51, 51, 99, 100, 49, 48, 101, 102, 99, 49, 100, 49, 57, 100, 101, 100, 50, 102, 57, 100, 97, 101, 101, 51, 54, 49, 54, 56, 48, 102, 48, 49, 97, 51, 102, 55, 56, 102, 54, 99, 100, 55, 53, 100, 50, 54, 97, 99, 102, 50, 50, 56, 51, 51, 48, 100, 55, 53, 56, 53, 54, 48, 55, 97, 32, 99, 117, 116, 32, 97, 116, 32, 114, 101, 103, 105, 115, 116, 114, 97, 114, 47, 114, 101, 103, 105, 115, 116, 114, 97, 114, 108, 97, 119, 49, 52, 46, 73, 110, 100, 101, 120, 82, 101, 102, 117, 115, 101, 115, 32, 114, 101, 103, 105, 115, 116, 114, 97, 114, 47, 114, 101, 103, 105, 115, 116, 114, 97, 114, 108, 97, 119, 49, 52, 46, 73, 110, 100, 101, 120, 79, 119, 110, 32, 114, 101, 103, 105, 115, 116, 114, 97, 114, 47, 114, 101, 103, 105, 115, 116, 114, 97, 114, 108, 97, 119, 49, 52, 46, 73, 110, 100, 101, 120, 67, 111, 112, 105, 101, 115, 32, 114, 101, 103, 105, 115, 116, 114, 97, 114, 47, 114, 101, 103, 105, 115, 116, 114, 97, 114, 108, 97, 119, 49, 52, 46, 73, 110, 100, 101, 120, 87, 104, 111, 108, 101, 32, 114, 101, 103, 105, 115, 116, 114, 97, 114, 47, 114, 101, 103, 105, 115, 116, 114, 97, 114, 108, 97, 119, 49, 52, 46, 73, 110, 100, 101, 120, 83, 116, 97, 121, 115, 32, 114, 101, 103, 105, 115, 116, 114, 97, 114, 47, 114, 101, 103, 105, 115, 116, 114, 97, 114, 108, 97, 119, 49, 56, 46, 71, 117, 97, 114, 100, 69, 109, 112, 116, 121, 32, 114, 101, 103, 105, 115, 116, 114, 97, 114, 47, 114, 101, 103, 105, 115, 116, 114, 97, 114, 108, 97, 119, 49, 56, 46, 71, 117, 97, 114, 100, 76, 97, 116, 101, 114]
def ordL : List Char := ordN.map Char.ofNat
theorem order_eq : Try.prog.initOrder = String.ofList ordL := by kernel_rfl
theorem signs_eq : Try.prog.initOrder.toList = ordL := by rw [order_eq, String.toList_ofList]
def ordRest : List (List Char) := (behindMainWord (wordsSigns ordL)).tail
theorem words_eq : behindMainWord (wordsSigns ordL) = "cut".toList :: ordRest := by kernel_rfl
theorem strip_cut (r : List (List Char)) : stripLifts liftWords ("cut".toList :: r) = ([], "cut".toList :: r) := by kernel_rfl
theorem mayEnter_of (P : Program) (rest : List (List Char)) (h : behindMainWord (wordsSigns P.initOrder.toList) = "cut".toList :: rest) (h1 : P.laysLater = false) (h2 : P.bearsReflect = false) (h3 : P.doorFits [] = true) : P.mayEnter = true := by
  unfold Program.mayEnter
  rw [h]
  dsimp only
  rw [strip_cut, h1, h2, h3]
  simp
theorem lifts_of (P : Program) (rest : List (List Char)) (h : behindMainWord (wordsSigns P.initOrder.toList) = "cut".toList :: rest) : P.liftsFinal = false := by
  unfold Program.liftsFinal Program.headLifts
  rw [h, strip_cut]
  simp
theorem make_of (P : Program) (rest : List (List Char)) (h : behindMainWord (wordsSigns P.initOrder.toList) = "cut".toList :: rest) : P.make = some .cut := by
  unfold Program.make
  rw [h]
  dsimp only
  rw [if_neg (by decide), if_pos (by simp)]
theorem door_of (P : Program) (h : P.doorRows = []) : P.doorFits [] = true := by
  unfold Program.doorFits
  rw [h]
  simp
theorem head_eq : behindMainWord (wordsSigns Try.prog.initOrder.toList) = "cut".toList :: ordRest := by rw [signs_eq]; exact words_eq
theorem h_later : Try.prog.laysLater = false := by kernel_rfl
theorem h_refl : Try.prog.bearsReflect = false := by kernel_rfl
theorem h_rows : Try.prog.doorRows = [] := by kernel_rfl
theorem mayEnter_eq : Try.prog.mayEnter = true := mayEnter_of _ _ head_eq h_later h_refl (door_of _ h_rows)
theorem lifts_eq : Try.prog.liftsFinal = false := lifts_of _ _ head_eq
theorem make_eq : Try.prog.make = some .cut := make_of _ _ head_eq
theorem laidOut_eq : laidOutB Try.prog = true := by kernel_rfl
theorem mapsRowed_eq : mapsRowed Try.prog = true := by kernel_rfl
theorem stops_eq : (Try.prog.stops == []) = true := by kernel_rfl
theorem stopKnobs_eq : (Try.prog.stopKnobs == []) = true := by kernel_rfl
theorem heard_eq : Try.prog.stopsHeard = true := by kernel_rfl
theorem own_eq : ownKnob Try.prog.godebug = none := by kernel_rfl

/-- The rows' one great closed fact, out of its parts. -/
theorem joined_of {P : Program} {f : FuncId} {fn : Func} {s : ChangeSpec} {c : OpenClaim}
    (k1 : c.wf (OpenSpec.ofChange s) = true) (k2 : laidOutB P = true) (k3 : mapsRowed P = true) (k4 : fn.params.all (P.readableRec ·) = true) (k5 : namedTie P c.named s.vars = true)
    (k6 : (c.stops == []) = true) (k7 : (P.stops == []) = true) (k8 : (c.knobs == []) = true) (k9 : (P.stopKnobs == []) = true)
    (k10 : (c.inPlace == P.inPlace f) = true) (k11 : (c.unfollowed == P.unfollowed f) = true) (k12 : (c.recurses == P.recurses f) = true) (k13 : (c.named == P.varsNamed f) = true)
    (k14 : (c.maps == (fn.params.toList ++ s.plain.varTypes P).any (P.mapsRec ·)) = true) (k15 : (c.ifaces == (fn.params.toList ++ s.plain.varTypes P).any (P.ifacesRec ·)) = true) (k16 : (c.mapsOut == P.mapsAmong fn.resultTypes.toList) = true)
    (k17 : (c.loops == (fn.params.toList ++ s.plain.varTypes P).any (P.loopsFrom ·)) = true) (k18 : (c.wideKeys == (fn.params.toList ++ s.plain.varTypes P ++ fn.resultTypes.toList).any (P.wideKeysFrom ·)) = true)
    (k19 : s.vars.all (P.varReadable ·) = true) (k20 : fn.resultTypes.all (fun t => P.readableRec t && decide (t < P.types.size)) = true) (k21 : (c.ifacesOut == fn.resultTypes.toList.any (P.ifacesRec ·)) = true) (k22 : (c.loopsOut == fn.resultTypes.toList.any (P.loopsFrom ·)) = true)
    (k23 : (c.plainKeys == P.plainKeys) = true) (k24 : c.shortTexts.isNone = true) (k25 : P.stopsHeard = true) (k26 : P.mayEnter = true) (k27 : (c.lifted == P.liftsFinal) = true) (k28 : (P.make == some c.make) = true)
    (k29 : c.kinds = [] ∧ c.domain = []) (k30 : (c.pinned == c.pinnedBy) = true)
    (k31 : (c.veiled == (fn.params.toList ++ s.plain.varTypes P ++ fn.resultTypes.toList).any (P.veiledRec ·)) = true) (k32 : c.veiledFits P fn.params.toList (fn.params.toList ++ s.plain.varTypes P ++ fn.resultTypes.toList) = true) :
    joinedFacts P f fn s c = true := by
  unfold joinedFacts
  rw [k1, k2, k3, k4, k5, k6, k7, k8, k9, k10, k11, k12, k13, k14, k15, k16, k17, k18, k19, k20, k21, k22, k23, k24, k25, k26, k27, k28, k29.1, k29.2, k30, k31, k32]
  rfl
end Go.Proofs.Ytigejdnjdajbhaa

namespace Go.Proofs.Ytigejdnjdajbhaa.indexRefuses
open Go.ChangeShapes Go.WideShapes Go.ChangeAt Go.RowKit
open Go.ChangeMaps (open_string shut_string)
set_option maxRecDepth 100000 in
theorem lifted (os : Os) (started : os.Started) (H : Type) (enc : TypeId × Value → H) :
    ReturnsInHanded {} Try.checked os 3 .any (Rows.indexRefusesSpec.pre6 enc Try.prog Try.f3 Rows.indexRefusesRow.domain false) (Rows.indexRefusesSpec.post enc Try.prog Try.f3 false true false false) := by
  refine returnsInHanded_of_change_sized (C := Try.checked) own_eq started (by kernel_rfl) Try.func3
    (ChangeSpec.witness6 (enc := enc) (C := Try.checked) false ⟨#[], #[.slice none 0 0, .agg #[.int .i64 0, .slice none 0 0]], []⟩ 8 (by kernel_rfl) (by kernel_rfl) (by kernel_rfl) (by kernel_rfl)) ?_
  intro W base args ds gs before hval0 hW hcnd hsz0 _
  have hval : ∀ (j : Nat) t v, Try.f3.params[j]? = some t → args[j]? = some v → Value.okWide Try.prog W .any base t v := hval0
  have hW' := hW
  obtain ⟨p, q, hA0, hV, rfl, hfz, hnd⟩ := hW
  have hA : DataW.TrodAll enc Try.prog W 0 (fun _ => true) true Try.f3.params.toList args.toList ds p := hA0
  rw [Try.params3] at hA hval
  obtain ⟨v0, vs0, d0, ds0, p0, q0, hargs, rfl, rfl, h0, r0⟩ := trodAll_cons hA
  obtain ⟨v1, vs1, d1, ds1, p1, q1, rfl, rfl, rfl, h1, r1⟩ := trodAll_cons r0
  obtain ⟨rfl, rfl, rfl⟩ := trodAll_nil r1
  obtain rfl : args = #[v0, v1] := by cases args; simp_all
  obtain ⟨rfl, rfl⟩ := trodVars_none hV
  have k0 := h0
  have lt0 : ∀ x ∈ p0, x.block < W.heap.size := by obtain ⟨m, hm⟩ := k0; exact DataW.trod_lt m _ _ _ hm
  obtain ⟨a0, len0, cap0, rfl⟩ := okWide_slice Try.underlying22 (hval 0 22 v0 rfl rfl)
  obtain ⟨x0, ⟨A0, c0, e0, l0, m0, w0⟩, g0⟩ := (opBatches).arg h0
  simp only [Value.cells, List.cons.injEq, Value.slice.injEq, and_true] at e0
  obtain ⟨rfl, rfl, rfl⟩ := e0
  have k1 := h1
  have lt1 : ∀ x ∈ p1, x.block < W.heap.size := by obtain ⟨m, hm⟩ := k1; exact DataW.trod_lt m _ _ _ hm
  obtain ⟨cs1, rfl, _⟩ := okWide_struct Try.underlying25 (hval 1 25 v1 rfl rfl)
  obtain ⟨x1, w1, g1⟩ := (opBatch).arg h1
  clear hA0 hval0
  refine (indexRefuses_walk W _ _ x0 ⟨l0, m0, w0⟩ g0 cs1 x1 w1 g1).mono fun e W' ⟨he, bel⟩ => ?_
  subst he
  exact ⟨_, rfl, _, _, _, [], _, [], hW', trodAll_mk1 (shut_bool Try.underlying4 _), (trodAll_cons_mk (Below.trod laidOut_eq (by kernel_rfl) (of_decide_eq_true (by kernel_rfl)) k0 bel lt0) (trodAll_cons_mk (Below.trod laidOut_eq (by kernel_rfl) (of_decide_eq_true (by kernel_rfl)) k1 bel lt1) trodAll_mk0)), rfl, bel.frame _, fun h => by cases h⟩
theorem k10 : (Rows.indexRefusesRow.inPlace == Try.prog.inPlace 3) = true := by kernel_rfl
theorem k11 : (Rows.indexRefusesRow.unfollowed == Try.prog.unfollowed 3) = true := by kernel_rfl
theorem k12 : (Rows.indexRefusesRow.recurses == Try.prog.recurses 3) = true := by kernel_rfl
theorem k13 : (Rows.indexRefusesRow.named == Try.prog.varsNamed 3) = true := by kernel_rfl
theorem k23 : (Rows.indexRefusesRow.plainKeys == Try.prog.plainKeys) = true := by kernel_rfl
theorem kfn : Try.pinned.checked.prog.funcNamed Rows.indexRefusesRow.func = some 3 := by kernel_rfl
theorem closed : joinedFacts Try.prog 3 Try.f3 Rows.indexRefusesSpec Rows.indexRefusesRow = true :=
  joined_of (by kernel_rfl) laidOut_eq mapsRowed_eq (by kernel_rfl) (by kernel_rfl) rfl stops_eq rfl stopKnobs_eq k10 k11 k12 k13 (by kernel_rfl) (by kernel_rfl) (by kernel_rfl) (by kernel_rfl) (by kernel_rfl) (by kernel_rfl) (by kernel_rfl) (by kernel_rfl) (by kernel_rfl) k23 rfl heard_eq mayEnter_eq (by rw [lifts_eq]; rfl) (by rw [make_eq]; rfl) ⟨rfl, rfl⟩ (by kernel_rfl) (by kernel_rfl) (by kernel_rfl)
theorem over : Rows.indexRefusesRow.holds Try.pinned (OpenSpec.ofChange Rows.indexRefusesSpec) :=
  OpenClaim.holds_of_wide 3 Try.f3 rfl rfl rfl rfl rfl rfl rfl ⟨rfl, rfl, rfl, rfl, rfl⟩ rfl rfl rfl rfl rfl kfn Try.func3 closed
    (of_decide_eq_true (by kernel_rfl)) (by unfold Func.isWrapper; first | (rw [if_pos (by decide +kernel)]; kernel_rfl) | (rw [if_neg (by decide +kernel)]; exact ⟨rfl, rfl⟩))
    (fun os started H enc _ => lifted os started H enc)
theorem proved : Rows.IndexRefusesSaid := over
#print axioms proved
end Go.Proofs.Ytigejdnjdajbhaa.indexRefuses
