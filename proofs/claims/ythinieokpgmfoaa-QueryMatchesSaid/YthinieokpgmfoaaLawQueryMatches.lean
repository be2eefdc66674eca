/- QueryMatches: the law's walk. -/
import Derived.Test.YthinieokpgmfoaaHead06
import Derived.Test.YthinieokpgmfoaaNorm06
import Derived.Test.YthinieokpgmfoaaSame06
import Derived.Test.YthinieokpgmfoaaRef06
import Derived.Test.YthinieokpgmfoaaStep3
import Derived.Deep.RegionHeld3
set_option linter.unusedVariables false
set_option linter.unusedSimpArgs false
namespace Go.Proofs.Ythinieokpgmfoaa
open Go.RowKit

theorem hasS_congr {s : ByteArray} {l m : List ByteArray} (h : ∀ x, x ∈ l ↔ x ∈ m) : hasS s l = hasS s m := by
  rw [Bool.eq_iff_iff, hasS_iff, hasS_iff, h]
theorem clause_norm (e : Event) (c : Clause) : clauseM e (normC c) = clauseM e c := by
  have h1 : (uniq c.tags).all (fun s => hasS s e.tags) = c.tags.all (fun s => hasS s e.tags) := by
    rw [Bool.eq_iff_iff, List.all_eq_true, List.all_eq_true]
    exact ⟨fun h x hx => h x (mem_uniq.2 hx), fun h x hx => h x (mem_uniq.1 hx)⟩
  have h2 : (uniq c.types).isEmpty = c.types.isEmpty := by
    rw [Bool.eq_iff_iff, List.isEmpty_iff, List.isEmpty_iff]
    refine ⟨fun h => List.eq_nil_iff_forall_not_mem.2 fun x hx => ?_, fun h => List.eq_nil_iff_forall_not_mem.2 fun x hx => ?_⟩
    · have := mem_uniq.2 hx; rw [h] at this; cases this
    · have := mem_uniq.1 hx; rw [h] at this; cases this
  unfold clauseM normC
  simp only [h1, h2, hasS_congr (fun x => mem_uniq (l := c.types) (x := x))]
theorem match_norm (q : List Clause) (e : Event) : matchM (q.map normC) e = matchM q e := by
  unfold matchM
  rw [List.any_map]
  congr 1
  funext c
  exact clause_norm e c
theorem match_rev (q : List Clause) (e : Event) : matchM q.reverse e = matchM q e := by unfold matchM; exact List.any_reverse
theorem norm_norm (q : List Clause) : (q.map normC).map normC = q.map normC := by
  rw [List.map_map]
  refine List.map_congr_left fun c _ => ?_
  simp [normC, uniq_uniq]
theorem fewM_len (q : List Clause) : (fewM q).length ≤ 8 ∧ ∀ c ∈ fewM q, c.tags.length ≤ 8 ∧ c.types.length ≤ 8 := by
  refine ⟨by unfold fewM; simp; omega, fun c hc => ?_⟩
  unfold fewM at hc
  obtain ⟨c', _, rfl⟩ := List.mem_map.1 hc
  simp only [cutC, List.length_take]
  omega

/-- At a round's head: n in block g, back behind it, m clauses of q are still to be laid. -/
structure QmAt (w : World) (q : List Clause) (e : Event) (B : Option Addr) (cb : Nat) (A : Option Addr) (c : Nat) (T : Option Addr) (ct : Nat) (A2 : Option Addr) (c2 : Nat) (g m : Nat) (v : Value) (wr : World) : Prop where
  bq : Bx wr w.heap.size 24 [.slice A q.length c]
  be : Bx wr (w.heap.size + 1) 28 [.string e.stream, .string e.type, .slice T e.tags.length ct, .slice B e.fields.length cb]
  bn : Bx wr g 24 [.slice A2 q.length c2]
  bb : Bx wr (g + 1) 24 [v]
  sq : Sl kClause (fun k => (k < w.heap.size ∨ w.heap.size + 2 ≤ k) ∧ k < g) wr A c q
  sn : Sl kClause (fun k => w.heap.size + 2 ≤ k ∧ k < g) wr A2 c2 (q.map normC)
  st : Sl Kn.str (fun k => k < w.heap.size) wr T ct e.tags
  own : Own kClause 33 (g + 2) (fun k => k < g) wr v (q.drop m).reverse
  lo : w.heap.size + 2 ≤ g
  size : g + 2 ≤ wr.heap.size
  bel : Below w.heap.size w wr
section
variable {w : World} {q : List Clause} {e : Event} {B A T A2 : Option Addr} {cb c ct c2 g m j : Nat} {v v1 : Value} {wr W w1 : World}
theorem QmAt.step (h : QmAt w q e B cb A c T ct A2 c2 g (j + 1) v wr) (hb : Below wr.heap.size wr W)
    (hg : W.grownBy w1 v.ownBlock) (y : Clause) (hy : q[j]? = some y) (hown : Own kClause 33 (g + 2) (fun k => k < g) w1 v1 ((q.drop (j + 1)).reverse ++ [y])) :
    QmAt w q e B cb A c T ct A2 c2 g j v1 (w1.setCell ⟨g + 1, 0, none⟩ v1) := by
  have hs := h.size
  have hlo := h.lo
  have hv : ∀ j, v.ownBlock = some j → g + 2 ≤ j := h.own.base_le
  have hbl : ∀ j, j < g + 2 → w1.heap[j]? = wr.heap[j]? := fun j hj => (hg.block j (by have := hb.size; omega) (fun e => by have := hv j e.symm; omega)).trans (hb.block j (by omega))
  have hsz : wr.heap.size ≤ w1.heap.size := Nat.le_trans hb.size hg.size
  obtain ⟨hj, hy⟩ := List.getElem?_eq_some_iff.1 hy
  subst hy
  refine ⟨?_, ?_, ?_, ?_, ?_, ?_, ?_, ?_, hlo, ?_, ?_⟩
  · exact (h.bq.stay (fun _ => hbl _ (by omega))).far (by simp; omega) _
  · exact (h.be.stay (fun _ => hbl _ (by omega))).far (by simp; omega) _
  · exact (h.bn.stay (fun _ => hbl _ (by omega))).far (by simp) _
  · exact (h.bb.stay (fun _ => hbl _ (by omega))).set 0 v1
  · exact (h.sq.stay hsz (fun j hj _ => hbl j (by omega))).setCell (fun j hj => by simp; omega) _
  · exact (h.sn.stay hsz (fun j hj _ => hbl j (by omega))).setCell (fun j hj => by simp; omega) _
  · exact (h.st.stay hsz (fun j hj _ => hbl j (by omega))).setCell (fun j hj => by simp; omega) _
  · have : (q.drop j).reverse = (q.drop (j + 1)).reverse ++ [q[j]] := by rw [List.drop_eq_getElem_cons hj, List.reverse_cons]
    rw [this]
    exact hown.setCell (fun j hj => by simp; omega) (fun j hj => by have := hown.base_le j hj; simp; omega) _
  · simp [World.setCell]; omega
  · refine Below.setCell ?_ (by simp; omega) _
    exact ⟨hg.os.trans (hb.os.trans h.bel.os), hg.tape.trans (hb.tape.trans h.bel.tape), hg.output.trans (hb.output.trans h.bel.output), Nat.le_trans h.bel.size hsz, fun j hj => (hbl j (by omega)).trans (h.bel.block j hj)⟩
theorem QmAt.box (h : QmAt w q e B cb A c T ct A2 c2 g m v wr) (hb : Below wr.heap.size wr W) (hg : W.grownBy w1 v.ownBlock) : Bx w1 (g + 1) 24 [v] :=
  (h.bb.under hb).grown hg (fun e => by have := h.own.base_le _ e.symm; omega)
theorem QmAt.start {wc w2 : World} (h : H06 w q e B cb wc A c T ct) (hb : Below wc.heap.size wc w2) (hsn : Sl kClause (fun k => wc.heap.size ≤ k) w2 A2 c2 (q.map normC)) :
    QmAt w q e B cb A c T ct A2 c2 w2.heap.size q.length (.slice none 0 0) ((w2.alloc (.cells #[.slice A2 q.length c2] 24)).alloc (.cells #[.slice none 0 0] 24)) := by
  have h2 := h.under hb
  have hlt := h2.be.lt
  have hl1 := h.be.lt
  have hs1 : (w2.alloc (.cells #[.slice A2 q.length c2] 24)).heap.size = w2.heap.size + 1 := by simp
  refine ⟨(h2.bq.alloc _).alloc _, (h2.be.alloc _).alloc _, (Bx.new w2 _ [_]).alloc _, ?_, (h2.sq.bound.alloc _).alloc _, ((hsn.bound.mono (fun k hk => ⟨by have := hk.1; omega, hk.2⟩)).alloc _).alloc _, (h2.st.alloc _).alloc _, by rw [List.drop_length]; exact Own.nil_ _ _ _ _ _, by omega, by simp, ?_⟩
  · have := Bx.new (w2.alloc (.cells #[.slice A2 q.length c2] 24)) 24 [.slice none 0 0]
    rwa [hs1] at this
  · exact (h2.bel.alloc h2.bel.size _).alloc (by rw [hs1]; have := h2.bel.size; omega) _
end

set_option maxHeartbeats 4000000 in
set_option maxRecDepth 100000 in
theorem queryMatches_walk (w : World) (c0 : Array Value) (q : List Clause) (hq : kQuery.K (fun _ => True) w q c0.toList) {G0 : Prop} (_ : G0) (c1 : Array Value) (e : Event) (he : kEvent.K (fun _ => True) w e c1.toList) {G1 : Prop} (_ : G1) :
    Calls Try.prog 3 #[.agg c0, .agg c1] w fun r w' => r = .returned (.bool true) ∧ Below w.heap.size w w' := by
  obtain ⟨Q, cq, rfl, hQ⟩ := query_in hq
  obtain ⟨T, ct, B, cb, rfl, hT⟩ := event_in he
  clear hq he
  have HF := Lib.hid (fun (w1 w2 : World) (A : Option Addr) (c : Nat) => H06.few (w := w) (w1 := w1) (w2 := w2) (q := q) (e := e) (Q := Q) (A := A) (T := T) (B := B) (cq := cq) (c := c) (ct := ct) (cb := cb) hT)
  have HQ := Lib.hid (fun o o' => ((hQ.alloc o).alloc o'))
  clear hT hQ
  go_enter Try.func3, Try.ntmps3
  go_wp2_with fail
  refine (shown06 _).mono ?_
  rintro r w1 ⟨rfl, hb1⟩
  have hb1' : Below (w.heap.size + 1 + 1) ((w.alloc (.cells #[.slice Q q.length cq] 24)).alloc (.cells #[.string e.stream, .string e.type, .slice T e.tags.length ct, .slice B e.fields.length cb] 28)) w1 := by simpa using hb1
  have k1 : Bx w1 w.heap.size 24 [.slice Q q.length cq] := ((Bx.new w 24 [.slice Q q.length cq]).alloc _).below hb1' (by omega)
  have k1c := k1.c0
  have hq1 := (HQ.out _ _).stay (by simpa using hb1.size) (fun k hk hl => hb1.block k (by simp; omega))
  go_wp2_with fail
  refine (few_any _ hq1).mono ?_
  rintro r w2 ⟨A, c, rfl, hs2, hb2⟩
  have hH := HF.out w1 w2 A c hb1' hs2 hb2
  have m1 := (k1.under hb2).free 0
  have m0 := (k1.under hb2).c0
  clear HF HQ hq1 hs2 hb2 k1 k1c hb1 hb1'
  go_upto_region 3 with fail
  generalize w2.setCell ⟨w.heap.size, 0, none⟩ (.slice A (fewM q).length c) = w3 at hH ⊢
  clear m1 m0
  have j1 := hH.be.cell 1
  have j2 := hH.be.cell 2
  have jf := hH.be.free 2
  have j3 := hH.bq.c0
  simp only [List.getElem?_cons_succ, List.getElem?_cons_zero] at j1 j2
  go_upto_if 16 with fail
  go_cut [16] (fun _ wx => H06 w (fewM q) (cutE e) B cb wx A c T ct)
  case first =>
    have hcap := hH.st.1
    have hH := Lib.hid hH
    by_cases h20 : 20 < e.tags.length
    · have hH := Lib.hid (hH.out.cut h20)
      go_wp2_with fail
      go_meet
      case rel => exact hH.out
    · have hH := Lib.hid (hH.out.keep h20)
      go_wp2_with fail
      go_meet
      case rel => exact hH.out
  case rest =>
    have HC := Lib.hid hcut
    clear hcut hH j1 j2 j3 jf
    have hfl := fewM_len q
    generalize fewM q = q at HC hfl
    generalize cutE e = e at HC
    obtain ⟨hq8, hqt⟩ := hfl
    have HQT := Lib.hid hqt
    clear hqt
    have i0 := HC.out.bq.cell 0
    have i1 := HC.out.be.cell 0
    have i2 := HC.out.be.cell 1
    have i3 := HC.out.be.cell 2
    have i4 := HC.out.be.cell 3
    simp only [List.getElem?_cons_succ, List.getElem?_cons_zero] at i0 i1 i2 i3 i4
    have CM := Lib.hid (show Calls Try.prog 14 #[.agg #[.slice A q.length c], vEvent e T ct B cb] wc fun r w' => r = .returned (.bool (matchM q e)) ∧ Below wc.heap.size wc w' from Match_any HC.out.sq.any HC.out.st.any)
    have CN := Lib.hid (fun W (hb : Below wc.heap.size wc W) => Norm_any (w := W) (HC.out.sq.any.below hb) (by omega) (fun c hc => by have := HQT.out c hc; omega))
    generalize hmm : matchM q e = b0 at CM
    have HM := Lib.hid hmm
    clear hmm
    go_upto_region 8 with (first
      | (go_at_call 15; go_fit (CN.out _ HB1.out); rintro r w5 ⟨A2, c2, rfl, h5, hb5⟩; have HS5 := Lib.hid (h5.mono (fun k hk => Nat.le_trans HB1.out.size hk)); have HB5 := Lib.hid (bthen HB1.out hb5); clear h5 hb5)
      | (go_at_call 14; go_fit CM.out; rintro r w4 ⟨rfl, h4⟩; have HB1 := Lib.hid h4; have i5 := (HC.out.bq.under h4).c0; clear h4))
    have H0 := Lib.hid (QmAt.start HC.out HB5.out HS5.out)
    have l1 : w.heap.size < w5.heap.size := by have := HC.out.bq.lt; have := HB5.out.size; omega
    have i6 := (HC.out.bq.under HB5.out).c0
    clear i0 i1 i2 i3 i4 i5 CN
    go_wp2_with fail
    go_loopw [9] (fun i wr => ∃ (m : Nat) (v : Value), m ≤ q.length ∧ i = .int .i64 ((m : Int) - 1) ∧ QmAt w q e B cb A c T ct A2 c2 w5.heap.size m v wr) (fun i _ => (intOf i + 1).toNat)
    case atStart => exact ⟨q.length, _, Nat.le_refl _, rfl, H0.out⟩
    case round =>
      clear H0 HC HB5 HS5 l1 i6 CM HB1
      obtain ⟨m, v, hm, rfl, hf⟩ := hrel
      have hlo := hf.lo
      have hsz := hf.size
      generalize w5.heap.size = g at hf hlo hsz ⊢
      have k0 := hf.bq.c0
      have k1 := hf.bb.c0
      have kf1 := hf.bb.free 0
      cases m with
      | succ j =>
        have ej : ((j + 1 : Nat) : Int) - 1 = (j : Int) := by omega
        rw [ej]
        have hjl : j < q.length := by omega
        obtain ⟨ad, S, sa, U, ua, rfl, hx, hy, hS, hU⟩ := row_clause_at hf.sq.2.2 hjl
        have hxe : q[j]? = some q[j] := List.getElem?_eq_getElem hjl
        generalize q[j] = x at hx hy hS hU hxe
        have HX := Lib.hid hxe
        have hst := Lib.hid (fun (W w1 : World) (v1 : Value) hb hg hown => QmAt.step (W := W) (w1 := w1) (v1 := v1) hf hb hg x HX.out hown)
        have hlen : Hid ((q.drop (j + 1)).reverse.length = q.length - (j + 1)) := by show _ = _; simp
        obtain ⟨V, cv, hv, _⟩ := hf.own.sl
        rw [hlen.out] at hv
        subst hv
        have hown := Lib.hid hf.own
        have hbx := Lib.hid (fun (W w1 : World) => QmAt.box (W := W) (w1 := w1) hf)
        have HL1 := Lib.hid (show ((q.drop (j + 1)).reverse ++ [x]).length = q.length - (j + 1) + 1 by simp)
        have HVB := Lib.hid hf.own.base_le
        have hd := Lib.hid (below_drewN (Below.refl wr.heap.size wr) 1)
        have HKX := Lib.hid (show kClause.K (fun k => k < g ∧ some k ≠ (Value.slice V (q.length - (j + 1)) cv).ownBlock) wr.drew x [.slice S x.tags.length sa, .slice U x.types.length ua] from
          kClause.mono (fun k hk => ⟨hk.2, fun e1 => by have := HVB.out k e1.symm; omega⟩) (kClause.below (kClause_mk hS hU) hd.out))
        have l3 : g + 1 < wr.heap.size := by omega
        have l4 : w.heap.size < wr.heap.size := by omega
        have l5 : ad.block < wr.heap.size := World.block_lt_of_cell? wr (ad.add (j * 2)) hx |> fun h => by rwa [block_add] at h
        have p1 : (0 : Int) ≤ (j : Int) := by omega
        have p2 : (j : Int) < (q.length : Int) := by omega
        clear hf hxe hS hU
        go_wp2_with fail
        go_region_law (first | (refine step_push (W := wr.drew) rfl _ _ _ rfl 33 _ 2 48 Try.underlying22 infoClause rfl (by decide) (by decide) rfl (g + 2) (fun k => k < g) (.slice V (q.length - (j + 1)) cv) _ rfl (hown.out.drewN 1) x [.slice S x.tags.length sa, .slice U x.types.length ua] HKX.out _ rfl rfl (by simpa using hsz) (by rw [hlen.out]; omega) ?_; intro v1 w1 hown1 hg1 hat1 hbel1; obtain ⟨V1, cv1, hv1, _⟩ := hown1.sl; rw [HL1.out] at hv1; subst hv1; have k2 := (hbx.out _ w1 hd.out hg1).cell 0; have kf := (hbx.out _ w1 hd.out hg1).free 0; simp only [List.getElem?_cons_succ, List.getElem?_cons_zero] at k2))
        all_goals go_wp2_with fail
        all_goals go_roundw
        all_goals first
          | exact ⟨j, _, by omega, by go_num, hst.out _ w1 _ hd.out hg1 hown1⟩
          | (simp [intOf]; done)
          | (simp [intOf]; omega)
      | zero =>
        have HF := Lib.hid (show QmAt w q e B cb A c T ct A2 c2 g 0 v wr from hf)
        obtain ⟨V, cv, hv, hs⟩ := hf.own.sl
        have hsv : SlC wr V cv q.reverse := by rw [List.drop_zero] at hs; exact hs.any
        rw [show (q.drop 0).reverse.length = q.length by simp] at hv
        subst hv
        clear hf hs
        go_upto_region 12 with fail
        have HK := Lib.hid (fun W (hb : Below wr.heap.size wr W) => show Below wr.heap.size wr W ∧ W.cell? ⟨w.heap.size, 0, none⟩ = some (.slice A q.length c) ∧
            W.cell? ⟨w.heap.size + 1, 0, none⟩ = some (.string e.stream) ∧ W.cell? ⟨w.heap.size + 1, 1, none⟩ = some (.string e.type) ∧ W.cell? ⟨w.heap.size + 1, 2, none⟩ = some (.slice T e.tags.length ct) ∧ W.cell? ⟨w.heap.size + 1, 3, none⟩ = some (.slice B e.fields.length cb) ∧
            W.cell? ⟨g, 0, none⟩ = some (.slice A2 q.length c2) ∧ W.cell? ⟨g + 1, 0, none⟩ = some (.slice V q.length cv) from
          ⟨hb, (HF.out.bq.under hb).cell 0, (HF.out.be.under hb).cell 0, (HF.out.be.under hb).cell 1, (HF.out.be.under hb).cell 2, (HF.out.be.under hb).cell 3, (HF.out.bn.under hb).cell 0, (HF.out.bb.under hb).cell 0⟩)
        have C0 := Lib.hid (fun W (R : Prop) (hb : Below wr.heap.size wr W ∧ R) => show Calls Try.prog 16 #[.agg #[.slice A q.length c], .agg #[.string e.stream, .string e.type, .slice T e.tags.length ct, .slice B e.fields.length cb]] W fun r w' => r = .returned (.bool b0) ∧ Below W.heap.size W w' from by
          rw [← HM.out]; exact Match06_any (HF.out.sq.any.below hb.1) (HF.out.st.any.below hb.1))
        have C1 := Lib.hid (fun W (R : Prop) (hb : Below wr.heap.size wr W ∧ R) => show Calls Try.prog 14 #[.agg #[.slice A2 q.length c2], .agg #[.string e.stream, .string e.type, .slice T e.tags.length ct, .slice B e.fields.length cb]] W fun r w' => r = .returned (.bool b0) ∧ Below W.heap.size W w' from by
          have := Match_any (e := e) (B := B) (cb := cb) (HF.out.sn.any.below hb.1) (HF.out.st.any.below hb.1)
          rw [match_norm, HM.out, List.length_map] at this
          exact this)
        have C2 := Lib.hid (fun W (R : Prop) (hb : Below wr.heap.size wr W ∧ R) => show Calls Try.prog 14 #[.agg #[.slice V q.length cv], .agg #[.string e.stream, .string e.type, .slice T e.tags.length ct, .slice B e.fields.length cb]] W fun r w' => r = .returned (.bool b0) ∧ Below W.heap.size W w' from by
          have := Match_any (e := e) (B := B) (cb := cb) (hsv.below hb.1) (HF.out.st.any.below hb.1)
          rw [match_rev, HM.out, List.length_reverse] at this
          exact this)
        have C3 := Lib.hid (fun W (R : Prop) (hb : Below wr.heap.size wr W ∧ R) => show Calls Try.prog 15 #[.agg #[.slice A2 q.length c2]] W fun r w' => ∃ A9 c9, r = .returned (.agg #[.slice A9 q.length c9]) ∧ SlC w' A9 c9 (q.map normC) ∧ SlC w' A2 c2 (q.map normC) ∧ Below W.heap.size W w' from by
          have := Norm_any (HF.out.sn.any.below hb.1) (by rw [List.length_map]; omega) (fun c hc => by
            obtain ⟨c', h1, rfl⟩ := List.mem_map.1 hc
            have h2 := HQT.out c' h1
            have h3 := uniq_len c'.tags
            have h4 := uniq_len c'.types
            simp only [normC]
            omega)
          rw [norm_norm, List.length_map] at this
          refine this.mono fun r w' ⟨A9, c9, e1, h1, hb9⟩ => ⟨A9, c9, e1, h1.any, (HF.out.sn.any.below hb.1).below hb9, hb9⟩)
        have C4 := Lib.hid (fun W A9 c9 (h1 : SlC W A9 c9 (q.map normC)) (h2 : SlC W A2 c2 (q.map normC)) => show Calls Try.prog 17 #[.agg #[.slice A9 q.length c9], .agg #[.slice A2 q.length c2]] W fun r w' => r = .returned (.bool true) ∧ Below W.heap.size W w' from by
          have := Same_any h1 h2
          rw [List.length_map, decide_eq_true rfl] at this
          exact this)
        clear k0 k1 kf1 hsv
        rcases b0 with _ | _
        all_goals go_region_held3 (fun W => Below wr.heap.size wr W ∧ W.cell? ⟨w.heap.size, 0, none⟩ = some (.slice A q.length c) ∧
            W.cell? ⟨w.heap.size + 1, 0, none⟩ = some (.string e.stream) ∧ W.cell? ⟨w.heap.size + 1, 1, none⟩ = some (.string e.type) ∧ W.cell? ⟨w.heap.size + 1, 2, none⟩ = some (.slice T e.tags.length ct) ∧ W.cell? ⟨w.heap.size + 1, 3, none⟩ = some (.slice B e.fields.length cb) ∧
            W.cell? ⟨g, 0, none⟩ = some (.slice A2 q.length c2) ∧ W.cell? ⟨g + 1, 0, none⟩ = some (.slice V q.length cv))
          (first | exact HK.out _ (below_drawn (Below.refl _ _)) | exact HK.out _ (bthen (And.left (by assumption : Below wr.heap.size wr _ ∧ _)) (by assumption)))
          (first
            | (go_at_call 17; refine (C4.out _ _ _ H9.out H2.out).mono ?_; rintro r w' ⟨rfl, hb⟩)
            | (go_at_call 15; refine (C3.out _ _ (by assumption)).mono ?_; rintro r w' ⟨A9, c9, rfl, h9, h2, hb⟩; have H9 := Lib.hid h9; have H2 := Lib.hid h2; clear h9 h2)
            | (go_at_call 14; refine (C1.out _ _ (by assumption)).mono ?_; rintro r w' ⟨rfl, hb⟩)
            | (go_at_call 14; refine (C2.out _ _ (by assumption)).mono ?_; rintro r w' ⟨rfl, hb⟩)
            | (go_at_call 16; refine (C0.out _ _ (by assumption)).mono ?_; rintro r w' ⟨rfl, hb⟩))
        all_goals go_wp2_with fail
        all_goals go_ret
        all_goals exact ⟨rfl, bthen HF.out.bel (And.left (by assumption : Below wr.heap.size wr _ ∧ _))⟩
end Go.Proofs.Ythinieokpgmfoaa
