/- QueryBlind: the law's walk. -/
import Derived.Test.YtohhapceeohhdaaHead06
import Derived.Test.YtohhapceeohhdaaStep
set_option linter.unusedVariables false
set_option linter.unusedSimpArgs false
namespace Go.Proofs.Ytohhapceeohhdaa
open Go.RowKit

/-- At a round's head: f in block g, m tags of e are still to be laid. -/
structure BlindAt (w : World) (q : List Clause) (e : Event) (B : Option Addr) (cb : Nat) (A : Option Addr) (c : Nat) (T : Option Addr) (ct : Nat) (stream : ByteArray) (g m : Nat) (v : Value) (wr : World) : Prop where
  bq : Bx wr w.heap.size 30 [.slice A q.length c]
  be : Bx wr (w.heap.size + 1) 34 [.string e.stream, .string e.type, .slice T e.tags.length ct, .slice B e.fields.length cb]
  bf : Bx wr g 34 [.string stream, .string e.type, v, .slice none 0 0]
  sq : Sl kClause (fun k => (k < w.heap.size ∨ w.heap.size + 2 ≤ k) ∧ k < g) wr A c q
  st : Sl Kn.str (fun k => k < w.heap.size) wr T ct e.tags
  own : Own Kn.str 9 (g + 1) (fun _ => False) wr v (e.tags.drop m).reverse
  lo : w.heap.size + 2 ≤ g
  size : g + 1 ≤ wr.heap.size
  bel : Below w.heap.size w wr

theorem H06.lo {w : World} {q : List Clause} {e : Event} {B : Option Addr} {cb : Nat} {W : World} {A : Option Addr} {c : Nat} {T : Option Addr} {ct : Nat} (h : H06 w q e B cb W A c T ct) : w.heap.size + 2 ≤ W.heap.size := by
  have := h.be.lt; omega
theorem BlindAt.start {w wc : World} {q : List Clause} {e : Event} {B A T : Option Addr} {cb c ct : Nat} (h : H06 w q e B cb wc A c T ct) (stream : ByteArray) :
    BlindAt w q e B cb A c T ct stream wc.heap.size e.tags.length (.slice none 0 0) (wc.alloc (.cells #[.string stream, .string e.type, .slice none 0 0, .slice none 0 0] 34)) :=
  ⟨h.bq.alloc _, h.be.alloc _, Bx.new _ _ _, h.sq.bound.alloc _, h.st.alloc _, by rw [List.drop_length]; exact Own.nil_ _ _ _ _ _, h.lo, by simp, h.bel.alloc (by have := h.lo; omega) _⟩

theorem BlindAt.step {w : World} {q : List Clause} {e : Event} {B A T : Option Addr} {cb c ct : Nat} {stream : ByteArray} {g j : Nat} {v v1 : Value} {wr W w1 : World} (h : BlindAt w q e B cb A c T ct stream g (j + 1) v wr) (hb : Below wr.heap.size wr W)
    (hg : W.grownBy w1 v.ownBlock) (y : ByteArray) (hy : e.tags[j]? = some y) (hown : Own Kn.str 9 (g + 1) (fun _ => False) w1 v1 ((e.tags.drop (j + 1)).reverse ++ [y])) :
    BlindAt w q e B cb A c T ct stream g j v1 (w1.setCell ⟨g, 2, none⟩ v1) := by
  have hs := h.size
  have hlo := h.lo
  have hv : ∀ j, v.ownBlock = some j → g + 1 ≤ j := h.own.base_le
  have hne : ∀ j, j < g + 1 → some j ≠ v.ownBlock := fun j hj e => by have := hv j e.symm; omega
  have hbl : ∀ j, j < g + 1 → w1.heap[j]? = wr.heap[j]? := fun j hj => (hg.block j (by have := hb.size; omega) (hne j hj)).trans (hb.block j (by omega))
  have hsz : wr.heap.size ≤ w1.heap.size := Nat.le_trans hb.size hg.size
  obtain ⟨hj, hy⟩ := List.getElem?_eq_some_iff.1 hy
  subst hy
  refine ⟨?_, ?_, ?_, ?_, ?_, ?_, hlo, ?_, ?_⟩
  · exact (h.bq.stay (fun _ => hbl _ (by omega))).far (by simp; omega) _
  · exact (h.be.stay (fun _ => hbl _ (by omega))).far (by simp; omega) _
  · exact (h.bf.stay (fun _ => hbl _ (by omega))).set 2 v1
  · exact (h.sq.stay hsz (fun j hj _ => hbl j (by omega))).setCell (fun j hj => by simp; omega) _
  · exact (h.st.stay hsz (fun j hj _ => hbl j (by omega))).setCell (fun j hj => by simp; omega) _
  · have : (e.tags.drop j).reverse = (e.tags.drop (j + 1)).reverse ++ [e.tags[j]] := by rw [List.drop_eq_getElem_cons hj, List.reverse_cons]
    rw [this]
    exact hown.setCell (fun j hj => hj.elim) (fun j hj => by have := hown.base_le j hj; simp; omega) _
  · simp [World.setCell]; omega
  · refine Below.setCell ?_ (by simp; omega) _
    exact ⟨hg.os.trans (hb.os.trans h.bel.os), hg.tape.trans (hb.tape.trans h.bel.tape), hg.output.trans (hb.output.trans h.bel.output), Nat.le_trans h.bel.size hsz, fun j hj => (hbl j (by omega)).trans (h.bel.block j hj)⟩
theorem BlindAt.box {w : World} {q : List Clause} {e : Event} {B A T : Option Addr} {cb c ct : Nat} {stream : ByteArray} {g m : Nat} {v : Value} {wr W w1 : World} (h : BlindAt w q e B cb A c T ct stream g m v wr) (hb : Below wr.heap.size wr W)
    (hg : W.grownBy w1 v.ownBlock) : Bx w1 g 34 [.string stream, .string e.type, v, .slice none 0 0] :=
  (h.bf.under hb).grown hg (fun e => by have := h.own.base_le _ e.symm; omega)
theorem BlindAt.kept {w : World} {q : List Clause} {e : Event} {B A T V : Option Addr} {cb c ct cv : Nat} {stream : ByteArray} {g m n : Nat} {wr : World} (h : BlindAt w q e B cb A c T ct stream g m (.slice V n cv) wr) (W : World) (hb : Below wr.heap.size wr W) :
    Below wr.heap.size wr W ∧ W.cell? ⟨w.heap.size, 0, none⟩ = some (.slice A q.length c) ∧
            W.cell? ⟨w.heap.size + 1, 0, none⟩ = some (.string e.stream) ∧ W.cell? ⟨w.heap.size + 1, 1, none⟩ = some (.string e.type) ∧ W.cell? ⟨w.heap.size + 1, 2, none⟩ = some (.slice T e.tags.length ct) ∧ W.cell? ⟨w.heap.size + 1, 3, none⟩ = some (.slice B e.fields.length cb) ∧
            W.cell? ⟨g, 0, none⟩ = some (.string stream) ∧ W.cell? ⟨g, 1, none⟩ = some (.string e.type) ∧ W.cell? ⟨g, 2, none⟩ = some (.slice V n cv) ∧ W.cell? ⟨g, 3, none⟩ = some (.slice none 0 0) :=
  ⟨hb, (h.bq.under hb).cell 0, (h.be.under hb).cell 0, (h.be.under hb).cell 1, (h.be.under hb).cell 2, (h.be.under hb).cell 3, (h.bf.under hb).cell 0, (h.bf.under hb).cell 1, (h.bf.under hb).cell 2, (h.bf.under hb).cell 3⟩
theorem BlindAt.c0 {w : World} {q : List Clause} {e : Event} {B A T : Option Addr} {cb c ct : Nat} {stream : ByteArray} {g m : Nat} {v : Value} {wr : World} (h : BlindAt w q e B cb A c T ct stream g m v wr) (W : World) (R : Prop) (hb : Below wr.heap.size wr W ∧ R) :
    Calls Try.prog 44 #[.agg #[.slice A q.length c], .agg #[.string e.stream, .string e.type, .slice T e.tags.length ct, .slice B e.fields.length cb]] W fun r w' => r = .returned (.bool (matchM q e)) ∧ Below W.heap.size W w' :=
  Match_any (h.sq.any.below hb.1) (h.st.any.below hb.1)
theorem hasS_reverse (s : ByteArray) (l : List ByteArray) : hasS s l.reverse = hasS s l := by unfold hasS; exact List.any_reverse
theorem mBlind (q : List Clause) (e : Event) (stream : ByteArray) : matchM q ⟨stream, e.type, e.tags.reverse, []⟩ = matchM q e := by
  unfold matchM; congr 1; funext c; simp [clauseM, hasS_reverse]
theorem BlindAt.c1 {w : World} {q : List Clause} {e : Event} {B A T V : Option Addr} {cb c ct cv : Nat} {stream : ByteArray} {g : Nat} {wr : World} (h : BlindAt w q e B cb A c T ct stream g 0 (.slice V e.tags.length cv) wr) (W : World) (R : Prop) (hb : Below wr.heap.size wr W ∧ R) :
    Calls Try.prog 44 #[.agg #[.slice A q.length c], .agg #[.string stream, .string e.type, .slice V e.tags.length cv, .slice none 0 0]] W fun r w' => r = .returned (.bool (matchM q e)) ∧ Below W.heap.size W w' := by
  obtain ⟨V', cv', hv, hs⟩ := h.own.sl
  simp only [List.drop_zero, List.length_reverse, Value.slice.injEq, true_and] at hv
  obtain ⟨rfl, rfl⟩ := hv
  have hm := Match_any (e := ⟨stream, e.type, e.tags.reverse, []⟩) (B := none) (cb := 0) (h.sq.any.below hb.1) (show SlS W V cv e.tags.reverse from hs.any.below hb.1)
  rw [mBlind] at hm
  simp only [vEvent, List.length_reverse, List.length_nil] at hm
  exact hm
theorem infoString : (Try.prog.info? 9).map (fun i => (i.zero, i.size, i.bytes)) = some (some (.string ByteArray.empty), 1, 16) := by kernel_rfl

set_option maxHeartbeats 4000000 in
set_option maxRecDepth 100000 in
theorem queryBlind_walk (w : World) (c0 : Array Value) (q : List Clause) (hq : kQuery.K (fun _ => True) w q c0.toList) {G0 : Prop} (_ : G0) (c1 : Array Value) (e : Event) (he : kEvent.K (fun _ => True) w e c1.toList) {G1 : Prop} (_ : G1) (s : ByteArray) (hs : s.size ≤ maxLen) :
    Calls Try.prog 8 #[.agg c0, .agg c1, .string s] w fun r w' => r = .returned (.bool true) ∧ Below w.heap.size w w' := by
  obtain ⟨Q, cq, rfl, hQ⟩ := query_in hq
  obtain ⟨T, ct, B, cb, rfl, hT⟩ := event_in he
  clear hq he
  have HF := Lib.hid (fun (w1 w2 : World) (A : Option Addr) (c : Nat) => H06.few (w := w) (w1 := w1) (w2 := w2) (q := q) (e := e) (Q := Q) (A := A) (T := T) (B := B) (cq := cq) (c := c) (ct := ct) (cb := cb) hT)
  have HQ := Lib.hid (fun o o' => ((hQ.alloc o).alloc o'))
  clear hT hQ
  go_enter Try.func8, Try.ntmps8
  go_wp2_with fail
  refine (shown06 _).mono ?_
  rintro r w1 ⟨rfl, hb1⟩
  have hb1' : Below (w.heap.size + 1 + 1) ((w.alloc (.cells #[.slice Q q.length cq] 30)).alloc (.cells #[.string e.stream, .string e.type, .slice T e.tags.length ct, .slice B e.fields.length cb] 34)) w1 := by simpa using hb1
  have k1 : Bx w1 w.heap.size 30 [.slice Q q.length cq] := ((Bx.new w 30 [.slice Q q.length cq]).alloc _).below hb1' (by omega)
  have k1c := k1.c0
  have hq1 := (HQ.out _ _).stay (by simpa using hb1.size) (fun k hk hl => hb1.block k (by simp; omega))
  go_wp2_with fail
  refine (few_any _ hq1).mono ?_
  rintro r w2 ⟨A, c, rfl, hs2, hb2⟩
  have hH := HF.out w1 w2 A c hb1' hs2 hb2
  have m1 := (k1.under hb2).free 0
  have m0 := (k1.under hb2).c0
  clear HF HQ hq1 hs2 hb2 k1 k1c hb1 hb1'
  go_upto_region 3 with fail
  generalize w2.setCell ⟨w.heap.size, 0, none⟩ (.slice A (fewM q).length c) = w3 at hH ⊢
  clear m1 m0
  have j1 := hH.be.cell 1
  have j2 := hH.be.cell 2
  have jf := hH.be.free 2
  have j3 := hH.bq.c0
  simp only [List.getElem?_cons_succ, List.getElem?_cons_zero] at j1 j2
  go_upto_if 16 with fail
  go_cut [16] (fun _ wx => H06 w (fewM q) (cutE e) B cb wx A c T ct)
  case first =>
    have hcap := hH.st.1
    have hH := Lib.hid hH
    by_cases h20 : 20 < e.tags.length
    · have hH := Lib.hid (hH.out.cut h20)
      go_wp2_with fail
      go_meet
      case rel => exact hH.out
    · have hH := Lib.hid (hH.out.keep h20)
      go_wp2_with fail
      go_meet
      case rel => exact hH.out
  case rest =>
    have HC := Lib.hid hcut
    clear hcut hH j1 j2 j3 jf
    generalize fewM q = q at HC
    have he20 : (cutE e).tags.length ≤ 20 := by simp [cutE]; omega
    generalize cutE e = e at HC he20
    have j1 := HC.out.be.cell 1
    have j2 := HC.out.be.cell 2
    simp only [List.getElem?_cons_succ, List.getElem?_cons_zero] at j1 j2
    have hl1 := HC.out.st.1
    have hl2 := HC.out.st.2.1
    unfold maxLen at hl2
    have l1 := HC.out.bq.lt
    have l2 := HC.out.be.lt
    have H0 := Lib.hid (BlindAt.start HC.out s)
    have hl3 : Hid (e.tags.length ≤ ct) := by exact hl1
    go_wp2_with fail
    go_loopw [9] (fun i wr => ∃ (m : Nat) (v : Value), m ≤ e.tags.length ∧ i = .int .i64 ((m : Int) - 1) ∧ BlindAt w q e B cb A c T ct s wc.heap.size m v wr) (fun i _ => (intOf i + 1).toNat)
    case atStart => exact ⟨e.tags.length, _, Nat.le_refl _, rfl, H0.out⟩
    case round =>
      clear H0 HC j1 j2 l1 l2
      obtain ⟨m, v, hm, rfl, hf⟩ := hrel
      have c1 := hf.be.cell 2
      have c2 := hf.bf.cell 2
      have f2 := hf.bf.free 2
      simp only [List.getElem?_cons_succ, List.getElem?_cons_zero] at c1 c2
      have hlo := hf.lo
      have hsz := hf.size
      generalize wc.heap.size = g at hf hlo hsz c2 f2 ⊢
      cases m with
      | succ j =>
        have ej : ((j + 1 : Nat) : Int) - 1 = (j : Int) := by omega
        rw [ej]
        obtain ⟨ad, rfl, hx⟩ := row_str_at hf.st.2.2 (j := j) (by omega)
        have hxe : e.tags[j]? = some e.tags[j] := List.getElem?_eq_getElem (by omega)
        generalize e.tags[j] = y at hx hxe
        have HX := Lib.hid hxe
        have hst := Lib.hid (fun (W w1 : World) (v1 : Value) hb hg hown => BlindAt.step (W := W) (w1 := w1) (v1 := v1) hf hb hg y HX.out hown)
        have hlen : Hid ((e.tags.drop (j + 1)).reverse.length = e.tags.length - (j + 1)) := by show _ = _; simp
        obtain ⟨V, cv, hv, _⟩ := hf.own.sl
        rw [hlen.out] at hv
        subst hv
        have hown := Lib.hid (hf.own)
        have hbx := Lib.hid (fun (W w1 : World) => BlindAt.box (W := W) (w1 := w1) hf)
        have hlen1 : ((e.tags.drop (j + 1)).reverse ++ [y]).length = e.tags.length - (j + 1) + 1 := by simp
        have HL1 := Lib.hid hlen1
        clear hlen1
        have hd := Lib.hid (below_drewN (Below.refl wr.heap.size wr) 1)
        have l3 : g < wr.heap.size := by omega
        have l4 : w.heap.size + 1 < wr.heap.size := by omega
        have l5 : ad.block < wr.heap.size := World.block_lt_of_cell? wr (ad.add j) hx |> fun h => by rwa [block_add] at h
        have p1 : (0 : Int) ≤ (j : Int) := by omega
        have p2 : (j : Int) < (e.tags.length : Int) := by omega
        clear hf hxe
        go_wp2_with fail
        go_region_law (first | (refine step_push (W := wr.drew) rfl _ _ _ rfl 9 _ 1 16 Try.underlying31 infoString rfl (by decide) (by decide) rfl (g + 1) (fun _ => False) _ _ rfl (hown.out.drewN 1) y [.string y] rfl _ rfl rfl (by simpa using hsz) (by rw [hlen.out]; omega) ?_; intro v1 w1 hown1 hg1 hat1 hbel1; obtain ⟨V1, cv1, hv1, _⟩ := hown1.sl; rw [HL1.out] at hv1; subst hv1; have k2 := (hbx.out _ w1 hd.out hg1).cell 2; have kf := (hbx.out _ w1 hd.out hg1).free 2; simp only [List.getElem?_cons_succ, List.getElem?_cons_zero] at k2))
        go_wp2_with fail
        all_goals go_roundw
        all_goals first | exact ⟨j, _, by omega, by go_num, hst.out _ w1 _ hd.out hg1 hown1⟩ | (simp [intOf]; done) | (simp [intOf]; omega)
      | zero =>
        have HF := Lib.hid (show BlindAt w q e B cb A c T ct s g 0 v wr from hf)
        obtain ⟨V, cv, hv, _⟩ := hf.own.sl
        rw [show (e.tags.drop 0).reverse.length = e.tags.length by simp] at hv
        subst hv
        clear hf
        go_upto_region 10 with fail
        have HK := Lib.hid HF.out.kept
        have C0 := Lib.hid HF.out.c0
        have C1 := Lib.hid HF.out.c1
        generalize matchM q e = b at C0 C1
        rcases b with _ | _
        all_goals go_region_held3 (fun W => Below wr.heap.size wr W ∧ W.cell? ⟨w.heap.size, 0, none⟩ = some (.slice A q.length c) ∧
            W.cell? ⟨w.heap.size + 1, 0, none⟩ = some (.string e.stream) ∧ W.cell? ⟨w.heap.size + 1, 1, none⟩ = some (.string e.type) ∧ W.cell? ⟨w.heap.size + 1, 2, none⟩ = some (.slice T e.tags.length ct) ∧ W.cell? ⟨w.heap.size + 1, 3, none⟩ = some (.slice B e.fields.length cb) ∧
            W.cell? ⟨g, 0, none⟩ = some (.string s) ∧ W.cell? ⟨g, 1, none⟩ = some (.string e.type) ∧ W.cell? ⟨g, 2, none⟩ = some (.slice V e.tags.length cv) ∧ W.cell? ⟨g, 3, none⟩ = some (.slice none 0 0))
          (first | exact HK.out _ (below_drawn (Below.refl _ _)) | exact HK.out _ (bthen (And.left (by assumption : Below wr.heap.size wr _ ∧ _)) (by assumption)))
          (first
            | (go_at_call 44; refine (C0.out _ _ (by assumption)).mono ?_; rintro r w' ⟨rfl, hb⟩)
            | (go_at_call 44; refine (C1.out _ _ (by assumption)).mono ?_; rintro r w' ⟨rfl, hb⟩))
        all_goals go_wp2_with fail
        all_goals go_ret
        all_goals exact ⟨rfl, bthen HF.out.bel (And.left (by assumption : Below wr.heap.size wr _ ∧ _))⟩
end Go.Proofs.Ytohhapceeohhdaa
