/- IndexStays: plain facts. A query of at most 8 clauses, of 8 tags and 8 types each: plain, and its state. registrarlaw14.less: a query of at most 8 clauses, of 8 tags and 8 types each (walk). registrarref04.Has. registrarref06.clause. registrarref06.Match. IndexStays: the law's walk. The closed facts that every row of this seat leans on, each proved for itself: the order's text is long, so it is read once as a list of signs. The row of the law IndexStays, over its walk: for every input the call returns true and each argument reads afterwards as it read before. No conditions. -/
import Derived.Test.YtfoghahidofegaaBundJ
import Derived.Test.YtfoghahidofegaaBundA
import Derived.Deep.RegionHeld3
import Derived.Deep.DeepFit
import Derived.Test.YtfoghahidofegaaBundI
import Derived.Test.YtfoghahidofegaaBundR
import Derived.Deep.CutBlock
import Derived.Test.YtfoghahidofegaaRows
import Derived.JoinedOf
import Derived.KernelRfl
import Derived.WalkKit
import Derived.ProofKit
import Derived.OpenShut
import Derived.ShutString
import Derived.ChangeOld
import Derived.Below
import Derived.SizedLaws
set_option linter.unusedVariables false
set_option linter.unusedSimpArgs false
namespace Go.Proofs.Ytfoghahidofegaa
open Go.RowKit Go.Maps

theorem addTo_pre (es : List Event) (after : Int) (bs : List Event) : ∃ ds, addTo es after bs = es ++ ds := by
  unfold addTo
  split
  · exact ⟨bs, rfl⟩
  · exact ⟨[], (List.append_nil es).symm⟩
theorem growB_pre (es : List Event) (ms : List Bt) : ∃ ds, growB es ms = es ++ ds := by
  induction ms generalizing es with
  | nil => exact ⟨[], (List.append_nil es).symm⟩
  | cons b ms ih =>
    obtain ⟨ds, h⟩ := addTo_pre es es.length (few8 b.2)
    obtain ⟨fs, h2⟩ := ih (addTo es es.length (few8 b.2))
    refine ⟨ds ++ fs, ?_⟩
    show growB (addTo es es.length (few8 b.2)) ms = _
    rw [h2, h, List.append_assoc]
theorem filter_pre (es ds : List Event) (f : Rec → Bool) {x : Int} (hx : x ≤ es.length) : (recsOf (es ++ ds)).filter (fun r => f r && decide (r.pos ≤ x)) = (recsOf es).filter (fun r => f r && decide (r.pos ≤ x)) := by
  rw [recsOf_append, List.filter_append]
  have : (recsFrom es ds).filter (fun r => f r && decide (r.pos ≤ x)) = [] := by
    rw [List.filter_eq_nil_iff]
    intro r hr
    have := (recsFrom_lo hr).1
    simp
    intro _
    omega
  rw [this, List.append_nil]
theorem strm_pre (es ds : List Event) (s : ByteArray) {x : Int} (hx : x ≤ es.length) : strmR (es ++ ds) s x = strmR es s x := filter_pre es ds (fun r => decide (r.ev.stream = s)) hx
theorem qry_pre (es ds : List Event) (q : List Clause) {x : Int} (hx : x ≤ es.length) : qryR (es ++ ds) q x = qryR es q x := filter_pre es ds (fun r => matchM q r.ev) hx
theorem recsFrom_ver (pre es : List Event) (s : ByteArray) {k : Nat} {r : Rec} (h : ((recsFrom pre es).filter (fun r => decide (r.ev.stream = s)))[k]? = some r) : r.ver = (cntS pre s : Int) + k + 1 ∧ r.ev.stream = s := by
  induction es generalizing pre k with
  | nil => simp [recsFrom] at h
  | cons e es ih =>
    simp only [recsFrom, List.filter_cons] at h
    have hc : cntS (pre ++ [e]) s = cntS pre s + (if e.stream = s then 1 else 0) := by
      unfold cntS
      rw [List.filter_append, List.length_append]
      by_cases h : e.stream = s <;> simp [h]
    by_cases he : e.stream = s
    · simp only [he, decide_true, if_true] at h
      cases k with
      | zero =>
        simp only [List.getElem?_cons_zero, Option.some.injEq] at h
        subst h
        exact ⟨by simp, he⟩
      | succ k =>
        rw [List.getElem?_cons_succ] at h
        have := ih (pre ++ [e]) h
        rw [hc, if_pos he] at this
        exact ⟨by rw [this.1]; push_cast; omega, this.2⟩
    · simp only [he, decide_false, Bool.false_eq_true, if_false] at h
      have := ih (pre ++ [e]) h
      rw [hc, if_neg he] at this
      exact ⟨by rw [this.1]; push_cast; omega, this.2⟩
theorem strm_at (es : List Event) (s : ByteArray) {k : Nat} {r : Rec} (h : (strmR es s es.length)[k]? = some r) : r.ver = k + 1 ∧ r.ev.stream = s := by
  rw [strmR_all es s (Int.le_refl _)] at h
  have := recsFrom_ver [] es s h
  exact ⟨by rw [this.1]; simp [cntS], this.2⟩
theorem qry_rise (es : List Event) (q : List Clause) (x : Int) : (qryR es q x).Pairwise (fun a b => a.pos < b.pos) := (recsOf_rise es).sublist List.filter_sublist
theorem qry_mem {es : List Event} {q : List Clause} {x : Int} {r : Rec} (h : r ∈ qryR es q x) : matchM q r.ev = true := by
  have := (List.mem_filter.1 h).2
  rw [Bool.and_eq_true] at this
  exact this.1
theorem qry_more (es : List Event) (q : List Clause) {a : Int} (ha : a ≤ es.length) : sinceR es q a = decide ((qryR es q a).length < (qryR es q es.length).length) := by
  have h1 : qryR es q a = (qryR es q es.length).filter (fun r => decide (r.pos ≤ a)) := by
    unfold qryR
    rw [List.filter_filter]
    refine List.filter_congr (fun r hr => ?_)
    have := (recsOf_mem hr).2.1
    simp only [decide_eq_true this, Bool.and_true]
    rw [Bool.and_comm]
  have hle := List.length_filter_le (fun r : Rec => decide (r.pos ≤ a)) (qryR es q es.length)
  rw [Bool.eq_iff_iff, decide_eq_true_eq, h1]
  constructor
  · intro h
    refine Nat.lt_of_le_of_ne hle (fun e => ?_)
    have h2 := List.length_filter_eq_length_iff.1 e
    unfold sinceR at h
    obtain ⟨r, hr, hc⟩ := List.any_eq_true.1 h
    rw [Bool.and_eq_true, decide_eq_true_eq] at hc
    have h3 := h2 r (List.mem_filter.2 ⟨hr, by rw [hc.1, decide_eq_true (recsOf_mem hr).2.1]; rfl⟩)
    rw [decide_eq_true_eq] at h3
    omega
  · intro h
    cases hs : sinceR es q a with
    | true => rfl
    | false =>
      exfalso
      refine Nat.ne_of_lt h (List.length_filter_eq_length_iff.2 (fun r hr => ?_))
      obtain ⟨hr, hm⟩ := List.mem_filter.1 hr
      rw [Bool.and_eq_true] at hm
      unfold sinceR at hs
      rw [List.any_eq_false] at hs
      have h3 := hs r hr
      rw [hm.1, Bool.true_and, decide_eq_true_eq] at h3
      rw [decide_eq_true_eq]
      omega
end Go.Proofs.Ytfoghahidofegaa

namespace Go.Proofs.Ytfoghahidofegaa
open Go.RowKit

theorem infoClause : (Try.prog.info? 95).map (fun i => (i.zero, i.size, i.bytes)) = some (some (.agg #[.slice none 0 0, .slice none 0 0]), 2, 48) := by kernel_rfl
def cutC (c : Clause) : Clause := ⟨c.tags.take 8, c.types.take 8⟩
def fewM (q : List Clause) : List Clause := (q.take 8).map cutC
theorem fewM_succ (q : List Clause) (k : Nat) (h : k < q.length) (h8 : k < 8) : (q.take (k + 1)).map cutC = (q.take k).map cutC ++ [cutC q[k]] := by
  rw [List.take_succ_eq_append_getElem h, List.map_append]; rfl

/-- few's state at a round's head: the boxes of q, of the result, of out; out's clauses. -/
structure FewAt (ok : Nat → Prop) (q : List Clause) (Q : Option Addr) (cq : Nat) (w : World) (k : Nat) (v : Value) (wr : World) : Prop where
  b1 : Bx wr w.heap.size 56 [.slice Q q.length cq]
  b2 : Bx wr (w.heap.size + 1) 56 [.slice none 0 0]
  b3 : Bx wr (w.heap.size + 1 + 1) 56 [v]
  own : Own kClause 95 (w.heap.size + 3) (fun k => ok k ∧ k < w.heap.size) wr v ((q.take k).map cutC)
  sl : Sl kClause (fun k => ok k ∧ k < w.heap.size) wr Q cq q
  size : w.heap.size + 3 ≤ wr.heap.size
  bel : Below w.heap.size w wr

theorem FewAt.box {ok : Nat → Prop} {q : List Clause} {Q : Option Addr} {cq : Nat} {w : World} {k : Nat} {v : Value} {wr W w1 : World} (h : FewAt ok q Q cq w k v wr) (hb : Below wr.heap.size wr W) (hg : W.grownBy w1 v.ownBlock) : Bx w1 (w.heap.size + 1 + 1) 56 [v] :=
  (h.b3.under hb).grown hg (fun e => by have := h.own.base_le _ e.symm; omega)
/-- A round's end. -/
theorem FewAt.step {ok : Nat → Prop} {q : List Clause} {Q : Option Addr} {cq : Nat} {w : World} {k : Nat} {v v1 : Value} {wr W w1 : World} (h : FewAt ok q Q cq w k v wr) (hb : Below wr.heap.size wr W)
    (hg : W.grownBy w1 v.ownBlock) (x : Clause) (hxe : q[k]? = some x) (h8 : k < 8) (hown : Own kClause 95 (w.heap.size + 3) (fun k => ok k ∧ k < w.heap.size) w1 v1 ((q.take k).map cutC ++ [cutC x])) :
    FewAt ok q Q cq w (k + 1) v1 (w1.setCell ⟨w.heap.size + 1 + 1, 0, none⟩ v1) := by
  have hs := h.size
  obtain ⟨hk, hxe⟩ := List.getElem?_eq_some_iff.1 hxe
  subst hxe
  have hv : ∀ j, v.ownBlock = some j → w.heap.size + 3 ≤ j := h.own.base_le
  have hne : ∀ j, j < w.heap.size + 3 → some j ≠ v.ownBlock := fun j hj e => by have := hv j e.symm; omega
  have hbl : ∀ j, j < w.heap.size + 3 → w1.heap[j]? = wr.heap[j]? := fun j hj => (hg.block j (by have := hb.size; omega) (hne j hj)).trans (hb.block j (by omega))
  have hsz : wr.heap.size ≤ w1.heap.size := Nat.le_trans hb.size hg.size
  refine ⟨?_, ?_, ?_, ?_, ?_, ?_, ?_⟩
  · exact (h.b1.stay (fun _ => hbl _ (by omega))).far (by simp; omega) _
  · exact (h.b2.stay (fun _ => hbl _ (by omega))).far (by simp) _
  · exact (h.b3.stay (fun _ => hbl _ (by omega))).set 0 v1
  · rw [fewM_succ q k hk h8]
    exact hown.setCell (fun j hj => by simp; omega) (fun j hj => by have := hown.base_le j hj; simp; omega) _
  · exact ((h.sl.stay hsz (fun j hj _ => hbl j (by omega)))).setCell (fun j hj => by simp; omega) _
  · simp [World.setCell]; omega
  · refine Below.setCell ?_ (by simp; omega) _
    exact ⟨hg.os.trans (hb.os.trans h.bel.os), hg.tape.trans (hb.tape.trans h.bel.tape), hg.output.trans (hb.output.trans h.bel.output), Nat.le_trans h.bel.size hsz, fun j hj => (hbl j (by omega)).trans (h.bel.block j hj)⟩

end Go.Proofs.Ytfoghahidofegaa

namespace Go.Proofs.Ytfoghahidofegaa
open Go.RowKit

set_option maxHeartbeats 4000000 in
set_option maxRecDepth 100000 in
theorem less14_any (ok : Nat → Prop) {q : List Clause} {Q : Option Addr} {cq : Nat} {w : World} (hq : Sl kClause ok w Q cq q) :
    Calls Try.prog 22 #[.agg #[.slice Q q.length cq]] w fun r w' => ∃ A c, r = .returned (.agg #[.slice A (fewM q).length c]) ∧ Sl kClause (fun k => ok k ∨ w.heap.size ≤ k) w' A c (fewM q) ∧ Below w.heap.size w w' := by
  have hq2 := hq.2.1
  unfold maxLen at hq2
  have hq1 := hq.1
  have h0 : FewAt ok q Q cq w 0 (.slice none 0 0) (((w.alloc (.cells #[.slice Q q.length cq] 56)).alloc (.cells #[.slice none 0 0] 56)).alloc (.cells #[.slice none 0 0] 56)) := by
    refine ⟨?_, ?_, ?_, Own.nil_ _ _ _ _ _, ((hq.bound.alloc _).alloc _).alloc _, by simp, (((Below.refl _ _).alloc (Nat.le_refl _) _).alloc (by simp) _).alloc (by simp; omega) _⟩
    · exact ((Bx.new w _ [.slice Q q.length cq]).alloc _).alloc _
    · exact (by simpa using Bx.new (w.alloc (.cells #[.slice Q q.length cq] 56)) 56 [.slice none 0 0] : Bx _ (w.heap.size + 1) _ _).alloc _
    · simpa using Bx.new ((w.alloc (.cells #[.slice Q q.length cq] 56)).alloc (.cells #[.slice none 0 0] 56)) 56 [.slice none 0 0]
  have H0 := Lib.hid h0
  clear h0
  go_enter Try.func22, Try.ntmps22
  go_wp2
  go_loopw [4, 5] (fun i _ wr => ∃ (k : Nat) (v : Value), k ≤ 8 ∧ k ≤ q.length ∧ i = .int .i64 k ∧ FewAt ok q Q cq w k v wr) (fun i _ _ => q.length - (intOf i).toNat)
  case atStart => exact ⟨0, _, Nat.zero_le _, Nat.zero_le _, rfl, H0.out⟩
  case round =>
    clear H0
    obtain ⟨k, v, hk8, hk, rfl, hf⟩ := hrel
    have c1 := hf.b1.c0
    have c2 := hf.b2.c0
    have c3 := hf.b3.c0
    have f3 := hf.b3.free 0
    have hsz := hf.size
    have l1 : w.heap.size < wr.heap.size := by omega
    have l2 : w.heap.size + 1 < wr.heap.size := by omega
    have l3 : w.heap.size + 1 + 1 < wr.heap.size := by omega
    by_cases hlt : k < q.length ∧ k < 8
    · obtain ⟨hlt, h8⟩ := hlt
      obtain ⟨ad, S, sa, T, ta, rfl, hx, hy, hS, hT⟩ := row_clause_at hf.sl.2.2 hlt
      have hst := Lib.hid (fun (W w1 : World) (v1 : Value) => FewAt.step (W := W) (w1 := w1) (v1 := v1) hf)
      have hown := Lib.hid hf.own
      have hbx := Lib.hid (fun (W w1 : World) => FewAt.box (W := W) (w1 := w1) hf)
      have hkk : ∀ n m, (cutC q[k]).tags.length = n → (cutC q[k]).types.length = m → kClause.K (fun j => (ok j ∧ j < w.heap.size) ∧ some j ≠ v.ownBlock) wr (cutC q[k]) [.slice S n sa, .slice T m ta] := fun n m e1 e2 =>
        kClause.mono (fun j hj => ⟨hj, fun e => by have := hf.own.base_le j e.symm; omega⟩) (kClause_mk' (hS.take 8) (hT.take 8) e1 e2)
      have hxe : q[k]? = some q[k] := List.getElem?_eq_getElem hlt
      have hlen : ∀ y, ((q.take k).map cutC ++ [cutC y]).length = k + 1 := by intro y; simp; omega
      have HX := Lib.hid hxe
      generalize q[k] = x at hx hy hS hT hkk HX
      clear hf hxe
      have hsa := hS.1
      have hta := hT.1
      by_cases ht : 8 < x.tags.length <;> by_cases hty : 8 < x.types.length
      · have HK := Lib.hid (fun o => kClause.below (hkk 8 8 (by simp [cutC]; omega) (by simp [cutC]; omega)) ((Below.refl _ wr).alloc (Nat.le_refl _) o))
        clear hkk
        go_wp2_with (at_builtin; refine wpList_pushH rfl _ _ _ rfl 95 _ 2 48 Try.underlying54 infoClause rfl (by decide) (by decide) rfl (w.heap.size + 3) (fun k => ok k ∧ k < w.heap.size) _ ((q.take k).map cutC) rfl (hown.out.alloc _) (cutC x) _ (HK.out _) (wr.heap.size + 1) (by simp) rfl (by simp; omega) (by simp; omega) ?_; intro v1 w1 hown1 hg1 hat1 hbel1; obtain ⟨A1, cc1, rfl, hsl1⟩ := hown1.sl; rw [hlen] at hown1; have k3 := (hbx.out _ w1 ((Below.refl _ wr).alloc (Nat.le_refl _) _) hg1).c0; have kf := (hbx.out _ w1 ((Below.refl _ wr).alloc (Nat.le_refl _) _) hg1).free 0)
        go_roundw
        case rel => exact ⟨k + 1, _, by omega, by omega, by go_num, hst.out _ w1 _ ((Below.refl _ wr).alloc (Nat.le_refl _) _) hg1 x HX.out h8 hown1⟩
        case measure => simp [intOf]; omega
      · have HK := Lib.hid (fun o => kClause.below (hkk 8 x.types.length (by simp [cutC]; omega) (by simp [cutC]; omega)) ((Below.refl _ wr).alloc (Nat.le_refl _) o))
        clear hkk
        go_wp2_with (at_builtin; refine wpList_pushH rfl _ _ _ rfl 95 _ 2 48 Try.underlying54 infoClause rfl (by decide) (by decide) rfl (w.heap.size + 3) (fun k => ok k ∧ k < w.heap.size) _ ((q.take k).map cutC) rfl (hown.out.alloc _) (cutC x) _ (HK.out _) (wr.heap.size + 1) (by simp) rfl (by simp; omega) (by simp; omega) ?_; intro v1 w1 hown1 hg1 hat1 hbel1; obtain ⟨A1, cc1, rfl, hsl1⟩ := hown1.sl; rw [hlen] at hown1; have k3 := (hbx.out _ w1 ((Below.refl _ wr).alloc (Nat.le_refl _) _) hg1).c0; have kf := (hbx.out _ w1 ((Below.refl _ wr).alloc (Nat.le_refl _) _) hg1).free 0)
        go_roundw
        case rel => exact ⟨k + 1, _, by omega, by omega, by go_num, hst.out _ w1 _ ((Below.refl _ wr).alloc (Nat.le_refl _) _) hg1 x HX.out h8 hown1⟩
        case measure => simp [intOf]; omega
      · have HK := Lib.hid (fun o => kClause.below (hkk x.tags.length 8 (by simp [cutC]; omega) (by simp [cutC]; omega)) ((Below.refl _ wr).alloc (Nat.le_refl _) o))
        clear hkk
        go_wp2_with (at_builtin; refine wpList_pushH rfl _ _ _ rfl 95 _ 2 48 Try.underlying54 infoClause rfl (by decide) (by decide) rfl (w.heap.size + 3) (fun k => ok k ∧ k < w.heap.size) _ ((q.take k).map cutC) rfl (hown.out.alloc _) (cutC x) _ (HK.out _) (wr.heap.size + 1) (by simp) rfl (by simp; omega) (by simp; omega) ?_; intro v1 w1 hown1 hg1 hat1 hbel1; obtain ⟨A1, cc1, rfl, hsl1⟩ := hown1.sl; rw [hlen] at hown1; have k3 := (hbx.out _ w1 ((Below.refl _ wr).alloc (Nat.le_refl _) _) hg1).c0; have kf := (hbx.out _ w1 ((Below.refl _ wr).alloc (Nat.le_refl _) _) hg1).free 0)
        go_roundw
        case rel => exact ⟨k + 1, _, by omega, by omega, by go_num, hst.out _ w1 _ ((Below.refl _ wr).alloc (Nat.le_refl _) _) hg1 x HX.out h8 hown1⟩
        case measure => simp [intOf]; omega
      · have HK := Lib.hid (fun o => kClause.below (hkk x.tags.length x.types.length (by simp [cutC]; omega) (by simp [cutC]; omega)) ((Below.refl _ wr).alloc (Nat.le_refl _) o))
        clear hkk
        go_wp2_with (at_builtin; refine wpList_pushH rfl _ _ _ rfl 95 _ 2 48 Try.underlying54 infoClause rfl (by decide) (by decide) rfl (w.heap.size + 3) (fun k => ok k ∧ k < w.heap.size) _ ((q.take k).map cutC) rfl (hown.out.alloc _) (cutC x) _ (HK.out _) (wr.heap.size + 1) (by simp) rfl (by simp; omega) (by simp; omega) ?_; intro v1 w1 hown1 hg1 hat1 hbel1; obtain ⟨A1, cc1, rfl, hsl1⟩ := hown1.sl; rw [hlen] at hown1; have k3 := (hbx.out _ w1 ((Below.refl _ wr).alloc (Nat.le_refl _) _) hg1).c0; have kf := (hbx.out _ w1 ((Below.refl _ wr).alloc (Nat.le_refl _) _) hg1).free 0)
        go_roundw
        case rel => exact ⟨k + 1, _, by omega, by omega, by go_num, hst.out _ w1 _ ((Below.refl _ wr).alloc (Nat.le_refl _) _) hg1 x HX.out h8 hown1⟩
        case measure => simp [intOf]; omega
    · have hown := hf.own
      have hfin : (q.take k).map cutC = fewM q := by
        unfold fewM
        congr 1
        rcases Nat.lt_or_ge k 8 with h | h
        · rw [List.take_of_length_le (by omega), List.take_of_length_le (by omega)]
        · rw [show k = 8 by omega]
      rw [hfin] at hown
      obtain ⟨A1, cc1, rfl, hsl1⟩ := hown.sl
      have hb := hf.bel
      have hR := Lib.hid (show Bx (wr.setCell ⟨w.heap.size + 1, 0, none⟩ (.slice A1 (fewM q).length cc1)) (w.heap.size + 1) 56 [.slice A1 (fewM q).length cc1] from hf.b2.set 0 _)
      have f2 := hf.b2.free 0
      clear hf hfin
      rcases Nat.lt_or_ge k q.length with hc | hc
      · have h8 : ¬ k < 8 := fun h => hlt ⟨hc, h⟩
        go_wp2_with fail
        exact bodyPost_ret (v := .agg #[.slice A1 (fewM q).length cc1]) (by simp [results, Try.results22, go_sem, hR.out.c0]) rfl ⟨A1, cc1, rfl, (hsl1.setCell (fun j hj => by simp; omega) _).mono (fun k hk => hk.imp And.left (fun h => by omega)), hb.setCell (by simp) _⟩
      · go_wp2_with fail
        exact bodyPost_ret (v := .agg #[.slice A1 (fewM q).length cc1]) (by simp [results, Try.results22, go_sem, hR.out.c0]) rfl ⟨A1, cc1, rfl, (hsl1.setCell (fun j hj => by simp; omega) _).mono (fun k hk => hk.imp And.left (fun h => by omega)), hb.setCell (by simp) _⟩
end Go.Proofs.Ytfoghahidofegaa

namespace Go.Proofs.Ytfoghahidofegaa
open Go.RowKit

theorem hasS_take_no {s : ByteArray} {l : List ByteArray} (h : ∀ j (hj : j < l.length), l[j] ≠ s) : hasS s l = false := by
  rw [Bool.eq_false_iff]
  intro hh
  obtain ⟨j, hj, e⟩ := List.mem_iff_getElem.1 ((hasS_iff s l).1 hh)
  exact h j hj e
set_option maxHeartbeats 400000 in
theorem Has04_any {e : Event} {T F : Option Addr} {ct cf : Nat} {w : World} (h : Sl Kn.str (fun _ => True) w T ct e.tags) (s : ByteArray) :
    Calls Try.prog 73 #[vEvent e T ct F cf, .string s] w fun r w' => r = .returned (.bool (hasS s e.tags)) ∧ Below w.heap.size w w' := by
  have h1 := h.1
  have h2 := h.2.1
  unfold maxLen at h2
  unfold vEvent
  go_enter Try.func73, Try.ntmps73
  go_wp2
  have H1 := Lib.hid (h.alloc (.cells #[.string e.stream, .string e.type, .slice T e.tags.length ct, .slice F e.fields.length cf] 25))
  have hz := (Bx.new w 25 [.string e.stream, .string e.type, .slice T e.tags.length ct, .slice F e.fields.length cf]).cell 2
  have HB := Lib.hid (show Below w.heap.size w (w.alloc (.cells #[.string e.stream, .string e.type, .slice T e.tags.length ct, .slice F e.fields.length cf] 25)) from (Below.refl _ _).alloc (Nat.le_refl _) _)
  simp only [List.getElem?_cons_succ, List.getElem?_cons_zero] at hz
  clear h
  generalize w.alloc (.cells #[.string e.stream, .string e.type, .slice T e.tags.length ct, .slice F e.fields.length cf] 25) = X at *
  generalize w.heap.size = g at hz ⊢
  go_loopw [5] (fun i wr => ∃ k n : Nat, k ≤ e.tags.length ∧ i = .int .i64 k ∧ (∀ j (hj : j < e.tags.length), j < k → e.tags[j] ≠ s) ∧ wr = X.drewN n) (fun i _ => e.tags.length - (intOf i).toNat)
  case atStart => exact ⟨0, 0, Nat.zero_le _, rfl, fun j hj hk => by omega, rfl⟩
  case round =>
    obtain ⟨k, n, hk, rfl, hal, rfl⟩ := hrel
    have HAL := Lib.hid hal
    clear hal
    by_cases hlt : k < e.tags.length
    · obtain ⟨ad, rfl, hx⟩ := row_str_at H1.out.2.2 hlt
      generalize hxe : e.tags[k] = x at hx
      have HX := Lib.hid hxe
      clear hxe
      have b1 : (0 : Int) ≤ (k : Int) := Int.natCast_nonneg _
      have b2 : (k : Int) < (e.tags.length : Int) := by omega
      have hq := strEqL x s
      by_cases hxy : x = s
      · rw [decide_eq_true hxy] at hq
        have HXY := Lib.hid hxy
        clear hxy
        go_wp2
        go_ret
        refine ⟨?_, bthen HB.out (below_drewN (Below.refl _ _) _)⟩
        rw [(hasS_iff s e.tags).2 (by rw [← HXY.out, ← HX.out]; exact List.getElem_mem hlt)]
        rfl
      · rw [decide_eq_false hxy] at hq
        have HXY := Lib.hid hxy
        clear hxy
        go_wp2
        go_roundw
        case rel =>
          refine ⟨k + 1, _, by omega, by go_num, fun j hj hjk => ?_, rfl⟩
          rcases Nat.lt_or_ge j k with h | h
          · exact HAL.out j hj h
          · obtain rfl : j = k := by omega
            rw [HX.out]; exact HXY.out
        case measure => simp [intOf]; omega
    · go_wp2
      go_ret
      refine ⟨?_, bthen HB.out (below_drewN (Below.refl _ _) _)⟩
      rw [hasS_take_no (fun j hj => HAL.out j hj (by omega))]
      rfl
end Go.Proofs.Ytfoghahidofegaa
namespace Go.Proofs.Ytfoghahidofegaa
open Go.RowKit

theorem all_of {α : Type} {l : List α} {f : α → Bool} (h : ∀ j (hj : j < l.length), f l[j] = true) : l.all f = true := by
  rw [List.all_eq_true]
  intro x hx
  obtain ⟨j, hj, e⟩ := List.mem_iff_getElem.1 hx
  exact e ▸ h j hj
theorem all_no {α : Type} {l : List α} {f : α → Bool} {j : Nat} (hj : j < l.length) (h : f l[j] = false) : l.all f = false := by
  rw [Bool.eq_false_iff]
  intro hh
  rw [List.all_eq_true.1 hh _ (List.getElem_mem hj)] at h
  cases h
set_option maxHeartbeats 1000000 in
set_option maxRecDepth 4000 in
theorem clause06_any {c : Clause} {e : Event} {S U T F : Option Addr} {cs cu ct cf : Nat} {w : World} (hS : Sl Kn.str (fun _ => True) w S cs c.tags) (hU : Sl Kn.str (fun _ => True) w U cu c.types) (hT : Sl Kn.str (fun _ => True) w T ct e.tags) :
    Calls Try.prog 54 #[.agg #[.slice S c.tags.length cs, .slice U c.types.length cu], vEvent e T ct F cf] w fun r w' => r = .returned (.bool (clauseM e c)) ∧ Below w.heap.size w w' := by
  have hs1 := hS.1
  have hs2 := hS.2.1
  have hu1 := hU.1
  have hu2 := hU.2.1
  unfold maxLen at hs2 hu2
  unfold vEvent
  go_enter Try.func54, Try.ntmps54
  go_upto_region 2 with fail
  have ha : Below w.heap.size w (w.alloc (.cells #[.slice S c.tags.length cs, .slice U c.types.length cu] 95)) := (Below.refl _ _).alloc (Nat.le_refl _) _
  have hbx1 := (Bx.new w 95 [.slice S c.tags.length cs, .slice U c.types.length cu]).alloc (.cells #[.string e.stream, .string e.type, .slice T e.tags.length ct, .slice F e.fields.length cf] 25)
  have hbx2 := Bx.new (w.alloc (.cells #[.slice S c.tags.length cs, .slice U c.types.length cu] 95)) 25 [.string e.stream, .string e.type, .slice T e.tags.length ct, .slice F e.fields.length cf]
  rw [show (w.alloc (.cells #[.slice S c.tags.length cs, .slice U c.types.length cu] 95)).heap.size = w.heap.size + 1 by simp] at hbx2
  have HBW := Lib.hid (show Below w.heap.size w ((w.alloc (.cells #[.slice S c.tags.length cs, .slice U c.types.length cu] 95)).alloc (.cells #[.string e.stream, .string e.type, .slice T e.tags.length ct, .slice F e.fields.length cf] 25)) from ha.alloc (by simp) _)
  have HS := Lib.hid (hS.below HBW.out)
  have HU := Lib.hid (hU.below HBW.out)
  have HT := Lib.hid (hT.below HBW.out)
  have HX1 := Lib.hid hbx1
  have HX2 := Lib.hid hbx2
  clear hS hU hT ha hbx1 hbx2
  generalize (w.alloc (.cells #[.slice S c.tags.length cs, .slice U c.types.length cu] 95)).alloc (.cells #[.string e.stream, .string e.type, .slice T e.tags.length ct, .slice F e.fields.length cf] 25) = X at *
  generalize w.heap.size = g at HX1 HX2 ⊢
  have HK := Lib.hid (fun W (hb : Below X.heap.size X W) => show Below X.heap.size X W ∧ W.cell? ⟨g, 0, none⟩ = some (.slice S c.tags.length cs) ∧ W.cell? ⟨g, 1, none⟩ = some (.slice U c.types.length cu) ∧ W.cell? ⟨g + 1, 0, none⟩ = some (.string e.stream) ∧ W.cell? ⟨g + 1, 1, none⟩ = some (.string e.type) ∧ W.cell? ⟨g + 1, 2, none⟩ = some (.slice T e.tags.length ct) ∧ W.cell? ⟨g + 1, 3, none⟩ = some (.slice F e.fields.length cf) from
    ⟨hb, (HX1.out.under hb).cell 0, (HX1.out.under hb).cell 1, (HX2.out.under hb).cell 0, (HX2.out.under hb).cell 1, (HX2.out.under hb).cell 2, (HX2.out.under hb).cell 3⟩)
  have CH : Hid (∀ W (R : Prop) (x : ByteArray), Below X.heap.size X W ∧ R → Calls Try.prog 73 #[.agg #[.string e.stream, .string e.type, .slice T e.tags.length ct, .slice F e.fields.length cf], .string x] W fun r w' => r = .returned (.bool (hasS x e.tags)) ∧ Below W.heap.size W w') :=
    Lib.hid (fun W R x h => Has04_any (HT.out.below h.1) x)
  clear HX1 HX2
  go_loopw [5] (fun i wr => ∃ k : Nat, k ≤ c.tags.length ∧ i = .int .i64 k ∧ (∀ j (hj : j < c.tags.length), j < k → hasS c.tags[j] e.tags = true) ∧ Below X.heap.size X wr) (fun i _ => c.tags.length - (intOf i).toNat)
  case atStart => exact ⟨0, Nat.zero_le _, rfl, fun j hj hk => by omega, Below.refl _ _⟩
  case round =>
    obtain ⟨k, hk, rfl, hal, hb⟩ := hrel
    have HAL := Lib.hid hal
    have HB := Lib.hid hb
    obtain ⟨_, z0, z1, z2, z3, z4, z5⟩ := HK.out wr hb
    clear hal hb
    by_cases hlt : k < c.tags.length
    · obtain ⟨ad, rfl, hx⟩ := row_str_at HS.out.2.2 hlt
      have hxl : ad.block < X.heap.size := by have := World.block_lt_of_cell? X _ hx; rwa [block_add] at this
      generalize hxe : c.tags[k] = x at hx
      have HX := Lib.hid hxe
      have HKx := Lib.hid (fun W (hb : Below X.heap.size X W) => show Below X.heap.size X W ∧ W.cell? ⟨g, 0, none⟩ = some (.slice (some ad) c.tags.length cs) ∧ W.cell? ⟨g + 1, 0, none⟩ = some (.string e.stream) ∧ W.cell? ⟨g + 1, 1, none⟩ = some (.string e.type) ∧ W.cell? ⟨g + 1, 2, none⟩ = some (.slice T e.tags.length ct) ∧ W.cell? ⟨g + 1, 3, none⟩ = some (.slice F e.fields.length cf) ∧ W.cell? (ad.add k) = some (.string x) from by
        obtain ⟨a, a0, a1, a2, a3, a4, a5⟩ := HK.out W hb
        exact ⟨a, a0, a2, a3, a4, a5, (hb.cell (by rw [block_add]; exact hxl)).trans hx⟩)
      have CX := Lib.hid (fun W R h => CH.out W R x h)
      clear hxe hx
      have b1 : (0 : Int) ≤ (k : Int) := Int.natCast_nonneg _
      have b2 : (k : Int) < (c.tags.length : Int) := by omega
      generalize hhe : hasS x e.tags = hh at CX
      have HH := Lib.hid hhe
      clear hhe
      go_upto_region 4 with fail
      clear z0 z1 z2 z3 z4 z5
      rcases hh with _ | _
      all_goals go_region_held3 (fun W => Below X.heap.size X W ∧ W.cell? ⟨g, 0, none⟩ = some (.slice (some ad) c.tags.length cs) ∧ W.cell? ⟨g + 1, 0, none⟩ = some (.string e.stream) ∧ W.cell? ⟨g + 1, 1, none⟩ = some (.string e.type) ∧ W.cell? ⟨g + 1, 2, none⟩ = some (.slice T e.tags.length ct) ∧ W.cell? ⟨g + 1, 3, none⟩ = some (.slice F e.fields.length cf) ∧ W.cell? (ad.add k) = some (.string x)) (first | exact HKx.out _ (below_drawn HB.out) | (assumption) | exact HKx.out _ (bthen (And.left (by assumption : Below X.heap.size X _ ∧ _)) (by assumption))) (first | (go_at_call 73; go_fit (CX.out _ _ (by assumption)); rintro r w6 ⟨rfl, hb6⟩))
      · have HB6 := Lib.hid (bthen (below_drawn HB.out) hb6)
        clear hb6
        go_wp2
        go_ret
        refine ⟨?_, bthen HBW.out HB6.out⟩
        have : c.tags.all (fun s => hasS s e.tags) = false := all_no hlt (by rw [HX.out]; exact HH.out)
        unfold clauseM
        rw [this]
        rfl
      · have HB6 := Lib.hid (bthen (below_drawn HB.out) hb6)
        clear hb6
        go_wp2
        go_roundw
        case rel =>
          refine ⟨k + 1, by omega, by go_num, fun j hj hjk => ?_, HB6.out⟩
          rcases Nat.lt_or_ge j k with h | h
          · exact HAL.out j hj h
          · obtain rfl : j = k := by omega
            rw [HX.out]; exact HH.out
        case measure => simp [intOf]; omega
    · have HALL := Lib.hid (show c.tags.all (fun s => hasS s e.tags) = true from all_of (fun j hj => HAL.out j hj (by omega)))
      have HU' := Lib.hid (HU.out.below HB.out)
      clear CH HK
      go_wp2
      go_loopw [7] (fun i wq => ∃ k n : Nat, k ≤ c.types.length ∧ i = .int .i64 k ∧ (∀ j (hj : j < c.types.length), j < k → c.types[j] ≠ e.type) ∧ wq = wr.drewN n) (fun i _ => c.types.length - (intOf i).toNat)
      case atStart => exact ⟨0, 0, Nat.zero_le _, rfl, fun j hj hk => by omega, rfl⟩
      case round =>
        obtain ⟨k2, n, hk2, rfl, hal, rfl⟩ := hrel
        have HAL2 := Lib.hid hal
        clear hal
        by_cases hlt2 : k2 < c.types.length
        · obtain ⟨ad, rfl, hx⟩ := row_str_at HU'.out.2.2 hlt2
          generalize hxe : c.types[k2] = x at hx
          have HX := Lib.hid hxe
          clear hxe
          have b1 : (0 : Int) ≤ (k2 : Int) := Int.natCast_nonneg _
          have b2 : (k2 : Int) < (c.types.length : Int) := by omega
          have hq := strEqL x e.type
          by_cases hxy : x = e.type
          · rw [decide_eq_true hxy] at hq
            have HXY := Lib.hid hxy
            clear hxy
            go_wp2
            go_quiet (fail)
            go_wp2
            go_ret
            refine ⟨?_, bthen (bthen HBW.out HB.out) (below_drewN (below_drewN (Below.refl _ _) _) _)⟩
            have : hasS e.type c.types = true := (hasS_iff _ _).2 (by rw [← HXY.out, ← HX.out]; exact List.getElem_mem hlt2)
            unfold clauseM
            rw [this, HALL.out]
            simp
          · rw [decide_eq_false hxy] at hq
            have HXY := Lib.hid hxy
            clear hxy
            go_wp2
            go_quiet (fail)
            go_wp2
            go_roundw
            case rel =>
              refine ⟨k2 + 1, _, by omega, by go_num, fun j hj hjk => ?_, rfl⟩
              rcases Nat.lt_or_ge j k2 with h | h
              · exact HAL2.out j hj h
              · obtain rfl : j = k2 := by omega
                rw [HX.out]; exact HXY.out
            case measure => simp [intOf]; omega
        · go_wp2
          go_ret
          refine ⟨?_, bthen (bthen HBW.out HB.out) (below_drewN (Below.refl _ _) _)⟩
          have hno : hasS e.type c.types = false := hasS_take_no (fun j hj => HAL2.out j hj (by omega))
          unfold clauseM
          rw [hno, HALL.out]
          cases c.types with
          | nil => simp
          | cons y ys => simp; omega
end Go.Proofs.Ytfoghahidofegaa
namespace Go.Proofs.Ytfoghahidofegaa
open Go.RowKit

theorem any_no {α : Type} {l : List α} {f : α → Bool} (h : ∀ j (hj : j < l.length), f l[j] = false) : l.any f = false := by
  rw [Bool.eq_false_iff]
  intro hh
  obtain ⟨x, hx, e⟩ := List.any_eq_true.1 hh
  obtain ⟨j, hj, e2⟩ := List.mem_iff_getElem.1 hx
  rw [← e2, h j hj] at e
  cases e
set_option maxHeartbeats 1000000 in
set_option maxRecDepth 4000 in
theorem Match06_any {q : List Clause} {e : Event} {Q T F : Option Addr} {cq ct cf : Nat} {w : World} (hQ : SlC w Q cq q) (hT : Sl Kn.str (fun _ => True) w T ct e.tags) :
    Calls Try.prog 25 #[.agg #[.slice Q q.length cq], vEvent e T ct F cf] w fun r w' => r = .returned (.bool (matchM q e)) ∧ Below w.heap.size w w' := by
  have hs1 := hQ.1
  have hs2 := hQ.2.1
  unfold maxLen at hs2
  unfold vEvent
  go_enter Try.func25, Try.ntmps25
  go_upto_region 2 with fail
  have ha : Below w.heap.size w (w.alloc (.cells #[.slice Q q.length cq] 56)) := (Below.refl _ _).alloc (Nat.le_refl _) _
  have hbx1 := (Bx.new w 56 [.slice Q q.length cq]).alloc (.cells #[.string e.stream, .string e.type, .slice T e.tags.length ct, .slice F e.fields.length cf] 25)
  have hbx2 := Bx.new (w.alloc (.cells #[.slice Q q.length cq] 56)) 25 [.string e.stream, .string e.type, .slice T e.tags.length ct, .slice F e.fields.length cf]
  rw [show (w.alloc (.cells #[.slice Q q.length cq] 56)).heap.size = w.heap.size + 1 by simp] at hbx2
  have HBW := Lib.hid (show Below w.heap.size w ((w.alloc (.cells #[.slice Q q.length cq] 56)).alloc (.cells #[.string e.stream, .string e.type, .slice T e.tags.length ct, .slice F e.fields.length cf] 25)) from ha.alloc (by simp) _)
  have HQ := Lib.hid (hQ.below HBW.out)
  have HT := Lib.hid (hT.below HBW.out)
  have HX1 := Lib.hid hbx1
  have HX2 := Lib.hid hbx2
  clear hQ hT ha hbx1 hbx2
  generalize (w.alloc (.cells #[.slice Q q.length cq] 56)).alloc (.cells #[.string e.stream, .string e.type, .slice T e.tags.length ct, .slice F e.fields.length cf] 25) = X at *
  generalize w.heap.size = g at HX1 HX2 ⊢
  have HK := Lib.hid (fun W (hb : Below X.heap.size X W) => show Below X.heap.size X W ∧ W.cell? ⟨g, 0, none⟩ = some (.slice Q q.length cq) ∧ W.cell? ⟨g + 1, 0, none⟩ = some (.string e.stream) ∧ W.cell? ⟨g + 1, 1, none⟩ = some (.string e.type) ∧ W.cell? ⟨g + 1, 2, none⟩ = some (.slice T e.tags.length ct) ∧ W.cell? ⟨g + 1, 3, none⟩ = some (.slice F e.fields.length cf) from
    ⟨hb, (HX1.out.under hb).cell 0, (HX2.out.under hb).cell 0, (HX2.out.under hb).cell 1, (HX2.out.under hb).cell 2, (HX2.out.under hb).cell 3⟩)
  clear HX1 HX2
  go_loopw [5] (fun i wr => ∃ k : Nat, k ≤ q.length ∧ i = .int .i64 k ∧ (∀ j (hj : j < q.length), j < k → clauseM e q[j] = false) ∧ Below X.heap.size X wr) (fun i _ => q.length - (intOf i).toNat)
  case atStart => exact ⟨0, Nat.zero_le _, rfl, fun j hj hk => by omega, Below.refl _ _⟩
  case round =>
    obtain ⟨k, hk, rfl, hal, hb⟩ := hrel
    have HAL := Lib.hid hal
    have HB := Lib.hid hb
    obtain ⟨_, z0, z1, z2, z3, z4⟩ := HK.out wr hb
    clear hal hb
    by_cases hlt : k < q.length
    · obtain ⟨ad, S, sa, U, ua, rfl, hx, hy, hS, hU⟩ := row_clause_at HQ.out.2.2 hlt
      have hxl : ad.block < X.heap.size := by have := World.block_lt_of_cell? X _ hx; rwa [block_add] at this
      generalize hxe : q[k] = x at hx hy hS hU
      have HX := Lib.hid hxe
      have HKx := Lib.hid (fun W (hb : Below X.heap.size X W) => show Below X.heap.size X W ∧ W.cell? ⟨g, 0, none⟩ = some (.slice (some ad) q.length cq) ∧ W.cell? ⟨g + 1, 0, none⟩ = some (.string e.stream) ∧ W.cell? ⟨g + 1, 1, none⟩ = some (.string e.type) ∧ W.cell? ⟨g + 1, 2, none⟩ = some (.slice T e.tags.length ct) ∧ W.cell? ⟨g + 1, 3, none⟩ = some (.slice F e.fields.length cf) ∧ W.cell? (ad.add (k * 2)) = some (.slice S x.tags.length sa) ∧ W.cell? ⟨(ad.add (k * 2)).block, (ad.add (k * 2)).off + 1, none⟩ = some (.slice U x.types.length ua) from by
        obtain ⟨a, a0, a2, a3, a4, a5⟩ := HK.out W hb
        exact ⟨a, a0, a2, a3, a4, a5, (hb.cell (by rw [block_add]; exact hxl)).trans hx, (hb.cell (by simp only; rw [block_add]; exact hxl)).trans hy⟩)
      have CX : Hid (∀ W (R : Prop), Below X.heap.size X W ∧ R → Calls Try.prog 54 #[.agg #[.slice S x.tags.length sa, .slice U x.types.length ua], .agg #[.string e.stream, .string e.type, .slice T e.tags.length ct, .slice F e.fields.length cf]] W fun r w' => r = .returned (.bool (clauseM e x)) ∧ Below W.heap.size W w') :=
        Lib.hid (fun W R h => clause06_any (hS.any.below h.1) (hU.any.below h.1) (HT.out.below h.1))
      clear hxe hx hy hS hU
      have b1 : (0 : Int) ≤ (k : Int) := Int.natCast_nonneg _
      have b2 : (k : Int) < (q.length : Int) := by omega
      generalize hhe : clauseM e x = hh at CX
      have HH := Lib.hid hhe
      clear hhe
      go_upto_region 4 with fail
      clear z0 z1 z2 z3 z4
      rcases hh with _ | _
      all_goals go_region_held3 (fun W => Below X.heap.size X W ∧ W.cell? ⟨g, 0, none⟩ = some (.slice (some ad) q.length cq) ∧ W.cell? ⟨g + 1, 0, none⟩ = some (.string e.stream) ∧ W.cell? ⟨g + 1, 1, none⟩ = some (.string e.type) ∧ W.cell? ⟨g + 1, 2, none⟩ = some (.slice T e.tags.length ct) ∧ W.cell? ⟨g + 1, 3, none⟩ = some (.slice F e.fields.length cf) ∧ W.cell? (ad.add (k * 2)) = some (.slice S x.tags.length sa) ∧ W.cell? ⟨(ad.add (k * 2)).block, (ad.add (k * 2)).off + 1, none⟩ = some (.slice U x.types.length ua)) (first | exact HKx.out _ (below_drawn HB.out) | (assumption) | exact HKx.out _ (bthen (And.left (by assumption : Below X.heap.size X _ ∧ _)) (by assumption))) (first | (go_at_call 54; go_fit (CX.out _ _ (by assumption)); rintro r w6 ⟨rfl, hb6⟩))
      · have HB6 := Lib.hid (bthen (below_drawn HB.out) hb6)
        clear hb6
        go_wp2
        go_roundw
        case rel =>
          refine ⟨k + 1, by omega, by go_num, fun j hj hjk => ?_, HB6.out⟩
          rcases Nat.lt_or_ge j k with h | h
          · exact HAL.out j hj h
          · obtain rfl : j = k := by omega
            rw [HX.out]; exact HH.out
        case measure => simp [intOf]; omega
      · have HB6 := Lib.hid (bthen (below_drawn HB.out) hb6)
        clear hb6
        go_wp2
        go_ret
        refine ⟨?_, bthen HBW.out HB6.out⟩
        have : matchM q e = true := List.any_eq_true.2 ⟨_, List.getElem_mem hlt, by rw [HX.out]; exact HH.out⟩
        rw [this]
        rfl
    · go_wp2
      go_ret
      refine ⟨?_, bthen HBW.out HB.out⟩
      have : matchM q e = false := any_no (fun j hj => HAL.out j hj (by omega))
      rw [this]
      rfl
end Go.Proofs.Ytfoghahidofegaa

namespace Go.Proofs.Ytfoghahidofegaa
open Go.RowKit Go.Maps

abbrev Ak : Type := ByteArray × List Clause × Int
abbrev kAsk : Kn Ak := Kn.pair Kn.str (Kn.pair kQuery (Kn.int .i64))
abbrev goodAsk (g : Ak) : Prop := gS g.1 ∧ (∀ c ∈ g.2.1, goodClause c) ∧ gN g.2.2
theorem opAsk : Opens Try.prog 58 kAsk goodAsk :=
  Opens.struct (d := kAsk) (good := goodAsk) Try.underlying58 (by kernel_rfl)
    (OpensFs.cons (good := gS) (good' := fun (y : List Clause × Int) => (∀ c ∈ y.1, goodClause c) ∧ gN y.2) (d := Kn.str) opStr (by kernel_rfl)
      (OpensFs.cons (good := fun y : List Clause => ∀ c ∈ y, goodClause c) (good' := gN) (d := kQuery) opQuery (by kernel_rfl) (OpensFs.last opInt (by kernel_rfl))))
theorem ask_in {w : World} {g : Ak} {c : Array Value} (h : kAsk.K (fun _ => True) w g c.toList) : ∃ Q cq, c = #[.string g.1, .slice Q g.2.1.length cq, .int .i64 g.2.2] ∧ Sl kClause (fun k => k < w.heap.size) w Q cq g.2.1 := by
  obtain ⟨c0, c1, h0, h1, c2, c3, h2, h3, h4⟩ := h
  obtain ⟨Q, cq, h7, h8, h9, h10⟩ := h3
  have e0 : c0 = [.string g.1] := h1
  have e3 : c3 = [.int .i64 g.2.2] := h4
  have hs : Sl kClause (fun _ => True) w Q cq g.2.1 := ⟨h8, h9, h10⟩
  refine ⟨Q, cq, ?_, hs.bound.mono (fun _ h => h.2)⟩
  subst e0 e3 h7 h2
  cases c
  simpa using h0
theorem fewM_good {q : List Clause} (h : ∀ c ∈ q, goodClause c) : ∀ c ∈ fewM q, goodClause c := fun c hc => by
  obtain ⟨x, hx, rfl⟩ := List.mem_map.1 hc
  have := h x (List.mem_of_mem_take hx)
  exact ⟨fun y hy => this.1 y (List.mem_of_mem_take hy), fun y hy => this.2 y (List.mem_of_mem_take hy)⟩
/-- The law between its loops: the index holds fs; the query's box; the rows told. -/
structure S2 (W1 : World) (B : Six) (fs : List Event) (g : Nat) (qs : List Clause) (Q : Option Addr) (cq : Nat) (ra rb : List Rec) (P : Option Addr) (p : Nat) (R : Option Addr) (r : Nat) (wr : World) : Prop where
  li : Li W1 wr B fs
  bel : Below W1.heap.size W1 wr
  xg : Bx wr g 56 [.slice Q qs.length cq]
  q : Sl kClause (fun k => ¬ B.has k) wr Q cq qs
  a : Sl kRec (fun k => ¬ B.has k) wr P p ra
  b : Sl kRec (fun k => ¬ B.has k) wr R r rb
  gb : ¬ B.has g
section
variable {W1 wr w' : World} {B : Six} {fs es : List Event} {g : Nat} {qs : List Clause} {Q P R : Option Addr} {cq p r : Nat} {ra rb : List Rec}
theorem S2.below (h : S2 W1 B fs g qs Q cq ra rb P p R r wr) (hb : Below wr.heap.size wr w') : S2 W1 B fs g qs Q cq ra rb P p R r w' :=
  ⟨h.li.below hb, bthen h.bel hb, h.xg.under hb, h.q.below hb, h.a.below hb, h.b.below hb, h.gb⟩
theorem S2.step (h : S2 W1 B fs g qs Q cq ra rb P p R r wr) (hl : Li W1 w' B es) (hb : But B.has wr w') : S2 W1 B es g qs Q cq ra rb P p R r w' :=
  ⟨hl, But.bel h.li hb (Nat.le_refl _) h.bel, h.xg.stay (fun hk => hb.block _ hk h.gb), h.q.stay hb.size (fun k hk hl => hb.block k hl hk), h.a.stay hb.size (fun k hk hl => hb.block k hl hk), h.b.stay hb.size (fun k hk hl => hb.block k hl hk), h.gb⟩
end
set_option maxHeartbeats 8000000 in
set_option maxRecDepth 100000 in
theorem indexStays_walk (w : World) (A : Option Addr) (c : Nat) (l : List Bt) (h : Sl kBatch (fun _ => True) w A c l) (hg : ∀ x ∈ l, goodBatch x) (A' : Option Addr) (c' : Nat) (l' : List Bt) (h' : Sl kBatch (fun _ => True) w A' c' l') (hg' : ∀ x ∈ l', goodBatch x) (c1 : Array Value) (x : Ak) (hx : kAsk.K (fun _ => True) w x c1.toList) (gx : goodAsk x) :
    Calls Try.prog 6 #[.slice A l.length c, .slice A' l'.length c', .agg c1] w fun r w' => r = .returned (.bool true) ∧ Below w.heap.size w w' := by
  have HL0 := Lib.hid (show Sl kBatch (fun k => k < w.heap.size) w A c l from h.bound.mono (fun _ h => h.2))
  have HM0 := Lib.hid (show Sl kBatch (fun k => k < w.heap.size) w A' c' l' from h'.bound.mono (fun _ h => h.2))
  have HG := Lib.hid hg
  have HG' := Lib.hid hg'
  have hc2 := h.2.1
  have hc2' := h'.2.1
  unfold maxLen at hc2 hc2'
  have hc1 := h.1
  have hc1' := h'.1
  obtain ⟨Q, cq, rfl, hQ⟩ := ask_in hx
  obtain ⟨s, q, a⟩ := x
  have HS := Lib.hid (show s.size ≤ maxLen from gx.1)
  have HQ := Lib.hid hQ
  have HGC := Lib.hid (show ∀ x ∈ q, goodClause x from gx.2.1)
  obtain ⟨W1, hW1⟩ : ∃ W1, W1 = w.alloc (.cells #[.string s, .slice Q q.length cq, .int .i64 a] 58) := ⟨_, rfl⟩
  have HW1 := Lib.hid hW1
  have hb1 : Below w.heap.size w W1 := by rw [hW1]; exact (Below.refl _ _).alloc (Nat.le_refl _) _
  have hx1 : Bx W1 w.heap.size 58 [.string s, .slice Q q.length cq, .int .i64 a] := by rw [hW1]; exact Bx.new w _ _
  have HB1 := Lib.hid hb1
  have HX1 := Lib.hid hx1
  have C1 := Lib.hid (shown14_any W1)
  clear h hg h' hg' hx gx hQ hb1 hx1
  go_enter Try.func6, Try.ntmps6
  go_upto_region 1 with fail
  rw [← HW1.out]
  clear hW1 HW1
  go_upto_block 0 with (first
    | (go_at_call 15; go_fit C2.out; rintro r w2 ⟨B, rfl, h2, hb2⟩; have H2 := Lib.hid h2; have HB2 := Lib.hid (bthen HBS.out hb2); clear h2 hb2)
    | (go_at_call 14; go_fit C1.out; rintro r w1 ⟨rfl, hb1⟩; have HBS := Lib.hid hb1; have C2 := Lib.hid (lNew W1 (wr := w1) hb1.size); clear hb1))
  go_cut [9] (fun _ wx => ∃ es : List Event, es.length ≤ 96 ∧ Li W1 wx B es ∧ Below W1.heap.size W1 wx)
  case first =>
    go_wp2_with fail
    go_loopw [9] (fun i wr => ∃ k : Nat, k ≤ l.length ∧ k ≤ 12 ∧ i = .int .i64 k ∧ Li W1 wr B (growB [] (l.take k)) ∧ Below W1.heap.size W1 wr) (fun i _ => l.length - (intOf i).toNat)
    case atStart => exact ⟨0, Nat.zero_le _, Nat.zero_le _, rfl, H2.out, HB2.out⟩
    case round =>
      clear H2 HB2 C1 C2
      obtain ⟨k, hk, hk12, rfl, hli, hbl⟩ := hrel
      have HLI := Lib.hid hli
      have HBL := Lib.hid hbl
      have hlen : (growB [] (l.take k)).length ≤ 96 := by
        have := growB_len [] (l.take k)
        rw [List.length_take] at this
        simp at this
        omega
      by_cases hlt : k < l.length ∧ k < 12
      · obtain ⟨hlt, h12⟩ := hlt
        have hrows : Sl kBatch (fun k => k < w.heap.size) wr A c l := (HL0.out.below HB1.out).stay hbl.size (fun j hj hl => hbl.block j hl)
        obtain ⟨ad, Q', cq', rfl, x0, x1, hQ'⟩ := row_batch_at hrows.2.2 hlt
        have hin := few8_in (HG.out _ (List.getElem_mem hlt)).2
        have HST := Lib.hid (show growB [] (l.take (k + 1)) = addTo (growB [] (l.take k)) (growB [] (l.take k)).length (few8 (l[k]).2) by rw [List.take_succ_eq_append_getElem hlt, growB_snoc])
        generalize l[k] = b at x0 x1 hQ' hin HST
        generalize growB [] (l.take k) = fs at hlen HST HLI
        have HIN := Lib.hid hin
        have CF := Lib.hid (few14_any (a := b.1) (fun j => j < w.heap.size) hQ')
        have i1 : (0 : Int) ≤ (k : Int) := Int.natCast_nonneg _
        have i2 : (k : Int) < (l.length : Int) := by omega
        have f8 := few8_len b.2
        have hww := HB1.out.size
        clear hli hbl hrows hQ' hin
        go_upto_region 9 with (go_at_call 16; go_fit CF.out; rintro r w4 ⟨A4, c4, rfl, h4, hb4⟩; have H4 := Lib.hid h4; have HB4 := Lib.hid hb4; clear h4 hb4)
        have HA5 := Lib.hid (fun (o : Obj) => show Below w4.heap.size w4 (w4.alloc o) from (Below.refl _ _).alloc (Nat.le_refl _) o)
        have CL := Lib.hid (fun (o : Obj) => iLast ((HLI.out.below HB4.out).below (HA5.out o)).ix)
        have CA : Hid (∀ o : Obj, Calls Try.prog 18 #[.pointer (some ⟨B.b, 0, none⟩), .agg #[.int .i64 fs.length, .slice A4 (few8 b.2).length c4]] (w4.alloc o) fun r w' => (∃ u, r = .returned u) ∧ Li W1 w' B (addTo fs fs.length (few8 b.2)) ∧ Below W1.heap.size W1 w') := Lib.hid (fun o => by
          have hI := (HLI.out.below HB4.out).below (HA5.out o)
          have hb5 := bthen HB4.out (HA5.out o)
          refine (lAdd hI (after := fs.length) ((H4.out.below (HA5.out o)).mono (fun j hj hB => hj.elim (fun h => by have := HLI.out.lo j hB; omega) (fun h => by have := HLI.out.ix.lt j hB; omega))) HIN.out (by omega)).mono ?_
          rintro r w' ⟨A6, c6, e, _, h1, h2⟩
          exact ⟨⟨_, e⟩, h1, But.bel hI h2 (Nat.le_refl _) (bthen HBL.out hb5)⟩)
        go_wp2_with (first
          | (go_at_call 18; go_fit (CA.out _); rintro r w6 ⟨⟨u6, rfl⟩, h6, h7⟩; have H6 := Lib.hid h6; have H7 := Lib.hid h7; clear h6 h7)
          | (go_at_call 17; go_fit (CL.out _); rintro r w5 ⟨rfl, rfl⟩))
        go_roundw
        case rel => exact ⟨k + 1, by omega, by omega, by go_num, by rw [HST.out]; exact H6.out, H7.out⟩
        case measure => simp [intOf]; omega
      · have HF := Lib.hid (show ∃ es : List Event, es.length ≤ 96 ∧ Li W1 wr B es ∧ Below W1.heap.size W1 wr from ⟨_, hlen, hli, hbl⟩)
        have hstop : k < l.length → ¬ k < 12 := fun h h2 => hlt ⟨h, h2⟩
        clear hlen HLI HBL hli hbl hlt
        rcases Nat.lt_or_ge k l.length with hc | hc
        · have h10 := hstop hc
          clear hstop
          go_wp2_with fail
          go_meet
          exact HF.out
        · clear hstop
          go_wp2_with fail
          go_meet
          exact HF.out
  case rest =>
    obtain ⟨es, hlen, hli, hbl⟩ := hcut
    obtain ⟨v2, hv2⟩ : ∃ v2, v2 = wc := ⟨_, rfl⟩
    subst hv2
    have HLI := Lib.hid hli
    have HBL := Lib.hid hbl
    have hx := HX1.out.under hbl
    have k0 := hx.cell 0
    have k1 := hx.cell 1
    have k2 := hx.cell 2
    simp only [List.getElem?_cons_succ, List.getElem?_cons_zero] at k0 k1 k2
    have C11 := Lib.hid (iLast hli.ix)
    have C13 := Lib.hid (less14_any (fun j => j < w.heap.size) (HQ.out.below (bthen HB1.out hbl)))
    obtain ⟨n, hn⟩ : ∃ n, es.length = n := ⟨_, rfl⟩
    rw [hn] at C11 hlen
    have HN := Lib.hid hn
    obtain ⟨z, hz⟩ : ∃ z : Int, min a (n : Int) = z := ⟨_, rfl⟩
    have hzn : z ≤ n := by omega
    have hza : (z < 0) = (a < 0) := propext (by omega)
    clear hn hli hbl hx H2 HB2 C1 C2
    go_upto_region 14 with (first
      | (go_at_call 22; go_fit C13.out; rintro r w4 ⟨Q4, cq4, rfl, h4, hb4⟩; have H4 := Lib.hid h4; have HB4 := Lib.hid hb4; clear h4 hb4)
      | (go_at_call 17; go_fit C11.out; rintro r w3 ⟨rfl, rfl⟩))
    have HZ := Lib.hid hz
    clear hz k0 k1 k2 C11 C13
    have hgq : ∀ c ∈ fewM q, goodClause c := fewM_good HGC.out
    obtain ⟨X, hX⟩ : ∃ X, X = w4.alloc (.cells #[.slice Q4 (fewM q).length cq4] 56) := ⟨_, rfl⟩
    rw [← hX]
    have hbX : Below w4.heap.size w4 X := by rw [hX]; exact (Below.refl _ _).alloc (Nat.le_refl _) _
    have hxg : Bx X w4.heap.size 56 [.slice Q4 (fewM q).length cq4] := by rw [hX]; exact Bx.new w4 _ _
    have hlX := (HLI.out.below HB4.out).below hbX
    have hgB : ¬ B.has w4.heap.size := fun hB => by have := (HLI.out.below HB4.out).ix.lt _ hB; omega
    have hqX : Sl kClause (fun k => ¬ B.has k) X Q4 cq4 (fewM q) := (H4.out.below hbX).mono (fun j hj hB => hj.elim (fun h => by have := HLI.out.lo j hB; have := HB1.out.size; omega) (fun h => by have := HLI.out.ix.lt j hB; omega))
    have hblX := bthen HBL.out (bthen HB4.out hbX)
    have HLX := Lib.hid hlX
    have HBX := Lib.hid hblX
    have HXG := Lib.hid hxg
    have HQX := Lib.hid hqX
    have HGB := Lib.hid hgB
    have HGQ := Lib.hid hgq
    have HIN0 := Lib.hid (fun j (hj : X.heap.size ≤ j) (hB : B.has j) => show False from by have := hlX.ix.lt j hB; omega)
    clear hX hbX hlX hblX hqX hgB hgq H4 HB4 HLI HBL
    generalize w4.heap.size = g at *
    clear hxg
    obtain ⟨ra, hra⟩ : ∃ ra, strmR es s z = ra := ⟨_, rfl⟩
    obtain ⟨rb, hrb⟩ : ∃ rb, qryR es (fewM q) z = rb := ⟨_, rfl⟩
    have CS := Lib.hid (iStream HLX.out.ix HS.out z)
    rw [hra] at CS
    have CQ := Lib.hid (fun W (hW : Below X.heap.size X W) => show Calls Try.prog 24 #[.pointer (some ⟨B.b, 0, none⟩), .agg #[.slice Q4 (fewM q).length cq4], .int .i64 z] W (RetRecs rb.length rb W) from by
      have := iQuery (HLX.out.below hW).ix (HQX.out.any.below hW) HGQ.out z
      rw [hrb] at this
      exact this)
    have HRA := Lib.hid hra
    have HRB := Lib.hid hrb
    have kx := (HX1.out.under HBX.out).cell 0
    have kg := HXG.out.cell 0
    simp only [List.getElem?_cons_zero] at kx kg
    clear hra hrb
    go_upto_region 16 with (first
      | (go_at_call 24; go_fit (CQ.out _ HB5.out); rintro r w6 ⟨P6, p6, rfl, h6, hb6⟩; have H6 := Lib.hid h6; have HB6 := Lib.hid (bthen HB5.out hb6); have H5' := Lib.hid (H5.out.below hb6); clear h6 hb6)
      | (go_at_call 23; go_fit CS.out; rintro r w5 ⟨P5, p5, rfl, h5, hb5⟩; have H5 := Lib.hid h5; have HB5 := Lib.hid hb5; have kg5 := (HXG.out.under hb5).cell 0; simp only [List.getElem?_cons_zero] at kg5; clear h5 hb5))
    have HS2 := Lib.hid (show S2 W1 B es g (fewM q) Q4 cq4 ra rb P5 p5 P6 p6 w6 from
      ⟨HLX.out.below HB6.out, bthen HBX.out HB6.out, HXG.out.under HB6.out, HQX.out.below HB6.out, H5'.out.mono (fun j hj hB => HIN0.out j hj hB), H6.out.mono (fun j hj hB => HIN0.out j (by have := HB5.out.size; omega) hB), HGB.out⟩)
    go_upto_block 2 with fail
    go_cut [16] (fun _ wx => ∃ ds : List Event, (es ++ ds).length ≤ 192 ∧ S2 W1 B (es ++ ds) g (fewM q) Q4 cq4 ra rb P5 p5 P6 p6 wx)
    case first =>
      go_wp2_with fail
      go_loopw [16] (fun i wr => ∃ k : Nat, k ≤ l'.length ∧ k ≤ 12 ∧ i = .int .i64 k ∧ S2 W1 B (growB es (l'.take k)) g (fewM q) Q4 cq4 ra rb P5 p5 P6 p6 wr) (fun i _ => l'.length - (intOf i).toNat)
      case atStart => exact ⟨0, Nat.zero_le _, Nat.zero_le _, rfl, HS2.out⟩
      case round =>
        clear HS2 H6 H5 H5' HB5 HB6 CS CQ kx kg
        obtain ⟨k, hk, hk12, rfl, hs2⟩ := hrel
        have HSS := Lib.hid hs2
        have hbl := hs2.bel
        have hlen2 : (growB es (l'.take k)).length ≤ 192 := by
          have := growB_len es (l'.take k)
          rw [List.length_take] at this
          have := HN.out
          omega
        by_cases hlt : k < l'.length ∧ k < 12
        · obtain ⟨hlt, h12⟩ := hlt
          have hrows : Sl kBatch (fun k => k < w.heap.size) wr A' c' l' := (HM0.out.below HB1.out).stay hbl.size (fun j hj hl => hbl.block j hl)
          obtain ⟨ad, Q', cq', rfl, x0, x1, hQ'⟩ := row_batch_at hrows.2.2 hlt
          have hin := few8_in (HG'.out _ (List.getElem_mem hlt)).2
          have HST := Lib.hid (show growB es (l'.take (k + 1)) = addTo (growB es (l'.take k)) (growB es (l'.take k)).length (few8 (l'[k]).2) by rw [List.take_succ_eq_append_getElem hlt, growB_snoc])
          generalize l'[k] = b at x0 x1 hQ' hin HST
          generalize growB es (l'.take k) = fs at hlen2 HST HSS
          have HIN := Lib.hid hin
          have CF := Lib.hid (few14_any (a := b.1) (fun j => j < w.heap.size) hQ')
          have i1 : (0 : Int) ≤ (k : Int) := Int.natCast_nonneg _
          have i2 : (k : Int) < (l'.length : Int) := by omega
          have f8 := few8_len b.2
          have hww := HB1.out.size
          clear hs2 hbl hrows hQ' hin
          go_upto_region 20 with (go_at_call 16; go_fit CF.out; rintro r w7 ⟨A7, c7, rfl, h7, hb7⟩; have H7 := Lib.hid h7; have HB7 := Lib.hid hb7; clear h7 hb7)
          have HA5 := Lib.hid (fun (o : Obj) => show Below w7.heap.size w7 (w7.alloc o) from (Below.refl _ _).alloc (Nat.le_refl _) o)
          have CL := Lib.hid (fun (o : Obj) => iLast ((HSS.out.li.below HB7.out).below (HA5.out o)).ix)
          have CA : Hid (∀ o : Obj, Calls Try.prog 18 #[.pointer (some ⟨B.b, 0, none⟩), .agg #[.int .i64 fs.length, .slice A7 (few8 b.2).length c7]] (w7.alloc o) fun r w' => (∃ u, r = .returned u) ∧ S2 W1 B (addTo fs fs.length (few8 b.2)) g (fewM q) Q4 cq4 ra rb P5 p5 P6 p6 w') := Lib.hid (fun o => by
            have hS := (HSS.out.below HB7.out).below (HA5.out o)
            refine (lAdd hS.li (after := fs.length) ((H7.out.below (HA5.out o)).mono (fun j hj hB => hj.elim (fun h => by have := HSS.out.li.lo j hB; omega) (fun h => by have := HSS.out.li.ix.lt j hB; omega))) HIN.out (by omega)).mono ?_
            rintro r w' ⟨A8, c8, e, _, h1, h2⟩
            exact ⟨⟨_, e⟩, hS.step h1 h2⟩)
          go_wp2_with (first
            | (go_at_call 18; go_fit (CA.out _); rintro r w9 ⟨⟨u9, rfl⟩, h9⟩; have H9 := Lib.hid h9; clear h9)
            | (go_at_call 17; go_fit (CL.out _); rintro r w8 ⟨rfl, rfl⟩))
          go_roundw
          case rel => exact ⟨k + 1, by omega, by omega, by go_num, by rw [HST.out]; exact H9.out⟩
          case measure => simp [intOf]; omega
        · have HF := Lib.hid (show ∃ ds : List Event, (es ++ ds).length ≤ 192 ∧ S2 W1 B (es ++ ds) g (fewM q) Q4 cq4 ra rb P5 p5 P6 p6 wr from by
            obtain ⟨ds, hd⟩ := growB_pre es (l'.take k)
            rw [hd] at hlen2 hs2
            exact ⟨ds, hlen2, hs2⟩)
          have hstop : k < l'.length → ¬ k < 12 := fun h h2 => hlt ⟨h, h2⟩
          clear hlen2 HSS hs2 hbl hlt
          rcases Nat.lt_or_ge k l'.length with hc | hc
          · have h10 := hstop hc
            clear hstop
            go_wp2_with fail
            go_meet
            exact HF.out
          · clear hstop
            go_wp2_with fail
            go_meet
            exact HF.out
    case rest =>
      obtain ⟨ds, hlen2, hs2⟩ := hcut
      obtain ⟨v3, hv3⟩ : ∃ v3, v3 = wc := ⟨_, rfl⟩
      subst hv3
      clear HS2 H6 H5 H5' HB5 HB6 CS CQ kx kg kg5 HIN0
      obtain ⟨fs, hfs⟩ : ∃ fs, es ++ ds = fs := ⟨_, rfl⟩
      have hz2 : z ≤ (es.length : Int) := by rw [HN.out]; exact hzn
      have hra : strmR fs s z = ra := by rw [← hfs, strm_pre es ds s hz2]; exact HRA.out
      have hrb : qryR fs (fewM q) z = rb := by rw [← hfs, qry_pre es ds (fewM q) hz2]; exact HRB.out
      have hzf : z ≤ (fs.length : Int) := by rw [← hfs, List.length_append]; omega
      rw [hfs] at hs2 hlen2
      have HSS := Lib.hid hs2
      have HRA := Lib.hid hra
      have HRB := Lib.hid hrb
      have kx := (HX1.out.under hs2.bel).cell 0
      simp only [List.getElem?_cons_zero] at kx
      have D1 := Lib.hid (fun W (hW : Below v3.heap.size v3 W) => show Calls Try.prog 23 #[.pointer (some ⟨B.b, 0, none⟩), .string s, .int .i64 z] W (RetRecs ra.length ra W) from by
        have := iStream (HSS.out.below hW).li.ix HS.out z
        rw [HRA.out] at this
        exact this)
      have D2 := Lib.hid (fun W (hW : Below v3.heap.size v3 W) => show Calls Try.prog 24 #[.pointer (some ⟨B.b, 0, none⟩), .agg #[.slice Q4 (fewM q).length cq4], .int .i64 z] W (RetRecs rb.length rb W) from by
        have := iQuery (HSS.out.below hW).li.ix (HSS.out.below hW).q.any HGQ.out z
        rw [HRB.out] at this
        exact this)
      have DS := Lib.hid (fun W (rs : List Rec) (P P' : Option Addr) (p p' : Nat) (h1 : SlR W P p rs) (h2 : SlR W P' p' rs) => show Calls Try.prog 21 #[.slice P rs.length p, .slice P' rs.length p'] W fun r w' => r = .returned (.bool true) ∧ Below W.heap.size W w' from by
        have := ref14Same_any h1 h2
        rw [sameRs_refl] at this
        exact this)
      clear hfs hra hrb hs2
      go_upto_region 23 with (first
        | (go_at_call 21; go_fit (DS.out _ _ _ _ _ _ (HSS.out.below HB7.out).a.any H7.out); rintro r w8 ⟨rfl, hb8⟩; have HB8 := Lib.hid (bthen HB7.out hb8); have kg8 := (HSS.out.below (bthen HB7.out hb8)).xg.cell 0; simp only [List.getElem?_cons_zero] at kg8; clear hb8)
        | (go_at_call 23; go_fit (D1.out _ (Below.refl _ _)); rintro r w7 ⟨P7, p7, rfl, h7, hb7⟩; have H7 := Lib.hid h7.any; have HB7 := Lib.hid hb7; clear h7 hb7))
      go_upto_region 24 with (first
        | (go_at_call 21; go_fit (DS.out _ _ _ _ _ _ (HSS.out.below HB9.out).b.any H9.out); rintro r w10 ⟨rfl, hb10⟩; have HB10 := Lib.hid (bthen HB9.out hb10); clear hb10)
        | (go_at_call 24; go_fit (D2.out _ HB8.out); rintro r w9 ⟨P9, p9, rfl, h9, hb9⟩; have H9 := Lib.hid h9.any; have HB9 := Lib.hid (bthen HB8.out hb9); clear h9 hb9))
      obtain ⟨f, hf⟩ : ∃ f, fs.length = f := ⟨_, rfl⟩
      have HFL := Lib.hid hf
      obtain ⟨rs, hrs⟩ : ∃ rs, strmR fs s f = rs := ⟨_, rfl⟩
      have hrl : rs.length ≤ 192 := by
        have := strmR_len fs s f
        rw [hrs] at this
        omega
      have HRS := Lib.hid (fun (k : Nat) (r : Rec) (h : rs[k]? = some r) => strm_at fs s (k := k) (r := r) (by rw [hf, hrs]; exact h))
      have L1 := Lib.hid (fun W (R : Prop) (hW : Below w10.heap.size w10 W ∧ R) => show Calls Try.prog 17 #[.pointer (some ⟨B.b, 0, none⟩)] W fun r w' => r = .returned (.int .i64 f) ∧ W = w' from by
        have := iLast (HSS.out.below (bthen HB10.out hW.1)).li.ix
        rw [hf] at this
        exact this)
      have L2 := Lib.hid (fun W (R : Prop) (hW : Below w10.heap.size w10 W ∧ R) => show Calls Try.prog 23 #[.pointer (some ⟨B.b, 0, none⟩), .string s, .int .i64 f] W fun r w' => (∃ P p, r = .returned (.slice P rs.length p) ∧ SlR w' P p rs) ∧ Below W.heap.size W w' from by
        have := iStream (HSS.out.below (bthen HB10.out hW.1)).li.ix HS.out f
        rw [hrs] at this
        exact this.mono fun r w' ⟨P, p, e, h1, h2⟩ => ⟨⟨P, p, e, h1.any⟩, h2⟩)
      have HK := Lib.hid (fun W (hb : Below w10.heap.size w10 W) => show Below w10.heap.size w10 W ∧ W.cell? ⟨w.heap.size, 0, none⟩ = some (.string s) from ⟨hb, (HX1.out.under (HSS.out.below (bthen HB10.out hb)).bel).cell 0⟩)
      clear hf hrs kx kg8
      go_cut [20] (fun v wx => ∃ P p, v = .slice P rs.length p ∧ SlR wx P p rs ∧ Below w10.heap.size w10 wx)
      case first =>
        go_region_held3 (fun W => Below w10.heap.size w10 W ∧ W.cell? ⟨w.heap.size, 0, none⟩ = some (.string s)) (first | exact HK.out _ (below_drawn (Below.refl _ _)) | (assumption) | exact HK.out _ HB11.out)
          (first
            | (go_at_call 23; go_fit (L2.out _ _ (by assumption)); rintro r w11 ⟨⟨P11, p11, rfl, h11⟩, hb11⟩; have H11 := Lib.hid h11; have HB11 := Lib.hid (bthen (below_drawn (Below.refl _ _)) hb11); clear h11 hb11)
            | (go_at_call 17; go_fit (L1.out _ _ (by assumption)); rintro r w12 ⟨rfl, rfl⟩))
        all_goals go_wp2_with fail
        all_goals go_meet
        all_goals exact ⟨P11, p11, rfl, H11.out, HB11.out⟩
      case rest =>
        obtain ⟨P, p, rfl, hP, hbc⟩ := hcut
        obtain ⟨v4, hv4⟩ : ∃ v4, v4 = wc := ⟨_, rfl⟩
        subst hv4
        have HP := Lib.hid hP
        have HB11 := Lib.hid (bthen HB10.out hbc)
        have hp1 := hP.1
        have hp2 := hP.2.1
        unfold maxLen at hp2
        clear hP hbc HK L1 L2
        go_wp2_with fail
        go_loopw [21] (fun i wr => ∃ k : Nat, k ≤ rs.length ∧ i = .int .i64 k ∧ Below v4.heap.size v4 wr) (fun i _ => rs.length - (intOf i).toNat)
        case atStart => exact ⟨0, Nat.zero_le _, rfl, Below.refl _ _⟩
        case round =>
          obtain ⟨k, hk, rfl, hbq⟩ := hrel
          have HBQ := Lib.hid hbq
          by_cases hlt : k < rs.length
          · obtain ⟨ad, S, sa, T, ta, rfl, y0, y1, y2, _, _, _, _, _⟩ := row_rec_at (HP.out.below hbq).2.2 hlt
            obtain ⟨hv, hst⟩ := HRS.out k rs[k] (List.getElem?_eq_getElem hlt)
            rw [hv] at y1
            rw [hst] at y2
            have kx := (HX1.out.under (HSS.out.below (bthen HB11.out hbq)).bel).cell 0
            simp only [List.getElem?_cons_zero] at kx
            have HK := Lib.hid (fun W (hb : Below wr.heap.size wr W) => show W.cell? ⟨w.heap.size, 0, none⟩ = some (.string s) ∧ W.cell? ⟨(ad.add (k * 6)).block, (ad.add (k * 6)).off + 1, none⟩ = some (.int .i64 ((k : Int) + 1)) ∧ W.cell? ⟨(ad.add (k * 6)).block, (ad.add (k * 6)).off + 2, none⟩ = some (.string s) from
              ⟨(hb.cell (World.block_lt_of_cell? wr _ kx)).trans kx, (hb.cell (World.block_lt_of_cell? wr _ y1)).trans y1, (hb.cell (World.block_lt_of_cell? wr _ y2)).trans y2⟩)
            have e1 : (0 : Int) ≤ (k : Int) := Int.natCast_nonneg _
            have e2 : (k : Int) < (rs.length : Int) := by omega
            have ew : IntKind.i64.wrap ((k : Int) + 1) = (k : Int) + 1 := IntWalk.i64_in _ (by omega)
            clear hbq hv hst y0 y1 y2 kx
            go_upto_region 28 with fail
            go_cut [137] (fun v wx => v = .bool false ∧ Below wr.heap.size wr wx)
            case first =>
              go_region_held3 (fun W => W.cell? ⟨w.heap.size, 0, none⟩ = some (.string s) ∧ W.cell? ⟨(ad.add (k * 6)).block, (ad.add (k * 6)).off + 1, none⟩ = some (.int .i64 ((k : Int) + 1)) ∧ W.cell? ⟨(ad.add (k * 6)).block, (ad.add (k * 6)).off + 2, none⟩ = some (.string s)) (first | exact HK.out _ (below_drawn (Below.refl _ _)) | (assumption)) (fail)
              all_goals go_wp2_with fail
              all_goals go_meet
              all_goals exact ⟨by first | rfl | simp, below_drawn (Below.refl _ _)⟩
            case rest =>
              obtain ⟨rfl, hbc⟩ := hcut
              clear ew
              go_wp2_with fail
              go_roundw
              case rel => exact ⟨k + 1, by omega, by go_num, bthen HBQ.out hbc⟩
              case measure => simp [intOf]; omega
          · obtain rfl : k = rs.length := by omega
            clear hbq
            obtain ⟨v5, hv5⟩ : ∃ v5, v5 = wr := ⟨_, rfl⟩
            subst hv5
            have HB12 := Lib.hid (bthen HB11.out HBQ.out)
            clear HBQ
            obtain ⟨r2, hr2⟩ : ∃ r2, qryR fs (fewM q) f = r2 := ⟨_, rfl⟩
            have hl2 : r2.length ≤ 192 := by
              have := qryR_len fs (fewM q) f
              rw [hr2] at this
              omega
            have hlb : rb.length ≤ 192 := by
              have := qryR_len fs (fewM q) z
              rw [HRB.out] at this
              omega
            have HR2 := Lib.hid hr2
            have L1 := Lib.hid (fun W (R : Prop) (hW : Below v5.heap.size v5 W ∧ R) => show Calls Try.prog 17 #[.pointer (some ⟨B.b, 0, none⟩)] W fun r w' => r = .returned (.int .i64 f) ∧ W = w' from by
              have := iLast (HSS.out.below (bthen HB12.out hW.1)).li.ix
              rw [HFL.out] at this
              exact this)
            have L2 := Lib.hid (fun W (R : Prop) (hW : Below v5.heap.size v5 W ∧ R) => show Calls Try.prog 24 #[.pointer (some ⟨B.b, 0, none⟩), .agg #[.slice Q4 (fewM q).length cq4], .int .i64 f] W fun r w' => (∃ P p, r = .returned (.slice P r2.length p) ∧ SlR w' P p r2) ∧ Below W.heap.size W w' from by
              have := iQuery (HSS.out.below (bthen HB12.out hW.1)).li.ix (HSS.out.below (bthen HB12.out hW.1)).q.any HGQ.out f
              rw [HR2.out] at this
              exact this.mono fun r w' ⟨P, p, e, h1, h2⟩ => ⟨⟨P, p, e, h1.any⟩, h2⟩)
            have HK := Lib.hid (fun W (hb : Below v5.heap.size v5 W) => show Below v5.heap.size v5 W ∧ W.cell? ⟨g, 0, none⟩ = some (.slice Q4 (fewM q).length cq4) from ⟨hb, (HSS.out.below (bthen HB12.out hb)).xg.cell 0⟩)
            clear hr2
            go_upto_region 30 with fail
            go_cut [22] (fun v wx => v = .bool (decide (rb.length < r2.length)) ∧ Below v5.heap.size v5 wx)
            case first =>
              go_region_held3 (fun W => Below v5.heap.size v5 W ∧ W.cell? ⟨g, 0, none⟩ = some (.slice Q4 (fewM q).length cq4)) (first | exact HK.out _ (below_drawn (Below.refl _ _)) | (assumption) | exact HK.out _ HB13.out)
                (first
                  | (go_at_call 24; go_fit (L2.out _ _ (by assumption)); rintro r w13 ⟨⟨P13, p13, rfl, h13⟩, hb13⟩; have HB13 := Lib.hid (bthen (below_drawn (Below.refl _ _)) hb13); clear h13 hb13)
                  | (go_at_call 17; go_fit (L1.out _ _ (by assumption)); rintro r w14 ⟨rfl, rfl⟩))
              all_goals go_wp2_with fail
              all_goals go_meet
              all_goals exact ⟨by first | rfl | simp, HB13.out⟩
            case rest =>
              obtain ⟨rfl, hbc⟩ := hcut
              obtain ⟨v6, hv6⟩ : ∃ v6, v6 = wc := ⟨_, rfl⟩
              subst hv6
              have HB14 := Lib.hid hbc
              clear hbc
              go_upto_region 31 with fail
              go_cut [23] (fun v wx => ∃ P p, v = .slice P r2.length p ∧ SlR wx P p r2 ∧ Below v5.heap.size v5 wx)
              case first =>
                go_region_held3 (fun W => Below v5.heap.size v5 W ∧ W.cell? ⟨g, 0, none⟩ = some (.slice Q4 (fewM q).length cq4)) (first | exact HK.out _ (bthen HB14.out (below_drawn (Below.refl _ _))) | (assumption) | exact HK.out _ HB15.out)
                  (first
                    | (go_at_call 24; go_fit (L2.out _ _ (by assumption)); rintro r w15 ⟨⟨P15, p15, rfl, h15⟩, hb15⟩; have H15 := Lib.hid h15; have HB15 := Lib.hid (bthen HB14.out (bthen (below_drawn (Below.refl _ _)) hb15)); clear h15 hb15)
                    | (go_at_call 17; go_fit (L1.out _ _ (by assumption)); rintro r w14 ⟨rfl, rfl⟩))
                all_goals go_wp2_with fail
                all_goals go_meet
                all_goals exact ⟨P15, p15, rfl, H15.out, HB15.out⟩
              case rest =>
                obtain ⟨P2, p2, rfl, hP2, hbc⟩ := hcut
                obtain ⟨v7, hv7⟩ : ∃ v7, v7 = wc := ⟨_, rfl⟩
                subst hv7
                have HP2 := Lib.hid hP2
                have HB16 := Lib.hid (bthen HB12.out hbc)
                have hp1 := hP2.1
                have hp2 := hP2.2.1
                unfold maxLen at hp2
                have HMM := Lib.hid (show ∀ r ∈ r2, matchM (fewM q) r.ev = true from fun r hr => qry_mem (es := fs) (x := f) (by rw [HR2.out]; exact hr))
                have HRI := Lib.hid (show ∀ (i j : Nat) (hi : i < r2.length) (hj : j < r2.length), i < j → r2[i].pos < r2[j].pos from by
                  have := qry_rise fs (fewM q) f
                  rw [HR2.out] at this
                  exact List.pairwise_iff_getElem.1 this)
                have HQ2 := Lib.hid (fun W (hb : Below v7.heap.size v7 W) => (HSS.out.below (bthen HB16.out hb)).q.any)
                have HG2 := Lib.hid (fun W (hb : Below v7.heap.size v7 W) => show W.cell? ⟨g, 0, none⟩ = some (.slice Q4 (fewM q).length cq4) from (HSS.out.below (bthen HB16.out hb)).xg.cell 0)
                clear hP2 hbc L1 L2 HK HB14
                go_wp2_with fail
                go_loopw [24] (fun i wr => ∃ k : Nat, k ≤ r2.length ∧ i = .int .i64 k ∧ Below v7.heap.size v7 wr) (fun i _ => r2.length - (intOf i).toNat)
                case atStart => exact ⟨0, Nat.zero_le _, rfl, Below.refl _ _⟩
                case round =>
                  obtain ⟨k, hk, rfl, hbq⟩ := hrel
                  have HBQ := Lib.hid hbq
                  by_cases hlt : k < r2.length
                  · obtain ⟨ad, S, sa, T, ta, rfl, y0, y1, y2, y3, y4, y5, hS, hT⟩ := row_rec_at (HP2.out.below hbq).2.2 hlt
                    have hmm := HMM.out _ (List.getElem_mem hlt)
                    have HKL := Lib.hid hlt
                    have HAT := Lib.hid (fun W (hb : Below wr.heap.size wr W) (j : Nat) (hj : j < r2.length) => show W.cell? (ad.add (j * 6)) = some (.int .i64 r2[j].pos) from by
                      obtain ⟨ad', _, _, _, _, e', z0, _⟩ := row_rec_at ((HP2.out.below HBQ.out).below hb).2.2 hj
                      cases e'
                      exact z0)
                    have HRK := Lib.hid (fun (j : Nat) (hj : j + 1 = k) => HRI.out j k (by omega) hlt (by omega))
                    clear y0 y1
                    generalize r2[k] = rk at y2 y3 y4 y5 hS hT hmm
                    obtain ⟨e, he⟩ : ∃ e, e = rk.ev := ⟨_, rfl⟩
                    rw [← he] at y2 y3 y4 y5 hS hT hmm
                    have CM := Lib.hid (fun W (R : Prop) (hW : Below wr.heap.size wr W ∧ R) => show Calls Try.prog 25 #[.agg #[.slice Q4 (fewM q).length cq4], vEvent e S sa T ta] W fun r w' => r = .returned (.bool true) ∧ Below W.heap.size W w' from by
                      have := Match06_any (e := e) (F := T) (cf := ta) (HQ2.out _ (bthen HBQ.out hW.1)) (hS.below hW.1).any
                      rw [hmm] at this
                      exact this)
                    unfold vEvent at CM
                    have HK := Lib.hid (fun W (hb : Below wr.heap.size wr W) => show Below wr.heap.size wr W ∧ W.cell? ⟨g, 0, none⟩ = some (.slice Q4 (fewM q).length cq4) ∧ W.cell? ⟨(ad.add (k * 6)).block, (ad.add (k * 6)).off + 2, none⟩ = some (.string e.stream) ∧ W.cell? ⟨(ad.add (k * 6)).block, (ad.add (k * 6)).off + 3, none⟩ = some (.string e.type) ∧ W.cell? ⟨(ad.add (k * 6)).block, (ad.add (k * 6)).off + 4, none⟩ = some (.slice S e.tags.length sa) ∧ W.cell? ⟨(ad.add (k * 6)).block, (ad.add (k * 6)).off + 5, none⟩ = some (.slice T e.fields.length ta) from
                      ⟨hb, HG2.out _ (bthen HBQ.out hb), (hb.cell (World.block_lt_of_cell? wr _ y2)).trans y2, (hb.cell (World.block_lt_of_cell? wr _ y3)).trans y3, (hb.cell (World.block_lt_of_cell? wr _ y4)).trans y4, (hb.cell (World.block_lt_of_cell? wr _ y5)).trans y5⟩)
                    have e1 : (0 : Int) ≤ (k : Int) := Int.natCast_nonneg _
                    have e2 : (k : Int) < (r2.length : Int) := by omega
                    clear hbq hS hT hmm he y2 y3 y4 y5
                    go_upto_region 35 with fail
                    go_cut [25] (fun v wx => v = .bool true ∧ Below wr.heap.size wr wx)
                    case first =>
                      go_region_held3 (fun W => Below wr.heap.size wr W ∧ W.cell? ⟨g, 0, none⟩ = some (.slice Q4 (fewM q).length cq4) ∧ W.cell? ⟨(ad.add (k * 6)).block, (ad.add (k * 6)).off + 2, none⟩ = some (.string e.stream) ∧ W.cell? ⟨(ad.add (k * 6)).block, (ad.add (k * 6)).off + 3, none⟩ = some (.string e.type) ∧ W.cell? ⟨(ad.add (k * 6)).block, (ad.add (k * 6)).off + 4, none⟩ = some (.slice S e.tags.length sa) ∧ W.cell? ⟨(ad.add (k * 6)).block, (ad.add (k * 6)).off + 5, none⟩ = some (.slice T e.fields.length ta)) (first | exact HK.out _ (below_drawn (Below.refl _ _)) | (assumption) | exact HK.out _ HB17.out)
                        (first | (go_at_call 25; go_fit (CM.out _ _ (by assumption)); rintro r w17 ⟨rfl, hb17⟩; have HB17 := Lib.hid (bthen (below_drawn (Below.refl _ _)) hb17); clear hb17))
                      all_goals go_wp2_with fail
                      all_goals go_meet
                      all_goals exact ⟨rfl, HB17.out⟩
                    case rest =>
                      obtain ⟨rfl, hbc⟩ := hcut
                      obtain ⟨v8, hv8⟩ : ∃ v8, v8 = wc := ⟨_, rfl⟩
                      subst hv8
                      have HB18 := Lib.hid hbc
                      have y0 := HAT.out _ hbc k hlt
                      clear hbc CM HK
                      rcases k with _ | j
                      · go_wp2_with fail
                        go_quiet (fail)
                        go_wp2_with fail
                        go_roundw
                        case rel => exact ⟨1, by omega, by go_num, bthen HBQ.out (below_drewN HB18.out _)⟩
                        case measure => simp [intOf]; omega
                      · have y9 := HAT.out _ HB18.out j (by omega)
                        have hr := HRK.out j rfl
                        have d1 : decide (r2[j + 1].pos ≤ r2[j].pos) = false := decide_eq_false (by omega)
                        have d2 : decide ((0 : Int) < ((j + 1 : Nat) : Int)) = true := decide_eq_true (by omega)
                        have d3 : (0 : Int) < ((j + 1 : Nat) : Int) := by omega
                        generalize r2[j + 1].pos = pa at y0 d1
                        have ew : IntKind.i64.wrap (((j + 1 : Nat) : Int) - 1) = (j : Int) := by rw [IntWalk.i64_in _ (by omega)]; omega
                        have e3 : (0 : Int) ≤ (j : Int) := Int.natCast_nonneg _
                        have e4 : (j : Int) < (r2.length : Int) := by omega
                        clear hr HRK
                        go_wp2_with fail
                        go_quiet (fail)
                        go_wp2_with fail
                        go_roundw
                        case rel => exact ⟨j + 2, by omega, by go_num, bthen HBQ.out (below_drewN HB18.out _)⟩
                        case measure => simp [intOf]; omega
                  · obtain rfl : k = r2.length := by omega
                    clear hbq hlt
                    obtain ⟨v9, hv9⟩ : ∃ v9, v9 = wr := ⟨_, rfl⟩
                    subst hv9
                    have HB19 := Lib.hid (bthen HB16.out HBQ.out)
                    have kg9 := HG2.out _ HBQ.out
                    clear hza hzn
                    by_cases hz0 : z < 0
                    · have d1 : decide (z < 0) = true := decide_eq_true hz0
                      go_wp2_with fail
                      go_ret
                      exact ⟨rfl, bthen HB1.out (bthen HSS.out.bel HB19.out)⟩
                    · have d1 : decide (z < 0) = false := decide_eq_false hz0
                      have CN := Lib.hid (show Calls Try.prog 26 #[.pointer (some ⟨B.b, 0, none⟩), .agg #[.slice Q4 (fewM q).length cq4], .int .i64 z] v9 fun r w' => r = .returned (.bool (decide (rb.length < r2.length))) ∧ Below v9.heap.size v9 w' from by
                        have := iSince (HSS.out.below HB19.out).li.ix (HSS.out.below HB19.out).q.any HGQ.out z
                        rw [qry_more fs (fewM q) hzf, HRB.out, HFL.out, HR2.out] at this
                        exact this)
                      generalize decide (rb.length < r2.length) = b at CN ⊢
                      clear hz0
                      cases b
                      all_goals
                        go_wp2_with (first | (go_at_call 26; go_fit CN.out; rintro r w20 ⟨rfl, hb20⟩; have HB20 := Lib.hid hb20; clear hb20))
                        go_ret
                        exact ⟨rfl, bthen HB1.out (bthen HSS.out.bel (bthen HB19.out HB20.out))⟩
end Go.Proofs.Ytfoghahidofegaa

namespace Go.Proofs.Ytfoghahidofegaa

set_option maxRecDepth 100000 in
def ordN : List Nat := [104, 97, 114, 110, 101, 115, 115, 32, 51, 53, 102, 101, 54, 49, 53, 55, 98, 97, 100, 49, 55, 49, 56, 102, 100, 54, 51, 57, 51, 102, 48, 57, 48, 52, 49, 53, 54, 101, 56, 48, 49, 53, 48, 51, 49, 51, 55, 50, 54, 98, 54, 102, 52, 50, 101, 100, 56, 56, 98, 54, 51, 102, 57, 102, 52, 57, 97, 49, 101, 98, 57, 50, 32, 99, 117, 116, 32, 97, 116, 32, 114, 101, 103, 105, 115, 116, 114, 97, 114, 47, 114, 101, 103, 105, 115, 116, 114, 97, 114, 108, 97, 119, 48, 52, 46, 69, 118, 101, 110, 116, 80, 97, 114, 116, 115, 32, 114, 101, 103, 105, 115, 116, 114, 97, 114, 47, 114, 101, 103, 105, 115, 116, 114, 97, 114, 108, 97, 119, 48, 52, 46, 69, 118, 101, 110, 116, 78, 111, 114, 109, 32, 114, 101, 103, 105, 115, 116, 114, 97, 114, 47, 114, 101, 103, 105, 115, 116, 114, 97, 114, 108, 97, 119, 49, 52, 46, 73, 110, 100, 101, 120, 79, 119, 110, 32, 114, 101, 103, 105, 115, 116, 114, 97, 114, 47, 114, 101, 103, 105, 115, 116, 114, 97, 114, 108, 97, 119, 49, 52, 46, 73, 110, 100, 101, 120, 83, 116, 97, 121, 115]
def ordL : List Char := ordN.map Char.ofNat
theorem order_eq : Try.prog.initOrder = String.ofList ordL := by kernel_rfl
theorem signs_eq : Try.prog.initOrder.toList = ordL := by rw [order_eq, String.toList_ofList]
def ordRest : List (List Char) := (behindMainWord (wordsSigns ordL)).tail
theorem words_eq : behindMainWord (wordsSigns ordL) = "cut".toList :: ordRest := by kernel_rfl
theorem strip_cut (r : List (List Char)) : stripLifts liftWords ("cut".toList :: r) = ([], "cut".toList :: r) := by kernel_rfl
theorem mayEnter_of (P : Program) (rest : List (List Char)) (h : behindMainWord (wordsSigns P.initOrder.toList) = "cut".toList :: rest) (h1 : P.laysLater = false) (h2 : P.bearsReflect = false) (h3 : P.doorFits [] = true) : P.mayEnter = true := by
  unfold Program.mayEnter
  rw [h]
  dsimp only
  rw [strip_cut, h1, h2, h3]
  simp
theorem lifts_of (P : Program) (rest : List (List Char)) (h : behindMainWord (wordsSigns P.initOrder.toList) = "cut".toList :: rest) : P.liftsFinal = false := by
  unfold Program.liftsFinal Program.headLifts
  rw [h, strip_cut]
  simp
theorem make_of (P : Program) (rest : List (List Char)) (h : behindMainWord (wordsSigns P.initOrder.toList) = "cut".toList :: rest) : P.make = some .cut := by
  unfold Program.make
  rw [h]
  dsimp only
  rw [if_neg (by decide), if_pos (by simp)]
theorem door_of (P : Program) (h : P.doorRows = []) : P.doorFits [] = true := by
  unfold Program.doorFits
  rw [h]
  simp
theorem head_eq : behindMainWord (wordsSigns Try.prog.initOrder.toList) = "cut".toList :: ordRest := by rw [signs_eq]; exact words_eq
theorem h_later : Try.prog.laysLater = false := by kernel_rfl
theorem h_refl : Try.prog.bearsReflect = false := by kernel_rfl
theorem h_rows : Try.prog.doorRows = [] := by kernel_rfl
theorem mayEnter_eq : Try.prog.mayEnter = true := mayEnter_of _ _ head_eq h_later h_refl (door_of _ h_rows)
theorem lifts_eq : Try.prog.liftsFinal = false := lifts_of _ _ head_eq
theorem make_eq : Try.prog.make = some .cut := make_of _ _ head_eq
theorem laidOut_eq : laidOutB Try.prog = true := by kernel_rfl
theorem mapsRowed_eq : mapsRowed Try.prog = true := by kernel_rfl
theorem stops_eq : (Try.prog.stops == []) = true := by kernel_rfl
theorem stopKnobs_eq : (Try.prog.stopKnobs == []) = true := by kernel_rfl
theorem heard_eq : Try.prog.stopsHeard = true := by kernel_rfl
theorem own_eq : ownKnob Try.prog.godebug = none := by kernel_rfl

/-- The rows' one great closed fact, out of its parts. -/
theorem joined_of {P : Program} {f : FuncId} {fn : Func} {s : ChangeSpec} {c : OpenClaim}
    (k1 : c.wf (OpenSpec.ofChange s) = true) (k2 : laidOutB P = true) (k3 : mapsRowed P = true) (k4 : fn.params.all (P.readableRec ·) = true) (k5 : namedTie P c.named s.vars = true)
    (k6 : (c.stops == []) = true) (k7 : (P.stops == []) = true) (k8 : (c.knobs == []) = true) (k9 : (P.stopKnobs == []) = true)
    (k10 : (c.inPlace == P.inPlace f) = true) (k11 : (c.unfollowed == P.unfollowed f) = true) (k12 : (c.recurses == P.recurses f) = true) (k13 : (c.named == P.varsNamed f) = true)
    (k14 : (c.maps == (fn.params.toList ++ s.plain.varTypes P).any (P.mapsRec ·)) = true) (k15 : (c.ifaces == (fn.params.toList ++ s.plain.varTypes P).any (P.ifacesRec ·)) = true) (k16 : (c.mapsOut == P.mapsAmong fn.resultTypes.toList) = true)
    (k17 : (c.loops == (fn.params.toList ++ s.plain.varTypes P).any (P.loopsFrom ·)) = true) (k18 : (c.wideKeys == (fn.params.toList ++ s.plain.varTypes P ++ fn.resultTypes.toList).any (P.wideKeysFrom ·)) = true)
    (k19 : s.vars.all (P.varReadable ·) = true) (k20 : fn.resultTypes.all (fun t => P.readableRec t && decide (t < P.types.size)) = true) (k21 : (c.ifacesOut == fn.resultTypes.toList.any (P.ifacesRec ·)) = true) (k22 : (c.loopsOut == fn.resultTypes.toList.any (P.loopsFrom ·)) = true)
    (k23 : (c.plainKeys == P.plainKeys) = true) (k24 : c.shortTexts.isNone = true) (k25 : P.stopsHeard = true) (k26 : P.mayEnter = true) (k27 : (c.lifted == P.liftsFinal) = true) (k28 : (P.make == some c.make) = true)
    (k29 : c.kinds = [] ∧ c.domain = []) (k30 : (c.pinned == c.pinnedBy) = true)
    (k31 : (c.veiled == (fn.params.toList ++ s.plain.varTypes P ++ fn.resultTypes.toList).any (P.veiledRec ·)) = true) (k32 : c.veiledFits P fn.params.toList (fn.params.toList ++ s.plain.varTypes P ++ fn.resultTypes.toList) = true) :
    joinedFacts P f fn s c = true := by
  unfold joinedFacts
  rw [k1, k2, k3, k4, k5, k6, k7, k8, k9, k10, k11, k12, k13, k14, k15, k16, k17, k18, k19, k20, k21, k22, k23, k24, k25, k26, k27, k28, k29.1, k29.2, k30, k31, k32]
  rfl
end Go.Proofs.Ytfoghahidofegaa

namespace Go.Proofs.Ytfoghahidofegaa.indexStays
open Go.ChangeShapes Go.WideShapes Go.ChangeAt Go.RowKit
open Go.ChangeMaps (open_string shut_string)
set_option maxRecDepth 100000 in
theorem lifted (os : Os) (started : os.Started) (H : Type) (enc : TypeId × Value → H) :
    ReturnsInHanded {} Try.checked os 6 .any (Rows.indexStaysSpec.pre6 enc Try.prog Try.f6 Rows.indexStaysRow.domain false) (Rows.indexStaysSpec.post enc Try.prog Try.f6 false true false false) := by
  refine returnsInHanded_of_change_sized (C := Try.checked) own_eq started (by kernel_rfl) Try.func6
    (ChangeSpec.witness6 (enc := enc) (C := Try.checked) false ⟨#[], #[.slice none 0 0, .slice none 0 0, .agg #[.string ByteArray.empty, .slice none 0 0, .int .i64 0]], []⟩ 8 (by kernel_rfl) (by kernel_rfl) (by kernel_rfl) (by kernel_rfl)) ?_
  intro W base args ds gs before hval0 hW hcnd hsz0 _
  have hval : ∀ (j : Nat) t v, Try.f6.params[j]? = some t → args[j]? = some v → Value.okWide Try.prog W .any base t v := hval0
  have hW' := hW
  obtain ⟨p, q, hA0, hV, rfl, hfz, hnd⟩ := hW
  have hA : DataW.TrodAll enc Try.prog W 0 (fun _ => true) true Try.f6.params.toList args.toList ds p := hA0
  rw [Try.params6] at hA hval
  obtain ⟨v0, vs0, d0, ds0, p0, q0, hargs, rfl, rfl, h0, r0⟩ := trodAll_cons hA
  obtain ⟨v1, vs1, d1, ds1, p1, q1, rfl, rfl, rfl, h1, r1⟩ := trodAll_cons r0
  obtain ⟨v2, vs2, d2, ds2, p2, q2, rfl, rfl, rfl, h2, r2⟩ := trodAll_cons r1
  obtain ⟨rfl, rfl, rfl⟩ := trodAll_nil r2
  obtain rfl : args = #[v0, v1, v2] := by cases args; simp_all
  obtain ⟨rfl, rfl⟩ := trodVars_none hV
  have k0 := h0
  have lt0 : ∀ x ∈ p0, x.block < W.heap.size := by obtain ⟨m, hm⟩ := k0; exact DataW.trod_lt m _ _ _ hm
  obtain ⟨a0, len0, cap0, rfl⟩ := okWide_slice Try.underlying37 (hval 0 37 v0 rfl rfl)
  obtain ⟨x0, ⟨A0, c0, e0, l0, m0, w0⟩, g0⟩ := (opBatches).arg h0
  simp only [Value.cells, List.cons.injEq, Value.slice.injEq, and_true] at e0
  obtain ⟨rfl, rfl, rfl⟩ := e0
  have k1 := h1
  have lt1 : ∀ x ∈ p1, x.block < W.heap.size := by obtain ⟨m, hm⟩ := k1; exact DataW.trod_lt m _ _ _ hm
  obtain ⟨a1, len1, cap1, rfl⟩ := okWide_slice Try.underlying37 (hval 1 37 v1 rfl rfl)
  obtain ⟨x1, ⟨A1, c1, e1, l1, m1, w1⟩, g1⟩ := (opBatches).arg h1
  simp only [Value.cells, List.cons.injEq, Value.slice.injEq, and_true] at e1
  obtain ⟨rfl, rfl, rfl⟩ := e1
  have k2 := h2
  have lt2 : ∀ x ∈ p2, x.block < W.heap.size := by obtain ⟨m, hm⟩ := k2; exact DataW.trod_lt m _ _ _ hm
  obtain ⟨cs2, rfl, _⟩ := okWide_struct Try.underlying58 (hval 2 58 v2 rfl rfl)
  obtain ⟨x2, w2, g2⟩ := (opAsk).arg h2
  clear hA0 hval0
  refine (indexStays_walk W _ _ x0 ⟨l0, m0, w0⟩ g0 _ _ x1 ⟨l1, m1, w1⟩ g1 cs2 x2 w2 g2).mono fun e W' ⟨he, bel⟩ => ?_
  subst he
  exact ⟨_, rfl, _, _, _, [], _, [], hW', trodAll_mk1 (shut_bool Try.underlying4 _), (trodAll_cons_mk (Below.trod laidOut_eq (by kernel_rfl) (of_decide_eq_true (by kernel_rfl)) k0 bel lt0) (trodAll_cons_mk (Below.trod laidOut_eq (by kernel_rfl) (of_decide_eq_true (by kernel_rfl)) k1 bel lt1) (trodAll_cons_mk (Below.trod laidOut_eq (by kernel_rfl) (of_decide_eq_true (by kernel_rfl)) k2 bel lt2) trodAll_mk0))), rfl, bel.frame _, fun h => by cases h⟩
theorem k10 : (Rows.indexStaysRow.inPlace == Try.prog.inPlace 6) = true := by kernel_rfl
theorem k11 : (Rows.indexStaysRow.unfollowed == Try.prog.unfollowed 6) = true := by kernel_rfl
theorem k12 : (Rows.indexStaysRow.recurses == Try.prog.recurses 6) = true := by kernel_rfl
theorem k13 : (Rows.indexStaysRow.named == Try.prog.varsNamed 6) = true := by kernel_rfl
theorem k23 : (Rows.indexStaysRow.plainKeys == Try.prog.plainKeys) = true := by kernel_rfl
theorem kfn : Try.pinned.checked.prog.funcNamed Rows.indexStaysRow.func = some 6 := by kernel_rfl
theorem closed : joinedFacts Try.prog 6 Try.f6 Rows.indexStaysSpec Rows.indexStaysRow = true :=
  joined_of (by kernel_rfl) laidOut_eq mapsRowed_eq (by kernel_rfl) (by kernel_rfl) rfl stops_eq rfl stopKnobs_eq k10 k11 k12 k13 (by kernel_rfl) (by kernel_rfl) (by kernel_rfl) (by kernel_rfl) (by kernel_rfl) (by kernel_rfl) (by kernel_rfl) (by kernel_rfl) (by kernel_rfl) k23 rfl heard_eq mayEnter_eq (by rw [lifts_eq]; rfl) (by rw [make_eq]; rfl) ⟨rfl, rfl⟩ (by kernel_rfl) (by kernel_rfl) (by kernel_rfl)
theorem over : Rows.indexStaysRow.holds Try.pinned (OpenSpec.ofChange Rows.indexStaysSpec) :=
  OpenClaim.holds_of_wide 6 Try.f6 rfl rfl rfl rfl rfl rfl rfl ⟨rfl, rfl, rfl, rfl, rfl⟩ rfl rfl rfl rfl rfl kfn Try.func6 closed
    (of_decide_eq_true (by kernel_rfl)) (by unfold Func.isWrapper; first | (rw [if_pos (by decide +kernel)]; kernel_rfl) | (rw [if_neg (by decide +kernel)]; exact ⟨rfl, rfl⟩))
    (fun os started H enc _ => lifted os started H enc)
theorem proved : Rows.IndexStaysSaid := over
#print axioms proved
end Go.Proofs.Ytfoghahidofegaa.indexStays
