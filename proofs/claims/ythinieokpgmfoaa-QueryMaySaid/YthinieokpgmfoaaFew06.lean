/- registrarlaw06.few: a query of at most 8 clauses, of 8 tags and 8 types each (walk). -/
import Derived.Test.YthinieokpgmfoaaMatch
import Derived.Test.YthinieokpgmfoaaBox
set_option linter.unusedVariables false
set_option linter.unusedSimpArgs false
namespace Go.Proofs.Ythinieokpgmfoaa
open Go.RowKit

theorem infoClause : (Try.prog.info? 33).map (fun i => (i.zero, i.size, i.bytes)) = some (some (.agg #[.slice none 0 0, .slice none 0 0]), 2, 48) := by kernel_rfl
def cutC (c : Clause) : Clause := ⟨c.tags.take 8, c.types.take 8⟩
def fewM (q : List Clause) : List Clause := (q.take 8).map cutC
theorem fewM_succ (q : List Clause) (k : Nat) (h : k < q.length) (h8 : k < 8) : (q.take (k + 1)).map cutC = (q.take k).map cutC ++ [cutC q[k]] := by
  rw [List.take_succ_eq_append_getElem h, List.map_append]; rfl

/-- few's state at a round's head: the boxes of q, of the result, of out; out's clauses. -/
structure FewAt (ok : Nat → Prop) (q : List Clause) (Q : Option Addr) (cq : Nat) (w : World) (k : Nat) (v : Value) (wr : World) : Prop where
  b1 : Bx wr w.heap.size 24 [.slice Q q.length cq]
  b2 : Bx wr (w.heap.size + 1) 24 [.slice none 0 0]
  b3 : Bx wr (w.heap.size + 1 + 1) 24 [v]
  own : Own kClause 33 (w.heap.size + 3) (fun k => ok k ∧ k < w.heap.size) wr v ((q.take k).map cutC)
  sl : Sl kClause (fun k => ok k ∧ k < w.heap.size) wr Q cq q
  size : w.heap.size + 3 ≤ wr.heap.size
  bel : Below w.heap.size w wr

theorem FewAt.box {ok : Nat → Prop} {q : List Clause} {Q : Option Addr} {cq : Nat} {w : World} {k : Nat} {v : Value} {wr W w1 : World} (h : FewAt ok q Q cq w k v wr) (hb : Below wr.heap.size wr W) (hg : W.grownBy w1 v.ownBlock) : Bx w1 (w.heap.size + 1 + 1) 24 [v] :=
  (h.b3.under hb).grown hg (fun e => by have := h.own.base_le _ e.symm; omega)
/-- A round's end. -/
theorem FewAt.step {ok : Nat → Prop} {q : List Clause} {Q : Option Addr} {cq : Nat} {w : World} {k : Nat} {v v1 : Value} {wr W w1 : World} (h : FewAt ok q Q cq w k v wr) (hb : Below wr.heap.size wr W)
    (hg : W.grownBy w1 v.ownBlock) (x : Clause) (hxe : q[k]? = some x) (h8 : k < 8) (hown : Own kClause 33 (w.heap.size + 3) (fun k => ok k ∧ k < w.heap.size) w1 v1 ((q.take k).map cutC ++ [cutC x])) :
    FewAt ok q Q cq w (k + 1) v1 (w1.setCell ⟨w.heap.size + 1 + 1, 0, none⟩ v1) := by
  have hs := h.size
  obtain ⟨hk, hxe⟩ := List.getElem?_eq_some_iff.1 hxe
  subst hxe
  have hv : ∀ j, v.ownBlock = some j → w.heap.size + 3 ≤ j := h.own.base_le
  have hne : ∀ j, j < w.heap.size + 3 → some j ≠ v.ownBlock := fun j hj e => by have := hv j e.symm; omega
  have hbl : ∀ j, j < w.heap.size + 3 → w1.heap[j]? = wr.heap[j]? := fun j hj => (hg.block j (by have := hb.size; omega) (hne j hj)).trans (hb.block j (by omega))
  have hsz : wr.heap.size ≤ w1.heap.size := Nat.le_trans hb.size hg.size
  refine ⟨?_, ?_, ?_, ?_, ?_, ?_, ?_⟩
  · exact (h.b1.stay (fun _ => hbl _ (by omega))).far (by simp; omega) _
  · exact (h.b2.stay (fun _ => hbl _ (by omega))).far (by simp) _
  · exact (h.b3.stay (fun _ => hbl _ (by omega))).set 0 v1
  · rw [fewM_succ q k hk h8]
    exact hown.setCell (fun j hj => by simp; omega) (fun j hj => by have := hown.base_le j hj; simp; omega) _
  · exact ((h.sl.stay hsz (fun j hj _ => hbl j (by omega)))).setCell (fun j hj => by simp; omega) _
  · simp [World.setCell]; omega
  · refine Below.setCell ?_ (by simp; omega) _
    exact ⟨hg.os.trans (hb.os.trans h.bel.os), hg.tape.trans (hb.tape.trans h.bel.tape), hg.output.trans (hb.output.trans h.bel.output), Nat.le_trans h.bel.size hsz, fun j hj => (hbl j (by omega)).trans (h.bel.block j hj)⟩

set_option maxHeartbeats 4000000 in
set_option maxRecDepth 100000 in
theorem few_any (ok : Nat → Prop) {q : List Clause} {Q : Option Addr} {cq : Nat} {w : World} (hq : Sl kClause ok w Q cq q) :
    Calls Try.prog 13 #[.agg #[.slice Q q.length cq]] w fun r w' => ∃ A c, r = .returned (.agg #[.slice A (fewM q).length c]) ∧ Sl kClause (fun k => ok k ∨ w.heap.size ≤ k) w' A c (fewM q) ∧ Below w.heap.size w w' := by
  have hq2 := hq.2.1
  unfold maxLen at hq2
  have hq1 := hq.1
  have h0 : FewAt ok q Q cq w 0 (.slice none 0 0) (((w.alloc (.cells #[.slice Q q.length cq] 24)).alloc (.cells #[.slice none 0 0] 24)).alloc (.cells #[.slice none 0 0] 24)) := by
    refine ⟨?_, ?_, ?_, Own.nil_ _ _ _ _ _, ((hq.bound.alloc _).alloc _).alloc _, by simp, (((Below.refl _ _).alloc (Nat.le_refl _) _).alloc (by simp) _).alloc (by simp; omega) _⟩
    · exact ((Bx.new w _ [.slice Q q.length cq]).alloc _).alloc _
    · exact (by simpa using Bx.new (w.alloc (.cells #[.slice Q q.length cq] 24)) 24 [.slice none 0 0] : Bx _ (w.heap.size + 1) _ _).alloc _
    · simpa using Bx.new ((w.alloc (.cells #[.slice Q q.length cq] 24)).alloc (.cells #[.slice none 0 0] 24)) 24 [.slice none 0 0]
  have H0 := Lib.hid h0
  clear h0
  go_enter Try.func13, Try.ntmps13
  go_wp2
  go_loopw [4, 5] (fun i _ wr => ∃ (k : Nat) (v : Value), k ≤ 8 ∧ k ≤ q.length ∧ i = .int .i64 k ∧ FewAt ok q Q cq w k v wr) (fun i _ _ => q.length - (intOf i).toNat)
  case atStart => exact ⟨0, _, Nat.zero_le _, Nat.zero_le _, rfl, H0.out⟩
  case round =>
    clear H0
    obtain ⟨k, v, hk8, hk, rfl, hf⟩ := hrel
    have c1 := hf.b1.c0
    have c2 := hf.b2.c0
    have c3 := hf.b3.c0
    have f3 := hf.b3.free 0
    have hsz := hf.size
    have l1 : w.heap.size < wr.heap.size := by omega
    have l2 : w.heap.size + 1 < wr.heap.size := by omega
    have l3 : w.heap.size + 1 + 1 < wr.heap.size := by omega
    by_cases hlt : k < q.length ∧ k < 8
    · obtain ⟨hlt, h8⟩ := hlt
      obtain ⟨ad, S, sa, T, ta, rfl, hx, hy, hS, hT⟩ := row_clause_at hf.sl.2.2 hlt
      have hst := Lib.hid (fun (W w1 : World) (v1 : Value) => FewAt.step (W := W) (w1 := w1) (v1 := v1) hf)
      have hown := Lib.hid hf.own
      have hbx := Lib.hid (fun (W w1 : World) => FewAt.box (W := W) (w1 := w1) hf)
      have hkk : ∀ n m, (cutC q[k]).tags.length = n → (cutC q[k]).types.length = m → kClause.K (fun j => (ok j ∧ j < w.heap.size) ∧ some j ≠ v.ownBlock) wr (cutC q[k]) [.slice S n sa, .slice T m ta] := fun n m e1 e2 =>
        kClause.mono (fun j hj => ⟨hj, fun e => by have := hf.own.base_le j e.symm; omega⟩) (kClause_mk' (hS.take 8) (hT.take 8) e1 e2)
      have hxe : q[k]? = some q[k] := List.getElem?_eq_getElem hlt
      have hlen : ∀ y, ((q.take k).map cutC ++ [cutC y]).length = k + 1 := by intro y; simp; omega
      have HX := Lib.hid hxe
      generalize q[k] = x at hx hy hS hT hkk HX
      clear hf hxe
      have hsa := hS.1
      have hta := hT.1
      by_cases ht : 8 < x.tags.length <;> by_cases hty : 8 < x.types.length
      · have HK := Lib.hid (fun o => kClause.below (hkk 8 8 (by simp [cutC]; omega) (by simp [cutC]; omega)) ((Below.refl _ wr).alloc (Nat.le_refl _) o))
        clear hkk
        go_wp2_with (at_builtin; refine wpList_pushH rfl _ _ _ rfl 33 _ 2 48 Try.underlying22 infoClause rfl (by decide) (by decide) rfl (w.heap.size + 3) (fun k => ok k ∧ k < w.heap.size) _ ((q.take k).map cutC) rfl (hown.out.alloc _) (cutC x) _ (HK.out _) (wr.heap.size + 1) (by simp) rfl (by simp; omega) (by simp; omega) ?_; intro v1 w1 hown1 hg1 hat1 hbel1; obtain ⟨A1, cc1, rfl, hsl1⟩ := hown1.sl; rw [hlen] at hown1; have k3 := (hbx.out _ w1 ((Below.refl _ wr).alloc (Nat.le_refl _) _) hg1).c0; have kf := (hbx.out _ w1 ((Below.refl _ wr).alloc (Nat.le_refl _) _) hg1).free 0)
        go_roundw
        case rel => exact ⟨k + 1, _, by omega, by omega, by go_num, hst.out _ w1 _ ((Below.refl _ wr).alloc (Nat.le_refl _) _) hg1 x HX.out h8 hown1⟩
        case measure => simp [intOf]; omega
      · have HK := Lib.hid (fun o => kClause.below (hkk 8 x.types.length (by simp [cutC]; omega) (by simp [cutC]; omega)) ((Below.refl _ wr).alloc (Nat.le_refl _) o))
        clear hkk
        go_wp2_with (at_builtin; refine wpList_pushH rfl _ _ _ rfl 33 _ 2 48 Try.underlying22 infoClause rfl (by decide) (by decide) rfl (w.heap.size + 3) (fun k => ok k ∧ k < w.heap.size) _ ((q.take k).map cutC) rfl (hown.out.alloc _) (cutC x) _ (HK.out _) (wr.heap.size + 1) (by simp) rfl (by simp; omega) (by simp; omega) ?_; intro v1 w1 hown1 hg1 hat1 hbel1; obtain ⟨A1, cc1, rfl, hsl1⟩ := hown1.sl; rw [hlen] at hown1; have k3 := (hbx.out _ w1 ((Below.refl _ wr).alloc (Nat.le_refl _) _) hg1).c0; have kf := (hbx.out _ w1 ((Below.refl _ wr).alloc (Nat.le_refl _) _) hg1).free 0)
        go_roundw
        case rel => exact ⟨k + 1, _, by omega, by omega, by go_num, hst.out _ w1 _ ((Below.refl _ wr).alloc (Nat.le_refl _) _) hg1 x HX.out h8 hown1⟩
        case measure => simp [intOf]; omega
      · have HK := Lib.hid (fun o => kClause.below (hkk x.tags.length 8 (by simp [cutC]; omega) (by simp [cutC]; omega)) ((Below.refl _ wr).alloc (Nat.le_refl _) o))
        clear hkk
        go_wp2_with (at_builtin; refine wpList_pushH rfl _ _ _ rfl 33 _ 2 48 Try.underlying22 infoClause rfl (by decide) (by decide) rfl (w.heap.size + 3) (fun k => ok k ∧ k < w.heap.size) _ ((q.take k).map cutC) rfl (hown.out.alloc _) (cutC x) _ (HK.out _) (wr.heap.size + 1) (by simp) rfl (by simp; omega) (by simp; omega) ?_; intro v1 w1 hown1 hg1 hat1 hbel1; obtain ⟨A1, cc1, rfl, hsl1⟩ := hown1.sl; rw [hlen] at hown1; have k3 := (hbx.out _ w1 ((Below.refl _ wr).alloc (Nat.le_refl _) _) hg1).c0; have kf := (hbx.out _ w1 ((Below.refl _ wr).alloc (Nat.le_refl _) _) hg1).free 0)
        go_roundw
        case rel => exact ⟨k + 1, _, by omega, by omega, by go_num, hst.out _ w1 _ ((Below.refl _ wr).alloc (Nat.le_refl _) _) hg1 x HX.out h8 hown1⟩
        case measure => simp [intOf]; omega
      · have HK := Lib.hid (fun o => kClause.below (hkk x.tags.length x.types.length (by simp [cutC]; omega) (by simp [cutC]; omega)) ((Below.refl _ wr).alloc (Nat.le_refl _) o))
        clear hkk
        go_wp2_with (at_builtin; refine wpList_pushH rfl _ _ _ rfl 33 _ 2 48 Try.underlying22 infoClause rfl (by decide) (by decide) rfl (w.heap.size + 3) (fun k => ok k ∧ k < w.heap.size) _ ((q.take k).map cutC) rfl (hown.out.alloc _) (cutC x) _ (HK.out _) (wr.heap.size + 1) (by simp) rfl (by simp; omega) (by simp; omega) ?_; intro v1 w1 hown1 hg1 hat1 hbel1; obtain ⟨A1, cc1, rfl, hsl1⟩ := hown1.sl; rw [hlen] at hown1; have k3 := (hbx.out _ w1 ((Below.refl _ wr).alloc (Nat.le_refl _) _) hg1).c0; have kf := (hbx.out _ w1 ((Below.refl _ wr).alloc (Nat.le_refl _) _) hg1).free 0)
        go_roundw
        case rel => exact ⟨k + 1, _, by omega, by omega, by go_num, hst.out _ w1 _ ((Below.refl _ wr).alloc (Nat.le_refl _) _) hg1 x HX.out h8 hown1⟩
        case measure => simp [intOf]; omega
    · have hown := hf.own
      have hfin : (q.take k).map cutC = fewM q := by
        unfold fewM
        congr 1
        rcases Nat.lt_or_ge k 8 with h | h
        · rw [List.take_of_length_le (by omega), List.take_of_length_le (by omega)]
        · rw [show k = 8 by omega]
      rw [hfin] at hown
      obtain ⟨A1, cc1, rfl, hsl1⟩ := hown.sl
      have hb := hf.bel
      have hR := Lib.hid (show Bx (wr.setCell ⟨w.heap.size + 1, 0, none⟩ (.slice A1 (fewM q).length cc1)) (w.heap.size + 1) 24 [.slice A1 (fewM q).length cc1] from hf.b2.set 0 _)
      have f2 := hf.b2.free 0
      clear hf hfin
      rcases Nat.lt_or_ge k q.length with hc | hc
      · have h8 : ¬ k < 8 := fun h => hlt ⟨hc, h⟩
        go_wp2_with fail
        exact bodyPost_ret (v := .agg #[.slice A1 (fewM q).length cc1]) (by simp [results, Try.results13, go_sem, hR.out.c0]) rfl ⟨A1, cc1, rfl, (hsl1.setCell (fun j hj => by simp; omega) _).mono (fun k hk => hk.imp And.left (fun h => by omega)), hb.setCell (by simp) _⟩
      · go_wp2_with fail
        exact bodyPost_ret (v := .agg #[.slice A1 (fewM q).length cc1]) (by simp [results, Try.results13, go_sem, hR.out.c0]) rfl ⟨A1, cc1, rfl, (hsl1.setCell (fun j hj => by simp; omega) _).mono (fun k hk => hk.imp And.left (fun h => by omega)), hb.setCell (by simp) _⟩
end Go.Proofs.Ythinieokpgmfoaa
