/- query.Norm. -/
import Derived.Test.YthinieokpgmfoaaSlUniq
import Derived.Test.YthinieokpgmfoaaFew06
import Derived.Test.YthinieokpgmfoaaStep
import Derived.Deep.DeepFit
set_option linter.unusedVariables false
set_option linter.unusedSimpArgs false
namespace Go.Proofs.Ythinieokpgmfoaa
open Go.RowKit

def normC (c : Clause) : Clause := ⟨uniq c.tags, uniq c.types⟩
theorem norm_succ (q : List Clause) (k : Nat) (h : k < q.length) : (q.take (k + 1)).map normC = (q.take k).map normC ++ [normC q[k]] := by
  rw [List.take_succ_eq_append_getElem h, List.map_append]; rfl
/-- Norm's state at a round's head. -/
structure NormAt (q : List Clause) (w : World) (k : Nat) (v : Value) (wr : World) : Prop where
  b2 : Bx wr (w.heap.size + 1) 24 [.slice none 0 0]
  b3 : Bx wr (w.heap.size + 1 + 1) 24 [v]
  own : Own kClause 33 (w.heap.size + 3) (fun k => w.heap.size + 3 ≤ k) wr v ((q.take k).map normC)
  size : w.heap.size + 3 ≤ wr.heap.size
  bel : Below w.heap.size w wr
theorem NormAt.step {q : List Clause} {w : World} {k : Nat} {v v1 : Value} {wr W w1 : World} (h : NormAt q w k v wr) (hb : Below wr.heap.size wr W) (hg : W.grownBy w1 v.ownBlock) (x : Clause) (hxe : q[k]? = some x)
    (hown : Own kClause 33 (w.heap.size + 3) (fun k => w.heap.size + 3 ≤ k) w1 v1 ((q.take k).map normC ++ [normC x])) : NormAt q w (k + 1) v1 (w1.setCell ⟨w.heap.size + 1 + 1, 0, none⟩ v1) := by
  have hs := h.size
  obtain ⟨hk, hxe⟩ := List.getElem?_eq_some_iff.1 hxe
  subst hxe
  have hv : ∀ j, v.ownBlock = some j → w.heap.size + 3 ≤ j := h.own.base_le
  have hbl : ∀ j, j < w.heap.size + 3 → w1.heap[j]? = wr.heap[j]? := fun j hj => (hg.block j (by have := hb.size; omega) (fun e => by have := hv j e.symm; omega)).trans (hb.block j (by omega))
  have hsz : wr.heap.size ≤ w1.heap.size := Nat.le_trans hb.size hg.size
  refine ⟨?_, ?_, ?_, ?_, ?_⟩
  · exact (h.b2.stay (fun _ => hbl _ (by omega))).far (by simp) _
  · exact (h.b3.stay (fun _ => hbl _ (by omega))).set 0 v1
  · rw [norm_succ q k hk]
    exact hown.setCell (fun j hj => by simp; omega) (fun j hj => by have := hown.base_le j hj; simp; omega) _
  · simp [World.setCell]; omega
  · refine Below.setCell ?_ (by simp; omega) _
    exact ⟨hg.os.trans (hb.os.trans h.bel.os), hg.tape.trans (hb.tape.trans h.bel.tape), hg.output.trans (hb.output.trans h.bel.output), Nat.le_trans h.bel.size hsz, fun j hj => (hbl j (by omega)).trans (h.bel.block j hj)⟩
set_option maxHeartbeats 4000000 in
set_option maxRecDepth 100000 in
theorem Norm_any {q : List Clause} {Q : Option Addr} {cq : Nat} {w : World} (hq : SlC w Q cq q) (hl : q.length ≤ 1000000) (hlt : ∀ c ∈ q, c.tags.length ≤ 1000000 ∧ c.types.length ≤ 1000000) :
    Calls Try.prog 15 #[.agg #[.slice Q q.length cq]] w fun r w' => ∃ A c, r = .returned (.agg #[.slice A (q.map normC).length c]) ∧ Sl kClause (fun k => w.heap.size ≤ k) w' A c (q.map normC) ∧ Below w.heap.size w w' := by
  have hq2 := hq.2.1
  unfold maxLen at hq2
  have hq1 := hq.1
  have h0 : NormAt q w 0 (.slice none 0 0) (((w.alloc (.cells #[.slice Q q.length cq] 24)).alloc (.cells #[.slice none 0 0] 24)).alloc (.cells #[.slice none 0 0] 24)) := by
    refine ⟨?_, ?_, Own.nil_ _ _ _ _ _, by simp, (((Below.refl _ _).alloc (Nat.le_refl _) _).alloc (by simp) _).alloc (by simp; omega) _⟩
    · exact (by simpa using Bx.new (w.alloc (.cells #[.slice Q q.length cq] 24)) 24 [.slice none 0 0] : Bx _ (w.heap.size + 1) _ _).alloc _
    · simpa using Bx.new ((w.alloc (.cells #[.slice Q q.length cq] 24)).alloc (.cells #[.slice none 0 0] 24)) 24 [.slice none 0 0]
  have H0 := Lib.hid h0
  have HQ := Lib.hid hq.bound
  have HLT := Lib.hid hlt
  clear h0 hq hlt
  go_enter Try.func15, Try.ntmps15
  go_wp2
  go_loopw [9] (fun i wr => ∃ (k : Nat) (v : Value), k ≤ q.length ∧ i = .int .i64 k ∧ NormAt q w k v wr) (fun i _ => q.length - (intOf i).toNat)
  case atStart => exact ⟨0, _, Nat.zero_le _, rfl, H0.out⟩
  case round =>
    clear H0
    obtain ⟨k, v, hk, rfl, hf⟩ := hrel
    by_cases hlt : k < q.length
    · obtain ⟨ad, S, sa, T, ta, rfl, hx, hy, hS, hT⟩ := row_clause_at (HQ.out.stay hf.bel.size (fun j hj hl => hf.bel.block j hl)).2.2 hlt
      have hxe : q[k]? = some q[k] := List.getElem?_eq_getElem hlt
      have HX := Lib.hid hxe
      obtain ⟨ht1, ht2⟩ := HLT.out q[k] (List.getElem_mem hlt)
      have HLN := Lib.hid (show ∀ y, ((q.take k).map normC ++ [normC y]).length = k + 1 by intro y; simp; omega)
      generalize q[k] = x at hx hy hS hT HX ht1 ht2
      clear hxe
      have b1 : (0 : Int) ≤ (k : Int) := Int.natCast_nonneg _
      have b2 : (k : Int) < (q.length : Int) := by omega
      go_upto_region 5 with fail
      have HF := Lib.hid hf
      have hbx : Bx (wr.alloc (.cells #[.slice S x.tags.length sa, .slice T x.types.length ta] 33)) wr.heap.size 33 [.slice S x.tags.length sa, .slice T x.types.length ta] := Bx.new wr _ _
      have hbX : Below wr.heap.size wr (wr.alloc (.cells #[.slice S x.tags.length sa, .slice T x.types.length ta] 33)) := (Below.refl _ _).alloc (Nat.le_refl _) _
      have hzX : (wr.alloc (.cells #[.slice S x.tags.length sa, .slice T x.types.length ta] 33)).heap.size = wr.heap.size + 1 := by simp
      have hSX := hS.below hbX
      have hTX := hT.below hbX
      have hb3 := hf.b3.under hbX
      generalize wr.alloc (.cells #[.slice S x.tags.length sa, .slice T x.types.length ta] 33) = X at *
      have hsz := hf.size
      have C1 := Lib.hid (fun (W : World) (hb : Below X.heap.size X W) => qsorted_any (w := W) (hSX.below hb) ht1)
      have C2 := Lib.hid (fun (W : World) (hb : Below X.heap.size X W) => qsorted_any (w := W) (hTX.below hb) ht2)
      have HK := Lib.hid (fun W (hb : Below X.heap.size X W) => show W.cell? ⟨w.heap.size + 1 + 1, 0, none⟩ = some v ∧ W.cell? ⟨wr.heap.size, 0, none⟩ = some (.slice S x.tags.length sa) ∧ W.cell? ⟨wr.heap.size, 1, none⟩ = some (.slice T x.types.length ta) from ⟨(hb3.under hb).cell 0, (hbx.under hb).cell 0, (hbx.under hb).cell 1⟩)
      have HOW := Lib.hid (fun W (hb : Below X.heap.size X W) => hf.own.below (bthen hbX hb))
      have HVB := Lib.hid (show ∀ k, X.heap.size ≤ k → w.heap.size + 3 ≤ k ∧ some k ≠ v.ownBlock from fun k hk => ⟨by omega, fun e => by have := hf.own.block_lt k e.symm; omega⟩)
      have HVG := Lib.hid (show some (w.heap.size + 1 + 1) ≠ v.ownBlock from fun e => by have := hf.own.base_le _ e.symm; omega)
      have HBX := Lib.hid hbX
      have HZX := Lib.hid hzX
      have HSZ := Lib.hid hsz
      have HB3 := Lib.hid hb3
      obtain ⟨k0, k1, k2⟩ := HK.out X (Below.refl _ _)
      have l1 : w.heap.size + 1 + 1 < X.heap.size := by omega
      have l2 : wr.heap.size < X.heap.size := by omega
      clear hf hbx hbX hzX hSX hTX hS hT hb3 hx hy hsz ht1 ht2
      go_region_law (first
          | (refine step_push (W := w4) rfl _ _ _ rfl 33 _ 2 48 Try.underlying22 infoClause rfl (by decide) (by decide) rfl (w.heap.size + 3) (fun k => w.heap.size + 3 ≤ k) v _ rfl (HOW.out _ HB4.out) (normC x) [.slice A3 (uniq x.tags).length c3, .slice A4 (uniq x.types).length c4] (kClause_mk (HS4.out.mono (fun k hk => HVB.out k hk)) (HT4.out.mono (fun k hk => HVB.out k (Nat.le_trans HB34.out.size hk)))) _ rfl rfl (by have := HB4.out.size; have := HZX.out; have := HSZ.out; omega) (by simp; omega) ?_; intro v1 w5 hown5 hg5 hat5 hbel5; obtain ⟨V5, cv5, hv5, _⟩ := hown5.sl; rw [HLN.out] at hv5; subst hv5; have j0 := ((HB3.out.under HB4.out).grown hg5 HVG.out).cell 0; have j1 := ((HB3.out.under HB4.out).grown hg5 HVG.out).free 0; have HST := Lib.hid (HF.out.step (bthen HBX.out HB4.out) hg5 x HX.out hown5); clear hown5 hg5 hat5 hbel5)
          | (go_simp; go_at_call 39; go_fit (C2.out _ HB3'.out); rintro r w4 ⟨A4, c4, rfl, h4, hb4⟩; have HB4 := Lib.hid (show Below X.heap.size X w4 from bthen HB3'.out hb4); have HB34 := Lib.hid HB3'.out; have HT4 := Lib.hid h4; have HS4 := Lib.hid (HS3.out.below hb4); obtain ⟨a0, a1, a2⟩ := HK.out _ HB4.out; have l4 : w.heap.size + 1 + 1 < w4.heap.size := (by have := HB4.out.size; omega); clear h4 hb4)
          | (go_simp; go_at_call 39; go_fit (C1.out _ (below_drawn (Below.refl _ _))); rintro r w3 ⟨A3, c3, rfl, h3, hb3⟩; have HB3' := Lib.hid (show Below X.heap.size X w3 from bthen (below_drawn (Below.refl X.heap.size X)) hb3); have HS3 := Lib.hid h3; obtain ⟨e0, e1, e2⟩ := HK.out _ HB3'.out; clear h3 hb3))
      all_goals go_wp2_with fail
      all_goals go_roundw
      all_goals first
        | exact ⟨k + 1, _, by omega, by go_num, HST.out⟩
        | (simp [intOf]; omega)
    · have hfin : (q.take k).map normC = q.map normC := by rw [List.take_of_length_le (by omega)]
      have hown := hf.own
      rw [hfin] at hown
      obtain ⟨A, c, rfl, hsl⟩ := hown.sl
      have c3 := hf.b3.c0
      have c2 := hf.b2.c0
      have f2 := hf.b2.free 0
      have HB := Lib.hid hf.bel
      have HSL := Lib.hid hsl
      have HB2 := Lib.hid hf.b2
      have HSZ := Lib.hid hf.size
      clear hf hown hsl hfin
      have hR := Lib.hid (show Bx (wr.setCell ⟨w.heap.size + 1, 0, none⟩ (.slice A q.length c)) (w.heap.size + 1) 24 [.slice A q.length c] from HB2.out.set 0 _)
      go_wp2_with fail
      exact bodyPost_ret (v := .agg #[.slice A q.length c]) (by simp [results, Try.results15, go_sem, hR.out.c0]) rfl ⟨A, c, by rw [List.length_map], (HSL.out.setCell (fun j hj => by simp; omega) _).mono (fun k hk => by omega), HB.out.setCell (by simp) _⟩
end Go.Proofs.Ythinieokpgmfoaa
