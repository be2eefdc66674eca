/- QueryFits: the law's walk. -/
import Derived.Test.YthinieokpgmfoaaHead06
import Derived.Test.YthinieokpgmfoaaNorm06
import Derived.Test.YthinieokpgmfoaaMay06
import Derived.Test.YthinieokpgmfoaaTypes
import Derived.Test.YthinieokpgmfoaaStep3
import Derived.Deep.RegionHeld3
set_option linter.unusedVariables false
set_option linter.unusedSimpArgs false
namespace Go.Proofs.Ythinieokpgmfoaa
open Go.RowKit

theorem fewM_len2 (q : List Clause) : (fewM q).length ≤ 8 ∧ ∀ c ∈ fewM q, c.tags.length ≤ 8 ∧ c.types.length ≤ 8 := by
  refine ⟨by unfold fewM; simp; omega, fun c hc => ?_⟩
  unfold fewM at hc
  obtain ⟨c', _, rfl⟩ := List.mem_map.1 hc
  simp only [cutC, List.length_take]
  omega
theorem good_fewM (q : List Clause) (h : ∀ c ∈ q, goodClause c) : ∀ c ∈ fewM q, goodClause c := fun c hc => by
  obtain ⟨c', h1, rfl⟩ := List.mem_map.1 hc
  have h2 := h c' (List.mem_of_mem_take h1)
  exact ⟨fun x hx => h2.1 x (List.mem_of_mem_take hx), fun x hx => h2.2 x (List.mem_of_mem_take hx)⟩
/-- A query that may be. -/
theorem mayQ_ok {q : List Clause} : mayQ q = 0 ↔ q.length ≤ 4 ∧ ∀ c ∈ q, bigC c = false ∧ noneC c = false ∧ fallC c = false := by
  unfold mayQ
  constructor
  · intro h
    by_cases h1 : (decide (4 < q.length) || q.any bigC) = true
    · rw [if_pos h1] at h; cases h
    rw [if_neg h1] at h
    by_cases h2 : q.any noneC = true
    · rw [if_pos h2] at h; cases h
    rw [if_neg h2] at h
    by_cases h3 : q.any fallC = true
    · rw [if_pos h3] at h; cases h
    simp only [Bool.or_eq_true, decide_eq_true_eq, not_or] at h1
    rw [Bool.not_eq_true] at h2 h3
    rw [Bool.not_eq_true] at h1
    refine ⟨by omega, fun c hc => ⟨?_, ?_, ?_⟩⟩
    · have := List.any_eq_false.1 h1.2 c hc; simpa using this
    · have := List.any_eq_false.1 h2 c hc; simpa using this
    · have := List.any_eq_false.1 h3 c hc; simpa using this
  · rintro ⟨h1, h2⟩
    have a1 : q.any bigC = false := List.any_eq_false.2 (fun c hc => by simp [(h2 c hc).1])
    have a2 : q.any noneC = false := List.any_eq_false.2 (fun c hc => by simp [(h2 c hc).2.1])
    have a3 : q.any fallC = false := List.any_eq_false.2 (fun c hc => by simp [(h2 c hc).2.2])
    rw [a1, a2, a3, decide_eq_false (by omega)]
    rfl
theorem mayQ_one {q : List Clause} (h : mayQ q = 1) : q.length ≤ 4 ∧ ∀ c ∈ q, bigC c = false ∧ noneC c = false := by
  unfold mayQ at h
  by_cases h1 : (decide (4 < q.length) || q.any bigC) = true
  · rw [if_pos h1] at h; cases h
  rw [if_neg h1] at h
  by_cases h2 : q.any noneC = true
  · rw [if_pos h2] at h; cases h
  simp only [Bool.or_eq_true, decide_eq_true_eq, not_or] at h1
  rw [Bool.not_eq_true] at h2
  rw [Bool.not_eq_true] at h1
  refine ⟨by omega, fun c hc => ⟨?_, ?_⟩⟩
  · have := List.any_eq_false.1 h1.2 c hc; simpa using this
  · have := List.any_eq_false.1 h2 c hc; simpa using this
theorem norm_of_ok {q : List Clause} (h : mayQ q = 0) : q.map normC = q := by
  have h2 := (mayQ_ok.1 h).2
  conv => rhs; rw [← List.map_id q]
  refine List.map_congr_left fun c hc => ?_
  have h3 := (h2 c hc).2.2
  unfold fallC at h3
  simp only [Bool.or_eq_false_iff, Bool.not_eq_false', riseN_iff] at h3
  exact clause_ext (uniq_of_rise h3.1) (uniq_of_rise h3.2)
theorem ok_of_norm {q : List Clause} (h : mayQ q = 1) : mayQ (q.map normC) = 0 := by
  obtain ⟨h1, h2⟩ := mayQ_one h
  refine mayQ_ok.2 ⟨by rw [List.length_map]; exact h1, fun c hc => ?_⟩
  obtain ⟨c', h3, rfl⟩ := List.mem_map.1 hc
  obtain ⟨h4, h5⟩ := h2 c' h3
  refine ⟨?_, ?_, ?_⟩
  · unfold bigC at h4 ⊢
    simp only [Bool.or_eq_false_iff, decide_eq_false_iff_not] at h4 ⊢
    have := uniq_len c'.tags
    have := uniq_len c'.types
    simp only [normC]
    omega
  · unfold noneC at h5 ⊢
    simp only [Bool.or_eq_false_iff, List.any_eq_false] at h5 ⊢
    exact ⟨fun s hs => h5.1 s (mem_uniq.1 hs), fun s hs => h5.2 s (mem_uniq.1 hs)⟩
  · unfold fallC normC
    simp [(riseN_iff _).2 (uniq_rise _)]
theorem ok_less {q : List Clause} (h : mayQ q = 0) (k : Nat) : mayQ (q.take k ++ q.drop (k + 1)) = 0 := by
  obtain ⟨h1, h2⟩ := mayQ_ok.1 h
  refine mayQ_ok.2 ⟨by simp; omega, fun c hc => h2 c ?_⟩
  rcases List.mem_append.1 hc with hc | hc
  · exact List.mem_of_mem_take hc
  · exact List.mem_of_mem_drop hc
theorem less_ne {q : List Clause} {k : Nat} (hk : k < q.length) : q.take k ++ q.drop (k + 1) ≠ q := fun e => by
  have := congrArg List.length e
  simp at this
  omega

/-- Behind the head: the query's box. -/
structure H6q (w : World) (q : List Clause) (W : World) (A : Option Addr) (c : Nat) : Prop where
  bq : Bx W w.heap.size 24 [.slice A q.length c]
  sq : Sl kClause (fun k => k ≠ w.heap.size ∧ k < W.heap.size) W A c q
  bel : Below w.heap.size w W
theorem H6q.under {w : World} {q : List Clause} {W W' : World} {A : Option Addr} {c : Nat} (h : H6q w q W A c) (hb : Below W.heap.size W W') : H6q w q W' A c :=
  ⟨h.bq.under hb, (h.sq.below hb).mono (fun k hk => ⟨hk.1, Nat.lt_of_lt_of_le hk.2 hb.size⟩), bthen h.bel hb⟩
/-- Behind Norm. -/
structure Hn (w : World) (q : List Clause) (W : World) (A : Option Addr) (c : Nat) (A2 : Option Addr) (c2 g : Nat) : Prop where
  h : H6q w q W A c
  bn : Bx W g 24 [.slice A2 q.length c2]
  sn : Sl kClause (fun k => k < W.heap.size) W A2 c2 (q.map normC)
theorem Hn.under {w : World} {q : List Clause} {W W' : World} {A A2 : Option Addr} {c c2 g : Nat} (h : Hn w q W A c A2 c2 g) (hb : Below W.heap.size W W') : Hn w q W' A c A2 c2 g :=
  ⟨h.h.under hb, h.bn.under hb, (h.sn.below hb).mono (fun k hk => Nat.lt_of_lt_of_le hk hb.size)⟩

set_option maxHeartbeats 4000000 in
set_option maxRecDepth 100000 in
theorem queryFits_walk (w : World) (c0 : Array Value) (q : List Clause) (hq : kQuery.K (fun _ => True) w q c0.toList) (gq : ∀ c ∈ q, goodClause c) (x : Int) (hx : (Lit.int .i64 x).wf = true) :
    Calls Try.prog 11 #[.agg c0, .int .i64 x] w fun r w' => r = .returned (.bool true) ∧ Below w.heap.size w w' := by
  obtain ⟨Q, cq, rfl, hQ⟩ := query_in hq
  have HG := Lib.hid (good_fewM q gq)
  have hfl := fewM_len2 q
  clear hq gq hx
  obtain ⟨W0, hW0⟩ : ∃ W0, W0 = w.alloc (.cells #[.slice Q q.length cq] 24) := ⟨_, rfl⟩
  have HW0 := Lib.hid hW0
  have HB0 := Lib.hid (show Below w.heap.size w W0 by rw [hW0]; exact (Below.refl _ _).alloc (Nat.le_refl _) _)
  have HX0 := Lib.hid (show Bx W0 w.heap.size 24 [.slice Q q.length cq] by rw [hW0]; exact Bx.new w _ _)
  have HQ := Lib.hid (hQ.below HB0.out)
  have HS := Lib.hid (shown06 W0)
  clear hQ
  go_enter Try.func11, Try.ntmps11
  go_upto_region 1 with fail
  rw [← HW0.out]
  clear hW0
  go_upto_region 2 with (go_at_call 12; go_fit HS.out; rintro r w1 ⟨rfl, hb1⟩; have HX1 := Lib.hid (HX0.out.under hb1); have HB1 := Lib.hid (bthen HB0.out hb1); have CF := Lib.hid (few_any _ (HQ.out.below hb1)); have i0 := HX1.out.c0; clear hb1)
  go_upto_region 3 with (go_at_call 13; go_fit CF.out; rintro r w2 ⟨A, c, rfl, hs2, hb2⟩; have HS2 := Lib.hid hs2; have HB2 := Lib.hid hb2; have i1 := (HX1.out.under hb2).c0; have i2 := (HX1.out.under hb2).free 0; clear hs2 hb2)
  have H3 := Lib.hid (show H6q w (fewM q) (w2.setCell ⟨w.heap.size, 0, none⟩ (.slice A (fewM q).length c)) A c from by
    have hlt := HX1.out.lt
    have hsz := HB2.out.size
    refine ⟨(HX1.out.under HB2.out).set 0 _, ?_, (bthen HB1.out HB2.out).setCell (by simp) _⟩
    refine (HS2.out.bound.setCell (fun k hk e => by simp at e; have := hk.1; omega) _).mono (fun k hk => ⟨by have := hk.1; omega, by have := hk.2; simp [World.setCell]; omega⟩))
  clear i0 i1 i2
  generalize w2.setCell ⟨w.heap.size, 0, none⟩ (.slice A (fewM q).length c) = w3 at H3 ⊢
  generalize fewM q = q at *
  obtain ⟨hq8, hqt⟩ := hfl
  have HQT := Lib.hid hqt
  clear hqt
  have j0 := H3.out.bq.c0
  have CM := Lib.hid (mayQ_any H3.out.sq.any (fun c hc => by have := HQT.out c hc; omega) (fun c hc => (HG.out c hc).1))
  have CN := Lib.hid (fun W (hb : Below w3.heap.size w3 W) => Norm_any (w := W) (H3.out.sq.any.below hb) (by omega) (fun c hc => by have := HQT.out c hc; omega))
  obtain ⟨e, he⟩ : ∃ e, mayQ q = e := ⟨_, rfl⟩
  have HE := Lib.hid he
  rw [he] at CM
  clear he
  go_upto_region 5 with (first
    | (go_at_call 15; go_fit (CN.out _ HB4.out); rintro r w5 ⟨A2, c2, rfl, hs5, hb5⟩; have HS5 := Lib.hid hs5; have HB5 := Lib.hid (bthen HB4.out hb5); have j5 := (H3.out.bq.under HB5.out).c0; clear hs5 hb5)
    | (go_at_call 32; go_fit CM.out; rintro r w4 ⟨rfl, hb4⟩; have HB4 := Lib.hid hb4; have j4 := (H3.out.bq.under hb4).c0; clear hb4))
  have HX := Lib.hid (show Hn w q (w5.alloc (.cells #[.slice A2 q.length c2] 24)) A c A2 c2 w5.heap.size from
    ⟨(H3.out.under HB5.out).under ((Below.refl _ _).alloc (Nat.le_refl _) _), Bx.new _ _ _, (HS5.out.bound.alloc _).mono (fun k hk => by have := hk.2; simp; omega)⟩)
  clear j0 j4 j5 CM CN H3 HS5 HB4 HB5 HS2 CF HX1 HB1 HB2 HQ HS HX0 HB0
  generalize w5.alloc (.cells #[.slice A2 q.length c2] 24) = X at HX ⊢
  generalize w5.heap.size = g at HX ⊢
  have j0 := HX.out.h.bq.c0
  obtain ⟨B, hBd⟩ : ∃ B, decide (e = 0 ∧ 0 ≤ x ∧ x < (q.length : Int)) = B := ⟨_, rfl⟩
  have HBD := Lib.hid hBd
  clear hBd
  go_cut [28] (fun b wx => b = .bool B ∧ wx = X)
  case first =>
    by_cases h0 : e = 0
    · have d0 : (e == 0) = true := by simp [h0]
      have H0 := Lib.hid h0
      clear h0
      by_cases h1 : 0 ≤ x
      · by_cases h2 : x < (q.length : Int)
        · have HT := Lib.hid (show true = B from by rw [← HBD.out, decide_eq_true ⟨H0.out, h1, h2⟩])
          go_wp2_with fail
          go_meet
          case rel => exact ⟨congrArg Value.bool HT.out, rfl⟩
        · have HT := Lib.hid (show false = B from by rw [← HBD.out, decide_eq_false (fun h => h2 h.2.2)])
          go_wp2_with fail
          go_meet
          case rel => exact ⟨congrArg Value.bool HT.out, rfl⟩
      · have HT := Lib.hid (show false = B from by rw [← HBD.out, decide_eq_false (fun h => h1 h.2.1)])
        go_wp2_with fail
        go_meet
        case rel => exact ⟨congrArg Value.bool HT.out, rfl⟩
    · have d0 : (e == 0) = false := by simp [h0]
      have HT := Lib.hid (show false = B from by rw [← HBD.out, decide_eq_false (fun h => h0 h.1)])
      clear h0
      go_wp2_with fail
      go_meet
      case rel => exact ⟨congrArg Value.bool HT.out, rfl⟩
  case rest =>
    obtain ⟨rfl, rfl⟩ := hcut
    obtain ⟨X, hX⟩ : ∃ X, X = wc := ⟨_, rfl⟩
    subst hX
    clear j0
    go_upto_if 28 with fail
    go_cut [8] (fun _ wx => Below X.heap.size X wx)
    case first =>
      rcases B with _ | _
      · go_wp2_with fail
        go_meet
        case rel => exact Below.refl _ _
      · obtain ⟨he0, hx0, hxl⟩ := of_decide_eq_true HBD.out
        obtain ⟨k, rfl⟩ : ∃ k : Nat, x = k := ⟨x.toNat, by omega⟩
        subst he0
        have hk : k < q.length := by omega
        obtain ⟨n, hn⟩ : ∃ n, n = k + 1 := ⟨_, rfl⟩
        have ew : IntKind.i64.wrap ((k : Int) + 1) = (n : Int) := by rw [IntWalk.i64_in _ (by omega)]; omega
        have hsl := HX.out.h.sq
        have hcap := hsl.1
        have hcap2 := hsl.2.1
        unfold maxLen at hcap2
        have HK := Lib.hid (fun W (hb : Below X.heap.size X W) => show Below X.heap.size X W ∧ W.cell? ⟨w.heap.size, 0, none⟩ = some (.slice A q.length c) from ⟨hb, (HX.out.h.bq.under hb).c0⟩)
        have HR1 := Lib.hid (fun W hb => rowX (W := W) (hsl.2.2.take k) (fun _ h => h.2) hb)
        have HR2 := Lib.hid (fun W hb => rowX (W := W) (Row.cut (k := n) (cap := c) hsl.2.2 hcap) (fun _ h => h.2) hb)
        have HLT := Lib.hid (show (q.take k).length = k by rw [List.length_take]; omega)
        have HLD := Lib.hid (show (q.drop n).length = q.length - n by rw [List.length_drop])
        have HLL := Lib.hid (show (([] ++ q.take k) ++ q.drop n).length = q.length - 1 by simp; omega)
        have HNK := Lib.hid hn
        have b0 : (0 : Int) ≤ (k : Int) := Int.natCast_nonneg _
        have b1 : (k : Int) < (q.length : Int) := by omega
        have b2 : (n : Int) ≤ (q.length : Int) := by omega
        have b3 : (k : Int) ≤ (c : Int) := by omega
        have b4 : (0 : Int) ≤ (n : Int) := Int.natCast_nonneg _
        have b5 : (n : Int) ≤ (c : Int) := by omega
        have b6 : k ≤ c := by omega
        have b7 : n ≤ q.length := by omega
        clear hn hsl hx0 hxl
        go_upto_region 6 with fail
        go_cut [8] (fun p wx => ∃ g8 A3 c3, p = .pointer (some ⟨g8, 0, none⟩) ∧ Bx wx g8 24 [.slice A3 (q.length - 1) c3] ∧ SlC wx A3 c3 (([] ++ q.take k) ++ q.drop n) ∧ Below X.heap.size X wx)
        case first =>
          go_region_held3 (fun W => Below X.heap.size X W ∧ W.cell? ⟨w.heap.size, 0, none⟩ = some (.slice A q.length c))
            (first | exact HK.out _ (below_drawn (Below.refl _ _)) | exact HK.out _ (below_drawn (below_made (Below.refl _ _) (Nat.le_refl _) _)) | exact HK.out _ (below_drawn (below_made (below_made (Below.refl _ _) (Nat.le_refl _) _) (Nat.le_refl _) _)) | exact HK.out _ HB5.out | exact HK.out _ (below_made HB5.out (Nat.le_refl _) _) | exact HK.out _ HB6.out | exact HK.out _ (below_made HB6.out (Nat.le_refl _) _) | exact HK.out _ (Below.setCell HB6.out (by first | (simp; done) | (have := HB5.out.size; simp; omega)) _))
            (first
              | (refine step_spreadXn rfl _ _ _ rfl 33 _ 2 48 Try.underlying22 infoClause rfl (by decide) (by decide) rfl X _ [] rfl (Own.lit_at (by first | exact heap_alloc_new X _ | exact heap_alloc2_new X _ _ | exact two_old X _ _) (by simp)) (q.take k) A c HR1.out _ (by assumption) k HLT.out rfl (by simp; omega) ?_; intro v1 w5 hown1 hg1 hat1 hbel1; have HO1 := Lib.hid hown1; have HB5 := Lib.hid hbel1; (first | (have KB1 := Lib.hid (box_grown (b := X.heap.size + 1) (t := 24) (cs := [.slice none 0 0]) (by exact heap_alloc2_new X _ _) (by show (some X.heap.size : Option Nat) ≠ some (X.heap.size + 1); simp) hg1 hat1)) | (have KB1 := Lib.hid (box_grown (b := X.heap.size) (t := 24) (cs := [.slice none 0 0]) (by exact two_old X _ _) (by show (some (X.heap.size + 1) : Option Nat) ≠ some X.heap.size; simp) hg1 hat1)) | skip); clear hown1 hg1 hat1 hbel1)
              | (refine step_spreadXn rfl _ _ _ rfl 33 _ 2 48 Try.underlying22 infoClause rfl (by decide) (by decide) rfl X _ ([] ++ q.take k) rfl HO1.out (q.drop n) _ _ HR2.out _ (by assumption) (q.length - n) HLD.out rfl (by rw [List.nil_append, HLT.out]; omega) ?_; intro v2 w6 hown2 hg2 hat2 hbel2; (first | (have KB2 := Lib.hid (box_grown KB1.out.1 KB1.out.2 hg2 hat2); have kc := KB2.out.1.c0; have kf := KB2.out.1.free 0) | skip); obtain ⟨A3, c3, hv2, hsl2⟩ := hown2.sl; rw [HLL.out] at hv2; subst hv2; have HO2 := Lib.hid hown2; have HB6 := Lib.hid hbel2; clear hown2 hg2 hat2 hbel2 hsl2)
              | (refine step_spreadXn rfl _ _ _ rfl 33 _ 2 48 Try.underlying22 infoClause rfl (by decide) (by decide) rfl X _ ([] ++ q.take k) rfl (HO1.out.alloc _) (q.drop n) _ _ HR2.out _ (by assumption) (q.length - n) HLD.out rfl (by rw [List.nil_append, HLT.out]; omega) ?_; intro v2 w6 hown2 hg2 hat2 hbel2; have KB2 := Lib.hid (box_grown (Bx.new w5 24 [.slice none 0 0]) (fun e => by have := HO1.out.block_lt _ e; omega) hg2 hat2); have kc := KB2.out.1.c0; have kf := KB2.out.1.free 0; obtain ⟨A3, c3, hv2, hsl2⟩ := hown2.sl; rw [HLL.out] at hv2; subst hv2; have HO2 := Lib.hid hown2; have HB6 := Lib.hid hbel2; clear hown2 hg2 hat2 hbel2 hsl2))
          all_goals go_wp2_with fail
          all_goals go_meet
          all_goals first
            | exact ⟨_, A3, c3, rfl, Bx.new w6 _ _, (own_slC HO2.out).alloc _, below_made HB6.out (Nat.le_refl _) _⟩
            | exact ⟨_, A3, c3, rfl, KB2.out.1.set 0 _, own_slC (HO2.out.setCell (fun k hk => by have := HB5.out.size; simp; omega) (fun k hk e => KB2.out.2 (by rw [hk]; exact congrArg some e)) _), Below.setCell HB6.out (by have := HB5.out.size; simp; try omega) _⟩
        case rest =>
          obtain ⟨g8, A3, c3, rfl, hb8, hs8, hbX⟩ := hcut
          have hL : ([] ++ q.take k) ++ q.drop n = q.take k ++ q.drop (k + 1) := by rw [HNK.out]; rfl
          rw [hL] at hs8
          have hLl : (q.take k ++ q.drop (k + 1)).length = q.length - 1 := by simp; omega
          have hok := ok_less HE.out k
          have hne := less_ne hk
          have hmem : ∀ c ∈ q.take k ++ q.drop (k + 1), c ∈ q := fun c hc => by
            rcases List.mem_append.1 hc with hc | hc
            · exact List.mem_of_mem_take hc
            · exact List.mem_of_mem_drop hc
          have CM := Lib.hid (mayQ_any hs8 (fun c hc => by have := HQT.out c (hmem c hc); omega) (fun c hc => (HG.out c (hmem c hc)).1))
          have CS := Lib.hid (fun W (hb : Below wc.heap.size wc W) => Same_any (hs8.below hb) ((HX.out.h.sq.any.below hbX).below hb))
          rw [hok, hLl] at CM
          rw [hLl, decide_eq_false hne] at CS
          have k0 := hb8.c0
          have HB8 := Lib.hid hb8
          have HBX := Lib.hid hbX
          clear hb8 hs8 hbX hL hLl hok hne hmem HK HR1 HR2
          go_wp2_with (first
            | (go_at_call 17; go_fit (CS.out _ HB9.out); rintro r w10 ⟨rfl, hb10⟩)
            | (go_at_call 32; go_fit CM.out; rintro r w9 ⟨rfl, hb9⟩; have HB9 := Lib.hid hb9; have k1 := (HB8.out.under hb9).c0; have k2 := (HX.out.h.bq.under (bthen HBX.out hb9)).c0; clear hb9))
          go_meet
          case rel => exact bthen HBX.out (bthen HB9.out hb10)
    case rest =>
      have HR := Lib.hid (HX.out.under hcut)
      clear HX hcut
      have k0 := HR.out.h.bq.c0
      have k1 := HR.out.bn.c0
      have HK := Lib.hid (fun W (hb : Below wc.heap.size wc W) => show W.cell? ⟨w.heap.size, 0, none⟩ = some (.slice A q.length c) ∧ W.cell? ⟨g, 0, none⟩ = some (.slice A2 q.length c2) from ⟨(HR.out.h.bq.under hb).c0, (HR.out.bn.under hb).c0⟩)
      have CQ := Lib.hid (fun W (hb : Below wc.heap.size wc W) => show Calls Try.prog 17 #[.agg #[.slice A q.length c], .agg #[.slice A q.length c]] W fun r w' => r = .returned (.bool true) ∧ Below W.heap.size W w' from by
        have := Same_any (HR.out.h.sq.any.below hb) (HR.out.h.sq.any.below hb)
        rwa [decide_eq_true rfl] at this)
      by_cases h0 : e = 0
      · subst h0
        have CN := Lib.hid (show Calls Try.prog 17 #[.agg #[.slice A2 q.length c2], .agg #[.slice A q.length c]] wc fun r w' => r = .returned (.bool true) ∧ Below wc.heap.size wc w' from by
          have := Same_any HR.out.sn.any HR.out.h.sq.any
          rwa [norm_of_ok HE.out, decide_eq_true rfl] at this)
        go_wp2_with (first
          | (go_at_call 17; go_fit (CQ.out _ HB9.out); rintro r w10 ⟨rfl, hb10⟩)
          | (go_at_call 17; go_fit CN.out; rintro r w9 ⟨rfl, hb9⟩; have HB9 := Lib.hid hb9; obtain ⟨k2, k3⟩ := HK.out _ hb9; clear hb9))
        go_ret
        exact ⟨rfl, bthen HR.out.h.bel (bthen HB9.out hb10)⟩
      · have d0 : (e == 0) = false := by simp [h0]
        have d0' : (e != 0) = true := by simp [h0]
        by_cases h1 : e = 1
        · subst h1
          have CM := Lib.hid (show Calls Try.prog 32 #[.agg #[.slice A2 q.length c2]] wc fun r w' => r = .returned (.int .i64 0) ∧ Below wc.heap.size wc w' from by
            have hl : ∀ c ∈ q.map normC, c.tags.length ≤ 1000000 ∧ c.types.length ≤ 1000000 := fun c hc => by
              obtain ⟨c', h1, rfl⟩ := List.mem_map.1 hc
              have h2 := HQT.out c' h1
              have h3 := uniq_len c'.tags
              have h4 := uniq_len c'.types
              simp only [normC]
              omega
            have hg : ∀ c ∈ q.map normC, ∀ s ∈ c.tags, s.size ≤ maxLen := fun c hc s hs => by
              obtain ⟨c', h1, rfl⟩ := List.mem_map.1 hc
              exact (HG.out c' h1).1 s (mem_uniq.1 hs)
            have := mayQ_any HR.out.sn.any hl hg
            rwa [ok_of_norm HE.out, List.length_map] at this)
          clear h0 d0 d0'
          go_wp2_with (first
            | (go_at_call 17; go_fit (CQ.out _ HB9.out); rintro r w10 ⟨rfl, hb10⟩)
            | (go_at_call 32; go_fit CM.out; rintro r w9 ⟨rfl, hb9⟩; have HB9 := Lib.hid hb9; obtain ⟨k2, k3⟩ := HK.out _ hb9; clear hb9))
          go_ret
          exact ⟨rfl, bthen HR.out.h.bel (bthen HB9.out hb10)⟩
        · have d1 : (e == 1) = false := by simp [h1]
          have d1' : (e != 1) = true := by simp [h1]
          clear h0 h1
          go_wp2_with (go_at_call 17; go_fit (CQ.out _ (Below.refl _ _)); rintro r w10 ⟨rfl, hb10⟩)
          go_ret
          exact ⟨rfl, bthen HR.out.h.bel hb10⟩
end Go.Proofs.Ythinieokpgmfoaa
