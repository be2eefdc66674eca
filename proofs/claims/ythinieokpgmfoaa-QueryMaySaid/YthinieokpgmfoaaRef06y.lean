/- registrarref06.May: what it comes to (walk). -/
import Derived.Test.YthinieokpgmfoaaRef06n
set_option linter.unusedVariables false
set_option linter.unusedSimpArgs false
namespace Go.Proofs.Ythinieokpgmfoaa
open Go.RowKit

theorem mayQ_big1 {q : List Clause} (h : 4 < q.length) : mayQ q = 3 := by unfold mayQ; rw [decide_eq_true h, Bool.true_or]; rfl
theorem mayQ_big2 {q : List Clause} {k : Nat} (hk : k < q.length) (h : bigC q[k] = true) : mayQ q = 3 := by
  have : q.any bigC = true := List.any_eq_true.2 ⟨_, List.getElem_mem hk, h⟩
  unfold mayQ; rw [this, Bool.or_true]; rfl
theorem mayQ_none {q : List Clause} (h4 : ¬ 4 < q.length) (hb : q.any bigC = false) {k : Nat} (hk : k < q.length) (h : noneC q[k] = true) : mayQ q = 5 := by
  have : q.any noneC = true := List.any_eq_true.2 ⟨_, List.getElem_mem hk, h⟩
  unfold mayQ; rw [this, decide_eq_false h4, hb]; rfl
theorem mayQ_fall {q : List Clause} (h4 : ¬ 4 < q.length) (hb : q.any bigC = false) (hn : q.any noneC = false) : mayQ q = if q.any fallC = true then 1 else 0 := by
  unfold mayQ; rw [hn, decide_eq_false h4, hb]; rfl
theorem any_take_succC (p : Clause → Bool) (q : List Clause) (k : Nat) (h : k < q.length) : (q.take (k + 1)).any p = ((q.take k).any p || p q[k]) := any_take_succ p q k h

set_option maxHeartbeats 4000000 in
set_option maxRecDepth 100000 in
theorem refMayQ_any {w : World} {q : List Clause} {Q : Option Addr} {cq : Nat} (hq : SlC w Q cq q) (hg : ∀ c ∈ q, ∀ s ∈ c.tags, s.size ≤ maxLen) :
    Calls Try.prog 33 #[.agg #[.slice Q q.length cq]] w fun e w' => e = .returned (.int .i64 (mayQ q)) ∧ Below w.heap.size w w' := by
  obtain ⟨W1, hW1⟩ : ∃ W1, W1 = w.alloc (.cells #[.slice Q q.length cq] 24) := ⟨_, rfl⟩
  have HW := Lib.hid hW1
  have hB : Below w.heap.size w W1 := by rw [hW1]; exact (Below.refl _ _).alloc (Nat.le_refl _) _
  have hx1 : Bx W1 w.heap.size 24 [.slice Q q.length cq] := by rw [hW1]; exact Bx.new w _ _
  have hc1 := hq.1
  have hc2 := hq.2.1
  unfold maxLen at hc2
  have HQ := Lib.hid (hq.below hB)
  have HX1 := Lib.hid hx1
  have HBl := Lib.hid hB
  have HG := Lib.hid hg
  have c0 := hx1.c0
  clear hB hx1 hW1 hq hg
  obtain ⟨R, hR⟩ : ∃ R, mayQ q = R := ⟨_, rfl⟩
  have HR := Lib.hid hR
  rw [hR]
  clear hR
  by_cases h4 : 4 < q.length
  · have HT := Lib.hid (show R = 3 by rw [← HR.out]; exact mayQ_big1 h4)
    go_enter Try.func33, Try.ntmps33
    go_upto_region 1 with fail
    rw [← HW.out]
    clear HW
    go_wp2_with fail
    go_ret
    exact ⟨by rw [HT.out]; rfl, HBl.out⟩
  have HB2 := Lib.hid (fun (k : Nat) (hk : k < q.length) (h : bigC q[k] = true) => show R = 3 by rw [← HR.out]; exact mayQ_big2 hk h)
  have HN := Lib.hid (fun (hb : q.any bigC = false) (k : Nat) (hk : k < q.length) (h : noneC q[k] = true) => show R = 5 by rw [← HR.out]; exact mayQ_none h4 hb hk h)
  have HFL := Lib.hid (fun (hb : q.any bigC = false) (hn : q.any noneC = false) => show R = if q.any fallC = true then 1 else 0 by rw [← HR.out]; exact mayQ_fall h4 hb hn)
  clear HR
  go_enter Try.func33, Try.ntmps33
  go_upto_region 1 with fail
  rw [← HW.out]
  clear HW
  go_wp2_with fail
  go_loopw [3] (fun i wr => ∃ k : Nat, k ≤ q.length ∧ i = .int .i64 k ∧ Hid ((q.take k).any bigC = false) ∧ wr = W1) (fun i _ => q.length - (intOf i).toNat)
  case atStart => exact ⟨0, Nat.zero_le _, rfl, Lib.hid rfl, rfl⟩
  case round =>
    obtain ⟨k, hk, rfl, hn, rfl⟩ := hrel
    by_cases hlt : k < q.length
    · obtain ⟨ad, S, sa, T, ta, rfl, hx, hy, hS, hT⟩ := row_clause_at HQ.out.2.2 hlt
      have HST := Lib.hid (show bigC q[k] = false → (q.take (k + 1)).any bigC = false from fun h => by rw [any_take_succC _ _ _ hlt, hn.out, h]; rfl)
      have HBG := Lib.hid (HB2.out k hlt)
      generalize q[k] = x at hx hy hS hT HST HBG
      have e1 : (0 : Int) ≤ (k : Int) := Int.natCast_nonneg _
      have e2 : (k : Int) < (q.length : Int) := by omega
      clear hn hS hT
      by_cases h1 : 4 < x.tags.length
      · have HT := Lib.hid (HBG.out (by unfold bigC; rw [decide_eq_true h1]; rfl))
        go_wp2
        go_ret
        exact ⟨by rw [HT.out]; rfl, HBl.out⟩
      · by_cases h2 : 4 < x.types.length
        · have HT := Lib.hid (HBG.out (by unfold bigC; rw [decide_eq_true h2, Bool.or_true]))
          go_wp2
          go_ret
          exact ⟨by rw [HT.out]; rfl, HBl.out⟩
        · have HT := Lib.hid (HST.out (by unfold bigC; rw [decide_eq_false h1, decide_eq_false h2]; rfl))
          go_wp2
          go_roundw
          case rel => exact ⟨k + 1, by omega, by go_num, HT, by first | rfl | trivial⟩
          case measure => simp [intOf]; omega
    · have HNB := Lib.hid (show q.any bigC = false by have := hn.out; rwa [List.take_of_length_le (by omega)] at this)
      clear hn HB2
      obtain ⟨W2, hW2⟩ : ∃ W2, W2 = wr := ⟨_, rfl⟩
      subst hW2
      go_wp2_with fail
      go_loopw [4, 5, 6, 7, 8, 9, 10, 11, 12, 13, 14] (fun r i _ _ _ _ _ _ _ _ _ wr => ∃ (k : Nat) (b : Bool), k ≤ q.length ∧ i = .int .i64 k ∧ r = .bool b ∧ Hid ((q.take k).any noneC = false ∧ b = !(q.take k).any fallC) ∧ Below W2.heap.size W2 wr) (fun _ i _ _ _ _ _ _ _ _ _ _ => q.length - (intOf i).toNat)
      case atStart => exact ⟨0, true, Nat.zero_le _, rfl, rfl, Lib.hid ⟨rfl, rfl⟩, Below.refl _ _⟩
      case round =>
        obtain ⟨k2, b, hk2, rfl, rfl, hn, hbl⟩ := hrel
        have k0 := (HX1.out.under hbl).c0
        by_cases hlt2 : k2 < q.length
        · obtain ⟨ad, S, sa, T, ta, rfl, hx, hy, hS, hT⟩ := row_clause_at (HQ.out.below hbl).2.2 hlt2
          have HSN := Lib.hid (show noneC q[k2] = false → (q.take (k2 + 1)).any noneC = false from fun h => by rw [any_take_succC _ _ _ hlt2, hn.out.1, h]; rfl)
          have HSF := Lib.hid (show (b && !fallC q[k2]) = !(q.take (k2 + 1)).any fallC by rw [any_take_succC _ _ _ hlt2, hn.out.2, Bool.not_or])
          have HNO := Lib.hid (HN.out HNB.out k2 hlt2)
          have HGX := Lib.hid (HG.out q[k2] (List.getElem_mem hlt2))
          generalize q[k2] = x at hx hy hS hT HSN HSF HNO HGX
          have e1 : (0 : Int) ≤ (k2 : Int) := Int.natCast_nonneg _
          have e2 : (k2 : Int) < (q.length : Int) := by omega
          obtain ⟨w3, hw3⟩ : ∃ w3, w3 = wr := ⟨_, rfl⟩
          subst hw3
          have hbx : Bx (w3.alloc (.cells #[.slice S x.tags.length sa, .slice T x.types.length ta] 33)) w3.heap.size 33 [.slice S x.tags.length sa, .slice T x.types.length ta] := Bx.new _ _ _
          have hbX : Below W2.heap.size W2 (w3.alloc (.cells #[.slice S x.tags.length sa, .slice T x.types.length ta] 33)) := bthen hbl ((Below.refl _ _).alloc (Nat.le_refl _) _)
          have HSX := Lib.hid (hS.alloc (.cells #[.slice S x.tags.length sa, .slice T x.types.length ta] 33))
          have HTX := Lib.hid (hT.alloc (.cells #[.slice S x.tags.length sa, .slice T x.types.length ta] 33))
          have hc3 := hS.1
          have hc4 := hS.2.1
          have hc5 := hT.1
          have hc6 := hT.2.1
          unfold maxLen at hc4 hc6
          go_upto_region 13 with fail
          generalize w3.alloc (.cells #[.slice S x.tags.length sa, .slice T x.types.length ta] 33) = X at hbx hbX HSX HTX ⊢
          generalize w3.heap.size = g at hbx ⊢
          have HBX := Lib.hid hbx
          have HBl2 := Lib.hid hbX
          clear hn hS hT hx hy k0 hbl hbx hbX
          go_wp2_with fail
          go_loopw [7, 8, 9, 10] (fun i _ _ _ wr => ∃ j : Nat, j ≤ x.tags.length ∧ i = .int .i64 j ∧ Hid ((x.tags.take j).any (fun s => !tagN s) = false) ∧ Below X.heap.size X wr) (fun i _ _ _ _ => x.tags.length - (intOf i).toNat)
          case atStart => exact ⟨0, Nat.zero_le _, rfl, Lib.hid rfl, Below.refl _ _⟩
          case round =>
            obtain ⟨j, hj, rfl, hn, hb⟩ := hrel
            have k3 := (HBX.out.under hb).c0
            by_cases hjl : j < x.tags.length
            · obtain ⟨sd, rfl, hsx⟩ := row_str_at (HSX.out.below hb).2.2 hjl
              have HST := Lib.hid (show tagN (x.tags[j]'hjl) = true → (x.tags.take (j + 1)).any (fun s => !tagN s) = false from fun h => by rw [any_take_succ _ _ _ hjl, hn.out, h]; rfl)
              have HNN := Lib.hid (show tagN (x.tags[j]'hjl) = false → R = 5 from fun h => HNO.out (by unfold noneC; rw [List.any_eq_true.2 ⟨_, List.getElem_mem hjl, by rw [h]; rfl⟩, Bool.true_or]))
              have CP := Lib.hid (fun W => refParts_any (x.tags[j]'hjl) (HGX.out _ (List.getElem_mem hjl)) W)
              generalize x.tags[j]'hjl = y at hsx HST HNN CP
              have d1 : (0 : Int) ≤ (j : Int) := Int.natCast_nonneg _
              have d2 : (j : Int) < (x.tags.length : Int) := by omega
              generalize tagN y = bt at HST HNN CP
              clear hn
              rcases bt with _ | _
              · have HT := Lib.hid (HNN.out rfl)
                go_wp2_with (go_at_call 67; go_fit (CP.out _); rintro e w5 ⟨p1, p2, rfl, hb5⟩)
                go_ret
                exact ⟨by rw [HT.out]; rfl, bthen HBl.out (bthen HBl2.out (bthen hb hb5))⟩
              · have HT := Lib.hid (HST.out rfl)
                go_wp2_with (go_at_call 67; go_fit (CP.out _); rintro e w5 ⟨p1, p2, rfl, hb5⟩)
                go_roundw
                case rel => exact ⟨j + 1, by omega, by go_num, HT, bthen hb hb5⟩
                case measure => simp [intOf]; omega
            · have HTG := Lib.hid (show x.tags.any (fun s => !tagN s) = false by have := hn.out; rwa [List.take_of_length_le (by omega)] at this)
              clear hn
              obtain ⟨w4, hw4⟩ : ∃ w4, w4 = wr := ⟨_, rfl⟩
              subst hw4
              have HBw := Lib.hid hb
              clear hb
              go_wp2_with fail
              go_loopw [11, 12] (fun i _ wr => ∃ j : Nat, j ≤ x.types.length ∧ i = .int .i64 j ∧ Hid ((x.types.take j).any (fun s => !mayN s) = false) ∧ Below X.heap.size X wr) (fun i _ _ => x.types.length - (intOf i).toNat)
              case atStart => exact ⟨0, Nat.zero_le _, rfl, Lib.hid rfl, HBw.out⟩
              case round =>
                clear k3
                obtain ⟨j2, hj2, rfl, hn, hb⟩ := hrel
                have k3 := (HBX.out.under hb).cell 1
                simp only [List.getElem?_cons_succ, List.getElem?_cons_zero] at k3
                by_cases hjl2 : j2 < x.types.length
                · obtain ⟨sd, rfl, hsx⟩ := row_str_at (HTX.out.below hb).2.2 hjl2
                  have HST := Lib.hid (show mayN (x.types[j2]'hjl2) = true → (x.types.take (j2 + 1)).any (fun s => !mayN s) = false from fun h => by rw [any_take_succ _ _ _ hjl2, hn.out, h]; rfl)
                  have HNN := Lib.hid (show mayN (x.types[j2]'hjl2) = false → R = 5 from fun h => HNO.out (by unfold noneC; rw [List.any_eq_true.2 ⟨_, List.getElem_mem hjl2, by rw [h]; rfl⟩, Bool.or_true]))
                  have CP := Lib.hid (fun W => refMay_any (x.types[j2]'hjl2) W)
                  generalize x.types[j2]'hjl2 = y at hsx HST HNN CP
                  have d1 : (0 : Int) ≤ (j2 : Int) := Int.natCast_nonneg _
                  have d2 : (j2 : Int) < (x.types.length : Int) := by omega
                  generalize mayN y = bt at HST HNN CP
                  clear hn
                  rcases bt with _ | _
                  · have HT := Lib.hid (HNN.out rfl)
                    go_wp2_with (go_at_call 57; go_fit (CP.out _); rintro e w5 ⟨rfl, hb5⟩)
                    go_ret
                    exact ⟨by rw [HT.out]; rfl, bthen HBl.out (bthen HBl2.out (bthen hb hb5))⟩
                  · have HT := Lib.hid (HST.out rfl)
                    go_wp2_with (go_at_call 57; go_fit (CP.out _); rintro e w5 ⟨rfl, hb5⟩)
                    go_roundw
                    case rel => exact ⟨j2 + 1, by omega, by go_num, HT, bthen hb hb5⟩
                    case measure => simp [intOf]; omega
                · have HTY := Lib.hid (show x.types.any (fun s => !mayN s) = false by have := hn.out; rwa [List.take_of_length_le (by omega)] at this)
                  have HNF := Lib.hid (HSN.out (by unfold noneC; rw [HTG.out, HTY.out]; rfl))
                  have k4 := (HBX.out.under hb).cell 0
                  simp only [List.getElem?_cons_zero] at k4
                  have CR1 := Lib.hid (refRise_any (HSX.out.below hb))
                  have CR2 := Lib.hid (fun W (hb2 : Below wr.heap.size wr W) => refRise_any ((HTX.out.below hb).below hb2))
                  have HSF2 := Lib.hid (show (b && (riseN x.tags && riseN x.types)) = !(q.take (k2 + 1)).any fallC by rw [← HSF.out]; unfold fallC; rw [Bool.not_or, Bool.not_not, Bool.not_not])
                  have HBe := Lib.hid (bthen HBl2.out hb)
                  generalize riseN x.tags = r1 at CR1 HSF2
                  generalize riseN x.types = r2 at CR2 HSF2
                  clear hn HSF HSN
                  rcases b with _ | _ <;> rcases r1 with _ | _ <;> rcases r2 with _ | _
                  all_goals
                    go_wp2_with (first
                      | (go_at_call 59; go_fit (CR2.out _ HB7.out); rintro e w8 ⟨rfl, hb8⟩)
                      | (go_at_call 59; go_fit CR1.out; rintro e w7 ⟨rfl, hb7⟩; have HB7 := Lib.hid hb7; have k5 := (HBX.out.under (bthen hb hb7)).cell 1; simp only [List.getElem?_cons_succ, List.getElem?_cons_zero] at k5; clear hb7))
                    go_roundw
                    case rel => exact ⟨k2 + 1, _, by omega, by go_num, rfl, Lib.hid ⟨HNF.out, HSF2.out⟩, bthen HBe.out (bthen HB7.out hb8)⟩
                    case measure => simp [intOf]; omega
        · have hnn : q.any noneC = false := by have := hn.out.1; rwa [List.take_of_length_le (by omega)] at this
          have hff : b = !q.any fallC := by have := hn.out.2; rwa [List.take_of_length_le (by omega)] at this
          have hfl := HFL.out HNB.out hnn
          rcases b with _ | _
          · have HT := Lib.hid (show R = 1 by rw [hfl, if_pos (by simpa using hff.symm)])
            clear hn hnn hff hfl
            go_wp2
            go_ret
            exact ⟨by rw [HT.out]; rfl, bthen HBl.out hbl⟩
          · have HT := Lib.hid (show R = 0 by rw [hfl, if_neg (by simpa using hff.symm)])
            clear hn hnn hff hfl
            go_wp2
            go_ret
            exact ⟨by rw [HT.out]; rfl, bthen HBl.out hbl⟩
end Go.Proofs.Ythinieokpgmfoaa
