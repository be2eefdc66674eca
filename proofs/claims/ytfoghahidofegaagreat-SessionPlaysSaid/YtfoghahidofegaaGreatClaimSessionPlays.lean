/- registrarref06.May: what it comes to (walk). registrarref18.May (walk). registrarref18.Add (walk). registrarref19.Session: New, keep (walks; as SesS). registrarref14.Index: Stream, Query, what their rows hang on (walks; as Ref14, Ref14q). registrarref19.Session: Read, Query (walks; as Ses2). registrarref19.Session: Append (walk). registrarref18.Holds, All (walk). registrarref19.Session: Check (walk; as Ses3). registrarlaw19.Both: its state; does, where another one commits (walk). registrarlaw19.(*Both).does, where another one commits (walk). registrarlaw19.(*Both).does, but where another one commits (walk). SessionPlays: the loop's state; does as a whole. SessionPlays: the law's walk. The closed facts that every row of this seat leans on, each proved for itself: the order's text is long, so it is read once as a list of signs. The row of the law SessionPlays, over its walk: for every input the call returns true and each argument reads afterwards as it read before. No conditions. -/
import Derived.Test.YtfoghahidofegaaGreatBundO
import Derived.Test.YtfoghahidofegaaGreatBundK
import Derived.Test.YtfoghahidofegaaGreatBundR
import Derived.Test.YtfoghahidofegaaGreatBundG
import Derived.Deep.RegionHeld3
import Derived.Test.YtfoghahidofegaaGreatBundL
import Derived.Test.YtfoghahidofegaaGreatBundM
import Derived.Test.YtfoghahidofegaaGreatBundT
import Derived.Deep.CutBlock
import Derived.Test.YtfoghahidofegaaGreatRows
import Derived.JoinedOf
import Derived.KernelRfl
import Derived.Test.YtfoghahidofegaaGreatBundA
import Derived.WalkKit
import Derived.ProofKit
import Derived.OpenShut
import Derived.ShutString
import Derived.ChangeOld
import Derived.Below
import Derived.SizedLaws
set_option linter.unusedVariables false
set_option linter.unusedSimpArgs false
namespace Go.Proofs.YtfoghahidofegaaGreat
open Go.RowKit

theorem mayQ_big1 {q : List Clause} (h : 4 < q.length) : mayQ q = 3 := by unfold mayQ; rw [decide_eq_true h, Bool.true_or]; rfl
theorem mayQ_big2 {q : List Clause} {k : Nat} (hk : k < q.length) (h : bigC q[k] = true) : mayQ q = 3 := by
  have : q.any bigC = true := List.any_eq_true.2 ⟨_, List.getElem_mem hk, h⟩
  unfold mayQ; rw [this, Bool.or_true]; rfl
theorem mayQ_none {q : List Clause} (h4 : ¬ 4 < q.length) (hb : q.any bigC = false) {k : Nat} (hk : k < q.length) (h : noneC q[k] = true) : mayQ q = 5 := by
  have : q.any noneC = true := List.any_eq_true.2 ⟨_, List.getElem_mem hk, h⟩
  unfold mayQ; rw [this, decide_eq_false h4, hb]; rfl
theorem mayQ_fall {q : List Clause} (h4 : ¬ 4 < q.length) (hb : q.any bigC = false) (hn : q.any noneC = false) : mayQ q = if q.any fallC = true then 1 else 0 := by
  unfold mayQ; rw [hn, decide_eq_false h4, hb]; rfl
theorem any_take_succC (p : Clause → Bool) (q : List Clause) (k : Nat) (h : k < q.length) : (q.take (k + 1)).any p = ((q.take k).any p || p q[k]) := any_take_succ p q k h

set_option maxHeartbeats 4000000 in
set_option maxRecDepth 100000 in
theorem refMayQ_any {w : World} {q : List Clause} {Q : Option Addr} {cq : Nat} (hq : SlC w Q cq q) (hg : ∀ c ∈ q, ∀ s ∈ c.tags, s.size ≤ maxLen) :
    Calls Tryz.prog 178 #[.agg #[.slice Q q.length cq]] w fun e w' => e = .returned (.int .i64 (mayQ q)) ∧ Below w.heap.size w w' := by
  obtain ⟨W1, hW1⟩ : ∃ W1, W1 = w.alloc (.cells #[.slice Q q.length cq] 25) := ⟨_, rfl⟩
  have HW := Lib.hid hW1
  have hB : Below w.heap.size w W1 := by rw [hW1]; exact (Below.refl _ _).alloc (Nat.le_refl _) _
  have hx1 : Bx W1 w.heap.size 25 [.slice Q q.length cq] := by rw [hW1]; exact Bx.new w _ _
  have hc1 := hq.1
  have hc2 := hq.2.1
  unfold maxLen at hc2
  have HQ := Lib.hid (hq.below hB)
  have HX1 := Lib.hid hx1
  have HBl := Lib.hid hB
  have HG := Lib.hid hg
  have c0 := hx1.c0
  clear hB hx1 hW1 hq hg
  obtain ⟨R, hR⟩ : ∃ R, mayQ q = R := ⟨_, rfl⟩
  have HR := Lib.hid hR
  rw [hR]
  clear hR
  by_cases h4 : 4 < q.length
  · have HT := Lib.hid (show R = 3 by rw [← HR.out]; exact mayQ_big1 h4)
    go_enter Tryz.func178, Tryz.ntmps178
    go_upto_region 1 with fail
    rw [← HW.out]
    clear HW
    go_wp2_with fail
    go_ret
    exact ⟨by rw [HT.out]; rfl, HBl.out⟩
  have HB2 := Lib.hid (fun (k : Nat) (hk : k < q.length) (h : bigC q[k] = true) => show R = 3 by rw [← HR.out]; exact mayQ_big2 hk h)
  have HN := Lib.hid (fun (hb : q.any bigC = false) (k : Nat) (hk : k < q.length) (h : noneC q[k] = true) => show R = 5 by rw [← HR.out]; exact mayQ_none h4 hb hk h)
  have HFL := Lib.hid (fun (hb : q.any bigC = false) (hn : q.any noneC = false) => show R = if q.any fallC = true then 1 else 0 by rw [← HR.out]; exact mayQ_fall h4 hb hn)
  clear HR
  go_enter Tryz.func178, Tryz.ntmps178
  go_upto_region 1 with fail
  rw [← HW.out]
  clear HW
  go_wp2_with fail
  go_loopw [3] (fun i wr => ∃ k : Nat, k ≤ q.length ∧ i = .int .i64 k ∧ Hid ((q.take k).any bigC = false) ∧ wr = W1) (fun i _ => q.length - (intOf i).toNat)
  case atStart => exact ⟨0, Nat.zero_le _, rfl, Lib.hid rfl, rfl⟩
  case round =>
    obtain ⟨k, hk, rfl, hn, rfl⟩ := hrel
    by_cases hlt : k < q.length
    · obtain ⟨ad, S, sa, T, ta, rfl, hx, hy, hS, hT⟩ := row_clause_at HQ.out.2.2 hlt
      have HST := Lib.hid (show bigC q[k] = false → (q.take (k + 1)).any bigC = false from fun h => by rw [any_take_succC _ _ _ hlt, hn.out, h]; rfl)
      have HBG := Lib.hid (HB2.out k hlt)
      generalize q[k] = x at hx hy hS hT HST HBG
      have e1 : (0 : Int) ≤ (k : Int) := Int.natCast_nonneg _
      have e2 : (k : Int) < (q.length : Int) := by omega
      clear hn hS hT
      by_cases h1 : 4 < x.tags.length
      · have HT := Lib.hid (HBG.out (by unfold bigC; rw [decide_eq_true h1]; rfl))
        go_wp2
        go_ret
        exact ⟨by rw [HT.out]; rfl, HBl.out⟩
      · by_cases h2 : 4 < x.types.length
        · have HT := Lib.hid (HBG.out (by unfold bigC; rw [decide_eq_true h2, Bool.or_true]))
          go_wp2
          go_ret
          exact ⟨by rw [HT.out]; rfl, HBl.out⟩
        · have HT := Lib.hid (HST.out (by unfold bigC; rw [decide_eq_false h1, decide_eq_false h2]; rfl))
          go_wp2
          go_roundw
          case rel => exact ⟨k + 1, by omega, by go_num, HT, by first | rfl | trivial⟩
          case measure => simp [intOf]; omega
    · have HNB := Lib.hid (show q.any bigC = false by have := hn.out; rwa [List.take_of_length_le (by omega)] at this)
      clear hn HB2
      obtain ⟨W2, hW2⟩ : ∃ W2, W2 = wr := ⟨_, rfl⟩
      subst hW2
      go_wp2_with fail
      go_loopw [4, 5, 6, 7, 8, 9, 10, 11, 12, 13, 14] (fun r i _ _ _ _ _ _ _ _ _ wr => ∃ (k : Nat) (b : Bool), k ≤ q.length ∧ i = .int .i64 k ∧ r = .bool b ∧ Hid ((q.take k).any noneC = false ∧ b = !(q.take k).any fallC) ∧ Below W2.heap.size W2 wr) (fun _ i _ _ _ _ _ _ _ _ _ _ => q.length - (intOf i).toNat)
      case atStart => exact ⟨0, true, Nat.zero_le _, rfl, rfl, Lib.hid ⟨rfl, rfl⟩, Below.refl _ _⟩
      case round =>
        obtain ⟨k2, b, hk2, rfl, rfl, hn, hbl⟩ := hrel
        have k0 := (HX1.out.under hbl).c0
        by_cases hlt2 : k2 < q.length
        · obtain ⟨ad, S, sa, T, ta, rfl, hx, hy, hS, hT⟩ := row_clause_at (HQ.out.below hbl).2.2 hlt2
          have HSN := Lib.hid (show noneC q[k2] = false → (q.take (k2 + 1)).any noneC = false from fun h => by rw [any_take_succC _ _ _ hlt2, hn.out.1, h]; rfl)
          have HSF := Lib.hid (show (b && !fallC q[k2]) = !(q.take (k2 + 1)).any fallC by rw [any_take_succC _ _ _ hlt2, hn.out.2, Bool.not_or])
          have HNO := Lib.hid (HN.out HNB.out k2 hlt2)
          have HGX := Lib.hid (HG.out q[k2] (List.getElem_mem hlt2))
          generalize q[k2] = x at hx hy hS hT HSN HSF HNO HGX
          have e1 : (0 : Int) ≤ (k2 : Int) := Int.natCast_nonneg _
          have e2 : (k2 : Int) < (q.length : Int) := by omega
          obtain ⟨w3, hw3⟩ : ∃ w3, w3 = wr := ⟨_, rfl⟩
          subst hw3
          have hbx : Bx (w3.alloc (.cells #[.slice S x.tags.length sa, .slice T x.types.length ta] 118)) w3.heap.size 118 [.slice S x.tags.length sa, .slice T x.types.length ta] := Bx.new _ _ _
          have hbX : Below W2.heap.size W2 (w3.alloc (.cells #[.slice S x.tags.length sa, .slice T x.types.length ta] 118)) := bthen hbl ((Below.refl _ _).alloc (Nat.le_refl _) _)
          have HSX := Lib.hid (hS.alloc (.cells #[.slice S x.tags.length sa, .slice T x.types.length ta] 118))
          have HTX := Lib.hid (hT.alloc (.cells #[.slice S x.tags.length sa, .slice T x.types.length ta] 118))
          have hc3 := hS.1
          have hc4 := hS.2.1
          have hc5 := hT.1
          have hc6 := hT.2.1
          unfold maxLen at hc4 hc6
          go_upto_region 13 with fail
          generalize w3.alloc (.cells #[.slice S x.tags.length sa, .slice T x.types.length ta] 118) = X at hbx hbX HSX HTX ⊢
          generalize w3.heap.size = g at hbx ⊢
          have HBX := Lib.hid hbx
          have HBl2 := Lib.hid hbX
          clear hn hS hT hx hy k0 hbl hbx hbX
          go_wp2_with fail
          go_loopw [7, 8, 9, 10] (fun i _ _ _ wr => ∃ j : Nat, j ≤ x.tags.length ∧ i = .int .i64 j ∧ Hid ((x.tags.take j).any (fun s => !tagN s) = false) ∧ Below X.heap.size X wr) (fun i _ _ _ _ => x.tags.length - (intOf i).toNat)
          case atStart => exact ⟨0, Nat.zero_le _, rfl, Lib.hid rfl, Below.refl _ _⟩
          case round =>
            obtain ⟨j, hj, rfl, hn, hb⟩ := hrel
            have k3 := (HBX.out.under hb).c0
            by_cases hjl : j < x.tags.length
            · obtain ⟨sd, rfl, hsx⟩ := row_str_at (HSX.out.below hb).2.2 hjl
              have HST := Lib.hid (show tagN (x.tags[j]'hjl) = true → (x.tags.take (j + 1)).any (fun s => !tagN s) = false from fun h => by rw [any_take_succ _ _ _ hjl, hn.out, h]; rfl)
              have HNN := Lib.hid (show tagN (x.tags[j]'hjl) = false → R = 5 from fun h => HNO.out (by unfold noneC; rw [List.any_eq_true.2 ⟨_, List.getElem_mem hjl, by rw [h]; rfl⟩, Bool.true_or]))
              have CP := Lib.hid (fun W => refParts_any (x.tags[j]'hjl) (HGX.out _ (List.getElem_mem hjl)) W)
              generalize x.tags[j]'hjl = y at hsx HST HNN CP
              have d1 : (0 : Int) ≤ (j : Int) := Int.natCast_nonneg _
              have d2 : (j : Int) < (x.tags.length : Int) := by omega
              generalize tagN y = bt at HST HNN CP
              clear hn
              rcases bt with _ | _
              · have HT := Lib.hid (HNN.out rfl)
                go_wp2_with (go_at_call 110; go_fit (CP.out _); rintro e w5 ⟨p1, p2, rfl, hb5⟩)
                go_ret
                exact ⟨by rw [HT.out]; rfl, bthen HBl.out (bthen HBl2.out (bthen hb hb5))⟩
              · have HT := Lib.hid (HST.out rfl)
                go_wp2_with (go_at_call 110; go_fit (CP.out _); rintro e w5 ⟨p1, p2, rfl, hb5⟩)
                go_roundw
                case rel => exact ⟨j + 1, by omega, by go_num, HT, bthen hb hb5⟩
                case measure => simp [intOf]; omega
            · have HTG := Lib.hid (show x.tags.any (fun s => !tagN s) = false by have := hn.out; rwa [List.take_of_length_le (by omega)] at this)
              clear hn
              obtain ⟨w4, hw4⟩ : ∃ w4, w4 = wr := ⟨_, rfl⟩
              subst hw4
              have HBw := Lib.hid hb
              clear hb
              go_wp2_with fail
              go_loopw [11, 12] (fun i _ wr => ∃ j : Nat, j ≤ x.types.length ∧ i = .int .i64 j ∧ Hid ((x.types.take j).any (fun s => !mayN s) = false) ∧ Below X.heap.size X wr) (fun i _ _ => x.types.length - (intOf i).toNat)
              case atStart => exact ⟨0, Nat.zero_le _, rfl, Lib.hid rfl, HBw.out⟩
              case round =>
                clear k3
                obtain ⟨j2, hj2, rfl, hn, hb⟩ := hrel
                have k3 := (HBX.out.under hb).cell 1
                simp only [List.getElem?_cons_succ, List.getElem?_cons_zero] at k3
                by_cases hjl2 : j2 < x.types.length
                · obtain ⟨sd, rfl, hsx⟩ := row_str_at (HTX.out.below hb).2.2 hjl2
                  have HST := Lib.hid (show mayN (x.types[j2]'hjl2) = true → (x.types.take (j2 + 1)).any (fun s => !mayN s) = false from fun h => by rw [any_take_succ _ _ _ hjl2, hn.out, h]; rfl)
                  have HNN := Lib.hid (show mayN (x.types[j2]'hjl2) = false → R = 5 from fun h => HNO.out (by unfold noneC; rw [List.any_eq_true.2 ⟨_, List.getElem_mem hjl2, by rw [h]; rfl⟩, Bool.or_true]))
                  have CP := Lib.hid (fun W => refMay_any (x.types[j2]'hjl2) W)
                  generalize x.types[j2]'hjl2 = y at hsx HST HNN CP
                  have d1 : (0 : Int) ≤ (j2 : Int) := Int.natCast_nonneg _
                  have d2 : (j2 : Int) < (x.types.length : Int) := by omega
                  generalize mayN y = bt at HST HNN CP
                  clear hn
                  rcases bt with _ | _
                  · have HT := Lib.hid (HNN.out rfl)
                    go_wp2_with (go_at_call 29; go_fit (CP.out _); rintro e w5 ⟨rfl, hb5⟩)
                    go_ret
                    exact ⟨by rw [HT.out]; rfl, bthen HBl.out (bthen HBl2.out (bthen hb hb5))⟩
                  · have HT := Lib.hid (HST.out rfl)
                    go_wp2_with (go_at_call 29; go_fit (CP.out _); rintro e w5 ⟨rfl, hb5⟩)
                    go_roundw
                    case rel => exact ⟨j2 + 1, by omega, by go_num, HT, bthen hb hb5⟩
                    case measure => simp [intOf]; omega
                · have HTY := Lib.hid (show x.types.any (fun s => !mayN s) = false by have := hn.out; rwa [List.take_of_length_le (by omega)] at this)
                  have HNF := Lib.hid (HSN.out (by unfold noneC; rw [HTG.out, HTY.out]; rfl))
                  have k4 := (HBX.out.under hb).cell 0
                  simp only [List.getElem?_cons_zero] at k4
                  have CR1 := Lib.hid (refRise_any (HSX.out.below hb))
                  have CR2 := Lib.hid (fun W (hb2 : Below wr.heap.size wr W) => refRise_any ((HTX.out.below hb).below hb2))
                  have HSF2 := Lib.hid (show (b && (riseN x.tags && riseN x.types)) = !(q.take (k2 + 1)).any fallC by rw [← HSF.out]; unfold fallC; rw [Bool.not_or, Bool.not_not, Bool.not_not])
                  have HBe := Lib.hid (bthen HBl2.out hb)
                  generalize riseN x.tags = r1 at CR1 HSF2
                  generalize riseN x.types = r2 at CR2 HSF2
                  clear hn HSF HSN
                  rcases b with _ | _ <;> rcases r1 with _ | _ <;> rcases r2 with _ | _
                  all_goals
                    go_wp2_with (first
                      | (go_at_call 79; go_fit (CR2.out _ HB7.out); rintro e w8 ⟨rfl, hb8⟩)
                      | (go_at_call 79; go_fit CR1.out; rintro e w7 ⟨rfl, hb7⟩; have HB7 := Lib.hid hb7; have k5 := (HBX.out.under (bthen hb hb7)).cell 1; simp only [List.getElem?_cons_succ, List.getElem?_cons_zero] at k5; clear hb7))
                    go_roundw
                    case rel => exact ⟨k2 + 1, _, by omega, by go_num, rfl, Lib.hid ⟨HNF.out, HSF2.out⟩, bthen HBe.out (bthen HB7.out hb8)⟩
                    case measure => simp [intOf]; omega
        · have hnn : q.any noneC = false := by have := hn.out.1; rwa [List.take_of_length_le (by omega)] at this
          have hff : b = !q.any fallC := by have := hn.out.2; rwa [List.take_of_length_le (by omega)] at this
          have hfl := HFL.out HNB.out hnn
          rcases b with _ | _
          · have HT := Lib.hid (show R = 1 by rw [hfl, if_pos (by simpa using hff.symm)])
            clear hn hnn hff hfl
            go_wp2
            go_ret
            exact ⟨by rw [HT.out]; rfl, bthen HBl.out hbl⟩
          · have HT := Lib.hid (show R = 0 by rw [hfl, if_neg (by simpa using hff.symm)])
            clear hn hnn hff hfl
            go_wp2
            go_ret
            exact ⟨by rw [HT.out]; rfl, bthen HBl.out hbl⟩
end Go.Proofs.YtfoghahidofegaaGreat

namespace Go.Proofs.YtfoghahidofegaaGreat
open Go.RowKit

set_option maxHeartbeats 4000000 in
set_option maxRecDepth 8000 in
theorem refMayG_any {w : World} {s : ByteArray} {v : Int} {q : List Clause} {a : Bool} {Q : Option Addr} {cq : Nat} (hq : SlC w Q cq q) (hg : ∀ c ∈ q, ∀ t ∈ c.tags, t.size ≤ maxLen) :
    Calls Tryz.prog 163 #[.agg #[.string s, .int .i64 v, .slice Q q.length cq, .bool a]] w fun r w' => r = .returned (.int .i64 (mayG (s, v, q, a))) ∧ Below w.heap.size w w' := by
  obtain ⟨W1, hW1⟩ : ∃ W1, W1 = w.alloc (.cells #[.string s, .int .i64 v, .slice Q q.length cq, .bool a] 52) := ⟨_, rfl⟩
  have HW1 := Lib.hid hW1
  have hb1 : Below w.heap.size w W1 := by rw [hW1]; exact (Below.refl _ _).alloc (Nat.le_refl _) _
  have hx : Bx W1 w.heap.size 52 [.string s, .int .i64 v, .slice Q q.length cq, .bool a] := by rw [hW1]; exact Bx.new w _ _
  have HB1 := Lib.hid hb1
  have HX := Lib.hid hx
  obtain ⟨m, hm⟩ : ∃ m, mayQ q = m := ⟨_, rfl⟩
  obtain ⟨n, hn⟩ : ∃ n, mayN s = n := ⟨_, rfl⟩
  have C1 : Hid (Calls Tryz.prog 178 #[.agg #[.slice Q q.length cq]] W1 fun e w' => e = .returned (.int .i64 m) ∧ Below W1.heap.size W1 w') := Lib.hid (by rw [← hm]; exact refMayQ_any (hq.below hb1) hg)
  have C2 : Hid (Calls Tryz.prog 29 #[.string s] W1 fun e w' => e = .returned (.bool n) ∧ Below W1.heap.size W1 w') := Lib.hid (by rw [← hn]; exact refMay_any s W1)
  have k0 := hx.cell 0
  have k1 := hx.cell 1
  have k2 := hx.cell 2
  have k3 := hx.cell 3
  simp only [List.getElem?_cons_succ, List.getElem?_cons_zero] at k0 k1 k2 k3
  obtain ⟨R, hR⟩ : ∃ R, mayG (s, v, q, a) = R := ⟨_, rfl⟩
  rw [hR]
  unfold mayG at hR
  simp only [hm, hn] at hR
  have hq := isEmptyB s
  obtain ⟨l, hl⟩ : ∃ l, q.length = l := ⟨_, rfl⟩
  rw [hl] at k2 C1 hR
  clear hb1 hx hg hm hn
  have HL := Lib.hid hl
  rw [hl] at hW1 HX HW1 ⊢
  clear hl
  by_cases h1 : v < 0
  · rw [if_pos (Or.inl h1)] at hR
    subst hR
    have d1 : decide (v < 0) = true := decide_eq_true h1
    go_enter Tryz.func163, Tryz.ntmps163
    go_upto_region 1 with fail
    rw [← HW1.out]
    clear hW1
    go_wp2_with fail
    go_ret
    exact ⟨rfl, HB1.out⟩
  have d1 : decide (v < 0) = false := decide_eq_false h1
  by_cases h2 : 1048576 < v
  · rw [if_pos (Or.inr h2)] at hR
    subst hR
    have d2 : decide (1048576 < v) = true := decide_eq_true h2
    go_enter Tryz.func163, Tryz.ntmps163
    go_upto_region 1 with fail
    rw [← HW1.out]
    clear hW1
    go_wp2_with fail
    go_ret
    exact ⟨rfl, HB1.out⟩
  have d2 : decide (1048576 < v) = false := decide_eq_false h2
  rw [if_neg (fun h => h.elim h1 h2)] at hR
  cases a with
  | true =>
    simp only [if_true] at hR
    by_cases h3 : m = 0
    · subst h3
      by_cases h4 : s = ⟨#[]⟩
      · rw [if_neg (by simp [h4])] at hR
        subst hR
        rw [decide_eq_true h4] at hq
        clear h4
        go_enter Tryz.func163, Tryz.ntmps163
        go_upto_region 1 with fail
        rw [← HW1.out]
        clear hW1
        go_wp2_with (go_at_call 178; go_fit C1.out; rintro r w2 ⟨rfl, hb2⟩; have HB2 := Lib.hid hb2; have j0 := (HX.out.under hb2).cell 0; simp only [List.getElem?_cons_zero] at j0; clear hb2)
        go_ret
        exact ⟨rfl, bthen HB1.out HB2.out⟩
      · rw [if_pos (by simp [h4])] at hR
        subst hR
        rw [decide_eq_false h4] at hq
        clear h4
        go_enter Tryz.func163, Tryz.ntmps163
        go_upto_region 1 with fail
        rw [← HW1.out]
        clear hW1
        go_wp2_with (go_at_call 178; go_fit C1.out; rintro r w2 ⟨rfl, hb2⟩; have HB2 := Lib.hid hb2; have j0 := (HX.out.under hb2).cell 0; simp only [List.getElem?_cons_zero] at j0; clear hb2)
        go_ret
        exact ⟨rfl, bthen HB1.out HB2.out⟩
    · rw [if_neg (fun h => h3 h.1)] at hR
      subst hR
      have d3 : (m == 0) = false := by simp [h3]
      go_enter Tryz.func163, Tryz.ntmps163
      go_upto_region 1 with fail
      rw [← HW1.out]
      clear hW1
      go_wp2_with (go_at_call 178; go_fit C1.out; rintro r w2 ⟨rfl, hb2⟩; have HB2 := Lib.hid hb2; clear hb2)
      go_ret
      exact ⟨rfl, bthen HB1.out HB2.out⟩
  | false =>
    rw [if_neg (by simp)] at hR
    cases n with
    | false =>
      rw [if_pos rfl] at hR
      subst hR
      go_enter Tryz.func163, Tryz.ntmps163
      go_upto_region 1 with fail
      rw [← HW1.out]
      clear hW1
      go_wp2_with (go_at_call 29; go_fit C2.out; rintro r w2 ⟨rfl, hb2⟩; have HB2 := Lib.hid hb2; clear hb2)
      go_ret
      exact ⟨rfl, bthen HB1.out HB2.out⟩
    | true =>
      rw [if_neg (by simp)] at hR
      by_cases h5 : 0 < l
      · rw [if_pos h5] at hR
        subst hR
        have d5 : decide (0 < l) = true := decide_eq_true h5
        go_enter Tryz.func163, Tryz.ntmps163
        go_upto_region 1 with fail
        rw [← HW1.out]
        clear hW1
        go_wp2_with (go_at_call 29; go_fit C2.out; rintro r w2 ⟨rfl, hb2⟩; have HB2 := Lib.hid hb2; have j2 := (HX.out.under hb2).cell 2; simp only [List.getElem?_cons_succ, List.getElem?_cons_zero] at j2; clear hb2)
        go_ret
        exact ⟨rfl, bthen HB1.out HB2.out⟩
      · rw [if_neg h5] at hR
        subst hR
        have d5 : decide (0 < l) = false := decide_eq_false h5
        go_enter Tryz.func163, Tryz.ntmps163
        go_upto_region 1 with fail
        rw [← HW1.out]
        clear hW1
        go_wp2_with (go_at_call 29; go_fit C2.out; rintro r w2 ⟨rfl, hb2⟩; have HB2 := Lib.hid hb2; have j2 := (HX.out.under hb2).cell 2; simp only [List.getElem?_cons_succ, List.getElem?_cons_zero] at j2; clear hb2)
        go_ret
        exact ⟨rfl, bthen HB1.out HB2.out⟩

end Go.Proofs.YtfoghahidofegaaGreat

namespace Go.Proofs.YtfoghahidofegaaGreat
open Go.RowKit Go.Maps

theorem kGuard_mk18 {ok : Nat → Prop} {w : World} {s : ByteArray} {v : Int} {q : List Clause} {a : Bool} {Q : Option Addr} {cq n : Nat} (h : Sl kClause ok w Q cq q) (hn : n = q.length) : kGuard.K ok w (s, v, q, a) [.string s, .int .i64 v, .slice Q n cq, .bool a] := by
  subst hn
  exact ⟨[.string s], [.int .i64 v, .slice Q q.length cq, .bool a], rfl, rfl, [.int .i64 v], [.slice Q q.length cq, .bool a], rfl, rfl, [.slice Q q.length cq], [.bool a], rfl, ⟨Q, cq, rfl, h⟩, rfl⟩

set_option maxHeartbeats 8000000 in
set_option maxRecDepth 100000 in
theorem refAddG_any {w : World} {ok : Nat → Prop} {A : Option Addr} {c : Nat} {gs : List Grd} (hA : Sl kGuard ok w A c gs) (hlen : gs.length ≤ 1000) {s : ByteArray} {v : Int} {q : List Clause} {a : Bool} {Q : Option Addr} {cq : Nat} (hq : Sl kClause ok w Q cq q) (hg : ∀ c ∈ q, ∀ t ∈ c.tags, t.size ≤ maxLen) :
    Calls Tryz.prog 150 #[.slice A gs.length c, .agg #[.string s, .int .i64 v, .slice Q q.length cq, .bool a]] w fun r w' => ∃ (A' : Option Addr) (c' : Nat), r = .returned (.tuple #[.slice A' (addL gs (s, v, q, a)).length c', .int .i64 (addE gs (s, v, q, a))]) ∧
      Sl kGuard (fun k => ok k ∨ w.heap.size ≤ k) w' A' c' (addL gs (s, v, q, a)) ∧ Below w.heap.size w w' := by
  obtain ⟨W1, hW1⟩ : ∃ W1, W1 = w.alloc (.cells #[.string s, .int .i64 v, .slice Q q.length cq, .bool a] 52) := ⟨_, rfl⟩
  have HW1 := Lib.hid hW1
  have hb1 : Below w.heap.size w W1 := by rw [hW1]; exact (Below.refl _ _).alloc (Nat.le_refl _) _
  have hx : Bx W1 w.heap.size 52 [.string s, .int .i64 v, .slice Q q.length cq, .bool a] := by rw [hW1]; exact Bx.new w _ _
  have HB1 := Lib.hid hb1
  have HX := Lib.hid hx
  have HA := Lib.hid (hA.bound.below hb1)
  have HQ := Lib.hid (hq.bound.below hb1)
  have HLEN := Lib.hid hlen
  obtain ⟨m, hm⟩ : ∃ m, mayG (s, v, q, a) = m := ⟨_, rfl⟩
  have CM : Hid (Calls Tryz.prog 163 #[.agg #[.string s, .int .i64 v, .slice Q q.length cq, .bool a]] W1 fun r w' => r = .returned (.int .i64 m) ∧ Below W1.heap.size W1 w') := Lib.hid (by rw [← hm]; exact refMayG_any (hq.any.below hb1) hg)
  have hc1 := hA.1
  have hc2 := hA.2.1
  unfold maxLen at hc2
  obtain ⟨l, hl⟩ : ∃ l, q.length = l := ⟨_, rfl⟩
  have HL := Lib.hid hl
  have k0 := hx.cell 0
  have k1 := hx.cell 1
  have k2 := hx.cell 2
  have k3 := hx.cell 3
  simp only [List.getElem?_cons_succ, List.getElem?_cons_zero] at k0 k1 k2 k3
  obtain ⟨E, hE⟩ : ∃ E, addE gs (s, v, q, a) = E := ⟨_, rfl⟩
  obtain ⟨L, hL⟩ : ∃ L, addL gs (s, v, q, a) = L := ⟨_, rfl⟩
  rw [hE, hL]
  have HE := Lib.hid hE
  have HLL := Lib.hid hL
  have HM := Lib.hid hm
  clear hA hq hg hb1 hx hE hL hm hlen hl
  go_enter Tryz.func150, Tryz.ntmps150
  go_upto_region 1 with fail
  rw [← HW1.out]
  clear hW1 HW1
  by_cases h0 : m = 0
  rotate_left
  · have d0 : (m != 0) = true := by simp [h0]
    have hE2 : E = m := by rw [← HE.out]; unfold addE; rw [HM.out, if_pos h0]
    have hL2 : L = [] := by rw [← HLL.out]; unfold addL; rw [HE.out, hE2, if_pos h0]
    subst hE2 hL2
    go_wp2_with (go_at_call 163; go_fit CM.out; rintro r w2 ⟨rfl, hb2⟩; have HB2 := Lib.hid hb2; clear hb2)
    go_ret2
    exact ⟨none, 0, rfl, Sl.nil_, bthen HB1.out HB2.out⟩
  subst h0
  go_upto_region 4 with (go_at_call 163; go_fit CM.out; rintro r w2 ⟨rfl, hb2⟩; have HB2 := Lib.hid hb2; clear hb2)
  clear k0 k1 k2 k3 CM
  go_wp2_with fail
  go_loopw [7] (fun i wr => ∃ k : Nat, k ≤ gs.length ∧ i = .int .i64 k ∧ Hid (∀ j, j < k → ∀ g, gs[j]? = some g → sameG g (s, v, q, a) = false) ∧ Below W1.heap.size W1 wr) (fun i _ => gs.length - (intOf i).toNat)
  case atStart => exact ⟨0, Nat.zero_le _, rfl, Lib.hid (fun j hj => by omega), HB2.out⟩
  case round =>
    clear HB2
    obtain ⟨k, hk, rfl, hno, hb⟩ := hrel
    have HB := Lib.hid hb
    have hgl : w.heap.size < wr.heap.size := by have := HX.out.lt; have := hb.size; omega
    by_cases hlt : k < gs.length
    · obtain ⟨ad, Q', cq', rfl, x0, x1, x2, x3, hQ'⟩ := row_guard_at (HA.out.below hb).2.2 hlt
      have HGK := Lib.hid (show gs[k]? = some gs[k] from List.getElem?_eq_getElem hlt)
      have HMEM := Lib.hid (List.getElem_mem hlt)
      generalize gs[k] = g at x0 x1 x2 x3 hQ' HGK HMEM
      obtain ⟨s', v', q', a'⟩ := g
      simp only at x0 x1 x2 x3 hQ'
      obtain ⟨l', hl'⟩ : ∃ l', q'.length = l' := ⟨_, rfl⟩
      rw [hl'] at x2
      obtain ⟨t, ht⟩ : ∃ t, sameG (s', v', q', a') (s, v, q, a) = t := ⟨_, rfl⟩
      have HT := Lib.hid ht
      have CO := Lib.hid (fun W (R : Prop) (hW : Below wr.heap.size wr W ∧ R) => show Calls Tryz.prog 88 #[.agg #[.string s', .int .i64 v', .slice Q' l' cq', .bool a'], .agg #[.string s, .int .i64 v, .slice Q l cq, .bool a]] W fun r w' => r = .returned (.bool t) ∧ Below W.heap.size W w' from by
        rw [← ht, ← hl', ← HL.out]; exact refOne_any (hQ'.any.below hW.1) (HQ.out.any.below (bthen HB.out hW.1)))
      have HK := Lib.hid (fun W (hW : Below wr.heap.size wr W) => show Below wr.heap.size wr W ∧ W.cell? ⟨w.heap.size, 0, none⟩ = some (.string s) ∧ W.cell? ⟨w.heap.size, 1, none⟩ = some (.int .i64 v) ∧ W.cell? ⟨w.heap.size, 2, none⟩ = some (.slice Q l cq) ∧ W.cell? ⟨w.heap.size, 3, none⟩ = some (.bool a) ∧
          W.cell? (ad.add (k * 4)) = some (.string s') ∧ W.cell? ⟨(ad.add (k * 4)).block, (ad.add (k * 4)).off + 1, none⟩ = some (.int .i64 v') ∧ W.cell? ⟨(ad.add (k * 4)).block, (ad.add (k * 4)).off + 2, none⟩ = some (.slice Q' l' cq') ∧ W.cell? ⟨(ad.add (k * 4)).block, (ad.add (k * 4)).off + 3, none⟩ = some (.bool a') from
        ⟨hW, (HX.out.under (bthen HB.out hW)).cell 0, (HX.out.under (bthen HB.out hW)).cell 1, by rw [← HL.out]; exact (HX.out.under (bthen HB.out hW)).cell 2, (HX.out.under (bthen HB.out hW)).cell 3, (hW.cell (World.block_lt_of_cell? wr _ x0)).trans x0, (hW.cell (World.block_lt_of_cell? wr _ x1)).trans x1, (hW.cell (World.block_lt_of_cell? wr _ x2)).trans x2, (hW.cell (World.block_lt_of_cell? wr _ x3)).trans x3⟩)
      have e1 : (0 : Int) ≤ (k : Int) := Int.natCast_nonneg _
      have e2 : (k : Int) < (gs.length : Int) := by omega
      clear hb hQ' ht x0 x1 x2 x3 hl'
      go_upto_region 7 with fail
      go_cut [8] (fun b wx => b = .bool t ∧ Below wr.heap.size wr wx)
      case first =>
        go_region_held3 (fun W => Below wr.heap.size wr W ∧ W.cell? ⟨w.heap.size, 0, none⟩ = some (.string s) ∧ W.cell? ⟨w.heap.size, 1, none⟩ = some (.int .i64 v) ∧ W.cell? ⟨w.heap.size, 2, none⟩ = some (.slice Q l cq) ∧ W.cell? ⟨w.heap.size, 3, none⟩ = some (.bool a) ∧
          W.cell? (ad.add (k * 4)) = some (.string s') ∧ W.cell? ⟨(ad.add (k * 4)).block, (ad.add (k * 4)).off + 1, none⟩ = some (.int .i64 v') ∧ W.cell? ⟨(ad.add (k * 4)).block, (ad.add (k * 4)).off + 2, none⟩ = some (.slice Q' l' cq') ∧ W.cell? ⟨(ad.add (k * 4)).block, (ad.add (k * 4)).off + 3, none⟩ = some (.bool a'))
          (first | exact HK.out _ (below_drawn (Below.refl _ _)) | (assumption) | exact HK.out _ (bthen (And.left (by assumption : Below wr.heap.size wr _ ∧ _)) (by assumption)))
          (first | (go_at_call 88; go_fit (CO.out _ _ (by assumption)); rintro r w5 ⟨rfl, hb5⟩))
        all_goals go_wp2_with fail
        all_goals go_meet
        all_goals exact ⟨rfl, And.left (by assumption : Below wr.heap.size wr _ ∧ _)⟩
      case rest =>
        obtain ⟨rfl, hbc⟩ := hcut
        have HBC := Lib.hid (bthen HB.out hbc)
        clear hbc HK CO
        cases t with
        | true =>
          have hh : hasG gs (s, v, q, a) = true := List.any_eq_true.2 ⟨_, HMEM.out, HT.out⟩
          have hE2 : E = 0 := by rw [← HE.out]; unfold addE; rw [HM.out, if_neg (by simp), if_pos hh]
          have hL2 : L = gs := by rw [← HLL.out]; unfold addL; rw [HE.out, hE2, if_neg (by simp), if_pos hh]
          subst hE2 hL2
          clear hh
          go_wp2_with fail
          go_ret2
          exact ⟨_, _, rfl, (HA.out.below HBC.out).mono (fun k hk => .inl hk.1), bthen HB1.out HBC.out⟩
        | false =>
          go_wp2_with fail
          go_roundw
          case rel => exact ⟨k + 1, by omega, by go_num, Lib.hid (fun j hj g' hg' => by
            by_cases he : j = k
            · subst he
              rw [HGK.out] at hg'
              cases hg'
              exact HT.out
            · exact hno.out j (by omega) g' hg'), HBC.out⟩
          case measure => simp [intOf]; omega
    · obtain rfl : k = gs.length := by omega
      have hh : hasG gs (s, v, q, a) = false := by
        unfold hasG
        rw [List.any_eq_false]
        intro g hg
        obtain ⟨j, hj⟩ := List.getElem?_of_mem hg
        rw [hno.out j (List.getElem?_eq_some_iff.1 hj).1 g hj]
        simp
      have HHH := Lib.hid hh
      clear hno hh
      by_cases h16 : 16 ≤ gs.length
      · have hE2 : E = 3 := by rw [← HE.out]; unfold addE; rw [HM.out, if_neg (by simp), if_neg (by rw [HHH.out]; simp), if_pos h16]
        have hL2 : L = [] := by rw [← HLL.out]; unfold addL; rw [HE.out, hE2, if_pos (by simp)]
        subst hE2 hL2
        have d1 : decide (16 ≤ gs.length) = true := decide_eq_true h16
        have d2 : decide ((16 : Int) ≤ (gs.length : Int)) = true := decide_eq_true (by omega)
        clear hb
        go_wp2_with fail
        go_ret2
        exact ⟨none, 0, rfl, Sl.nil_, bthen HB1.out HB.out⟩
      · have hE2 : E = 0 := by rw [← HE.out]; unfold addE; rw [HM.out, if_neg (by simp), if_neg (by rw [HHH.out]; simp), if_neg h16]
        have hL2 : L = gs ++ [(s, v, q, a)] := by rw [← HLL.out]; unfold addL; rw [HE.out, hE2, if_neg (by simp), if_neg (by rw [HHH.out]; simp)]
        subst hE2
        have HL2 := Lib.hid hL2
        have d1 : decide (16 ≤ gs.length) = false := decide_eq_false h16
        have d2 : decide ((16 : Int) ≤ (gs.length : Int)) = false := decide_eq_false (by omega)
        have hwX : w.heap.size ≤ wr.heap.size := by omega
        obtain ⟨OK, hOKd⟩ : ∃ OK : Nat → Prop, OK = fun j => ok j ∧ j < w.heap.size := ⟨_, rfl⟩
        have HOK := Lib.hid (show ∀ j, OK j → j < wr.heap.size by subst hOKd; exact fun j hj => by have := hj.2; omega)
        have HOD := Lib.hid (show ∀ j, OK j → ok j by subst hOKd; exact fun j hj => hj.1)
        have HRE := Lib.hid (show ∀ W, Below wr.heap.size wr W → Row kGuard OK W A gs by subst hOKd; exact fun W hb => (HA.out.below (bthen HB.out hb)).2.2)
        have HKE := Lib.hid (show ∀ W, Below wr.heap.size wr W → kGuard.K OK W (s, v, q, a) [.string s, .int .i64 v, .slice Q l cq, .bool a] by subst hOKd; exact fun W hb => kGuard_mk18 (HQ.out.below (bthen HB.out hb)) HL.out.symm)
        have HKB := Lib.hid (fun W (hW : Below wr.heap.size wr W) => show W.cell? ⟨w.heap.size, 0, none⟩ = some (.string s) ∧ W.cell? ⟨w.heap.size, 1, none⟩ = some (.int .i64 v) ∧ W.cell? ⟨w.heap.size, 2, none⟩ = some (.slice Q l cq) ∧ W.cell? ⟨w.heap.size, 3, none⟩ = some (.bool a) from
          ⟨(HX.out.under (bthen HB.out hW)).cell 0, (HX.out.under (bthen HB.out hW)).cell 1, by rw [← HL.out]; exact (HX.out.under (bthen HB.out hW)).cell 2, (HX.out.under (bthen HB.out hW)).cell 3⟩)
        obtain ⟨k0, k1, k2, k3⟩ := HKB.out wr (Below.refl _ _)
        clear hb hOKd hL2
        go_upto_region 12 with fail
        go_cut [4, 5] (fun r e wx => e = .int .i64 0 ∧ ∃ A2 c2, r = .slice A2 (gs ++ [(s, v, q, a)]).length c2 ∧ Sl kGuard (fun j => ok j ∨ w.heap.size ≤ j) wx A2 c2 (gs ++ [(s, v, q, a)]) ∧ Below wr.heap.size wr wx)
        case first =>
          go_region_law
            (first
              | (refine step_pushO rfl _ _ _ rfl 52 _ 4 56 Tryz.underlying50 infoGuard rfl (by decide) (by decide) rfl wr OK HOK.out _ _ rfl (HO1.out.alloc _) (s, v, q, a) [.string s, .int .i64 v, .slice Q l cq, .bool a] w5.heap.size (Bx.new w5 _ _) (fun e1 => by have := HO1.out.block_lt _ e1.symm; omega) (HKE.out _ (below_made HB5.out (Nat.le_refl _) _)) True (by first | exact ⟨HB5.out, trivial⟩ | exact ⟨below_made HB5.out (Nat.le_refl _) _, trivial⟩ | exact ⟨below_drawn (Below.refl _ _), trivial⟩ | exact ⟨below_made (below_drawn (Below.refl _ _)) (Nat.le_refl _) _, trivial⟩ | exact ⟨below_made (below_made (below_drawn (Below.refl _ _)) (Nat.le_refl _) _) (Nat.le_refl _) _, trivial⟩) rfl (by rw [List.nil_append]; omega) ?_; intro v2 w6 hown2 hbel2; have HB6 := Lib.hid hbel2; obtain ⟨A2, c2, hv2, hsl2⟩ := hown2.sl; subst hv2; have HSL2 := Lib.hid (hsl2.mono (ok' := fun j => ok j ∨ w.heap.size ≤ j) (fun j hj => by rcases hj with (hj | hj) | hj; exact .inl (HOD.out j hj); exact .inr (by omega); exact .inr (by omega))); clear hown2 hbel2 hsl2)
              | (refine step_pushO rfl _ _ _ rfl 52 _ 4 56 Tryz.underlying50 infoGuard rfl (by decide) (by decide) rfl wr OK HOK.out _ _ rfl HO1.out (s, v, q, a) [.string s, .int .i64 v, .slice Q l cq, .bool a] _ KB1.out.1 (fun e1 => KB1.out.2 e1.symm) (HKE.out _ HB5.out) True (by first | exact ⟨HB5.out, trivial⟩ | exact ⟨below_made HB5.out (Nat.le_refl _) _, trivial⟩ | exact ⟨below_drawn (Below.refl _ _), trivial⟩ | exact ⟨below_made (below_drawn (Below.refl _ _)) (Nat.le_refl _) _, trivial⟩ | exact ⟨below_made (below_made (below_drawn (Below.refl _ _)) (Nat.le_refl _) _) (Nat.le_refl _) _, trivial⟩) rfl (by rw [List.nil_append]; omega) ?_; intro v2 w6 hown2 hbel2; have HB6 := Lib.hid hbel2; obtain ⟨A2, c2, hv2, hsl2⟩ := hown2.sl; subst hv2; have HSL2 := Lib.hid (hsl2.mono (ok' := fun j => ok j ∨ w.heap.size ≤ j) (fun j hj => by rcases hj with (hj | hj) | hj; exact .inl (HOD.out j hj); exact .inr (by omega); exact .inr (by omega))); clear hown2 hbel2 hsl2)
              | (refine step_spreadO rfl _ _ _ rfl 52 _ 4 56 Tryz.underlying50 infoGuard rfl (by decide) (by decide) rfl wr OK HOK.out _ [] rfl (Own.lit_at (by first | exact heap_alloc_new wr _ | exact heap_alloc2_new wr _ _ | exact two_old wr _ _) (by simp)) gs A c HRE.out True (by first | exact ⟨HB5.out, trivial⟩ | exact ⟨below_made HB5.out (Nat.le_refl _) _, trivial⟩ | exact ⟨below_drawn (Below.refl _ _), trivial⟩ | exact ⟨below_made (below_drawn (Below.refl _ _)) (Nat.le_refl _) _, trivial⟩ | exact ⟨below_made (below_made (below_drawn (Below.refl _ _)) (Nat.le_refl _) _) (Nat.le_refl _) _, trivial⟩) gs.length rfl rfl (by simp; omega) ?_; intro v1 w5 hown1 hg1 hat1 hbel1; have HO1 := Lib.hid hown1; have HB5 := Lib.hid hbel1; obtain ⟨a0, a1, a2, a3⟩ := HKB.out _ hbel1; have hs5 := hbel1.size; (first | (have KB1 := Lib.hid (box_grown (b := wr.heap.size + 1) (t := 52) (cs := [.string s, .int .i64 v, .slice Q l cq, .bool a]) (by exact heap_alloc2_new wr _ _) (by show (some wr.heap.size : Option Nat) ≠ some (wr.heap.size + 1); simp) hg1 hat1)) | (have KB1 := Lib.hid (box_grown (b := wr.heap.size) (t := 52) (cs := [.string s, .int .i64 v, .slice Q l cq, .bool a]) (by exact two_old wr _ _) (by show (some (wr.heap.size + 1) : Option Nat) ≠ some wr.heap.size; simp) hg1 hat1)) | skip); clear hown1 hg1 hat1 hbel1))
          all_goals go_wp2_with fail
          all_goals go_meet
          all_goals exact ⟨rfl, A2, c2, by simp, HSL2.out, HB6.out⟩
        case rest =>
          obtain ⟨rfl, A2, c2, rfl, hsl, hbc⟩ := hcut
          have HSL := Lib.hid hsl
          have HBC := Lib.hid hbc
          clear hsl hbc k0 k1 k2 k3
          go_wp2_with fail
          go_ret2
          rw [HL2.out]
          exact ⟨A2, c2, rfl, HSL.out, bthen HB1.out (bthen HB.out HBC.out)⟩
end Go.Proofs.YtfoghahidofegaaGreat

namespace Go.Proofs.YtfoghahidofegaaGreat
open Go.RowKit Go.Maps

section
variable {w : World} {b at_ : Nat} {gs : List Grd} {vs : List Event} {X : Nat → Prop}
theorem refNew19 {y : Nat} {A : Option Addr} {c : Nat} {es : List Event} {Z : Nat → Prop} (h : Rx w y A c (recsOf es) Z) (hX : ∀ k, X k → k < w.heap.size) :
    Calls Tryz.prog 50 #[.pointer (some ⟨y, 0, none⟩)] w fun r w' => ∃ b : Nat, r = .returned (.pointer (some ⟨b, 0, none⟩)) ∧ Ss w' 98 b es.length [] [] X ∧ Below w.heap.size w w' ∧ w.heap.size ≤ b := by
  have x0 := h.bx.cell 0
  rw [recsOf_len] at x0
  simp only [List.getElem?_cons_zero] at x0
  clear h
  go_enter Tryz.func50, Tryz.ntmps50
  go_wp2_with fail
  go_ret
  refine ⟨w.heap.size, rfl, ⟨⟨none, 0, none, 0, Bx.new w 98 [.int .i64 es.length, .slice none 0 0, .slice none 0 0], Sl.nil_, Sl.nil_, fun _ => rfl⟩, by simp, by simp, by simp, by simp, fun hx => by have := hX _ hx; omega, fun k hk => by have := hX k hk; simp; omega⟩, (Below.refl _ _).alloc (Nat.le_refl _) _, Nat.le_refl _⟩
set_option maxHeartbeats 4000000 in
set_option maxRecDepth 8000 in
theorem refKeep (h : Ss w 98 b at_ gs vs X) {s : ByteArray} {v : Int} {q : List Clause} {a : Bool} {Q : Option Addr} {cq : Nat} (hq : Sl kClause (fun k => k ≠ b ∧ ¬ X k) w Q cq q) (hg : GrdIn (s, v, q, a)) :
    Calls Tryz.prog 125 #[.pointer (some ⟨b, 0, none⟩), .agg #[.string s, .int .i64 v, .slice Q q.length cq, .bool a]] w fun r w' => r = .returned (.int .i64 (addE gs (s, v, q, a))) ∧ Ss w' 98 b at_ (keepL gs (s, v, q, a)) vs X ∧ But (fun k => k = b) w w' := by
  obtain ⟨W1, hW1⟩ : ∃ W1, W1 = w.alloc (.cells #[.string s, .int .i64 v, .slice Q q.length cq, .bool a] 52) := ⟨_, rfl⟩
  have HW1 := Lib.hid hW1
  have hb1 : Below w.heap.size w W1 := by rw [hW1]; exact (Below.refl _ _).alloc (Nat.le_refl _) _
  have hx : Bx W1 w.heap.size 52 [.string s, .int .i64 v, .slice Q q.length cq, .bool a] := by rw [hW1]; exact Bx.new w _ _
  have h1 := h.below hb1
  obtain ⟨G, cg, E, ce, hbx, hG, hE, hn⟩ := h1.bx
  have HB1 := Lib.hid hb1
  have H := Lib.hid h
  have HK := Lib.hid (fun W (hb : Below W1.heap.size W1 W) => show Below W1.heap.size W1 W ∧ W.cell? ⟨b, 1, none⟩ = some (.slice G gs.length cg) ∧ W.cell? ⟨w.heap.size, 0, none⟩ = some (.string s) ∧ W.cell? ⟨w.heap.size, 1, none⟩ = some (.int .i64 v) ∧ W.cell? ⟨w.heap.size, 2, none⟩ = some (.slice Q q.length cq) ∧ W.cell? ⟨w.heap.size, 3, none⟩ = some (.bool a) from
    ⟨hb, (hbx.under hb).cell 1, (hx.under hb).cell 0, (hx.under hb).cell 1, (hx.under hb).cell 2, (hx.under hb).cell 3⟩)
  obtain ⟨e, he⟩ : ∃ e, addE gs (s, v, q, a) = e := ⟨_, rfl⟩
  obtain ⟨L, hL⟩ : ∃ L, addL gs (s, v, q, a) = L := ⟨_, rfl⟩
  have CA := Lib.hid (fun W (R : Prop) (hW : Below W1.heap.size W1 W ∧ R) => show Calls Tryz.prog 150 #[.slice G gs.length cg, .agg #[.string s, .int .i64 v, .slice Q q.length cq, .bool a]] W fun r w' => (∃ (A' : Option Addr) (c' : Nat), r = .returned (.tuple #[.slice A' L.length c', .int .i64 e]) ∧ Sl kGuard (fun k => (k ≠ b ∧ ¬ X k) ∨ w.heap.size ≤ k) w' A' c' L) ∧ Below W.heap.size W w' from by
    have := refAddG_any (hG.below hW.1) (by have := h.gl; omega) ((hq.below hb1).below hW.1) (fun c hc => (hg.2 c hc).1) (s := s) (v := v) (a := a)
    rw [hL, he] at this
    exact this.mono (fun r w' ⟨A', c', e, h1, h2⟩ => ⟨⟨A', c', e, h1.mono (fun k hk => hk.imp id (fun hk => by have := hb1.size; have := hW.1.size; omega))⟩, h2⟩))
  have HKP : Hid ((e = 0 → L = keepL gs (s, v, q, a) ∧ (∀ g ∈ L, GrdIn g ∧ mayG g = 0) ∧ L.length ≤ 16) ∧ (e ≠ 0 → keepL gs (s, v, q, a) = gs)) := Lib.hid (by
    constructor
    · intro h0
      have hk := keepL_ok (he.trans h0)
      rw [hL] at hk
      refine ⟨hk.symm, ?_, ?_⟩
      · intro g hg'
        rw [← hk] at hg'
        rcases keepL_mem g hg' with h2 | ⟨rfl, h2⟩
        · exact h.gin g h2
        · exact ⟨hg, h2⟩
      · rw [← hk]; exact keepL_len h.gl
    · intro h0
      exact keepL_no (by rw [he]; exact h0))
  rw [he]
  have hf1 := hbx.free 1
  have HF := Lib.hid (fun W (hb : Below W1.heap.size W1 W) => (hbx.under hb).free 1)
  clear h h1 hq hg hb1 hx hbx hG hE hn he hL hf1
  go_enter Tryz.func125, Tryz.ntmps125
  go_upto_region 1 with fail
  rw [← HW1.out]
  clear hW1 HW1
  go_cut [5, 6] (fun l f wx => f = .int .i64 e ∧ Below w.heap.size w wx ∧ Below W1.heap.size W1 wx ∧ ∃ (A' : Option Addr) (c' : Nat), l = .slice A' L.length c' ∧ Sl kGuard (fun k => (k ≠ b ∧ ¬ X k) ∨ w.heap.size ≤ k) wx A' c' L)
  case first =>
    go_region_held3 (fun W => Below W1.heap.size W1 W ∧ W.cell? ⟨b, 1, none⟩ = some (.slice G gs.length cg) ∧ W.cell? ⟨w.heap.size, 0, none⟩ = some (.string s) ∧ W.cell? ⟨w.heap.size, 1, none⟩ = some (.int .i64 v) ∧ W.cell? ⟨w.heap.size, 2, none⟩ = some (.slice Q q.length cq) ∧ W.cell? ⟨w.heap.size, 3, none⟩ = some (.bool a))
      (first | exact HK.out _ (below_drawn (Below.refl _ _)) | (assumption) | exact HK.out _ HB2.out)
      (first | (go_at_call 150; go_fit (CA.out _ _ (by assumption)); rintro r w2 ⟨⟨A2, c2, rfl, hs2⟩, hb2⟩; have HS2 := Lib.hid hs2; have HB2 := Lib.hid (bthen (below_drawn (Below.refl _ _)) hb2); clear hs2 hb2))
    all_goals go_wp2_with fail
    all_goals go_meet
    all_goals exact ⟨rfl, bthen HB1.out HB2.out, HB2.out, A2, c2, rfl, HS2.out⟩
  case rest =>
    obtain ⟨rfl, hbc, hbd, A', c', rfl, hs⟩ := hcut
    have HBC := Lib.hid hbc
    have HS := Lib.hid hs
    have f1 := HF.out _ hbd
    have k1 := (HK.out _ hbd).2.1
    clear hbc hs hbd CA HK HF
    by_cases h0 : e = 0
    · subst h0
      obtain ⟨h1, h2, h3⟩ := HKP.out.1 rfl
      obtain ⟨h4, h5⟩ := H.out.putG HBC.out HS.out h2 h3
      have H1 := Lib.hid h1
      have H4 := Lib.hid h4
      have H5 := Lib.hid h5
      clear h1 h2 h3 h4 h5 HKP
      go_wp2_with fail
      go_ret
      exact ⟨rfl, by rw [← H1.out]; exact H4.out, H5.out⟩
    · have H1 := Lib.hid (HKP.out.2 h0)
      have d0 : (e == 0) = false := by simp [h0]
      clear HKP h0
      go_wp2_with fail
      go_ret
      exact ⟨rfl, by rw [H1.out]; exact H.out.below HBC.out, But.of_below HBC.out⟩
end
end Go.Proofs.YtfoghahidofegaaGreat

namespace Go.Proofs.YtfoghahidofegaaGreat
open Go.RowKit Go.Maps

/-- Records that the reference tells: they hang on what it has, or are new. -/
def RetRefF (y : Nat) (X : Nat → Prop) (rs : List Rec) (w : World) (r : Ending) (w' : World) : Prop := ∃ A' c', r = .returned (.slice A' rs.length c') ∧ Sl kRec (fun k => (k ≠ y ∧ ¬ X k) ∨ w.heap.size ≤ k) w' A' c' rs ∧ Below w.heap.size w w'
section
variable {w : World} {y : Nat} {A : Option Addr} {c : Nat} {rs : List Rec} {X : Nat → Prop}
set_option maxHeartbeats 4000000 in
set_option maxRecDepth 100000 in
theorem ref14StreamF_any (h : Rx w y A c rs X) (hl : rs.length ≤ 100000) (s : ByteArray) (x : Int) :
    Calls Tryz.prog 43 #[.pointer (some ⟨y, 0, none⟩), .string s, .int .i64 x] w (RetRefF y X (rs.filter (fun r => decide (r.ev.stream = s) && decide (r.pos ≤ x))) w) := by
  have hc1 := h.sl.1
  have hc2 := h.sl.2.1
  unfold maxLen at hc2
  have H := Lib.hid h
  obtain ⟨f, hf⟩ : ∃ f : Rec → Bool, f = fun r => decide (r.ev.stream = s) && decide (r.pos ≤ x) := ⟨_, rfl⟩
  rw [← hf]
  have HF := Lib.hid hf
  have hyl := h.bx.lt
  have HO := Lib.hid (Own.lit0 kRec 101 w.heap.size (fun j => (j ≠ y ∧ ¬ X j) ∧ j < w.heap.size) w (Nat.le_refl _))
  clear h hf
  go_enter Tryz.func43, Tryz.ntmps43
  go_wp2_with fail
  go_loopw [7, 8] (fun v i wr => ∃ k : Nat, k ≤ rs.length ∧ i = .int .i64 k ∧ Own kRec 101 w.heap.size (fun j => (j ≠ y ∧ ¬ X j) ∧ j < w.heap.size) wr v ((rs.take k).filter f) ∧ Below w.heap.size w wr) (fun _ i _ => rs.length - (intOf i).toNat)
  case atStart => exact ⟨0, Nat.zero_le _, rfl, HO.out, (Below.refl _ _).alloc (Nat.le_refl _) _⟩
  case round =>
    clear HO
    obtain ⟨k, hk, rfl, ho, hb⟩ := hrel
    have x0 := (H.out.bx.under hb).cell 0
    simp only [List.getElem?_cons_zero] at x0
    by_cases hlt : k < rs.length
    · obtain ⟨ad, S, sa, T, ta, rfl, c0, c1, c2, c3, c4, c5, hS, hT⟩ := row_rec_at ((H.out.sl.bound).below hb).2.2 hlt
      have HY := Lib.hid (fun hy => filter_take_yes (f := f) hlt hy)
      have HN := Lib.hid (fun hy => filter_take_no (f := f) hlt hy)
      have hfl : ((rs.take k).filter f).length ≤ k := by have := List.length_filter_le f (rs.take k); rw [List.length_take] at this; omega
      generalize rs[k] = r at c0 c1 c2 c3 c4 c5 hS hT HY HN
      have HS := Lib.hid hS
      have HT := Lib.hid hT
      have HOW := Lib.hid ho
      have HB := Lib.hid hb
      have e1 : (0 : Int) ≤ (k : Int) := Int.natCast_nonneg _
      have e2 : (k : Int) < (rs.length : Int) := by omega
      have hbs := hb.size
      have hq := strEqL r.ev.stream s
      have hfr : f r = (decide (r.ev.stream = s) && decide (r.pos ≤ x)) := by rw [HF.out]
      have HFR := Lib.hid hfr
      clear hS hT ho hb hfr
      by_cases h1 : r.ev.stream = s
      · rw [decide_eq_true h1] at hq
        by_cases h2 : r.pos ≤ x
        · have HTK := Lib.hid (HY.out (by rw [HFR.out, decide_eq_true h1, decide_eq_true h2]; rfl))
          clear h1
          go_wp2_with (at_builtin; refine wpList_pushH (W := wr) rfl _ _ _ rfl 101 _ 6 96 Tryz.underlying32 infoRec rfl (by decide) (by decide) rfl w.heap.size (fun j => (j ≠ y ∧ ¬ X j) ∧ j < w.heap.size) u7 _ rfl HOW.out r [.int .i64 r.pos, .int .i64 r.ver, .string r.ev.stream, .string r.ev.type, .slice S r.ev.tags.length sa, .slice T r.ev.fields.length ta] (kRec_mk (HS.out.mono (fun i hi => ⟨hi, own_far HOW.out i hi.2⟩)) (HT.out.mono (fun i hi => ⟨hi, own_far HOW.out i hi.2⟩))) wr.heap.size rfl rfl hbs (by omega) ?_; intro v1 w5 hown1 hg1 hat1 hbel1; have HO5 := Lib.hid hown1; have HB5 := Lib.hid (hbel1 w HB.out); clear hown1 hg1 hat1 hbel1)
          go_roundw
          case rel => exact ⟨k + 1, by omega, by go_num, by rw [HTK.out]; exact HO5.out, HB5.out⟩
          case measure => simp [intOf]; omega
        · have HTK := Lib.hid (HN.out (by rw [HFR.out, decide_eq_true h1, decide_eq_false h2]; rfl))
          clear h1
          go_wp2_with fail
          go_roundw
          case rel => exact ⟨k + 1, by omega, by go_num, by rw [HTK.out]; exact HOW.out, HB.out⟩
          case measure => simp [intOf]; omega
      · rw [decide_eq_false h1] at hq
        have HTK := Lib.hid (HN.out (by rw [HFR.out, decide_eq_false h1]; rfl))
        clear h1
        go_wp2_with fail
        go_roundw
        case rel => exact ⟨k + 1, by omega, by go_num, by rw [HTK.out]; exact HOW.out, HB.out⟩
        case measure => simp [intOf]; omega
    · obtain rfl : k = rs.length := by omega
      rw [List.take_length] at ho
      obtain ⟨A1, c1, rfl, hs⟩ := ho.sl
      have HS := Lib.hid (hs.mono (ok' := fun k => (k ≠ y ∧ ¬ X k) ∨ w.heap.size ≤ k) (fun k hk => hk.imp (fun h => h.1) id))
      have HB := Lib.hid hb
      clear ho hs hb
      go_wp2_with fail
      go_ret
      exact ⟨A1, c1, rfl, HS.out, HB.out⟩
set_option maxHeartbeats 4000000 in
set_option maxRecDepth 100000 in
theorem ref14QueryF_any (h : Rx w y A c rs X) (hl : rs.length ≤ 100000) {q : List Clause} {Q : Option Addr} {cq : Nat} (hq : SlC w Q cq q) (x : Int) :
    Calls Tryz.prog 44 #[.pointer (some ⟨y, 0, none⟩), .agg #[.slice Q q.length cq], .int .i64 x] w (RetRefF y X (rs.filter (fun r => matchM q r.ev && decide (r.pos ≤ x))) w) := by
  have hc1 := h.sl.1
  have hc2 := h.sl.2.1
  unfold maxLen at hc2
  obtain ⟨W1, hW1⟩ : ∃ W1, W1 = w.alloc (.cells #[.slice Q q.length cq] 25) := ⟨_, rfl⟩
  have HW1 := Lib.hid hW1
  have hb1 : Below w.heap.size w W1 := by rw [hW1]; exact (Below.refl _ _).alloc (Nat.le_refl _) _
  have hxq : Bx W1 w.heap.size 25 [.slice Q q.length cq] := by rw [hW1]; exact Bx.new w _ _
  have HB1 := Lib.hid hb1
  have HXQ := Lib.hid hxq
  have HQ := Lib.hid (hq.below hb1)
  have H := Lib.hid (h.below hb1)
  obtain ⟨f, hf⟩ : ∃ f : Rec → Bool, f = fun r => matchM q r.ev && decide (r.pos ≤ x) := ⟨_, rfl⟩
  rw [← hf]
  have HF := Lib.hid hf
  have hyl := (h.below hb1).bx.lt
  have HO := Lib.hid (Own.lit0 kRec 101 W1.heap.size (fun j => (j ≠ y ∧ ¬ X j) ∧ j < W1.heap.size) W1 (Nat.le_refl _))
  clear h hf hq hb1 hxq
  go_enter Tryz.func44, Tryz.ntmps44
  go_upto_region 1 with fail
  rw [← HW1.out]
  clear hW1 HW1
  go_wp2_with fail
  go_loopw [7, 8] (fun v i wr => ∃ k : Nat, k ≤ rs.length ∧ i = .int .i64 k ∧ Own kRec 101 W1.heap.size (fun j => (j ≠ y ∧ ¬ X j) ∧ j < W1.heap.size) wr v ((rs.take k).filter f) ∧ Below W1.heap.size W1 wr) (fun _ i _ => rs.length - (intOf i).toNat)
  case atStart => exact ⟨0, Nat.zero_le _, rfl, HO.out, (Below.refl _ _).alloc (Nat.le_refl _) _⟩
  case round =>
    clear HO
    obtain ⟨k, hk, rfl, ho, hb⟩ := hrel
    have x0 := (H.out.bx.under hb).cell 0
    simp only [List.getElem?_cons_zero] at x0
    by_cases hlt : k < rs.length
    · obtain ⟨ad, S, sa, T, ta, rfl, c0, c1, c2, c3, c4, c5, hS, hT⟩ := row_rec_at ((H.out.sl.bound).below hb).2.2 hlt
      have HY := Lib.hid (fun hy => filter_take_yes (f := f) hlt hy)
      have HN := Lib.hid (fun hy => filter_take_no (f := f) hlt hy)
      have hfl : ((rs.take k).filter f).length ≤ k := by have := List.length_filter_le f (rs.take k); rw [List.length_take] at this; omega
      generalize rs[k] = r at c0 c1 c2 c3 c4 c5 hS hT HY HN
      have HS := Lib.hid hS
      have HT := Lib.hid hT
      have HOW := Lib.hid ho
      have HB := Lib.hid hb
      have e1 : (0 : Int) ≤ (k : Int) := Int.natCast_nonneg _
      have e2 : (k : Int) < (rs.length : Int) := by omega
      have hbs := hb.size
      obtain ⟨m, hm⟩ : ∃ m, matchM q r.ev = m := ⟨_, rfl⟩
      have hfr : f r = (m && decide (r.pos ≤ x)) := by rw [HF.out, ← hm]
      have HFR := Lib.hid hfr
      have HCF := Lib.hid (fun W (hw : Below wr.heap.size wr W) => show W.cell? (ad.add (k * 6)) = some (.int .i64 r.pos) ∧ W.cell? ⟨(ad.add (k * 6)).block, (ad.add (k * 6)).off + 1, none⟩ = some (.int .i64 r.ver) ∧ W.cell? ⟨w.heap.size, 0, none⟩ = some (.slice Q q.length cq) ∧ W.cell? ⟨y, 0, none⟩ = some (.slice (some ad) rs.length c) ∧ W.cell? ⟨(ad.add (k * 6)).block, (ad.add (k * 6)).off + 2, none⟩ = some (.string r.ev.stream) ∧ W.cell? ⟨(ad.add (k * 6)).block, (ad.add (k * 6)).off + 2 + 1, none⟩ = some (.string r.ev.type) ∧ W.cell? ⟨(ad.add (k * 6)).block, (ad.add (k * 6)).off + 2 + 2, none⟩ = some (.slice S r.ev.tags.length sa) ∧ W.cell? ⟨(ad.add (k * 6)).block, (ad.add (k * 6)).off + 2 + 3, none⟩ = some (.slice T r.ev.fields.length ta) from
        ⟨(hw.cell (World.block_lt_of_cell? wr _ c0)).trans c0, (hw.cell (World.block_lt_of_cell? wr _ c1)).trans c1, ((HXQ.out.under hb).under hw).cell 0, ((H.out.bx.under hb).under hw).cell 0, (hw.cell (World.block_lt_of_cell? wr _ c2)).trans c2, (hw.cell (World.block_lt_of_cell? wr _ c3)).trans c3, (hw.cell (World.block_lt_of_cell? wr _ c4)).trans c4, (hw.cell (World.block_lt_of_cell? wr _ c5)).trans c5⟩)
      have DM := Lib.hid (fun W (R : Prop) (hW : Below wr.heap.size wr W ∧ R) => show Calls Tryz.prog 86 #[.agg #[.slice Q q.length cq], .agg #[.string r.ev.stream, .string r.ev.type, .slice S r.ev.tags.length sa, .slice T r.ev.fields.length ta]] W fun r w' => r = .returned (.bool m) ∧ Below W.heap.size W w' from by
        have := Match06_any (e := r.ev) (F := T) (cf := ta) (HQ.out.below (bthen HB.out hW.1)) (HS.out.below hW.1).any
        rw [hm] at this
        exact this)
      clear hS hT ho hb hfr hm c0 c1 c2 c3 c4 c5
      go_upto_region 5 with fail
      go_cut [9] (fun v wx => v = .bool m ∧ Below wr.heap.size wr wx)
      case first =>
        have HK := Lib.hid (fun W (hw : Below wr.heap.size wr W) => show Below wr.heap.size wr W ∧ W.cell? ⟨w.heap.size, 0, none⟩ = some (.slice Q q.length cq) ∧ W.cell? ⟨y, 0, none⟩ = some (.slice (some ad) rs.length c) ∧ W.cell? ⟨(ad.add (k * 6)).block, (ad.add (k * 6)).off + 2, none⟩ = some (.string r.ev.stream) ∧ W.cell? ⟨(ad.add (k * 6)).block, (ad.add (k * 6)).off + 2 + 1, none⟩ = some (.string r.ev.type) ∧ W.cell? ⟨(ad.add (k * 6)).block, (ad.add (k * 6)).off + 2 + 2, none⟩ = some (.slice S r.ev.tags.length sa) ∧ W.cell? ⟨(ad.add (k * 6)).block, (ad.add (k * 6)).off + 2 + 3, none⟩ = some (.slice T r.ev.fields.length ta) from ⟨hw, (HCF.out W hw).2.2⟩)
        go_region_held3 (fun W => Below wr.heap.size wr W ∧ W.cell? ⟨w.heap.size, 0, none⟩ = some (.slice Q q.length cq) ∧ W.cell? ⟨y, 0, none⟩ = some (.slice (some ad) rs.length c) ∧ W.cell? ⟨(ad.add (k * 6)).block, (ad.add (k * 6)).off + 2, none⟩ = some (.string r.ev.stream) ∧ W.cell? ⟨(ad.add (k * 6)).block, (ad.add (k * 6)).off + 2 + 1, none⟩ = some (.string r.ev.type) ∧ W.cell? ⟨(ad.add (k * 6)).block, (ad.add (k * 6)).off + 2 + 2, none⟩ = some (.slice S r.ev.tags.length sa) ∧ W.cell? ⟨(ad.add (k * 6)).block, (ad.add (k * 6)).off + 2 + 3, none⟩ = some (.slice T r.ev.fields.length ta)) (first | exact HK.out _ (below_drawn (Below.refl _ _)) | exact HK.out _ HB5.out | (assumption))
          (first | (go_at_call 86; go_fit (DM.out _ _ (by assumption)); rintro r w5 ⟨rfl, hb5⟩; have HB5 := Lib.hid (bthen (below_drawn (Below.refl _ _)) hb5); clear hb5))
        all_goals go_wp2_with fail
        all_goals go_meet
        all_goals exact ⟨rfl, HB5.out⟩
      case rest =>
        obtain ⟨rfl, hbc⟩ := hcut
        have HBC := Lib.hid hbc
        obtain ⟨c0, c1, _, y0, c2, c3, c4, c5⟩ := HCF.out _ hbc
        have HOC := Lib.hid (HOW.out.below hbc)
        have hcs := hbc.size
        have hws : W1.heap.size ≤ wc.heap.size := by omega
        clear hbc x0
        cases m with
        | true =>
          by_cases h2 : r.pos ≤ x
          · have HTK := Lib.hid (HY.out (by rw [HFR.out, decide_eq_true h2]; rfl))
            go_wp2_with (at_builtin; refine wpList_pushH (W := wc) rfl _ _ _ rfl 101 _ 6 96 Tryz.underlying32 infoRec rfl (by decide) (by decide) rfl W1.heap.size (fun j => (j ≠ y ∧ ¬ X j) ∧ j < W1.heap.size) u7 _ rfl HOC.out r [.int .i64 r.pos, .int .i64 r.ver, .string r.ev.stream, .string r.ev.type, .slice S r.ev.tags.length sa, .slice T r.ev.fields.length ta] (kRec_mk ((HS.out.below HBC.out).mono (fun i hi => ⟨hi, own_far HOC.out i hi.2⟩)) ((HT.out.below HBC.out).mono (fun i hi => ⟨hi, own_far HOC.out i hi.2⟩))) wc.heap.size rfl rfl hws (by omega) ?_; intro v1 w6 hown1 hg1 hat1 hbel1; have HO5 := Lib.hid hown1; have HB5 := Lib.hid (hbel1 W1 (bthen HB.out HBC.out)); clear hown1 hg1 hat1 hbel1)
            go_roundw
            case rel => exact ⟨k + 1, by omega, by go_num, by rw [HTK.out]; exact HO5.out, HB5.out⟩
            case measure => simp [intOf]; omega
          · have HTK := Lib.hid (HN.out (by rw [HFR.out, decide_eq_false h2]; rfl))
            go_wp2_with fail
            go_roundw
            case rel => exact ⟨k + 1, by omega, by go_num, by rw [HTK.out]; exact HOC.out, bthen HB.out HBC.out⟩
            case measure => simp [intOf]; omega
        | false =>
          have HTK := Lib.hid (HN.out (by rw [HFR.out]; rfl))
          go_wp2_with fail
          go_roundw
          case rel => exact ⟨k + 1, by omega, by go_num, by rw [HTK.out]; exact HOC.out, bthen HB.out HBC.out⟩
          case measure => simp [intOf]; omega
    · obtain rfl : k = rs.length := by omega
      rw [List.take_length] at ho
      obtain ⟨A1, c1, rfl, hs⟩ := ho.sl
      have hs1 := HB1.out.size
      have HS := Lib.hid (hs.mono (ok' := fun k => (k ≠ y ∧ ¬ X k) ∨ w.heap.size ≤ k) (fun k hk => hk.imp (fun h => h.1) (fun h => by omega)))
      have HB := Lib.hid hb
      clear ho hs hb
      go_wp2_with fail
      go_ret
      exact ⟨A1, c1, rfl, HS.out, bthen HB1.out HB.out⟩
end
end Go.Proofs.YtfoghahidofegaaGreat

namespace Go.Proofs.YtfoghahidofegaaGreat
open Go.RowKit Go.Maps

section
variable {w : World} {b at_ : Nat} {gs : List Grd} {vs : List Event} {X Z : Nat → Prop} {y : Nat} {A0 : Option Addr} {c0 : Nat} {es : List Event}
set_option maxHeartbeats 4000000 in
set_option maxRecDepth 8000 in
theorem refRead19 (h : Ss w 98 b at_ gs vs X) (hi : Rx w y A0 c0 (recsOf es) Z) (hln : es.length ≤ 100000) (hZ : Z b) {s : ByteArray} (hs : s.size ≤ maxLen) :
    Calls Tryz.prog 89 #[.pointer (some ⟨b, 0, none⟩), .pointer (some ⟨y, 0, none⟩), .string s] w fun r w' => ∃ (A : Option Addr) (c : Nat), r = .returned (.tuple #[.slice A (rdR es at_ gs s).length c, .int .i64 (addE gs (gRead es at_ s))]) ∧
      SlR w' A c (rdR es at_ gs s) ∧ Ss w' 98 b at_ (keepL gs (gRead es at_ s)) vs X ∧ But (fun k => k = b) w w' := by
  obtain ⟨G, cg, E, ce, hbx, _⟩ := h.bx
  have x0 := hbx.cell 0
  simp only [List.getElem?_cons_zero] at x0
  have hlt := h.lt
  obtain ⟨n, hn⟩ : ∃ n, verR es s at_ = n := ⟨_, rfl⟩
  obtain ⟨e, he⟩ : ∃ e, addE gs (gRead es at_ s) = e := ⟨_, rfl⟩
  have hgr : (s, (n : Int), ([] : List Clause), false) = gRead es at_ s := by unfold gRead; rw [hn]
  have CS := Lib.hid (show Calls Tryz.prog 43 #[.pointer (some ⟨y, 0, none⟩), .string s, .int .i64 at_] w fun r w' => ∃ P p, r = .returned (.slice P n p) ∧ Sl kRec (fun k => k ≠ b) w' P p (strmR es s at_) ∧ Below w.heap.size w w' from
    (ref14StreamF_any hi (by rw [recsOf_len]; exact hln) s at_).mono (fun r w' ⟨P, p, e1, h1, h2⟩ => ⟨P, p, by rw [← hn]; exact e1, h1.mono (fun k hk e2 => by subst e2; rcases hk with hk | hk; exact hk.2 hZ; omega), h2⟩))
  have CK := Lib.hid (fun W (hb : Below w.heap.size w W) => show Calls Tryz.prog 125 #[.pointer (some ⟨b, 0, none⟩), .agg #[.string s, .int .i64 n, .slice none 0 0, .bool false]] W fun r w' => r = .returned (.int .i64 e) ∧ Ss w' 98 b at_ (keepL gs (gRead es at_ s)) vs X ∧ But (fun k => k = b) W w' from by
    have := refKeep (h.below hb) (s := s) (v := (n : Int)) (q := []) (a := false) (Q := none) (cq := 0) Sl.nil_ ⟨hs, by simp⟩
    rw [hgr, he] at this
    exact this)
  have HR := Lib.hid (show (e ≠ 0 → rdR es at_ gs s = []) ∧ (e = 0 → rdR es at_ gs s = strmR es s at_) from by
    unfold rdR
    rw [he]
    exact ⟨fun h => if_pos h, fun h => if_neg (by simp [h])⟩)
  have HN := Lib.hid (show (strmR es s at_).length = n from hn)
  rw [he]
  clear h hi hbx hn he hgr hs
  by_cases h0 : e = 0
  · subst h0
    have hr := HR.out.2 rfl
    rw [hr]
    clear hr HR
    go_enter Tryz.func89, Tryz.ntmps89
    go_wp2_with (first
      | (go_at_call 43; go_fit CS.out; rintro r w2 ⟨P, p, rfl, h2, hb2⟩; have H2 := Lib.hid h2; have HB2 := Lib.hid hb2; clear h2 hb2)
      | (go_at_call 125; go_fit (CK.out _ HB2.out); rintro r w3 ⟨rfl, h3, hb3⟩; have H3 := Lib.hid h3; have HB3 := Lib.hid hb3; clear h3 hb3))
    go_ret2
    exact ⟨P, p, by rw [HN.out]; rfl, (H2.out.stay HB3.out.size (fun j hj hl => HB3.out.block j hl hj)).any, H3.out, (But.of_below HB2.out).trans HB3.out⟩
  · have hr := HR.out.1 h0
    rw [hr]
    have d0 : (e == 0) = false := by simp [h0]
    have d1 : (e != 0) = true := by simp [h0]
    clear hr HR h0
    go_enter Tryz.func89, Tryz.ntmps89
    go_wp2_with (first
      | (go_at_call 43; go_fit CS.out; rintro r w2 ⟨P, p, rfl, h2, hb2⟩; have H2 := Lib.hid h2; have HB2 := Lib.hid hb2; clear h2 hb2)
      | (go_at_call 125; go_fit (CK.out _ HB2.out); rintro r w3 ⟨rfl, h3, hb3⟩; have H3 := Lib.hid h3; have HB3 := Lib.hid hb3; clear h3 hb3))
    go_ret2
    exact ⟨none, 0, rfl, Sl.nil_, H3.out, (But.of_below HB2.out).trans HB3.out⟩

set_option maxHeartbeats 4000000 in
set_option maxRecDepth 8000 in
theorem refQuery19 (h : Ss w 98 b at_ gs vs X) (hi : Rx w y A0 c0 (recsOf es) Z) (hln : es.length ≤ 100000) (hZ : Z b) {q : List Clause} {Q : Option Addr} {cq : Nat} (hq : Sl kClause (fun k => k ≠ b ∧ ¬ X k) w Q cq q) (hg : ∀ c ∈ q, goodClause c) :
    Calls Tryz.prog 90 #[.pointer (some ⟨b, 0, none⟩), .pointer (some ⟨y, 0, none⟩), .agg #[.slice Q q.length cq]] w fun r w' => ∃ (A : Option Addr) (c : Nat), r = .returned (.tuple #[.slice A (akR es at_ gs q).length c, .int .i64 (addE gs (gAsk at_ q))]) ∧
      SlR w' A c (akR es at_ gs q) ∧ Ss w' 98 b at_ (keepL gs (gAsk at_ q)) vs X ∧ But (fun k => k = b) w w' := by
  obtain ⟨W1, hW1⟩ : ∃ W1, W1 = w.alloc (.cells #[.slice Q q.length cq] 25) := ⟨_, rfl⟩
  have HW1 := Lib.hid hW1
  have hb1 : Below w.heap.size w W1 := by rw [hW1]; exact (Below.refl _ _).alloc (Nat.le_refl _) _
  have hxq : Bx W1 w.heap.size 25 [.slice Q q.length cq] := by rw [hW1]; exact Bx.new w _ _
  have h1 := h.below hb1
  have hlt := h.lt
  obtain ⟨G, cg, E, ce, hbx, _⟩ := h1.bx
  obtain ⟨e, he⟩ : ∃ e, addE gs (gAsk at_ q) = e := ⟨_, rfl⟩
  have CK := Lib.hid (refKeep (h1.below (below_drawn (Below.refl _ _))) (s := ⟨#[]⟩) (v := (at_ : Int)) (q := q) (a := true) ((hq.below hb1).below (below_drawn (Below.refl _ _))) ⟨(by decide : (⟨#[]⟩ : ByteArray).size ≤ maxLen), hg⟩)
  have hgr : ((⟨#[]⟩ : ByteArray), (at_ : Int), q, true) = gAsk at_ q := rfl
  rw [hgr, he] at CK
  have HB1 := Lib.hid hb1
  have HK1 := Lib.hid (show W1.drew.cell? ⟨b, 0, none⟩ = some (.int .i64 at_) ∧ W1.drew.cell? ⟨w.heap.size, 0, none⟩ = some (.slice Q q.length cq) from ⟨(hbx.under (below_drawn (Below.refl _ _))).cell 0, (hxq.under (below_drawn (Below.refl _ _))).cell 0⟩)
  have HKB := Lib.hid (fun W (hs : Ss W 98 b at_ (keepL gs (gAsk at_ q)) vs X) (hb : But (fun k => k = b) W1 W) W' (hW' : Below W.heap.size W W') => show Below W.heap.size W W' ∧ W'.cell? ⟨b, 0, none⟩ = some (.int .i64 at_) ∧ W'.cell? ⟨w.heap.size, 0, none⟩ = some (.slice Q q.length cq) from by
    obtain ⟨_, _, _, _, h2, _⟩ := (hs.below hW').bx
    exact ⟨hW', h2.cell 0, ((hxq.stay (w' := W) (fun hk => hb.block _ hk (by omega))).under hW').cell 0⟩)
  have CQ := Lib.hid (fun W (hb : But (fun k => k = b) W1 W) W' (R : Prop) (hW' : Below W.heap.size W W' ∧ R) => show Calls Tryz.prog 44 #[.pointer (some ⟨y, 0, none⟩), .agg #[.slice Q q.length cq], .int .i64 at_] W' fun r w' => (∃ A c, r = .returned (.slice A (qryR es q at_).length c) ∧ SlR w' A c (qryR es q at_)) ∧ Below W'.heap.size W' w' from by
    have hi' := ((hi.below hb1).far (hb.mono (fun k hk => by rw [hk]; exact hZ))).below hW'.1
    have hq' : SlC W' Q cq q := ((((hq.below hb1).mono (fun k hk => hk.1)).stay hb.size (fun k hk hl => hb.block k hl hk)).below hW'.1).any
    exact (ref14Query_any hi' (by rw [recsOf_len]; exact hln) hq' at_).mono (fun r w' ⟨A, c, e, h1, h2⟩ => ⟨⟨A, c, e, h1⟩, h2⟩))
  have HR := Lib.hid (show (e ≠ 0 → akR es at_ gs q = []) ∧ (e = 0 → akR es at_ gs q = qryR es q at_) from by
    unfold akR
    rw [he]
    exact ⟨fun h => if_pos h, fun h => if_neg (by simp [h])⟩)
  rw [he]
  clear h hi hq hg hb1 hxq h1 hbx he hgr
  obtain ⟨R, hR⟩ : ∃ R, akR es at_ gs q = R := ⟨_, rfl⟩
  rw [hR] at HR ⊢
  clear hR
  go_enter Tryz.func90, Tryz.ntmps90
  go_upto_region 1 with fail
  rw [← HW1.out]
  clear hW1 HW1
  go_cut [8] (fun f wx => f = .int .i64 e ∧ Ss wx 98 b at_ (keepL gs (gAsk at_ q)) vs X ∧ But (fun k => k = b) W1 wx)
  case first =>
    go_region_held3 (fun W => W.cell? ⟨b, 0, none⟩ = some (.int .i64 at_) ∧ W.cell? ⟨w.heap.size, 0, none⟩ = some (.slice Q q.length cq))
      (first | exact HK1.out | exact HS2.out | (assumption))
      (first | (go_at_call 125; go_fit CK.out; rintro r w2 ⟨rfl, h2, hb2⟩; have H2 := Lib.hid h2; have HB2 := Lib.hid (show But (fun k => k = b) W1 w2 from (But.of_below (below_drawn (Below.refl _ _))).trans hb2); have HS2 := Lib.hid (HKB.out w2 h2 HB2.out w2 (Below.refl _ _)).2; clear h2 hb2))
    all_goals go_wp2_with fail
    all_goals go_meet
    all_goals exact ⟨rfl, H2.out, HB2.out⟩
  case rest =>
    obtain ⟨rfl, hs, hb⟩ := hcut
    have HS := Lib.hid hs
    have HB := Lib.hid hb
    clear hs hb HK1 CK
    by_cases h0 : e = 0
    · subst h0
      have HRQ := Lib.hid (HR.out.2 rfl)
      clear HR
      obtain ⟨v2, hv2⟩ : ∃ v2, v2 = wc := ⟨_, rfl⟩
      subst hv2
      go_upto_region 4 with fail
      go_region_held3 (fun W => Below v2.heap.size v2 W ∧ W.cell? ⟨b, 0, none⟩ = some (.int .i64 at_) ∧ W.cell? ⟨w.heap.size, 0, none⟩ = some (.slice Q q.length cq))
        (first | exact HKB.out _ HS.out HB.out _ (below_drawn (Below.refl _ _)) | (assumption) | exact HKB.out _ HS.out HB.out _ HB5.out)
        (first | (go_at_call 44; go_fit (CQ.out _ HB.out _ _ (by assumption)); rintro r w5 ⟨⟨A5, c5, rfl, h5⟩, hb5⟩; have H5 := Lib.hid h5; have HB5 := Lib.hid (bthen (below_drawn (Below.refl _ _)) hb5); clear h5 hb5))
      all_goals go_wp2_with fail
      all_goals go_ret2
      all_goals exact ⟨A5, c5, by rw [HRQ.out]; rfl, by rw [HRQ.out]; exact H5.out, HS.out.below HB5.out, (But.of_below HB1.out).trans (HB.out.trans (But.of_below HB5.out))⟩
    · have HRQ := Lib.hid (HR.out.1 h0)
      clear HR
      have d0 : (e == 0) = false := by simp [h0]
      clear h0
      go_wp2_with fail
      go_ret2
      exact ⟨none, 0, by rw [HRQ.out]; rfl, by rw [HRQ.out]; exact Sl.nil_, HS.out, (But.of_below HB1.out).trans HB.out⟩
end
end Go.Proofs.YtfoghahidofegaaGreat

namespace Go.Proofs.YtfoghahidofegaaGreat
open Go.RowKit Go.Maps

section
variable {w : World} {b at_ : Nat} {gs : List Grd} {vs : List Event} {X Z : Nat → Prop} {y : Nat} {A0 : Option Addr} {c0 : Nat} {es : List Event}
set_option maxHeartbeats 16000000 in
set_option maxRecDepth 100000 in
theorem refAppend19 (h : Ss w 98 b at_ gs vs X) (hi : Rx w y A0 c0 (recsOf es) Z) (hln : es.length ≤ 1000) (hZ : Z b) {v : Event} {T F : Option Addr} {ct cf : Nat} (hT : Sl Kn.str (fun k => k ≠ b ∧ ¬ X k) w T ct v.tags) (hF : Sl kField (fun k => k ≠ b ∧ ¬ X k) w F cf v.fields) (hlen : v.fields.length ≤ 1000000) (hgt : ∀ s ∈ v.tags, s.size ≤ maxLen) (hin : mayE v = 0 → EvIn v) (n : Int) :
    Calls Tryz.prog 92 #[.pointer (some ⟨b, 0, none⟩), .pointer (some ⟨y, 0, none⟩), vEvent v T ct F cf, .int .i64 n] w fun r w' => r = .returned (.int .i64 (appE es at_ gs vs v n)) ∧ Ss w' 98 b at_ (appG es at_ gs vs v n) (appV es at_ gs vs v n) X ∧ But (fun k => k = b) w w' := by
  obtain ⟨W1, hW1⟩ : ∃ W1, W1 = w.alloc (.cells #[.string v.stream, .string v.type, .slice T v.tags.length ct, .slice F v.fields.length cf] 42) := ⟨_, rfl⟩
  have HW1 := Lib.hid hW1
  have hb1 : Below w.heap.size w W1 := by rw [hW1]; exact (Below.refl _ _).alloc (Nat.le_refl _) _
  have hx : Bx W1 w.heap.size 42 [.string v.stream, .string v.type, .slice T v.tags.length ct, .slice F v.fields.length cf] := by rw [hW1]; exact Bx.new w _ _
  have h1 := h.below hb1
  have hi1 := hi.below hb1
  have hlt := h.lt
  obtain ⟨m, hm⟩ : ∃ m, mayE v = m := ⟨_, rfl⟩
  have CM := Lib.hid (show Calls Tryz.prog 33 #[vEvent v T ct F cf] W1 fun r w' => r = .returned (.int .i64 m) ∧ Below W1.heap.size W1 w' from by rw [← hm]; exact refMayE_any (hT.any.below hb1) (hF.any.below hb1) hgt)
  unfold vEvent at CM
  have k0 := hx.cell 0
  have k1 := hx.cell 1
  have k2 := hx.cell 2
  have k3 := hx.cell 3
  simp only [List.getElem?_cons_succ, List.getElem?_cons_zero] at k0 k1 k2 k3
  have HB1 := Lib.hid hb1
  have HX := Lib.hid hx
  have H1 := Lib.hid h1
  have HI1 := Lib.hid hi1
  have HT := Lib.hid (hT.below hb1)
  have HF := Lib.hid (hF.below hb1)
  have HMV := Lib.hid hm
  have HINV := Lib.hid hin
  have HS0 := Lib.hid h
  have HLN := Lib.hid hln
  unfold vEvent
  clear h h1 hi hi1 hT hF hlen hgt hin hb1 hx hm
  by_cases hm0 : m = 0
  rotate_left
  · have HAE := Lib.hid (show appE es at_ gs vs v n = m by unfold appE; rw [HMV.out, if_pos hm0])
    have HAN := Lib.hid (app_no (es := es) (at_ := at_) (gs := gs) (vs := vs) (v := v) (n := n) (by rw [HAE.out]; exact hm0))
    have d0 : (m == 0) = false := by simp [hm0]
    have d1 : (m != 0) = true := by simp [hm0]
    clear hm0
    go_enter Tryz.func92, Tryz.ntmps92
    go_upto_region 1 with fail
    rw [← HW1.out]
    clear hW1 HW1
    go_wp2_with (go_at_call 33; go_fit CM.out; rintro r w2 ⟨rfl, hb2⟩; have HB2 := Lib.hid hb2; clear hb2)
    go_ret
    exact ⟨by rw [HAE.out]; rfl, by rw [HAN.out.1, HAN.out.2]; exact HS0.out.below (bthen HB1.out HB2.out), But.of_below (bthen HB1.out HB2.out)⟩
  subst hm0
  have HIN := Lib.hid (HINV.out HMV.out)
  go_enter Tryz.func92, Tryz.ntmps92
  go_upto_region 1 with fail
  rw [← HW1.out]
  clear hW1 HW1
  go_upto_region 4 with (go_at_call 33; go_fit CM.out; rintro r w2 ⟨rfl, hb2⟩; have HB2 := Lib.hid hb2; clear hb2)
  clear CM k0 k1 k2 k3
  have HS2 := Lib.hid (H1.out.below HB2.out)
  obtain ⟨G, cg, E, ce, hbx, hG, hE, _⟩ := HS2.out.bx
  have HBX := Lib.hid hbx
  have HE := Lib.hid hE
  have x2 := hbx.cell 2
  simp only [List.getElem?_cons_succ, List.getElem?_cons_zero] at x2
  have HBW := Lib.hid (bthen HB1.out HB2.out)
  clear hbx hG hE
  by_cases h16 : 16 ≤ vs.length
  · have HAE := Lib.hid (show appE es at_ gs vs v n = 3 by unfold appE; rw [HMV.out, if_neg (by simp), if_pos h16])
    have HAN := Lib.hid (app_no (es := es) (at_ := at_) (gs := gs) (vs := vs) (v := v) (n := n) (by rw [HAE.out]; simp))
    have d1 : decide (16 ≤ vs.length) = true := decide_eq_true h16
    have d2 : decide ((16 : Int) ≤ (vs.length : Int)) = true := decide_eq_true (by omega)
    go_wp2_with fail
    go_ret
    exact ⟨by rw [HAE.out]; rfl, by rw [HAN.out.1, HAN.out.2]; exact HS2.out, But.of_below HBW.out⟩
  have e1 : decide (16 ≤ vs.length) = false := decide_eq_false h16
  have e2 : decide ((16 : Int) ≤ (vs.length : Int)) = false := decide_eq_false (by omega)
  by_cases hn1 : n < -1
  · have HAE := Lib.hid (show appE es at_ gs vs v n = 1 by unfold appE; rw [HMV.out, if_neg (by simp), if_neg h16, if_pos hn1])
    have HAN := Lib.hid (app_no (es := es) (at_ := at_) (gs := gs) (vs := vs) (v := v) (n := n) (by rw [HAE.out]; simp))
    have d1 : decide (n < -1) = true := decide_eq_true hn1
    go_wp2_with fail
    go_ret
    exact ⟨by rw [HAE.out]; rfl, by rw [HAN.out.1, HAN.out.2]; exact HS2.out, But.of_below HBW.out⟩
  have e3 : decide (n < -1) = false := decide_eq_false hn1
  obtain ⟨nv, hnv⟩ : ∃ nv, verR es v.stream at_ = nv := ⟨_, rfl⟩
  have hnvl : nv ≤ 1000 := by rw [← hnv]; have := strmR_len es v.stream at_; unfold verR; omega
  obtain ⟨no, hno⟩ : ∃ no, cntS vs v.stream = no := ⟨_, rfl⟩
  have hnol : no ≤ 16 := by rw [← hno]; have := cntS_le vs v.stream; have := HS0.out.vl; omega
  have hvl : vs.length < 16 := by omega
  by_cases hn0 : 0 ≤ n
  · have e4 : decide (0 ≤ n) = true := decide_eq_true hn0
    have e5 : decide (n ≥ 0) = true := decide_eq_true hn0
    have HXW := Lib.hid (HX.out.under HB2.out)
    have HKS := Lib.hid (fun W (hW : Below w2.heap.size w2 W) => show Below w2.heap.size w2 W ∧ W.cell? ⟨b, 0, none⟩ = some (.int .i64 at_) ∧ W.cell? ⟨w.heap.size, 0, none⟩ = some (.string v.stream) from by
      obtain ⟨_, _, _, _, h2, _⟩ := (HS2.out.below hW).bx
      exact ⟨hW, h2.cell 0, (HXW.out.under hW).cell 0⟩)
    have CS := Lib.hid (fun W (R : Prop) (hW : Below w2.heap.size w2 W ∧ R) => show Calls Tryz.prog 43 #[.pointer (some ⟨y, 0, none⟩), .string v.stream, .int .i64 at_] W fun r w' => (∃ P p, r = .returned (.slice P nv p)) ∧ Below W.heap.size W w' from by
      have := ref14Stream_any ((HI1.out.below HB2.out).below hW.1) (by rw [recsOf_len]; exact Nat.le_trans HLN.out (by omega)) v.stream at_
      refine this.mono ?_
      rintro r w' ⟨P, p, e1, _, h2⟩
      exact ⟨⟨P, p, by rw [← hnv]; exact e1⟩, h2⟩)
    have HNV := Lib.hid hnv
    have HNO := Lib.hid hno
    have HAPP : Hid (appE es at_ gs vs v n = if n ≠ (nv : Int) + (no : Int) then 23 else addE gs (gRead es at_ v.stream)) := Lib.hid (by unfold appE; rw [HMV.out, hnv, hno, if_neg (by simp), if_neg h16, if_neg hn1]; by_cases h : n ≠ (nv : Int) + (no : Int); rw [if_pos ⟨hn0, h⟩, if_pos h]; rw [if_neg (fun h2 => h h2.2), if_neg h, if_pos hn0])
    clear hnv hno
    go_upto_region 9 with fail
    clear x2
    go_cut [10] (fun x wx => x = .int .i64 nv ∧ Below w2.heap.size w2 wx)
    case first =>
      go_region_held3 (fun W => Below w2.heap.size w2 W ∧ W.cell? ⟨b, 0, none⟩ = some (.int .i64 at_) ∧ W.cell? ⟨w.heap.size, 0, none⟩ = some (.string v.stream))
        (first | exact HKS.out _ (below_drawn (Below.refl _ _)) | (assumption) | exact HKS.out _ HB3.out)
        (first | (go_at_call 43; go_fit (CS.out _ _ (by assumption)); rintro r w3 ⟨⟨P3, p3, rfl⟩, hb3⟩; have HB3 := Lib.hid (show Below w2.heap.size w2 w3 from bthen (And.left (by assumption : Below w2.heap.size w2 _ ∧ _)) hb3); clear hb3))
      all_goals go_wp2_with fail
      all_goals go_meet
      all_goals exact ⟨rfl, HB3.out⟩
    case rest =>
      obtain ⟨rfl, hbc⟩ := hcut
      obtain ⟨w3, hw3⟩ : ∃ w3, w3 = wc := ⟨_, rfl⟩
      subst hw3
      have HB3 := Lib.hid hbc
      have HS3 := Lib.hid (HS2.out.below hbc)
      have HE3 := Lib.hid (HE.out.any.below hbc)
      have HBX3 := Lib.hid (HBX.out.under hbc)
      have HX3 := Lib.hid (HXW.out.under hbc)
      have hc1 := HE.out.1
      have hc2 := HE.out.2.1
      unfold maxLen at hc2
      clear hbc CS HKS
      go_wp2_with fail
      go_loopw [11, 12] (fun o i wr => ∃ k : Nat, k ≤ vs.length ∧ i = .int .i64 k ∧ o = .int .i64 (cntS (vs.take k) v.stream : Int) ∧ Below w3.heap.size w3 wr) (fun _ i _ => vs.length - (intOf i).toNat)
      case atStart => exact ⟨0, Nat.zero_le _, rfl, rfl, Below.refl _ _⟩
      case round =>
        obtain ⟨k, hk, rfl, rfl, hb⟩ := hrel
        have x2 := (HBX3.out.under hb).cell 2
        simp only [List.getElem?_cons_succ, List.getElem?_cons_zero] at x2
        have y0 := (HX3.out.under hb).cell 0
        simp only [List.getElem?_cons_zero] at y0
        by_cases hlt : k < vs.length
        · obtain ⟨ad, S, sa, T', ta, rfl, c0, c1, c2, c3, _, _⟩ := row_ev_at (HE3.out.below hb).2.2 hlt
          have HCN := Lib.hid (show cntS (vs.take (k + 1)) v.stream = cntS (vs.take k) v.stream + if vs[k].stream = v.stream then 1 else 0 by rw [List.take_succ_eq_append_getElem hlt, cntS_snoc])
          have hcn := cntS_le (vs.take k) v.stream
          rw [List.length_take] at hcn
          generalize vs[k] = f at c0 c1 c2 c3 HCN
          generalize cntS (vs.take k) v.stream = m at hcn HCN ⊢
          have hq := strEqL f.stream v.stream
          have HB := Lib.hid hb
          have i1 : (0 : Int) ≤ (k : Int) := Int.natCast_nonneg _
          have i2 : (k : Int) < (vs.length : Int) := by omega
          have i3 : IntKind.i64.wrap ((k : Int) + 1) = (k : Int) + 1 := IntWalk.i64_in _ (by omega)
          have i4 : IntKind.i64.wrap ((m : Int) + 1) = (m : Int) + 1 := IntWalk.i64_in _ (by omega)
          clear hb
          by_cases hs : f.stream = v.stream
          · rw [decide_eq_true hs] at hq
            have HCN := Lib.hid (show ((cntS (vs.take (k + 1)) v.stream : Nat) : Int) = (m : Int) + 1 by rw [HCN.out, if_pos hs]; omega)
            clear hs
            go_upto_region 14 with fail
            go_quiet (fail)
            all_goals go_wp2_with fail
            all_goals go_roundw
            case rel => exact ⟨k + 1, by omega, by go_num, by rw [HCN.out], below_drewN HB.out _⟩
            case measure => simp [intOf]; omega
          · rw [decide_eq_false hs] at hq
            have HCN := Lib.hid (show ((cntS (vs.take (k + 1)) v.stream : Nat) : Int) = (m : Int) by rw [HCN.out, if_neg hs]; omega)
            clear hs
            go_upto_region 14 with fail
            go_quiet (fail)
            all_goals go_wp2_with fail
            all_goals go_roundw
            case rel => exact ⟨k + 1, by omega, by go_num, by rw [HCN.out], below_drewN HB.out _⟩
            case measure => simp [intOf]; omega
        · obtain rfl : k = vs.length := by omega
          rw [List.take_length, HNO.out]
          have HB4 := Lib.hid hb
          have HS4 := Lib.hid (HS3.out.below hb)
          have HX4 := Lib.hid (HX3.out.under hb)
          have HBR := Lib.hid (bthen HB3.out hb)
          have ewr : IntKind.i64.wrap ((nv : Int) + (no : Int)) = (nv : Int) + (no : Int) := IntWalk.i64_in _ (by omega)
          clear hb HBX3 HE3
          by_cases hne : n = (nv : Int) + (no : Int)
          · obtain ⟨f, hf⟩ : ∃ f, addE gs (gRead es at_ v.stream) = f := ⟨_, rfl⟩
            have CK := Lib.hid (show Calls Tryz.prog 125 #[.pointer (some ⟨b, 0, none⟩), .agg #[.string v.stream, .int .i64 nv, .slice none 0 0, .bool false]] wr fun r w' => r = .returned (.int .i64 f) ∧ Ss w' 98 b at_ (keepL gs (gRead es at_ v.stream)) vs X ∧ But (fun k => k = b) wr w' from by
              have := refKeep HS4.out (s := v.stream) (v := (nv : Int)) (q := []) (a := false) (Q := none) (cq := 0) Sl.nil_ ⟨HIN.out.st, by simp⟩
              rw [show (v.stream, (nv : Int), ([] : List Clause), false) = gRead es at_ v.stream by unfold gRead; rw [HNV.out], hf] at this
              exact this)
            have HAE := Lib.hid (show appE es at_ gs vs v n = f by rw [HAPP.out, if_neg (fun h => h hne)]; exact hf)
            have HKN := Lib.hid (show f ≠ 0 → keepL gs (gRead es at_ v.stream) = gs from fun h => keepL_no (by rw [hf]; exact h))
            have dq : (n == (nv : Int) + (no : Int)) = true := by simp [hne]
            have dq2 : (n != (nv : Int) + (no : Int)) = false := by simp [hne]
            have HNE := Lib.hid hne
            clear hf hne
            by_cases h0 : f = 0
            · subst h0
              have HAO := Lib.hid (app_ok HAE.out)
              have HAGk := Lib.hid (show appG es at_ gs vs v n = keepL gs (gRead es at_ v.stream) by rw [HAO.out.1, if_pos hn0])
              have HAVk := Lib.hid (HAO.out.2)
              go_upto_region 21 with (first
                | (go_at_call 125; go_fit CK.out; rintro r w4 ⟨rfl, h4, hb4⟩; have HSk := Lib.hid h4; have HBb := Lib.hid hb4; clear h4 hb4))
              obtain ⟨wk, hwk⟩ : ∃ wk, wk = w4 := ⟨_, rfl⟩
              subst hwk
              generalize keepL gs (gRead es at_ v.stream) = gsk at HSk HAGk
              have HBk := Lib.hid (show But (fun k => k = b) w wk from (But.of_below (bthen HBW.out HBR.out)).trans HBb.out)
              have HXk := Lib.hid (HX4.out.stay (w' := wk) (fun hk => HBb.out.block _ hk (by have := HS0.out.lt; omega)))
              have HTk := Lib.hid (((HT.out.below HB2.out).below HBR.out).stay (w' := wk) HBb.out.size (fun k hk hl => HBb.out.block k hl hk.1))
              have HFk := Lib.hid (((HF.out.below HB2.out).below HBR.out).stay (w' := wk) HBb.out.size (fun k hk hl => HBb.out.block k hl hk.1))
              clear HBX HE x2 y0 CK HAPP HAO HS2 HS3 HS4 HX4 HXW
              obtain ⟨G, cg, E, ce, hbx, hG, hE, _⟩ := HSk.out.bx
              have HBX := Lib.hid hbx
              have HE := Lib.hid hE
              clear hbx hG hE
              obtain ⟨lt, hlt1⟩ : ∃ lt, v.tags.length = lt := ⟨_, rfl⟩
              obtain ⟨lf, hlf1⟩ : ∃ lf, v.fields.length = lf := ⟨_, rfl⟩
              have HT1 := Lib.hid hlt1
              have HF1 := Lib.hid hlf1
              clear hlt1 hlf1
              have hwk : w.heap.size < wk.heap.size := HXk.out.lt
              have hb2l : b < wk.heap.size := HSk.out.lt
              have hbw : b ≠ w.heap.size := by have := HS0.out.lt; omega
              obtain ⟨OK, hOKd⟩ : ∃ OK : Nat → Prop, OK = fun j => (j ≠ b ∧ ¬ X j) ∧ j < wk.heap.size := ⟨_, rfl⟩
              have HOKL := Lib.hid (show ∀ j, OK j → j < wk.heap.size by subst hOKd; exact fun j hj => hj.2)
              have HOD := Lib.hid (show ∀ j, OK j → (j ≠ b ∧ ¬ X j) by subst hOKd; exact fun j hj => hj.1)
              have HRE := Lib.hid (show ∀ W, Below wk.heap.size wk W → Row kEvent OK W E vs by subst hOKd; exact fun W hb => (HE.out.bound.below hb).2.2)
              have HKE := Lib.hid (show ∀ W, Below wk.heap.size wk W → kEvent.K OK W v [.string v.stream, .string v.type, .slice T lt ct, .slice F lf cf] by
                subst hOKd
                intro W hb
                rw [← HT1.out, ← HF1.out]
                exact kEvent_mk ((HTk.out.bound).below hb) ((HFk.out.bound).below hb))
              have HKB := Lib.hid (fun W (hW : Below wk.heap.size wk W) => show W.cell? ⟨w.heap.size, 0, none⟩ = some (.string v.stream) ∧ W.cell? ⟨w.heap.size, 1, none⟩ = some (.string v.type) ∧ W.cell? ⟨w.heap.size, 2, none⟩ = some (.slice T lt ct) ∧ W.cell? ⟨w.heap.size, 3, none⟩ = some (.slice F lf cf) ∧ W.cell? ⟨b, 2, none⟩ = some (.slice E vs.length ce) from
                ⟨(HXk.out.under hW).cell 0, (HXk.out.under hW).cell 1, by rw [← HT1.out]; exact (HXk.out.under hW).cell 2, by rw [← HF1.out]; exact (HXk.out.under hW).cell 3, (HBX.out.under hW).cell 2⟩)
              obtain ⟨k0, k1, k2, k3, k4⟩ := HKB.out wk (Below.refl _ _)
              clear hOKd
              go_cut [80] (fun _ wx => Ss wx 98 b at_ gsk (vs ++ [v]) X ∧ But (fun k => k = b) wk wx)
              case first =>
                go_region_law
                  (first
                    | (refine step_pushO rfl _ _ _ rfl 42 _ 4 80 Tryz.underlying43 infoEv rfl (by decide) (by decide) rfl wk OK HOKL.out _ _ rfl (HO1.out.alloc _) v [.string v.stream, .string v.type, .slice T lt ct, .slice F lf cf] w5.heap.size (Bx.new w5 _ _) (fun e1 => by have := HO1.out.block_lt _ e1.symm; omega) (HKE.out _ (below_made HB5.out (Nat.le_refl _) _)) True (by first | exact ⟨HB5.out, trivial⟩ | exact ⟨below_made HB5.out (Nat.le_refl _) _, trivial⟩ | exact ⟨below_drawn (Below.refl _ _), trivial⟩ | exact ⟨below_made (below_drawn (Below.refl _ _)) (Nat.le_refl _) _, trivial⟩ | exact ⟨below_made (below_made (below_drawn (Below.refl _ _)) (Nat.le_refl _) _) (Nat.le_refl _) _, trivial⟩) rfl (by rw [List.nil_append]; omega) ?_; intro v8 w6 hown2 hbel2; have HB6 := Lib.hid hbel2; have kf := (HBX.out.under hbel2).free 2; have kc := (HBX.out.under hbel2).cell 2; simp only [List.getElem?_cons_succ, List.getElem?_cons_zero] at kc; obtain ⟨A2, c2, hv2, hsl2⟩ := hown2.sl; subst hv2; have HSL2 := Lib.hid (hsl2.mono (ok' := fun j => (j ≠ b ∧ ¬ X j) ∨ wk.heap.size ≤ j) (fun j hj => by rcases hj with (hj | hj) | hj; exact .inl (HOD.out j hj); exact .inr (by omega); exact .inr (by omega))); clear hown2 hbel2 hsl2)
                    | (refine step_pushO rfl _ _ _ rfl 42 _ 4 80 Tryz.underlying43 infoEv rfl (by decide) (by decide) rfl wk OK HOKL.out _ _ rfl HO1.out v [.string v.stream, .string v.type, .slice T lt ct, .slice F lf cf] _ KB1.out.1 (fun e1 => KB1.out.2 e1.symm) (HKE.out _ HB5.out) True (by first | exact ⟨HB5.out, trivial⟩ | exact ⟨below_made HB5.out (Nat.le_refl _) _, trivial⟩ | exact ⟨below_drawn (Below.refl _ _), trivial⟩ | exact ⟨below_made (below_drawn (Below.refl _ _)) (Nat.le_refl _) _, trivial⟩ | exact ⟨below_made (below_made (below_drawn (Below.refl _ _)) (Nat.le_refl _) _) (Nat.le_refl _) _, trivial⟩) rfl (by rw [List.nil_append]; omega) ?_; intro v8 w6 hown2 hbel2; have HB6 := Lib.hid hbel2; have kf := (HBX.out.under hbel2).free 2; have kc := (HBX.out.under hbel2).cell 2; simp only [List.getElem?_cons_succ, List.getElem?_cons_zero] at kc; obtain ⟨A2, c2, hv2, hsl2⟩ := hown2.sl; subst hv2; have HSL2 := Lib.hid (hsl2.mono (ok' := fun j => (j ≠ b ∧ ¬ X j) ∨ wk.heap.size ≤ j) (fun j hj => by rcases hj with (hj | hj) | hj; exact .inl (HOD.out j hj); exact .inr (by omega); exact .inr (by omega))); clear hown2 hbel2 hsl2)
                    | (refine step_spreadO rfl _ _ _ rfl 42 _ 4 80 Tryz.underlying43 infoEv rfl (by decide) (by decide) rfl wk OK HOKL.out _ [] rfl (Own.lit_at (by first | exact heap_alloc_new wk _ | exact heap_alloc2_new wk _ _ | exact two_old wk _ _) (by simp)) vs E ce HRE.out True (by first | exact ⟨HB5.out, trivial⟩ | exact ⟨below_made HB5.out (Nat.le_refl _) _, trivial⟩ | exact ⟨below_drawn (Below.refl _ _), trivial⟩ | exact ⟨below_made (below_drawn (Below.refl _ _)) (Nat.le_refl _) _, trivial⟩ | exact ⟨below_made (below_made (below_drawn (Below.refl _ _)) (Nat.le_refl _) _) (Nat.le_refl _) _, trivial⟩) vs.length rfl rfl (by simp; omega) ?_; intro v1 w5 hown1 hg1 hat1 hbel1; have HO1 := Lib.hid hown1; have HB5 := Lib.hid hbel1; obtain ⟨a0, a1, a2, a3, a4⟩ := HKB.out _ hbel1; have hs5 := hbel1.size; (first | (have KB1 := Lib.hid (box_grown (b := wk.heap.size + 1) (t := 42) (cs := [.string v.stream, .string v.type, .slice T lt ct, .slice F lf cf]) (by exact heap_alloc2_new wk _ _) (by show (some wk.heap.size : Option Nat) ≠ some (wk.heap.size + 1); simp) hg1 hat1)) | (have KB1 := Lib.hid (box_grown (b := wk.heap.size) (t := 42) (cs := [.string v.stream, .string v.type, .slice T lt ct, .slice F lf cf]) (by exact two_old wk _ _) (by show (some (wk.heap.size + 1) : Option Nat) ≠ some wk.heap.size; simp) hg1 hat1)) | skip); clear hown1 hg1 hat1 hbel1))
                all_goals go_wp2_with fail
                all_goals go_meet
                all_goals simpa using HSk.out.putV HB6.out HSL2.out (fun x hx => (List.mem_append.1 hx).elim (HSk.out.vin x) (fun hx => by rw [List.mem_singleton.1 hx]; exact ⟨HIN.out, HMV.out⟩)) (by simp; omega) (fun h => by simp at h)
              case rest =>
                obtain ⟨hs, hb⟩ := hcut
                have HSF := Lib.hid hs
                have HBF := Lib.hid hb
                clear hs hb
                go_wp2_with fail
                go_ret
                exact ⟨by rw [HAE.out]; rfl, by rw [HAGk.out, HAVk.out]; exact HSF.out, HBk.out.trans HBF.out⟩
            · have HAN := Lib.hid (app_no (es := es) (at_ := at_) (gs := gs) (vs := vs) (v := v) (n := n) (by rw [HAE.out]; exact h0))
              have d0 : (f == 0) = false := by simp [h0]
              have d1 : (f != 0) = true := by simp [h0]
              have HKN := Lib.hid (HKN.out h0)
              clear h0
              go_wp2_with (first
                | (go_at_call 125; go_fit CK.out; rintro r w4 ⟨rfl, h4, hb4⟩; have HSk := Lib.hid h4; have HBb := Lib.hid hb4; clear h4 hb4))
              go_ret
              exact ⟨by rw [HAE.out]; rfl, by rw [HAN.out.1, HAN.out.2]; have := HSk.out; rw [HKN.out] at this; exact this, (But.of_below (bthen HBW.out HBR.out)).trans HBb.out⟩
          · have HAE := Lib.hid (show appE es at_ gs vs v n = 23 by rw [HAPP.out, if_pos hne])
            have HAN := Lib.hid (app_no (es := es) (at_ := at_) (gs := gs) (vs := vs) (v := v) (n := n) (by rw [HAE.out]; simp))
            have dq : (n == (nv : Int) + (no : Int)) = false := by simp [hne]
            have dq2 : (n != (nv : Int) + (no : Int)) = true := by simp [hne]
            clear hne
            go_wp2_with fail
            go_ret
            exact ⟨by rw [HAE.out]; rfl, by rw [HAN.out.1, HAN.out.2]; exact HS4.out, But.of_below (bthen HBW.out HBR.out)⟩
  · have HAE := Lib.hid (show appE es at_ gs vs v n = 0 by unfold appE; rw [HMV.out, if_neg (by simp), if_neg h16, if_neg hn1, if_neg (fun h => hn0 h.1), if_neg hn0])
    have HAO := Lib.hid (app_ok (es := es) (at_ := at_) (gs := gs) (vs := vs) (v := v) (n := n) HAE.out)
    have HAGk := Lib.hid (show appG es at_ gs vs v n = gs by rw [HAO.out.1, if_neg hn0])
    have HAVk := Lib.hid (HAO.out.2)
    have e4 : decide (0 ≤ n) = false := decide_eq_false hn0
    have e5 : decide (n ≥ 0) = false := decide_eq_false hn0
    go_upto_region 21 with fail
    obtain ⟨wk, hwk⟩ : ∃ wk, wk = w2 := ⟨_, rfl⟩
    subst hwk
    obtain ⟨gsk, hgsk⟩ : ∃ gsk, gsk = gs := ⟨_, rfl⟩
    subst hgsk
    have HSk := HS2
    have HBk := Lib.hid (show But (fun k => k = b) w wk from But.of_below HBW.out)
    have HXk := Lib.hid (HX.out.under HB2.out)
    have HTk := Lib.hid (HT.out.below HB2.out)
    have HFk := Lib.hid (HF.out.below HB2.out)
    clear HBX HE x2 HAO
    obtain ⟨G, cg, E, ce, hbx, hG, hE, _⟩ := HSk.out.bx
    have HBX := Lib.hid hbx
    have HE := Lib.hid hE
    clear hbx hG hE
    obtain ⟨lt, hlt1⟩ : ∃ lt, v.tags.length = lt := ⟨_, rfl⟩
    obtain ⟨lf, hlf1⟩ : ∃ lf, v.fields.length = lf := ⟨_, rfl⟩
    have HT1 := Lib.hid hlt1
    have HF1 := Lib.hid hlf1
    clear hlt1 hlf1
    have hwk : w.heap.size < wk.heap.size := HXk.out.lt
    have hb2l : b < wk.heap.size := HSk.out.lt
    have hbw : b ≠ w.heap.size := by have := HS0.out.lt; omega
    obtain ⟨OK, hOKd⟩ : ∃ OK : Nat → Prop, OK = fun j => (j ≠ b ∧ ¬ X j) ∧ j < wk.heap.size := ⟨_, rfl⟩
    have HOKL := Lib.hid (show ∀ j, OK j → j < wk.heap.size by subst hOKd; exact fun j hj => hj.2)
    have HOD := Lib.hid (show ∀ j, OK j → (j ≠ b ∧ ¬ X j) by subst hOKd; exact fun j hj => hj.1)
    have HRE := Lib.hid (show ∀ W, Below wk.heap.size wk W → Row kEvent OK W E vs by subst hOKd; exact fun W hb => (HE.out.bound.below hb).2.2)
    have HKE := Lib.hid (show ∀ W, Below wk.heap.size wk W → kEvent.K OK W v [.string v.stream, .string v.type, .slice T lt ct, .slice F lf cf] by
      subst hOKd
      intro W hb
      rw [← HT1.out, ← HF1.out]
      exact kEvent_mk ((HTk.out.bound).below hb) ((HFk.out.bound).below hb))
    have HKB := Lib.hid (fun W (hW : Below wk.heap.size wk W) => show W.cell? ⟨w.heap.size, 0, none⟩ = some (.string v.stream) ∧ W.cell? ⟨w.heap.size, 1, none⟩ = some (.string v.type) ∧ W.cell? ⟨w.heap.size, 2, none⟩ = some (.slice T lt ct) ∧ W.cell? ⟨w.heap.size, 3, none⟩ = some (.slice F lf cf) ∧ W.cell? ⟨b, 2, none⟩ = some (.slice E vs.length ce) from
      ⟨(HXk.out.under hW).cell 0, (HXk.out.under hW).cell 1, by rw [← HT1.out]; exact (HXk.out.under hW).cell 2, by rw [← HF1.out]; exact (HXk.out.under hW).cell 3, (HBX.out.under hW).cell 2⟩)
    obtain ⟨k0, k1, k2, k3, k4⟩ := HKB.out wk (Below.refl _ _)
    clear hOKd
    go_cut [80] (fun _ wx => Ss wx 98 b at_ gsk (vs ++ [v]) X ∧ But (fun k => k = b) wk wx)
    case first =>
      go_region_law
        (first
          | (refine step_pushO rfl _ _ _ rfl 42 _ 4 80 Tryz.underlying43 infoEv rfl (by decide) (by decide) rfl wk OK HOKL.out _ _ rfl (HO1.out.alloc _) v [.string v.stream, .string v.type, .slice T lt ct, .slice F lf cf] w5.heap.size (Bx.new w5 _ _) (fun e1 => by have := HO1.out.block_lt _ e1.symm; omega) (HKE.out _ (below_made HB5.out (Nat.le_refl _) _)) True (by first | exact ⟨HB5.out, trivial⟩ | exact ⟨below_made HB5.out (Nat.le_refl _) _, trivial⟩ | exact ⟨below_drawn (Below.refl _ _), trivial⟩ | exact ⟨below_made (below_drawn (Below.refl _ _)) (Nat.le_refl _) _, trivial⟩ | exact ⟨below_made (below_made (below_drawn (Below.refl _ _)) (Nat.le_refl _) _) (Nat.le_refl _) _, trivial⟩) rfl (by rw [List.nil_append]; omega) ?_; intro v8 w6 hown2 hbel2; have HB6 := Lib.hid hbel2; have kf := (HBX.out.under hbel2).free 2; have kc := (HBX.out.under hbel2).cell 2; simp only [List.getElem?_cons_succ, List.getElem?_cons_zero] at kc; obtain ⟨A2, c2, hv2, hsl2⟩ := hown2.sl; subst hv2; have HSL2 := Lib.hid (hsl2.mono (ok' := fun j => (j ≠ b ∧ ¬ X j) ∨ wk.heap.size ≤ j) (fun j hj => by rcases hj with (hj | hj) | hj; exact .inl (HOD.out j hj); exact .inr (by omega); exact .inr (by omega))); clear hown2 hbel2 hsl2)
          | (refine step_pushO rfl _ _ _ rfl 42 _ 4 80 Tryz.underlying43 infoEv rfl (by decide) (by decide) rfl wk OK HOKL.out _ _ rfl HO1.out v [.string v.stream, .string v.type, .slice T lt ct, .slice F lf cf] _ KB1.out.1 (fun e1 => KB1.out.2 e1.symm) (HKE.out _ HB5.out) True (by first | exact ⟨HB5.out, trivial⟩ | exact ⟨below_made HB5.out (Nat.le_refl _) _, trivial⟩ | exact ⟨below_drawn (Below.refl _ _), trivial⟩ | exact ⟨below_made (below_drawn (Below.refl _ _)) (Nat.le_refl _) _, trivial⟩ | exact ⟨below_made (below_made (below_drawn (Below.refl _ _)) (Nat.le_refl _) _) (Nat.le_refl _) _, trivial⟩) rfl (by rw [List.nil_append]; omega) ?_; intro v8 w6 hown2 hbel2; have HB6 := Lib.hid hbel2; have kf := (HBX.out.under hbel2).free 2; have kc := (HBX.out.under hbel2).cell 2; simp only [List.getElem?_cons_succ, List.getElem?_cons_zero] at kc; obtain ⟨A2, c2, hv2, hsl2⟩ := hown2.sl; subst hv2; have HSL2 := Lib.hid (hsl2.mono (ok' := fun j => (j ≠ b ∧ ¬ X j) ∨ wk.heap.size ≤ j) (fun j hj => by rcases hj with (hj | hj) | hj; exact .inl (HOD.out j hj); exact .inr (by omega); exact .inr (by omega))); clear hown2 hbel2 hsl2)
          | (refine step_spreadO rfl _ _ _ rfl 42 _ 4 80 Tryz.underlying43 infoEv rfl (by decide) (by decide) rfl wk OK HOKL.out _ [] rfl (Own.lit_at (by first | exact heap_alloc_new wk _ | exact heap_alloc2_new wk _ _ | exact two_old wk _ _) (by simp)) vs E ce HRE.out True (by first | exact ⟨HB5.out, trivial⟩ | exact ⟨below_made HB5.out (Nat.le_refl _) _, trivial⟩ | exact ⟨below_drawn (Below.refl _ _), trivial⟩ | exact ⟨below_made (below_drawn (Below.refl _ _)) (Nat.le_refl _) _, trivial⟩ | exact ⟨below_made (below_made (below_drawn (Below.refl _ _)) (Nat.le_refl _) _) (Nat.le_refl _) _, trivial⟩) vs.length rfl rfl (by simp; omega) ?_; intro v1 w5 hown1 hg1 hat1 hbel1; have HO1 := Lib.hid hown1; have HB5 := Lib.hid hbel1; obtain ⟨a0, a1, a2, a3, a4⟩ := HKB.out _ hbel1; have hs5 := hbel1.size; (first | (have KB1 := Lib.hid (box_grown (b := wk.heap.size + 1) (t := 42) (cs := [.string v.stream, .string v.type, .slice T lt ct, .slice F lf cf]) (by exact heap_alloc2_new wk _ _) (by show (some wk.heap.size : Option Nat) ≠ some (wk.heap.size + 1); simp) hg1 hat1)) | (have KB1 := Lib.hid (box_grown (b := wk.heap.size) (t := 42) (cs := [.string v.stream, .string v.type, .slice T lt ct, .slice F lf cf]) (by exact two_old wk _ _) (by show (some (wk.heap.size + 1) : Option Nat) ≠ some wk.heap.size; simp) hg1 hat1)) | skip); clear hown1 hg1 hat1 hbel1))
      all_goals go_wp2_with fail
      all_goals go_meet
      all_goals simpa using HSk.out.putV HB6.out HSL2.out (fun x hx => (List.mem_append.1 hx).elim (HSk.out.vin x) (fun hx => by rw [List.mem_singleton.1 hx]; exact ⟨HIN.out, HMV.out⟩)) (by simp; omega) (fun h => by simp at h)
    case rest =>
      obtain ⟨hs, hb⟩ := hcut
      have HSF := Lib.hid hs
      have HBF := Lib.hid hb
      clear hs hb
      go_wp2_with fail
      go_ret
      exact ⟨by rw [HAE.out]; rfl, by rw [HAGk.out, HAVk.out]; exact HSF.out, HBk.out.trans HBF.out⟩
end
end Go.Proofs.YtfoghahidofegaaGreat

namespace Go.Proofs.YtfoghahidofegaaGreat
open Go.RowKit Go.Maps

set_option maxHeartbeats 4000000 in
set_option maxRecDepth 100000 in
theorem refHolds_any {w : World} {y : Nat} {A : Option Addr} {c : Nat} {es : List Event} {X : Nat → Prop} (h : Rx w y A c (recsOf es) X) (hl : es.length ≤ 100000) {s : ByteArray} {q : List Clause} {Q : Option Addr} {cq : Nat} (hq : SlC w Q cq q) (v : Int) (b : Bool) :
    Calls Tryz.prog 151 #[.pointer (some ⟨y, 0, none⟩), .agg #[.string s, .int .i64 v, .slice Q q.length cq, .bool b]] w fun r w' => r = .returned (.bool (if b then !sinceR es q v else decide ((verR es s es.length : Int) = v))) ∧ Below w.heap.size w w' := by
  obtain ⟨W1, hW1⟩ : ∃ W1, W1 = w.alloc (.cells #[.string s, .int .i64 v, .slice Q q.length cq, .bool b] 52) := ⟨_, rfl⟩
  have HW1 := Lib.hid hW1
  have hb1 : Below w.heap.size w W1 := by rw [hW1]; exact (Below.refl _ _).alloc (Nat.le_refl _) _
  have hx : Bx W1 w.heap.size 52 [.string s, .int .i64 v, .slice Q q.length cq, .bool b] := by rw [hW1]; exact Bx.new w _ _
  have HB1 := Lib.hid hb1
  have HX := Lib.hid hx
  have H1 := Lib.hid (h.below hb1)
  have CS := Lib.hid (ref14Since_any (h.below hb1) hl (hq.below hb1) v)
  have HLN := Lib.hid hl
  have hyl := (h.below hb1).bx.lt
  have hcc := h.sl.1
  have hcm := h.sl.2.1
  rw [recsOf_len] at hcc
  unfold maxLen at hcm
  have x0 := hx.cell 0
  have x1 := hx.cell 1
  have x2 := hx.cell 2
  have x3 := hx.cell 3
  simp only [List.getElem?_cons_succ, List.getElem?_cons_zero] at x0 x1 x2 x3
  obtain ⟨R, hR⟩ : ∃ R, (if b then !sinceR es q v else decide ((verR es s es.length : Int) = v)) = R := ⟨_, rfl⟩
  rw [hR]
  clear h hl hq hb1 hx
  go_enter Tryz.func151, Tryz.ntmps151
  go_upto_region 1 with fail
  rw [← HW1.out]
  clear hW1
  cases b with
  | true =>
    simp only [if_true] at hR
    obtain ⟨t, ht⟩ : ∃ t, sinceR es q v = t := ⟨_, rfl⟩
    rw [ht] at CS hR
    have HR := Lib.hid hR
    clear ht hR
    go_wp2_with (go_at_call 67; go_fit CS.out; rintro r w2 ⟨rfl, hb2⟩; have HB2 := Lib.hid hb2; clear hb2)
    go_ret
    exact ⟨by rw [← HR.out]; rfl, bthen HB1.out HB2.out⟩
  | false =>
    obtain ⟨N, hN⟩ : ∃ N, verR es s es.length = N := ⟨_, rfl⟩
    have D2 : Hid (∀ W (R : Prop), Below W1.heap.size W1 W ∧ R → Calls Tryz.prog 43 #[.pointer (some ⟨y, 0, none⟩), .string s, .int .i64 es.length] W fun r w' => (∃ P p, r = .returned (.slice P N p)) ∧ Below W.heap.size W w') := Lib.hid (fun W R hW => by
      refine (ref14Stream_any (H1.out.below hW.1) (by rw [recsOf_len]; exact HLN.out) s es.length).mono ?_
      rintro r w' ⟨P, p, e, _, hb⟩
      exact ⟨⟨P, p, by rw [← hN]; exact e⟩, hb⟩)
    have HK := Lib.hid (fun W (hb : Below W1.heap.size W1 W) => show Below W1.heap.size W1 W ∧ W.cell? ⟨w.heap.size, 0, none⟩ = some (.string s) ∧ W.cell? ⟨w.heap.size, 1, none⟩ = some (.int .i64 v) ∧ W.cell? ⟨y, 0, none⟩ = some (.slice A es.length c) from ⟨hb, (HX.out.under hb).cell 0, (HX.out.under hb).cell 1, by have := (H1.out.bx.under hb).cell 0; rw [recsOf_len] at this; exact this⟩)
    simp only [Bool.false_eq_true, if_false] at hR
    rw [hN] at hR
    have hb' : ((N : Int) == v) = R := by rw [← hR]; rfl
    clear hN CS x2 hR
    go_upto_region 3 with fail
    clear x0 x1 x3
    rcases R with _ | _
    all_goals go_region_held3 (fun W => Below W1.heap.size W1 W ∧ W.cell? ⟨w.heap.size, 0, none⟩ = some (.string s) ∧ W.cell? ⟨w.heap.size, 1, none⟩ = some (.int .i64 v) ∧ W.cell? ⟨y, 0, none⟩ = some (.slice A es.length c)) (first | exact HK.out _ (below_drawn (Below.refl _ _)) | (assumption) | exact HK.out _ (bthen (And.left (by assumption : Below W1.heap.size W1 _ ∧ _)) (by assumption)))
      (first | (go_at_call 43; go_fit (D2.out _ _ (by assumption)); rintro r w5 ⟨⟨P5, p5, rfl⟩, hb5⟩))
    all_goals go_wp2_with fail
    all_goals go_ret
    all_goals exact ⟨by first | rfl | (rw [hb']), bthen HB1.out (And.left (by assumption : Below W1.heap.size W1 _ ∧ _))⟩
set_option maxHeartbeats 4000000 in
theorem refAll_any {w : World} {y : Nat} {A : Option Addr} {c : Nat} {es : List Event} {X : Nat → Prop} (h : Rx w y A c (recsOf es) X) (hl : es.length ≤ 100000) {G : Option Addr} {cg : Nat} {gs : List Grd} (hA : Sl kGuard (fun _ => True) w G cg gs) :
    Calls Tryz.prog 126 #[.pointer (some ⟨y, 0, none⟩), .slice G gs.length cg] w fun r w' => r = .returned (.bool (!gs.any (fun g => !holdsR es g))) ∧ Below w.heap.size w w' := by
  have H := Lib.hid h
  have HA := Lib.hid hA
  have HLN := Lib.hid hl
  have hc1 := hA.1
  have hc2 := hA.2.1
  unfold maxLen at hc2
  obtain ⟨R, hR⟩ : ∃ R, (!gs.any (fun g => !holdsR es g)) = R := ⟨_, rfl⟩
  rw [hR]
  have HR := Lib.hid hR
  clear h hA hl hR
  go_enter Tryz.func126, Tryz.ntmps126
  go_wp2_with fail
  go_loopw [5] (fun i wr => ∃ k : Nat, k ≤ gs.length ∧ i = .int .i64 k ∧ Hid (∀ j, j < k → ∀ g, gs[j]? = some g → holdsR es g = true) ∧ Below w.heap.size w wr) (fun i _ => gs.length - (intOf i).toNat)
  case atStart => exact ⟨0, Nat.zero_le _, rfl, Lib.hid (fun j hj => by omega), Below.refl _ _⟩
  case round =>
    obtain ⟨k, hk, rfl, hall, hb⟩ := hrel
    have HB := Lib.hid hb
    by_cases hlt : k < gs.length
    · obtain ⟨ad, Q, cq, rfl, x0, x1, x2, x3, hQ⟩ := row_guard_at (HA.out.below hb).2.2 hlt
      have HGK := Lib.hid (show gs[k]? = some gs[k] from List.getElem?_eq_getElem hlt)
      have hmem := List.getElem_mem hlt
      have HM := Lib.hid hmem
      generalize gs[k] = g at x0 x1 x2 x3 hQ HGK HM hmem
      clear hmem
      obtain ⟨s, v, q, a⟩ := g
      simp only at x0 x1 x2 x3 hQ
      have CH := Lib.hid (refHolds_any (H.out.below hb) HLN.out (s := s) hQ v a)
      obtain ⟨t, ht⟩ : ∃ t, holdsR es (s, v, q, a) = t := ⟨_, rfl⟩
      have HT := Lib.hid ht
      unfold holdsR at ht
      simp only at ht
      rw [ht] at CH
      have e1 : (0 : Int) ≤ (k : Int) := Int.natCast_nonneg _
      have e2 : (k : Int) < (gs.length : Int) := by omega
      clear hb hQ ht
      cases t with
      | true =>
        go_wp2_with (go_at_call 151; go_fit CH.out; rintro r w5 ⟨rfl, hb5⟩; have HB5 := Lib.hid (bthen HB.out hb5); clear hb5)
        go_roundw
        case rel => exact ⟨k + 1, by omega, by go_num, Lib.hid (fun j hj g' hg' => by
          by_cases he : j = k
          · subst he
            rw [HGK.out] at hg'
            cases hg'
            exact HT.out
          · exact hall.out j (by omega) g' hg'), HB5.out⟩
        case measure => simp [intOf]; omega
      | false =>
        go_wp2_with (go_at_call 151; go_fit CH.out; rintro r w5 ⟨rfl, hb5⟩; have HB5 := Lib.hid (bthen HB.out hb5); clear hb5)
        go_ret
        refine ⟨?_, HB5.out⟩
        have : gs.any (fun g => !holdsR es g) = true := List.any_eq_true.2 ⟨_, HM.out, by rw [HT.out]; rfl⟩
        rw [← HR.out, this]
        rfl
    · obtain rfl : k = gs.length := by omega
      have HNO := Lib.hid (show gs.any (fun g => !holdsR es g) = false from by
        rw [List.any_eq_false]
        intro g hg
        obtain ⟨j, hj⟩ := List.getElem?_of_mem hg
        rw [hall.out j (List.getElem?_eq_some_iff.1 hj).1 g hj]
        simp)
      clear hall hb
      go_wp2_with fail
      go_ret
      exact ⟨by rw [← HR.out, HNO.out]; rfl, HB.out⟩
end Go.Proofs.YtfoghahidofegaaGreat

namespace Go.Proofs.YtfoghahidofegaaGreat
open Go.RowKit Go.Maps

section
variable {w : World} {b at_ : Nat} {gs : List Grd} {vs : List Event} {X Z : Nat → Prop} {y : Nat} {A0 : Option Addr} {c0 : Nat} {es : List Event}
set_option maxHeartbeats 4000000 in
theorem refCheck19 (h : Ss w 98 b at_ gs vs X) (hi : Rx w y A0 c0 (recsOf es) Z) (hln : es.length ≤ 100000) :
    Calls Tryz.prog 91 #[.pointer (some ⟨b, 0, none⟩), .pointer (some ⟨y, 0, none⟩)] w fun r w' => r = .returned (.int .i64 (chkE es gs vs)) ∧ Below w.heap.size w w' := by
  obtain ⟨G, cg, E, ce, hbx, hG, hE, _⟩ := h.bx
  have x1 := hbx.cell 1
  have x2 := hbx.cell 2
  simp only [List.getElem?_cons_succ, List.getElem?_cons_zero] at x1 x2
  have C := Lib.hid (refAll_any hi hln hG.any)
  unfold chkE
  obtain ⟨o, ho⟩ : ∃ o, gs.any (fun g => !holdsR es g) = o := ⟨_, rfl⟩
  rw [ho] at C ⊢
  obtain ⟨n, hn⟩ : ∃ n, vs.length = n := ⟨_, rfl⟩
  rw [hn] at x2 ⊢
  clear h hi hbx hG hE ho hn
  by_cases h0 : n = 0
  · subst h0
    go_enter Tryz.func91, Tryz.ntmps91
    go_wp2_with fail
    go_ret
    exact ⟨rfl, Below.refl _ _⟩
  · rw [if_neg h0]
    have d0 : ((n : Int) == 0) = false := by simp [h0]
    have d1 : ¬ (n : Int) = 0 := by omega
    cases o
    all_goals
      go_enter Tryz.func91, Tryz.ntmps91
      go_wp2_with (go_at_call 126; go_fit C.out; rintro r w2 ⟨rfl, hb2⟩; have HB2 := Lib.hid hb2; clear hb2)
      go_ret
      exact ⟨rfl, HB2.out⟩
end
end Go.Proofs.YtfoghahidofegaaGreat

namespace Go.Proofs.YtfoghahidofegaaGreat
open Go.RowKit Go.Maps

/-- Both: the box g, both indexes, both sessions (s, z). -/
structure Bth (w wr : World) (g : Nat) (B : Six) (y : Nat) (es : List Event) (s z n : Nat) (ga : List Grd) (va : List Event) (gr : List Grd) (vr : List Event) : Prop where
  bx : Bx wr g 94 [.pointer (some ⟨B.b, 0, none⟩), .pointer (some ⟨s, 0, none⟩), .pointer (some ⟨y, 0, none⟩), .pointer (some ⟨z, 0, none⟩)]
  f : F2 w wr B y es (fun k => k = g ∨ k = s ∨ k = z)
  a : Ss wr 127 s n ga va (fun k => B.has k ∨ k = y ∨ k = g ∨ k = z)
  r : Ss wr 98 z n gr vr (fun k => B.has k ∨ k = y ∨ k = g ∨ k = s)
section
variable {w wr w' : World} {g : Nat} {B : Six} {y : Nat} {es es' : List Event} {s z n : Nat} {ga gr g' : List Grd} {va vr v' : List Event}
theorem Bth.below (h : Bth w wr g B y es s z n ga va gr vr) (hb : Below wr.heap.size wr w') : Bth w w' g B y es s z n ga va gr vr := ⟨h.bx.under hb, h.f.below hb, h.a.below hb, h.r.below hb⟩
theorem Bth.gs (h : Bth w wr g B y es s z n ga va gr vr) : g ≠ s ∧ g ≠ z ∧ s ≠ z := ⟨fun e => h.a.xb (.inr (.inr (.inl e.symm))), fun e => h.r.xb (.inr (.inr (.inl e.symm))), fun e => h.a.xb (.inr (.inr (.inr e)))⟩
theorem Bth.stepA (h : Bth w wr g B y es s z n ga va gr vr) (ha : Ss w' 127 s n g' v' (fun k => B.has k ∨ k = y ∨ k = g ∨ k = z)) (hb : But (fun k => k = s) wr w') : Bth w w' g B y es s z n g' v' gr vr :=
  ⟨h.bx.stay (fun hk => hb.block _ hk h.gs.1), h.f.far (hb.mono (fun k hk => .inr (.inl hk))), ha, h.r.far (hb.mono (fun k hk => .inr (.inr (.inr hk))))⟩
theorem Bth.stepR (h : Bth w wr g B y es s z n ga va gr vr) (ha : Ss w' 98 z n g' v' (fun k => B.has k ∨ k = y ∨ k = g ∨ k = s)) (hb : But (fun k => k = z) wr w') : Bth w w' g B y es s z n ga va g' v' :=
  ⟨h.bx.stay (fun hk => hb.block _ hk h.gs.2.1), h.f.far (hb.mono (fun k hk => .inr (.inr hk))), h.a.far (hb.mono (fun k hk => .inr (.inr (.inr hk)))), ha⟩
theorem Bth.stepF (h : Bth w wr g B y es s z n ga va gr vr) (hf : F2 w w' B y es' (fun k => k = g ∨ k = s ∨ k = z)) (hb : But (fun k => B.has k ∨ k = y) wr w') : Bth w w' g B y es' s z n ga va gr vr :=
  ⟨h.bx.stay (fun hk => hb.block _ hk (fun hx => by have := h.f.offZ g (.inl rfl); exact hx.elim this.1 this.2.1)), hf, h.a.far (hb.mono (fun k hk => hk.imp id .inl)), h.r.far (hb.mono (fun k hk => hk.imp id .inl))⟩
theorem Bth.freeA (h : Bth w wr g B y es s z n ga va gr vr) : ∀ k, k < w.heap.size → k ≠ s ∧ ¬ (B.has k ∨ k = y ∨ k = g ∨ k = z) := fun k hk => by
  refine ⟨fun e => by have := h.f.zl s (.inr (.inl rfl)); omega, fun hx => ?_⟩
  rcases hx with hB | e | e | e
  · have := h.f.lo k hB; omega
  · have := h.f.yl; omega
  · have := h.f.zl g (.inl rfl); omega
  · have := h.f.zl z (.inr (.inr rfl)); omega
theorem Bth.freeR (h : Bth w wr g B y es s z n ga va gr vr) : ∀ k, k < w.heap.size → k ≠ z ∧ ¬ (B.has k ∨ k = y ∨ k = g ∨ k = s) := fun k hk => by
  have := h.freeA k hk
  exact ⟨fun e => this.2 (.inr (.inr (.inr e))), fun hx => hx.elim (fun hB => this.2 (.inl hB)) (fun e => e.elim (fun e => this.2 (.inr (.inl e))) (fun e => e.elim (fun e => this.2 (.inr (.inr (.inl e)))) (fun e => this.1 e)))⟩
end
end Go.Proofs.YtfoghahidofegaaGreat

namespace Go.Proofs.YtfoghahidofegaaGreat
open Go.RowKit Go.Maps

set_option maxHeartbeats 8000000 in
set_option maxRecDepth 100000 in
theorem does5_any {w w0 : World} {g : Nat} {B : Six} {y : Nat} {es : List Event} {Z : Nat → Prop} {ps pz : Value} (hx : Bx w0 g 94 [.pointer (some ⟨B.b, 0, none⟩), ps, .pointer (some ⟨y, 0, none⟩), pz]) (h : F2 w w0 B y es Z) (hg : Z g) (hl : es.length ≤ 700)
    {oa ob : Int} (ha : (Lit.int .i64 oa).wf = true) (hkd : kindN oa 6 = 5) {s : ByteArray} {e : Event} {n1 n2 n3 : Nat} {S T Q : Option Addr} {sa ta cq : Nat} (h1 : e.tags.length = n1) (h2 : e.fields.length = n2) (hS : Sl Kn.str (fun k => k < w.heap.size) w0 S sa e.tags) (hT : Sl kField (fun k => k < w.heap.size) w0 T ta e.fields) (hin : (∀ s ∈ e.tags, s.size ≤ maxLen) ∧ (mayE e = 0 → EvIn e)) :
    Calls Tryz.prog 49 #[.pointer (some ⟨g, 0, none⟩), .agg #[.int .i64 oa, .int .i64 ob, .string s, .string e.stream, .string e.type, .slice S n1 sa, .slice T n2 ta, .slice Q n3 cq]] w0 fun r w' => r = .returned (.bool true) ∧ (∃ es', es'.length ≤ es.length + 1 ∧ F2 w w' B y es' Z) ∧ But (fun k => B.has k ∨ k = y) w0 w' := by
  obtain ⟨W1, hW1⟩ : ∃ W1, W1 = w0.alloc (.cells #[.int .i64 oa, .int .i64 ob, .string s, .string e.stream, .string e.type, .slice S n1 sa, .slice T n2 ta, .slice Q n3 cq] 77) := ⟨_, rfl⟩
  have HW1 := Lib.hid hW1
  have hb1 : Below w0.heap.size w0 W1 := by rw [hW1]; exact (Below.refl _ _).alloc (Nat.le_refl _) _
  have hxo : Bx W1 w0.heap.size 77 [.int .i64 oa, .int .i64 ob, .string s, .string e.stream, .string e.type, .slice S n1 sa, .slice T n2 ta, .slice Q n3 cq] := by rw [hW1]; exact Bx.new w0 _ _
  have HF1 := Lib.hid (h.below hb1)
  have HX1 := Lib.hid (hx.under hb1)
  have HXO := Lib.hid hxo
  have HB1 := Lib.hid hb1
  have HS := Lib.hid (hS.below hb1)
  have HT := Lib.hid (hT.below hb1)
  have HIN := Lib.hid hin
  have HL0 := Lib.hid hl
  have HZG := Lib.hid hg
  have H1 := Lib.hid h1
  have H2 := Lib.hid h2
  obtain ⟨m, hm⟩ : ∃ m, mayE e = m := ⟨_, rfl⟩
  have CM := Lib.hid (show Calls Tryz.prog 33 #[.agg #[.string e.stream, .string e.type, .slice S n1 sa, .slice T n2 ta]] W1 fun r w' => r = .returned (.int .i64 m) ∧ Below W1.heap.size W1 w' from by have := refMayE_any HS.out.any HT.out.any HIN.out.1; unfold vEvent at this; rw [hm, H1.out, H2.out] at this; exact this)
  have CKD := Lib.hid (kind19_any (w := W1) oa ha 6 (by omega) (by omega))
  rw [hkd] at CKD
  have HM := Lib.hid hm
  have k0 := hxo.cell 0
  have k3 := hxo.cell 3
  have k4 := hxo.cell 4
  have k5 := hxo.cell 5
  have k6 := hxo.cell 6
  simp only [List.getElem?_cons_succ, List.getElem?_cons_zero] at k0 k3 k4 k5 k6
  clear hx h hg ha hkd hS hT hin hb1 hxo hm h1 h2
  go_enter Tryz.func49, Tryz.ntmps49
  go_upto_region 1 with fail
  rw [← HW1.out]
  clear hW1 HW1
  by_cases hm0 : m = 0
  · subst hm0
    go_upto_region 16 with (first | (go_at_call 46; go_fit CKD.out; rintro r w3 ⟨rfl, rfl⟩) | (go_at_call 33; go_fit CM.out; rintro r w4 ⟨rfl, hb4⟩; have HB4 := Lib.hid hb4; clear hb4))
    have HF4 := Lib.hid (HF1.out.below HB4.out)
    have HX4 := Lib.hid (HX1.out.under HB4.out)
    have HXO4 := Lib.hid (HXO.out.under HB4.out)
    obtain ⟨A4, c4, hr4⟩ := HF4.out.rx
    have HR4 := Lib.hid hr4
    have HK := Lib.hid (fun W (hb : Below w4.heap.size w4 W) => show W.cell? ⟨y, 0, none⟩ = some (.slice A4 es.length c4) ∧ W.cell? ⟨g, 2, none⟩ = some (.pointer (some ⟨y, 0, none⟩)) ∧ W.cell? ⟨w0.heap.size, 3, none⟩ = some (.string e.stream) ∧ W.cell? ⟨w0.heap.size, 4, none⟩ = some (.string e.type) ∧ W.cell? ⟨w0.heap.size, 5, none⟩ = some (.slice S n1 sa) ∧ W.cell? ⟨w0.heap.size, 6, none⟩ = some (.slice T n2 ta) from
      ⟨by have := (HR4.out.bx.under hb).cell 0; rw [recsOf_len] at this; exact this, (HX4.out.under hb).cell 2, (HXO4.out.under hb).cell 3, (HXO4.out.under hb).cell 4, (HXO4.out.under hb).cell 5, (HXO4.out.under hb).cell 6⟩)
    clear hr4 k0 k3 k4 k5 k6
    have HEV := Lib.hid (fun W (hW : Below w4.heap.size w4 W) => show kEvent.K (fun j => j < w.heap.size) W e [.string e.stream, .string e.type, .slice S n1 sa, .slice T n2 ta] from by
      rw [← H1.out, ← H2.out]; exact kEvent_mk (HS.out.below (bthen HB4.out hW)) (HT.out.below (bthen HB4.out hW)))
    go_cut [15] (fun p wx => ∃ gx E, p = .pointer (some ⟨gx, 0, none⟩) ∧ Bx wx gx 45 [.int .i64 es.length, .slice (some ⟨E, 0, none⟩) 1 1] ∧ Sl kEvent (fun j => j < w.heap.size ∨ w4.heap.size ≤ j) wx (some ⟨E, 0, none⟩) 1 [e] ∧ Below w4.heap.size w4 wx ∧ w4.heap.size ≤ gx)
    case first =>
      go_region_held3 (fun W => W.cell? ⟨y, 0, none⟩ = some (.slice A4 es.length c4) ∧ W.cell? ⟨g, 2, none⟩ = some (.pointer (some ⟨y, 0, none⟩)) ∧ W.cell? ⟨w0.heap.size, 3, none⟩ = some (.string e.stream) ∧ W.cell? ⟨w0.heap.size, 4, none⟩ = some (.string e.type) ∧ W.cell? ⟨w0.heap.size, 5, none⟩ = some (.slice S n1 sa) ∧ W.cell? ⟨w0.heap.size, 6, none⟩ = some (.slice T n2 ta))
        (first | exact HK.out _ (below_drawn (Below.refl _ _)) | exact HK.out _ (below_made (below_drawn (Below.refl _ _)) (Nat.le_refl _) _) | exact HK.out _ (below_made (below_made (below_drawn (Below.refl _ _)) (Nat.le_refl _) _) (Nat.le_refl _) _) | (assumption)) (fail)
      all_goals go_wp2_with fail
      all_goals go_meet
      all_goals first
        | exact ⟨w4.heap.size, w4.heap.size + 1, rfl, (Bx.new w4 _ _).under (below_drawn (below_made (Below.refl _ _) (Nat.le_refl _) _)), ((Sl.one (d := kEvent) (ok := fun j => j < w.heap.size) (w := w4.alloc (.cells #[.int .i64 es.length, .slice (some ⟨w4.heap.size + 1, 0, none⟩) 1 1] 45)) (y := e) (cs := [.string e.stream, .string e.type, .slice S n1 sa, .slice T n2 ta]) 42 (HEV.out _ ((Below.refl _ _).alloc (Nat.le_refl _) _)) (w4.heap.size + 1) (by simp)).mono (fun j hj => hj.imp id (fun h => by omega))).below (below_drawn (Below.refl _ _)), below_drawn (below_made (below_made (Below.refl _ _) (Nat.le_refl _) _) (by simp) _), Nat.le_refl _⟩
        | exact ⟨w4.heap.size + 1, w4.heap.size, rfl, (by have := Bx.new (w4.alloc (.cells #[.string e.stream, .string e.type, .slice S n1 sa, .slice T n2 ta] 42)) 45 [.int .i64 es.length, .slice (some ⟨w4.heap.size, 0, none⟩) 1 1]; simpa using this), (Sl.one (d := kEvent) (ok := fun j => j < w.heap.size) (w := w4) (y := e) (cs := [.string e.stream, .string e.type, .slice S n1 sa, .slice T n2 ta]) 42 (HEV.out _ (Below.refl _ _)) w4.heap.size rfl).alloc _, below_made (below_made (Below.refl _ _) (Nat.le_refl _) _) (Nat.le_refl _) _, Nat.le_succ _⟩
        | exact ⟨w4.heap.size + 1, w4.heap.size, rfl, Bx.under (by have := Bx.new (w4.alloc (.cells #[.string e.stream, .string e.type, .slice S n1 sa, .slice T n2 ta] 42)) 45 [.int .i64 es.length, .slice (some ⟨w4.heap.size, 0, none⟩) 1 1]; simpa using this) (below_drawn (Below.refl _ _)), ((Sl.one (d := kEvent) (ok := fun j => j < w.heap.size) (w := w4) (y := e) (cs := [.string e.stream, .string e.type, .slice S n1 sa, .slice T n2 ta]) 42 (HEV.out _ (Below.refl _ _)) w4.heap.size rfl).alloc _).below (below_drawn (Below.refl _ _)), below_drawn (below_made (below_made (Below.refl _ _) (Nat.le_refl _) _) (Nat.le_refl _) _), Nat.le_succ _⟩
    case rest =>
      obtain ⟨gx, E, rfl, hbx, hsl, hbc, hgw⟩ := hcut
      obtain ⟨w5, hw5⟩ : ∃ w5, w5 = wc := ⟨_, rfl⟩
      subst hw5
      clear HK CM CKD
      have HBC := Lib.hid hbc
      have HF5 := Lib.hid (HF4.out.below hbc)
      have HX5 := Lib.hid (HX4.out.under hbc)
      have HBX := Lib.hid hbx
      have HSL := Lib.hid hsl
      have HGB := Lib.hid (show ∀ j, B.has j → j < w4.heap.size from fun j hj => HF4.out.ix.lt j hj)
      have HEL := Lib.hid (show es.length ≤ 800 by have := HL0.out; omega)
      have hw4 : w.heap.size ≤ w4.heap.size := HF4.out.bel.size
      have hyw := HF4.out.yl
      have hy4 : y < w4.heap.size := HR4.out.bx.lt
      have hgo := HF5.out.offZ g HZG.out
      have HGO := Lib.hid hgo
      have CA : Hid (Calls Tryz.prog 14 #[.pointer (some ⟨B.b, 0, none⟩), .agg #[.int .i64 es.length, .slice (some ⟨E, 0, none⟩) 1 1]] w5.drew fun r w' => (∃ v, r = .returned v) ∧ Ix w' B (es ++ [e]) (fun j => j < w.heap.size ∨ j = y ∨ Z j) ∧ But B.has w5 w') := Lib.hid (by
        have hd : Below w5.heap.size w5 w5.drew := below_drawn (Below.refl _ _)
        refine (iAdd_any (bs := [e]) (after := es.length) (HF5.out.below hd).ix ((HSL.out.below hd).mono (fun j hj hB => hj.elim (fun h => by have := HF5.out.lo j hB; omega) (fun h => by have := HGB.out j hB; omega))) (fun x hx => by rw [List.mem_singleton.1 hx]; exact HIN.out.2 HM.out) (by have := HEL.out; simp; omega)).mono ?_
        rintro r w' ⟨A', c', e1, _, h1, h2⟩
        rw [addTo2 HM.out HEL.out] at h1
        exact ⟨⟨_, e1⟩, h1, (But.of_below hd).trans h2⟩)
      have HKA := Lib.hid (fun W (hb : But B.has w5 W) => show W.cell? ⟨g, 0, none⟩ = some (.pointer (some ⟨B.b, 0, none⟩)) ∧ W.cell? ⟨gx, 0, none⟩ = some (.int .i64 es.length) ∧ W.cell? ⟨gx, 1, none⟩ = some (.slice (some ⟨E, 0, none⟩) 1 1) from
        ⟨(HX5.out.stay (w' := W) (fun hk => hb.block _ hk HGO.out.1)).cell 0, (HBX.out.stay (w' := W) (fun hk => hb.block _ hk (fun hB => by have := HGB.out gx hB; omega))).cell 0, (HBX.out.stay (w' := W) (fun hk => hb.block _ hk (fun hB => by have := HGB.out gx hB; omega))).cell 1⟩)
      have HBW := Lib.hid (show But (fun k => B.has k ∨ k = y) w0 w5 from But.of_below (bthen HB1.out (bthen HB4.out hbc)))
      clear hbx hsl hbc hgo
      go_upto_region 17 with fail
      go_cut [141] (fun _ wx => Ix wx B (es ++ [e]) (fun j => j < w.heap.size ∨ j = y ∨ Z j) ∧ But B.has w5 wx)
      case first =>
        go_region_held3 (fun W => W.cell? ⟨g, 0, none⟩ = some (.pointer (some ⟨B.b, 0, none⟩)) ∧ W.cell? ⟨gx, 0, none⟩ = some (.int .i64 es.length) ∧ W.cell? ⟨gx, 1, none⟩ = some (.slice (some ⟨E, 0, none⟩) 1 1))
          (first | exact HKA.out _ HB6.out | exact HKA.out _ (But.of_below (below_drawn (Below.refl _ _))) | (assumption))
          (first | (go_at_call 14; go_fit CA.out; rintro r w6 ⟨⟨v6, rfl⟩, h6, hb6⟩; have HI6 := Lib.hid h6; have HB6 := Lib.hid hb6; clear h6 hb6))
        all_goals go_wp2_with fail
        all_goals go_meet
        all_goals exact ⟨HI6.out, HB6.out⟩
      case rest =>
        obtain ⟨hi6, hb6⟩ := hcut
        obtain ⟨w6, hw6⟩ : ∃ w6, w6 = wc := ⟨_, rfl⟩
        subst hw6
        obtain ⟨A5, c5, hr5⟩ := HF5.out.addX hb6
        have HI6 := Lib.hid hi6
        have HB6 := Lib.hid hb6
        have HR5 := Lib.hid hr5
        have HX6 := Lib.hid (HX5.out.stay (w' := w6) (fun hk => hb6.block _ hk HGO.out.1))
        have HBX6 := Lib.hid (HBX.out.stay (w' := w6) (fun hk => hb6.block _ hk (fun hB => by have := HGB.out gx hB; omega)))
        have HZ4 := Lib.hid (fun j (hj : Z j) => show w.heap.size ≤ j ∧ j < w4.heap.size ∧ j ≠ y from ⟨HF4.out.zl j hj, HF4.out.ix.xs j (.inr (.inr hj)), fun e => HR4.out.xy (.inr (e ▸ hj))⟩)
        have CB : Hid (Calls Tryz.prog 17 #[.pointer (some ⟨y, 0, none⟩), .agg #[.int .i64 es.length, .slice (some ⟨E, 0, none⟩) 1 1]] w6.drew fun r w' => (∃ v, r = .returned v) ∧ (∃ A' c', Rx w' y A' c' (recsOf (es ++ [e])) (fun j => B.has j ∨ Z j)) ∧ But (fun j => j = y) w6 w') := Lib.hid (by
          have hd : Below w6.heap.size w6 w6.drew := below_drawn (Below.refl _ _)
          refine (ref14AddOk (bs := [e]) (after := es.length) (HR5.out.below hd) (((HSL.out.stay HB6.out.size (fun j hj hl => HB6.out.block j hl (fun hB => hj.elim (fun h => by have := HF5.out.lo j hB; omega) (fun h => by have := HGB.out j hB; omega)))).below hd).mono (fun j hj => ⟨fun e1 => by omega, fun hB => hB.elim (fun hB => hj.elim (fun h => by have := HF5.out.lo j hB; omega) (fun h => by have := HGB.out j hB; omega)) (fun hz => by have := HZ4.out j hz; omega)⟩)) (fun x hx => by rw [List.mem_singleton.1 hx]; exact HIN.out.2 HM.out) (by have := HEL.out; simp; omega) (addErr2 HM.out HEL.out)).mono ?_
          rintro r w' ⟨v, A', c', e1, _, h1, h2⟩
          exact ⟨⟨_, e1⟩, ⟨A', c', h1.less (fun j hj => .inl hj)⟩, (But.of_below hd).trans h2⟩)
        have HKB := Lib.hid (fun W (hb : But (fun k => k = y) w6 W) => show W.cell? ⟨g, 2, none⟩ = some (.pointer (some ⟨y, 0, none⟩)) ∧ W.cell? ⟨gx, 0, none⟩ = some (.int .i64 es.length) ∧ W.cell? ⟨gx, 1, none⟩ = some (.slice (some ⟨E, 0, none⟩) 1 1) from
          ⟨(HX6.out.stay (w' := W) (fun hk => hb.block _ hk HGO.out.2.1)).cell 2, (HBX6.out.stay (w' := W) (fun hk => hb.block _ hk (by omega))).cell 0, (HBX6.out.stay (w' := W) (fun hk => hb.block _ hk (by omega))).cell 1⟩)
        clear hi6 hb6 hr5 CA HKA
        go_upto_region 18 with fail
        go_cut [147] (fun _ wx => (∃ A' c', Rx wx y A' c' (recsOf (es ++ [e])) (fun j => B.has j ∨ Z j)) ∧ But (fun k => k = y) w6 wx)
        case first =>
          go_region_held3 (fun W => W.cell? ⟨g, 2, none⟩ = some (.pointer (some ⟨y, 0, none⟩)) ∧ W.cell? ⟨gx, 0, none⟩ = some (.int .i64 es.length) ∧ W.cell? ⟨gx, 1, none⟩ = some (.slice (some ⟨E, 0, none⟩) 1 1))
            (first | exact HKB.out _ HB7.out | exact HKB.out _ (But.of_below (below_drawn (Below.refl _ _))) | (assumption))
            (first | (go_at_call 17; go_fit CB.out; rintro r w7 ⟨⟨v7, rfl⟩, h7, hb7⟩; have HR7 := Lib.hid h7; have HB7 := Lib.hid hb7; clear h7 hb7))
          all_goals go_wp2_with fail
          all_goals go_meet
          all_goals exact ⟨HR7.out, HB7.out⟩
        case rest =>
          obtain ⟨hr7, hb7⟩ := hcut
          have HR7 := Lib.hid hr7
          have HB7 := Lib.hid hb7
          clear hr7 hb7 CB HKB
          go_wp2_with fail
          go_ret
          refine ⟨rfl, ⟨es ++ [e], by simp, HI6.out.far (HB7.out.mono (fun j hj => .inr (.inl hj))), HR7.out, HF5.out.lo, hyw, HB7.out.below (HB6.out.below HF5.out.bel HF5.out.bel.size HF5.out.lo) (by have := HF5.out.bel.size; have := HB6.out.size; omega) (fun j hj => by rw [hj]; exact hyw), HF5.out.zl⟩, ?_⟩
          exact (HBW.out.trans (HB6.out.mono (fun j hj => .inl hj))).trans (HB7.out.mono (fun j hj => .inr hj))
  · have d0 : (m == 0) = false := by simp [hm0]
    clear hm0
    go_wp2_with (first | (go_at_call 46; go_fit CKD.out; rintro r w3 ⟨rfl, rfl⟩) | (go_at_call 33; go_fit CM.out; rintro r w4 ⟨rfl, hb4⟩; have HB4 := Lib.hid hb4; clear hb4))
    go_ret
    exact ⟨rfl, ⟨es, by omega, HF1.out.below HB4.out⟩, But.of_below (bthen HB1.out HB4.out)⟩
end Go.Proofs.YtfoghahidofegaaGreat

namespace Go.Proofs.YtfoghahidofegaaGreat
open Go.RowKit Go.Maps

set_option maxHeartbeats 16000000 in
set_option maxRecDepth 100000 in
theorem doesK_any {w w0 : World} {g : Nat} {B : Six} {y : Nat} {es : List Event} {s z n : Nat} {gs : List Grd} {vs : List Event} (h : Bth w w0 g B y es s z n gs vs gs vs) (hl : es.length ≤ 700)
    {oa ob : Int} (ha : (Lit.int .i64 oa).wf = true) (hkd : kindN oa 6 ≠ 5) {st : ByteArray} (hst : st.size ≤ maxLen) {v : Event} {q : List Clause} {n1 n2 n3 : Nat} {T F Q : Option Addr} {ct cf cq : Nat} (h1 : v.tags.length = n1) (h2 : v.fields.length = n2) (h3 : q.length = n3) (hT : Sl Kn.str (fun k => k < w.heap.size) w0 T ct v.tags) (hF : Sl kField (fun k => k < w.heap.size) w0 F cf v.fields) (hQ : Sl kClause (fun k => k < w.heap.size) w0 Q cq q) (hg : ∀ c ∈ q, goodClause c) (hin : (∀ s ∈ v.tags, s.size ≤ maxLen) ∧ (mayE v = 0 → EvIn v)) (hf : v.fields.length ≤ 1000000) :
    Calls Tryz.prog 49 #[.pointer (some ⟨g, 0, none⟩), .agg #[.int .i64 oa, .int .i64 ob, .string st, .string v.stream, .string v.type, .slice T n1 ct, .slice F n2 cf, .slice Q n3 cq]] w0 fun r w' => r = .returned (.bool true) ∧ ∃ gs' vs', Bth w w' g B y es s z n gs' vs' gs' vs' := by
  obtain ⟨W1, hW1⟩ : ∃ W1, W1 = w0.alloc (.cells #[.int .i64 oa, .int .i64 ob, .string st, .string v.stream, .string v.type, .slice T n1 ct, .slice F n2 cf, .slice Q n3 cq] 77) := ⟨_, rfl⟩
  have HW1 := Lib.hid hW1
  have hb1 : Below w0.heap.size w0 W1 := by rw [hW1]; exact (Below.refl _ _).alloc (Nat.le_refl _) _
  have hxo : Bx W1 w0.heap.size 77 [.int .i64 oa, .int .i64 ob, .string st, .string v.stream, .string v.type, .slice T n1 ct, .slice F n2 cf, .slice Q n3 cq] := by rw [hW1]; exact Bx.new w0 _ _
  have H1 := Lib.hid (h.below hb1)
  have hsl := h.a.lt
  have hzl := h.r.lt
  have HGS := Lib.hid h.gs
  have HKG := Lib.hid (fun W (hb : But (fun k => k = s ∨ k = z) W1 W) => show W.cell? ⟨g, 0, none⟩ = some (.pointer (some ⟨B.b, 0, none⟩)) ∧ W.cell? ⟨g, 1, none⟩ = some (.pointer (some ⟨s, 0, none⟩)) ∧ W.cell? ⟨g, 2, none⟩ = some (.pointer (some ⟨y, 0, none⟩)) ∧ W.cell? ⟨g, 3, none⟩ = some (.pointer (some ⟨z, 0, none⟩)) from
    have hB := H1.out.bx.stay (w' := W) (fun hk => hb.block _ hk (fun e => e.elim HGS.out.1 HGS.out.2.1))
    ⟨hB.cell 0, hB.cell 1, hB.cell 2, hB.cell 3⟩)
  have HKO := Lib.hid (fun W (hb : But (fun k => k = s ∨ k = z) W1 W) => show W.cell? ⟨w0.heap.size, 1, none⟩ = some (.int .i64 ob) ∧ W.cell? ⟨w0.heap.size, 2, none⟩ = some (.string st) ∧ W.cell? ⟨w0.heap.size, 3, none⟩ = some (.string v.stream) ∧ W.cell? ⟨w0.heap.size, 4, none⟩ = some (.string v.type) ∧ W.cell? ⟨w0.heap.size, 5, none⟩ = some (.slice T n1 ct) ∧ W.cell? ⟨w0.heap.size, 6, none⟩ = some (.slice F n2 cf) ∧ W.cell? ⟨w0.heap.size, 7, none⟩ = some (.slice Q n3 cq) from
    have hB := hxo.stay (w' := W) (fun hk => hb.block _ hk (fun e => by omega))
    ⟨hB.cell 1, hB.cell 2, hB.cell 3, hB.cell 4, hB.cell 5, hB.cell 6, hB.cell 7⟩)
  have HT := Lib.hid (hT.below hb1)
  have HF := Lib.hid (hF.below hb1)
  have HQ := Lib.hid (hQ.below hb1)
  have HIN := Lib.hid hin
  have HQG := Lib.hid hg
  have HST := Lib.hid hst
  have HL0 := Lib.hid hl
  have HN1 := Lib.hid h1
  have HN2 := Lib.hid h2
  have HN3 := Lib.hid h3
  have HFL := Lib.hid hf
  obtain ⟨kd, hkd'⟩ : ∃ kd, kindN oa 6 = kd := ⟨_, rfl⟩
  have hlt6 : kd < 6 := by rw [← hkd']; exact kindN_lt oa (by omega)
  have CKD := Lib.hid (kind19_any (w := W1) oa ha 6 (by omega) (by omega))
  rw [hkd'] at CKD hkd
  have k0 := hxo.cell 0
  simp only [List.getElem?_cons_zero] at k0
  clear h ha hT hF hQ hin hb1 hxo h1 h2 h3 hst hl hg hf hkd'
  go_enter Tryz.func49, Tryz.ntmps49
  go_upto_region 1 with fail
  rw [← HW1.out]
  clear hW1 HW1
  have hcase : kd = 0 ∨ kd = 1 ∨ kd = 4 ∨ (kd ≠ 0 ∧ kd ≠ 1 ∧ kd ≠ 4 ∧ kd ≠ 5) := by omega
  clear hlt6 hkd
  rcases hcase with rfl | rfl | rfl | hk4
  · obtain ⟨e, he⟩ : ∃ e, addE gs (gRead es n st) = e := ⟨_, rfl⟩
    obtain ⟨R, hR⟩ : ∃ R, rdR es n gs st = R := ⟨_, rfl⟩
    obtain ⟨K, hK⟩ : ∃ K, keepL gs (gRead es n st) = K := ⟨_, rfl⟩
    have hd1 : Below W1.heap.size W1 W1.drew := below_drawn (Below.refl _ _)
    have CA := Lib.hid (show Calls Tryz.prog 31 #[.pointer (some ⟨s, 0, none⟩), .pointer (some ⟨B.b, 0, none⟩), .string st] W1.drew fun r w' => ∃ (A : Option Addr) (c : Nat), r = .returned (.tuple #[.slice A R.length c, .int .i64 e]) ∧ Sl kRec (fun k => k ≠ z) w' A c R ∧ Bth w w' g B y es s z n K vs gs vs ∧ But (fun k => k = s) W1 w' from by
      have HD := H1.out.below hd1
      have := sRead HD.a HD.f.ix (.inr (.inr (.inr (.inl rfl)))) HST.out
      rw [he, hR, hK] at this
      refine this.mono ?_
      rintro r w' ⟨A, c, e1, h1, h2, h3⟩
      exact ⟨A, c, e1, h1.mono (fun k hk e2 => by have := H1.out.r.lt; have hk' : W1.heap.size ≤ k := hk; omega), HD.stepA h2 h3, (But.of_below hd1).trans h3⟩)
    clear hd1
    go_upto_region 3 with (go_at_call 46; go_fit CKD.out; rintro r w3 ⟨rfl, rfl⟩)
    clear k0
    go_cut [5, 6] (fun l e' wx => ∃ (A : Option Addr) (c : Nat), l = .slice A R.length c ∧ e' = .int .i64 e ∧ Sl kRec (fun k => k ≠ z) wx A c R ∧ Bth w wx g B y es s z n K vs gs vs ∧ But (fun k => k = s) W1 wx)
    case first =>
      have HKA := Lib.hid (fun W (hb : But (fun k => k = s ∨ k = z) W1 W) => show W.cell? ⟨g, 0, none⟩ = some (.pointer (some ⟨B.b, 0, none⟩)) ∧ W.cell? ⟨g, 1, none⟩ = some (.pointer (some ⟨s, 0, none⟩)) ∧ W.cell? ⟨w0.heap.size, 2, none⟩ = some (.string st) from ⟨(HKG.out W hb).1, (HKG.out W hb).2.1, (HKO.out W hb).2.1⟩)
      go_region_held3 (fun W => W.cell? ⟨g, 0, none⟩ = some (.pointer (some ⟨B.b, 0, none⟩)) ∧ W.cell? ⟨g, 1, none⟩ = some (.pointer (some ⟨s, 0, none⟩)) ∧ W.cell? ⟨w0.heap.size, 2, none⟩ = some (.string st))
        (first | exact HKA.out _ (HB5.out.mono (fun k hk => .inl hk)) | exact HKA.out _ (But.of_below (below_drawn (Below.refl _ _))) | (assumption))
        (first | (go_at_call 31; go_fit CA.out; rintro r w5 ⟨A5, c5, rfl, h51, h52, hb5⟩; have H51 := Lib.hid h51; have H52 := Lib.hid h52; have HB5 := Lib.hid hb5; clear h51 h52 hb5))
      all_goals go_wp2_with fail
      all_goals go_meet
      all_goals exact ⟨A5, c5, rfl, rfl, H51.out, H52.out, HB5.out⟩
    case rest =>
      obtain ⟨A5, c5, rfl, rfl, h51, h52, hb5⟩ := hcut
      obtain ⟨w5, hw5⟩ : ∃ w5, w5 = wc := ⟨_, rfl⟩
      subst hw5
      have H51 := Lib.hid h51
      have H52 := Lib.hid h52
      have HB5 := Lib.hid hb5
      clear h51 h52 hb5 CA
      have CR := Lib.hid (show Calls Tryz.prog 89 #[.pointer (some ⟨z, 0, none⟩), .pointer (some ⟨y, 0, none⟩), .string st] w5.drew fun r w' => ∃ (A : Option Addr) (c : Nat), r = .returned (.tuple #[.slice A R.length c, .int .i64 e]) ∧ SlR w' A c R ∧ SlR w' A5 c5 R ∧ Bth w w' g B y es s z n K vs K vs ∧ But (fun k => k = z) w5 w' from by
        have hd5 : Below w5.heap.size w5 w5.drew := below_drawn (Below.refl _ _)
        have HD := H52.out.below hd5
        obtain ⟨A0, c0, hrx⟩ := HD.f.rx
        have := refRead19 HD.r hrx (by have := HL0.out; omega) (.inr (.inr (.inr rfl))) HST.out
        rw [he, hR, hK] at this
        refine this.mono ?_
        rintro r w' ⟨A, c, e1, h1, h2, h3⟩
        exact ⟨A, c, e1, h1, ((H51.out.below hd5).stay h3.size (fun k hk hl => h3.block k hl hk)).any, HD.stepR h2 h3, (But.of_below hd5).trans h3⟩)
      clear he hR hK
      go_upto_region 4 with fail
      go_cut [7, 8] (fun l e' wx => ∃ (A : Option Addr) (c : Nat), l = .slice A R.length c ∧ e' = .int .i64 e ∧ SlR wx A c R ∧ SlR wx A5 c5 R ∧ Bth w wx g B y es s z n K vs K vs)
      case first =>
        have HKA := Lib.hid (fun W (hb : But (fun k => k = z) w5 W) => show W.cell? ⟨g, 2, none⟩ = some (.pointer (some ⟨y, 0, none⟩)) ∧ W.cell? ⟨g, 3, none⟩ = some (.pointer (some ⟨z, 0, none⟩)) ∧ W.cell? ⟨w0.heap.size, 2, none⟩ = some (.string st) from
          have hb' := (HB5.out.mono (fun k hk => .inl hk)).trans (hb.mono (fun k hk => .inr hk))
          ⟨(HKG.out W hb').2.2.1, (HKG.out W hb').2.2.2, (HKO.out W hb').2.1⟩)
        go_region_held3 (fun W => W.cell? ⟨g, 2, none⟩ = some (.pointer (some ⟨y, 0, none⟩)) ∧ W.cell? ⟨g, 3, none⟩ = some (.pointer (some ⟨z, 0, none⟩)) ∧ W.cell? ⟨w0.heap.size, 2, none⟩ = some (.string st))
          (first | exact HKA.out _ HB6.out | exact HKA.out _ (But.of_below (below_drawn (Below.refl _ _))) | (assumption))
          (first | (go_at_call 89; go_fit CR.out; rintro r w6 ⟨A6, c6, rfl, h61, h62, h63, hb6⟩; have H61 := Lib.hid h61; have H62 := Lib.hid h62; have H63 := Lib.hid h63; have HB6 := Lib.hid hb6; clear h61 h62 h63 hb6))
        all_goals go_wp2_with fail
        all_goals go_meet
        all_goals exact ⟨A6, c6, rfl, rfl, H61.out, H62.out, H63.out⟩
      case rest =>
        obtain ⟨A6, c6, rfl, rfl, h61, h62, h63⟩ := hcut
        have H63 := Lib.hid h63
        have CS := Lib.hid (show Calls Tryz.prog 18 #[.slice A5 R.length c5, .slice A6 R.length c6] wc fun r w' => r = .returned (.bool true) ∧ Below wc.heap.size wc w' from by
          have := ref14Same_any h62 h61
          rw [sameRs_refl] at this
          exact this)
        clear h61 h62 h63 CR H51 H52 HB5 HKG HKO H1
        go_wp2_with (go_at_call 18; go_fit CS.out; rintro r w9 ⟨rfl, hb9⟩; have HB9 := Lib.hid hb9; clear hb9)
        go_ret
        exact ⟨by first | rfl | simp, K, vs, H63.out.below HB9.out⟩
  · obtain ⟨e, he⟩ : ∃ e, addE gs (gAsk n q) = e := ⟨_, rfl⟩
    obtain ⟨R, hR⟩ : ∃ R, akR es n gs q = R := ⟨_, rfl⟩
    obtain ⟨K, hK⟩ : ∃ K, keepL gs (gAsk n q) = K := ⟨_, rfl⟩
    have hd1 : Below W1.heap.size W1 W1.drew := below_drawn (Below.refl _ _)
    have CA := Lib.hid (show Calls Tryz.prog 41 #[.pointer (some ⟨s, 0, none⟩), .pointer (some ⟨B.b, 0, none⟩), .agg #[.slice Q n3 cq]] W1.drew fun r w' => ∃ (A : Option Addr) (c : Nat), r = .returned (.tuple #[.slice A R.length c, .int .i64 e]) ∧ Sl kRec (fun k => k ≠ z) w' A c R ∧ Bth w w' g B y es s z n K vs gs vs ∧ But (fun k => k = s) W1 w' from by
      have HD := H1.out.below hd1
      have := sQuery HD.a HD.f.ix (.inr (.inr (.inr (.inl rfl)))) ((HQ.out.below hd1).mono (fun j hj => HD.freeA j hj)) HQG.out
      rw [he, hR, hK, HN3.out] at this
      refine this.mono ?_
      rintro r w' ⟨A, c, e1, h1, h2, h3⟩
      exact ⟨A, c, e1, h1.mono (fun k hk e2 => by have := H1.out.r.lt; have hk' : W1.heap.size ≤ k := hk; omega), HD.stepA h2 h3, (But.of_below hd1).trans h3⟩)
    clear hd1
    go_upto_region 8 with (go_at_call 46; go_fit CKD.out; rintro r w3 ⟨rfl, rfl⟩)
    clear k0
    go_cut [10, 11] (fun l e' wx => ∃ (A : Option Addr) (c : Nat), l = .slice A R.length c ∧ e' = .int .i64 e ∧ Sl kRec (fun k => k ≠ z) wx A c R ∧ Bth w wx g B y es s z n K vs gs vs ∧ But (fun k => k = s) W1 wx)
    case first =>
      have HKA := Lib.hid (fun W (hb : But (fun k => k = s ∨ k = z) W1 W) => show W.cell? ⟨g, 0, none⟩ = some (.pointer (some ⟨B.b, 0, none⟩)) ∧ W.cell? ⟨g, 1, none⟩ = some (.pointer (some ⟨s, 0, none⟩)) ∧ W.cell? ⟨w0.heap.size, 7, none⟩ = some (.slice Q n3 cq) from ⟨(HKG.out W hb).1, (HKG.out W hb).2.1, (HKO.out W hb).2.2.2.2.2.2⟩)
      go_region_held3 (fun W => W.cell? ⟨g, 0, none⟩ = some (.pointer (some ⟨B.b, 0, none⟩)) ∧ W.cell? ⟨g, 1, none⟩ = some (.pointer (some ⟨s, 0, none⟩)) ∧ W.cell? ⟨w0.heap.size, 7, none⟩ = some (.slice Q n3 cq))
        (first | exact HKA.out _ (HB5.out.mono (fun k hk => .inl hk)) | exact HKA.out _ (But.of_below (below_drawn (Below.refl _ _))) | (assumption))
        (first | (go_at_call 41; go_fit CA.out; rintro r w5 ⟨A5, c5, rfl, h51, h52, hb5⟩; have H51 := Lib.hid h51; have H52 := Lib.hid h52; have HB5 := Lib.hid hb5; clear h51 h52 hb5))
      all_goals go_wp2_with fail
      all_goals go_meet
      all_goals exact ⟨A5, c5, rfl, rfl, H51.out, H52.out, HB5.out⟩
    case rest =>
      obtain ⟨A5, c5, rfl, rfl, h51, h52, hb5⟩ := hcut
      obtain ⟨w5, hw5⟩ : ∃ w5, w5 = wc := ⟨_, rfl⟩
      subst hw5
      have H51 := Lib.hid h51
      have H52 := Lib.hid h52
      have HB5 := Lib.hid hb5
      clear h51 h52 hb5 CA
      have CR := Lib.hid (show Calls Tryz.prog 90 #[.pointer (some ⟨z, 0, none⟩), .pointer (some ⟨y, 0, none⟩), .agg #[.slice Q n3 cq]] w5.drew fun r w' => ∃ (A : Option Addr) (c : Nat), r = .returned (.tuple #[.slice A R.length c, .int .i64 e]) ∧ SlR w' A c R ∧ SlR w' A5 c5 R ∧ Bth w w' g B y es s z n K vs K vs ∧ But (fun k => k = z) w5 w' from by
        have hd5 : Below w5.heap.size w5 w5.drew := below_drawn (Below.refl _ _)
        have HD := H52.out.below hd5
        obtain ⟨A0, c0, hrx⟩ := HD.f.rx
        have := refQuery19 HD.r hrx (by have := HL0.out; omega) (.inr (.inr (.inr rfl))) (((HQ.out.stay HB5.out.size (fun k hk hl => HB5.out.block k hl (fun e => by have := (H1.out.freeA k hk).1; omega))).below hd5).mono (fun j hj => HD.freeR j hj)) HQG.out
        rw [he, hR, hK, HN3.out] at this
        refine this.mono ?_
        rintro r w' ⟨A, c, e1, h1, h2, h3⟩
        exact ⟨A, c, e1, h1, ((H51.out.below hd5).stay h3.size (fun k hk hl => h3.block k hl hk)).any, HD.stepR h2 h3, (But.of_below hd5).trans h3⟩)
      clear he hR hK
      go_upto_region 9 with fail
      go_cut [12, 13] (fun l e' wx => ∃ (A : Option Addr) (c : Nat), l = .slice A R.length c ∧ e' = .int .i64 e ∧ SlR wx A c R ∧ SlR wx A5 c5 R ∧ Bth w wx g B y es s z n K vs K vs)
      case first =>
        have HKA := Lib.hid (fun W (hb : But (fun k => k = z) w5 W) => show W.cell? ⟨g, 2, none⟩ = some (.pointer (some ⟨y, 0, none⟩)) ∧ W.cell? ⟨g, 3, none⟩ = some (.pointer (some ⟨z, 0, none⟩)) ∧ W.cell? ⟨w0.heap.size, 7, none⟩ = some (.slice Q n3 cq) from
          have hb' := (HB5.out.mono (fun k hk => .inl hk)).trans (hb.mono (fun k hk => .inr hk))
          ⟨(HKG.out W hb').2.2.1, (HKG.out W hb').2.2.2, (HKO.out W hb').2.2.2.2.2.2⟩)
        go_region_held3 (fun W => W.cell? ⟨g, 2, none⟩ = some (.pointer (some ⟨y, 0, none⟩)) ∧ W.cell? ⟨g, 3, none⟩ = some (.pointer (some ⟨z, 0, none⟩)) ∧ W.cell? ⟨w0.heap.size, 7, none⟩ = some (.slice Q n3 cq))
          (first | exact HKA.out _ HB6.out | exact HKA.out _ (But.of_below (below_drawn (Below.refl _ _))) | (assumption))
          (first | (go_at_call 90; go_fit CR.out; rintro r w6 ⟨A6, c6, rfl, h61, h62, h63, hb6⟩; have H61 := Lib.hid h61; have H62 := Lib.hid h62; have H63 := Lib.hid h63; have HB6 := Lib.hid hb6; clear h61 h62 h63 hb6))
        all_goals go_wp2_with fail
        all_goals go_meet
        all_goals exact ⟨A6, c6, rfl, rfl, H61.out, H62.out, H63.out⟩
      case rest =>
        obtain ⟨A6, c6, rfl, rfl, h61, h62, h63⟩ := hcut
        have H63 := Lib.hid h63
        have CS := Lib.hid (show Calls Tryz.prog 18 #[.slice A5 R.length c5, .slice A6 R.length c6] wc fun r w' => r = .returned (.bool true) ∧ Below wc.heap.size wc w' from by
          have := ref14Same_any h62 h61
          rw [sameRs_refl] at this
          exact this)
        clear h61 h62 h63 CR H51 H52 HB5 HKG HKO H1
        go_wp2_with (go_at_call 18; go_fit CS.out; rintro r w9 ⟨rfl, hb9⟩; have HB9 := Lib.hid hb9; clear hb9)
        go_ret
        exact ⟨by first | rfl | simp, K, vs, H63.out.below HB9.out⟩
  · obtain ⟨e, he⟩ : ∃ e, chkE es gs vs = e := ⟨_, rfl⟩
    have CA := Lib.hid (fun W (R : Prop) (hW : Below W1.heap.size W1 W ∧ R) => show Calls Tryz.prog 38 #[.pointer (some ⟨s, 0, none⟩), .pointer (some ⟨B.b, 0, none⟩)] W fun r w' => r = .returned (.int .i64 e) ∧ Below W.heap.size W w' from by rw [← he]; exact sCheck (H1.out.below hW.1).a (H1.out.below hW.1).f.ix)
    have CR := Lib.hid (fun W (R : Prop) (hW : Below W1.heap.size W1 W ∧ R) => show Calls Tryz.prog 91 #[.pointer (some ⟨z, 0, none⟩), .pointer (some ⟨y, 0, none⟩)] W fun r w' => r = .returned (.int .i64 e) ∧ Below W.heap.size W w' from by
      obtain ⟨A0, c0, hrx⟩ := (H1.out.below hW.1).f.rx
      rw [← he]
      exact refCheck19 (H1.out.below hW.1).r hrx (by have := HL0.out; omega))
    have HK := Lib.hid (fun W (hW : Below W1.heap.size W1 W) => show Below W1.heap.size W1 W ∧ W.cell? ⟨g, 0, none⟩ = some (.pointer (some ⟨B.b, 0, none⟩)) ∧ W.cell? ⟨g, 1, none⟩ = some (.pointer (some ⟨s, 0, none⟩)) ∧ W.cell? ⟨g, 2, none⟩ = some (.pointer (some ⟨y, 0, none⟩)) ∧ W.cell? ⟨g, 3, none⟩ = some (.pointer (some ⟨z, 0, none⟩)) from ⟨hW, HKG.out W (But.of_below hW)⟩)
    clear he
    go_upto_region 13 with (go_at_call 46; go_fit CKD.out; rintro r w3 ⟨rfl, rfl⟩)
    clear k0
    go_cut [4] (fun b wx => b = .bool true ∧ Below W1.heap.size W1 wx)
    case first =>
      go_region_held3 (fun W => Below W1.heap.size W1 W ∧ W.cell? ⟨g, 0, none⟩ = some (.pointer (some ⟨B.b, 0, none⟩)) ∧ W.cell? ⟨g, 1, none⟩ = some (.pointer (some ⟨s, 0, none⟩)) ∧ W.cell? ⟨g, 2, none⟩ = some (.pointer (some ⟨y, 0, none⟩)) ∧ W.cell? ⟨g, 3, none⟩ = some (.pointer (some ⟨z, 0, none⟩)))
        (first | exact HK.out _ (below_drawn (Below.refl _ _)) | (assumption) | exact HK.out _ (bthen (And.left (by assumption : Below W1.heap.size W1 _ ∧ _)) (by assumption)))
        (first
          | (go_at_call 38; go_fit (CA.out _ _ (by assumption)); rintro r w4 ⟨rfl, hb4⟩)
          | (go_at_call 91; go_fit (CR.out _ _ (by assumption)); rintro r w5 ⟨rfl, hb5⟩))
      all_goals go_wp2_with fail
      all_goals go_meet
      all_goals exact ⟨by first | rfl | simp, And.left (by assumption : Below W1.heap.size W1 _ ∧ _)⟩
    case rest =>
      obtain ⟨rfl, hb⟩ := hcut
      have HB := Lib.hid hb
      clear hb CA CR HK
      go_wp2_with fail
      go_ret
      exact ⟨rfl, gs, vs, H1.out.below HB.out⟩
  · obtain ⟨ki, hki⟩ : ∃ ki : Int, (kd : Int) = ki := ⟨_, rfl⟩
    rw [hki] at CKD
    have d0 : (ki == 0) = false := by rw [← hki]; simp; omega
    have d1 : (ki == 1) = false := by rw [← hki]; simp; omega
    have d4 : (ki == 4) = false := by rw [← hki]; simp; omega
    have d5 : (ki == 5) = false := by rw [← hki]; simp; omega
    have f0 : ¬ ki = 0 := by omega
    have f1 : ¬ ki = 1 := by omega
    have f4 : ¬ ki = 4 := by omega
    have f5 : ¬ ki = 5 := by omega
    obtain ⟨e, he⟩ : ∃ e, appE es n gs vs v ob = e := ⟨_, rfl⟩
    obtain ⟨G', hG'⟩ : ∃ G', appG es n gs vs v ob = G' := ⟨_, rfl⟩
    obtain ⟨V', hV'⟩ : ∃ V', appV es n gs vs v ob = V' := ⟨_, rfl⟩
    have CA := Lib.hid (fun W (hW : But (fun k => k = z) W1 W) => show Calls Tryz.prog 34 #[.pointer (some ⟨s, 0, none⟩), .pointer (some ⟨B.b, 0, none⟩), .agg #[.string v.stream, .string v.type, .slice T n1 ct, .slice F n2 cf], .int .i64 ob] W fun r w' => r = .returned (.int .i64 e) ∧ Ss w' 127 s n G' V' (fun k => B.has k ∨ k = y ∨ k = g ∨ k = z) ∧ But (fun k => k = s) W w' from by
      have hfr := fun j (hj : j < w.heap.size) => (H1.out.freeA j hj).1
      have hfz := fun j (hj : j < w.heap.size) => (H1.out.freeR j hj).1
      have := sAppend (H1.out.a.far (hW.mono (fun k hk => .inr (.inr (.inr hk))))) (H1.out.f.far (hW.mono (fun k hk => .inr (.inr hk)))).ix (.inr (.inr (.inr (.inl rfl)))) (v := v) ((HT.out.stay hW.size (fun k hk hl => hW.block k hl (hfz k hk))).mono hfr) ((HF.out.stay hW.size (fun k hk hl => hW.block k hl (hfz k hk))).mono hfr) HFL.out HIN.out.1 HIN.out.2 ob
      unfold vEvent at this
      rw [he, hG', hV', HN1.out, HN2.out] at this
      exact this)
    have CR := Lib.hid (fun W (hW : But (fun k => k = s) W1 W) => show Calls Tryz.prog 92 #[.pointer (some ⟨z, 0, none⟩), .pointer (some ⟨y, 0, none⟩), .agg #[.string v.stream, .string v.type, .slice T n1 ct, .slice F n2 cf], .int .i64 ob] W fun r w' => r = .returned (.int .i64 e) ∧ Ss w' 98 z n G' V' (fun k => B.has k ∨ k = y ∨ k = g ∨ k = s) ∧ But (fun k => k = z) W w' from by
      have hfr := fun j (hj : j < w.heap.size) => H1.out.freeR j hj
      have hfs := fun j (hj : j < w.heap.size) => (H1.out.freeA j hj).1
      obtain ⟨A0, c0, hrx⟩ := (H1.out.f.far (hW.mono (fun k hk => .inr (.inl hk)))).rx
      have := refAppend19 (H1.out.r.far (hW.mono (fun k hk => .inr (.inr (.inr hk))))) hrx (by have := HL0.out; omega) (.inr (.inr (.inr rfl))) (v := v) ((HT.out.stay hW.size (fun k hk hl => hW.block k hl (hfs k hk))).mono hfr) ((HF.out.stay hW.size (fun k hk hl => hW.block k hl (hfs k hk))).mono hfr) HFL.out HIN.out.1 HIN.out.2 ob
      unfold vEvent at this
      rw [he, hG', hV', HN1.out, HN2.out] at this
      exact this)
    have HK := Lib.hid (fun W (hb : But (fun k => k = s ∨ k = z) W1 W) => show W.cell? ⟨g, 0, none⟩ = some (.pointer (some ⟨B.b, 0, none⟩)) ∧ W.cell? ⟨g, 1, none⟩ = some (.pointer (some ⟨s, 0, none⟩)) ∧ W.cell? ⟨g, 2, none⟩ = some (.pointer (some ⟨y, 0, none⟩)) ∧ W.cell? ⟨g, 3, none⟩ = some (.pointer (some ⟨z, 0, none⟩)) ∧ W.cell? ⟨w0.heap.size, 1, none⟩ = some (.int .i64 ob) ∧ W.cell? ⟨w0.heap.size, 3, none⟩ = some (.string v.stream) ∧ W.cell? ⟨w0.heap.size, 4, none⟩ = some (.string v.type) ∧ W.cell? ⟨w0.heap.size, 5, none⟩ = some (.slice T n1 ct) ∧ W.cell? ⟨w0.heap.size, 6, none⟩ = some (.slice F n2 cf) from
      have hG := HKG.out W hb
      have hO := HKO.out W hb
      ⟨hG.1, hG.2.1, hG.2.2.1, hG.2.2.2, hO.1, hO.2.2.1, hO.2.2.2.1, hO.2.2.2.2.1, hO.2.2.2.2.2.1⟩)
    have HD1 := Lib.hid (fun (P : Nat → Prop) => show But P W1 W1.drew from But.of_below (below_drawn (Below.refl _ _)))
    clear he hG' hV' hki hk4 HKG HKO
    go_upto_region 20 with (go_at_call 46; go_fit CKD.out; rintro r w3 ⟨rfl, rfl⟩)
    clear k0
    go_cut [4] (fun b wx => b = .bool true ∧ Bth w wx g B y es s z n G' V' G' V')
    case first =>
      go_region_held3 (fun W => W.cell? ⟨g, 0, none⟩ = some (.pointer (some ⟨B.b, 0, none⟩)) ∧ W.cell? ⟨g, 1, none⟩ = some (.pointer (some ⟨s, 0, none⟩)) ∧ W.cell? ⟨g, 2, none⟩ = some (.pointer (some ⟨y, 0, none⟩)) ∧ W.cell? ⟨g, 3, none⟩ = some (.pointer (some ⟨z, 0, none⟩)) ∧ W.cell? ⟨w0.heap.size, 1, none⟩ = some (.int .i64 ob) ∧ W.cell? ⟨w0.heap.size, 3, none⟩ = some (.string v.stream) ∧ W.cell? ⟨w0.heap.size, 4, none⟩ = some (.string v.type) ∧ W.cell? ⟨w0.heap.size, 5, none⟩ = some (.slice T n1 ct) ∧ W.cell? ⟨w0.heap.size, 6, none⟩ = some (.slice F n2 cf))
        (first
          | exact HK.out _ ((HBA.out.mono (fun k hk => .inl hk)).trans (HBR2.out.mono (fun k hk => .inr hk)))
          | exact HK.out _ ((HBR.out.mono (fun k hk => .inr hk)).trans (HBA2.out.mono (fun k hk => .inl hk)))
          | exact HK.out _ (HBA.out.mono (fun k hk => .inl hk))
          | exact HK.out _ (HBR.out.mono (fun k hk => .inr hk))
          | exact HK.out _ (HD1.out _) | (assumption))
        (first
          | (go_at_call 34; go_fit (CA.out _ HBR.out); rintro r w5 ⟨rfl, h5, hb5⟩; have HA5 := Lib.hid h5; have HBA2 := Lib.hid hb5; clear h5 hb5)
          | (go_at_call 92; go_fit (CR.out _ HBA.out); rintro r w6 ⟨rfl, h6, hb6⟩; have HR6 := Lib.hid h6; have HBR2 := Lib.hid hb6; clear h6 hb6)
          | (go_at_call 34; go_fit (CA.out _ (HD1.out _)); rintro r w5 ⟨rfl, h5, hb5⟩; have HA5 := Lib.hid h5; have HBA := Lib.hid ((HD1.out _).trans hb5); clear h5 hb5)
          | (go_at_call 92; go_fit (CR.out _ (HD1.out _)); rintro r w6 ⟨rfl, h6, hb6⟩; have HR6 := Lib.hid h6; have HBR := Lib.hid ((HD1.out _).trans hb6); clear h6 hb6))
      all_goals go_wp2_with fail
      all_goals go_meet
      all_goals first
        | exact ⟨by first | rfl | simp, (H1.out.stepA HA5.out HBA.out).stepR HR6.out HBR2.out⟩
        | exact ⟨by first | rfl | simp, (H1.out.stepR HR6.out HBR.out).stepA HA5.out HBA2.out⟩
    case rest =>
      obtain ⟨rfl, hb⟩ := hcut
      have HB := Lib.hid hb
      clear hb CA CR HK
      go_wp2_with fail
      go_ret
      exact ⟨rfl, G', V', HB.out⟩
end Go.Proofs.YtfoghahidofegaaGreat

namespace Go.Proofs.YtfoghahidofegaaGreat
open Go.RowKit Go.Maps

def sbZ9 : ByteArray := ⟨#[122]⟩
abbrev zzE9 : Event := evOf sbZ9 sbZ9
theorem zz9_may : mayE zzE9 = 0 := by decide +kernel
theorem zz9_in : EvIn zzE9 := evOf_in (by decide) (by decide)
/-- As Bth, with the session o besides, that was copied. -/
structure Bo (w wr : World) (g : Nat) (B : Six) (y : Nat) (es : List Event) (s z o n : Nat) (gs : List Grd) (vs : List Event) (g' : List Grd) (v' : List Event) : Prop where
  bx : Bx wr g 94 [.pointer (some ⟨B.b, 0, none⟩), .pointer (some ⟨s, 0, none⟩), .pointer (some ⟨y, 0, none⟩), .pointer (some ⟨z, 0, none⟩)]
  f : F2 w wr B y es (fun k => (k = g ∨ k = s ∨ k = z) ∨ k = o)
  a : Ss wr 127 s n gs vs (fun k => (B.has k ∨ k = y ∨ k = g ∨ k = z) ∨ k = o)
  r : Ss wr 98 z n gs vs (fun k => (B.has k ∨ k = y ∨ k = g ∨ k = s) ∨ k = o)
  o : Ss wr 127 o n g' v' (fun k => B.has k ∨ k = y ∨ k = g ∨ k = z ∨ k = s)
section
variable {w wr w' w1 : World} {g : Nat} {B : Six} {y : Nat} {es es' : List Event} {s z o n : Nat} {gs ga g' g2 : List Grd} {vs va v' v2 : List Event}
theorem Bo.start (h : Bth w wr g B y es o z n gs vs gs vs) (hc : Ss w1 127 s n gs vs (fun k => (B.has k ∨ k = y ∨ k = g ∨ k = z) ∨ k = o)) (hb : Below wr.heap.size wr w1) (hl : wr.heap.size ≤ s) :
    Bo w (w1.setCell ⟨g, 1, none⟩ (.pointer (some ⟨s, 0, none⟩))) g B y es s z o n gs vs gs vs := by
  have hs := hc.lt
  have hbut : But (fun k => k = g) w1 (w1.setCell ⟨g, 1, none⟩ (.pointer (some ⟨s, 0, none⟩))) := But.setCell (S := fun k => k = g) w1 (p := ⟨g, 1, none⟩) rfl _
  have f1 : F2 w w1 B y es (fun k => (k = g ∨ k = s ∨ k = z) ∨ k = o) := h.f.fence hb (fun k hk => by
    rcases hk with (hk | hk | hk) | hk
    · exact .inl (.inl hk)
    · exact .inr (by subst hk; exact ⟨hl, hs⟩)
    · exact .inl (.inr (.inr hk))
    · exact .inl (.inr (.inl hk)))
  have r1 : Ss w1 98 z n gs vs (fun k => (B.has k ∨ k = y ∨ k = g ∨ k = s) ∨ k = o) := h.r.move (But.of_below hb) (fun k hk => by
    rcases hk with (hk | hk | hk | hk) | hk
    · exact .inl (.inl hk)
    · exact .inl (.inr (.inl hk))
    · exact .inl (.inr (.inr (.inl hk)))
    · exact .inr (by subst hk; exact ⟨hl, hs⟩)
    · exact .inl (.inr (.inr (.inr hk))))
  have o1 : Ss w1 127 o n gs vs (fun k => B.has k ∨ k = y ∨ k = g ∨ k = z ∨ k = s) := h.a.move (But.of_below hb) (fun k hk => by
    rcases hk with hk | hk | hk | hk | hk
    · exact .inl (.inl hk)
    · exact .inl (.inr (.inl hk))
    · exact .inl (.inr (.inr (.inl hk)))
    · exact .inl (.inr (.inr (.inr hk)))
    · exact .inr (by subst hk; exact ⟨hl, hs⟩))
  exact ⟨(h.bx.under hb).set 1 _, f1.far (hbut.mono (fun k hk => .inl (.inl hk))), hc.far (hbut.mono (fun k hk => .inl (.inr (.inr (.inl hk))))), r1.far (hbut.mono (fun k hk => .inl (.inr (.inr (.inl hk))))), o1.far (hbut.mono (fun k hk => .inr (.inr (.inl hk))))⟩
theorem Bo.step (h : Bo w wr g B y es s z o n gs vs g' v') (ho : Ss w' 127 o n g2 v2 (fun k => B.has k ∨ k = y ∨ k = g ∨ k = z ∨ k = s)) (hb : But (fun k => k = o) wr w') : Bo w w' g B y es s z o n gs vs g2 v2 :=
  ⟨h.bx.stay (fun hk => hb.block _ hk (fun e => h.o.xb (.inr (.inr (.inl e.symm))))), h.f.far (hb.mono (fun k hk => .inr hk)), h.a.far (hb.mono (fun k hk => .inr hk)), h.r.far (hb.mono (fun k hk => .inr hk)), ho⟩
theorem Bo.done (h : Bo w wr g B y es s z o n gs vs g' v') : Bth w wr g B y es s z n gs vs gs vs :=
  ⟨h.bx, h.f.fence (Below.refl _ _) (fun k hk => .inl (.inl hk)), h.a.less (fun k hk => .inl hk), h.r.less (fun k hk => .inl hk)⟩
/-- Both sessions are made. -/
theorem Bth.start {w10 w12 : World} (hx : Bx wr g 94 [.pointer (some ⟨B.b, 0, none⟩), .pointer none, .pointer (some ⟨y, 0, none⟩), .pointer none]) (hf : F2 w wr B y es (fun k => k = g))
    (h1 : Ss w10 127 s n [] [] (fun k => B.has k ∨ k = y ∨ k = g)) (hb1 : Below wr.heap.size wr w10) (hl1 : wr.heap.size ≤ s)
    (h2 : Ss w12 98 z n [] [] (fun k => B.has k ∨ k = y ∨ k = g ∨ k = s)) (hb2 : Below (w10.setCell ⟨g, 1, none⟩ (.pointer (some ⟨s, 0, none⟩))).heap.size (w10.setCell ⟨g, 1, none⟩ (.pointer (some ⟨s, 0, none⟩))) w12) (hl2 : (w10.setCell ⟨g, 1, none⟩ (.pointer (some ⟨s, 0, none⟩))).heap.size ≤ z) :
    Bth w (w12.setCell ⟨g, 3, none⟩ (.pointer (some ⟨z, 0, none⟩))) g B y es s z n [] [] [] [] := by
  have hs := h1.lt
  have hz := h2.lt
  obtain ⟨w11, hw11⟩ : ∃ w11, w11 = w10.setCell ⟨g, 1, none⟩ (.pointer (some ⟨s, 0, none⟩)) := ⟨_, rfl⟩
  have hbut1 : But (fun k => k = g) w10 w11 := by rw [hw11]; exact But.setCell (S := fun k => k = g) w10 (p := ⟨g, 1, none⟩) rfl _
  have hx1 : Bx w11 g 94 [.pointer (some ⟨B.b, 0, none⟩), .pointer (some ⟨s, 0, none⟩), .pointer (some ⟨y, 0, none⟩), .pointer none] := by rw [hw11]; exact (hx.under hb1).set 1 _
  rw [← hw11] at hb2 hl2
  have s1 : w10.heap.size ≤ w11.heap.size := hbut1.size
  have f1 : F2 w w11 B y es (fun k => k = g ∨ k = s) := (hf.fence hb1 (Y := fun k => k = g ∨ k = s) (fun k hk => hk.imp id (fun e => by subst e; exact ⟨hl1, hs⟩))).far (hbut1.mono (fun k hk => .inl hk))
  have a1 := h1.far (hbut1.mono (fun k hk => .inr (.inr hk)))
  have hbut2 : But (fun k => k = g) w12 (w12.setCell ⟨g, 3, none⟩ (.pointer (some ⟨z, 0, none⟩))) := But.setCell (S := fun k => k = g) w12 (p := ⟨g, 3, none⟩) rfl _
  have f2 : F2 w w12 B y es (fun k => k = g ∨ k = s ∨ k = z) := f1.fence hb2 (fun k hk => by
    rcases hk with hk | hk | hk
    · exact .inl (.inl hk)
    · exact .inl (.inr hk)
    · exact .inr (by subst hk; exact ⟨hl2, hz⟩))
  have a2 : Ss w12 127 s n [] [] (fun k => B.has k ∨ k = y ∨ k = g ∨ k = z) := a1.move (But.of_below hb2) (fun k hk => by
    rcases hk with hk | hk | hk | hk
    · exact .inl (.inl hk)
    · exact .inl (.inr (.inl hk))
    · exact .inl (.inr (.inr hk))
    · exact .inr (by subst hk; exact ⟨hl2, hz⟩))
  exact ⟨(hx1.under hb2).set 3 _, f2.far (hbut2.mono (fun k hk => .inl hk)), a2.far (hbut2.mono (fun k hk => .inr (.inr (.inl hk)))), h2.far (hbut2.mono (fun k hk => .inr (.inr (.inl hk))))⟩
end
/-- does, whichever kind. -/
theorem does19_any {w w0 : World} {g : Nat} {B : Six} {y : Nat} {es : List Event} {s z n : Nat} {gs : List Grd} {vs : List Event} (h : Bth w w0 g B y es s z n gs vs gs vs) (hl : es.length ≤ 700)
    {oa ob : Int} (ha : (Lit.int .i64 oa).wf = true) {st : ByteArray} (hst : st.size ≤ maxLen) {v : Event} {q : List Clause} {n1 n2 n3 : Nat} {T F Q : Option Addr} {ct cf cq : Nat} (h1 : v.tags.length = n1) (h2 : v.fields.length = n2) (h3 : q.length = n3) (hT : Sl Kn.str (fun k => k < w.heap.size) w0 T ct v.tags) (hF : Sl kField (fun k => k < w.heap.size) w0 F cf v.fields) (hQ : Sl kClause (fun k => k < w.heap.size) w0 Q cq q) (hg : ∀ c ∈ q, goodClause c) (hin : (∀ s ∈ v.tags, s.size ≤ maxLen) ∧ (mayE v = 0 → EvIn v)) (hf : v.fields.length ≤ 1000000) :
    Calls Tryz.prog 49 #[.pointer (some ⟨g, 0, none⟩), .agg #[.int .i64 oa, .int .i64 ob, .string st, .string v.stream, .string v.type, .slice T n1 ct, .slice F n2 cf, .slice Q n3 cq]] w0 fun r w' => r = .returned (.bool true) ∧ ∃ es' gs' vs', es'.length ≤ es.length + 1 ∧ Bth w w' g B y es' s z n gs' vs' gs' vs' := by
  by_cases hk : kindN oa 6 = 5
  · refine (does5_any (Z := fun k => k = g ∨ k = s ∨ k = z) h.bx h.f (.inl rfl) hl ha hk h1 h2 hT hF hin).mono ?_
    rintro r w' ⟨e, ⟨es', hle, hf'⟩, hb⟩
    exact ⟨e, es', gs, vs, hle, h.stepF hf' hb⟩
  · refine (doesK_any h hl ha hk hst h1 h2 h3 hT hF hQ hg hin hf).mono ?_
    rintro r w' ⟨e, gs', vs', hb⟩
    exact ⟨e, es, gs', vs', by omega, hb⟩
end Go.Proofs.YtfoghahidofegaaGreat

namespace Go.Proofs.YtfoghahidofegaaGreat
open Go.RowKit Go.Maps

/-- The loop's state behind k calls. -/
def St (w wr : World) (g : Nat) (B : Six) (y : Nat) (k : Nat) : Prop :=
  (∃ es : List Event, es.length ≤ k ∧ Bx wr g 94 [.pointer (some ⟨B.b, 0, none⟩), .pointer none, .pointer (some ⟨y, 0, none⟩), .pointer none] ∧ F2 w wr B y es (fun j => j = g)) ∨
  (∃ (es : List Event) (s z n : Nat) (gs : List Grd) (vs : List Event), es.length ≤ k ∧ Bth w wr g B y es s z n gs vs gs vs)
section
variable {w wr w' : World} {g : Nat} {B : Six} {y k : Nat}
theorem St.below (h : St w wr g B y k) (hb : Below wr.heap.size wr w') : St w w' g B y k :=
  h.imp (fun ⟨es, h1, h2, h3⟩ => ⟨es, h1, h2.under hb, h3.below hb⟩) (fun ⟨es, s, z, n, gs, vs, h1, h2⟩ => ⟨es, s, z, n, gs, vs, h1, h2.below hb⟩)
theorem St.bel (h : St w wr g B y k) : Below w.heap.size w wr := by
  rcases h with ⟨es, _, _, h⟩ | ⟨es, s, z, n, gs, vs, _, h⟩
  · exact h.bel
  · exact h.f.bel
theorem St.box (h : St w wr g B y k) : ∃ ps pz : Value, Bx wr g 94 [.pointer (some ⟨B.b, 0, none⟩), ps, .pointer (some ⟨y, 0, none⟩), pz] := by
  rcases h with ⟨es, _, h, _⟩ | ⟨es, s, z, n, gs, vs, _, h⟩
  · exact ⟨_, _, h⟩
  · exact ⟨_, _, h.bx⟩
theorem St.does5 (h : St w wr g B y k) (hk : k ≤ 60) {oa ob : Int} (ha : (Lit.int .i64 oa).wf = true) (hkd : kindN oa 6 = 5) {s : ByteArray} {e : Event} {n1 n2 n3 : Nat} {S T Q : Option Addr} {sa ta cq : Nat} (h1 : e.tags.length = n1) (h2 : e.fields.length = n2) (hS : Sl Kn.str (fun k => k < w.heap.size) wr S sa e.tags) (hT : Sl kField (fun k => k < w.heap.size) wr T ta e.fields) (hin : (∀ s ∈ e.tags, s.size ≤ maxLen) ∧ (mayE e = 0 → EvIn e)) :
    Calls Tryz.prog 49 #[.pointer (some ⟨g, 0, none⟩), .agg #[.int .i64 oa, .int .i64 ob, .string s, .string e.stream, .string e.type, .slice S n1 sa, .slice T n2 ta, .slice Q n3 cq]] wr fun r w' => r = .returned (.bool true) ∧ St w w' g B y (k + 1) := by
  rcases h with ⟨es, hl, hx, hf⟩ | ⟨es, x, z, n, gs, vs, hl, hb⟩
  · refine (does5_any hx hf rfl (by omega) ha hkd h1 h2 hS hT hin).mono ?_
    rintro r w' ⟨e1, ⟨es', hle, hf'⟩, hbut⟩
    have hgo := hf.offZ g rfl
    exact ⟨e1, .inl ⟨es', by omega, hx.stay (fun hk => hbut.block _ hk (fun h => h.elim hgo.1 hgo.2.1)), hf'⟩⟩
  · refine (does5_any (Z := fun k => k = g ∨ k = x ∨ k = z) hb.bx hb.f (.inl rfl) (by omega) ha hkd h1 h2 hS hT hin).mono ?_
    rintro r w' ⟨e1, ⟨es', hle, hf'⟩, hbut⟩
    exact ⟨e1, .inr ⟨es', x, z, n, gs, vs, by omega, hb.stepF hf' hbut⟩⟩
end

set_option maxHeartbeats 32000000 in
set_option maxRecDepth 100000 in
theorem sessionPlays_walk (w : World) (n0 : Int) (hn0 : (Lit.int .i64 n0).wf = true) (A' : Option Addr) (c' : Nat) (os : List Op19) (h' : Sl kOp19 (fun _ => True) w A' c' os) (hg' : ∀ x ∈ os, goodOp19 x) :
    Calls Tryz.prog 10 #[.int .i64 n0, .slice A' os.length c'] w fun r w' => r = .returned (.bool true) ∧ Below w.heap.size w w' := by
  have HM0 := Lib.hid (show Sl kOp19 (fun k => k < w.heap.size) w A' c' os from h'.bound.mono (fun _ h => h.2))
  have HGO := Lib.hid hg'
  have hc1 := h'.1
  have hc2 := h'.2.1
  unfold maxLen at hc2
  have C1 := Lib.hid (shown19_any w)
  clear h' hg' hn0
  go_enter Tryz.func10, Tryz.ntmps10
  go_upto_region 3 with (first
    | (go_at_call 12; go_fit C2.out; rintro r w3 ⟨B, rfl, h3, hb3⟩; have H3 := Lib.hid h3; have HB3 := Lib.hid (bthen HB2.out hb3); clear h3 hb3)
    | (go_at_call 27; go_fit C1.out; rintro r w2 ⟨rfl, hb2⟩; have HB2 := Lib.hid hb2; have C2 := Lib.hid (lNew w (wr := w2) hb2.size); clear hb2))
  have HF4 := Lib.hid (f2_new H3.out HB3.out)
  obtain ⟨w4, hw4⟩ : ∃ w4, w4 = w3.alloc (.cells #[.slice none 0 0] 34) := ⟨_, rfl⟩
  have hs4 : w4.heap.size = w3.heap.size + 1 := by rw [hw4]; simp
  obtain ⟨w5, hw5⟩ : ∃ w5, w5 = w4.alloc (.cells #[.pointer (some ⟨B.b, 0, none⟩), .pointer none, .pointer (some ⟨w3.heap.size, 0, none⟩), .pointer none] 94) := ⟨_, rfl⟩
  have HST : Hid (St w w5 (w3.heap.size + 1) B w3.heap.size 0) := Lib.hid (.inl ⟨[], Nat.le_refl _, by rw [hw5, ← hs4]; exact Bx.new w4 _ _, by
    rw [hw5, ← hs4]
    have := HF4.out
    rw [← hw4] at this
    exact this.fence ((Below.refl _ _).alloc (Nat.le_refl _) _) (fun k hk => .inr (by subst hk; simp))⟩)
  have hgy : w4.heap.size = w3.heap.size + 1 := hs4
  obtain ⟨ps, pz, hbx5⟩ := HST.out.box
  have x0 := hbx5.cell 0
  simp only [List.getElem?_cons_zero] at x0
  rw [← hw4, ← hw5]
  clear hw5 hw4 hs4 hgy HF4 H3 HB3 HB2 C1 C2 hbx5
  generalize w3.heap.size = y at HST x0 ⊢
  generalize y + 1 = g at HST x0 ⊢
  have CO1 := Lib.hid (fun W es s z o n gs vs g' v' (hB : Bo w W g B y es s z o n gs vs g' v') => show Calls Tryz.prog 34 #[.pointer (some ⟨o, 0, none⟩), .pointer (some ⟨B.b, 0, none⟩), .agg #[.string ⟨#[122]⟩, .string ⟨#[122]⟩, .slice none 0 0, .slice none 0 0], .int .i64 (-1)] W fun r w' => (∃ u, r = .returned u) ∧ (∃ g2 v2, Bo w w' g B y es s z o n gs vs g2 v2) ∧ But (fun k => k = o) W w' from by
    have := sAppend hB.o hB.f.ix (.inr (.inr (.inr rfl))) (v := zzE9) (T := none) (F := none) (ct := 0) (cf := 0) Sl.nil_ Sl.nil_ (by simp [zzE9, evOf]) (by simp [zzE9, evOf]) (fun _ => zz9_in) (-1)
    exact this.mono (fun r w' h => ⟨⟨_, h.1⟩, ⟨_, _, hB.step h.2.1 h.2.2⟩, h.2.2⟩))
  have CO2 := Lib.hid (fun W es s z o n gs vs g' v' (hB : Bo w W g B y es s z o n gs vs g' v') => show Calls Tryz.prog 31 #[.pointer (some ⟨o, 0, none⟩), .pointer (some ⟨B.b, 0, none⟩), .string ⟨#[122]⟩] W fun r w' => (∃ u, r = .returned u) ∧ (∃ g2 v2, Bo w w' g B y es s z o n gs vs g2 v2) ∧ But (fun k => k = o) W w' from
    (sRead hB.o hB.f.ix (.inr (.inr (.inr rfl))) (by decide)).mono (fun r w' ⟨A, c, e, _, h2, h3⟩ => ⟨⟨_, e⟩, ⟨_, _, hB.step h2 h3⟩, h3⟩))
  go_upto_block 0 with fail
  clear x0
  go_cut [7] (fun _ wx => ∃ k, St w wx g B y k)
  case first =>
    go_wp2_with fail
    go_loopw [7] (fun i wr => ∃ k : Nat, k ≤ os.length ∧ k ≤ 60 ∧ i = .int .i64 k ∧ St w wr g B y k) (fun i _ => os.length - (intOf i).toNat)
    case atStart => exact ⟨0, Nat.zero_le _, Nat.zero_le _, rfl, HST.out⟩
    case round =>
      clear HST
      obtain ⟨k, hk, hk60, rfl, hs⟩ := hrel
      have HS := Lib.hid hs
      by_cases hlt : k < os.length ∧ k < 60
      · obtain ⟨hlt, h60⟩ := hlt
        obtain ⟨ad, T, ct, F, cf, Q, cq, rfl, d0, d1, d2, d3, d4, d5, d6, d7, hT, hF, hQ⟩ := row_op19_at (HM0.out.stay hs.bel.size (fun j hj _ => hs.bel.block j hj)).2.2 hlt
        have hgo := HGO.out _ (List.getElem_mem hlt)
        generalize os[k] = o at d0 d1 d2 d3 d4 d5 d6 d7 hT hF hQ hgo
        obtain ⟨oa, ob, s, v, q⟩ := o
        simp only at d0 d1 d2 d3 d4 d5 d6 d7 hT hF hQ
        obtain ⟨g1, g2, g3, g4, g5⟩ := hgo
        obtain ⟨m1, hm1⟩ : ∃ m1, min 10 v.tags.length = m1 := ⟨_, rfl⟩
        obtain ⟨m2, hm2⟩ : ∃ m2, min 10 v.fields.length = m2 := ⟨_, rfl⟩
        obtain ⟨m, hm⟩ : ∃ m, min 8 q.length = m := ⟨_, rfl⟩
        have CF := Lib.hid (few19_any (w := wr) oa ob s v.stream v.type (T := T) (F := F) (Q := Q) hT.1 hT.2.1 hF.1 hF.2.1 hQ.1 hQ.2.1)
        rw [hm1, hm2, hm] at CF
        have HT := Lib.hid (show Sl Kn.str (fun j => j < w.heap.size) wr T ct (cutV v).tags from hT.take 10)
        have HF := Lib.hid (show Sl kField (fun j => j < w.heap.size) wr F cf (cutV v).fields from hF.take 10)
        have HQ := Lib.hid (show Sl kClause (fun j => j < w.heap.size) wr Q cq (q.take 8) from hQ.take 8)
        have HM1 := Lib.hid (show (cutV v).tags.length = m1 by show (v.tags.take 10).length = m1; rw [List.length_take]; exact hm1)
        have HM2 := Lib.hid (show (cutV v).fields.length = m2 by show (v.fields.take 10).length = m2; rw [List.length_take]; exact hm2)
        have HM3 := Lib.hid (show (q.take 8).length = m by rw [List.length_take]; exact hm)
        have HVI := Lib.hid (ev_in (l := [cutV v]) (fun x hx => by rw [List.mem_singleton.1 hx]; exact cutV_good g4) (cutV v) (List.mem_singleton.2 rfl))
        have HQG := Lib.hid (show ∀ c ∈ q.take 8, goodClause c from fun c hc => g5 c (List.mem_of_mem_take hc))
        have HSG := Lib.hid (show s.size ≤ maxLen from g3)
        have HOA := Lib.hid g1
        have hfl : m2 ≤ 10 := by omega
        have i1 : (0 : Int) ≤ (k : Int) := Int.natCast_nonneg _
        have i2 : (k : Int) < (os.length : Int) := by omega
        clear hs hT hF hQ g1 g2 g3 g4 g5 hm1 hm2 hm
        go_upto_region 9 with (go_at_call 39; go_fit CF.out; rintro r w9 ⟨rfl, hb9⟩; have HB9 := Lib.hid hb9; clear hb9)
        obtain ⟨X0, hX0⟩ : ∃ X0, X0 = w9.alloc (.cells #[.int .i64 oa, .int .i64 ob, .string s, .string v.stream, .string v.type, .slice T m1 ct, .slice F m2 cf, .slice Q m cq] 77) := ⟨_, rfl⟩
        rw [← hX0]
        have hbX : Below w9.heap.size w9 X0 := by rw [hX0]; exact (Below.refl _ _).alloc (Nat.le_refl _) _
        have hxX : Bx X0 w9.heap.size 77 [.int .i64 oa, .int .i64 ob, .string s, .string v.stream, .string v.type, .slice T m1 ct, .slice F m2 cf, .slice Q m cq] := by rw [hX0]; exact Bx.new w9 _ _
        have HS9 := Lib.hid (HS.out.below HB9.out)
        have HSX := Lib.hid (HS9.out.below hbX)
        have HBX9 := Lib.hid (bthen HB9.out hbX)
        have HBX := Lib.hid hbX
        have HTX := Lib.hid (HT.out.below HBX9.out)
        have HFX := Lib.hid (HF.out.below HBX9.out)
        have HQX := Lib.hid (HQ.out.below HBX9.out)
        have hglt : g < w9.heap.size := by obtain ⟨_, _, hb⟩ := HS9.out.box; exact hb.lt
        obtain ⟨gx, hgx⟩ : ∃ gx, gx = w9.heap.size := ⟨_, rfl⟩
        rw [← hgx] at hxX ⊢
        have hgxg : gx ≠ g := by omega
        have hgle : w9.heap.size ≤ gx := by omega
        have HXO := Lib.hid hxX
        clear hgx hX0 hbX hxX d0 d1 d2 d3 d4 d5 d6 d7 CF HT HF HQ HB9
        go_cut [49] (fun b wx => b = .bool (decide ((k : Int) < n0 ∧ k < 30)) ∧ wx = X0)
        case first =>
          by_cases h1 : (k : Int) < n0
          · by_cases h2 : k < 30
            · have e1 : decide ((k : Int) < n0) = true := decide_eq_true h1
              have e2 : decide ((k : Int) < 30) = true := decide_eq_true (by omega)
              have e3 : decide (k < 30) = true := decide_eq_true h2
              have e4 : (k : Int) < 30 := by omega
              go_wp2_with fail
              go_meet
              exact ⟨by simp [h1, h2], rfl⟩
            · have e1 : decide ((k : Int) < n0) = true := decide_eq_true h1
              have e2 : decide ((k : Int) < 30) = false := decide_eq_false (by omega)
              have e3 : decide (k < 30) = false := decide_eq_false h2
              have e4 : ¬ (k : Int) < 30 := by omega
              go_wp2_with fail
              go_meet
              exact ⟨by simp [h2], rfl⟩
          · have e1 : decide ((k : Int) < n0) = false := decide_eq_false h1
            have HNA := Lib.hid (show decide ((k : Int) < n0 ∧ k < 30) = false from decide_eq_false (fun h => h1 h.1))
            clear h1
            go_wp2_with fail
            go_meet
            exact ⟨by rw [HNA.out], rfl⟩
        case rest =>
          obtain ⟨rfl, hwx⟩ := hcut
          rw [hwx]
          clear hwx
          by_cases hah : (k : Int) < n0 ∧ k < 30
          · rw [decide_eq_true hah]
            clear hah
            have f0 := HXO.out.free 0
            have y0 := HXO.out.cell 0
            simp only [List.getElem?_cons_zero] at y0
            have HX1 := Lib.hid (show Bx (X0.setCell ⟨gx, 0, none⟩ (.int .i64 5)) gx 77 ([.int .i64 oa, .int .i64 ob, .string s, .string v.stream, .string v.type, .slice T m1 ct, .slice F m2 cf, .slice Q m cq].set 0 (.int .i64 5)) from HXO.out.set 0 _)
            have HBS := Lib.hid (show Below w9.heap.size w9 (X0.setCell ⟨gx, 0, none⟩ (.int .i64 5)) from HBX.out.setCell (by exact hgle) _)
            have CD := Lib.hid (St.does5 (HS9.out.below HBS.out) (by omega) (oa := 5) (ob := ob) (by decide) (by decide) (s := s) (e := cutV v) (Q := Q) (n3 := m) (cq := cq) HM1.out HM2.out (HTX.out.stay (by simp [World.setCell]) (fun j hj hl => heap_setCell_other _ _ j _ (by show j ≠ gx; have := HS9.out.bel.size; omega))) (HFX.out.stay (by simp [World.setCell]) (fun j hj hl => heap_setCell_other _ _ j _ (by show j ≠ gx; have := HS9.out.bel.size; omega))) HVI.out)
            have z0 := HX1.out.cell 0
            have z1 := HX1.out.cell 1
            have z2 := HX1.out.cell 2
            have z3 := HX1.out.cell 3
            have z4 := HX1.out.cell 4
            have z5 := HX1.out.cell 5
            have z6 := HX1.out.cell 6
            have z7 := HX1.out.cell 7
            simp only [List.set_cons_zero, List.getElem?_cons_succ, List.getElem?_cons_zero] at z0 z1 z2 z3 z4 z5 z6 z7
            go_wp2_with (go_at_call 49; go_fit CD.out; rintro r w10 ⟨rfl, h10⟩; have H10 := Lib.hid h10; clear h10)
            go_roundw
            case rel => exact ⟨k + 1, by omega, by omega, by go_num, H10.out⟩
            case measure => simp [intOf]; omega
          · rw [decide_eq_false hah]
            clear hah
            obtain ⟨nb, hnb⟩ : ∃ nb : Bool, (nb = true ∧ ∃ es : List Event, es.length ≤ k ∧ Bx w9 g 94 [.pointer (some ⟨B.b, 0, none⟩), .pointer none, .pointer (some ⟨y, 0, none⟩), .pointer none] ∧ F2 w w9 B y es (fun j => j = g)) ∨
                (nb = false ∧ ∃ (es : List Event) (s z n : Nat) (gs : List Grd) (vs : List Event), es.length ≤ k ∧ Bth w w9 g B y es s z n gs vs gs vs) := by
              rcases HS9.out with h | h
              · exact ⟨true, .inl ⟨rfl, h⟩⟩
              · exact ⟨false, .inr ⟨rfl, h⟩⟩
            have HNB := Lib.hid hnb
            go_upto_region 12 with fail
            go_cut [58] (fun b wx => b = .bool nb ∧ wx = X0)
            case first =>
              rcases hnb with ⟨rfl, es, hl, hx, hf⟩ | ⟨rfl, es, s1, z1, n1, gs, vs, hl, hb⟩
              · have x1 := (hx.under HBX.out).cell 1
                simp only [List.getElem?_cons_succ, List.getElem?_cons_zero] at x1
                clear hx hf
                go_wp2_with fail
                go_meet
                exact ⟨rfl, rfl⟩
              · have x1 := (hb.bx.under HBX.out).cell 1
                simp only [List.getElem?_cons_succ, List.getElem?_cons_zero] at x1
                clear hb
                go_wp2_with fail
                go_meet
                exact ⟨rfl, rfl⟩
            case rest =>
              obtain ⟨rfl, hwx⟩ := hcut
              rw [hwx]
              clear hwx hnb
              go_upto_if 58 with fail
              go_cut [64, 72] (fun _ _ wx => ∃ (es : List Event) (s1 z1 n1 : Nat) (gs : List Grd) (vs : List Event), es.length ≤ k ∧ Bth w wx g B y es s1 z1 n1 gs vs gs vs ∧ Bx wx gx 77 [.int .i64 oa, .int .i64 ob, .string s, .string v.stream, .string v.type, .slice T m1 ct, .slice F m2 cf, .slice Q m cq] ∧ gx ≠ s1 ∧ gx ≠ z1 ∧ X0.heap.size ≤ wx.heap.size)
              case first =>
                rcases HNB.out with ⟨rfl, es, hl, hx, hf⟩ | ⟨rfl, es, s1, z1, n1, gs, vs, hl, hb⟩
                · have HX9 := Lib.hid (hx.under HBX.out)
                  have HF9 := Lib.hid (hf.below HBX.out)
                  have x0 := HX9.out.cell 0
                  have x1 := HX9.out.cell 1
                  simp only [List.getElem?_cons_succ, List.getElem?_cons_zero] at x0 x1
                  have hygx : y < X0.heap.size := HF9.out.rx.elim (fun _ h => h.elim (fun _ h => h.bx.lt))
                  have CN := Lib.hid (sNew HF9.out.ix (X := fun j => B.has j ∨ j = y ∨ j = g) (fun j hj => hj.elim (HF9.out.ix.lt j) (fun e => e.elim (fun e => by rw [e]; exact hygx) (fun e => by rw [e]; exact HX9.out.lt))))
                  clear hx hf
                  go_upto_region 14 with (go_at_call 28; go_fit CN.out; rintro r w10 ⟨s1, rfl, h10, hb10, hl10⟩; have H10 := Lib.hid h10; have HB10 := Lib.hid hb10; have HL10 := Lib.hid hl10; have hx10 := HX9.out.under hb10; have j1 := hx10.cell 1; have f1 := hx10.free 1; (simp only [List.getElem?_cons_succ, List.getElem?_cons_zero] at j1); clear h10 hb10 hl10 hx10)
                  obtain ⟨w11, hw11⟩ : ∃ w11, w11 = w10.setCell ⟨g, 1, none⟩ (.pointer (some ⟨s1, 0, none⟩)) := ⟨_, rfl⟩
                  have HW11 := Lib.hid hw11
                  have hbut1 : But (fun j => j = g) w10 w11 := by rw [hw11]; exact But.setCell (S := fun j => j = g) w10 (p := ⟨g, 1, none⟩) rfl _
                  have hx11 : Bx w11 g 94 [.pointer (some ⟨B.b, 0, none⟩), .pointer (some ⟨s1, 0, none⟩), .pointer (some ⟨y, 0, none⟩), .pointer none] := by rw [hw11]; exact (HX9.out.under HB10.out).set 1 _
                  have hxo11 : Bx w11 gx 77 [.int .i64 oa, .int .i64 ob, .string s, .string v.stream, .string v.type, .slice T m1 ct, .slice F m2 cf, .slice Q m cq] := by rw [hw11]; exact (HXO.out.under HB10.out).far (p := ⟨g, 1, none⟩) hgxg _
                  rw [← hw11]
                  have f11 : F2 w w11 B y es (fun j => j = g) := (HF9.out.below HB10.out).far hbut1
                  obtain ⟨A3, c3, hr3⟩ := f11.rx
                  have hs11 := hbut1.size
                  have CN2 := Lib.hid (refNew19 hr3 (X := fun j => B.has j ∨ j = y ∨ j = g ∨ j = s1) (fun j hj => hj.elim (f11.ix.lt j) (fun e => e.elim (fun e => by rw [e]; exact hr3.bx.lt) (fun e => e.elim (fun e => by rw [e]; exact hx11.lt) (fun e => by rw [e]; have := H10.out.lt; omega)))))
                  have HX11 := Lib.hid hx11
                  have HXO11 := Lib.hid hxo11
                  have y2 := hx11.cell 2
                  simp only [List.getElem?_cons_succ, List.getElem?_cons_zero] at y2
                  clear hw11 hbut1 hx11 hxo11 f11 hr3 x0 x1 j1 f1
                  go_wp2_with (go_at_call 50; go_fit CN2.out; rintro r w12 ⟨z1, rfl, h12, hb12, hl12⟩; have H12 := Lib.hid h12; have HB12 := Lib.hid hb12; have HL12 := Lib.hid hl12; have hx12 := HX11.out.under hb12; have j3 := hx12.cell 3; have f3 := hx12.free 3; (simp only [List.getElem?_cons_succ, List.getElem?_cons_zero] at j3); clear h12 hb12 hl12 hx12)
                  go_meet
                  have hxl := HXO.out.lt
                  have h10s := HB10.out.size
                  have h10l := HL10.out
                  have h12l := HL12.out
                  have h12s := HB12.out.size
                  refine ⟨es, s1, z1, es.length, [], [], hl, Bth.start HX9.out HF9.out H10.out HB10.out HL10.out H12.out (by rw [← HW11.out]; exact HB12.out) (by rw [← HW11.out]; exact HL12.out), (HXO11.out.under HB12.out).far (p := ⟨g, 3, none⟩) hgxg _, by omega, by omega, ?_⟩
                  simp only [World.setCell, Array.size_modify]
                  omega
                · have HB := Lib.hid (hb.below HBX.out)
                  have x1 := HB.out.bx.cell 1
                  simp only [List.getElem?_cons_succ, List.getElem?_cons_zero] at x1
                  have hs1 := hb.a.lt
                  have hz1 := hb.r.lt
                  clear hb
                  go_wp2_with fail
                  go_meet
                  exact ⟨es, s1, z1, n1, gs, vs, hl, HB.out, HXO.out, by omega, by omega, Nat.le_refl _⟩
              case rest =>
                obtain ⟨es, s1, z1, n1, gs, vs, hl, hb, hxo, hn1, hn2, hsz⟩ := hcut
                obtain ⟨w13, hw13⟩ : ∃ w13, w13 = wc := ⟨_, rfl⟩
                subst hw13
                have HBt := Lib.hid hb
                have HXO2 := Lib.hid hxo
                have x1 := hb.bx.cell 1
                simp only [List.getElem?_cons_succ, List.getElem?_cons_zero] at x1
                clear hb hxo
                go_upto_if 82 with fail
                go_cut [9] (fun _ wx => ∃ s2 : Nat, Bth w wx g B y es s2 z1 n1 gs vs gs vs ∧ Bx wx gx 77 [.int .i64 oa, .int .i64 ob, .string s, .string v.stream, .string v.type, .slice T m1 ct, .slice F m2 cf, .slice Q m cq] ∧ X0.heap.size ≤ wx.heap.size)
                case first =>
                  by_cases hk9 : (k : Int) % 9 = 8
                  · have d9 : ((k : Int) % 9 == 8) = true := by simp [hk9]
                    clear hk9
                    have CC := Lib.hid (sClone HBt.out.a)
                    go_upto_region 20 with (go_at_call 42; go_fit CC.out; rintro r w14 ⟨s2, rfl, h14, hb14, hl14⟩; have HBo := Lib.hid (Bo.start HBt.out h14 hb14 hl14); have HB14 := Lib.hid hb14; have hx14 := HBt.out.bx.under hb14; have j1 := hx14.cell 1; have f1 := hx14.free 1; (simp only [List.getElem?_cons_succ, List.getElem?_cons_zero] at j1); clear h14 hb14 hl14 hx14)
                    obtain ⟨w15, hw15⟩ : ∃ w15, w15 = w14.setCell ⟨g, 1, none⟩ (.pointer (some ⟨s2, 0, none⟩)) := ⟨_, rfl⟩
                    rw [← hw15]
                    have HB15 := Lib.hid (show Bo w w15 g B y es s2 z1 s1 n1 gs vs gs vs by rw [hw15]; exact HBo.out)
                    have HXO15 := Lib.hid (show Bx w15 gx 77 [.int .i64 oa, .int .i64 ob, .string s, .string v.stream, .string v.type, .slice T m1 ct, .slice F m2 cf, .slice Q m cq] by rw [hw15]; exact (HXO2.out.under HB14.out).far (p := ⟨g, 1, none⟩) hgxg _)
                    have hs15 : X0.heap.size ≤ w15.heap.size := by have := HB14.out.size; rw [hw15]; simp only [World.setCell, Array.size_modify]; omega
                    have y0 := HB15.out.bx.cell 0
                    have y1 := HB15.out.bx.cell 1
                    simp only [List.getElem?_cons_succ, List.getElem?_cons_zero] at y0 y1
                    clear hw15 HBo HB14 j1 f1 x1 CC
                    go_wp2_with (first
                      | (go_at_call 31; go_fit (CO2.out _ _ _ _ _ _ _ _ _ _ HB16.out); rintro r w17 ⟨⟨u17, rfl⟩, ⟨g17, v17, h17⟩, hb17⟩; have HB17 := Lib.hid h17; have HXO17 := Lib.hid (HXO16.out.stay (w' := w17) (fun hk => hb17.block _ hk hn1)); have hs17 := hb17.size; clear h17 hb17)
                      | (go_at_call 34; go_fit (CO1.out _ _ _ _ _ _ _ _ _ _ HB15.out); rintro r w16 ⟨⟨u16, rfl⟩, ⟨g16, v16, h16⟩, hb16⟩; have HB16 := Lib.hid h16; have HXO16 := Lib.hid (HXO15.out.stay (w' := w16) (fun hk => hb16.block _ hk hn1)); have hs16 := hb16.size; have q0 := h16.bx.cell 0; (simp only [List.getElem?_cons_zero] at q0); clear h16 hb16))
                    go_meet
                    exact ⟨s2, HB17.out.done, HXO17.out, by omega⟩
                  · have d9 : ((k : Int) % 9 == 8) = false := by simp [hk9]
                    clear hk9
                    go_wp2_with fail
                    go_meet
                    exact ⟨s1, HBt.out, HXO2.out, hsz⟩
                case rest =>
                  obtain ⟨s2, hb, hxo, hsz2⟩ := hcut
                  obtain ⟨w17, hw17⟩ : ∃ w17, w17 = wc := ⟨_, rfl⟩
                  subst hw17
                  have hbl := fun j (hj : j < w.heap.size) => (hb.f.bel.block j hj).trans (HSX.out.bel.block j hj).symm
                  have CD := Lib.hid (does19_any hb (by omega) (ob := ob) HOA.out HSG.out HM1.out HM2.out HM3.out (HTX.out.stay hsz2 (fun j hj _ => hbl j hj)) (HFX.out.stay hsz2 (fun j hj _ => hbl j hj)) (HQX.out.stay hsz2 (fun j hj _ => hbl j hj)) HQG.out HVI.out (by rw [HM2.out]; omega))
                  have z0 := hxo.cell 0
                  have z1' := hxo.cell 1
                  have z2 := hxo.cell 2
                  have z3 := hxo.cell 3
                  have z4 := hxo.cell 4
                  have z5 := hxo.cell 5
                  have z6 := hxo.cell 6
                  have z7 := hxo.cell 7
                  simp only [List.getElem?_cons_succ, List.getElem?_cons_zero] at z0 z1' z2 z3 z4 z5 z6 z7
                  clear hb hxo hbl
                  go_wp2_with (go_at_call 49; go_fit CD.out; rintro r w18 ⟨rfl, es', gs', vs', hl', h18⟩; have H18 := Lib.hid h18; clear h18)
                  go_roundw
                  case rel => exact ⟨k + 1, by omega, by omega, by go_num, .inr ⟨es', s2, z1, n1, gs', vs', by omega, H18.out⟩⟩
                  case measure => simp [intOf]; omega
      · have HF := Lib.hid (show ∃ k, St w wr g B y k from ⟨k, hs⟩)
        have hstop : k < os.length → ¬ k < 60 := fun h h2 => hlt ⟨h, h2⟩
        clear hs HS hlt
        rcases Nat.lt_or_ge k os.length with hc | hc
        · have h10 := hstop hc
          clear hstop
          go_wp2_with fail
          go_meet
          exact HF.out
        · clear hstop
          go_wp2_with fail
          go_meet
          exact HF.out
  case rest =>
    obtain ⟨k, hs⟩ := hcut
    obtain ⟨v5, hv5⟩ : ∃ v5, v5 = wc := ⟨_, rfl⟩
    subst hv5
    rcases hs with ⟨es, hl, hx, hf⟩ | ⟨es, s, z, n, gs, vs, hl, hb⟩
    · have x1 := hx.cell 1
      simp only [List.getElem?_cons_succ, List.getElem?_cons_zero] at x1
      have HBE := Lib.hid hf.bel
      clear hx hf HST CO1 CO2
      go_wp2_with fail
      go_ret
      exact ⟨rfl, HBE.out⟩
    · have HB := Lib.hid hb
      obtain ⟨G2, cg2, E2, ce2, hz, hG2, hE2, _⟩ := hb.r.bx
      have HK := Lib.hid (fun W (hW : Below v5.heap.size v5 W) => show Below v5.heap.size v5 W ∧ W.cell? ⟨g, 1, none⟩ = some (.pointer (some ⟨s, 0, none⟩)) ∧ W.cell? ⟨g, 3, none⟩ = some (.pointer (some ⟨z, 0, none⟩)) ∧ W.cell? ⟨z, 0, none⟩ = some (.int .i64 n) ∧ W.cell? ⟨z, 1, none⟩ = some (.slice G2 gs.length cg2) ∧ W.cell? ⟨z, 2, none⟩ = some (.slice E2 vs.length ce2) from
        ⟨hW, (HB.out.bx.under hW).cell 1, (HB.out.bx.under hW).cell 3, (hz.under hW).cell 0, (hz.under hW).cell 1, (hz.under hW).cell 2⟩)
      have HG2 := Lib.hid hG2
      have HE2 := Lib.hid hE2
      have D1 := Lib.hid (fun W (R : Prop) (hW : Below v5.heap.size v5 W ∧ R) => show Calls Tryz.prog 32 #[.pointer (some ⟨s, 0, none⟩)] W fun r w' => (∃ A c, r = .returned (.slice A gs.length c) ∧ Sl kGuard (fun _ => True) w' A c gs) ∧ Below W.heap.size W w' from
        (sGuards (HB.out.below hW.1).a).mono (fun r w' ⟨A, c, e, h1, h2⟩ => ⟨⟨A, c, e, h1.any⟩, h2⟩))
      have D2 := Lib.hid (fun W (A1 : Option Addr) (c1 : Nat) (R : Prop) (hW : Below v5.heap.size v5 W ∧ R) (hs : Sl kGuard (fun _ => True) W A1 c1 gs) => show Calls Tryz.prog 47 #[.slice A1 gs.length c1, .slice G2 gs.length cg2] W fun r w' => r = .returned (.bool true) ∧ Below W.heap.size W w' from by
        have := refSameG_any hs (HG2.out.any.below hW.1)
        rwa [show decide (gs = gs) = true from decide_eq_true rfl] at this)
      have D3 := Lib.hid (fun W (R : Prop) (hW : Below v5.heap.size v5 W ∧ R) => show Calls Tryz.prog 35 #[.pointer (some ⟨s, 0, none⟩)] W fun r w' => (∃ A c, r = .returned (.slice A vs.length c) ∧ Sl kEvent (fun _ => True) w' A c vs) ∧ Below W.heap.size W w' from
        (sEvents (HB.out.below hW.1).a).mono (fun r w' ⟨A, c, e, h1, h2⟩ => ⟨⟨A, c, e, h1.any⟩, h2⟩))
      have D4 := Lib.hid (fun W (A1 : Option Addr) (c1 : Nat) (R : Prop) (hW : Below v5.heap.size v5 W ∧ R) (hs : Sl kEvent (fun _ => True) W A1 c1 vs) => show Calls Tryz.prog 48 #[.slice A1 vs.length c1, .slice E2 vs.length ce2] W fun r w' => r = .returned (.bool true) ∧ Below W.heap.size W w' from by
        have := refSameAll_any hs (HE2.out.any.below hW.1)
        rwa [show decide (vs = vs) = true from decide_eq_true rfl] at this)
      have D5 := Lib.hid (fun W (R : Prop) (hW : Below v5.heap.size v5 W ∧ R) => sAt (HB.out.below hW.1).a)
      obtain ⟨_, x1, x3, _⟩ := HK.out v5 (Below.refl _ _)
      clear hb hz hG2 hE2 HST CO1 CO2
      go_upto_region 29 with fail
      clear x1 x3
      go_cut [11] (fun b wx => b = .bool true ∧ Below v5.heap.size v5 wx)
      case first =>
        go_region_held3 (fun W => Below v5.heap.size v5 W ∧ W.cell? ⟨g, 1, none⟩ = some (.pointer (some ⟨s, 0, none⟩)) ∧ W.cell? ⟨g, 3, none⟩ = some (.pointer (some ⟨z, 0, none⟩)) ∧ W.cell? ⟨z, 0, none⟩ = some (.int .i64 n) ∧ W.cell? ⟨z, 1, none⟩ = some (.slice G2 gs.length cg2) ∧ W.cell? ⟨z, 2, none⟩ = some (.slice E2 vs.length ce2))
          (first | exact HK.out _ (below_drawn (Below.refl _ _)) | (assumption) | exact HK.out _ (bthen (And.left (by assumption : Below v5.heap.size v5 _ ∧ _)) (by assumption)))
          (first
            | (go_at_call 47; go_fit (D2.out _ _ _ _ (by assumption) HS6.out); rintro r w7 ⟨rfl, hb7⟩)
            | (go_at_call 32; go_fit (D1.out _ _ (by assumption)); rintro r w6 ⟨⟨A6, c6, rfl, h6⟩, hb6⟩; have HS6 := Lib.hid h6; clear h6))
        all_goals go_wp2_with fail
        all_goals go_meet
        all_goals exact ⟨rfl, And.left (by assumption : Below v5.heap.size v5 _ ∧ _)⟩
      case rest =>
        obtain ⟨rfl, hb6⟩ := hcut
        obtain ⟨v6, hv6⟩ : ∃ v6, v6 = wc := ⟨_, rfl⟩
        subst hv6
        have HB6 := Lib.hid hb6
        clear hb6 D1 D2
        go_upto_region 30 with fail
        go_cut [12] (fun b wx => b = .bool true ∧ Below v5.heap.size v5 wx)
        case first =>
          go_region_held3 (fun W => Below v5.heap.size v5 W ∧ W.cell? ⟨g, 1, none⟩ = some (.pointer (some ⟨s, 0, none⟩)) ∧ W.cell? ⟨g, 3, none⟩ = some (.pointer (some ⟨z, 0, none⟩)) ∧ W.cell? ⟨z, 0, none⟩ = some (.int .i64 n) ∧ W.cell? ⟨z, 1, none⟩ = some (.slice G2 gs.length cg2) ∧ W.cell? ⟨z, 2, none⟩ = some (.slice E2 vs.length ce2))
            (first | exact HK.out _ (bthen HB6.out (below_drawn (Below.refl _ _))) | (assumption) | exact HK.out _ (bthen (And.left (by assumption : Below v5.heap.size v5 _ ∧ _)) (by assumption)))
            (first
              | (go_at_call 48; go_fit (D4.out _ _ _ _ (by assumption) HS8.out); rintro r w9 ⟨rfl, hb9⟩)
              | (go_at_call 35; go_fit (D3.out _ _ (by assumption)); rintro r w8 ⟨⟨A8, c8, rfl, h8⟩, hb8⟩; have HS8 := Lib.hid h8; clear h8))
          all_goals go_wp2_with fail
          all_goals go_meet
          all_goals exact ⟨rfl, And.left (by assumption : Below v5.heap.size v5 _ ∧ _)⟩
        case rest =>
          obtain ⟨rfl, hb7⟩ := hcut
          obtain ⟨v7, hv7⟩ : ∃ v7, v7 = wc := ⟨_, rfl⟩
          subst hv7
          have HB7 := Lib.hid hb7
          clear hb7 D3 D4 HB6
          go_upto_region 31 with fail
          go_region_held3 (fun W => Below v5.heap.size v5 W ∧ W.cell? ⟨g, 1, none⟩ = some (.pointer (some ⟨s, 0, none⟩)) ∧ W.cell? ⟨g, 3, none⟩ = some (.pointer (some ⟨z, 0, none⟩)) ∧ W.cell? ⟨z, 0, none⟩ = some (.int .i64 n) ∧ W.cell? ⟨z, 1, none⟩ = some (.slice G2 gs.length cg2) ∧ W.cell? ⟨z, 2, none⟩ = some (.slice E2 vs.length ce2))
            (first | exact HK.out _ (bthen HB7.out (below_drawn (Below.refl _ _))) | (assumption))
            (first | (go_at_call 40; go_fit (D5.out _ _ (by assumption)); rintro r w6 ⟨rfl, rfl⟩))
          all_goals go_wp2_with fail
          all_goals go_ret
          all_goals exact ⟨by first | rfl | simp, bthen HB.out.f.bel (And.left (by assumption : Below v5.heap.size v5 _ ∧ _))⟩
end Go.Proofs.YtfoghahidofegaaGreat

namespace Go.Proofs.YtfoghahidofegaaGreat

set_option maxRecDepth 100000 in
def ordN : List Nat := [104, 97, 114, 110, 101, 115, 115, 32, 52, 51, 57, 99, 56, 54, 52, 48, 57, 53, 57, 98, 54, 102, 49, 100, 98, 52, 54, 57, 49, 55, 52, 101, 99, 98, 102, 48, 52, 98, 98, 55, 55, 51, 55, 102, 97, 97, 102, 100, 101, 56, 102, 54, 51, 52, 56, 50, 52, 101, 56, 97, 49, 101, 54, 49, 52, 53, 52, 50, 54, 55, 97, 101, 32, 99, 117, 116, 32, 97, 116, 32, 114, 101, 103, 105, 115, 116, 114, 97, 114, 47, 114, 101, 103, 105, 115, 116, 114, 97, 114, 108, 97, 119, 49, 52, 46, 73, 110, 100, 101, 120, 80, 108, 97, 121, 115, 32, 114, 101, 103, 105, 115, 116, 114, 97, 114, 47, 114, 101, 103, 105, 115, 116, 114, 97, 114, 108, 97, 119, 49, 56, 46, 71, 117, 97, 114, 100, 76, 105, 115, 116, 115, 32, 114, 101, 103, 105, 115, 116, 114, 97, 114, 47, 114, 101, 103, 105, 115, 116, 114, 97, 114, 108, 97, 119, 49, 57, 46, 83, 101, 115, 115, 105, 111, 110, 77, 97, 110, 121, 32, 114, 101, 103, 105, 115, 116, 114, 97, 114, 47, 114, 101, 103, 105, 115, 116, 114, 97, 114, 108, 97, 119, 49, 57, 46, 83, 101, 115, 115, 105, 111, 110, 70, 114, 101, 101, 32, 114, 101, 103, 105, 115, 116, 114, 97, 114, 47, 114, 101, 103, 105, 115, 116, 114, 97, 114, 108, 97, 119, 49, 57, 46, 83, 101, 115, 115, 105, 111, 110, 83, 101, 101, 115, 32, 114, 101, 103, 105, 115, 116, 114, 97, 114, 47, 114, 101, 103, 105, 115, 116, 114, 97, 114, 108, 97, 119, 49, 57, 46, 83, 101, 115, 115, 105, 111, 110, 65, 116, 32, 114, 101, 103, 105, 115, 116, 114, 97, 114, 47, 114, 101, 103, 105, 115, 116, 114, 97, 114, 108, 97, 119, 49, 57, 46, 83, 101, 115, 115, 105, 111, 110, 82, 101, 102, 117, 115, 101, 115, 32, 114, 101, 103, 105, 115, 116, 114, 97, 114, 47, 114, 101, 103, 105, 115, 116, 114, 97, 114, 108, 97, 119, 49, 57, 46, 83, 101, 115, 115, 105, 111, 110, 80, 108, 97, 121, 115]
def ordL : List Char := ordN.map Char.ofNat
theorem order_eq : Tryz.prog.initOrder = String.ofList ordL := by kernel_rfl
theorem signs_eq : Tryz.prog.initOrder.toList = ordL := by rw [order_eq, String.toList_ofList]
def ordRest : List (List Char) := (behindMainWord (wordsSigns ordL)).tail
theorem words_eq : behindMainWord (wordsSigns ordL) = "cut".toList :: ordRest := by kernel_rfl
theorem strip_cut (r : List (List Char)) : stripLifts liftWords ("cut".toList :: r) = ([], "cut".toList :: r) := by kernel_rfl
theorem mayEnter_of (P : Program) (rest : List (List Char)) (h : behindMainWord (wordsSigns P.initOrder.toList) = "cut".toList :: rest) (h1 : P.laysLater = false) (h2 : P.bearsReflect = false) (h3 : P.doorFits [] = true) : P.mayEnter = true := by
  unfold Program.mayEnter
  rw [h]
  dsimp only
  rw [strip_cut, h1, h2, h3]
  simp
theorem lifts_of (P : Program) (rest : List (List Char)) (h : behindMainWord (wordsSigns P.initOrder.toList) = "cut".toList :: rest) : P.liftsFinal = false := by
  unfold Program.liftsFinal Program.headLifts
  rw [h, strip_cut]
  simp
theorem make_of (P : Program) (rest : List (List Char)) (h : behindMainWord (wordsSigns P.initOrder.toList) = "cut".toList :: rest) : P.make = some .cut := by
  unfold Program.make
  rw [h]
  dsimp only
  rw [if_neg (by decide), if_pos (by simp)]
theorem door_of (P : Program) (h : P.doorRows = []) : P.doorFits [] = true := by
  unfold Program.doorFits
  rw [h]
  simp
theorem head_eq : behindMainWord (wordsSigns Tryz.prog.initOrder.toList) = "cut".toList :: ordRest := by rw [signs_eq]; exact words_eq
theorem h_later : Tryz.prog.laysLater = false := by kernel_rfl
theorem h_refl : Tryz.prog.bearsReflect = false := by kernel_rfl
theorem h_rows : Tryz.prog.doorRows = [] := by kernel_rfl
theorem mayEnter_eq : Tryz.prog.mayEnter = true := mayEnter_of _ _ head_eq h_later h_refl (door_of _ h_rows)
theorem lifts_eq : Tryz.prog.liftsFinal = false := lifts_of _ _ head_eq
theorem make_eq : Tryz.prog.make = some .cut := make_of _ _ head_eq
theorem laidOut_eq : laidOutB Tryz.prog = true := by kernel_rfl
theorem mapsRowed_eq : mapsRowed Tryz.prog = true := by kernel_rfl
theorem stops_eq : (Tryz.prog.stops == []) = true := by kernel_rfl
theorem stopKnobs_eq : (Tryz.prog.stopKnobs == []) = true := by kernel_rfl
theorem heard_eq : Tryz.prog.stopsHeard = true := by kernel_rfl
theorem own_eq : ownKnob Tryz.prog.godebug = none := by kernel_rfl

/-- The rows' one great closed fact, out of its parts. -/
theorem joined_of {P : Program} {f : FuncId} {fn : Func} {s : ChangeSpec} {c : OpenClaim}
    (k1 : c.wf (OpenSpec.ofChange s) = true) (k2 : laidOutB P = true) (k3 : mapsRowed P = true) (k4 : fn.params.all (P.readableRec ·) = true) (k5 : namedTie P c.named s.vars = true)
    (k6 : (c.stops == []) = true) (k7 : (P.stops == []) = true) (k8 : (c.knobs == []) = true) (k9 : (P.stopKnobs == []) = true)
    (k10 : (c.inPlace == P.inPlace f) = true) (k11 : (c.unfollowed == P.unfollowed f) = true) (k12 : (c.recurses == P.recurses f) = true) (k13 : (c.named == P.varsNamed f) = true)
    (k14 : (c.maps == (fn.params.toList ++ s.plain.varTypes P).any (P.mapsRec ·)) = true) (k15 : (c.ifaces == (fn.params.toList ++ s.plain.varTypes P).any (P.ifacesRec ·)) = true) (k16 : (c.mapsOut == P.mapsAmong fn.resultTypes.toList) = true)
    (k17 : (c.loops == (fn.params.toList ++ s.plain.varTypes P).any (P.loopsFrom ·)) = true) (k18 : (c.wideKeys == (fn.params.toList ++ s.plain.varTypes P ++ fn.resultTypes.toList).any (P.wideKeysFrom ·)) = true)
    (k19 : s.vars.all (P.varReadable ·) = true) (k20 : fn.resultTypes.all (fun t => P.readableRec t && decide (t < P.types.size)) = true) (k21 : (c.ifacesOut == fn.resultTypes.toList.any (P.ifacesRec ·)) = true) (k22 : (c.loopsOut == fn.resultTypes.toList.any (P.loopsFrom ·)) = true)
    (k23 : (c.plainKeys == P.plainKeys) = true) (k24 : c.shortTexts.isNone = true) (k25 : P.stopsHeard = true) (k26 : P.mayEnter = true) (k27 : (c.lifted == P.liftsFinal) = true) (k28 : (P.make == some c.make) = true)
    (k29 : c.kinds = [] ∧ c.domain = []) (k30 : (c.pinned == c.pinnedBy) = true)
    (k31 : (c.veiled == (fn.params.toList ++ s.plain.varTypes P ++ fn.resultTypes.toList).any (P.veiledRec ·)) = true) (k32 : c.veiledFits P fn.params.toList (fn.params.toList ++ s.plain.varTypes P ++ fn.resultTypes.toList) = true) :
    joinedFacts P f fn s c = true := by
  unfold joinedFacts
  rw [k1, k2, k3, k4, k5, k6, k7, k8, k9, k10, k11, k12, k13, k14, k15, k16, k17, k18, k19, k20, k21, k22, k23, k24, k25, k26, k27, k28, k29.1, k29.2, k30, k31, k32]
  rfl
end Go.Proofs.YtfoghahidofegaaGreat

namespace Go.Proofs.YtfoghahidofegaaGreat.sessionPlays
open Go.ChangeShapes Go.WideShapes Go.ChangeAt Go.RowKit
open Go.ChangeMaps (open_string shut_string)
set_option maxRecDepth 100000 in
theorem lifted (os : Os) (started : os.Started) (H : Type) (enc : TypeId × Value → H) :
    ReturnsInHanded {} Tryz.checked os 10 .any (Rows.sessionPlaysSpec.pre6 enc Tryz.prog Tryz.f10 Rows.sessionPlaysRow.domain false) (Rows.sessionPlaysSpec.post enc Tryz.prog Tryz.f10 false true false false) := by
  refine returnsInHanded_of_change_sized (C := Tryz.checked) own_eq started (by kernel_rfl) Tryz.func10
    (ChangeSpec.witness6 (enc := enc) (C := Tryz.checked) false ⟨#[], #[.int .i64 0, .slice none 0 0], []⟩ 8 (by kernel_rfl) (by kernel_rfl) (by kernel_rfl) (by kernel_rfl)) ?_
  intro W base args ds gs before hval0 hW hcnd hsz0 _
  have hval : ∀ (j : Nat) t v, Tryz.f10.params[j]? = some t → args[j]? = some v → Value.okWide Tryz.prog W .any base t v := hval0
  have hW' := hW
  obtain ⟨p, q, hA0, hV, rfl, hfz, hnd⟩ := hW
  have hA : DataW.TrodAll enc Tryz.prog W 0 (fun _ => true) true Tryz.f10.params.toList args.toList ds p := hA0
  rw [Tryz.params10] at hA hval
  obtain ⟨v0, vs0, d0, ds0, p0, q0, hargs, rfl, rfl, h0, r0⟩ := trodAll_cons hA
  obtain ⟨v1, vs1, d1, ds1, p1, q1, rfl, rfl, rfl, h1, r1⟩ := trodAll_cons r0
  obtain ⟨rfl, rfl, rfl⟩ := trodAll_nil r1
  obtain rfl : args = #[v0, v1] := by cases args; simp_all
  obtain ⟨rfl, rfl⟩ := trodVars_none hV
  have k0 := h0
  have lt0 : ∀ x ∈ p0, x.block < W.heap.size := by obtain ⟨m, hm⟩ := k0; exact DataW.trod_lt m _ _ _ hm
  obtain ⟨a0, rfl, _, _, w0⟩ := open_int Tryz.underlying3 (hval 0 3 v0 rfl rfl) h0
  have k1 := h1
  have lt1 : ∀ x ∈ p1, x.block < W.heap.size := by obtain ⟨m, hm⟩ := k1; exact DataW.trod_lt m _ _ _ hm
  obtain ⟨a1, len1, cap1, rfl⟩ := okWide_slice Tryz.underlying86 (hval 1 86 v1 rfl rfl)
  obtain ⟨x1, ⟨A1, c1, e1, l1, m1, w1⟩, g1⟩ := (opOps19).arg h1
  simp only [Value.cells, List.cons.injEq, Value.slice.injEq, and_true] at e1
  obtain ⟨rfl, rfl, rfl⟩ := e1
  clear hA0 hval0
  refine (sessionPlays_walk W a0 w0 _ _ x1 ⟨l1, m1, w1⟩ g1).mono fun e W' ⟨he, bel⟩ => ?_
  subst he
  exact ⟨_, rfl, _, _, _, [], _, [], hW', trodAll_mk1 (shut_bool Tryz.underlying4 _), (trodAll_cons_mk (Below.trod laidOut_eq (by kernel_rfl) (of_decide_eq_true (by kernel_rfl)) k0 bel lt0) (trodAll_cons_mk (Below.trod laidOut_eq (by kernel_rfl) (of_decide_eq_true (by kernel_rfl)) k1 bel lt1) trodAll_mk0)), rfl, bel.frame _, fun h => by cases h⟩
theorem k10 : (Rows.sessionPlaysRow.inPlace == Tryz.prog.inPlace 10) = true := by kernel_rfl
theorem k11 : (Rows.sessionPlaysRow.unfollowed == Tryz.prog.unfollowed 10) = true := by kernel_rfl
theorem k12 : (Rows.sessionPlaysRow.recurses == Tryz.prog.recurses 10) = true := by kernel_rfl
theorem k13 : (Rows.sessionPlaysRow.named == Tryz.prog.varsNamed 10) = true := by kernel_rfl
theorem k23 : (Rows.sessionPlaysRow.plainKeys == Tryz.prog.plainKeys) = true := by kernel_rfl
theorem kfn : Tryz.pinned.checked.prog.funcNamed Rows.sessionPlaysRow.func = some 10 := by kernel_rfl
theorem closed : joinedFacts Tryz.prog 10 Tryz.f10 Rows.sessionPlaysSpec Rows.sessionPlaysRow = true :=
  joined_of (by kernel_rfl) laidOut_eq mapsRowed_eq (by kernel_rfl) (by kernel_rfl) rfl stops_eq rfl stopKnobs_eq k10 k11 k12 k13 (by kernel_rfl) (by kernel_rfl) (by kernel_rfl) (by kernel_rfl) (by kernel_rfl) (by kernel_rfl) (by kernel_rfl) (by kernel_rfl) (by kernel_rfl) k23 rfl heard_eq mayEnter_eq (by rw [lifts_eq]; rfl) (by rw [make_eq]; rfl) ⟨rfl, rfl⟩ (by kernel_rfl) (by kernel_rfl) (by kernel_rfl)
theorem over : Rows.sessionPlaysRow.holds Tryz.pinned (OpenSpec.ofChange Rows.sessionPlaysSpec) :=
  OpenClaim.holds_of_wide 10 Tryz.f10 rfl rfl rfl rfl rfl rfl rfl ⟨rfl, rfl, rfl, rfl, rfl⟩ rfl rfl rfl rfl rfl kfn Tryz.func10 closed
    (of_decide_eq_true (by kernel_rfl)) (by unfold Func.isWrapper; first | (rw [if_pos (by decide +kernel)]; kernel_rfl) | (rw [if_neg (by decide +kernel)]; exact ⟨rfl, rfl⟩))
    (fun os started H enc _ => lifted os started H enc)
theorem proved : Rows.SessionPlaysSaid := over
#print axioms proved
end Go.Proofs.YtfoghahidofegaaGreat.sessionPlays
