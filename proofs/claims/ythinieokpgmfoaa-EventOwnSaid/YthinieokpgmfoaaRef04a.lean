/- registrarref04.Same, Value, tags: what they come to (walks). -/
import Derived.Test.YthinieokpgmfoaaSame04
import Derived.Test.YthinieokpgmfoaaRef03c
import Derived.Test.YthinieokpgmfoaaRef06n
set_option linter.unusedVariables false
set_option linter.unusedSimpArgs false
namespace Go.Proofs.Ythinieokpgmfoaa
open Go.RowKit

set_option maxHeartbeats 4000000 in
theorem refSameE_any {w : World} {x y : Event} {T F T' F' : Option Addr} {ct cf ct' cf' : Nat} (h1 : SlS w T ct x.tags) (h2 : SlF w F cf x.fields) (h3 : SlS w T' ct' y.tags) (h4 : SlF w F' cf' y.fields) :
    Calls Try.prog 20 #[vEvent x T ct F cf, vEvent y T' ct' F' cf'] w fun e w' => e = .returned (.bool (sameE x y)) ∧ Below w.heap.size w w' := by
  obtain ⟨W1, hW1⟩ : ∃ W1, W1 = (w.alloc (.cells #[.string x.stream, .string x.type, .slice T x.tags.length ct, .slice F x.fields.length cf] 28)).alloc (.cells #[.string y.stream, .string y.type, .slice T' y.tags.length ct', .slice F' y.fields.length cf'] 28) := ⟨_, rfl⟩
  have HW := Lib.hid hW1
  have hB : Below w.heap.size w W1 := by rw [hW1]; exact ((Below.refl _ _).alloc (Nat.le_refl _) _).alloc (by simp) _
  have hx1 : Bx W1 w.heap.size 28 [.string x.stream, .string x.type, .slice T x.tags.length ct, .slice F x.fields.length cf] := by rw [hW1]; exact (Bx.new w _ _).alloc _
  have hx2 : Bx W1 (w.heap.size + 1) 28 [.string y.stream, .string y.type, .slice T' y.tags.length ct', .slice F' y.fields.length cf'] := by
    rw [hW1]; have := Bx.new (w.alloc (.cells #[.string x.stream, .string x.type, .slice T x.tags.length ct, .slice F x.fields.length cf] 28)) 28 [.string y.stream, .string y.type, .slice T' y.tags.length ct', .slice F' y.fields.length cf']
    simpa using this
  have CT := Lib.hid (texts_any2 (h1.below hB) (h3.below hB))
  have q1 := strEqL x.stream y.stream
  have q2 := strEqL x.type y.type
  have HF1 := Lib.hid (h2.below hB)
  have HF2 := Lib.hid (h4.below hB)
  unfold sameE
  generalize decide (x.stream = y.stream) = b1 at q1 ⊢
  generalize decide (x.type = y.type) = b2 at q2 ⊢
  generalize decide (x.tags = y.tags) = b3 at CT ⊢
  obtain ⟨R, hR⟩ : ∃ R, R = (b1 && (b2 && (b3 && decide (x.fields = y.fields)))) := ⟨_, rfl⟩
  rw [← hR]
  have HR := Lib.hid hR
  clear hR
  have HBx1 := Lib.hid hx1
  have HBx2 := Lib.hid hx2
  have HB := Lib.hid hB
  clear hB hx1 hx2 hW1 h1 h2 h3 h4
  go_enter Try.func20, Try.ntmps20
  go_upto_region 1 with fail
  rw [← HW.out]
  clear HW
  have c2 := HBx1.out.cell 2
  have d2 := HBx2.out.cell 2
  simp only [List.getElem?_cons_succ, List.getElem?_cons_zero] at c2 d2
  go_upto_region 2 with (go_at_call 44; go_fit CT.out; rintro e w2 ⟨rfl, hb2⟩; have HB2 := Lib.hid hb2; clear hb2)
  clear c2 d2 CT
  have X1 := Lib.hid (HBx1.out.under HB2.out)
  have X2 := Lib.hid (HBx2.out.under HB2.out)
  have R1 := Lib.hid (HF1.out.below HB2.out)
  have R2 := Lib.hid (HF2.out.below HB2.out)
  have HBW := Lib.hid (bthen HB.out HB2.out)
  clear HBx1 HBx2 HF1 HF2 HB HB2
  obtain ⟨X, hX⟩ : ∃ X, X = w2 := ⟨_, rfl⟩
  subst hX
  have c0 := X1.out.cell 0
  have c1 := X1.out.cell 1
  have c3 := X1.out.cell 3
  have d0 := X2.out.cell 0
  have d1 := X2.out.cell 1
  have d3 := X2.out.cell 3
  simp only [List.getElem?_cons_succ, List.getElem?_cons_zero] at c0 c1 c3 d0 d1 d3
  have hr1 := R1.out.1
  have hr2 := R1.out.2.1
  have hr3 := R2.out.1
  have hr4 := R2.out.2.1
  unfold maxLen at hr2 hr4
  rcases b1 with _ | _
  · have HT := Lib.hid (show R = false by rw [HR.out]; rfl)
    clear HR
    go_wp2_with fail
    go_ret
    exact ⟨by rw [HT.out]; rfl, HBW.out⟩
  rcases b2 with _ | _
  · have HT := Lib.hid (show R = false by rw [HR.out]; rfl)
    clear HR
    go_wp2_with fail
    go_ret
    exact ⟨by rw [HT.out]; rfl, HBW.out⟩
  rcases b3 with _ | _
  · have HT := Lib.hid (show R = false by rw [HR.out]; rfl)
    clear HR
    go_wp2_with fail
    go_ret
    exact ⟨by rw [HT.out]; rfl, HBW.out⟩
  by_cases hl : x.fields.length = y.fields.length
  · have H0 := Lib.hid hl
    have hl0 : ((x.fields.length : Int) != (y.fields.length : Int)) = false := by rw [hl]; simp
    clear hl
    go_wp2_with fail
    clear c0 c1 c3 d0 d1 d3
    go_loopw [6] (fun i wr => ∃ k : Nat, k ≤ x.fields.length ∧ i = .int .i64 k ∧ AlikeF x.fields y.fields k ∧ Below X.heap.size X wr) (fun i _ => x.fields.length - (intOf i).toNat)
    case atStart => exact ⟨0, Nat.zero_le _, rfl, fun j hj => by omega, Below.refl _ _⟩
    case round =>
      obtain ⟨k, hk, rfl, hal, hb⟩ := hrel
      have c3 := (X1.out.under hb).cell 3
      have d3 := (X2.out.under hb).cell 3
      simp only [List.getElem?_cons_succ, List.getElem?_cons_zero] at c3 d3
      have HBK := Lib.hid (fun n => below_drewN hb n)
      have HBK0 := Lib.hid hb
      by_cases hlt : k < x.fields.length
      · obtain ⟨ad, rfl, hx, hx1⟩ := row_field_at (R1.out.below hb).2.2 hlt
        obtain ⟨bd, rfl, hy, hy1⟩ := row_field_at (R2.out.below hb).2.2 (j := k) (by have := H0.out; omega)
        have hltb : k < y.fields.length := by have := H0.out; omega
        generalize hxe : x.fields[k] = u at hx hx1
        generalize hye : y.fields[k] = v at hy hy1
        have HX := Lib.hid hxe
        have HY := Lib.hid hye
        clear hxe hye hb
        have hq := strEqL u.1 v.1
        have hxy2 : (u = v) ↔ (u.1 = v.1 ∧ u.2 = v.2) := fieldEq u v
        have e1 : (0 : Int) ≤ (k : Int) := Int.natCast_nonneg _
        have e2 : (k : Int) < (x.fields.length : Int) := by omega
        have e3 : (k : Int) < (y.fields.length : Int) := by omega
        by_cases h1 : u.1 = v.1
        · by_cases h2 : u.2 = v.2
          · rw [decide_eq_true h1] at hq
            have HXY := Lib.hid (hxy2.2 ⟨h1, h2⟩)
            have h3 : (u.2 == v.2) = true := by simpa using h2
            have h3' : (u.2 != v.2) = false := by simpa using h2
            clear h1 h2 hxy2
            go_wp2
            go_quiet (fail)
            go_wp2
            go_roundw
            case rel =>
              refine ⟨k + 1, by omega, by go_num, fun j hj => ?_, HBK.out _⟩
              rcases Nat.lt_or_ge j k with h | h
              · exact hal j h
              · obtain rfl : j = k := by omega
                rw [List.getElem?_eq_getElem hlt, List.getElem?_eq_getElem hltb, HX.out, HY.out, HXY.out]
            case measure => simp [intOf]; omega
          · rw [decide_eq_true h1] at hq
            have HXY := Lib.hid (show x.fields ≠ y.fields from fun e => h2 ((hxy2.1 (by rw [← HX.out, ← HY.out]; simp only [e])).2))
            have HT := Lib.hid (show R = false by rw [HR.out, decide_eq_false HXY.out]; rfl)
            have h3 : (u.2 == v.2) = false := by simpa using h2
            have h3' : (u.2 != v.2) = true := by simpa using h2
            clear h1 h2 hxy2 HR
            go_wp2
            go_quiet (fail)
            go_wp2
            go_ret
            exact ⟨by rw [HT.out]; rfl, bthen HBW.out (HBK.out _)⟩
        · rw [decide_eq_false h1] at hq
          have HXY := Lib.hid (show x.fields ≠ y.fields from fun e => h1 ((hxy2.1 (by rw [← HX.out, ← HY.out]; simp only [e])).1))
          have HT := Lib.hid (show R = false by rw [HR.out, decide_eq_false HXY.out]; rfl)
          clear h1 hxy2 HR
          go_wp2
          go_quiet (fail)
          go_wp2
          go_ret
          exact ⟨by rw [HT.out]; rfl, bthen HBW.out (HBK.out _)⟩
      · obtain rfl : k = x.fields.length := by omega
        have HT := Lib.hid (show R = true by rw [HR.out, decide_eq_true (alikeF_all H0.out hal)]; rfl)
        clear HR hb
        go_wp2
        go_ret
        exact ⟨by rw [HT.out]; rfl, bthen HBW.out HBK0.out⟩
  · have hl0 : ((x.fields.length : Int) != (y.fields.length : Int)) = true := by rw [bne_iff_ne]; omega
    have HT := Lib.hid (show R = false by rw [HR.out, decide_eq_false (fun e => hl (by rw [e]))]; rfl)
    clear HR
    go_wp2_with fail
    go_ret
    exact ⟨by rw [HT.out]; rfl, HBW.out⟩

set_option maxHeartbeats 1000000 in
theorem refValue_any {w : World} {e : Event} {T F : Option Addr} {ct cf : Nat} (hF : SlF w F cf e.fields) (s : ByteArray) :
    Calls Try.prog 28 #[vEvent e T ct F cf, .string s] w fun r w' => r = .returned (.tuple #[.int .i64 (valF e.fields s).1, .bool (valF e.fields s).2]) ∧ Below w.heap.size w w' := by
  obtain ⟨h1, h2, h3⟩ := hF
  unfold maxLen at h2
  obtain ⟨W1, hW1⟩ : ∃ W1, W1 = w.alloc (.cells #[.string e.stream, .string e.type, .slice T e.tags.length ct, .slice F e.fields.length cf] 28) := ⟨_, rfl⟩
  have HW := Lib.hid hW1
  have hB : Below w.heap.size w W1 := by rw [hW1]; exact (Below.refl _ _).alloc (Nat.le_refl _) _
  have hx1 : Bx W1 w.heap.size 28 [.string e.stream, .string e.type, .slice T e.tags.length ct, .slice F e.fields.length cf] := by rw [hW1]; exact Bx.new w _ _
  have c3 := hx1.cell 3
  simp only [List.getElem?_cons_succ, List.getElem?_cons_zero] at c3
  have HB := Lib.hid hB
  clear hB hx1 hW1
  obtain ⟨V, hV⟩ : ∃ V, V = valF e.fields s := ⟨_, rfl⟩
  rw [← hV]
  have HV := Lib.hid hV
  clear hV
  go_enter Try.func28, Try.ntmps28
  go_upto_region 1 with fail
  rw [← HW.out]
  clear HW
  go_wp2_with fail
  go_loopw [6] (fun i wr => ∃ k : Nat, k ≤ e.fields.length ∧ i = .int .i64 k ∧ Hid (V = valF (e.fields.drop k) s) ∧ wr = W1) (fun i _ => e.fields.length - (intOf i).toNat)
  case atStart => exact ⟨0, Nat.zero_le _, rfl, HV, by trivial⟩
  case round =>
    obtain ⟨k, hk, rfl, hv, rfl⟩ := hrel
    clear HV
    by_cases hlt : k < e.fields.length
    · obtain ⟨ad, rfl, hx, hy⟩ := row_field_at (h3.below HB.out) hlt
      have HH := Lib.hid (valF_here hlt (s := s))
      have HN := Lib.hid (valF_next hlt (s := s))
      generalize e.fields[k] = x at hx hy HH HN
      have e1 : (0 : Int) ≤ (k : Int) := Int.natCast_nonneg _
      have e2 : (k : Int) < (e.fields.length : Int) := by omega
      have hq := strEqL x.1 s
      by_cases hxs : x.1 = s
      · rw [decide_eq_true hxs] at hq
        have HV := Lib.hid (hv.out.trans (HH.out hxs))
        clear hxs HH HN hv
        go_wp2_with fail
        exact bodyPost_ret (v := .tuple #[.int .i64 x.2, .bool true]) (by simp [results, Try.results28, go_sem]) rfl ⟨by rw [HV.out], HB.out⟩
      · rw [decide_eq_false hxs] at hq
        have HV := Lib.hid (hv.out.trans (HN.out hxs))
        clear hxs HH HN hv
        go_wp2_with fail
        go_roundw
        case rel => exact ⟨k + 1, by omega, by go_num, HV, by trivial⟩
        case measure => simp [intOf]; omega
    · have HV := Lib.hid (show V = (0, false) by rw [hv.out, List.drop_of_length_le (by omega)]; rfl)
      clear hv
      go_wp2_with fail
      exact bodyPost_ret (v := .tuple #[.int .i64 0, .bool false]) (by simp [results, Try.results28, go_sem]) rfl ⟨by rw [HV.out], HB.out⟩

set_option maxHeartbeats 1000000 in
theorem refTags_any {w : World} {T : Option Addr} {ct : Nat} {l : List ByteArray} (hT : SlS w T ct l) (hg : ∀ s ∈ l, s.size ≤ maxLen) :
    Calls Try.prog 58 #[.slice T l.length ct] w fun r w' => r = .returned (.bool (!l.any (fun s => !tagN s))) ∧ Below w.heap.size w w' := by
  obtain ⟨h1, h2, h3⟩ := hT
  unfold maxLen at h2
  obtain ⟨V, hV⟩ : ∃ V, V = l.any (fun s => !tagN s) := ⟨_, rfl⟩
  rw [← hV]
  have HV := Lib.hid hV
  have HG := Lib.hid hg
  clear hV hg
  go_enter Try.func58, Try.ntmps58
  go_wp2_with fail
  go_loopw [3, 4, 5, 6] (fun i _ _ _ wr => ∃ k : Nat, k ≤ l.length ∧ i = .int .i64 k ∧ Hid (V = (l.drop k).any (fun s => !tagN s)) ∧ Below w.heap.size w wr) (fun i _ _ _ _ => l.length - (intOf i).toNat)
  case atStart => exact ⟨0, Nat.zero_le _, rfl, HV, Below.refl _ _⟩
  case round =>
    obtain ⟨k, hk, rfl, hv, hb⟩ := hrel
    clear HV
    by_cases hlt : k < l.length
    · obtain ⟨ad, rfl, hx⟩ := row_str_at (h3.below hb) hlt
      have HC := Lib.hid (refParts_any l[k] (HG.out _ (List.getElem_mem hlt)) wr)
      have HN := Lib.hid (show (l.drop k).any (fun s => !tagN s) = (!tagN l[k] || (l.drop (k + 1)).any (fun s => !tagN s)) by rw [List.drop_eq_getElem_cons hlt, List.any_cons])
      generalize l[k] = x at hx HC HN
      have e1 : (0 : Int) ≤ (k : Int) := Int.natCast_nonneg _
      have e2 : (k : Int) < (l.length : Int) := by omega
      have HB := Lib.hid hb
      clear hb
      generalize tagN x = t at HC HN
      rcases t with _ | _
      · have HV := Lib.hid (show V = true by rw [hv.out, HN.out]; rfl)
        clear HN hv
        go_wp2_with (go_at_call 67; go_fit HC.out; rintro r w2 ⟨x1, y1, rfl, hb2⟩; have HB2 := Lib.hid hb2; clear hb2)
        go_ret
        exact ⟨by rw [HV.out]; rfl, bthen HB.out HB2.out⟩
      · have HV := Lib.hid (show V = (l.drop (k + 1)).any (fun s => !tagN s) by rw [hv.out, HN.out]; rfl)
        clear HN hv
        go_wp2_with (go_at_call 67; go_fit HC.out; rintro r w2 ⟨x1, y1, rfl, hb2⟩; have HB2 := Lib.hid hb2; clear hb2)
        go_roundw
        case rel => exact ⟨k + 1, by omega, by go_num, HV, bthen HB.out HB2.out⟩
        case measure => simp [intOf]; omega
    · have HV := Lib.hid (show V = false by rw [hv.out, List.drop_of_length_le (by omega)]; rfl)
      have HB := Lib.hid hb
      clear hv hb
      go_wp2_with fail
      go_ret
      exact ⟨by rw [HV.out]; rfl, HB.out⟩
end Go.Proofs.Ythinieokpgmfoaa
