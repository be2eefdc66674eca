/- registrarref04.May: what it comes to (walk). -/
import Derived.Test.YthinieokpgmfoaaRef04a
import Derived.Test.YthinieokpgmfoaaEv04b
import Derived.Test.YthinieokpgmfoaaStep
set_option linter.unusedVariables false
set_option linter.unusedSimpArgs false
namespace Go.Proofs.Ythinieokpgmfoaa
open Go.RowKit

theorem over_snoc (l : List (ByteArray × Int)) (k : Nat) (h : k < l.length) : (!(l.take (k + 1)).any overF) = ((!(l.take k).any overF) && !overF l[k]) := by
  rw [List.take_succ_eq_append_getElem h, List.any_append]; simp
theorem fnames_snoc (l : List (ByteArray × Int)) (k : Nat) (h : k < l.length) : fnames (l.take (k + 1)) = fnames (l.take k) ++ [(l[k]).1] := by
  unfold fnames; rw [List.take_succ_eq_append_getElem h, List.map_append]; rfl
theorem fnames_at (l : List (ByteArray × Int)) (k : Nat) (h : k < l.length) (hm : mayN (l[k]).1 = false) : (fnames l).any (fun s => !mayN s) = true := by
  rw [List.any_eq_true]
  exact ⟨_, List.mem_map.2 ⟨_, List.getElem_mem h, rfl⟩, by rw [hm]; rfl⟩

set_option maxHeartbeats 4000000 in
set_option maxRecDepth 100000 in
theorem refMayE_any {w : World} {e : Event} {T F : Option Addr} {ct cf : Nat} (hT : SlS w T ct e.tags) (hF : SlF w F cf e.fields) (hg : ∀ s ∈ e.tags, s.size ≤ maxLen) :
    Calls Try.prog 24 #[vEvent e T ct F cf] w fun r w' => r = .returned (.int .i64 (mayE e)) ∧ Below w.heap.size w w' := by
  obtain ⟨W1, hW1⟩ : ∃ W1, W1 = w.alloc (.cells #[.string e.stream, .string e.type, .slice T e.tags.length ct, .slice F e.fields.length cf] 28) := ⟨_, rfl⟩
  have HW := Lib.hid hW1
  have hB : Below w.heap.size w W1 := by rw [hW1]; exact (Below.refl _ _).alloc (Nat.le_refl _) _
  have hx1 : Bx W1 w.heap.size 28 [.string e.stream, .string e.type, .slice T e.tags.length ct, .slice F e.fields.length cf] := by rw [hW1]; exact Bx.new w _ _
  have HT := Lib.hid (hT.below hB)
  have HF := Lib.hid (hF.below hB)
  have HX := Lib.hid hx1
  have HBl := Lib.hid hB
  have HG := Lib.hid hg
  have c0 := hx1.cell 0
  simp only [List.getElem?_cons_succ, List.getElem?_cons_zero] at c0
  clear hB hx1 hW1 hT hF hg
  obtain ⟨R, hR⟩ : ∃ R, mayE e = R := ⟨_, rfl⟩
  have HR := Lib.hid hR
  rw [hR]
  clear hR
  have C1 := Lib.hid (refMay_any e.stream W1)
  have C2 := Lib.hid (fun W => refMay_any e.type W)
  unfold mayE at HR
  generalize mayN e.stream = m1 at C1 HR
  generalize mayN e.type = m2 at C2 HR
  go_enter Try.func24, Try.ntmps24
  go_upto_region 1 with fail
  rw [← HW.out]
  clear HW
  go_upto_region 3 with (first
    | (go_at_call 57; go_fit (C2.out _); rintro r w3 ⟨rfl, hb3⟩; have HB3 := Lib.hid (bthen HB2.out hb3); clear hb3)
    | (go_at_call 57; go_fit C1.out; rintro r w2 ⟨rfl, hb2⟩; have HB2 := Lib.hid hb2; have c1 := (HX.out.under hb2).cell 1; simp only [List.getElem?_cons_succ, List.getElem?_cons_zero] at c1; clear hb2))
  clear c0 c1 C1 C2 HB2
  have HX3 := Lib.hid (HX.out.under HB3.out)
  have HT3 := Lib.hid (HT.out.below HB3.out)
  have HF3 := Lib.hid (HF.out.below HB3.out)
  have HB03 := Lib.hid (bthen HBl.out HB3.out)
  clear HX HT HF HBl HB3
  obtain ⟨X, hX⟩ : ∃ X, X = w3 := ⟨_, rfl⟩
  subst hX
  have k2 := HX3.out.cell 2
  have k3 := HX3.out.cell 3
  simp only [List.getElem?_cons_succ, List.getElem?_cons_zero] at k2 k3
  have hf1 := HF3.out.1
  have hf2 := HF3.out.2.1
  unfold maxLen at hf2
  rcases m1 with _ | _
  · have HV := Lib.hid (show R = 5 by rw [← HR.out]; rfl)
    clear HR
    go_wp2_with fail
    go_ret
    exact ⟨by rw [HV.out]; rfl, HB03.out⟩
  rcases m2 with _ | _
  · have HV := Lib.hid (show R = 5 by rw [← HR.out]; rfl)
    clear HR
    go_wp2_with fail
    go_ret
    exact ⟨by rw [HV.out]; rfl, HB03.out⟩
  by_cases h6 : 6 < e.tags.length
  · have HV := Lib.hid (show R = 3 by rw [← HR.out, decide_eq_true h6]; rfl)
    clear HR
    go_wp2_with fail
    go_ret
    exact ⟨by rw [HV.out]; rfl, HB03.out⟩
  by_cases h4 : 4 < e.fields.length
  · have HV := Lib.hid (show R = 3 by rw [← HR.out, decide_eq_true h4, Bool.or_true]; rfl)
    clear HR
    go_wp2_with fail
    go_ret
    exact ⟨by rw [HV.out]; rfl, HB03.out⟩
  have HR3 := Lib.hid (show (if (e.tags.any (fun s => !tagN s) || (fnames e.fields).any (fun s => !mayN s)) = true then (5 : Int)
    else if (!riseN e.tags || !riseN (fnames e.fields) || e.fields.any overF) = true then 1 else 0) = R by have := HR.out; rwa [decide_eq_false h6, decide_eq_false h4, if_neg (by decide), if_neg (by decide)] at this)
  clear HR
  have h0 := Own.lit0 Kn.str 9 X.heap.size (fun _ => False) X (Nat.le_refl _)
  have HO0 := Lib.hid h0
  have HBA := Lib.hid (show Below X.heap.size X (X.alloc (.cells #[] 9)) from (Below.refl _ _).alloc (Nat.le_refl _) _)
  clear h0
  go_wp2_with fail
  go_loopw [5, 6, 7] (fun v ft i wr => ∃ k : Nat, k ≤ e.fields.length ∧ i = .int .i64 k ∧ ft = .bool (!(e.fields.take k).any overF) ∧ Own Kn.str 9 X.heap.size (fun _ => False) wr v (fnames (e.fields.take k)) ∧ Hid ((fnames (e.fields.take k)).any (fun s => !mayN s) = false) ∧ Below X.heap.size X wr) (fun _ _ i _ => e.fields.length - (intOf i).toNat)
  case atStart => exact ⟨0, Nat.zero_le _, rfl, rfl, HO0.out, by exact rfl, HBA.out⟩
  case round =>
    clear HO0 HBA k2 k3
    obtain ⟨k, hk, rfl, rfl, ho, hm, hb⟩ := hrel
    have HB := Lib.hid hb
    have HO := Lib.hid ho
    have k3 := (HX3.out.under hb).cell 3
    simp only [List.getElem?_cons_succ, List.getElem?_cons_zero] at k3
    by_cases hlt : k < e.fields.length
    · obtain ⟨ad, rfl, hx, hy⟩ := row_field_at (HF3.out.2.2.below hb) hlt
      have HOV := Lib.hid (over_snoc e.fields k hlt)
      have HFN := Lib.hid (fnames_snoc e.fields k hlt)
      have HFA := Lib.hid (fnames_at e.fields k hlt)
      have HLN := Lib.hid (show (fnames (e.fields.take k)).length = k by simp [fnames]; omega)
      have HC := Lib.hid (refMay_any (e.fields[k]).1 wr)
      have HRA := Lib.hid (fun W (hb : Below X.heap.size X W) => show W.cell? (ad.add (k * 2)) = some (.string (e.fields[k]).1) ∧ W.cell? ⟨(ad.add (k * 2)).block, (ad.add (k * 2)).off + 1, none⟩ = some (.int .i64 (e.fields[k]).2) ∧ W.cell? ⟨w.heap.size, 3, none⟩ = some (.slice (some ad) e.fields.length cf) from by
        obtain ⟨ad', he, h1, h2⟩ := row_field_at (HF3.out.below hb).2.2 hlt
        obtain rfl := Option.some.inj he
        exact ⟨h1, h2, (HX3.out.under hb).cell 3⟩)
      generalize e.fields[k] = x at hx hy HOV HFN HFA HC HRA
      have e1 : (0 : Int) ≤ (k : Int) := Int.natCast_nonneg _
      have e2 : (k : Int) < (e.fields.length : Int) := by omega
      have HMN := Lib.hid (show (fnames (e.fields.take k) ++ [x.1]).any (fun s => !mayN s) = !mayN x.1 by rw [List.any_append, hm.out]; simp)
      clear ho hb hm
      generalize mayN x.1 = m at HFA HC HMN
      rcases m with _ | _
      · have HV := Lib.hid (show R = 5 by rw [← HR3.out, HFA.out rfl, Bool.or_true]; rfl)
        clear HR3
        go_wp2_with (go_at_call 57; go_fit HC.out; rintro r w4 ⟨rfl, hb4⟩; have HB4 := Lib.hid (bthen HB.out hb4); clear hb4)
        go_ret
        exact ⟨by rw [HV.out]; rfl, bthen HB03.out HB4.out⟩
      · have hov : overF x = (decide (x.2 < -1099511627776) || decide (1099511627776 < x.2)) := rfl
        rw [hov] at HOV
        clear hov
        generalize (!(e.fields.take k).any overF) = ft at HOV ⊢
        have h3 : (x.2 < -1099511627776 ∧ ¬ 1099511627776 < x.2) ∨ (¬ x.2 < -1099511627776 ∧ 1099511627776 < x.2) ∨ (¬ x.2 < -1099511627776 ∧ ¬ 1099511627776 < x.2) := by omega
        rcases ft with _ | _ <;> rcases h3 with ⟨h1, h2⟩ | ⟨h1, h2⟩ | ⟨h1, h2⟩
        all_goals
          first
            | rw [decide_eq_true h1, decide_eq_false h2] at HOV
            | rw [decide_eq_false h1, decide_eq_true h2] at HOV
            | rw [decide_eq_false h1, decide_eq_false h2] at HOV
          go_wp2_with (first
            | (go_at_call 57; go_fit HC.out; rintro r w4 ⟨rfl, hb4⟩; have HB4 := Lib.hid (bthen HB.out hb4); have HO4 := Lib.hid (HO.out.below hb4); obtain ⟨a0, a1, a2⟩ := HRA.out _ HB4.out; clear hb4)
            | (at_builtin; refine wpList_pushH (W := w4) rfl _ _ _ rfl 9 _ 1 16 Try.underlying25 infoS2 rfl (by decide) (by decide) rfl X.heap.size (fun _ => False) _ _ rfl HO4.out x.1 [.string x.1] rfl w4.heap.size rfl rfl HB4.out.size (by rw [HLN.out]; omega) ?_; intro v1 w5 hown1 hg1 hat1 hbel1; have HO5 := Lib.hid hown1; have HB5 := Lib.hid (hbel1 X HB4.out); obtain ⟨b0, b1, b2⟩ := HRA.out _ HB5.out; clear hown1 hg1 hat1 hbel1))
          go_roundw
          case rel => exact ⟨k + 1, by omega, by go_num, by first | (rw [HOV.out]; rfl) | (rw [HOV.out]; simp; omega), by rw [HFN.out]; exact HO5.out, Lib.hid (by rw [HFN.out]; exact HMN.out), HB5.out⟩
          case measure => simp [intOf]; omega
    · obtain rfl : k = e.fields.length := by omega
      clear ho hb hlt
      have hfl : e.fields.take e.fields.length = e.fields := List.take_length
      rw [hfl] at hm HO ⊢
      have HR4 := Lib.hid (show (if (e.tags.any (fun s => !tagN s)) = true then (5 : Int) else if (!riseN e.tags || !riseN (fnames e.fields) || e.fields.any overF) = true then 1 else 0) = R by have := HR3.out; rwa [hm.out, Bool.or_false] at this)
      obtain ⟨A', c', rfl, hs⟩ := HO.out.sl
      have HN := Lib.hid hs.any
      clear hm HO hs hfl HR3
      have k2 := (HX3.out.under HB.out).cell 2
      simp only [List.getElem?_cons_succ, List.getElem?_cons_zero] at k2
      have CT := Lib.hid (refTags_any (HT3.out.below HB.out) HG.out)
      have D1 := Lib.hid (fun W (hb : Below wr.heap.size wr W) => refRise_any (HT3.out.below (bthen HB.out hb)))
      have D2 := Lib.hid (fun W (hb : Below wr.heap.size wr W) => refRise_any (HN.out.below hb))
      have HKB := Lib.hid (fun W (hb : Below wr.heap.size wr W) => show W.cell? ⟨w.heap.size, 2, none⟩ = some (.slice T e.tags.length ct) from (HX3.out.under (bthen HB.out hb)).cell 2)
      generalize e.tags.any (fun s => !tagN s) = t1 at CT HR4
      generalize riseN e.tags = r1 at D1 HR4
      generalize riseN (fnames e.fields) = r2 at D2 HR4
      generalize e.fields.any overF = o at HR4 ⊢
      rcases t1 with _ | _
      rotate_left
      · have HV := Lib.hid (show R = 5 by rw [← HR4.out]; rfl)
        clear HR4
        go_wp2_with (go_at_call 58; go_fit CT.out; rintro r w4 ⟨rfl, hb4⟩; have HB4 := Lib.hid (bthen HB.out hb4); clear hb4)
        go_ret
        exact ⟨by rw [HV.out]; rfl, bthen HB03.out HB4.out⟩
      rcases r1 with _ | _ <;> rcases r2 with _ | _ <;> rcases o with _ | _
      all_goals
        first
          | (have HV := Lib.hid (show R = 1 by rw [← HR4.out]; rfl))
          | (have HV := Lib.hid (show R = 0 by rw [← HR4.out]; rfl))
        clear HR4
        go_wp2_with (first
          | (go_at_call 58; go_fit CT.out; rintro r w4 ⟨rfl, hb4⟩; have HB4 := Lib.hid hb4; have j2 := HKB.out _ hb4; clear hb4)
          | (go_at_call 59; go_fit (D1.out _ HB4.out); rintro r w5 ⟨rfl, hb5⟩; have HB5 := Lib.hid (bthen HB4.out hb5); clear hb5)
          | (go_at_call 59; go_fit (D2.out _ HB5.out); rintro r w6 ⟨rfl, hb6⟩; have HB6 := Lib.hid (bthen HB5.out hb6); clear hb6))
        go_ret
        exact ⟨by rw [HV.out]; rfl, bthen HB03.out (bthen HB.out HB6.out)⟩
end Go.Proofs.Ythinieokpgmfoaa
