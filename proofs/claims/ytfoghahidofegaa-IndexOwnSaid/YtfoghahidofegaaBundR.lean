/- Two events alike, plain. registrarref04.Same. registrarref14.Same (walk). -/
import Derived.Test.YtfoghahidofegaaBundN
import Derived.Test.YtfoghahidofegaaBundA
import Derived.Deep.DeepFit
import Derived.Test.YtfoghahidofegaaBundI
import Derived.Deep.RegionHeld3
set_option linter.unusedVariables false
set_option linter.unusedSimpArgs false
namespace Go.Proofs.Ytfoghahidofegaa
open Go.RowKit

/-- Whether two events are the same. -/
def sameE (a b : Event) : Bool := decide (a.stream = b.stream) && (decide (a.type = b.type) && (decide (a.tags = b.tags) && decide (a.fields = b.fields)))
theorem event_ext {a b : Event} (h1 : a.stream = b.stream) (h2 : a.type = b.type) (h3 : a.tags = b.tags) (h4 : a.fields = b.fields) : a = b := by
  cases a; cases b; simp at h1 h2 h3 h4; rw [h1, h2, h3, h4]
theorem sameE_iff (a b : Event) : sameE a b = true ↔ a = b := by
  unfold sameE
  simp only [Bool.and_eq_true, decide_eq_true_eq]
  exact ⟨fun h => event_ext h.1 h.2.1 h.2.2.1 h.2.2.2, fun h => by rw [h]; simp⟩
theorem sameE_refl (a : Event) : sameE a a = true := (sameE_iff a a).2 rfl
theorem sameE_comm (a b : Event) : sameE a b = sameE b a := by
  rw [Bool.eq_iff_iff, sameE_iff, sameE_iff]; exact eq_comm

end Go.Proofs.Ytfoghahidofegaa

namespace Go.Proofs.Ytfoghahidofegaa
open Go.RowKit

set_option maxHeartbeats 4000000 in
theorem refSameE_any {w : World} {x y : Event} {T F T' F' : Option Addr} {ct cf ct' cf' : Nat} (h1 : SlS w T ct x.tags) (h2 : SlF w F cf x.fields) (h3 : SlS w T' ct' y.tags) (h4 : SlF w F' cf' y.fields) :
    Calls Try.prog 50 #[vEvent x T ct F cf, vEvent y T' ct' F' cf'] w fun e w' => e = .returned (.bool (sameE x y)) ∧ Below w.heap.size w w' := by
  obtain ⟨W1, hW1⟩ : ∃ W1, W1 = (w.alloc (.cells #[.string x.stream, .string x.type, .slice T x.tags.length ct, .slice F x.fields.length cf] 25)).alloc (.cells #[.string y.stream, .string y.type, .slice T' y.tags.length ct', .slice F' y.fields.length cf'] 25) := ⟨_, rfl⟩
  have HW := Lib.hid hW1
  have hB : Below w.heap.size w W1 := by rw [hW1]; exact ((Below.refl _ _).alloc (Nat.le_refl _) _).alloc (by simp) _
  have hx1 : Bx W1 w.heap.size 25 [.string x.stream, .string x.type, .slice T x.tags.length ct, .slice F x.fields.length cf] := by rw [hW1]; exact (Bx.new w _ _).alloc _
  have hx2 : Bx W1 (w.heap.size + 1) 25 [.string y.stream, .string y.type, .slice T' y.tags.length ct', .slice F' y.fields.length cf'] := by
    rw [hW1]; have := Bx.new (w.alloc (.cells #[.string x.stream, .string x.type, .slice T x.tags.length ct, .slice F x.fields.length cf] 25)) 25 [.string y.stream, .string y.type, .slice T' y.tags.length ct', .slice F' y.fields.length cf']
    simpa using this
  have CT := Lib.hid (texts_any2 (h1.below hB) (h3.below hB))
  have q1 := strEqL x.stream y.stream
  have q2 := strEqL x.type y.type
  have HF1 := Lib.hid (h2.below hB)
  have HF2 := Lib.hid (h4.below hB)
  unfold sameE
  generalize decide (x.stream = y.stream) = b1 at q1 ⊢
  generalize decide (x.type = y.type) = b2 at q2 ⊢
  generalize decide (x.tags = y.tags) = b3 at CT ⊢
  obtain ⟨R, hR⟩ : ∃ R, R = (b1 && (b2 && (b3 && decide (x.fields = y.fields)))) := ⟨_, rfl⟩
  rw [← hR]
  have HR := Lib.hid hR
  clear hR
  have HBx1 := Lib.hid hx1
  have HBx2 := Lib.hid hx2
  have HB := Lib.hid hB
  clear hB hx1 hx2 hW1 h1 h2 h3 h4
  go_enter Try.func50, Try.ntmps50
  go_upto_region 1 with fail
  rw [← HW.out]
  clear HW
  have c2 := HBx1.out.cell 2
  have d2 := HBx2.out.cell 2
  simp only [List.getElem?_cons_succ, List.getElem?_cons_zero] at c2 d2
  go_upto_region 2 with (go_at_call 68; go_fit CT.out; rintro e w2 ⟨rfl, hb2⟩; have HB2 := Lib.hid hb2; clear hb2)
  clear c2 d2 CT
  have X1 := Lib.hid (HBx1.out.under HB2.out)
  have X2 := Lib.hid (HBx2.out.under HB2.out)
  have R1 := Lib.hid (HF1.out.below HB2.out)
  have R2 := Lib.hid (HF2.out.below HB2.out)
  have HBW := Lib.hid (bthen HB.out HB2.out)
  clear HBx1 HBx2 HF1 HF2 HB HB2
  obtain ⟨X, hX⟩ : ∃ X, X = w2 := ⟨_, rfl⟩
  subst hX
  have c0 := X1.out.cell 0
  have c1 := X1.out.cell 1
  have c3 := X1.out.cell 3
  have d0 := X2.out.cell 0
  have d1 := X2.out.cell 1
  have d3 := X2.out.cell 3
  simp only [List.getElem?_cons_succ, List.getElem?_cons_zero] at c0 c1 c3 d0 d1 d3
  have hr1 := R1.out.1
  have hr2 := R1.out.2.1
  have hr3 := R2.out.1
  have hr4 := R2.out.2.1
  unfold maxLen at hr2 hr4
  rcases b1 with _ | _
  · have HT := Lib.hid (show R = false by rw [HR.out]; rfl)
    clear HR
    go_wp2_with fail
    go_ret
    exact ⟨by rw [HT.out]; rfl, HBW.out⟩
  rcases b2 with _ | _
  · have HT := Lib.hid (show R = false by rw [HR.out]; rfl)
    clear HR
    go_wp2_with fail
    go_ret
    exact ⟨by rw [HT.out]; rfl, HBW.out⟩
  rcases b3 with _ | _
  · have HT := Lib.hid (show R = false by rw [HR.out]; rfl)
    clear HR
    go_wp2_with fail
    go_ret
    exact ⟨by rw [HT.out]; rfl, HBW.out⟩
  by_cases hl : x.fields.length = y.fields.length
  · have H0 := Lib.hid hl
    have hl0 : ((x.fields.length : Int) != (y.fields.length : Int)) = false := by rw [hl]; simp
    clear hl
    go_wp2_with fail
    clear c0 c1 c3 d0 d1 d3
    go_loopw [6] (fun i wr => ∃ k : Nat, k ≤ x.fields.length ∧ i = .int .i64 k ∧ AlikeF x.fields y.fields k ∧ Below X.heap.size X wr) (fun i _ => x.fields.length - (intOf i).toNat)
    case atStart => exact ⟨0, Nat.zero_le _, rfl, fun j hj => by omega, Below.refl _ _⟩
    case round =>
      obtain ⟨k, hk, rfl, hal, hb⟩ := hrel
      have c3 := (X1.out.under hb).cell 3
      have d3 := (X2.out.under hb).cell 3
      simp only [List.getElem?_cons_succ, List.getElem?_cons_zero] at c3 d3
      have HBK := Lib.hid (fun n => below_drewN hb n)
      have HBK0 := Lib.hid hb
      by_cases hlt : k < x.fields.length
      · obtain ⟨ad, rfl, hx, hx1⟩ := row_field_at (R1.out.below hb).2.2 hlt
        obtain ⟨bd, rfl, hy, hy1⟩ := row_field_at (R2.out.below hb).2.2 (j := k) (by have := H0.out; omega)
        have hltb : k < y.fields.length := by have := H0.out; omega
        generalize hxe : x.fields[k] = u at hx hx1
        generalize hye : y.fields[k] = v at hy hy1
        have HX := Lib.hid hxe
        have HY := Lib.hid hye
        clear hxe hye hb
        have hq := strEqL u.1 v.1
        have hxy2 : (u = v) ↔ (u.1 = v.1 ∧ u.2 = v.2) := fieldEq u v
        have e1 : (0 : Int) ≤ (k : Int) := Int.natCast_nonneg _
        have e2 : (k : Int) < (x.fields.length : Int) := by omega
        have e3 : (k : Int) < (y.fields.length : Int) := by omega
        by_cases h1 : u.1 = v.1
        · by_cases h2 : u.2 = v.2
          · rw [decide_eq_true h1] at hq
            have HXY := Lib.hid (hxy2.2 ⟨h1, h2⟩)
            have h3 : (u.2 == v.2) = true := by simpa using h2
            have h3' : (u.2 != v.2) = false := by simpa using h2
            clear h1 h2 hxy2
            go_wp2
            go_quiet (fail)
            go_wp2
            go_roundw
            case rel =>
              refine ⟨k + 1, by omega, by go_num, fun j hj => ?_, HBK.out _⟩
              rcases Nat.lt_or_ge j k with h | h
              · exact hal j h
              · obtain rfl : j = k := by omega
                rw [List.getElem?_eq_getElem hlt, List.getElem?_eq_getElem hltb, HX.out, HY.out, HXY.out]
            case measure => simp [intOf]; omega
          · rw [decide_eq_true h1] at hq
            have HXY := Lib.hid (show x.fields ≠ y.fields from fun e => h2 ((hxy2.1 (by rw [← HX.out, ← HY.out]; simp only [e])).2))
            have HT := Lib.hid (show R = false by rw [HR.out, decide_eq_false HXY.out]; rfl)
            have h3 : (u.2 == v.2) = false := by simpa using h2
            have h3' : (u.2 != v.2) = true := by simpa using h2
            clear h1 h2 hxy2 HR
            go_wp2
            go_quiet (fail)
            go_wp2
            go_ret
            exact ⟨by rw [HT.out]; rfl, bthen HBW.out (HBK.out _)⟩
        · rw [decide_eq_false h1] at hq
          have HXY := Lib.hid (show x.fields ≠ y.fields from fun e => h1 ((hxy2.1 (by rw [← HX.out, ← HY.out]; simp only [e])).1))
          have HT := Lib.hid (show R = false by rw [HR.out, decide_eq_false HXY.out]; rfl)
          clear h1 hxy2 HR
          go_wp2
          go_quiet (fail)
          go_wp2
          go_ret
          exact ⟨by rw [HT.out]; rfl, bthen HBW.out (HBK.out _)⟩
      · obtain rfl : k = x.fields.length := by omega
        have HT := Lib.hid (show R = true by rw [HR.out, decide_eq_true (alikeF_all H0.out hal)]; rfl)
        clear HR hb
        go_wp2
        go_ret
        exact ⟨by rw [HT.out]; rfl, bthen HBW.out HBK0.out⟩
  · have hl0 : ((x.fields.length : Int) != (y.fields.length : Int)) = true := by rw [bne_iff_ne]; omega
    have HT := Lib.hid (show R = false by rw [HR.out, decide_eq_false (fun e => hl (by rw [e]))]; rfl)
    clear HR
    go_wp2_with fail
    go_ret
    exact ⟨by rw [HT.out]; rfl, HBW.out⟩

end Go.Proofs.Ytfoghahidofegaa

namespace Go.Proofs.Ytfoghahidofegaa
open Go.RowKit

/-- Two records alike. -/
def sameR1 (a b : Rec) : Bool := decide (a.pos = b.pos) && (decide (a.ver = b.ver) && sameE a.ev b.ev)
theorem sameR1_iff (a b : Rec) : sameR1 a b = true ↔ a = b := by
  unfold sameR1
  rw [Bool.and_eq_true, Bool.and_eq_true, decide_eq_true_eq, decide_eq_true_eq, sameE_iff]
  constructor
  · rintro ⟨h1, h2, h3⟩; cases a; cases b; simp_all
  · rintro rfl; exact ⟨rfl, rfl, rfl⟩
/-- Two rows of records alike. -/
def sameRs : List Rec → List Rec → Bool
  | [], [] => true
  | a :: as_, b :: bs => sameR1 a b && sameRs as_ bs
  | _, _ => false
theorem sameRs_iff : ∀ (a b : List Rec), sameRs a b = true ↔ a = b
  | [], [] => by simp [sameRs]
  | a :: as_, [] => by simp [sameRs]
  | [], b :: bs => by simp [sameRs]
  | a :: as_, b :: bs => by rw [sameRs, Bool.and_eq_true, sameR1_iff, sameRs_iff as_ bs]; simp
theorem sameRs_refl (a : List Rec) : sameRs a a = true := (sameRs_iff a a).2 rfl
theorem sameRs_ne {a b : List Rec} (h : a.length ≠ b.length) : sameRs a b = false := by
  cases hh : sameRs a b with
  | false => rfl
  | true => exact absurd (congrArg List.length ((sameRs_iff a b).1 hh)) h
theorem sameRs_drop {a b : List Rec} {k : Nat} (ha : k < a.length) (hb : k < b.length) : sameRs (a.drop k) (b.drop k) = (sameR1 a[k] b[k] && sameRs (a.drop (k + 1)) (b.drop (k + 1))) := by
  rw [List.drop_eq_getElem_cons ha, List.drop_eq_getElem_cons hb]; rfl

set_option maxHeartbeats 8000000 in
set_option maxRecDepth 100000 in
theorem ref14Same_any {w : World} {A B : Option Addr} {ca cb : Nat} {a b : List Rec} (ha : SlR w A ca a) (hb : SlR w B cb b) :
    Calls Try.prog 21 #[.slice A a.length ca, .slice B b.length cb] w fun r w' => r = .returned (.bool (sameRs a b)) ∧ Below w.heap.size w w' := by
  have ha2 := ha.2.1
  have hb2 := hb.2.1
  unfold maxLen at ha2 hb2
  have ha1 := ha.1
  have hb1 := hb.1
  go_enter Try.func21, Try.ntmps21
  by_cases hl : a.length = b.length
  rotate_left
  · have HN := Lib.hid (sameRs_ne hl)
    have d0 : ((a.length : Int) != (b.length : Int)) = true := by rw [bne_iff_ne]; omega
    clear hl
    go_wp2_with fail
    go_ret
    exact ⟨ret_bool HN.out.symm, Below.refl _ _⟩
  have d0 : ((a.length : Int) != (b.length : Int)) = false := by rw [hl]; simp
  have HL := Lib.hid hl
  obtain ⟨R, hR⟩ : ∃ R, sameRs a b = R := ⟨_, rfl⟩
  rw [hR]
  clear hl
  go_wp2_with fail
  go_loopw [5] (fun i wr => ∃ k : Nat, k ≤ a.length ∧ i = .int .i64 k ∧ Hid (sameRs (a.drop k) (b.drop k) = R) ∧ Below w.heap.size w wr) (fun i _ => a.length - (intOf i).toNat)
  case atStart => exact ⟨0, Nat.zero_le _, rfl, Lib.hid hR, Below.refl _ _⟩
  case round =>
    clear hR
    obtain ⟨k, hk, rfl, hs, hbl⟩ := hrel
    by_cases hlt : k < a.length
    · have hltb : k < b.length := by rw [← HL.out]; exact hlt
      obtain ⟨ad, S, sa, T, ta, rfl, c0, c1, c2, c3, c4, c5, hS, hT⟩ := row_rec_at (ha.below hbl).2.2 hlt
      obtain ⟨bd, S', sb, T', tb, rfl, e0, e1, e2, e3, e4, e5, hS', hT'⟩ := row_rec_at (hb.below hbl).2.2 hltb
      have HST := Lib.hid (sameRs_drop hlt hltb)
      generalize a[k] = x at c0 c1 c2 c3 c4 c5 hS hT HST
      generalize b[k] = y at e0 e1 e2 e3 e4 e5 hS' hT' HST
      have HA := Lib.hid (And.intro hS.any hT.any)
      have HB := Lib.hid (And.intro hS'.any hT'.any)
      obtain ⟨s, hs0⟩ : ∃ s, sameE x.ev y.ev = s := ⟨_, rfl⟩
      have C1 : Hid (∀ W (Q : Prop), Below wr.heap.size wr W ∧ Q → Calls Try.prog 50 #[vEvent x.ev S sa T ta, vEvent y.ev S' sb T' tb] W fun e w' => e = .returned (.bool s) ∧ Below W.heap.size W w') := Lib.hid (fun W Q hW => by
        rw [← hs0]; exact refSameE_any (HA.out.1.below hW.1) (HA.out.2.below hW.1) (HB.out.1.below hW.1) (HB.out.2.below hW.1))
      have HS0 := Lib.hid hs0
      have i1 : (0 : Int) ≤ (k : Int) := Int.natCast_nonneg _
      have i2 : (k : Int) < (a.length : Int) := by omega
      have i3 : (k : Int) < (b.length : Int) := by omega
      have HKA : Hid (∀ W, Below wr.heap.size wr W → Below wr.heap.size wr W ∧ (W.cell? ⟨(ad.add (k * 6)).block, (ad.add (k * 6)).off + 2, none⟩ = some (.string x.ev.stream) ∧ W.cell? ⟨(ad.add (k * 6)).block, (ad.add (k * 6)).off + 3, none⟩ = some (.string x.ev.type) ∧ W.cell? ⟨(ad.add (k * 6)).block, (ad.add (k * 6)).off + 4, none⟩ = some (.slice S x.ev.tags.length sa) ∧ W.cell? ⟨(ad.add (k * 6)).block, (ad.add (k * 6)).off + 5, none⟩ = some (.slice T x.ev.fields.length ta)) ∧ (W.cell? ⟨(bd.add (k * 6)).block, (bd.add (k * 6)).off + 2, none⟩ = some (.string y.ev.stream) ∧ W.cell? ⟨(bd.add (k * 6)).block, (bd.add (k * 6)).off + 3, none⟩ = some (.string y.ev.type) ∧ W.cell? ⟨(bd.add (k * 6)).block, (bd.add (k * 6)).off + 4, none⟩ = some (.slice S' y.ev.tags.length sb) ∧ W.cell? ⟨(bd.add (k * 6)).block, (bd.add (k * 6)).off + 5, none⟩ = some (.slice T' y.ev.fields.length tb))) :=
        Lib.hid (fun W hW => by
          have mv : ∀ p u, wr.cell? p = some u → W.cell? p = some u := fun p u h => (hW.cell (World.block_lt_of_cell? wr _ h)).trans h
          exact ⟨hW, ⟨mv _ _ c2, mv _ _ c3, mv _ _ c4, mv _ _ c5⟩, ⟨mv _ _ e2, mv _ _ e3, mv _ _ e4, mv _ _ e5⟩⟩)
      have HC := Lib.hid (fun W (hW : Below wr.heap.size wr W) => show W.cell? (ad.add (k * 6)) = some (.int .i64 x.pos) ∧ W.cell? ⟨(ad.add (k * 6)).block, (ad.add (k * 6)).off + 1, none⟩ = some (.int .i64 x.ver) ∧ W.cell? (bd.add (k * 6)) = some (.int .i64 y.pos) ∧ W.cell? ⟨(bd.add (k * 6)).block, (bd.add (k * 6)).off + 1, none⟩ = some (.int .i64 y.ver) from by
          have mv : ∀ p u, wr.cell? p = some u → W.cell? p = some u := fun p u h => (hW.cell (World.block_lt_of_cell? wr _ h)).trans h
          exact ⟨mv _ _ c0, mv _ _ c1, mv _ _ e0, mv _ _ e1⟩)
      clear c0 c1 c2 c3 c4 c5 e0 e1 e2 e3 e4 e5 hS hT hS' hT' hs0
      go_upto_region 6 with fail
      go_cut [6] (fun v wx => v = .bool s ∧ Below wr.heap.size wr wx)
      case first =>
        go_region_held3 (fun W => Below wr.heap.size wr W ∧ (W.cell? ⟨(ad.add (k * 6)).block, (ad.add (k * 6)).off + 2, none⟩ = some (.string x.ev.stream) ∧ W.cell? ⟨(ad.add (k * 6)).block, (ad.add (k * 6)).off + 3, none⟩ = some (.string x.ev.type) ∧ W.cell? ⟨(ad.add (k * 6)).block, (ad.add (k * 6)).off + 4, none⟩ = some (.slice S x.ev.tags.length sa) ∧ W.cell? ⟨(ad.add (k * 6)).block, (ad.add (k * 6)).off + 5, none⟩ = some (.slice T x.ev.fields.length ta)) ∧ (W.cell? ⟨(bd.add (k * 6)).block, (bd.add (k * 6)).off + 2, none⟩ = some (.string y.ev.stream) ∧ W.cell? ⟨(bd.add (k * 6)).block, (bd.add (k * 6)).off + 3, none⟩ = some (.string y.ev.type) ∧ W.cell? ⟨(bd.add (k * 6)).block, (bd.add (k * 6)).off + 4, none⟩ = some (.slice S' y.ev.tags.length sb) ∧ W.cell? ⟨(bd.add (k * 6)).block, (bd.add (k * 6)).off + 5, none⟩ = some (.slice T' y.ev.fields.length tb)))
          (first | exact HKA.out _ (below_drawn (Below.refl _ _)) | (assumption) | exact HKA.out _ (bthen (And.left (by assumption : Below wr.heap.size wr _ ∧ _)) (by assumption)))
          (first | (go_at_call 50; go_fit (C1.out _ _ (by assumption)); rintro r w4 ⟨rfl, hb4⟩))
        all_goals go_wp2_with fail
        all_goals go_meet
        all_goals exact ⟨rfl, And.left (by assumption : Below wr.heap.size wr w4 ∧ _)⟩
      case rest =>
        obtain ⟨rfl, hbx⟩ := hcut
        obtain ⟨c0, c1, e0, e1⟩ := HC.out _ hbx
        have HBX := Lib.hid (bthen hbl hbx)
        clear hbx hbl C1 HKA HC
        have hR1 : sameR1 x y = (decide (x.pos = y.pos) && (decide (x.ver = y.ver) && s)) := by unfold sameR1; rw [HS0.out]
        have HR1 := Lib.hid hR1
        clear hR1
        by_cases hp : x.pos = y.pos
        · have p0 : (x.pos != y.pos) = false := by simp [hp]
          by_cases hv : x.ver = y.ver
          · have v0 : (x.ver != y.ver) = false := by simp [hv]
            cases s with
            | true =>
              have HNX := Lib.hid (show sameRs (a.drop (k + 1)) (b.drop (k + 1)) = R by
                have := hs.out
                rw [HST.out, HR1.out, decide_eq_true hp, decide_eq_true hv] at this
                simpa using this)
              clear hp hv hs
              go_upto_region 7 with fail
              go_quiet (fail)
              go_wp2_with fail
              go_roundw
              case rel => exact ⟨k + 1, by omega, by go_num, HNX, below_drewN HBX.out _⟩
              case measure => simp [intOf]; omega
            | false =>
              have HNX := Lib.hid (show false = R by
                have := hs.out
                rw [HST.out, HR1.out, decide_eq_true hp, decide_eq_true hv] at this
                simpa using this)
              clear hp hv hs
              go_upto_region 7 with fail
              go_quiet (fail)
              go_wp2_with fail
              go_ret
              exact ⟨ret_bool HNX.out, below_drewN HBX.out _⟩
          · have v0 : (x.ver != y.ver) = true := by simp [hv]
            have HNX := Lib.hid (show false = R by
              have := hs.out
              rw [HST.out, HR1.out, decide_eq_true hp, decide_eq_false hv] at this
              simpa using this)
            clear hp hv hs
            go_upto_region 7 with fail
            go_quiet (fail)
            go_wp2_with fail
            go_ret
            exact ⟨ret_bool HNX.out, below_drewN HBX.out _⟩
        · have p0 : (x.pos != y.pos) = true := by simp [hp]
          have HNX := Lib.hid (show false = R by
            have := hs.out
            rw [HST.out, HR1.out, decide_eq_false hp] at this
            simpa using this)
          clear hp hs
          go_upto_region 7 with fail
          go_quiet (fail)
          go_wp2_with fail
          go_ret
          exact ⟨ret_bool HNX.out, below_drewN HBX.out _⟩
    · obtain rfl : k = a.length := by omega
      have HNX := Lib.hid (show true = R by
        have := hs.out
        rw [List.drop_length, HL.out, List.drop_length] at this
        exact this)
      clear hs
      go_wp2_with fail
      go_ret
      exact ⟨ret_bool HNX.out, hbl⟩
end Go.Proofs.Ytfoghahidofegaa
