/- registrarref04.Rise; registrarref06.Same: what they come to (walks). -/
import Derived.Test.YthinieokpgmfoaaRef03c
import Derived.Test.YthinieokpgmfoaaRise06
import Derived.Test.YthinieokpgmfoaaSame06
import Derived.Test.YthinieokpgmfoaaMay06
set_option linter.unusedVariables false
set_option linter.unusedSimpArgs false
namespace Go.Proofs.Ythinieokpgmfoaa
open Go.RowKit

/-- Texts rise as far as they have been looked at. -/
def RiseTo (l : List ByteArray) (m : Nat) : Prop := ∀ j (h : j + 1 < l.length), j + 1 < m → ltB l[j] l[j + 1]
theorem rise_all {l : List ByteArray} (h : RiseTo l l.length) : l.Pairwise ltB := by
  refine List.pairwise_iff_getElem.2 ?_
  intro i j hi hj hij
  obtain ⟨d, rfl⟩ : ∃ d, j = i + 1 + d := ⟨j - i - 1, by omega⟩
  induction d with
  | zero => exact h i (by omega) (by omega)
  | succ d ih => exact ltB_trans (ih (by omega) (by omega)) (h (i + 1 + d) (by omega) (by omega))
theorem ge_eq (x y : ByteArray) : decide (¬ ltB x y) = !(Op.bytesLess x.toList y.toList) := by rw [less_eq2]; simp

set_option maxHeartbeats 1000000 in
theorem refRise_any {A : Option Addr} {c : Nat} {l : List ByteArray} {w : World} (h : SlS w A c l) :
    Calls Try.prog 59 #[.slice A l.length c] w fun e w' => e = .returned (.bool (riseN l)) ∧ Below w.heap.size w w' := by
  obtain ⟨h1, h2, h3⟩ := h
  unfold maxLen at h2
  go_enter Try.func59, Try.ntmps59
  go_wp2_with fail
  go_loopw [3] (fun i wr => ∃ k : Nat, 1 ≤ k ∧ k ≤ l.length + 1 ∧ i = .int .i64 k ∧ Hid (RiseTo l k) ∧ Below w.heap.size w wr) (fun i _ => l.length + 1 - (intOf i).toNat)
  case atStart => exact ⟨1, by omega, by omega, rfl, Lib.hid (fun j hj hm => by omega), Below.refl _ _⟩
  case round =>
    obtain ⟨k, hk1, hk, rfl, hs, hb⟩ := hrel
    by_cases hk2 : k < l.length
    · obtain ⟨j, rfl⟩ : ∃ j, k = j + 1 := ⟨k - 1, by omega⟩
      obtain ⟨n, hn⟩ : ∃ n, n = j + 1 := ⟨_, rfl⟩
      have hj0 : j < l.length := by omega
      have ew : IntKind.i64.wrap ((n : Int) - 1) = (j : Int) := by rw [IntWalk.i64_in _ (by omega)]; omega
      obtain ⟨ad, rfl, hx⟩ := row_str_at (h3.below hb) hk2
      obtain ⟨ad', e', hy⟩ := row_str_at (h3.below hb) hj0
      injection e' with e'
      subst e'
      have HST := Lib.hid (show (ltB l[j] l[j + 1] → RiseTo l (n + 1)) from fun hle i hi hm => by
        rcases Nat.lt_or_ge i j with h | h
        · exact hs.out i hi (by omega)
        · obtain rfl : i = j := by omega
          exact hle)
      have HNO := Lib.hid (show (¬ ltB l[j] l[j + 1] → riseN l = false) from fun hle => by
        rw [Bool.eq_false_iff]
        intro hr
        exact hle (List.pairwise_iff_getElem.1 ((riseN_iff l).1 hr) j (j + 1) (by omega) hk2 (by omega)))
      obtain ⟨x, hxe⟩ : ∃ x, l[j + 1] = x := ⟨_, rfl⟩
      obtain ⟨y, hye⟩ : ∃ y, l[j] = y := ⟨_, rfl⟩
      rw [hxe] at hx HST HNO
      rw [hye] at hy HST HNO
      rw [← hn] at hx
      have hq := less_eq2 y x
      have b1 : (0 : Int) ≤ (j : Int) := Int.natCast_nonneg _
      have b0 : (0 : Int) ≤ (n : Int) := Int.natCast_nonneg _
      have b2 : (n : Int) < (l.length : Int) := by omega
      have b3 : (j : Int) < (l.length : Int) := by omega
      have HN := Lib.hid hn
      have ec : ((j + 1 : Nat) : Int) = (n : Int) := by omega
      rw [ec]
      clear hxe hye hs hn ec
      by_cases hlt : ltB y x
      · rw [decide_eq_true hlt] at hq
        have HL := Lib.hid hlt
        clear hlt
        go_wp2
        go_quiet (fail)
        go_wp2
        go_roundw
        case rel => exact ⟨n + 1, by omega, by have := HN.out; omega, by go_num, Lib.hid (HST.out HL.out), below_drewN hb _⟩
        case measure => have := HN.out; simp [intOf]; omega
      · rw [decide_eq_false hlt] at hq
        have HL := Lib.hid (HNO.out hlt)
        clear hlt
        go_wp2
        go_quiet (fail)
        go_wp2
        go_ret
        exact ⟨by rw [HL.out]; rfl, below_drewN hb _⟩
    · have HR := Lib.hid (show riseN l = true from (riseN_iff l).2 (rise_all (fun j hj hm => hs.out j hj (by omega))))
      clear hs
      go_wp2
      go_ret
      exact ⟨by rw [HR.out]; rfl, hb⟩

theorem texts_any2 {A B : Option Addr} {ca cb : Nat} {a b : List ByteArray} {w : World} (ha : SlS w A ca a) (hb : SlS w B cb b) : Calls Try.prog 44 #[.slice A a.length ca, .slice B b.length cb] w fun e w' => e = .returned (.bool (decide (a = b))) ∧ Below w.heap.size w w' :=
  (Texts_any A B ca cb a b w ha.1 hb.1 ha.2.1 hb.2.1 ha.2.2 hb.2.2).mono fun r w' ⟨e, n, h⟩ => ⟨e, h ▸ below_drewN (Below.refl _ _) n⟩
set_option maxHeartbeats 2000000 in
set_option maxRecDepth 100000 in
theorem refSame_any {w : World} {a b : List Clause} {A B : Option Addr} {ca cb : Nat} (ha0 : SlC w A ca a) (hb0 : SlC w B cb b) :
    Calls Try.prog 30 #[.agg #[.slice A a.length ca], .agg #[.slice B b.length cb]] w fun e w' => e = .returned (.bool (decide (a = b))) ∧ Below w.heap.size w w' := by
  obtain ⟨W1, hW1⟩ : ∃ W1, W1 = (w.alloc (.cells #[.slice A a.length ca] 24)).alloc (.cells #[.slice B b.length cb] 24) := ⟨_, rfl⟩
  have HW := Lib.hid hW1
  have hB : Below w.heap.size w W1 := by rw [hW1]; exact ((Below.refl _ _).alloc (Nat.le_refl _) _).alloc (by simp) _
  have hx1 : Bx W1 w.heap.size 24 [.slice A a.length ca] := by rw [hW1]; exact (Bx.new w _ _).alloc _
  have hx2 : Bx W1 (w.heap.size + 1) 24 [.slice B b.length cb] := by
    rw [hW1]; have := Bx.new (w.alloc (.cells #[.slice A a.length ca] 24)) 24 [.slice B b.length cb]
    simpa using this
  have hc1 := ha0.1
  have hc2 := ha0.2.1
  have hc3 := hb0.1
  have hc4 := hb0.2.1
  unfold maxLen at hc2 hc4
  have HA := Lib.hid (ha0.below hB)
  have HBB := Lib.hid (hb0.below hB)
  have HX1 := Lib.hid hx1
  have HX2 := Lib.hid hx2
  have HBl := Lib.hid hB
  have c0 := hx1.c0
  have c1 := hx2.c0
  clear hB hx1 hx2 hW1 ha0 hb0
  by_cases hl : a.length = b.length
  · have H0 := Lib.hid hl
    have hl0 : ((a.length : Int) != (b.length : Int)) = false := by rw [hl]; simp
    have hl1 : a.length ≤ b.length := by omega
    have hl2 : b.length ≤ a.length := by omega
    clear hl
    go_enter Try.func30, Try.ntmps30
    go_upto_region 1 with fail
    rw [← HW.out]
    clear HW
    go_wp2_with fail
    go_loopw [5] (fun i wr => ∃ k : Nat, k ≤ a.length ∧ i = .int .i64 k ∧ Hid (AlikeC a b k) ∧ Below W1.heap.size W1 wr) (fun i _ => a.length - (intOf i).toNat)
    case atStart => exact ⟨0, Nat.zero_le _, rfl, Lib.hid (fun j hj => by omega), Below.refl _ _⟩
    case round =>
      obtain ⟨k, hk, rfl, hal, hbl⟩ := hrel
      have k0 := (HX1.out.under hbl).c0
      have k1 := (HX2.out.under hbl).c0
      by_cases hlt : k < a.length
      · obtain ⟨ad, S, sa, T, ta, rfl, hx, hx', hS, hT⟩ := row_clause_at (HA.out.below hbl).2.2 hlt
        have hltb : k < b.length := by omega
        obtain ⟨bd, S', sa', T', ta', rfl, hy, hy', hS', hT'⟩ := row_clause_at (HBB.out.below hbl).2.2 (j := k) hltb
        have HX := Lib.hid (show a[k]? = some a[k] from List.getElem?_eq_getElem hlt)
        have HY := Lib.hid (show b[k]? = some b[k] from List.getElem?_eq_getElem hltb)
        generalize a[k] = x at hx hx' hS hT HX
        generalize b[k] = y at hy hy' hS' hT' HY
        have hax : ad.block < wr.heap.size := World.block_lt_of_cell? wr (ad.add (k * 2)) hx |> fun h => by rwa [block_add] at h
        have hbx : bd.block < wr.heap.size := World.block_lt_of_cell? wr (bd.add (k * 2)) hy |> fun h => by rwa [block_add] at h
        have HK := Lib.hid (fun W (hW : Below wr.heap.size wr W) => show Below wr.heap.size wr W ∧ W.cell? ⟨w.heap.size, 0, none⟩ = some (.slice (some ad) a.length ca) ∧ W.cell? ⟨w.heap.size + 1, 0, none⟩ = some (.slice (some bd) b.length cb) ∧
            W.cell? (ad.add (k * 2)) = some (.slice S x.tags.length sa) ∧ W.cell? ⟨(ad.add (k * 2)).block, (ad.add (k * 2)).off + 1, none⟩ = some (.slice T x.types.length ta) ∧
            W.cell? (bd.add (k * 2)) = some (.slice S' y.tags.length sa') ∧ W.cell? ⟨(bd.add (k * 2)).block, (bd.add (k * 2)).off + 1, none⟩ = some (.slice T' y.types.length ta') from
          ⟨hW, (HX1.out.under (bthen hbl hW)).c0, (HX2.out.under (bthen hbl hW)).c0, (World.cell?_of_block (hW.block _ (by rw [block_add]; exact hax))).trans hx, (World.cell?_of_block (a := ⟨(ad.add (k * 2)).block, (ad.add (k * 2)).off + 1, none⟩) (hW.block _ (by show (ad.add (k * 2)).block < _; rw [block_add]; exact hax))).trans hx',
            (World.cell?_of_block (hW.block _ (by rw [block_add]; exact hbx))).trans hy, (World.cell?_of_block (a := ⟨(bd.add (k * 2)).block, (bd.add (k * 2)).off + 1, none⟩) (hW.block _ (by show (bd.add (k * 2)).block < _; rw [block_add]; exact hbx))).trans hy'⟩)
        have C1 := Lib.hid (fun W (R : Prop) (hb : Below wr.heap.size wr W ∧ R) => texts_any2 (hS.below hb.1) (hS'.below hb.1))
        have C2 := Lib.hid (fun W (R : Prop) (hb : Below wr.heap.size wr W ∧ R) => texts_any2 (hT.below hb.1) (hT'.below hb.1))
        have HEQ := Lib.hid (show decide (x = y) = (decide (x.tags = y.tags) && decide (x.types = y.types)) by rw [← Bool.decide_and]; exact decide_eq_decide.2 ⟨fun h => by rw [h]; exact ⟨rfl, rfl⟩, fun h => clause_ext h.1 h.2⟩)
        generalize decide (x.tags = y.tags) = b1 at C1 HEQ
        generalize decide (x.types = y.types) = b2 at C2 HEQ
        have c2 : (0 : Int) ≤ (k : Int) := Int.natCast_nonneg _
        have c3 : (k : Int) < (a.length : Int) := by omega
        have c4 : (k : Int) < (b.length : Int) := by omega
        clear hx hx' hy hy' hS hT hS' hT'
        go_upto_region 6 with fail
        clear k0 k1
        go_cut [6] (fun v wx => v = .bool b1 ∧ Below wr.heap.size wr wx)
        case first =>
          go_region_held3 (fun W => Below wr.heap.size wr W ∧ W.cell? ⟨w.heap.size, 0, none⟩ = some (.slice (some ad) a.length ca) ∧ W.cell? ⟨w.heap.size + 1, 0, none⟩ = some (.slice (some bd) b.length cb) ∧
            W.cell? (ad.add (k * 2)) = some (.slice S x.tags.length sa) ∧ W.cell? ⟨(ad.add (k * 2)).block, (ad.add (k * 2)).off + 1, none⟩ = some (.slice T x.types.length ta) ∧
            W.cell? (bd.add (k * 2)) = some (.slice S' y.tags.length sa') ∧ W.cell? ⟨(bd.add (k * 2)).block, (bd.add (k * 2)).off + 1, none⟩ = some (.slice T' y.types.length ta'))
            (first | exact HK.out _ (below_drawn (Below.refl _ _)) | exact HK.out _ (bthen (And.left (by assumption : Below wr.heap.size wr _ ∧ _)) (by assumption)))
            (first | (go_at_call 44; refine (C1.out _ _ (by assumption)).mono ?_; rintro r w' ⟨rfl, hb⟩))
          all_goals go_wp2_with fail
          all_goals go_meet
          all_goals exact ⟨rfl, And.left (by assumption : Below wr.heap.size wr _ ∧ _)⟩
        case rest =>
          obtain ⟨rfl, hbc⟩ := hcut
          have HBC := Lib.hid hbc
          clear hbc
          go_upto_region 7 with fail
          go_cut [7] (fun v wx => v = .bool b2 ∧ Below wr.heap.size wr wx)
          case first =>
            go_region_held3 (fun W => Below wr.heap.size wr W ∧ W.cell? ⟨w.heap.size, 0, none⟩ = some (.slice (some ad) a.length ca) ∧ W.cell? ⟨w.heap.size + 1, 0, none⟩ = some (.slice (some bd) b.length cb) ∧
              W.cell? (ad.add (k * 2)) = some (.slice S x.tags.length sa) ∧ W.cell? ⟨(ad.add (k * 2)).block, (ad.add (k * 2)).off + 1, none⟩ = some (.slice T x.types.length ta) ∧
              W.cell? (bd.add (k * 2)) = some (.slice S' y.tags.length sa') ∧ W.cell? ⟨(bd.add (k * 2)).block, (bd.add (k * 2)).off + 1, none⟩ = some (.slice T' y.types.length ta'))
              (first | exact HK.out _ (below_drawn HBC.out) | exact HK.out _ (bthen (And.left (by assumption : Below wr.heap.size wr _ ∧ _)) (by assumption)))
              (first | (go_at_call 44; refine (C2.out _ _ (by assumption)).mono ?_; rintro r w' ⟨rfl, hb⟩))
            all_goals go_wp2_with fail
            all_goals go_meet
            all_goals exact ⟨rfl, And.left (by assumption : Below wr.heap.size wr _ ∧ _)⟩
          case rest =>
            obtain ⟨rfl, hbd⟩ := hcut
            have HBD := Lib.hid (bthen hbl hbd)
            clear hbd C1 C2 HK
            rcases b1 with _ | _ <;> rcases b2 with _ | _
            · have hne : decide (a = b) = false := decide_eq_false (fun e => by
                subst e
                have h1 := HX.out.symm.trans HY.out
                injection h1 with h1
                have h2 := HEQ.out
                rw [decide_eq_true h1] at h2
                cases h2)
              have HNE := Lib.hid hne
              clear hne
              go_wp2
              go_ret
              exact ⟨by rw [HNE.out]; rfl, bthen HBl.out HBD.out⟩
            · have hne : decide (a = b) = false := decide_eq_false (fun e => by
                subst e
                have h1 := HX.out.symm.trans HY.out
                injection h1 with h1
                have h2 := HEQ.out
                rw [decide_eq_true h1] at h2
                cases h2)
              have HNE := Lib.hid hne
              clear hne
              go_wp2
              go_ret
              exact ⟨by rw [HNE.out]; rfl, bthen HBl.out HBD.out⟩
            · have hne : decide (a = b) = false := decide_eq_false (fun e => by
                subst e
                have h1 := HX.out.symm.trans HY.out
                injection h1 with h1
                have h2 := HEQ.out
                rw [decide_eq_true h1] at h2
                cases h2)
              have HNE := Lib.hid hne
              clear hne
              go_wp2
              go_ret
              exact ⟨by rw [HNE.out]; rfl, bthen HBl.out HBD.out⟩
            · have hxy : x = y := of_decide_eq_true HEQ.out
              have HXY := Lib.hid hxy
              clear hxy
              go_wp2
              go_roundw
              case rel =>
                refine ⟨k + 1, by omega, by go_num, Lib.hid fun j hj => ?_, HBD.out⟩
                rcases Nat.lt_or_ge j k with h | h
                · exact hal.out j h
                · obtain rfl : j = k := by omega
                  rw [HX.out, HY.out, HXY.out]
              case measure => simp [intOf]; omega
      · have HR := Lib.hid (show a = b from alikeC_all H0.out (fun j hj => hal.out j (by omega)))
        clear hal
        go_wp2
        go_ret
        exact ⟨by rw [decide_eq_true HR.out]; rfl, bthen HBl.out hbl⟩
  · have hl0 : ((a.length : Int) != (b.length : Int)) = true := by rw [bne_iff_ne]; omega
    have hne : a ≠ b := fun e => hl (by rw [e])
    rw [decide_eq_false hne]
    clear hne hl
    go_enter Try.func30, Try.ntmps30
    go_upto_region 1 with fail
    rw [← HW.out]
    clear HW
    go_wp2_with fail
    go_ret
    exact ⟨rfl, HBl.out⟩
end Go.Proofs.Ythinieokpgmfoaa
