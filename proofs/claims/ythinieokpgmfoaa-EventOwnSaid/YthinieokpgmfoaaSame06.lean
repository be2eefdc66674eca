/- slices.Equal at []string, slices.EqualFunc at []api.Clause, query.Same. -/
import Derived.Test.YthinieokpgmfoaaMatch
import Derived.Test.YthinieokpgmfoaaTexts04
import Derived.Test.YthinieokpgmfoaaBox
import Derived.RangeFuncOwn
set_option linter.unusedVariables false
set_option linter.unusedSimpArgs false
namespace Go.Proofs.Ythinieokpgmfoaa
open Go.RowKit

set_option maxHeartbeats 400000 in
theorem equalS_any (A B : Option Addr) (ca cb : Nat) (a b : List ByteArray) (w : World) (ha0 : SlS w A ca a) (hb0 : SlS w B cb b) :
    Calls Try.prog 43 #[.slice A a.length ca, .slice B b.length cb] w fun e w' => e = .returned (.bool (decide (a = b))) ∧ ∃ n, w' = w.drewN n := by
  obtain ⟨hca, hma, ha⟩ := ha0
  obtain ⟨hcb, hmb, hb⟩ := hb0
  unfold maxLen at hma hmb
  by_cases hl : a.length = b.length
  · have H0 := Lib.hid hl
    have hl0 : ((a.length : Int) != (b.length : Int)) = false := by rw [hl]; simp
    have hl1 : a.length ≤ b.length := by omega
    have hl2 : b.length ≤ a.length := by omega
    clear hl
    go_enter Try.func43, Try.ntmps43
    go_wp2
    go_loopw [13] (fun i wr => ∃ k n : Nat, k ≤ a.length ∧ i = .int .i64 k ∧ AlikeB a b k ∧ wr = w.drewN n) (fun i _ => a.length - (intOf i).toNat)
    case atStart => exact ⟨0, 0, Nat.zero_le _, rfl, fun j hj => by omega, rfl⟩
    case round =>
      obtain ⟨k, n, hk, rfl, hal, rfl⟩ := hrel
      by_cases hlt : k < a.length
      · obtain ⟨ad, rfl, hx⟩ := row_str_at ha hlt
        obtain ⟨bd, rfl, hy⟩ := row_str_at hb (j := k) (by omega)
        have hltb : k < b.length := by omega
        generalize hxe : a[k] = x at hx
        generalize hye : b[k] = y at hy
        have HX := Lib.hid hxe
        have HY := Lib.hid hye
        clear hxe hye
        have hq := strEqL x y
        by_cases hxy : x = y
        · rw [decide_eq_true hxy] at hq
          have HXY := Lib.hid hxy
          clear hxy
          go_wp2
          go_quiet (fail)
          go_wp2
          go_roundw
          case rel =>
            refine ⟨k + 1, _, by omega, by go_num, fun j hj => ?_, rfl⟩
            rcases Nat.lt_or_ge j k with h | h
            · exact hal j h
            · obtain rfl : j = k := by omega
              rw [List.getElem?_eq_getElem hlt, List.getElem?_eq_getElem hltb, HX.out, HY.out, HXY.out]
          case measure => simp [intOf]; omega
        · rw [decide_eq_false hxy] at hq
          have HXY := Lib.hid hxy
          clear hxy
          go_wp2
          go_quiet (fail)
          go_wp2
          go_ret
          refine ⟨?_, _, World.drewN_drewN _ _ _⟩
          have : a ≠ b := fun e => by
            subst e
            exact HXY.out (HX.out.symm.trans HY.out)
          simp [this]
      · go_wp2
        go_ret
        refine ⟨?_, _, rfl⟩
        obtain rfl : k = a.length := by omega
        simp [alikeB_all H0.out hal]
  · have hl0 : ((a.length : Int) != (b.length : Int)) = true := by rw [bne_iff_ne]; omega
    go_enter Try.func43, Try.ntmps43
    go_wp2
    go_ret
    refine ⟨?_, 0, rfl⟩
    have : a ≠ b := fun e => hl (by rw [e])
    simp [this]
/-- A clause as a value. -/
abbrev vClause (x : Clause) (S : Option Addr) (sa : Nat) (T : Option Addr) (ta : Nat) : Value := .agg #[.slice S x.tags.length sa, .slice T x.types.length ta]
theorem clause_ext {x y : Clause} (h1 : x.tags = y.tags) (h2 : x.types = y.types) : x = y := by cases x; cases y; simp at h1 h2; rw [h1, h2]

instance : DecidableEq Clause := fun x y => decidable_of_iff (x.tags = y.tags ∧ x.types = y.types) ⟨fun h => clause_ext h.1 h.2, fun h => by rw [h]; exact ⟨rfl, rfl⟩⟩

set_option maxHeartbeats 1000000 in
theorem same1_any {w : World} {x y : Clause} {S T S' T' : Option Addr} {sa ta sa' ta' : Nat} (h1 : SlS w S sa x.tags) (h2 : SlS w T ta x.types) (h3 : SlS w S' sa' y.tags) (h4 : SlS w T' ta' y.types) :
    Calls Try.prog 42 #[vClause x S sa T ta, vClause y S' sa' T' ta'] w fun e w' => e = .returned (.bool (decide (x = y))) ∧ Below w.heap.size w w' := by
  obtain ⟨W1, hW1⟩ : ∃ W1, W1 = (w.alloc (.cells #[.slice S x.tags.length sa, .slice T x.types.length ta] 33)).alloc (.cells #[.slice S' y.tags.length sa', .slice T' y.types.length ta'] 33) := ⟨_, rfl⟩
  have HW := Lib.hid hW1
  have hB : Below w.heap.size w W1 := by rw [hW1]; exact ((Below.refl _ _).alloc (Nat.le_refl _) _).alloc (by simp) _
  have hx1 : Bx W1 w.heap.size 33 [.slice S x.tags.length sa, .slice T x.types.length ta] := by rw [hW1]; exact (Bx.new w _ _).alloc _
  have hx2 : Bx W1 (w.heap.size + 1) 33 [.slice S' y.tags.length sa', .slice T' y.types.length ta'] := by
    rw [hW1]; have := Bx.new (w.alloc (.cells #[.slice S x.tags.length sa, .slice T x.types.length ta] 33)) 33 [.slice S' y.tags.length sa', .slice T' y.types.length ta']
    simpa using this
  have hd : decide (x = y) = (decide (x.tags = y.tags) && decide (x.types = y.types)) := by
    rw [← Bool.decide_and]; exact decide_eq_decide.2 ⟨fun h => by rw [h]; exact ⟨rfl, rfl⟩, fun h => clause_ext h.1 h.2⟩
  rw [hd]
  have CE := Lib.hid (equalS_any S S' sa sa' x.tags y.tags W1 (h1.below hB) (h3.below hB))
  have CT := Lib.hid (fun n => equalS_any T T' ta ta' x.types y.types (W1.drewN n) ((h2.below hB).drewN n) ((h4.below hB).drewN n))
  generalize decide (x.tags = y.tags) = b1 at CE ⊢
  generalize decide (x.types = y.types) = b2 at CT ⊢
  have HBx1 := Lib.hid hx1
  have HBx2 := Lib.hid hx2
  have HB := Lib.hid (fun n => below_drewN hB n)
  clear hd hB hx1 hx2 hW1 h1 h2 h3 h4
  go_enter Try.func42, Try.ntmps42
  go_upto_region 1 with fail
  rw [← HW.out]
  clear HW
  have c0 := HBx1.out.cell 0
  have c1 := HBx2.out.cell 0
  simp only [List.getElem?_cons_zero] at c0 c1
  rcases b1 with _ | _ <;> rcases b2 with _ | _
  all_goals
    go_wp2_with (first
      | (go_at_call 43; go_fit (CT.out _); rintro e w3 ⟨rfl, m, rfl⟩)
      | (go_at_call 43; go_fit CE.out; rintro e w2 ⟨rfl, n, rfl⟩; have k0 := (HBx1.out.drewN n).cell 1; have k1 := (HBx2.out.drewN n).cell 1; simp only [List.getElem?_cons_succ, List.getElem?_cons_zero] at k0 k1))
    go_ret
    first
      | exact ⟨rfl, HB.out _⟩
      | exact ⟨rfl, below_drewN (HB.out _) _⟩

/-- Clauses are alike as far as they have been looked at. -/
def AlikeC (a b : List Clause) (k : Nat) : Prop := ∀ j, j < k → a[j]? = b[j]?
theorem alikeC_all {a b : List Clause} (hl : a.length = b.length) (h : AlikeC a b a.length) : a = b := by
  refine List.ext_getElem? fun j => ?_
  rcases Nat.lt_or_ge j a.length with hj | hj
  · exact h j hj
  · rw [List.getElem?_eq_none hj, List.getElem?_eq_none (by omega)]

set_option maxHeartbeats 1000000 in
theorem equalC_any (A B : Option Addr) (ca cb : Nat) (a b : List Clause) (w : World) (ha0 : SlC w A ca a) (hb0 : SlC w B cb b) :
    Calls Try.prog 41 #[.slice A a.length ca, .slice B b.length cb, .func (.func 42) #[] #[]] w fun e w' => e = .returned (.bool (decide (a = b))) ∧ Below w.heap.size w w' := by
  obtain ⟨hca, hma, ha⟩ := ha0
  obtain ⟨hcb, hmb, hb⟩ := hb0
  unfold maxLen at hma hmb
  by_cases hl : a.length = b.length
  · have H0 := Lib.hid hl
    have hl0 : ((a.length : Int) != (b.length : Int)) = false := by rw [hl]; simp
    have hl1 : a.length ≤ b.length := by omega
    have hl2 : b.length ≤ a.length := by omega
    clear hl
    go_enter Try.func41, Try.ntmps41
    go_wp2
    go_loopw [17] (fun i wr => ∃ k : Nat, k ≤ a.length ∧ i = .int .i64 k ∧ Hid (AlikeC a b k) ∧ Below w.heap.size w wr) (fun i _ => a.length - (intOf i).toNat)
    case atStart => exact ⟨0, Nat.zero_le _, rfl, Lib.hid (fun j hj => by omega), Below.refl _ _⟩
    case round =>
      obtain ⟨k, hk, rfl, hal, hbl⟩ := hrel
      by_cases hlt : k < a.length
      · obtain ⟨ad, S, sa, T, ta, rfl, hx, hx', hS, hT⟩ := row_clause_at (ha.below hbl) hlt
        have hltb : k < b.length := by omega
        obtain ⟨bd, S', sa', T', ta', rfl, hy, hy', hS', hT'⟩ := row_clause_at (hb.below hbl) (j := k) hltb
        have hxe : a[k]? = some a[k] := List.getElem?_eq_getElem hlt
        have hye : b[k]? = some b[k] := List.getElem?_eq_getElem hltb
        have HX := Lib.hid hxe
        have HY := Lib.hid hye
        generalize a[k] = x at hx hx' hS hT HX
        generalize b[k] = y at hy hy' hS' hT' HY
        clear hxe hye
        have hyA : ∀ o, (wr.alloc o).cell? (bd.add (k * 2)) = some (.slice S' y.tags.length sa') ∧ (wr.alloc o).cell? ⟨(bd.add (k * 2)).block, (bd.add (k * 2)).off + 1, none⟩ = some (.slice T' y.types.length ta') := fun o => ⟨cell_kept hy (World.grownBy_alloc wr o none) (fun r e => by cases e), cell_kept hy' (World.grownBy_alloc wr o none) (fun r e => by cases e)⟩
        have ha1 := (hyA (.cells #[.slice S x.tags.length sa, .slice T x.types.length ta] 33)).1
        have ha2 := (hyA (.cells #[.slice S x.tags.length sa, .slice T x.types.length ta] 33)).2
        have CS := Lib.hid (fun (W : World) (hb : Below wr.heap.size wr W) => same1_any (w := W) (hS.below hb) (hT.below hb) (hS'.below hb) (hT'.below hb))
        have hd : decide (x = y) = false ∨ decide (x = y) = true := by cases decide (x = y) <;> simp
        clear hyA hS hT hS' hT' ha hb
        have b1 : (0 : Int) ≤ (k : Int) := Int.natCast_nonneg _
        have b2 : (k : Int) < (a.length : Int) := by omega
        have b3 : (k : Int) < (b.length : Int) := by omega
        rcases hd with hd | hd
        all_goals
          rw [hd] at CS
          have HD := Lib.hid hd
          clear hd
          go_wp2_with (go_at_call 42; go_fit (CS.out _ (((Below.refl _ _).alloc (Nat.le_refl _) _).alloc (by simp) _)); rintro e w3 ⟨rfl, hb3⟩)
        · go_wp2
          go_ret
          refine ⟨?_, bthen hbl (bthen (((Below.refl wr.heap.size wr).alloc (Nat.le_refl _) _).alloc (by simp) _) hb3)⟩
          have hne : a ≠ b := fun e => by
            subst e
            have h1 := HX.out.symm.trans HY.out
            injection h1 with h1
            subst h1
            simpa using HD.out
          simp [hne]
        · go_wp2
          go_roundw
          case rel =>
            refine ⟨k + 1, by omega, by go_num, Lib.hid fun j hj => ?_, bthen hbl (bthen (((Below.refl wr.heap.size wr).alloc (Nat.le_refl _) _).alloc (by simp) _) hb3)⟩
            rcases Nat.lt_or_ge j k with h | h
            · exact hal.out j h
            · obtain rfl : j = k := by omega
              rw [HX.out, HY.out, of_decide_eq_true HD.out]
          case measure => simp [intOf]; omega
      · go_wp2
        go_ret
        obtain rfl : k = a.length := by omega
        refine ⟨?_, hbl⟩
        simp [alikeC_all H0.out hal.out]
  · have hl0 : ((a.length : Int) != (b.length : Int)) = true := by rw [bne_iff_ne]; omega
    go_enter Try.func41, Try.ntmps41
    go_wp2
    go_ret
    refine ⟨?_, Below.refl _ _⟩
    have : a ≠ b := fun e => hl (by rw [e])
    simp [this]

theorem Same_any {w : World} {a b : List Clause} {A B : Option Addr} {ca cb : Nat} (ha : SlC w A ca a) (hb : SlC w B cb b) :
    Calls Try.prog 17 #[.agg #[.slice A a.length ca], .agg #[.slice B b.length cb]] w fun e w' => e = .returned (.bool (decide (a = b))) ∧ Below w.heap.size w w' := by
  have H := Lib.hid (fun (o o' : Obj) => equalC_any A B ca cb a b ((w.alloc o).alloc o') ((ha.alloc o).alloc o') ((hb.alloc o).alloc o'))
  clear ha hb
  go_enter Try.func17, Try.ntmps17
  go_wp2_with fail
  refine (H.out _ _).mono ?_
  rintro e w' ⟨rfl, hb⟩
  go_wp2
  go_ret
  exact ⟨rfl, bthen (((Below.refl w.heap.size w).alloc (Nat.le_refl _) _).alloc (by simp) _) hb⟩
end Go.Proofs.Ythinieokpgmfoaa
