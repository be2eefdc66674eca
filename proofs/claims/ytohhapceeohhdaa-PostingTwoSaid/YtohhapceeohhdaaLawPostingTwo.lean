/- PostingTwo: the law's walk. -/
import Derived.Test.YtohhapceeohhdaaLaw13a
set_option linter.unusedVariables false
set_option linter.unusedSimpArgs false
namespace Go.Proofs.Ytohhapceeohhdaa
open Go.RowKit

set_option maxHeartbeats 4000000 in
set_option maxRecDepth 100000 in
theorem postingTwo_walk (w : World) (A0 : Option Addr) (ca0 : Nat) (a0 : List Int) (ha : SlI w A0 ca0 a0) (_ : ∀ x ∈ a0, (Lit.int .i64 x).wf = true) (B0 : Option Addr) (cb0 : Nat) (b0 : List Int) (hb : SlI w B0 cb0 b0) (_ : ∀ x ∈ b0, (Lit.int .i64 x).wf = true) :
    Calls Try.prog 3 #[.slice A0 a0.length ca0, .slice B0 b0.length cb0] w fun e w' => e = .returned (.bool true) ∧ Below w.heap.size w w' := by
  go_enter Try.func3, Try.ntmps3
  go_wp2_with fail
  refine (shown13 _).mono ?_
  rintro e w1 ⟨rfl, HB⟩
  replace ha := ha.below HB
  replace hb := hb.below HB
  go_wp2_with fail
  refine (cRising ha).mono ?_
  rintro e w2 ⟨a, ra, la, A, ca, rfl, hA, B2⟩
  replace hA := hA.any
  replace hb := hb.below B2
  replace HB := bthen HB B2
  clear ha
  go_wp2_with fail
  refine (cRising hb).mono ?_
  rintro e w3 ⟨b, rb, lb, B, cb, rfl, hB, B3⟩
  replace hB := hB.any
  replace hA := hA.below B3
  replace HB := bthen HB B3
  clear hb
  go_wp2_with fail
  refine (cBoth hA hB (by omega)).mono ?_
  rintro e w4 ⟨A4, c4, rfl, k1, B4⟩
  replace k1 := k1.any
  replace hA := hA.below B4
  replace hB := hB.below B4
  replace HB := bthen HB B4
  go_wp2_with fail
  refine (cRefBoth hA hB (by omega) ra rb).mono ?_
  rintro e w5 ⟨A5, c5, rfl, k2, B5⟩
  replace k1 := k1.below B5
  replace k2 := k2.any
  replace hA := hA.below B5
  replace hB := hB.below B5
  replace HB := bthen HB B5
  go_wp2_with fail
  refine (cIntsT k1 k2 (rfl)).mono ?_
  rintro e w6 ⟨rfl, n6, rfl⟩
  replace hA := hA.drewN n6
  replace hB := hB.drewN n6
  replace HB := below_drewN HB n6
  clear k1 k2
  go_wp2_with fail
  refine (cEither hA hB (by omega)).mono ?_
  rintro e w7 ⟨A7, c7, rfl, k1, B7⟩
  replace k1 := k1.any
  replace hA := hA.below B7
  replace hB := hB.below B7
  replace HB := bthen HB B7
  go_wp2_with fail
  refine (cRefEither hA hB (by omega) ra rb).mono ?_
  rintro e w8 ⟨A8, c8, rfl, k2, B8⟩
  replace k1 := k1.below B8
  replace k2 := k2.any
  replace hA := hA.below B8
  replace hB := hB.below B8
  replace HB := bthen HB B8
  go_wp2_with fail
  refine (cIntsT k1 k2 (rfl)).mono ?_
  rintro e w9 ⟨rfl, n9, rfl⟩
  replace hA := hA.drewN n9
  replace hB := hB.drewN n9
  replace HB := below_drewN HB n9
  clear k1 k2
  go_wp2_with fail
  refine (cBoth hB hA (by omega)).mono ?_
  rintro e w10 ⟨A10, c10, rfl, k1, B10⟩
  replace k1 := k1.any
  replace hA := hA.below B10
  replace hB := hB.below B10
  replace HB := bthen HB B10
  go_wp2_with fail
  refine (cBoth hA hB (by omega)).mono ?_
  rintro e w11 ⟨A11, c11, rfl, k2, B11⟩
  replace k1 := k1.below B11
  replace k2 := k2.any
  replace hA := hA.below B11
  replace hB := hB.below B11
  replace HB := bthen HB B11
  go_wp2_with fail
  refine (cIntsT k1 k2 (both_comm ra rb)).mono ?_
  rintro e w12 ⟨rfl, n12, rfl⟩
  replace hA := hA.drewN n12
  replace hB := hB.drewN n12
  replace HB := below_drewN HB n12
  clear k1 k2
  go_wp2_with fail
  refine (cEither hB hA (by omega)).mono ?_
  rintro e w13 ⟨A13, c13, rfl, k1, B13⟩
  replace k1 := k1.any
  replace hA := hA.below B13
  replace hB := hB.below B13
  replace HB := bthen HB B13
  go_wp2_with fail
  refine (cEither hA hB (by omega)).mono ?_
  rintro e w14 ⟨A14, c14, rfl, k2, B14⟩
  replace k1 := k1.below B14
  replace k2 := k2.any
  replace hA := hA.below B14
  replace hB := hB.below B14
  replace HB := bthen HB B14
  go_wp2_with fail
  refine (cIntsT k1 k2 (either_comm ra rb)).mono ?_
  rintro e w15 ⟨rfl, n15, rfl⟩
  replace hA := hA.drewN n15
  replace hB := hB.drewN n15
  replace HB := below_drewN HB n15
  clear k1 k2
  go_wp2_with fail
  refine (cBoth hA hA (by omega)).mono ?_
  rintro e w16 ⟨A16, c16, rfl, k1, B16⟩
  replace k1 := k1.any
  replace hA := hA.below B16
  replace hB := hB.below B16
  replace HB := bthen HB B16
  go_wp2_with fail
  refine (cIntsT k1 hA (both_self ra)).mono ?_
  rintro e w17 ⟨rfl, n17, rfl⟩
  replace hA := hA.drewN n17
  replace hB := hB.drewN n17
  replace HB := below_drewN HB n17
  clear k1
  go_wp2_with fail
  refine (cBoth hA hB (by omega)).mono ?_
  rintro e w18 ⟨A18, c18, rfl, k1, B18⟩
  replace hA := hA.below B18
  replace hB := hB.below B18
  replace HB := bthen HB B18
  go_wp2_with fail
  refine (cEither hA hB (by omega)).mono ?_
  rintro e w19 ⟨A19, c19, rfl, k2, B19⟩
  replace HB := bthen HB B19
  have hlen := both_either_length a b
  have l1 : (both a b).length ≤ 120 := by omega
  have l2 : (either a b).length ≤ 120 := by omega
  have l3 : (((both a b).length : Int) + ((either a b).length : Int) == (a.length : Int) + (b.length : Int)) = true := by rw [beq_iff_eq]; omega
  clear hlen
  go_wp2
  go_ret
  exact ⟨rfl, HB⟩
end Go.Proofs.Ytohhapceeohhdaa
