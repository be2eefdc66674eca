/- PostingThree: the law's walk. -/
import Derived.Test.YtohhapceeohhdaaLaw13a
set_option linter.unusedVariables false
set_option linter.unusedSimpArgs false
namespace Go.Proofs.Ytohhapceeohhdaa
open Go.RowKit

set_option maxHeartbeats 4000000 in
set_option maxRecDepth 100000 in
theorem postingThree_walk (w : World) (A0a : Option Addr) (c0a : Nat) (xa : List Int) (ha : SlI w A0a c0a xa) (_ : ∀ x ∈ xa, (Lit.int .i64 x).wf = true) (A0b : Option Addr) (c0b : Nat) (xb : List Int) (hb : SlI w A0b c0b xb) (_ : ∀ x ∈ xb, (Lit.int .i64 x).wf = true) (A0c : Option Addr) (c0c : Nat) (xc : List Int) (hc : SlI w A0c c0c xc) (_ : ∀ x ∈ xc, (Lit.int .i64 x).wf = true) :
    Calls Try.prog 4 #[.slice A0a xa.length c0a, .slice A0b xb.length c0b, .slice A0c xc.length c0c] w fun e w' => e = .returned (.bool true) ∧ Below w.heap.size w w' := by
  go_enter Try.func4, Try.ntmps4
  go_wp2_with fail
  refine (shown13 _).mono ?_
  rintro e w1 ⟨rfl, B1⟩
  replace ha := ha.below B1
  replace hb := hb.below B1
  replace hc := hc.below B1
  have HB := B1
  go_wp2_with fail
  refine (cRising ha).mono ?_
  rintro e w2 ⟨a, ra, la, Aa, ca, rfl, Ha, B2⟩
  clear ha
  replace hb := hb.below B2
  replace hc := hc.below B2
  replace Ha := Ha.any
  replace HB := bthen HB B2
  go_wp2_with fail
  refine (cRising hb).mono ?_
  rintro e w3 ⟨b, rb, lb, Ab, cb, rfl, Hb, B3⟩
  clear hb
  replace hc := hc.below B3
  replace Ha := Ha.below B3
  replace Hb := Hb.any
  replace HB := bthen HB B3
  go_wp2_with fail
  refine (cRising hc).mono ?_
  rintro e w4 ⟨c, rc, lc, Ac, cc, rfl, Hc, B4⟩
  clear hc
  replace Ha := Ha.below B4
  replace Hb := Hb.below B4
  replace Hc := Hc.any
  replace HB := bthen HB B4
  have lab := both_either_length a b
  have lac := both_either_length a c
  have lbc := both_either_length b c
  have g1 := both_either_length (both a b) c
  have g2 := both_either_length a (both b c)
  go_wp2_with fail
  refine (cBoth Ha Hb (by omega)).mono ?_
  rintro e w5 ⟨A_k1, c_k1, rfl, k1, B5⟩
  replace Ha := Ha.below B5
  replace Hb := Hb.below B5
  replace Hc := Hc.below B5
  replace k1 := k1.any
  replace HB := bthen HB B5
  go_wp2_with fail
  refine (cBoth k1 Hc (by omega)).mono ?_
  rintro e w6 ⟨A_k2, c_k2, rfl, k2, B6⟩
  replace Ha := Ha.below B6
  replace Hb := Hb.below B6
  replace Hc := Hc.below B6
  replace k1 := k1.below B6
  replace k2 := k2.any
  replace HB := bthen HB B6
  go_wp2_with fail
  refine (cBoth Hb Hc (by omega)).mono ?_
  rintro e w7 ⟨A_k3, c_k3, rfl, k3, B7⟩
  replace Ha := Ha.below B7
  replace Hb := Hb.below B7
  replace Hc := Hc.below B7
  replace k1 := k1.below B7
  replace k2 := k2.below B7
  replace k3 := k3.any
  replace HB := bthen HB B7
  go_wp2_with fail
  refine (cBoth Ha k3 (by omega)).mono ?_
  rintro e w8 ⟨A_k4, c_k4, rfl, k4, B8⟩
  replace Ha := Ha.below B8
  replace Hb := Hb.below B8
  replace Hc := Hc.below B8
  replace k1 := k1.below B8
  replace k2 := k2.below B8
  replace k3 := k3.below B8
  replace k4 := k4.any
  replace HB := bthen HB B8
  go_wp2_with fail
  refine (cIntsT k2 k4 (both_assoc ra rb rc)).mono ?_
  rintro e w9 ⟨rfl, n9, rfl⟩
  clear k1 k2 k3 k4
  replace Ha := Ha.drewN n9
  replace Hb := Hb.drewN n9
  replace Hc := Hc.drewN n9
  replace HB := below_drewN HB n9
  clear g1 g2
  have g1 := both_either_length (either a b) c
  have g2 := both_either_length a (either b c)
  go_wp2_with fail
  refine (cEither Ha Hb (by omega)).mono ?_
  rintro e w10 ⟨A_k1, c_k1, rfl, k1, B10⟩
  replace Ha := Ha.below B10
  replace Hb := Hb.below B10
  replace Hc := Hc.below B10
  replace k1 := k1.any
  replace HB := bthen HB B10
  go_wp2_with fail
  refine (cEither k1 Hc (by omega)).mono ?_
  rintro e w11 ⟨A_k2, c_k2, rfl, k2, B11⟩
  replace Ha := Ha.below B11
  replace Hb := Hb.below B11
  replace Hc := Hc.below B11
  replace k1 := k1.below B11
  replace k2 := k2.any
  replace HB := bthen HB B11
  go_wp2_with fail
  refine (cEither Hb Hc (by omega)).mono ?_
  rintro e w12 ⟨A_k3, c_k3, rfl, k3, B12⟩
  replace Ha := Ha.below B12
  replace Hb := Hb.below B12
  replace Hc := Hc.below B12
  replace k1 := k1.below B12
  replace k2 := k2.below B12
  replace k3 := k3.any
  replace HB := bthen HB B12
  go_wp2_with fail
  refine (cEither Ha k3 (by omega)).mono ?_
  rintro e w13 ⟨A_k4, c_k4, rfl, k4, B13⟩
  replace Ha := Ha.below B13
  replace Hb := Hb.below B13
  replace Hc := Hc.below B13
  replace k1 := k1.below B13
  replace k2 := k2.below B13
  replace k3 := k3.below B13
  replace k4 := k4.any
  replace HB := bthen HB B13
  go_wp2_with fail
  refine (cIntsT k2 k4 (either_assoc ra rb rc)).mono ?_
  rintro e w14 ⟨rfl, n14, rfl⟩
  clear k1 k2 k3 k4
  replace Ha := Ha.drewN n14
  replace Hb := Hb.drewN n14
  replace Hc := Hc.drewN n14
  replace HB := below_drewN HB n14
  clear g1 g2
  go_wp2_with fail
  refine (cEither Hb Hc (by omega)).mono ?_
  rintro e w15 ⟨A_k1, c_k1, rfl, k1, B15⟩
  replace Ha := Ha.below B15
  replace Hb := Hb.below B15
  replace Hc := Hc.below B15
  replace k1 := k1.any
  replace HB := bthen HB B15
  go_wp2_with fail
  refine (cBoth Ha k1 (by omega)).mono ?_
  rintro e w16 ⟨A_k2, c_k2, rfl, k2, B16⟩
  replace Ha := Ha.below B16
  replace Hb := Hb.below B16
  replace Hc := Hc.below B16
  replace k1 := k1.below B16
  replace k2 := k2.any
  replace HB := bthen HB B16
  go_wp2_with fail
  refine (cBoth Ha Hb (by omega)).mono ?_
  rintro e w17 ⟨A_k3, c_k3, rfl, k3, B17⟩
  replace Ha := Ha.below B17
  replace Hb := Hb.below B17
  replace Hc := Hc.below B17
  replace k1 := k1.below B17
  replace k2 := k2.below B17
  replace k3 := k3.any
  replace HB := bthen HB B17
  go_wp2_with fail
  refine (cBoth Ha Hc (by omega)).mono ?_
  rintro e w18 ⟨A_k4, c_k4, rfl, k4, B18⟩
  replace Ha := Ha.below B18
  replace Hb := Hb.below B18
  replace Hc := Hc.below B18
  replace k1 := k1.below B18
  replace k2 := k2.below B18
  replace k3 := k3.below B18
  replace k4 := k4.any
  replace HB := bthen HB B18
  go_wp2_with fail
  refine (cEither k3 k4 (by omega)).mono ?_
  rintro e w19 ⟨A_k5, c_k5, rfl, k5, B19⟩
  replace Ha := Ha.below B19
  replace Hb := Hb.below B19
  replace Hc := Hc.below B19
  replace k1 := k1.below B19
  replace k2 := k2.below B19
  replace k3 := k3.below B19
  replace k4 := k4.below B19
  replace k5 := k5.any
  replace HB := bthen HB B19
  go_wp2_with fail
  refine (cIntsT k2 k5 (both_either ra rb rc)).mono ?_
  rintro e w20 ⟨rfl, n20, rfl⟩
  clear k1 k2 k3 k4 k5
  replace Ha := Ha.drewN n20
  replace Hb := Hb.drewN n20
  replace Hc := Hc.drewN n20
  replace HB := below_drewN HB n20
  go_wp2_with fail
  refine (cBoth Ha Hb (by omega)).mono ?_
  rintro e w21 ⟨A_k1, c_k1, rfl, k1, B21⟩
  replace Ha := Ha.below B21
  replace Hb := Hb.below B21
  replace Hc := Hc.below B21
  replace k1 := k1.any
  replace HB := bthen HB B21
  go_wp2_with fail
  refine (cEither Ha k1 (by omega)).mono ?_
  rintro e w22 ⟨A_k2, c_k2, rfl, k2, B22⟩
  replace Ha := Ha.below B22
  replace Hb := Hb.below B22
  replace Hc := Hc.below B22
  replace k1 := k1.below B22
  replace k2 := k2.any
  replace HB := bthen HB B22
  go_wp2_with fail
  refine (cIntsT k2 Ha (either_absorb ra rb)).mono ?_
  rintro e w23 ⟨rfl, n23, rfl⟩
  clear k1 k2
  replace Ha := Ha.drewN n23
  replace Hb := Hb.drewN n23
  replace Hc := Hc.drewN n23
  replace HB := below_drewN HB n23
  go_wp2
  go_ret
  exact ⟨rfl, HB⟩
end Go.Proofs.Ytohhapceeohhdaa
