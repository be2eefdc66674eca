/- registrarref04.Rise; registrarref06.Same: what they come to (walks). registrarlaw19.kind (walk). One session of a law, beside both indexes. registrarref18.one, Same; registrarref04.SameAll (walks). -/
import Derived.Test.YtfoghahidofegaaGreatBundR
import Derived.Test.YtfoghahidofegaaGreatBundK
import Derived.Test.YtfoghahidofegaaGreatBundM
import Derived.Deep.RegionHeld3
set_option linter.unusedVariables false
set_option linter.unusedSimpArgs false
namespace Go.Proofs.YtfoghahidofegaaGreat
open Go.RowKit

set_option maxHeartbeats 2000000 in
set_option maxRecDepth 100000 in
theorem refSame_any {w : World} {a b : List Clause} {A B : Option Addr} {ca cb : Nat} (ha0 : SlC w A ca a) (hb0 : SlC w B cb b) :
    Calls Tryz.prog 124 #[.agg #[.slice A a.length ca], .agg #[.slice B b.length cb]] w fun e w' => e = .returned (.bool (decide (a = b))) ∧ Below w.heap.size w w' := by
  obtain ⟨W1, hW1⟩ : ∃ W1, W1 = (w.alloc (.cells #[.slice A a.length ca] 25)).alloc (.cells #[.slice B b.length cb] 25) := ⟨_, rfl⟩
  have HW := Lib.hid hW1
  have hB : Below w.heap.size w W1 := by rw [hW1]; exact ((Below.refl _ _).alloc (Nat.le_refl _) _).alloc (by simp) _
  have hx1 : Bx W1 w.heap.size 25 [.slice A a.length ca] := by rw [hW1]; exact (Bx.new w _ _).alloc _
  have hx2 : Bx W1 (w.heap.size + 1) 25 [.slice B b.length cb] := by
    rw [hW1]; have := Bx.new (w.alloc (.cells #[.slice A a.length ca] 25)) 25 [.slice B b.length cb]
    simpa using this
  have hc1 := ha0.1
  have hc2 := ha0.2.1
  have hc3 := hb0.1
  have hc4 := hb0.2.1
  unfold maxLen at hc2 hc4
  have HA := Lib.hid (ha0.below hB)
  have HBB := Lib.hid (hb0.below hB)
  have HX1 := Lib.hid hx1
  have HX2 := Lib.hid hx2
  have HBl := Lib.hid hB
  have c0 := hx1.c0
  have c1 := hx2.c0
  clear hB hx1 hx2 hW1 ha0 hb0
  by_cases hl : a.length = b.length
  · have H0 := Lib.hid hl
    have hl0 : ((a.length : Int) != (b.length : Int)) = false := by rw [hl]; simp
    have hl1 : a.length ≤ b.length := by omega
    have hl2 : b.length ≤ a.length := by omega
    clear hl
    go_enter Tryz.func124, Tryz.ntmps124
    go_upto_region 1 with fail
    rw [← HW.out]
    clear HW
    go_wp2_with fail
    go_loopw [5] (fun i wr => ∃ k : Nat, k ≤ a.length ∧ i = .int .i64 k ∧ Hid (AlikeC a b k) ∧ Below W1.heap.size W1 wr) (fun i _ => a.length - (intOf i).toNat)
    case atStart => exact ⟨0, Nat.zero_le _, rfl, Lib.hid (fun j hj => by omega), Below.refl _ _⟩
    case round =>
      obtain ⟨k, hk, rfl, hal, hbl⟩ := hrel
      have k0 := (HX1.out.under hbl).c0
      have k1 := (HX2.out.under hbl).c0
      by_cases hlt : k < a.length
      · obtain ⟨ad, S, sa, T, ta, rfl, hx, hx', hS, hT⟩ := row_clause_at (HA.out.below hbl).2.2 hlt
        have hltb : k < b.length := by omega
        obtain ⟨bd, S', sa', T', ta', rfl, hy, hy', hS', hT'⟩ := row_clause_at (HBB.out.below hbl).2.2 (j := k) hltb
        have HX := Lib.hid (show a[k]? = some a[k] from List.getElem?_eq_getElem hlt)
        have HY := Lib.hid (show b[k]? = some b[k] from List.getElem?_eq_getElem hltb)
        generalize a[k] = x at hx hx' hS hT HX
        generalize b[k] = y at hy hy' hS' hT' HY
        have hax : ad.block < wr.heap.size := World.block_lt_of_cell? wr (ad.add (k * 2)) hx |> fun h => by rwa [block_add] at h
        have hbx : bd.block < wr.heap.size := World.block_lt_of_cell? wr (bd.add (k * 2)) hy |> fun h => by rwa [block_add] at h
        have HK := Lib.hid (fun W (hW : Below wr.heap.size wr W) => show Below wr.heap.size wr W ∧ W.cell? ⟨w.heap.size, 0, none⟩ = some (.slice (some ad) a.length ca) ∧ W.cell? ⟨w.heap.size + 1, 0, none⟩ = some (.slice (some bd) b.length cb) ∧
            W.cell? (ad.add (k * 2)) = some (.slice S x.tags.length sa) ∧ W.cell? ⟨(ad.add (k * 2)).block, (ad.add (k * 2)).off + 1, none⟩ = some (.slice T x.types.length ta) ∧
            W.cell? (bd.add (k * 2)) = some (.slice S' y.tags.length sa') ∧ W.cell? ⟨(bd.add (k * 2)).block, (bd.add (k * 2)).off + 1, none⟩ = some (.slice T' y.types.length ta') from
          ⟨hW, (HX1.out.under (bthen hbl hW)).c0, (HX2.out.under (bthen hbl hW)).c0, (World.cell?_of_block (hW.block _ (by rw [block_add]; exact hax))).trans hx, (World.cell?_of_block (a := ⟨(ad.add (k * 2)).block, (ad.add (k * 2)).off + 1, none⟩) (hW.block _ (by show (ad.add (k * 2)).block < _; rw [block_add]; exact hax))).trans hx',
            (World.cell?_of_block (hW.block _ (by rw [block_add]; exact hbx))).trans hy, (World.cell?_of_block (a := ⟨(bd.add (k * 2)).block, (bd.add (k * 2)).off + 1, none⟩) (hW.block _ (by show (bd.add (k * 2)).block < _; rw [block_add]; exact hbx))).trans hy'⟩)
        have C1 := Lib.hid (fun W (R : Prop) (hb : Below wr.heap.size wr W ∧ R) => texts_any2 (hS.below hb.1) (hS'.below hb.1))
        have C2 := Lib.hid (fun W (R : Prop) (hb : Below wr.heap.size wr W ∧ R) => texts_any2 (hT.below hb.1) (hT'.below hb.1))
        have HEQ := Lib.hid (show decide (x = y) = (decide (x.tags = y.tags) && decide (x.types = y.types)) by rw [← Bool.decide_and]; exact decide_eq_decide.2 ⟨fun h => by rw [h]; exact ⟨rfl, rfl⟩, fun h => clause_ext h.1 h.2⟩)
        generalize decide (x.tags = y.tags) = b1 at C1 HEQ
        generalize decide (x.types = y.types) = b2 at C2 HEQ
        have c2 : (0 : Int) ≤ (k : Int) := Int.natCast_nonneg _
        have c3 : (k : Int) < (a.length : Int) := by omega
        have c4 : (k : Int) < (b.length : Int) := by omega
        clear hx hx' hy hy' hS hT hS' hT'
        go_upto_region 6 with fail
        clear k0 k1
        go_cut [6] (fun v wx => v = .bool b1 ∧ Below wr.heap.size wr wx)
        case first =>
          go_region_held3 (fun W => Below wr.heap.size wr W ∧ W.cell? ⟨w.heap.size, 0, none⟩ = some (.slice (some ad) a.length ca) ∧ W.cell? ⟨w.heap.size + 1, 0, none⟩ = some (.slice (some bd) b.length cb) ∧
            W.cell? (ad.add (k * 2)) = some (.slice S x.tags.length sa) ∧ W.cell? ⟨(ad.add (k * 2)).block, (ad.add (k * 2)).off + 1, none⟩ = some (.slice T x.types.length ta) ∧
            W.cell? (bd.add (k * 2)) = some (.slice S' y.tags.length sa') ∧ W.cell? ⟨(bd.add (k * 2)).block, (bd.add (k * 2)).off + 1, none⟩ = some (.slice T' y.types.length ta'))
            (first | exact HK.out _ (below_drawn (Below.refl _ _)) | exact HK.out _ (bthen (And.left (by assumption : Below wr.heap.size wr _ ∧ _)) (by assumption)))
            (first | (go_at_call 87; refine (C1.out _ _ (by assumption)).mono ?_; rintro r w' ⟨rfl, hb⟩))
          all_goals go_wp2_with fail
          all_goals go_meet
          all_goals exact ⟨rfl, And.left (by assumption : Below wr.heap.size wr _ ∧ _)⟩
        case rest =>
          obtain ⟨rfl, hbc⟩ := hcut
          have HBC := Lib.hid hbc
          clear hbc
          go_upto_region 7 with fail
          go_cut [7] (fun v wx => v = .bool b2 ∧ Below wr.heap.size wr wx)
          case first =>
            go_region_held3 (fun W => Below wr.heap.size wr W ∧ W.cell? ⟨w.heap.size, 0, none⟩ = some (.slice (some ad) a.length ca) ∧ W.cell? ⟨w.heap.size + 1, 0, none⟩ = some (.slice (some bd) b.length cb) ∧
              W.cell? (ad.add (k * 2)) = some (.slice S x.tags.length sa) ∧ W.cell? ⟨(ad.add (k * 2)).block, (ad.add (k * 2)).off + 1, none⟩ = some (.slice T x.types.length ta) ∧
              W.cell? (bd.add (k * 2)) = some (.slice S' y.tags.length sa') ∧ W.cell? ⟨(bd.add (k * 2)).block, (bd.add (k * 2)).off + 1, none⟩ = some (.slice T' y.types.length ta'))
              (first | exact HK.out _ (below_drawn HBC.out) | exact HK.out _ (bthen (And.left (by assumption : Below wr.heap.size wr _ ∧ _)) (by assumption)))
              (first | (go_at_call 87; refine (C2.out _ _ (by assumption)).mono ?_; rintro r w' ⟨rfl, hb⟩))
            all_goals go_wp2_with fail
            all_goals go_meet
            all_goals exact ⟨rfl, And.left (by assumption : Below wr.heap.size wr _ ∧ _)⟩
          case rest =>
            obtain ⟨rfl, hbd⟩ := hcut
            have HBD := Lib.hid (bthen hbl hbd)
            clear hbd C1 C2 HK
            rcases b1 with _ | _ <;> rcases b2 with _ | _
            · have hne : decide (a = b) = false := decide_eq_false (fun e => by
                subst e
                have h1 := HX.out.symm.trans HY.out
                injection h1 with h1
                have h2 := HEQ.out
                rw [decide_eq_true h1] at h2
                cases h2)
              have HNE := Lib.hid hne
              clear hne
              go_wp2
              go_ret
              exact ⟨by rw [HNE.out]; rfl, bthen HBl.out HBD.out⟩
            · have hne : decide (a = b) = false := decide_eq_false (fun e => by
                subst e
                have h1 := HX.out.symm.trans HY.out
                injection h1 with h1
                have h2 := HEQ.out
                rw [decide_eq_true h1] at h2
                cases h2)
              have HNE := Lib.hid hne
              clear hne
              go_wp2
              go_ret
              exact ⟨by rw [HNE.out]; rfl, bthen HBl.out HBD.out⟩
            · have hne : decide (a = b) = false := decide_eq_false (fun e => by
                subst e
                have h1 := HX.out.symm.trans HY.out
                injection h1 with h1
                have h2 := HEQ.out
                rw [decide_eq_true h1] at h2
                cases h2)
              have HNE := Lib.hid hne
              clear hne
              go_wp2
              go_ret
              exact ⟨by rw [HNE.out]; rfl, bthen HBl.out HBD.out⟩
            · have hxy : x = y := of_decide_eq_true HEQ.out
              have HXY := Lib.hid hxy
              clear hxy
              go_wp2
              go_roundw
              case rel =>
                refine ⟨k + 1, by omega, by go_num, Lib.hid fun j hj => ?_, HBD.out⟩
                rcases Nat.lt_or_ge j k with h | h
                · exact hal.out j h
                · obtain rfl : j = k := by omega
                  rw [HX.out, HY.out, HXY.out]
              case measure => simp [intOf]; omega
      · have HR := Lib.hid (show a = b from alikeC_all H0.out (fun j hj => hal.out j (by omega)))
        clear hal
        go_wp2
        go_ret
        exact ⟨by rw [decide_eq_true HR.out]; rfl, bthen HBl.out hbl⟩
  · have hl0 : ((a.length : Int) != (b.length : Int)) = true := by rw [bne_iff_ne]; omega
    have hne : a ≠ b := fun e => hl (by rw [e])
    rw [decide_eq_false hne]
    clear hne hl
    go_enter Tryz.func124, Tryz.ntmps124
    go_upto_region 1 with fail
    rw [← HW.out]
    clear HW
    go_wp2_with fail
    go_ret
    exact ⟨rfl, HBl.out⟩
end Go.Proofs.YtfoghahidofegaaGreat

namespace Go.Proofs.YtfoghahidofegaaGreat
open Go.RowKit Go.Maps

/-- Which of n kinds. -/
def kindN (a : Int) (n : Nat) : Nat := ((if a < 0 then -(a + 1) else a) % (n : Int)).toNat
theorem kindN_lt (a : Int) {n : Nat} (hn : 0 < n) : kindN a n < n := by
  unfold kindN
  have h1 := Int.emod_nonneg (if a < 0 then -(a + 1) else a) (b := (n : Int)) (by omega)
  have h2 := Int.emod_lt_of_pos (if a < 0 then -(a + 1) else a) (b := (n : Int)) (by omega)
  omega
set_option maxHeartbeats 2000000 in
theorem kind19_any {w : World} (a : Int) (ha : (Lit.int .i64 a).wf = true) (n : Nat) (hn : 0 < n) (hn2 : n ≤ 6) :
    Calls Tryz.prog 46 #[.int .i64 a, .int .i64 n] w fun r w' => r = .returned (.int .i64 (kindN a n)) ∧ w = w' := by
  have hb : -9223372036854775808 ≤ a ∧ a ≤ 9223372036854775807 := by
    simp only [Lit.wf, Bool.and_eq_true, decide_eq_true_eq, IntKind.min, IntKind.max, IntKind.signed, IntKind.bits] at ha
    simp at ha
    omega
  obtain ⟨j, hj⟩ : ∃ j, kindN a n = j := ⟨_, rfl⟩
  rw [hj]
  have hn0 : (n : Int) ≠ 0 := by omega
  have hn1 : ((n : Int) == 0) = false := by simp; omega
  have hn3 : ¬ (n : Int) = 0 := by omega
  by_cases h : a < 0
  · have e1 : IntKind.i64.wrap (a + 1) = a + 1 := IntWalk.i64_in _ (by omega)
    have e2 : IntKind.i64.wrap (-(a + 1)) = -(a + 1) := IntWalk.i64_in _ (by omega)
    have e3 : (-(a + 1)).tmod (n : Int) = (j : Int) := by
      rw [← hj]
      unfold kindN
      rw [if_pos h, Int.tmod_eq_emod_of_nonneg (by omega), Int.toNat_of_nonneg (Int.emod_nonneg _ hn0)]
    have hjn : j < n := by rw [← hj]; exact kindN_lt a hn
    have e4 : IntKind.i64.wrap (j : Int) = (j : Int) := IntWalk.i64_in _ (by omega)
    have d1 : decide (a < 0) = true := decide_eq_true h
    clear hj
    go_enter Tryz.func46, Tryz.ntmps46
    go_wp2_with fail
    go_ret
    exact ⟨rfl, rfl⟩
  · have e3 : a.tmod (n : Int) = (j : Int) := by
      rw [← hj]
      unfold kindN
      rw [if_neg h, Int.tmod_eq_emod_of_nonneg (by omega), Int.toNat_of_nonneg (Int.emod_nonneg _ hn0)]
    have hjn : j < n := by rw [← hj]; exact kindN_lt a hn
    have e4 : IntKind.i64.wrap (j : Int) = (j : Int) := IntWalk.i64_in _ (by omega)
    have d1 : decide (a < 0) = false := decide_eq_false h
    clear hj
    go_enter Tryz.func46, Tryz.ntmps46
    go_wp2_with fail
    go_ret
    exact ⟨rfl, rfl⟩
end Go.Proofs.YtfoghahidofegaaGreat

namespace Go.Proofs.YtfoghahidofegaaGreat
open Go.RowKit Go.Maps

structure S1 (w wr : World) (B : Six) (y : Nat) (es : List Event) (n b : Nat) (gs : List Grd) (vs : List Event) : Prop where
  f : F2 w wr B y es (fun k => k = b)
  s : Ss wr 127 b n gs vs (fun k => B.has k ∨ k = y)
section
variable {w wr w' : World} {B : Six} {y n b : Nat} {es es' : List Event} {gs gs' : List Grd} {vs vs' : List Event}
theorem S1.below (h : S1 w wr B y es n b gs vs) (hb : Below wr.heap.size wr w') : S1 w w' B y es n b gs vs := ⟨h.f.below hb, h.s.below hb⟩
theorem S1.step (h : S1 w wr B y es n b gs vs) (ha : Ss w' 127 b n gs' vs' (fun k => B.has k ∨ k = y)) (hb : But (fun k => k = b) wr w') : S1 w w' B y es n b gs' vs' := ⟨h.f.far hb, ha⟩
theorem S1.stepF (h : S1 w wr B y es n b gs vs) (hf : F2 w w' B y es' (fun k => k = b)) (hb : But (fun k => B.has k ∨ k = y) wr w') : S1 w w' B y es' n b gs vs := ⟨hf, h.s.far hb⟩
theorem S1.start {w6 w7 : World} (h6 : F2 w w6 B y es (fun _ => False)) (h7 : Ss w7 127 b n [] [] (fun k => B.has k ∨ k = y)) (hb7 : Below w6.heap.size w6 w7) (hl7 : w6.heap.size ≤ b) : S1 w w7 B y es n b [] [] :=
  ⟨h6.fence hb7 (fun k hk => .inr (by rw [hk]; exact ⟨hl7, h7.lt⟩)), h7⟩
/-- What is an argument's own does not lie on the session's boxes. -/
theorem S1.free (h : S1 w wr B y es n b gs vs) : ∀ k, k < w.heap.size → k ≠ b ∧ ¬ (B.has k ∨ k = y) := fun k hk => ⟨fun e => by have := h.f.zl b rfl; omega, fun hx => hx.elim (fun hB => by have := h.f.lo k hB; omega) (fun e => by have := h.f.yl; omega)⟩
end
end Go.Proofs.YtfoghahidofegaaGreat

namespace Go.Proofs.YtfoghahidofegaaGreat
open Go.RowKit

set_option maxHeartbeats 4000000 in
set_option maxRecDepth 8000 in
theorem refOne_any {w : World} {s s' : ByteArray} {v v' : Int} {q q' : List Clause} {a a' : Bool} {Q Q' : Option Addr} {cq cq' : Nat} (hq : SlC w Q cq q) (hq' : SlC w Q' cq' q') :
    Calls Tryz.prog 88 #[.agg #[.string s, .int .i64 v, .slice Q q.length cq, .bool a], .agg #[.string s', .int .i64 v', .slice Q' q'.length cq', .bool a']] w fun r w' => r = .returned (.bool (sameG (s, v, q, a) (s', v', q', a'))) ∧ Below w.heap.size w w' := by
  obtain ⟨W1, hW1⟩ : ∃ W1, W1 = (w.alloc (.cells #[.string s, .int .i64 v, .slice Q q.length cq, .bool a] 52)).alloc (.cells #[.string s', .int .i64 v', .slice Q' q'.length cq', .bool a'] 52) := ⟨_, rfl⟩
  have HW1 := Lib.hid hW1
  have hb1 : Below w.heap.size w W1 := by rw [hW1]; exact ((Below.refl _ _).alloc (Nat.le_refl _) _).alloc (by simp) _
  have hx : Bx W1 w.heap.size 52 [.string s, .int .i64 v, .slice Q q.length cq, .bool a] := by rw [hW1]; exact (Bx.new w _ _).alloc _
  have hy : Bx W1 (w.heap.size + 1) 52 [.string s', .int .i64 v', .slice Q' q'.length cq', .bool a'] := by
    rw [hW1]; have := Bx.new (w.alloc (.cells #[.string s, .int .i64 v, .slice Q q.length cq, .bool a] 52)) 52 [.string s', .int .i64 v', .slice Q' q'.length cq', .bool a']
    simpa using this
  have HB1 := Lib.hid hb1
  have C := Lib.hid (refSame_any (hq.below hb1) (hq'.below hb1))
  have k2 := hx.cell 2
  have j2 := hy.cell 2
  simp only [List.getElem?_cons_succ, List.getElem?_cons_zero] at k2 j2
  have HC := Lib.hid (fun W (hb : Below W1.heap.size W1 W) => show W.cell? ⟨w.heap.size, 0, none⟩ = some (.string s) ∧ W.cell? ⟨w.heap.size, 1, none⟩ = some (.int .i64 v) ∧ W.cell? ⟨w.heap.size, 3, none⟩ = some (.bool a) ∧ W.cell? ⟨w.heap.size + 1, 0, none⟩ = some (.string s') ∧ W.cell? ⟨w.heap.size + 1, 1, none⟩ = some (.int .i64 v') ∧ W.cell? ⟨w.heap.size + 1, 3, none⟩ = some (.bool a') from
    ⟨(hx.under hb).cell 0, (hx.under hb).cell 1, (hx.under hb).cell 3, (hy.under hb).cell 0, (hy.under hb).cell 1, (hy.under hb).cell 3⟩)
  have he := strEqL s s'
  rw [sameG_parts]
  generalize decide (q = q') = b4 at C ⊢
  obtain ⟨l, hl⟩ : ∃ l, q.length = l := ⟨_, rfl⟩
  obtain ⟨l', hl'⟩ : ∃ l', q'.length = l' := ⟨_, rfl⟩
  rw [hl] at C k2 HW1 ⊢
  rw [hl'] at C j2 HW1 ⊢
  clear hq hq' hb1 hx hy hW1 hl hl'
  have hcase : ((a == a') = true ∧ (s.toList == s'.toList) = true ∧ (v == v') = true ∧ (decide (a = a') && decide (s = s') && decide (v = v')) = true) ∨ ((a == a') = false ∧ (decide (a = a') && decide (s = s') && decide (v = v')) = false) ∨ ((a == a') = true ∧ (s.toList == s'.toList) = false ∧ (decide (a = a') && decide (s = s') && decide (v = v')) = false) ∨ ((a == a') = true ∧ (s.toList == s'.toList) = true ∧ (v == v') = false ∧ (decide (a = a') && decide (s = s') && decide (v = v')) = false) := by
    rw [he]
    by_cases h1 : a = a'
    · by_cases h2 : s = s'
      · by_cases h3 : v = v'
        · exact .inl ⟨by simp [h1], by simp [h2], by simp [h3], by simp [h1, h2, h3]⟩
        · exact .inr (.inr (.inr ⟨by simp [h1], by simp [h2], by simp [h3], by simp [h3]⟩))
      · exact .inr (.inr (.inl ⟨by simp [h1], by simp [h2], by simp [h2]⟩))
    · exact .inr (.inl ⟨by simp [h1], by simp [h1]⟩)
  clear he
  rcases hcase with ⟨e1, e2, e3, e4⟩ | ⟨e1, e4⟩ | ⟨e1, e2, e4⟩ | ⟨e1, e2, e3, e4⟩
  · rw [e4, Bool.true_and]
    clear e4
    go_enter Tryz.func88, Tryz.ntmps88
    go_upto_region 1 with fail
    rw [← HW1.out]
    go_wp2_with (go_at_call 124; go_fit C.out; rintro r w2 ⟨rfl, hb2⟩; have HB2 := Lib.hid hb2; obtain ⟨m0, m1, m3, n0, n1, n3⟩ := HC.out _ hb2; clear hb2)
    go_ret
    exact ⟨rfl, bthen HB1.out HB2.out⟩
  all_goals
    rw [e4, Bool.false_and]
    clear e4
    go_enter Tryz.func88, Tryz.ntmps88
    go_upto_region 1 with fail
    rw [← HW1.out]
    go_wp2_with (go_at_call 124; go_fit C.out; rintro r w2 ⟨rfl, hb2⟩; have HB2 := Lib.hid hb2; obtain ⟨m0, m1, m3, n0, n1, n3⟩ := HC.out _ hb2; clear hb2)
    go_ret
    exact ⟨rfl, bthen HB1.out HB2.out⟩

theorem drop_eq {α : Type} {a b : List α} {k : Nat} (ha : k < a.length) (hb : k < b.length) : a.drop k = b.drop k ↔ a[k] = b[k] ∧ a.drop (k + 1) = b.drop (k + 1) := by
  rw [List.drop_eq_getElem_cons ha, List.drop_eq_getElem_cons hb, List.cons.injEq]
instance : DecidableEq Event := fun x y => decidable_of_iff (sameE x y = true) (sameE_iff x y)
theorem sameE_dec (x y : Event) : sameE x y = decide (x = y) := by
  rw [Bool.eq_iff_iff, sameE_iff, decide_eq_true_eq]
set_option maxHeartbeats 4000000 in
set_option maxRecDepth 8000 in
theorem refSameG_any {w : World} {A B : Option Addr} {ca cb : Nat} {a b : List Grd} (ha : Sl kGuard (fun _ => True) w A ca a) (hb : Sl kGuard (fun _ => True) w B cb b) :
    Calls Tryz.prog 47 #[.slice A a.length ca, .slice B b.length cb] w fun r w' => r = .returned (.bool (decide (a = b))) ∧ Below w.heap.size w w' := by
  have ha2 := ha.2.1
  have hb2 := hb.2.1
  unfold maxLen at ha2 hb2
  have ha1 := ha.1
  have hb1 := hb.1
  go_enter Tryz.func47, Tryz.ntmps47
  by_cases hl : a.length = b.length
  rotate_left
  · have HN := Lib.hid (show decide (a = b) = false from decide_eq_false (fun e => hl (by rw [e])))
    have d0 : ((a.length : Int) != (b.length : Int)) = true := by rw [bne_iff_ne]; omega
    clear hl
    go_wp2_with fail
    go_ret
    exact ⟨ret_bool HN.out.symm, Below.refl _ _⟩
  have d0 : ((a.length : Int) != (b.length : Int)) = false := by rw [hl]; simp
  have HL := Lib.hid hl
  obtain ⟨R, hR⟩ : ∃ R, decide (a = b) = R := ⟨_, rfl⟩
  rw [hR]
  clear hl
  go_wp2_with fail
  go_loopw [5] (fun i wr => ∃ k : Nat, k ≤ a.length ∧ i = .int .i64 k ∧ Hid (decide (a.drop k = b.drop k) = R) ∧ Below w.heap.size w wr) (fun i _ => a.length - (intOf i).toNat)
  case atStart => exact ⟨0, Nat.zero_le _, rfl, Lib.hid (by rw [List.drop_zero, List.drop_zero]; exact hR), Below.refl _ _⟩
  case round =>
    clear hR
    obtain ⟨k, hk, rfl, hs, hbl⟩ := hrel
    by_cases hlt : k < a.length
    · have hltb : k < b.length := by rw [← HL.out]; exact hlt
      obtain ⟨ad, Q, cq, rfl, c0, c1, c2, c3, hq⟩ := row_guard_at (ha.below hbl).2.2 hlt
      obtain ⟨bd, Q', cq', rfl, d0', d1', d2', d3', hq'⟩ := row_guard_at (hb.below hbl).2.2 hltb
      have HST := Lib.hid (drop_eq hlt hltb)
      generalize a[k] = x at c0 c1 c2 c3 hq HST
      generalize b[k] = y at d0' d1' d2' d3' hq' HST
      obtain ⟨s, v, q, g⟩ := x
      obtain ⟨s', v', q', g'⟩ := y
      simp only at c0 c1 c2 c3 hq d0' d1' d2' d3' hq'
      obtain ⟨x', hx'⟩ : ∃ x' : Grd, x' = (s, v, q, g) := ⟨_, rfl⟩
      obtain ⟨y', hy'⟩ : ∃ y' : Grd, y' = (s', v', q', g') := ⟨_, rfl⟩
      rw [← hx', ← hy'] at HST
      obtain ⟨e, he⟩ : ∃ e, decide (x' = y') = e := ⟨_, rfl⟩
      have C1 := Lib.hid (fun W (PP : Prop) (hW : Below wr.heap.size wr W ∧ PP) => show Calls Tryz.prog 88 #[.agg #[.string s, .int .i64 v, .slice Q q.length cq, .bool g], .agg #[.string s', .int .i64 v', .slice Q' q'.length cq', .bool g']] W fun r w' => r = .returned (.bool e) ∧ Below W.heap.size W w' from by
        rw [← he]; rw [hx', hy']; exact refOne_any (hq.below hW.1) (hq'.below hW.1))
      have HE := Lib.hid he
      have i1 : (0 : Int) ≤ (k : Int) := Int.natCast_nonneg _
      have i2 : (k : Int) < (a.length : Int) := by omega
      have i3 : (k : Int) < (b.length : Int) := by omega
      have HKA := Lib.hid (fun W (hW : Below wr.heap.size wr W) => show Below wr.heap.size wr W ∧ W.cell? (ad.add (k * 4)) = some (.string s) ∧ W.cell? ⟨(ad.add (k * 4)).block, (ad.add (k * 4)).off + 1, none⟩ = some (.int .i64 v) ∧ W.cell? ⟨(ad.add (k * 4)).block, (ad.add (k * 4)).off + 2, none⟩ = some (.slice Q q.length cq) ∧ W.cell? ⟨(ad.add (k * 4)).block, (ad.add (k * 4)).off + 3, none⟩ = some (.bool g) ∧ W.cell? (bd.add (k * 4)) = some (.string s') ∧ W.cell? ⟨(bd.add (k * 4)).block, (bd.add (k * 4)).off + 1, none⟩ = some (.int .i64 v') ∧ W.cell? ⟨(bd.add (k * 4)).block, (bd.add (k * 4)).off + 2, none⟩ = some (.slice Q' q'.length cq') ∧ W.cell? ⟨(bd.add (k * 4)).block, (bd.add (k * 4)).off + 3, none⟩ = some (.bool g') from by
        have mv : ∀ p u, wr.cell? p = some u → W.cell? p = some u := fun p u h => (hW.cell (World.block_lt_of_cell? wr _ h)).trans h
        exact ⟨hW, mv _ _ c0, mv _ _ c1, mv _ _ c2, mv _ _ c3, mv _ _ d0', mv _ _ d1', mv _ _ d2', mv _ _ d3'⟩)
      have HBL := Lib.hid hbl
      clear he hbl c0 c1 c2 c3 d0' d1' d2' d3' hq hq' hx' hy'
      go_upto_region 6 with fail
      go_cut [6] (fun v wx => v = .bool e ∧ Below wr.heap.size wr wx)
      case first =>
        go_region_held3 (fun W => Below wr.heap.size wr W ∧ W.cell? (ad.add (k * 4)) = some (.string s) ∧ W.cell? ⟨(ad.add (k * 4)).block, (ad.add (k * 4)).off + 1, none⟩ = some (.int .i64 v) ∧ W.cell? ⟨(ad.add (k * 4)).block, (ad.add (k * 4)).off + 2, none⟩ = some (.slice Q q.length cq) ∧ W.cell? ⟨(ad.add (k * 4)).block, (ad.add (k * 4)).off + 3, none⟩ = some (.bool g) ∧ W.cell? (bd.add (k * 4)) = some (.string s') ∧ W.cell? ⟨(bd.add (k * 4)).block, (bd.add (k * 4)).off + 1, none⟩ = some (.int .i64 v') ∧ W.cell? ⟨(bd.add (k * 4)).block, (bd.add (k * 4)).off + 2, none⟩ = some (.slice Q' q'.length cq') ∧ W.cell? ⟨(bd.add (k * 4)).block, (bd.add (k * 4)).off + 3, none⟩ = some (.bool g'))
          (first | exact HKA.out _ (below_drawn (Below.refl _ _)) | (assumption) | exact HKA.out _ HB4.out)
          (first | (go_at_call 88; go_fit (C1.out _ _ (by assumption)); rintro r w4 ⟨rfl, hb4⟩; have HB4 := Lib.hid (bthen (below_drawn (Below.refl _ _)) hb4); clear hb4))
        all_goals go_wp2_with fail
        all_goals go_meet
        all_goals exact ⟨rfl, HB4.out⟩
      case rest =>
        obtain ⟨rfl, hbx⟩ := hcut
        have HBX := Lib.hid (bthen HBL.out hbx)
        clear hbx C1 HKA
        cases e with
        | true =>
          have HNX := Lib.hid (show decide (a.drop (k + 1) = b.drop (k + 1)) = R by
            rw [← hs.out]
            exact decide_eq_decide.2 ⟨fun h => HST.out.2 ⟨of_decide_eq_true HE.out, h⟩, fun h => (HST.out.1 h).2⟩)
          clear hs
          go_wp2_with fail
          go_roundw
          case rel => exact ⟨k + 1, by omega, by go_num, HNX, HBX.out⟩
          case measure => simp [intOf]; omega
        | false =>
          have HNX := Lib.hid (show false = R by
            rw [← hs.out]
            exact (decide_eq_false (fun h => by have h1 := (HST.out.1 h).1; exact absurd h1 (of_decide_eq_false HE.out))).symm)
          clear hs
          go_wp2_with fail
          go_ret
          exact ⟨ret_bool HNX.out, HBX.out⟩
    · obtain rfl : k = a.length := by omega
      have HNX := Lib.hid (show true = R by
        rw [← hs.out]
        have h1 : a.drop a.length = [] := List.drop_length
        have h2 : b.drop a.length = [] := by rw [HL.out]; exact List.drop_length
        rw [h1, h2]; rfl)
      clear hs
      go_wp2_with fail
      go_ret
      exact ⟨ret_bool HNX.out, hbl⟩
set_option maxHeartbeats 4000000 in
set_option maxRecDepth 8000 in
theorem refSameAll_any {w : World} {A B : Option Addr} {ca cb : Nat} {a b : List Event} (ha : Sl kEvent (fun _ => True) w A ca a) (hb : Sl kEvent (fun _ => True) w B cb b) :
    Calls Tryz.prog 48 #[.slice A a.length ca, .slice B b.length cb] w fun r w' => r = .returned (.bool (decide (a = b))) ∧ Below w.heap.size w w' := by
  have ha2 := ha.2.1
  have hb2 := hb.2.1
  unfold maxLen at ha2 hb2
  have ha1 := ha.1
  have hb1 := hb.1
  go_enter Tryz.func48, Tryz.ntmps48
  by_cases hl : a.length = b.length
  rotate_left
  · have HN := Lib.hid (show decide (a = b) = false from decide_eq_false (fun e => hl (by rw [e])))
    have d0 : ((a.length : Int) != (b.length : Int)) = true := by rw [bne_iff_ne]; omega
    clear hl
    go_wp2_with fail
    go_ret
    exact ⟨ret_bool HN.out.symm, Below.refl _ _⟩
  have d0 : ((a.length : Int) != (b.length : Int)) = false := by rw [hl]; simp
  have HL := Lib.hid hl
  obtain ⟨R, hR⟩ : ∃ R, decide (a = b) = R := ⟨_, rfl⟩
  rw [hR]
  clear hl
  go_wp2_with fail
  go_loopw [5] (fun i wr => ∃ k : Nat, k ≤ a.length ∧ i = .int .i64 k ∧ Hid (decide (a.drop k = b.drop k) = R) ∧ Below w.heap.size w wr) (fun i _ => a.length - (intOf i).toNat)
  case atStart => exact ⟨0, Nat.zero_le _, rfl, Lib.hid (by rw [List.drop_zero, List.drop_zero]; exact hR), Below.refl _ _⟩
  case round =>
    clear hR
    obtain ⟨k, hk, rfl, hs, hbl⟩ := hrel
    by_cases hlt : k < a.length
    · have hltb : k < b.length := by rw [← HL.out]; exact hlt
      obtain ⟨ad, S, sa, T, ta, rfl, c0, c1, c2, c3, hS, hT⟩ := row_ev_at (ha.below hbl).2.2 hlt
      obtain ⟨bd, S', sb, T', tb, rfl, d0', d1', d2', d3', hS', hT'⟩ := row_ev_at (hb.below hbl).2.2 hltb
      have HST := Lib.hid (drop_eq hlt hltb)
      generalize a[k] = x at c0 c1 c2 c3 hS hT HST
      generalize b[k] = y at d0' d1' d2' d3' hS' hT' HST
      obtain ⟨x', hx'⟩ : ∃ x', x' = x := ⟨_, rfl⟩
      obtain ⟨y', hy'⟩ : ∃ y', y' = y := ⟨_, rfl⟩
      rw [← hx'] at c0 c1 c2 c3 hS hT HST
      rw [← hy'] at d0' d1' d2' d3' hS' hT' HST
      clear hx' hy'
      obtain ⟨e, he⟩ : ∃ e, decide (x' = y') = e := ⟨_, rfl⟩
      have C1 := Lib.hid (fun W (PP : Prop) (hW : Below wr.heap.size wr W ∧ PP) => show Calls Tryz.prog 45 #[.agg #[.string x'.stream, .string x'.type, .slice S x'.tags.length sa, .slice T x'.fields.length ta], .agg #[.string y'.stream, .string y'.type, .slice S' y'.tags.length sb, .slice T' y'.fields.length tb]] W fun r w' => r = .returned (.bool e) ∧ Below W.heap.size W w' from by
        rw [← he]; rw [← sameE_dec]; exact refSameE_any (hS.any.below hW.1) (hT.any.below hW.1) (hS'.any.below hW.1) (hT'.any.below hW.1))
      have HE := Lib.hid he
      have i1 : (0 : Int) ≤ (k : Int) := Int.natCast_nonneg _
      have i2 : (k : Int) < (a.length : Int) := by omega
      have i3 : (k : Int) < (b.length : Int) := by omega
      have HKA := Lib.hid (fun W (hW : Below wr.heap.size wr W) => show Below wr.heap.size wr W ∧ W.cell? (ad.add (k * 4)) = some (.string x'.stream) ∧ W.cell? ⟨(ad.add (k * 4)).block, (ad.add (k * 4)).off + 1, none⟩ = some (.string x'.type) ∧ W.cell? ⟨(ad.add (k * 4)).block, (ad.add (k * 4)).off + 2, none⟩ = some (.slice S x'.tags.length sa) ∧ W.cell? ⟨(ad.add (k * 4)).block, (ad.add (k * 4)).off + 3, none⟩ = some (.slice T x'.fields.length ta) ∧ W.cell? (bd.add (k * 4)) = some (.string y'.stream) ∧ W.cell? ⟨(bd.add (k * 4)).block, (bd.add (k * 4)).off + 1, none⟩ = some (.string y'.type) ∧ W.cell? ⟨(bd.add (k * 4)).block, (bd.add (k * 4)).off + 2, none⟩ = some (.slice S' y'.tags.length sb) ∧ W.cell? ⟨(bd.add (k * 4)).block, (bd.add (k * 4)).off + 3, none⟩ = some (.slice T' y'.fields.length tb) from by
        have mv : ∀ p u, wr.cell? p = some u → W.cell? p = some u := fun p u h => (hW.cell (World.block_lt_of_cell? wr _ h)).trans h
        exact ⟨hW, mv _ _ c0, mv _ _ c1, mv _ _ c2, mv _ _ c3, mv _ _ d0', mv _ _ d1', mv _ _ d2', mv _ _ d3'⟩)
      have HBL := Lib.hid hbl
      clear he hbl c0 c1 c2 c3 d0' d1' d2' d3' hS hT hS' hT'
      go_upto_region 6 with fail
      go_cut [6] (fun v wx => v = .bool e ∧ Below wr.heap.size wr wx)
      case first =>
        go_region_held3 (fun W => Below wr.heap.size wr W ∧ W.cell? (ad.add (k * 4)) = some (.string x'.stream) ∧ W.cell? ⟨(ad.add (k * 4)).block, (ad.add (k * 4)).off + 1, none⟩ = some (.string x'.type) ∧ W.cell? ⟨(ad.add (k * 4)).block, (ad.add (k * 4)).off + 2, none⟩ = some (.slice S x'.tags.length sa) ∧ W.cell? ⟨(ad.add (k * 4)).block, (ad.add (k * 4)).off + 3, none⟩ = some (.slice T x'.fields.length ta) ∧ W.cell? (bd.add (k * 4)) = some (.string y'.stream) ∧ W.cell? ⟨(bd.add (k * 4)).block, (bd.add (k * 4)).off + 1, none⟩ = some (.string y'.type) ∧ W.cell? ⟨(bd.add (k * 4)).block, (bd.add (k * 4)).off + 2, none⟩ = some (.slice S' y'.tags.length sb) ∧ W.cell? ⟨(bd.add (k * 4)).block, (bd.add (k * 4)).off + 3, none⟩ = some (.slice T' y'.fields.length tb))
          (first | exact HKA.out _ (below_drawn (Below.refl _ _)) | (assumption) | exact HKA.out _ HB4.out)
          (first | (go_at_call 45; go_fit (C1.out _ _ (by assumption)); rintro r w4 ⟨rfl, hb4⟩; have HB4 := Lib.hid (bthen (below_drawn (Below.refl _ _)) hb4); clear hb4))
        all_goals go_wp2_with fail
        all_goals go_meet
        all_goals exact ⟨rfl, HB4.out⟩
      case rest =>
        obtain ⟨rfl, hbx⟩ := hcut
        have HBX := Lib.hid (bthen HBL.out hbx)
        clear hbx C1 HKA
        cases e with
        | true =>
          have HNX := Lib.hid (show decide (a.drop (k + 1) = b.drop (k + 1)) = R by
            rw [← hs.out]
            exact decide_eq_decide.2 ⟨fun h => HST.out.2 ⟨of_decide_eq_true HE.out, h⟩, fun h => (HST.out.1 h).2⟩)
          clear hs
          go_wp2_with fail
          go_roundw
          case rel => exact ⟨k + 1, by omega, by go_num, HNX, HBX.out⟩
          case measure => simp [intOf]; omega
        | false =>
          have HNX := Lib.hid (show false = R by
            rw [← hs.out]
            exact (decide_eq_false (fun h => by have h1 := (HST.out.1 h).1; exact absurd h1 (of_decide_eq_false HE.out))).symm)
          clear hs
          go_wp2_with fail
          go_ret
          exact ⟨ret_bool HNX.out, HBX.out⟩
    · obtain rfl : k = a.length := by omega
      have HNX := Lib.hid (show true = R by
        rw [← hs.out]
        have h1 : a.drop a.length = [] := List.drop_length
        have h2 : b.drop a.length = [] := by rw [HL.out]; exact List.drop_length
        rw [h1, h2]; rfl)
      clear hs
      go_wp2_with fail
      go_ret
      exact ⟨ret_bool HNX.out, hbl⟩
end Go.Proofs.YtfoghahidofegaaGreat
