/- EventParts: a row of fields cut at its begin. EventParts: the law's walk. The closed facts that every row of this seat leans on, each proved for itself: the order's text is long, so it is read once as a list of signs. The row of the law EventParts, over its walk: for every input the call returns true and each argument reads afterwards as it read before. No conditions. -/
import Derived.Test.YtfoghahidofegaaBundE
import Derived.Test.YtfoghahidofegaaBundN
import Derived.Deep.RegionHeld3
import Derived.Test.YtfoghahidofegaaRows
import Derived.JoinedOf
import Derived.KernelRfl
import Derived.Test.YtfoghahidofegaaBundA
import Derived.WalkKit
import Derived.ProofKit
import Derived.OpenShut
import Derived.ShutString
import Derived.ChangeOld
import Derived.Below
import Derived.SizedLaws
set_option linter.unusedVariables false
set_option linter.unusedSimpArgs false
namespace Go.Proofs.Ytfoghahidofegaa
open Go.RowKit

theorem infoStrP : (Try.prog.info? 9).map (fun i => (i.zero, i.size, i.bytes)) = some (some (.string ByteArray.empty), 1, 16) := by kernel_rfl
theorem cutF4 {ok : Nat → Prop} {w : World} {A : Option Addr} {xs : List (ByteArray × Int)} (h : Row kField ok w A xs) {k cap : Nat} (hc : xs.length ≤ cap) : Row kField ok w (if cap = k then A else A.map (·.add (k * 2))) (xs.drop k) := by
  have h2 := Row.cut (k := k) h hc
  rw [kField_sz] at h2
  exact h2
end Go.Proofs.Ytfoghahidofegaa

namespace Go.Proofs.Ytfoghahidofegaa
open Go.RowKit

set_option maxHeartbeats 4000000 in
set_option maxRecDepth 100000 in
theorem eventParts_walk (w : World) (c0 : Array Value) (a : Event) (ha : kEvent.K (fun _ => True) w a c0.toList) (ga : goodEvent a) (x : Int) (hx : (Lit.int .i64 x).wf = true) (y : Int) (hy : (Lit.int .i64 y).wf = true) :
    Calls Try.prog 3 #[.agg c0, .int .i64 x, .int .i64 y] w fun r w' => r = .returned (.bool true) ∧ Below w.heap.size w w' := by
  obtain ⟨T, ct, F, cf, rfl, hT, hF⟩ := event_in4 ha
  have hta := few12_tags a
  have hfa := few12_fields a
  have HG := Lib.hid (good_few12 a ga)
  clear ha ga
  obtain ⟨W0, hW0⟩ : ∃ W0, W0 = (w.alloc (.cells #[.string a.stream, .string a.type, .slice T a.tags.length ct, .slice F a.fields.length cf] 25)) := ⟨_, rfl⟩
  have HW0 := Lib.hid hW0
  have HB0 := Lib.hid (show Below w.heap.size w W0 by rw [hW0]; exact (Below.refl _ _).alloc (Nat.le_refl _) _)
  have HA := Lib.hid (show A04 w w.heap.size a T F ct cf W0 from ⟨by rw [hW0]; exact Bx.new w _ _, hT.below HB0.out, hF.below HB0.out, Nat.le_refl _⟩)
  have HS := Lib.hid (shown04 W0)
  clear hT hF
  go_enter Try.func3, Try.ntmps3
  go_upto_region 1 with fail
  rw [← HW0.out]
  clear hW0
  go_upto_region 2 with (go_at_call 7; go_fit HS.out; rintro r w1 ⟨rfl, hb1⟩; have HA1 := Lib.hid (HA.out.below hb1); have HBW := Lib.hid (bthen HB0.out hb1); clear hb1)
  clear HA HB0 HS HW0
  have k0 := HA1.out.c0
  have k1 := HA1.out.c1
  have k2 := HA1.out.c2
  have k3 := HA1.out.c3
  have CF := Lib.hid (few04_any (w := w1) (e := a) (T := T) (F := F) (ct := ct) (cf := cf) HA1.out.ts.1 HA1.out.fs.1)
  go_upto_region 3 with (go_at_call 8; go_fit CF.out; rintro r w2 ⟨rfl, hb2⟩; have HA2 := Lib.hid (HA1.out.below hb2); have HBV := Lib.hid (bthen HBW.out hb2); have j0 := HA2.out.c0; have j1 := HA2.out.c1; have j2 := HA2.out.c2; have j3 := HA2.out.c3; have f0 := HA2.out.bx.free 0; have f1 := HA2.out.bx.free 1; have f2 := HA2.out.bx.free 2; have f3 := HA2.out.bx.free 3; clear hb2)
  have HA3 := Lib.hid HA2.out.few
  have HBW3 := Lib.hid (below4 HBV.out (Nat.le_refl _) (.string (few12 a).stream) (.string (few12 a).type) (.slice T (few12 a).tags.length ct) (.slice F (few12 a).fields.length cf))
  clear HA2 HBV j0 j1 j2 j3 f0 f1 f2 f3 k0 k1 k2 k3 CF HA1 HBW
  generalize ((((w2.setCell ⟨w.heap.size, 0, none⟩ (.string (few12 a).stream)).setCell ⟨w.heap.size, 1, none⟩ (.string (few12 a).type)).setCell ⟨w.heap.size, 2, none⟩ (.slice T (few12 a).tags.length ct)).setCell ⟨w.heap.size, 3, none⟩ (.slice F (few12 a).fields.length cf)) = X at HA3 HBW3 ⊢
  generalize few12 a = a at HA3 HBW3 hta hfa HG ⊢
  obtain ⟨m, hm⟩ : ∃ m, mayE a = m := ⟨_, rfl⟩
  have CM := Lib.hid (show Calls Try.prog 9 #[vEvent a T ct F cf] X fun r w' => r = .returned (.int .i64 m) ∧ Below X.heap.size X w' from by
    rw [← hm]; exact mayE_any HA3.out.ts.any HA3.out.fs.any (by omega) HG.out.2.2.1)
  have HM := Lib.hid hm
  clear hm
  have k0 := HA3.out.c0
  have k1 := HA3.out.c1
  have k2 := HA3.out.c2
  have k3 := HA3.out.c3
  by_cases hm0 : m = 0
  rotate_left
  · have d0 : (m == 0) = false := by simp [hm0]
    have d1 : (m != 0) = true := by simp [hm0]
    clear hm0
    go_wp2_with (go_at_call 9; go_fit CM.out; rintro r w4 ⟨rfl, hb4⟩; have HB4 := Lib.hid hb4; clear hb4)
    go_ret
    exact ⟨rfl, bthen HBW3.out HB4.out⟩
  subst hm0
  have HOK0 := Lib.hid ((mayE_iff a).1 HM.out)
  clear HM
  go_upto_region 5 with (go_at_call 9; go_fit CM.out; rintro r w4 ⟨rfl, hb4⟩; have HB4 := Lib.hid hb4; clear hb4)
  clear k0 k1 k2 k3 CM
  have HA := Lib.hid (HA3.out.below HB4.out)
  have HBW := Lib.hid (bthen HBW3.out HB4.out)
  clear HA3 HBW3 HB4
  obtain ⟨X, hX⟩ : ∃ X, X = w4 := ⟨_, rfl⟩
  subst hX
  have k2 := HA.out.c2
  have hcap := HA.out.ts.1
  have hcap2 := HA.out.ts.2.1
  have hcapf := HA.out.fs.1
  have hcapf2 := HA.out.fs.2.1
  unfold maxLen at hcap2 hcapf2
  obtain ⟨B, hBd⟩ : ∃ B, decide (0 ≤ x ∧ x < (a.tags.length : Int)) = B := ⟨_, rfl⟩
  have HBD := Lib.hid hBd
  clear hBd
  go_cut [30] (fun b wx => b = .bool B ∧ wx = X)
  case first =>
    by_cases h1 : 0 ≤ x
    · by_cases h2 : x < (a.tags.length : Int)
      · have HT := Lib.hid (show true = B from by rw [← HBD.out, decide_eq_true ⟨h1, h2⟩])
        go_wp2_with fail
        go_meet
        case rel => exact ⟨congrArg Value.bool HT.out, rfl⟩
      · have HT := Lib.hid (show false = B from by rw [← HBD.out, decide_eq_false (fun h => h2 h.2)])
        go_wp2_with fail
        go_meet
        case rel => exact ⟨congrArg Value.bool HT.out, rfl⟩
    · have HT := Lib.hid (show false = B from by rw [← HBD.out, decide_eq_false (fun h => h1 h.1)])
      go_wp2_with fail
      go_meet
      case rel => exact ⟨congrArg Value.bool HT.out, rfl⟩
  case rest =>
    obtain ⟨rfl, rfl⟩ := hcut
    obtain ⟨X, hX⟩ : ∃ X, X = wc := ⟨_, rfl⟩
    subst hX
    clear k2
    go_upto_if 30 with fail
    go_cut [8] (fun _ wx => Below X.heap.size X wx)
    case first =>
      rcases B with _ | _
      · go_wp2_with fail
        go_meet
        case rel => exact Below.refl _ _
      · obtain ⟨hx0, hxl0⟩ := of_decide_eq_true HBD.out
        obtain ⟨k, rfl⟩ : ∃ k : Nat, x = k := ⟨x.toNat, by omega⟩
        have hk : k < a.tags.length := by omega
        obtain ⟨n, hn⟩ : ∃ n, n = k + 1 := ⟨_, rfl⟩
        have ew : IntKind.i64.wrap ((k : Int) + 1) = (n : Int) := by rw [IntWalk.i64_in _ (by omega)]; omega
        have k0 := HA.out.c0
        have k1 := HA.out.c1
        have k2 := HA.out.c2
        have k3 := HA.out.c3
        go_upto_region 7 with fail
        have b0 : (0 : Int) ≤ (k : Int) := Int.natCast_nonneg _
        have b1 : (k : Int) < (a.tags.length : Int) := by omega
        have b2 : (n : Int) ≤ (a.tags.length : Int) := by omega
        have b3 : (k : Int) ≤ (ct : Int) := by omega
        have b4 : (0 : Int) ≤ (n : Int) := Int.natCast_nonneg _
        have b5 : (n : Int) ≤ (ct : Int) := by omega
        have b6 : k ≤ ct := by omega
        have b7 : n ≤ a.tags.length := by omega
        have b8 : k ≤ a.tags.length := by omega
        have b9 : n ≤ ct := by omega
        have HNK := Lib.hid hn
        clear hn hx0 hxl0 k0 k1 k2 k3
        obtain ⟨W7, hW7⟩ : ∃ W7, W7 = X.alloc (.cells #[.string a.stream, .string a.type, .slice T a.tags.length ct, .slice F a.fields.length cf] 25) := ⟨_, rfl⟩
        rw [← hW7]
        have HXW := Lib.hid (show Below X.heap.size X W7 by rw [hW7]; exact (Below.refl _ _).alloc (Nat.le_refl _) _)
        have HX := Lib.hid (show Bx W7 X.heap.size 25 [.string a.stream, .string a.type, .slice T a.tags.length ct, .slice F a.fields.length cf] by rw [hW7]; exact Bx.new X _ _)
        have HAW := Lib.hid (HA.out.below HXW.out)
        have hxl : X.heap.size < W7.heap.size := HX.out.lt
        have hwl : w.heap.size < X.heap.size := HA.out.bx.lt
        clear hW7
        have HK := Lib.hid (fun V (hb : Below W7.heap.size W7 V) => show Below W7.heap.size W7 V ∧ V.cell? ⟨w.heap.size, 2, none⟩ = some (.slice T a.tags.length ct) from ⟨hb, (HAW.out.below hb).c2⟩)
        have HR1 := Lib.hid (fun V (hb : Below W7.heap.size W7 V) => show Row Kn.str (fun j => j < w.heap.size) V T (a.tags.take k) from (HAW.out.below hb).ts.2.2.take k)
        have HR2 := Lib.hid (fun V (hb : Below W7.heap.size W7 V) => cutS4 (k := n) (cap := ct) (HAW.out.below hb).ts.2.2 (HAW.out.below hb).ts.1)
        have HOK := Lib.hid (show ∀ j, j < w.heap.size → j < W7.heap.size from fun j hj => by have := HAW.out.bx.lt; omega)
        have HLT := Lib.hid (show (a.tags.take k).length = k by rw [List.length_take]; omega)
        have HLD := Lib.hid (show (a.tags.drop n).length = a.tags.length - n by rw [List.length_drop])
        have HLL := Lib.hid (show (([] ++ a.tags.take k) ++ a.tags.drop n).length = a.tags.length - 1 by have := HNK.out; simp; omega)
        obtain ⟨_, z2⟩ := HK.out W7 (Below.refl _ _)
        have l0 : w.heap.size < W7.heap.size := HAW.out.bx.lt
        go_cut [43] (fun _ wx => ∃ A3 c3, Bx wx X.heap.size 25 [.string a.stream, .string a.type, .slice A3 (a.tags.length - 1) c3, .slice F a.fields.length cf] ∧ Sl Kn.str (fun _ => True) wx A3 c3 (([] ++ a.tags.take k) ++ a.tags.drop n) ∧ Below X.heap.size X wx)
        case first =>
          by_cases hcn : ct = n
          · have HR2 := Lib.hid (show ∀ V, Below W7.heap.size W7 V → Row Kn.str (fun j => j < w.heap.size) V T (a.tags.drop n) from fun V hb => by have h := HR2.out V hb; rwa [if_pos hcn] at h)
            subst hcn
            have HLD := Lib.hid (show (a.tags.drop ct).length = 0 by rw [List.length_drop]; omega)
            refine wp_region_held_drew (S := fun V => V.cell? ⟨w.heap.size, 2, none⟩ = some (.slice T a.tags.length ct)) (by kernel_rfl) z2 (fun hHeld => ?_)
            refine wpAnyH_take (i := 1) (oi := { dst := some 33, op := Op.fieldAddr 25 (Operand.tmp 3) 2, type := 0, pos := "more.go:17", after := #[], guard := none }) (v := ?_) rfl (by kernel_rfl) (by kernel_rfl) (by kernel_rfl) (fun _ _ _ h => h) (Or.inl ⟨by rfl, ?_⟩) (by assumption) ?_
            rotate_left
            · (intro W hSw; (try dsimp only at hSw); go_simp) <;> with_reducible rfl
            try simp only [Act.put, List.setIfInBounds_toArray, List.set_cons_zero, List.set_cons_succ]
            refine wpAnyH_take (i := 2) (oi := { dst := some 34, op := Op.load 22 (Operand.tmp 33), type := 22, pos := "more.go:17", after := #[{ on := 1, ground := Ground.data }], guard := none }) (v := ?_) rfl (by kernel_rfl) (by kernel_rfl) (by kernel_rfl) (fun _ _ _ h => h) (Or.inl ⟨by rfl, ?_⟩) (by assumption) ?_
            rotate_left
            · (intro W hSw; (try dsimp only at hSw); go_simp) <;> with_reducible rfl
            try simp only [Act.put, List.setIfInBounds_toArray, List.set_cons_zero, List.set_cons_succ]
            refine wpAnyH_take (i := 3) (oi := { dst := some 35, op := Op.move (Operand.tmp 1), type := 3, pos := "more.go:17", after := #[], guard := none }) (v := ?_) rfl (by kernel_rfl) (by kernel_rfl) (by kernel_rfl) (fun _ _ _ h => h) (Or.inl ⟨by rfl, ?_⟩) (by assumption) ?_
            rotate_left
            · (intro W hSw; (try dsimp only at hSw); go_simp) <;> with_reducible rfl
            try simp only [Act.put, List.setIfInBounds_toArray, List.set_cons_zero, List.set_cons_succ]
            refine wpAnyH_take (i := 4) (oi := { dst := some 36, op := Op.slice 22 (Operand.tmp 34) none (some (Operand.tmp 35)) none, type := 22, pos := "more.go:17", after := #[{ on := 2, ground := Ground.data }, { on := 3, ground := Ground.data }], guard := none }) (v := ?_) rfl (by kernel_rfl) (by kernel_rfl) (by kernel_rfl) (fun _ _ _ h => h) (Or.inl ⟨by rfl, ?_⟩) (by assumption) ?_
            rotate_left
            · (intro W hSw; (try dsimp only at hSw); go_simp) <;> with_reducible rfl
            try simp only [Act.put, List.setIfInBounds_toArray, List.set_cons_zero, List.set_cons_succ]
            refine wpAnyH_take (i := 6) (oi := { dst := some 38, op := Op.fieldAddr 25 (Operand.tmp 3) 2, type := 0, pos := "more.go:17", after := #[], guard := none }) (v := ?_) rfl (by kernel_rfl) (by kernel_rfl) (by kernel_rfl) (fun _ _ _ h => h) (Or.inl ⟨by rfl, ?_⟩) (by assumption) ?_
            rotate_left
            · (intro W hSw; (try dsimp only at hSw); go_simp) <;> with_reducible rfl
            try simp only [Act.put, List.setIfInBounds_toArray, List.set_cons_zero, List.set_cons_succ]
            refine wpAnyH_take (i := 7) (oi := { dst := some 39, op := Op.load 22 (Operand.tmp 38), type := 22, pos := "more.go:17", after := #[{ on := 6, ground := Ground.data }], guard := none }) (v := ?_) rfl (by kernel_rfl) (by kernel_rfl) (by kernel_rfl) (fun _ _ _ h => h) (Or.inl ⟨by rfl, ?_⟩) (by assumption) ?_
            rotate_left
            · (intro W hSw; (try dsimp only at hSw); go_simp) <;> with_reducible rfl
            try simp only [Act.put, List.setIfInBounds_toArray, List.set_cons_zero, List.set_cons_succ]
            refine wpAnyH_take (i := 8) (oi := { dst := some 40, op := Op.move (Operand.tmp 1), type := 3, pos := "more.go:17", after := #[], guard := none }) (v := ?_) rfl (by kernel_rfl) (by kernel_rfl) (by kernel_rfl) (fun _ _ _ h => h) (Or.inl ⟨by rfl, ?_⟩) (by assumption) ?_
            rotate_left
            · (intro W hSw; (try dsimp only at hSw); go_simp) <;> with_reducible rfl
            try simp only [Act.put, List.setIfInBounds_toArray, List.set_cons_zero, List.set_cons_succ]
            refine wpAnyH_take (i := 9) (oi := { dst := some 41, op := Op.binOp BinOp.add 3 (Operand.tmp 40) (Operand.const (Value.int IntKind.i64 1)) 3, type := 3, pos := "more.go:17", after := #[{ on := 8, ground := Ground.data }], guard := none }) (v := ?_) rfl (by kernel_rfl) (by kernel_rfl) (by kernel_rfl) (fun _ _ _ h => h) (Or.inl ⟨by rfl, ?_⟩) (by assumption) ?_
            rotate_left
            · (intro W hSw; (try dsimp only at hSw); go_simp) <;> with_reducible rfl
            try simp only [Act.put, List.setIfInBounds_toArray, List.set_cons_zero, List.set_cons_succ]
            refine wpAnyH_take (i := 10) (oi := { dst := some 42, op := Op.slice 22 (Operand.tmp 39) (some (Operand.tmp 41)) none none, type := 22, pos := "more.go:17", after := #[{ on := 7, ground := Ground.data }, { on := 9, ground := Ground.data }], guard := none }) (v := ?_) rfl (by kernel_rfl) (by kernel_rfl) (by kernel_rfl) (fun _ _ _ h => h) (Or.inl ⟨by rfl, ?_⟩) (by assumption) ?_
            rotate_left
            · (intro W hSw; (try dsimp only at hSw); go_simp) <;> with_reducible rfl
            try simp only [Act.put, List.setIfInBounds_toArray, List.set_cons_zero, List.set_cons_succ]
            refine wpAnyH_ready (rs := [0]) (by kernel_rfl) (by simp) ?_
            refine AllReadyH.cons (o := { dst := some 32, op := Op.buildSlice 22 0 #[], type := 22, pos := "more.go:17", after := #[], guard := none }) rfl (fun K hK => ?_) AllReadyH.nil
            go_simp
            refine hK.out _ _ ((HK.out _ (below_made (below_drawn (Below.refl _ _)) (Nat.le_refl _) _)).2) (fun hHeld0 => ?_)
            clear hK K
            try simp only [Act.put, List.setIfInBounds_toArray, List.set_cons_zero, List.set_cons_succ]
            refine wpAnyH_ready (rs := [5]) (by kernel_rfl) (by simp) ?_
            refine AllReadyH.cons (o := { dst := some 37, op := Op.call { callee := Callee.builtin Builtin.append, args := #[Operand.tmp 32, Operand.tmp 36], argTypes := #[22, 22] }, type := 22, pos := "more.go:17", after := #[{ on := 0, ground := Ground.data }, { on := 4, ground := Ground.data }], guard := none }) rfl (fun K hK => ?_) AllReadyH.nil
            (refine step_spreadO rfl _ _ _ rfl 9 _ 1 16 Try.underlying22 infoStrP rfl (by decide) (by decide) rfl W7 (fun j => j < w.heap.size) HOK.out _ [] rfl (Own.lit_at (by exact heap_alloc_new W7 _) (by simp)) (a.tags.take k) T ct HR1.out True (by first | exact ⟨HB5.out, trivial⟩ | exact ⟨below_drawn HB5.out, trivial⟩ | exact ⟨below_drawn (below_made (Below.refl _ _) (Nat.le_refl _) _), trivial⟩ | exact ⟨below_made (below_drawn (Below.refl _ _)) (Nat.le_refl _) _, trivial⟩) k HLT.out rfl (by simp; omega) ?_; intro v1 w5 hown1 hg1 hat1 hbel1; have HO1 := Lib.hid hown1; have HB5 := Lib.hid hbel1; have a2 := (HK.out _ hbel1).2; clear hown1 hg1 hat1 hbel1)
            refine hK.out _ _ ((HK.out _ HB5.out).2) (fun hHeld5 => ?_)
            clear hK K
            try simp only [Act.put, List.setIfInBounds_toArray, List.set_cons_zero, List.set_cons_succ]
            refine wpAnyH_ready (rs := [11]) (by kernel_rfl) (by simp) ?_
            refine AllReadyH.cons (o := { dst := some 43, op := Op.call { callee := Callee.builtin Builtin.append, args := #[Operand.tmp 37, Operand.tmp 42], argTypes := #[22, 22] }, type := 22, pos := "more.go:17", after := #[{ on := 5, ground := Ground.data }, { on := 10, ground := Ground.data }, { on := 5, ground := Ground.chain }], guard := none }) rfl (fun K hK => ?_) AllReadyH.nil
            (refine step_spreadO rfl _ _ _ rfl 9 _ 1 16 Try.underlying22 infoStrP rfl (by decide) (by decide) rfl W7 (fun j => j < w.heap.size) HOK.out _ ([] ++ a.tags.take k) rfl HO1.out (a.tags.drop ct) _ _ HR2.out True (by first | exact ⟨HB5.out, trivial⟩ | exact ⟨below_drawn HB5.out, trivial⟩ | exact ⟨below_drawn (below_made (Below.refl _ _) (Nat.le_refl _) _), trivial⟩ | exact ⟨below_made (below_drawn (Below.refl _ _)) (Nat.le_refl _) _, trivial⟩) 0 HLD.out rfl (by rw [List.nil_append, HLT.out]; omega) ?_; intro v2 w6 hown2 hg2 hat2 hbel2; have kc := (HX.out.under hbel2).cell 2; simp only [List.getElem?_cons_succ, List.getElem?_cons_zero] at kc; have kf := (HX.out.under hbel2).free 2; obtain ⟨A3, c3, hv2, hsl2⟩ := hown2.sl; rw [HLL.out] at hv2; subst hv2; have HO2 := Lib.hid hown2; have HB6 := Lib.hid hbel2; clear hown2 hg2 hat2 hbel2 hsl2)
            refine hK.out _ _ ((HK.out _ HB6.out).2) (fun hHeld11 => ?_)
            clear hK K
            try simp only [Act.put, List.setIfInBounds_toArray, List.set_cons_zero, List.set_cons_succ]
            refine wpAnyH_take (i := 12) (oi := { dst := some 44, op := Op.fieldAddr 25 (Operand.tmp 8) 2, type := 0, pos := "more.go:17", after := #[{ on := 0, ground := Ground.phase }, { on := 1, ground := Ground.phase }, { on := 2, ground := Ground.phase }, { on := 3, ground := Ground.phase }, { on := 4, ground := Ground.phase }, { on := 5, ground := Ground.phase }, { on := 6, ground := Ground.phase }, { on := 7, ground := Ground.phase }, { on := 8, ground := Ground.phase }, { on := 9, ground := Ground.phase }, { on := 10, ground := Ground.phase }, { on := 11, ground := Ground.phase }], guard := none }) (v := ?_) rfl (by kernel_rfl) (by kernel_rfl) (by kernel_rfl) (fun _ _ _ h => h) (Or.inl ⟨by rfl, ?_⟩) (by assumption) ?_
            rotate_left
            · (intro W hSw; (try dsimp only at hSw); go_simp) <;> with_reducible rfl
            try simp only [Act.put, List.setIfInBounds_toArray, List.set_cons_zero, List.set_cons_succ]
            refine wpAnyH_ready (rs := [13]) (by kernel_rfl) (by simp) ?_
            refine AllReadyH.cons (o := { dst := none, op := Op.store 22 (Operand.tmp 44) (Operand.tmp 43), type := 0, pos := "more.go:17", after := #[{ on := 12, ground := Ground.data }, { on := 11, ground := Ground.data }, { on := 11, ground := Ground.chain }, { on := 0, ground := Ground.phase }, { on := 1, ground := Ground.phase }, { on := 2, ground := Ground.phase }, { on := 3, ground := Ground.phase }, { on := 4, ground := Ground.phase }, { on := 5, ground := Ground.phase }, { on := 6, ground := Ground.phase }, { on := 7, ground := Ground.phase }, { on := 8, ground := Ground.phase }, { on := 9, ground := Ground.phase }, { on := 10, ground := Ground.phase }, { on := 11, ground := Ground.phase }], guard := none }) rfl (fun K hK => ?_) AllReadyH.nil
            go_simp
            refine hK.out _ _ (((HAW.out.below HB6.out).far (p := ⟨X.heap.size, 2, none⟩) (by simp; omega) (by simp; omega) _).c2) (fun hHeld13 => ?_)
            clear hK K
            try simp only [Act.put, List.setIfInBounds_toArray, List.set_cons_zero, List.set_cons_succ]
            refine wpAnyH_done (by kernel_rfl) ?_ _
            go_wp2_with fail
            go_meet
            exact ⟨A3, c3, (HX.out.under HB6.out).set 2 _, slOwn4 (HO2.out.setCell (fun j hj => by have : j < w.heap.size := hj; simp; omega) (fun j hj => by have := HO2.out.base_le j hj; simp; omega) _), Below.setCell (bthen HXW.out HB6.out) (by simp) _⟩
          · have HR2 := Lib.hid (show ∀ V, Below W7.heap.size W7 V → Row Kn.str (fun j => j < w.heap.size) V (T.map (·.add (n))) (a.tags.drop n) from fun V hb => by have h := HR2.out V hb; rwa [if_neg hcn] at h)
            refine wp_region_held_drew (S := fun V => V.cell? ⟨w.heap.size, 2, none⟩ = some (.slice T a.tags.length ct)) (by kernel_rfl) z2 (fun hHeld => ?_)
            refine wpAnyH_take (i := 1) (oi := { dst := some 33, op := Op.fieldAddr 25 (Operand.tmp 3) 2, type := 0, pos := "more.go:17", after := #[], guard := none }) (v := ?_) rfl (by kernel_rfl) (by kernel_rfl) (by kernel_rfl) (fun _ _ _ h => h) (Or.inl ⟨by rfl, ?_⟩) (by assumption) ?_
            rotate_left
            · (intro W hSw; (try dsimp only at hSw); go_simp) <;> with_reducible rfl
            try simp only [Act.put, List.setIfInBounds_toArray, List.set_cons_zero, List.set_cons_succ]
            refine wpAnyH_take (i := 2) (oi := { dst := some 34, op := Op.load 22 (Operand.tmp 33), type := 22, pos := "more.go:17", after := #[{ on := 1, ground := Ground.data }], guard := none }) (v := ?_) rfl (by kernel_rfl) (by kernel_rfl) (by kernel_rfl) (fun _ _ _ h => h) (Or.inl ⟨by rfl, ?_⟩) (by assumption) ?_
            rotate_left
            · (intro W hSw; (try dsimp only at hSw); go_simp) <;> with_reducible rfl
            try simp only [Act.put, List.setIfInBounds_toArray, List.set_cons_zero, List.set_cons_succ]
            refine wpAnyH_take (i := 3) (oi := { dst := some 35, op := Op.move (Operand.tmp 1), type := 3, pos := "more.go:17", after := #[], guard := none }) (v := ?_) rfl (by kernel_rfl) (by kernel_rfl) (by kernel_rfl) (fun _ _ _ h => h) (Or.inl ⟨by rfl, ?_⟩) (by assumption) ?_
            rotate_left
            · (intro W hSw; (try dsimp only at hSw); go_simp) <;> with_reducible rfl
            try simp only [Act.put, List.setIfInBounds_toArray, List.set_cons_zero, List.set_cons_succ]
            refine wpAnyH_take (i := 4) (oi := { dst := some 36, op := Op.slice 22 (Operand.tmp 34) none (some (Operand.tmp 35)) none, type := 22, pos := "more.go:17", after := #[{ on := 2, ground := Ground.data }, { on := 3, ground := Ground.data }], guard := none }) (v := ?_) rfl (by kernel_rfl) (by kernel_rfl) (by kernel_rfl) (fun _ _ _ h => h) (Or.inl ⟨by rfl, ?_⟩) (by assumption) ?_
            rotate_left
            · (intro W hSw; (try dsimp only at hSw); go_simp) <;> with_reducible rfl
            try simp only [Act.put, List.setIfInBounds_toArray, List.set_cons_zero, List.set_cons_succ]
            refine wpAnyH_take (i := 6) (oi := { dst := some 38, op := Op.fieldAddr 25 (Operand.tmp 3) 2, type := 0, pos := "more.go:17", after := #[], guard := none }) (v := ?_) rfl (by kernel_rfl) (by kernel_rfl) (by kernel_rfl) (fun _ _ _ h => h) (Or.inl ⟨by rfl, ?_⟩) (by assumption) ?_
            rotate_left
            · (intro W hSw; (try dsimp only at hSw); go_simp) <;> with_reducible rfl
            try simp only [Act.put, List.setIfInBounds_toArray, List.set_cons_zero, List.set_cons_succ]
            refine wpAnyH_take (i := 7) (oi := { dst := some 39, op := Op.load 22 (Operand.tmp 38), type := 22, pos := "more.go:17", after := #[{ on := 6, ground := Ground.data }], guard := none }) (v := ?_) rfl (by kernel_rfl) (by kernel_rfl) (by kernel_rfl) (fun _ _ _ h => h) (Or.inl ⟨by rfl, ?_⟩) (by assumption) ?_
            rotate_left
            · (intro W hSw; (try dsimp only at hSw); go_simp) <;> with_reducible rfl
            try simp only [Act.put, List.setIfInBounds_toArray, List.set_cons_zero, List.set_cons_succ]
            refine wpAnyH_take (i := 8) (oi := { dst := some 40, op := Op.move (Operand.tmp 1), type := 3, pos := "more.go:17", after := #[], guard := none }) (v := ?_) rfl (by kernel_rfl) (by kernel_rfl) (by kernel_rfl) (fun _ _ _ h => h) (Or.inl ⟨by rfl, ?_⟩) (by assumption) ?_
            rotate_left
            · (intro W hSw; (try dsimp only at hSw); go_simp) <;> with_reducible rfl
            try simp only [Act.put, List.setIfInBounds_toArray, List.set_cons_zero, List.set_cons_succ]
            refine wpAnyH_take (i := 9) (oi := { dst := some 41, op := Op.binOp BinOp.add 3 (Operand.tmp 40) (Operand.const (Value.int IntKind.i64 1)) 3, type := 3, pos := "more.go:17", after := #[{ on := 8, ground := Ground.data }], guard := none }) (v := ?_) rfl (by kernel_rfl) (by kernel_rfl) (by kernel_rfl) (fun _ _ _ h => h) (Or.inl ⟨by rfl, ?_⟩) (by assumption) ?_
            rotate_left
            · (intro W hSw; (try dsimp only at hSw); go_simp) <;> with_reducible rfl
            try simp only [Act.put, List.setIfInBounds_toArray, List.set_cons_zero, List.set_cons_succ]
            refine wpAnyH_take (i := 10) (oi := { dst := some 42, op := Op.slice 22 (Operand.tmp 39) (some (Operand.tmp 41)) none none, type := 22, pos := "more.go:17", after := #[{ on := 7, ground := Ground.data }, { on := 9, ground := Ground.data }], guard := none }) (v := ?_) rfl (by kernel_rfl) (by kernel_rfl) (by kernel_rfl) (fun _ _ _ h => h) (Or.inl ⟨by rfl, ?_⟩) (by assumption) ?_
            rotate_left
            · (intro W hSw; (try dsimp only at hSw); go_simp) <;> with_reducible rfl
            try simp only [Act.put, List.setIfInBounds_toArray, List.set_cons_zero, List.set_cons_succ]
            refine wpAnyH_ready (rs := [0]) (by kernel_rfl) (by simp) ?_
            refine AllReadyH.cons (o := { dst := some 32, op := Op.buildSlice 22 0 #[], type := 22, pos := "more.go:17", after := #[], guard := none }) rfl (fun K hK => ?_) AllReadyH.nil
            go_simp
            refine hK.out _ _ ((HK.out _ (below_made (below_drawn (Below.refl _ _)) (Nat.le_refl _) _)).2) (fun hHeld0 => ?_)
            clear hK K
            try simp only [Act.put, List.setIfInBounds_toArray, List.set_cons_zero, List.set_cons_succ]
            refine wpAnyH_ready (rs := [5]) (by kernel_rfl) (by simp) ?_
            refine AllReadyH.cons (o := { dst := some 37, op := Op.call { callee := Callee.builtin Builtin.append, args := #[Operand.tmp 32, Operand.tmp 36], argTypes := #[22, 22] }, type := 22, pos := "more.go:17", after := #[{ on := 0, ground := Ground.data }, { on := 4, ground := Ground.data }], guard := none }) rfl (fun K hK => ?_) AllReadyH.nil
            (refine step_spreadO rfl _ _ _ rfl 9 _ 1 16 Try.underlying22 infoStrP rfl (by decide) (by decide) rfl W7 (fun j => j < w.heap.size) HOK.out _ [] rfl (Own.lit_at (by exact heap_alloc_new W7 _) (by simp)) (a.tags.take k) T ct HR1.out True (by first | exact ⟨HB5.out, trivial⟩ | exact ⟨below_drawn HB5.out, trivial⟩ | exact ⟨below_drawn (below_made (Below.refl _ _) (Nat.le_refl _) _), trivial⟩ | exact ⟨below_made (below_drawn (Below.refl _ _)) (Nat.le_refl _) _, trivial⟩) k HLT.out rfl (by simp; omega) ?_; intro v1 w5 hown1 hg1 hat1 hbel1; have HO1 := Lib.hid hown1; have HB5 := Lib.hid hbel1; have a2 := (HK.out _ hbel1).2; clear hown1 hg1 hat1 hbel1)
            refine hK.out _ _ ((HK.out _ HB5.out).2) (fun hHeld5 => ?_)
            clear hK K
            try simp only [Act.put, List.setIfInBounds_toArray, List.set_cons_zero, List.set_cons_succ]
            refine wpAnyH_ready (rs := [11]) (by kernel_rfl) (by simp) ?_
            refine AllReadyH.cons (o := { dst := some 43, op := Op.call { callee := Callee.builtin Builtin.append, args := #[Operand.tmp 37, Operand.tmp 42], argTypes := #[22, 22] }, type := 22, pos := "more.go:17", after := #[{ on := 5, ground := Ground.data }, { on := 10, ground := Ground.data }, { on := 5, ground := Ground.chain }], guard := none }) rfl (fun K hK => ?_) AllReadyH.nil
            (refine step_spreadO rfl _ _ _ rfl 9 _ 1 16 Try.underlying22 infoStrP rfl (by decide) (by decide) rfl W7 (fun j => j < w.heap.size) HOK.out _ ([] ++ a.tags.take k) rfl HO1.out (a.tags.drop n) _ _ HR2.out True (by first | exact ⟨HB5.out, trivial⟩ | exact ⟨below_drawn HB5.out, trivial⟩ | exact ⟨below_drawn (below_made (Below.refl _ _) (Nat.le_refl _) _), trivial⟩ | exact ⟨below_made (below_drawn (Below.refl _ _)) (Nat.le_refl _) _, trivial⟩) (a.tags.length - n) HLD.out rfl (by rw [List.nil_append, HLT.out]; omega) ?_; intro v2 w6 hown2 hg2 hat2 hbel2; have kc := (HX.out.under hbel2).cell 2; simp only [List.getElem?_cons_succ, List.getElem?_cons_zero] at kc; have kf := (HX.out.under hbel2).free 2; obtain ⟨A3, c3, hv2, hsl2⟩ := hown2.sl; rw [HLL.out] at hv2; subst hv2; have HO2 := Lib.hid hown2; have HB6 := Lib.hid hbel2; clear hown2 hg2 hat2 hbel2 hsl2)
            refine hK.out _ _ ((HK.out _ HB6.out).2) (fun hHeld11 => ?_)
            clear hK K
            try simp only [Act.put, List.setIfInBounds_toArray, List.set_cons_zero, List.set_cons_succ]
            refine wpAnyH_take (i := 12) (oi := { dst := some 44, op := Op.fieldAddr 25 (Operand.tmp 8) 2, type := 0, pos := "more.go:17", after := #[{ on := 0, ground := Ground.phase }, { on := 1, ground := Ground.phase }, { on := 2, ground := Ground.phase }, { on := 3, ground := Ground.phase }, { on := 4, ground := Ground.phase }, { on := 5, ground := Ground.phase }, { on := 6, ground := Ground.phase }, { on := 7, ground := Ground.phase }, { on := 8, ground := Ground.phase }, { on := 9, ground := Ground.phase }, { on := 10, ground := Ground.phase }, { on := 11, ground := Ground.phase }], guard := none }) (v := ?_) rfl (by kernel_rfl) (by kernel_rfl) (by kernel_rfl) (fun _ _ _ h => h) (Or.inl ⟨by rfl, ?_⟩) (by assumption) ?_
            rotate_left
            · (intro W hSw; (try dsimp only at hSw); go_simp) <;> with_reducible rfl
            try simp only [Act.put, List.setIfInBounds_toArray, List.set_cons_zero, List.set_cons_succ]
            refine wpAnyH_ready (rs := [13]) (by kernel_rfl) (by simp) ?_
            refine AllReadyH.cons (o := { dst := none, op := Op.store 22 (Operand.tmp 44) (Operand.tmp 43), type := 0, pos := "more.go:17", after := #[{ on := 12, ground := Ground.data }, { on := 11, ground := Ground.data }, { on := 11, ground := Ground.chain }, { on := 0, ground := Ground.phase }, { on := 1, ground := Ground.phase }, { on := 2, ground := Ground.phase }, { on := 3, ground := Ground.phase }, { on := 4, ground := Ground.phase }, { on := 5, ground := Ground.phase }, { on := 6, ground := Ground.phase }, { on := 7, ground := Ground.phase }, { on := 8, ground := Ground.phase }, { on := 9, ground := Ground.phase }, { on := 10, ground := Ground.phase }, { on := 11, ground := Ground.phase }], guard := none }) rfl (fun K hK => ?_) AllReadyH.nil
            go_simp
            refine hK.out _ _ (((HAW.out.below HB6.out).far (p := ⟨X.heap.size, 2, none⟩) (by simp; omega) (by simp; omega) _).c2) (fun hHeld13 => ?_)
            clear hK K
            try simp only [Act.put, List.setIfInBounds_toArray, List.set_cons_zero, List.set_cons_succ]
            refine wpAnyH_done (by kernel_rfl) ?_ _
            go_wp2_with fail
            go_meet
            exact ⟨A3, c3, (HX.out.under HB6.out).set 2 _, slOwn4 (HO2.out.setCell (fun j hj => by have : j < w.heap.size := hj; simp; omega) (fun j hj => by have := HO2.out.base_le j hj; simp; omega) _), Below.setCell (bthen HXW.out HB6.out) (by simp) _⟩
        case rest =>
          obtain ⟨A3, c3, hb8, hs8, hbX⟩ := hcut
          have H8 := Lib.hid (show E4 X.heap.size { a with tags := a.tags.take k ++ a.tags.drop n } A3 F c3 cf wc from ⟨by
            show Bx _ _ _ [.string a.stream, .string a.type, .slice A3 (a.tags.take k ++ a.tags.drop n).length c3, .slice F a.fields.length cf]
            rw [show (a.tags.take k ++ a.tags.drop n).length = a.tags.length - 1 by have := HNK.out; simp; omega]
            exact hb8, hs8, HA.out.fs.any.below hbX⟩)
          have HA8 := Lib.hid (HA.out.below hbX)
          have HBX8 := Lib.hid hbX
          clear hb8 hs8 hbX HK HR1 HR2 HLT HLD HLL HX HXW HAW HOK z2 l0 hxl
          have HNL := Lib.hid (show (a.tags.take n ++ a.tags.drop k).length = a.tags.length + 1 by have := HNK.out; simp; omega)
          have HOKL := Lib.hid (show mayE { a with tags := a.tags.take k ++ a.tags.drop n } = 0 from (mayE_iff _).2 (by rw [HNK.out]; exact ok_tags HOK0.out k))
          have HMORE := Lib.hid (show mayE { a with tags := a.tags.take n ++ a.tags.drop k } ≠ 0 from by rw [HNK.out]; exact not_more hk)
          have HHAS := Lib.hid (show hasS a.tags[k] (a.tags.take k ++ a.tags.drop n) = false from by simp only [HNK.out]; exact has_less HOK0.out hk)
          obtain ⟨Y, hY⟩ : ∃ Y, Y = wc := ⟨_, rfl⟩
          subst hY
          have k0 := HA8.out.c0
          have k1 := HA8.out.c1
          have k2 := HA8.out.c2
          have k3 := HA8.out.c3
          go_upto_region 9 with fail
          clear k0 k1 k2 k3
          have hck : ¬ ct = k := by omega
          obtain ⟨W9, hW9⟩ : ∃ W7, W7 = Y.alloc (.cells #[.string a.stream, .string a.type, .slice T a.tags.length ct, .slice F a.fields.length cf] 25) := ⟨_, rfl⟩
          rw [← hW9]
          have HXW := Lib.hid (show Below Y.heap.size Y W9 by rw [hW9]; exact (Below.refl _ _).alloc (Nat.le_refl _) _)
          have HX := Lib.hid (show Bx W9 Y.heap.size 25 [.string a.stream, .string a.type, .slice T a.tags.length ct, .slice F a.fields.length cf] by rw [hW9]; exact Bx.new Y _ _)
          have HAW := Lib.hid (HA8.out.below HXW.out)
          have hxl : Y.heap.size < W9.heap.size := HX.out.lt
          have hwl : w.heap.size < Y.heap.size := HA8.out.bx.lt
          clear hW9
          have HK := Lib.hid (fun V (hb : Below W9.heap.size W9 V) => show Below W9.heap.size W9 V ∧ V.cell? ⟨w.heap.size, 2, none⟩ = some (.slice T a.tags.length ct) from ⟨hb, (HAW.out.below hb).c2⟩)
          have HR1 := Lib.hid (fun V (hb : Below W9.heap.size W9 V) => show Row Kn.str (fun j => j < w.heap.size) V T (a.tags.take n) from (HAW.out.below hb).ts.2.2.take n)
          have HR2 := Lib.hid (fun V (hb : Below W9.heap.size W9 V) => cutS4 (k := k) (cap := ct) (HAW.out.below hb).ts.2.2 (HAW.out.below hb).ts.1)
          have HR2 := Lib.hid (show ∀ V, Below W9.heap.size W9 V → Row Kn.str (fun j => j < w.heap.size) V (T.map (·.add k)) (a.tags.drop k) from fun V hb => by have h := HR2.out V hb; rwa [if_neg hck] at h)
          have HOK := Lib.hid (show ∀ j, j < w.heap.size → j < W9.heap.size from fun j hj => by have := HAW.out.bx.lt; omega)
          have HLT := Lib.hid (show (a.tags.take n).length = n by rw [List.length_take]; omega)
          have HLD := Lib.hid (show (a.tags.drop k).length = a.tags.length - k by rw [List.length_drop])
          have HLL := Lib.hid (show (([] ++ a.tags.take n) ++ a.tags.drop k).length = a.tags.length + 1 by have := HNK.out; simp; omega)
          obtain ⟨_, z2⟩ := HK.out W9 (Below.refl _ _)
          have l0 : w.heap.size < W9.heap.size := HAW.out.bx.lt
          go_cut [57] (fun _ wx => ∃ A3 c3, Bx wx Y.heap.size 25 [.string a.stream, .string a.type, .slice A3 (a.tags.length + 1) c3, .slice F a.fields.length cf] ∧ Sl Kn.str (fun _ => True) wx A3 c3 (([] ++ a.tags.take n) ++ a.tags.drop k) ∧ Below Y.heap.size Y wx)
          case first =>
            refine wp_region_held_drew (S := fun V => V.cell? ⟨w.heap.size, 2, none⟩ = some (.slice T a.tags.length ct)) (by kernel_rfl) z2 (fun hHeld => ?_)
            refine wpAnyH_take (i := 1) (oi := { dst := some 47, op := Op.fieldAddr 25 (Operand.tmp 3) 2, type := 0, pos := "more.go:19", after := #[], guard := none }) (v := ?_) rfl (by kernel_rfl) (by kernel_rfl) (by kernel_rfl) (fun _ _ _ h => h) (Or.inl ⟨by rfl, ?_⟩) (by assumption) ?_
            rotate_left
            · (intro W hSw; (try dsimp only at hSw); go_simp) <;> with_reducible rfl
            try simp only [Act.put, List.setIfInBounds_toArray, List.set_cons_zero, List.set_cons_succ]
            refine wpAnyH_take (i := 2) (oi := { dst := some 48, op := Op.load 22 (Operand.tmp 47), type := 22, pos := "more.go:19", after := #[{ on := 1, ground := Ground.data }], guard := none }) (v := ?_) rfl (by kernel_rfl) (by kernel_rfl) (by kernel_rfl) (fun _ _ _ h => h) (Or.inl ⟨by rfl, ?_⟩) (by assumption) ?_
            rotate_left
            · (intro W hSw; (try dsimp only at hSw); go_simp) <;> with_reducible rfl
            try simp only [Act.put, List.setIfInBounds_toArray, List.set_cons_zero, List.set_cons_succ]
            refine wpAnyH_take (i := 3) (oi := { dst := some 49, op := Op.move (Operand.tmp 1), type := 3, pos := "more.go:19", after := #[], guard := none }) (v := ?_) rfl (by kernel_rfl) (by kernel_rfl) (by kernel_rfl) (fun _ _ _ h => h) (Or.inl ⟨by rfl, ?_⟩) (by assumption) ?_
            rotate_left
            · (intro W hSw; (try dsimp only at hSw); go_simp) <;> with_reducible rfl
            try simp only [Act.put, List.setIfInBounds_toArray, List.set_cons_zero, List.set_cons_succ]
            refine wpAnyH_take (i := 4) (oi := { dst := some 50, op := Op.binOp BinOp.add 3 (Operand.tmp 49) (Operand.const (Value.int IntKind.i64 1)) 3, type := 3, pos := "more.go:19", after := #[{ on := 3, ground := Ground.data }], guard := none }) (v := ?_) rfl (by kernel_rfl) (by kernel_rfl) (by kernel_rfl) (fun _ _ _ h => h) (Or.inl ⟨by rfl, ?_⟩) (by assumption) ?_
            rotate_left
            · (intro W hSw; (try dsimp only at hSw); go_simp) <;> with_reducible rfl
            try simp only [Act.put, List.setIfInBounds_toArray, List.set_cons_zero, List.set_cons_succ]
            refine wpAnyH_take (i := 5) (oi := { dst := some 51, op := Op.slice 22 (Operand.tmp 48) none (some (Operand.tmp 50)) none, type := 22, pos := "more.go:19", after := #[{ on := 2, ground := Ground.data }, { on := 4, ground := Ground.data }], guard := none }) (v := ?_) rfl (by kernel_rfl) (by kernel_rfl) (by kernel_rfl) (fun _ _ _ h => h) (Or.inl ⟨by rfl, ?_⟩) (by assumption) ?_
            rotate_left
            · (intro W hSw; (try dsimp only at hSw); go_simp) <;> with_reducible rfl
            try simp only [Act.put, List.setIfInBounds_toArray, List.set_cons_zero, List.set_cons_succ]
            refine wpAnyH_take (i := 7) (oi := { dst := some 53, op := Op.fieldAddr 25 (Operand.tmp 3) 2, type := 0, pos := "more.go:19", after := #[], guard := none }) (v := ?_) rfl (by kernel_rfl) (by kernel_rfl) (by kernel_rfl) (fun _ _ _ h => h) (Or.inl ⟨by rfl, ?_⟩) (by assumption) ?_
            rotate_left
            · (intro W hSw; (try dsimp only at hSw); go_simp) <;> with_reducible rfl
            try simp only [Act.put, List.setIfInBounds_toArray, List.set_cons_zero, List.set_cons_succ]
            refine wpAnyH_take (i := 8) (oi := { dst := some 54, op := Op.load 22 (Operand.tmp 53), type := 22, pos := "more.go:19", after := #[{ on := 7, ground := Ground.data }], guard := none }) (v := ?_) rfl (by kernel_rfl) (by kernel_rfl) (by kernel_rfl) (fun _ _ _ h => h) (Or.inl ⟨by rfl, ?_⟩) (by assumption) ?_
            rotate_left
            · (intro W hSw; (try dsimp only at hSw); go_simp) <;> with_reducible rfl
            try simp only [Act.put, List.setIfInBounds_toArray, List.set_cons_zero, List.set_cons_succ]
            refine wpAnyH_take (i := 9) (oi := { dst := some 55, op := Op.move (Operand.tmp 1), type := 3, pos := "more.go:19", after := #[], guard := none }) (v := ?_) rfl (by kernel_rfl) (by kernel_rfl) (by kernel_rfl) (fun _ _ _ h => h) (Or.inl ⟨by rfl, ?_⟩) (by assumption) ?_
            rotate_left
            · (intro W hSw; (try dsimp only at hSw); go_simp) <;> with_reducible rfl
            try simp only [Act.put, List.setIfInBounds_toArray, List.set_cons_zero, List.set_cons_succ]
            refine wpAnyH_take (i := 10) (oi := { dst := some 56, op := Op.slice 22 (Operand.tmp 54) (some (Operand.tmp 55)) none none, type := 22, pos := "more.go:19", after := #[{ on := 8, ground := Ground.data }, { on := 9, ground := Ground.data }], guard := none }) (v := ?_) rfl (by kernel_rfl) (by kernel_rfl) (by kernel_rfl) (fun _ _ _ h => h) (Or.inl ⟨by rfl, ?_⟩) (by assumption) ?_
            rotate_left
            · (intro W hSw; (try dsimp only at hSw); go_simp) <;> with_reducible rfl
            try simp only [Act.put, List.setIfInBounds_toArray, List.set_cons_zero, List.set_cons_succ]
            refine wpAnyH_ready (rs := [0]) (by kernel_rfl) (by simp) ?_
            refine AllReadyH.cons (o := { dst := some 46, op := Op.buildSlice 22 0 #[], type := 22, pos := "more.go:19", after := #[], guard := none }) rfl (fun K hK => ?_) AllReadyH.nil
            go_simp
            refine hK.out _ _ ((HK.out _ (below_made (below_drawn (Below.refl _ _)) (Nat.le_refl _) _)).2) (fun hHeld0 => ?_)
            clear hK K
            try simp only [Act.put, List.setIfInBounds_toArray, List.set_cons_zero, List.set_cons_succ]
            refine wpAnyH_ready (rs := [6]) (by kernel_rfl) (by simp) ?_
            refine AllReadyH.cons (o := { dst := some 52, op := Op.call { callee := Callee.builtin Builtin.append, args := #[Operand.tmp 46, Operand.tmp 51], argTypes := #[22, 22] }, type := 22, pos := "more.go:19", after := #[{ on := 0, ground := Ground.data }, { on := 5, ground := Ground.data }], guard := none }) rfl (fun K hK => ?_) AllReadyH.nil
            (refine step_spreadO rfl _ _ _ rfl 9 _ 1 16 Try.underlying22 infoStrP rfl (by decide) (by decide) rfl W9 (fun j => j < w.heap.size) HOK.out _ [] rfl (Own.lit_at (by exact heap_alloc_new W9 _) (by simp)) (a.tags.take n) T ct HR1.out True (by first | exact ⟨HB5.out, trivial⟩ | exact ⟨below_drawn HB5.out, trivial⟩ | exact ⟨below_drawn (below_made (Below.refl _ _) (Nat.le_refl _) _), trivial⟩ | exact ⟨below_made (below_drawn (Below.refl _ _)) (Nat.le_refl _) _, trivial⟩) n HLT.out rfl (by simp; omega) ?_; intro v1 w5 hown1 hg1 hat1 hbel1; have HO1 := Lib.hid hown1; have HB5 := Lib.hid hbel1; have a2 := (HK.out _ hbel1).2; clear hown1 hg1 hat1 hbel1)
            refine hK.out _ _ ((HK.out _ HB5.out).2) (fun hHeld6 => ?_)
            clear hK K
            try simp only [Act.put, List.setIfInBounds_toArray, List.set_cons_zero, List.set_cons_succ]
            refine wpAnyH_ready (rs := [11]) (by kernel_rfl) (by simp) ?_
            refine AllReadyH.cons (o := { dst := some 57, op := Op.call { callee := Callee.builtin Builtin.append, args := #[Operand.tmp 52, Operand.tmp 56], argTypes := #[22, 22] }, type := 22, pos := "more.go:19", after := #[{ on := 6, ground := Ground.data }, { on := 10, ground := Ground.data }, { on := 6, ground := Ground.chain }], guard := none }) rfl (fun K hK => ?_) AllReadyH.nil
            (refine step_spreadO rfl _ _ _ rfl 9 _ 1 16 Try.underlying22 infoStrP rfl (by decide) (by decide) rfl W9 (fun j => j < w.heap.size) HOK.out _ ([] ++ a.tags.take n) rfl HO1.out (a.tags.drop k) _ _ HR2.out True (by first | exact ⟨HB5.out, trivial⟩ | exact ⟨below_drawn HB5.out, trivial⟩ | exact ⟨below_drawn (below_made (Below.refl _ _) (Nat.le_refl _) _), trivial⟩ | exact ⟨below_made (below_drawn (Below.refl _ _)) (Nat.le_refl _) _, trivial⟩) (a.tags.length - k) HLD.out rfl (by rw [List.nil_append, HLT.out]; omega) ?_; intro v2 w6 hown2 hg2 hat2 hbel2; have kc := (HX.out.under hbel2).cell 2; simp only [List.getElem?_cons_succ, List.getElem?_cons_zero] at kc; have kf := (HX.out.under hbel2).free 2; obtain ⟨A3, c3, hv2, hsl2⟩ := hown2.sl; rw [HLL.out] at hv2; subst hv2; have HO2 := Lib.hid hown2; have HB6 := Lib.hid hbel2; clear hown2 hg2 hat2 hbel2 hsl2)
            refine hK.out _ _ ((HK.out _ HB6.out).2) (fun hHeld11 => ?_)
            clear hK K
            try simp only [Act.put, List.setIfInBounds_toArray, List.set_cons_zero, List.set_cons_succ]
            refine wpAnyH_take (i := 12) (oi := { dst := some 58, op := Op.fieldAddr 25 (Operand.tmp 9) 2, type := 0, pos := "more.go:19", after := #[{ on := 0, ground := Ground.phase }, { on := 1, ground := Ground.phase }, { on := 2, ground := Ground.phase }, { on := 3, ground := Ground.phase }, { on := 4, ground := Ground.phase }, { on := 5, ground := Ground.phase }, { on := 6, ground := Ground.phase }, { on := 7, ground := Ground.phase }, { on := 8, ground := Ground.phase }, { on := 9, ground := Ground.phase }, { on := 10, ground := Ground.phase }, { on := 11, ground := Ground.phase }], guard := none }) (v := ?_) rfl (by kernel_rfl) (by kernel_rfl) (by kernel_rfl) (fun _ _ _ h => h) (Or.inl ⟨by rfl, ?_⟩) (by assumption) ?_
            rotate_left
            · (intro W hSw; (try dsimp only at hSw); go_simp) <;> with_reducible rfl
            try simp only [Act.put, List.setIfInBounds_toArray, List.set_cons_zero, List.set_cons_succ]
            refine wpAnyH_ready (rs := [13]) (by kernel_rfl) (by simp) ?_
            refine AllReadyH.cons (o := { dst := none, op := Op.store 22 (Operand.tmp 58) (Operand.tmp 57), type := 0, pos := "more.go:19", after := #[{ on := 12, ground := Ground.data }, { on := 11, ground := Ground.data }, { on := 11, ground := Ground.chain }, { on := 0, ground := Ground.phase }, { on := 1, ground := Ground.phase }, { on := 2, ground := Ground.phase }, { on := 3, ground := Ground.phase }, { on := 4, ground := Ground.phase }, { on := 5, ground := Ground.phase }, { on := 6, ground := Ground.phase }, { on := 7, ground := Ground.phase }, { on := 8, ground := Ground.phase }, { on := 9, ground := Ground.phase }, { on := 10, ground := Ground.phase }, { on := 11, ground := Ground.phase }], guard := none }) rfl (fun K hK => ?_) AllReadyH.nil
            go_simp
            refine hK.out _ _ (((HAW.out.below HB6.out).far (p := ⟨Y.heap.size, 2, none⟩) (by simp; omega) (by simp; omega) _).c2) (fun hHeld13 => ?_)
            clear hK K
            try simp only [Act.put, List.setIfInBounds_toArray, List.set_cons_zero, List.set_cons_succ]
            refine wpAnyH_done (by kernel_rfl) ?_ _
            go_wp2_with fail
            go_meet
            exact ⟨A3, c3, (HX.out.under HB6.out).set 2 _, slOwn4 (HO2.out.setCell (fun j hj => by have : j < w.heap.size := hj; simp; omega) (fun j hj => by have := HO2.out.base_le j hj; simp; omega) _), Below.setCell (bthen HXW.out HB6.out) (by simp) _⟩
          case rest =>
            obtain ⟨A4, c4, hb9, hs9, hbY⟩ := hcut
            have H9 := Lib.hid (show E4 Y.heap.size { a with tags := a.tags.take n ++ a.tags.drop k } A4 F c4 cf wc from ⟨by
              show Bx _ _ _ [.string a.stream, .string a.type, .slice A4 (a.tags.take n ++ a.tags.drop k).length c4, .slice F a.fields.length cf]
              rw [HNL.out]
              exact hb9, hs9, HA8.out.fs.any.below hbY⟩)
            have HA9 := Lib.hid (HA8.out.below hbY)
            have H89 := Lib.hid (H8.out.below hbY)
            have HBX9 := Lib.hid (bthen HBX8.out hbY)
            clear hb9 hs9 hbY HK HR1 HR2 HLT HLD HLL H8 HA8 HX HXW HAW HOK z2 l0 hxl
            obtain ⟨Z, hZ⟩ : ∃ Z, Z = wc := ⟨_, rfl⟩
            subst hZ
            obtain ⟨ad, rfl, hcell⟩ : ∃ ad, T = some ad ∧ Z.cell? (ad.add k) = some (.string a.tags[k]) := row_str_at HA9.out.ts.2.2 hk
            have HCT := Lib.hid (fun V (hb : Below Z.heap.size Z V) => show V.cell? (ad.add k) = some (.string a.tags[k]) from (hb.cell (World.block_lt_of_cell? Z _ hcell)).trans hcell)
            generalize a.tags[k] = tg at HCT HHAS hcell
            have hll : (a.tags.take k ++ a.tags.drop n).length = a.tags.length - 1 := by have := HNK.out; simp; omega
            obtain ⟨M1, hM1⟩ : ∃ M1, (a.tags.take k ++ a.tags.drop n).length = M1 := ⟨_, rfl⟩
            obtain ⟨M2, hM2⟩ : ∃ M2, (a.tags.take n ++ a.tags.drop k).length = M2 := ⟨_, rfl⟩
            have gl1 : ∀ z ∈ a.tags.take k ++ a.tags.drop n, z.size ≤ maxLen := fun z hz => HG.out.2.2.1 z ((List.mem_append.1 hz).elim List.mem_of_mem_take List.mem_of_mem_drop)
            have gl2 : ∀ z ∈ a.tags.take n ++ a.tags.drop k, z.size ≤ maxLen := fun z hz => HG.out.2.2.1 z ((List.mem_append.1 hz).elim List.mem_of_mem_take List.mem_of_mem_drop)
            obtain ⟨mm, hmm⟩ : ∃ mm, mayE { a with tags := a.tags.take n ++ a.tags.drop k } = mm := ⟨_, rfl⟩
            rw [hmm] at HMORE
            have CM1 := Lib.hid (fun V (R : Prop) (hb : Below Z.heap.size Z V ∧ R) => show Calls Try.prog 9 #[.agg #[.string a.stream, .string a.type, .slice A3 M1 c3, .slice F a.fields.length cf]] V fun r w' => r = .returned (.int .i64 0) ∧ Below V.heap.size V w' from by
              have := mayE_any (e := { a with tags := a.tags.take k ++ a.tags.drop n }) (H89.out.below hb.1).ts (H89.out.below hb.1).fs (by show a.fields.length ≤ _; omega) gl1
              rw [HOKL.out] at this
              simp only [vEvent, hM1] at this
              exact this)
            have CM2 := Lib.hid (fun V (R : Prop) (hb : Below Z.heap.size Z V ∧ R) => show Calls Try.prog 9 #[.agg #[.string a.stream, .string a.type, .slice A4 M2 c4, .slice F a.fields.length cf]] V fun r w' => r = .returned (.int .i64 mm) ∧ Below V.heap.size V w' from by
              have := mayE_any (e := { a with tags := a.tags.take n ++ a.tags.drop k }) (H9.out.below hb.1).ts (H9.out.below hb.1).fs (by show a.fields.length ≤ _; omega) gl2
              rw [hmm] at this
              simp only [vEvent, hM2] at this
              exact this)
            have CH := Lib.hid (fun V (R : Prop) (hb : Below Z.heap.size Z V ∧ R) => show Calls Try.prog 10 #[.agg #[.string a.stream, .string a.type, .slice A3 M1 c3, .slice F a.fields.length cf], .string tg] V fun r w' => r = .returned (.bool false) ∧ Below V.heap.size V w' from by
              have := Has_any (e := { a with tags := a.tags.take k ++ a.tags.drop n }) (B := F) (cb := cf) (H89.out.below hb.1).ts tg
              simp only [vEvent, hM1] at this
              rw [HHAS.out] at this
              exact this)
            have HK := Lib.hid (fun V (hb : Below Z.heap.size Z V) => show Below Z.heap.size Z V ∧ V.cell? ⟨w.heap.size, 2, none⟩ = some (.slice (some ad) a.tags.length ct) ∧ V.cell? (ad.add k) = some (.string tg) ∧ V.cell? ⟨X.heap.size, 0, none⟩ = some (.string a.stream) ∧ V.cell? ⟨X.heap.size, 1, none⟩ = some (.string a.type) ∧ V.cell? ⟨X.heap.size, 2, none⟩ = some (.slice A3 M1 c3) ∧ V.cell? ⟨X.heap.size, 3, none⟩ = some (.slice F a.fields.length cf) ∧ V.cell? ⟨Y.heap.size, 0, none⟩ = some (.string a.stream) ∧ V.cell? ⟨Y.heap.size, 1, none⟩ = some (.string a.type) ∧ V.cell? ⟨Y.heap.size, 2, none⟩ = some (.slice A4 M2 c4) ∧ V.cell? ⟨Y.heap.size, 3, none⟩ = some (.slice F a.fields.length cf) from ⟨hb, (HA9.out.below hb).c2, HCT.out V hb, (H89.out.below hb).c0, (H89.out.below hb).c1, by have := (H89.out.below hb).c2; simp only [hM1] at this; exact this, (H89.out.below hb).c3, (H9.out.below hb).c0, (H9.out.below hb).c1, by have := (H9.out.below hb).c2; simp only [hM2] at this; exact this, (H9.out.below hb).c3⟩)
            have d0 : (mm == 0) = false := by simp [HMORE.out]
            have d1 : (mm != 0) = true := by simp [HMORE.out]
            have HZX := Lib.hid HBX9.out
            clear hll hM1 hM2 gl1 gl2 hmm hcell HOKL HMORE HHAS H89 H9 HNL
            go_upto_region 10 with fail
            go_cut [75] (fun v wx => v = .bool false ∧ Below X.heap.size X wx)
            case first =>
              go_region_held3 (fun V => Below Z.heap.size Z V ∧ V.cell? ⟨w.heap.size, 2, none⟩ = some (.slice (some ad) a.tags.length ct) ∧ V.cell? (ad.add k) = some (.string tg) ∧ V.cell? ⟨X.heap.size, 0, none⟩ = some (.string a.stream) ∧ V.cell? ⟨X.heap.size, 1, none⟩ = some (.string a.type) ∧ V.cell? ⟨X.heap.size, 2, none⟩ = some (.slice A3 M1 c3) ∧ V.cell? ⟨X.heap.size, 3, none⟩ = some (.slice F a.fields.length cf) ∧ V.cell? ⟨Y.heap.size, 0, none⟩ = some (.string a.stream) ∧ V.cell? ⟨Y.heap.size, 1, none⟩ = some (.string a.type) ∧ V.cell? ⟨Y.heap.size, 2, none⟩ = some (.slice A4 M2 c4) ∧ V.cell? ⟨Y.heap.size, 3, none⟩ = some (.slice F a.fields.length cf))
                (first | exact HK.out _ (below_drawn (Below.refl _ _)) | (assumption) | exact HK.out _ (bthen (And.left (by assumption : Below Z.heap.size Z _ ∧ _)) (by assumption)))
                (first
                  | (go_at_call 9; go_fit (CM1.out _ _ (by assumption)); rintro r w7 ⟨rfl, hb7⟩)
                  | (go_at_call 9; go_fit (CM2.out _ _ (by assumption)); rintro r w7 ⟨rfl, hb7⟩)
                  | (go_at_call 10; go_fit (CH.out _ _ (by assumption)); rintro r w7 ⟨rfl, hb7⟩))
              all_goals go_wp2_with fail
              all_goals go_meet
              all_goals exact ⟨rfl, bthen HZX.out (And.left (by assumption : Below Z.heap.size Z _ ∧ _))⟩
            case rest =>
              obtain ⟨rfl, hbq⟩ := hcut
              have HBQ := Lib.hid hbq
              clear hbq
              go_wp2_with fail
              go_meet
              case rel => exact HBQ.out
    case rest =>
      obtain ⟨X2, hX2⟩ : ∃ X2, X2 = wc := ⟨_, rfl⟩
      subst hX2
      have HAx := HA
      have HBWx := HBW
      have HA := Lib.hid (HAx.out.below hcut)
      have HBW := Lib.hid (bthen HBWx.out hcut)
      clear hcut HAx HBWx HBD
      have k3 := HA.out.c3
      have q0 : (0 : Int) ≤ (a.fields.length : Int) := Int.natCast_nonneg _
      obtain ⟨B, hBd⟩ : ∃ B, decide (0 ≤ y ∧ y < (a.fields.length : Int)) = B := ⟨_, rfl⟩
      have HBD := Lib.hid hBd
      clear hBd
      go_upto_region 12 with fail
      go_cut [84] (fun b wx => b = .bool B ∧ wx = X2)
      case first =>
        by_cases h1 : 0 ≤ y
        · by_cases h2 : y < (a.fields.length : Int)
          · have HT := Lib.hid (show true = B from by rw [← HBD.out, decide_eq_true ⟨h1, h2⟩])
            go_wp2_with fail
            go_meet
            case rel => exact ⟨congrArg Value.bool HT.out, rfl⟩
          · have HT := Lib.hid (show false = B from by rw [← HBD.out, decide_eq_false (fun h => h2 h.2)])
            go_wp2_with fail
            go_meet
            case rel => exact ⟨congrArg Value.bool HT.out, rfl⟩
        · have HT := Lib.hid (show false = B from by rw [← HBD.out, decide_eq_false (fun h => h1 h.1)])
          go_wp2_with fail
          go_meet
          case rel => exact ⟨congrArg Value.bool HT.out, rfl⟩
      case rest =>
      obtain ⟨rfl, rfl⟩ := hcut
      obtain ⟨X, hX⟩ : ∃ X, X = wc := ⟨_, rfl⟩
      subst hX
      clear k3
      rcases B with _ | _
      · go_wp2_with fail
        go_ret
        exact ⟨rfl, HBW.out⟩
      · obtain ⟨hx0, hxl0⟩ := of_decide_eq_true HBD.out
        obtain ⟨k, rfl⟩ : ∃ k : Nat, y = k := ⟨y.toNat, by omega⟩
        have hk : k < a.fields.length := by omega
        obtain ⟨n, hn⟩ : ∃ n, n = k + 1 := ⟨_, rfl⟩
        have ew : IntKind.i64.wrap ((k : Int) + 1) = (n : Int) := by rw [IntWalk.i64_in _ (by omega)]; omega
        have k0 := HA.out.c0
        have k1 := HA.out.c1
        have k2 := HA.out.c2
        have k3 := HA.out.c3
        go_upto_region 14 with fail
        have b0 : (0 : Int) ≤ (k : Int) := Int.natCast_nonneg _
        have b1 : (k : Int) < (a.fields.length : Int) := by omega
        have b2 : (n : Int) ≤ (a.fields.length : Int) := by omega
        have b3 : (k : Int) ≤ (cf : Int) := by omega
        have b4 : (0 : Int) ≤ (n : Int) := Int.natCast_nonneg _
        have b5 : (n : Int) ≤ (cf : Int) := by omega
        have b6 : k ≤ cf := by omega
        have b7 : n ≤ a.fields.length := by omega
        have b8 : k ≤ a.fields.length := by omega
        have b9 : n ≤ cf := by omega
        have HNK := Lib.hid hn
        clear hn hx0 hxl0 k0 k1 k2 k3
        obtain ⟨W7, hW7⟩ : ∃ W7, W7 = X.alloc (.cells #[.string a.stream, .string a.type, .slice T a.tags.length ct, .slice F a.fields.length cf] 25) := ⟨_, rfl⟩
        rw [← hW7]
        have HXW := Lib.hid (show Below X.heap.size X W7 by rw [hW7]; exact (Below.refl _ _).alloc (Nat.le_refl _) _)
        have HX := Lib.hid (show Bx W7 X.heap.size 25 [.string a.stream, .string a.type, .slice T a.tags.length ct, .slice F a.fields.length cf] by rw [hW7]; exact Bx.new X _ _)
        have HAW := Lib.hid (HA.out.below HXW.out)
        have hxl : X.heap.size < W7.heap.size := HX.out.lt
        have hwl : w.heap.size < X.heap.size := HA.out.bx.lt
        clear hW7
        have HK := Lib.hid (fun V (hb : Below W7.heap.size W7 V) => show Below W7.heap.size W7 V ∧ V.cell? ⟨w.heap.size, 3, none⟩ = some (.slice F a.fields.length cf) from ⟨hb, (HAW.out.below hb).c3⟩)
        have HR1 := Lib.hid (fun V (hb : Below W7.heap.size W7 V) => show Row kField (fun j => j < w.heap.size) V F (a.fields.take k) from (HAW.out.below hb).fs.2.2.take k)
        have HR2 := Lib.hid (fun V (hb : Below W7.heap.size W7 V) => cutF4 (k := n) (cap := cf) (HAW.out.below hb).fs.2.2 (HAW.out.below hb).fs.1)
        have HOK := Lib.hid (show ∀ j, j < w.heap.size → j < W7.heap.size from fun j hj => by have := HAW.out.bx.lt; omega)
        have HLT := Lib.hid (show (a.fields.take k).length = k by rw [List.length_take]; omega)
        have HLD := Lib.hid (show (a.fields.drop n).length = a.fields.length - n by rw [List.length_drop])
        have HLL := Lib.hid (show (([] ++ a.fields.take k) ++ a.fields.drop n).length = a.fields.length - 1 by have := HNK.out; simp; omega)
        obtain ⟨_, z2⟩ := HK.out W7 (Below.refl _ _)
        have l0 : w.heap.size < W7.heap.size := HAW.out.bx.lt
        go_cut [97] (fun _ wx => ∃ A3 c3, Bx wx X.heap.size 25 [.string a.stream, .string a.type, .slice T a.tags.length ct, .slice A3 (a.fields.length - 1) c3] ∧ Sl kField (fun _ => True) wx A3 c3 (([] ++ a.fields.take k) ++ a.fields.drop n) ∧ Below X.heap.size X wx)
        case first =>
          by_cases hcn : cf = n
          · have HR2 := Lib.hid (show ∀ V, Below W7.heap.size W7 V → Row kField (fun j => j < w.heap.size) V F (a.fields.drop n) from fun V hb => by have h := HR2.out V hb; rwa [if_pos hcn] at h)
            subst hcn
            have HLD := Lib.hid (show (a.fields.drop cf).length = 0 by rw [List.length_drop]; omega)
            refine wp_region_held_drew (S := fun V => V.cell? ⟨w.heap.size, 3, none⟩ = some (.slice F a.fields.length cf)) (by kernel_rfl) z2 (fun hHeld => ?_)
            refine wpAnyH_take (i := 1) (oi := { dst := some 87, op := Op.fieldAddr 25 (Operand.tmp 3) 3, type := 0, pos := "more.go:26", after := #[], guard := none }) (v := ?_) rfl (by kernel_rfl) (by kernel_rfl) (by kernel_rfl) (fun _ _ _ h => h) (Or.inl ⟨by rfl, ?_⟩) (by assumption) ?_
            rotate_left
            · (intro W hSw; (try dsimp only at hSw); go_simp) <;> with_reducible rfl
            try simp only [Act.put, List.setIfInBounds_toArray, List.set_cons_zero, List.set_cons_succ]
            refine wpAnyH_take (i := 2) (oi := { dst := some 88, op := Op.load 23 (Operand.tmp 87), type := 23, pos := "more.go:26", after := #[{ on := 1, ground := Ground.data }], guard := none }) (v := ?_) rfl (by kernel_rfl) (by kernel_rfl) (by kernel_rfl) (fun _ _ _ h => h) (Or.inl ⟨by rfl, ?_⟩) (by assumption) ?_
            rotate_left
            · (intro W hSw; (try dsimp only at hSw); go_simp) <;> with_reducible rfl
            try simp only [Act.put, List.setIfInBounds_toArray, List.set_cons_zero, List.set_cons_succ]
            refine wpAnyH_take (i := 3) (oi := { dst := some 89, op := Op.move (Operand.tmp 2), type := 3, pos := "more.go:26", after := #[], guard := none }) (v := ?_) rfl (by kernel_rfl) (by kernel_rfl) (by kernel_rfl) (fun _ _ _ h => h) (Or.inl ⟨by rfl, ?_⟩) (by assumption) ?_
            rotate_left
            · (intro W hSw; (try dsimp only at hSw); go_simp) <;> with_reducible rfl
            try simp only [Act.put, List.setIfInBounds_toArray, List.set_cons_zero, List.set_cons_succ]
            refine wpAnyH_take (i := 4) (oi := { dst := some 90, op := Op.slice 23 (Operand.tmp 88) none (some (Operand.tmp 89)) none, type := 23, pos := "more.go:26", after := #[{ on := 2, ground := Ground.data }, { on := 3, ground := Ground.data }], guard := none }) (v := ?_) rfl (by kernel_rfl) (by kernel_rfl) (by kernel_rfl) (fun _ _ _ h => h) (Or.inl ⟨by rfl, ?_⟩) (by assumption) ?_
            rotate_left
            · (intro W hSw; (try dsimp only at hSw); go_simp) <;> with_reducible rfl
            try simp only [Act.put, List.setIfInBounds_toArray, List.set_cons_zero, List.set_cons_succ]
            refine wpAnyH_take (i := 6) (oi := { dst := some 92, op := Op.fieldAddr 25 (Operand.tmp 3) 3, type := 0, pos := "more.go:26", after := #[], guard := none }) (v := ?_) rfl (by kernel_rfl) (by kernel_rfl) (by kernel_rfl) (fun _ _ _ h => h) (Or.inl ⟨by rfl, ?_⟩) (by assumption) ?_
            rotate_left
            · (intro W hSw; (try dsimp only at hSw); go_simp) <;> with_reducible rfl
            try simp only [Act.put, List.setIfInBounds_toArray, List.set_cons_zero, List.set_cons_succ]
            refine wpAnyH_take (i := 7) (oi := { dst := some 93, op := Op.load 23 (Operand.tmp 92), type := 23, pos := "more.go:26", after := #[{ on := 6, ground := Ground.data }], guard := none }) (v := ?_) rfl (by kernel_rfl) (by kernel_rfl) (by kernel_rfl) (fun _ _ _ h => h) (Or.inl ⟨by rfl, ?_⟩) (by assumption) ?_
            rotate_left
            · (intro W hSw; (try dsimp only at hSw); go_simp) <;> with_reducible rfl
            try simp only [Act.put, List.setIfInBounds_toArray, List.set_cons_zero, List.set_cons_succ]
            refine wpAnyH_take (i := 8) (oi := { dst := some 94, op := Op.move (Operand.tmp 2), type := 3, pos := "more.go:26", after := #[], guard := none }) (v := ?_) rfl (by kernel_rfl) (by kernel_rfl) (by kernel_rfl) (fun _ _ _ h => h) (Or.inl ⟨by rfl, ?_⟩) (by assumption) ?_
            rotate_left
            · (intro W hSw; (try dsimp only at hSw); go_simp) <;> with_reducible rfl
            try simp only [Act.put, List.setIfInBounds_toArray, List.set_cons_zero, List.set_cons_succ]
            refine wpAnyH_take (i := 9) (oi := { dst := some 95, op := Op.binOp BinOp.add 3 (Operand.tmp 94) (Operand.const (Value.int IntKind.i64 1)) 3, type := 3, pos := "more.go:26", after := #[{ on := 8, ground := Ground.data }], guard := none }) (v := ?_) rfl (by kernel_rfl) (by kernel_rfl) (by kernel_rfl) (fun _ _ _ h => h) (Or.inl ⟨by rfl, ?_⟩) (by assumption) ?_
            rotate_left
            · (intro W hSw; (try dsimp only at hSw); go_simp) <;> with_reducible rfl
            try simp only [Act.put, List.setIfInBounds_toArray, List.set_cons_zero, List.set_cons_succ]
            refine wpAnyH_take (i := 10) (oi := { dst := some 96, op := Op.slice 23 (Operand.tmp 93) (some (Operand.tmp 95)) none none, type := 23, pos := "more.go:26", after := #[{ on := 7, ground := Ground.data }, { on := 9, ground := Ground.data }], guard := none }) (v := ?_) rfl (by kernel_rfl) (by kernel_rfl) (by kernel_rfl) (fun _ _ _ h => h) (Or.inl ⟨by rfl, ?_⟩) (by assumption) ?_
            rotate_left
            · (intro W hSw; (try dsimp only at hSw); go_simp) <;> with_reducible rfl
            try simp only [Act.put, List.setIfInBounds_toArray, List.set_cons_zero, List.set_cons_succ]
            refine wpAnyH_ready (rs := [0]) (by kernel_rfl) (by simp) ?_
            refine AllReadyH.cons (o := { dst := some 86, op := Op.buildSlice 23 0 #[], type := 23, pos := "more.go:26", after := #[], guard := none }) rfl (fun K hK => ?_) AllReadyH.nil
            go_simp
            refine hK.out _ _ ((HK.out _ (below_made (below_drawn (Below.refl _ _)) (Nat.le_refl _) _)).2) (fun hHeld0 => ?_)
            clear hK K
            try simp only [Act.put, List.setIfInBounds_toArray, List.set_cons_zero, List.set_cons_succ]
            refine wpAnyH_ready (rs := [5]) (by kernel_rfl) (by simp) ?_
            refine AllReadyH.cons (o := { dst := some 91, op := Op.call { callee := Callee.builtin Builtin.append, args := #[Operand.tmp 86, Operand.tmp 90], argTypes := #[23, 23] }, type := 23, pos := "more.go:26", after := #[{ on := 0, ground := Ground.data }, { on := 4, ground := Ground.data }], guard := none }) rfl (fun K hK => ?_) AllReadyH.nil
            (refine step_spreadO rfl _ _ _ rfl 34 _ 2 24 Try.underlying23 infoField rfl (by decide) (by decide) rfl W7 (fun j => j < w.heap.size) HOK.out _ [] rfl (Own.lit_at (by exact heap_alloc_new W7 _) (by simp)) (a.fields.take k) F cf HR1.out True (by first | exact ⟨HB5.out, trivial⟩ | exact ⟨below_drawn HB5.out, trivial⟩ | exact ⟨below_drawn (below_made (Below.refl _ _) (Nat.le_refl _) _), trivial⟩ | exact ⟨below_made (below_drawn (Below.refl _ _)) (Nat.le_refl _) _, trivial⟩) k HLT.out rfl (by simp; omega) ?_; intro v1 w5 hown1 hg1 hat1 hbel1; have HO1 := Lib.hid hown1; have HB5 := Lib.hid hbel1; have a2 := (HK.out _ hbel1).2; clear hown1 hg1 hat1 hbel1)
            refine hK.out _ _ ((HK.out _ HB5.out).2) (fun hHeld5 => ?_)
            clear hK K
            try simp only [Act.put, List.setIfInBounds_toArray, List.set_cons_zero, List.set_cons_succ]
            refine wpAnyH_ready (rs := [11]) (by kernel_rfl) (by simp) ?_
            refine AllReadyH.cons (o := { dst := some 97, op := Op.call { callee := Callee.builtin Builtin.append, args := #[Operand.tmp 91, Operand.tmp 96], argTypes := #[23, 23] }, type := 23, pos := "more.go:26", after := #[{ on := 5, ground := Ground.data }, { on := 10, ground := Ground.data }, { on := 5, ground := Ground.chain }], guard := none }) rfl (fun K hK => ?_) AllReadyH.nil
            (refine step_spreadO rfl _ _ _ rfl 34 _ 2 24 Try.underlying23 infoField rfl (by decide) (by decide) rfl W7 (fun j => j < w.heap.size) HOK.out _ ([] ++ a.fields.take k) rfl HO1.out (a.fields.drop cf) _ _ HR2.out True (by first | exact ⟨HB5.out, trivial⟩ | exact ⟨below_drawn HB5.out, trivial⟩ | exact ⟨below_drawn (below_made (Below.refl _ _) (Nat.le_refl _) _), trivial⟩ | exact ⟨below_made (below_drawn (Below.refl _ _)) (Nat.le_refl _) _, trivial⟩) 0 HLD.out rfl (by rw [List.nil_append, HLT.out]; omega) ?_; intro v2 w6 hown2 hg2 hat2 hbel2; have kc := (HX.out.under hbel2).cell 3; simp only [List.getElem?_cons_succ, List.getElem?_cons_zero] at kc; have kf := (HX.out.under hbel2).free 3; obtain ⟨A3, c3, hv2, hsl2⟩ := hown2.sl; rw [HLL.out] at hv2; subst hv2; have HO2 := Lib.hid hown2; have HB6 := Lib.hid hbel2; clear hown2 hg2 hat2 hbel2 hsl2)
            refine hK.out _ _ ((HK.out _ HB6.out).2) (fun hHeld11 => ?_)
            clear hK K
            try simp only [Act.put, List.setIfInBounds_toArray, List.set_cons_zero, List.set_cons_succ]
            refine wpAnyH_take (i := 12) (oi := { dst := some 98, op := Op.fieldAddr 25 (Operand.tmp 10) 3, type := 0, pos := "more.go:26", after := #[{ on := 0, ground := Ground.phase }, { on := 1, ground := Ground.phase }, { on := 2, ground := Ground.phase }, { on := 3, ground := Ground.phase }, { on := 4, ground := Ground.phase }, { on := 5, ground := Ground.phase }, { on := 6, ground := Ground.phase }, { on := 7, ground := Ground.phase }, { on := 8, ground := Ground.phase }, { on := 9, ground := Ground.phase }, { on := 10, ground := Ground.phase }, { on := 11, ground := Ground.phase }], guard := none }) (v := ?_) rfl (by kernel_rfl) (by kernel_rfl) (by kernel_rfl) (fun _ _ _ h => h) (Or.inl ⟨by rfl, ?_⟩) (by assumption) ?_
            rotate_left
            · (intro W hSw; (try dsimp only at hSw); go_simp) <;> with_reducible rfl
            try simp only [Act.put, List.setIfInBounds_toArray, List.set_cons_zero, List.set_cons_succ]
            refine wpAnyH_ready (rs := [13]) (by kernel_rfl) (by simp) ?_
            refine AllReadyH.cons (o := { dst := none, op := Op.store 23 (Operand.tmp 98) (Operand.tmp 97), type := 0, pos := "more.go:26", after := #[{ on := 12, ground := Ground.data }, { on := 11, ground := Ground.data }, { on := 11, ground := Ground.chain }, { on := 0, ground := Ground.phase }, { on := 1, ground := Ground.phase }, { on := 2, ground := Ground.phase }, { on := 3, ground := Ground.phase }, { on := 4, ground := Ground.phase }, { on := 5, ground := Ground.phase }, { on := 6, ground := Ground.phase }, { on := 7, ground := Ground.phase }, { on := 8, ground := Ground.phase }, { on := 9, ground := Ground.phase }, { on := 10, ground := Ground.phase }, { on := 11, ground := Ground.phase }], guard := none }) rfl (fun K hK => ?_) AllReadyH.nil
            go_simp
            refine hK.out _ _ (((HAW.out.below HB6.out).far (p := ⟨X.heap.size, 3, none⟩) (by simp; omega) (by simp; omega) _).c3) (fun hHeld13 => ?_)
            clear hK K
            try simp only [Act.put, List.setIfInBounds_toArray, List.set_cons_zero, List.set_cons_succ]
            refine wpAnyH_done (by kernel_rfl) ?_ _
            go_wp2_with fail
            go_meet
            exact ⟨A3, c3, (HX.out.under HB6.out).set 3 _, slOwn4 (HO2.out.setCell (fun j hj => by have : j < w.heap.size := hj; simp; omega) (fun j hj => by have := HO2.out.base_le j hj; simp; omega) _), Below.setCell (bthen HXW.out HB6.out) (by simp) _⟩
          · have HR2 := Lib.hid (show ∀ V, Below W7.heap.size W7 V → Row kField (fun j => j < w.heap.size) V (F.map (·.add (n * 2))) (a.fields.drop n) from fun V hb => by have h := HR2.out V hb; rwa [if_neg hcn] at h)
            refine wp_region_held_drew (S := fun V => V.cell? ⟨w.heap.size, 3, none⟩ = some (.slice F a.fields.length cf)) (by kernel_rfl) z2 (fun hHeld => ?_)
            refine wpAnyH_take (i := 1) (oi := { dst := some 87, op := Op.fieldAddr 25 (Operand.tmp 3) 3, type := 0, pos := "more.go:26", after := #[], guard := none }) (v := ?_) rfl (by kernel_rfl) (by kernel_rfl) (by kernel_rfl) (fun _ _ _ h => h) (Or.inl ⟨by rfl, ?_⟩) (by assumption) ?_
            rotate_left
            · (intro W hSw; (try dsimp only at hSw); go_simp) <;> with_reducible rfl
            try simp only [Act.put, List.setIfInBounds_toArray, List.set_cons_zero, List.set_cons_succ]
            refine wpAnyH_take (i := 2) (oi := { dst := some 88, op := Op.load 23 (Operand.tmp 87), type := 23, pos := "more.go:26", after := #[{ on := 1, ground := Ground.data }], guard := none }) (v := ?_) rfl (by kernel_rfl) (by kernel_rfl) (by kernel_rfl) (fun _ _ _ h => h) (Or.inl ⟨by rfl, ?_⟩) (by assumption) ?_
            rotate_left
            · (intro W hSw; (try dsimp only at hSw); go_simp) <;> with_reducible rfl
            try simp only [Act.put, List.setIfInBounds_toArray, List.set_cons_zero, List.set_cons_succ]
            refine wpAnyH_take (i := 3) (oi := { dst := some 89, op := Op.move (Operand.tmp 2), type := 3, pos := "more.go:26", after := #[], guard := none }) (v := ?_) rfl (by kernel_rfl) (by kernel_rfl) (by kernel_rfl) (fun _ _ _ h => h) (Or.inl ⟨by rfl, ?_⟩) (by assumption) ?_
            rotate_left
            · (intro W hSw; (try dsimp only at hSw); go_simp) <;> with_reducible rfl
            try simp only [Act.put, List.setIfInBounds_toArray, List.set_cons_zero, List.set_cons_succ]
            refine wpAnyH_take (i := 4) (oi := { dst := some 90, op := Op.slice 23 (Operand.tmp 88) none (some (Operand.tmp 89)) none, type := 23, pos := "more.go:26", after := #[{ on := 2, ground := Ground.data }, { on := 3, ground := Ground.data }], guard := none }) (v := ?_) rfl (by kernel_rfl) (by kernel_rfl) (by kernel_rfl) (fun _ _ _ h => h) (Or.inl ⟨by rfl, ?_⟩) (by assumption) ?_
            rotate_left
            · (intro W hSw; (try dsimp only at hSw); go_simp) <;> with_reducible rfl
            try simp only [Act.put, List.setIfInBounds_toArray, List.set_cons_zero, List.set_cons_succ]
            refine wpAnyH_take (i := 6) (oi := { dst := some 92, op := Op.fieldAddr 25 (Operand.tmp 3) 3, type := 0, pos := "more.go:26", after := #[], guard := none }) (v := ?_) rfl (by kernel_rfl) (by kernel_rfl) (by kernel_rfl) (fun _ _ _ h => h) (Or.inl ⟨by rfl, ?_⟩) (by assumption) ?_
            rotate_left
            · (intro W hSw; (try dsimp only at hSw); go_simp) <;> with_reducible rfl
            try simp only [Act.put, List.setIfInBounds_toArray, List.set_cons_zero, List.set_cons_succ]
            refine wpAnyH_take (i := 7) (oi := { dst := some 93, op := Op.load 23 (Operand.tmp 92), type := 23, pos := "more.go:26", after := #[{ on := 6, ground := Ground.data }], guard := none }) (v := ?_) rfl (by kernel_rfl) (by kernel_rfl) (by kernel_rfl) (fun _ _ _ h => h) (Or.inl ⟨by rfl, ?_⟩) (by assumption) ?_
            rotate_left
            · (intro W hSw; (try dsimp only at hSw); go_simp) <;> with_reducible rfl
            try simp only [Act.put, List.setIfInBounds_toArray, List.set_cons_zero, List.set_cons_succ]
            refine wpAnyH_take (i := 8) (oi := { dst := some 94, op := Op.move (Operand.tmp 2), type := 3, pos := "more.go:26", after := #[], guard := none }) (v := ?_) rfl (by kernel_rfl) (by kernel_rfl) (by kernel_rfl) (fun _ _ _ h => h) (Or.inl ⟨by rfl, ?_⟩) (by assumption) ?_
            rotate_left
            · (intro W hSw; (try dsimp only at hSw); go_simp) <;> with_reducible rfl
            try simp only [Act.put, List.setIfInBounds_toArray, List.set_cons_zero, List.set_cons_succ]
            refine wpAnyH_take (i := 9) (oi := { dst := some 95, op := Op.binOp BinOp.add 3 (Operand.tmp 94) (Operand.const (Value.int IntKind.i64 1)) 3, type := 3, pos := "more.go:26", after := #[{ on := 8, ground := Ground.data }], guard := none }) (v := ?_) rfl (by kernel_rfl) (by kernel_rfl) (by kernel_rfl) (fun _ _ _ h => h) (Or.inl ⟨by rfl, ?_⟩) (by assumption) ?_
            rotate_left
            · (intro W hSw; (try dsimp only at hSw); go_simp) <;> with_reducible rfl
            try simp only [Act.put, List.setIfInBounds_toArray, List.set_cons_zero, List.set_cons_succ]
            refine wpAnyH_take (i := 10) (oi := { dst := some 96, op := Op.slice 23 (Operand.tmp 93) (some (Operand.tmp 95)) none none, type := 23, pos := "more.go:26", after := #[{ on := 7, ground := Ground.data }, { on := 9, ground := Ground.data }], guard := none }) (v := ?_) rfl (by kernel_rfl) (by kernel_rfl) (by kernel_rfl) (fun _ _ _ h => h) (Or.inl ⟨by rfl, ?_⟩) (by assumption) ?_
            rotate_left
            · (intro W hSw; (try dsimp only at hSw); go_simp) <;> with_reducible rfl
            try simp only [Act.put, List.setIfInBounds_toArray, List.set_cons_zero, List.set_cons_succ]
            refine wpAnyH_ready (rs := [0]) (by kernel_rfl) (by simp) ?_
            refine AllReadyH.cons (o := { dst := some 86, op := Op.buildSlice 23 0 #[], type := 23, pos := "more.go:26", after := #[], guard := none }) rfl (fun K hK => ?_) AllReadyH.nil
            go_simp
            refine hK.out _ _ ((HK.out _ (below_made (below_drawn (Below.refl _ _)) (Nat.le_refl _) _)).2) (fun hHeld0 => ?_)
            clear hK K
            try simp only [Act.put, List.setIfInBounds_toArray, List.set_cons_zero, List.set_cons_succ]
            refine wpAnyH_ready (rs := [5]) (by kernel_rfl) (by simp) ?_
            refine AllReadyH.cons (o := { dst := some 91, op := Op.call { callee := Callee.builtin Builtin.append, args := #[Operand.tmp 86, Operand.tmp 90], argTypes := #[23, 23] }, type := 23, pos := "more.go:26", after := #[{ on := 0, ground := Ground.data }, { on := 4, ground := Ground.data }], guard := none }) rfl (fun K hK => ?_) AllReadyH.nil
            (refine step_spreadO rfl _ _ _ rfl 34 _ 2 24 Try.underlying23 infoField rfl (by decide) (by decide) rfl W7 (fun j => j < w.heap.size) HOK.out _ [] rfl (Own.lit_at (by exact heap_alloc_new W7 _) (by simp)) (a.fields.take k) F cf HR1.out True (by first | exact ⟨HB5.out, trivial⟩ | exact ⟨below_drawn HB5.out, trivial⟩ | exact ⟨below_drawn (below_made (Below.refl _ _) (Nat.le_refl _) _), trivial⟩ | exact ⟨below_made (below_drawn (Below.refl _ _)) (Nat.le_refl _) _, trivial⟩) k HLT.out rfl (by simp; omega) ?_; intro v1 w5 hown1 hg1 hat1 hbel1; have HO1 := Lib.hid hown1; have HB5 := Lib.hid hbel1; have a2 := (HK.out _ hbel1).2; clear hown1 hg1 hat1 hbel1)
            refine hK.out _ _ ((HK.out _ HB5.out).2) (fun hHeld5 => ?_)
            clear hK K
            try simp only [Act.put, List.setIfInBounds_toArray, List.set_cons_zero, List.set_cons_succ]
            refine wpAnyH_ready (rs := [11]) (by kernel_rfl) (by simp) ?_
            refine AllReadyH.cons (o := { dst := some 97, op := Op.call { callee := Callee.builtin Builtin.append, args := #[Operand.tmp 91, Operand.tmp 96], argTypes := #[23, 23] }, type := 23, pos := "more.go:26", after := #[{ on := 5, ground := Ground.data }, { on := 10, ground := Ground.data }, { on := 5, ground := Ground.chain }], guard := none }) rfl (fun K hK => ?_) AllReadyH.nil
            (refine step_spreadO rfl _ _ _ rfl 34 _ 2 24 Try.underlying23 infoField rfl (by decide) (by decide) rfl W7 (fun j => j < w.heap.size) HOK.out _ ([] ++ a.fields.take k) rfl HO1.out (a.fields.drop n) _ _ HR2.out True (by first | exact ⟨HB5.out, trivial⟩ | exact ⟨below_drawn HB5.out, trivial⟩ | exact ⟨below_drawn (below_made (Below.refl _ _) (Nat.le_refl _) _), trivial⟩ | exact ⟨below_made (below_drawn (Below.refl _ _)) (Nat.le_refl _) _, trivial⟩) (a.fields.length - n) HLD.out rfl (by rw [List.nil_append, HLT.out]; omega) ?_; intro v2 w6 hown2 hg2 hat2 hbel2; have kc := (HX.out.under hbel2).cell 3; simp only [List.getElem?_cons_succ, List.getElem?_cons_zero] at kc; have kf := (HX.out.under hbel2).free 3; obtain ⟨A3, c3, hv2, hsl2⟩ := hown2.sl; rw [HLL.out] at hv2; subst hv2; have HO2 := Lib.hid hown2; have HB6 := Lib.hid hbel2; clear hown2 hg2 hat2 hbel2 hsl2)
            refine hK.out _ _ ((HK.out _ HB6.out).2) (fun hHeld11 => ?_)
            clear hK K
            try simp only [Act.put, List.setIfInBounds_toArray, List.set_cons_zero, List.set_cons_succ]
            refine wpAnyH_take (i := 12) (oi := { dst := some 98, op := Op.fieldAddr 25 (Operand.tmp 10) 3, type := 0, pos := "more.go:26", after := #[{ on := 0, ground := Ground.phase }, { on := 1, ground := Ground.phase }, { on := 2, ground := Ground.phase }, { on := 3, ground := Ground.phase }, { on := 4, ground := Ground.phase }, { on := 5, ground := Ground.phase }, { on := 6, ground := Ground.phase }, { on := 7, ground := Ground.phase }, { on := 8, ground := Ground.phase }, { on := 9, ground := Ground.phase }, { on := 10, ground := Ground.phase }, { on := 11, ground := Ground.phase }], guard := none }) (v := ?_) rfl (by kernel_rfl) (by kernel_rfl) (by kernel_rfl) (fun _ _ _ h => h) (Or.inl ⟨by rfl, ?_⟩) (by assumption) ?_
            rotate_left
            · (intro W hSw; (try dsimp only at hSw); go_simp) <;> with_reducible rfl
            try simp only [Act.put, List.setIfInBounds_toArray, List.set_cons_zero, List.set_cons_succ]
            refine wpAnyH_ready (rs := [13]) (by kernel_rfl) (by simp) ?_
            refine AllReadyH.cons (o := { dst := none, op := Op.store 23 (Operand.tmp 98) (Operand.tmp 97), type := 0, pos := "more.go:26", after := #[{ on := 12, ground := Ground.data }, { on := 11, ground := Ground.data }, { on := 11, ground := Ground.chain }, { on := 0, ground := Ground.phase }, { on := 1, ground := Ground.phase }, { on := 2, ground := Ground.phase }, { on := 3, ground := Ground.phase }, { on := 4, ground := Ground.phase }, { on := 5, ground := Ground.phase }, { on := 6, ground := Ground.phase }, { on := 7, ground := Ground.phase }, { on := 8, ground := Ground.phase }, { on := 9, ground := Ground.phase }, { on := 10, ground := Ground.phase }, { on := 11, ground := Ground.phase }], guard := none }) rfl (fun K hK => ?_) AllReadyH.nil
            go_simp
            refine hK.out _ _ (((HAW.out.below HB6.out).far (p := ⟨X.heap.size, 3, none⟩) (by simp; omega) (by simp; omega) _).c3) (fun hHeld13 => ?_)
            clear hK K
            try simp only [Act.put, List.setIfInBounds_toArray, List.set_cons_zero, List.set_cons_succ]
            refine wpAnyH_done (by kernel_rfl) ?_ _
            go_wp2_with fail
            go_meet
            exact ⟨A3, c3, (HX.out.under HB6.out).set 3 _, slOwn4 (HO2.out.setCell (fun j hj => by have : j < w.heap.size := hj; simp; omega) (fun j hj => by have := HO2.out.base_le j hj; simp; omega) _), Below.setCell (bthen HXW.out HB6.out) (by simp) _⟩
        case rest =>
        obtain ⟨A3, c3, hb8, hs8, hbX⟩ := hcut
        have H8 := Lib.hid (show E4 X.heap.size { a with fields := a.fields.take k ++ a.fields.drop n } T A3 ct c3 wc from ⟨by
          show Bx _ _ _ [.string a.stream, .string a.type, .slice T a.tags.length ct, .slice A3 (a.fields.take k ++ a.fields.drop n).length c3]
          rw [show (a.fields.take k ++ a.fields.drop n).length = a.fields.length - 1 by have := HNK.out; simp; omega]
          exact hb8, HA.out.ts.any.below hbX, hs8⟩)
        have HA8 := Lib.hid (HA.out.below hbX)
        have HBX8 := Lib.hid (bthen HBW.out hbX)
        clear hb8 hs8 hbX HK HR1 HR2 HLT HLD HLL HX HXW HAW HOK z2 l0 hxl
        have HOKL := Lib.hid (show mayE { a with fields := a.fields.take k ++ a.fields.drop n } = 0 from (mayE_iff _).2 (by rw [HNK.out]; exact ok_fields HOK0.out k))
        have HVL := Lib.hid (show valF (a.fields.take k ++ a.fields.drop n) (a.fields[k]).1 = (0, false) from by simp only [HNK.out]; exact val_less HOK0.out hk)
        have HVE := Lib.hid (valF_at HOK0.out.rf hk)
        obtain ⟨Z, hZ⟩ : ∃ Z, Z = wc := ⟨_, rfl⟩
        subst hZ
        obtain ⟨ad, rfl, x0, x1⟩ := row_field_at HA8.out.fs.2.2 hk
        generalize a.fields[k] = f at x0 x1 HVL HVE
        obtain ⟨fs, fv⟩ := f
        simp only at x0 x1
        have hll : (a.fields.take k ++ a.fields.drop n).length ≤ 1000000 := by have := HNK.out; simp; omega
        obtain ⟨M1, hM1⟩ : ∃ M1, (a.fields.take k ++ a.fields.drop n).length = M1 := ⟨_, rfl⟩
        have HK := Lib.hid (fun V (hb : Below Z.heap.size Z V) => show Below Z.heap.size Z V ∧ V.cell? ⟨w.heap.size, 0, none⟩ = some (.string a.stream) ∧ V.cell? ⟨w.heap.size, 1, none⟩ = some (.string a.type) ∧ V.cell? ⟨w.heap.size, 2, none⟩ = some (.slice T a.tags.length ct) ∧ V.cell? ⟨w.heap.size, 3, none⟩ = some (.slice (some ad) a.fields.length cf) ∧ V.cell? (ad.add (k * 2)) = some (.string fs) ∧ V.cell? ⟨(ad.add (k * 2)).block, (ad.add (k * 2)).off + 1, none⟩ = some (.int .i64 fv) ∧ V.cell? ⟨X.heap.size, 0, none⟩ = some (.string a.stream) ∧ V.cell? ⟨X.heap.size, 1, none⟩ = some (.string a.type) ∧ V.cell? ⟨X.heap.size, 2, none⟩ = some (.slice T a.tags.length ct) ∧ V.cell? ⟨X.heap.size, 3, none⟩ = some (.slice A3 M1 c3) from ⟨hb, (HA8.out.below hb).c0, (HA8.out.below hb).c1, (HA8.out.below hb).c2, (HA8.out.below hb).c3, (hb.cell (World.block_lt_of_cell? Z _ x0)).trans x0, (hb.cell (World.block_lt_of_cell? Z _ x1)).trans x1, (H8.out.below hb).c0, (H8.out.below hb).c1, (H8.out.below hb).c2, by have := (H8.out.below hb).c3; simp only [hM1] at this; exact this⟩)
        have CV1 := Lib.hid (fun V (R : Prop) (hb : Below Z.heap.size Z V ∧ R) => show Calls Try.prog 11 #[.agg #[.string a.stream, .string a.type, .slice T a.tags.length ct, .slice A3 M1 c3], .string fs] V fun r w' => r = .returned (.tuple #[.int .i64 0, .bool false]) ∧ Below V.heap.size V w' from by
          have := valueE_any (e := { a with fields := a.fields.take k ++ a.fields.drop n }) (T := T) (ct := ct) (H8.out.below hb.1).fs fs
          simp only [vEvent, hM1] at this
          rw [HVL.out] at this
          exact this)
        have CV2 := Lib.hid (fun V (R : Prop) (hb : Below Z.heap.size Z V ∧ R) => show Calls Try.prog 11 #[.agg #[.string a.stream, .string a.type, .slice T a.tags.length ct, .slice (some ad) a.fields.length cf], .string fs] V fun r w' => r = .returned (.tuple #[.int .i64 fv, .bool true]) ∧ Below V.heap.size V w' from by
          have := valueE_any (T := T) (ct := ct) (HA8.out.below hb.1).fs.any fs
          rw [HVE.out] at this
          exact this)
        have CM1 := Lib.hid (fun V (hb : Below Z.heap.size Z V) => show Calls Try.prog 9 #[.agg #[.string a.stream, .string a.type, .slice T a.tags.length ct, .slice A3 M1 c3]] V fun r w' => r = .returned (.int .i64 0) ∧ Below V.heap.size V w' from by
          have := mayE_any (e := { a with fields := a.fields.take k ++ a.fields.drop n }) (H8.out.below hb).ts (H8.out.below hb).fs hll HG.out.2.2.1
          rw [HOKL.out] at this
          simp only [vEvent, hM1] at this
          exact this)
        clear hll hM1 HOKL HVL HVE x0 x1
        obtain ⟨_, p0, p1, p2, p3, p4, p5, p6, p7, p8, p9⟩ := HK.out Z (Below.refl _ _)
        go_upto_region 15 with fail
        clear p0 p1 p2 p3 p4 p5 p6 p7 p8 p9
        go_cut [11, 12] (fun v o wx => v = .int .i64 0 ∧ o = .bool false ∧ Below Z.heap.size Z wx)
        case first =>
          go_region_held3 (fun V => Below Z.heap.size Z V ∧ V.cell? ⟨w.heap.size, 0, none⟩ = some (.string a.stream) ∧ V.cell? ⟨w.heap.size, 1, none⟩ = some (.string a.type) ∧ V.cell? ⟨w.heap.size, 2, none⟩ = some (.slice T a.tags.length ct) ∧ V.cell? ⟨w.heap.size, 3, none⟩ = some (.slice (some ad) a.fields.length cf) ∧ V.cell? (ad.add (k * 2)) = some (.string fs) ∧ V.cell? ⟨(ad.add (k * 2)).block, (ad.add (k * 2)).off + 1, none⟩ = some (.int .i64 fv) ∧ V.cell? ⟨X.heap.size, 0, none⟩ = some (.string a.stream) ∧ V.cell? ⟨X.heap.size, 1, none⟩ = some (.string a.type) ∧ V.cell? ⟨X.heap.size, 2, none⟩ = some (.slice T a.tags.length ct) ∧ V.cell? ⟨X.heap.size, 3, none⟩ = some (.slice A3 M1 c3))
            (first | exact HK.out _ (below_drawn (Below.refl _ _)) | (assumption) | exact HK.out _ (bthen (And.left (by assumption : Below Z.heap.size Z _ ∧ _)) (by assumption)))
            (first | (go_at_call 11; go_fit (CV1.out _ _ (by assumption)); rintro r w7 ⟨rfl, hb7⟩))
          all_goals go_wp2_with fail
          all_goals go_meet
          all_goals exact ⟨rfl, rfl, And.left (by assumption : Below Z.heap.size Z _ ∧ _)⟩
        case rest =>
        obtain ⟨rfl, rfl, hbz⟩ := hcut
        obtain ⟨Z2, hZ2⟩ : ∃ Z2, Z2 = wc := ⟨_, rfl⟩
        subst hZ2
        have HZ2 := Lib.hid hbz
        clear hbz
        go_upto_region 16 with fail
        go_cut [13, 14] (fun v o wx => v = .int .i64 fv ∧ o = .bool true ∧ Below Z.heap.size Z wx)
        case first =>
          go_region_held3 (fun V => Below Z.heap.size Z V ∧ V.cell? ⟨w.heap.size, 0, none⟩ = some (.string a.stream) ∧ V.cell? ⟨w.heap.size, 1, none⟩ = some (.string a.type) ∧ V.cell? ⟨w.heap.size, 2, none⟩ = some (.slice T a.tags.length ct) ∧ V.cell? ⟨w.heap.size, 3, none⟩ = some (.slice (some ad) a.fields.length cf) ∧ V.cell? (ad.add (k * 2)) = some (.string fs) ∧ V.cell? ⟨(ad.add (k * 2)).block, (ad.add (k * 2)).off + 1, none⟩ = some (.int .i64 fv) ∧ V.cell? ⟨X.heap.size, 0, none⟩ = some (.string a.stream) ∧ V.cell? ⟨X.heap.size, 1, none⟩ = some (.string a.type) ∧ V.cell? ⟨X.heap.size, 2, none⟩ = some (.slice T a.tags.length ct) ∧ V.cell? ⟨X.heap.size, 3, none⟩ = some (.slice A3 M1 c3))
            (first | exact HK.out _ (below_drawn HZ2.out) | (assumption) | exact HK.out _ (bthen (And.left (by assumption : Below Z.heap.size Z _ ∧ _)) (by assumption)))
            (first | (go_at_call 11; go_fit (CV2.out _ _ (by assumption)); rintro r w7 ⟨rfl, hb7⟩))
          all_goals go_wp2_with fail
          all_goals go_meet
          all_goals exact ⟨rfl, rfl, And.left (by assumption : Below Z.heap.size Z _ ∧ _)⟩
        case rest =>
        obtain ⟨rfl, rfl, hbz⟩ := hcut
        obtain ⟨Z3, hZ3⟩ : ∃ Z3, Z3 = wc := ⟨_, rfl⟩
        subst hZ3
        have HZ3 := Lib.hid hbz
        clear hbz
        have CM := Lib.hid (CM1.out _ HZ3.out)
        obtain ⟨_, p0, p1, p2, p3, p4, p5, p6, p7, p8, p9⟩ := HK.out Z3 HZ3.out
        go_wp2_with (go_at_call 9; go_fit CM.out; rintro r w7 ⟨rfl, hb7⟩; have HB7 := Lib.hid (bthen HZ3.out hb7); obtain ⟨_, r0, r1, r2, r3, r4, r5, r6, r7, r8, r9⟩ := HK.out _ HB7.out; clear hb7)
        go_ret
        exact ⟨rfl, bthen HBX8.out HB7.out⟩
end Go.Proofs.Ytfoghahidofegaa

namespace Go.Proofs.Ytfoghahidofegaa

set_option maxRecDepth 100000 in
def ordN : List Nat := [104, 97, 114, 110, 101, 115, 115, 32, 51, 53, 102, 101, 54, 49, 53, 55, 98, 97, 100, 49, 55, 49, 56, 102, 100, 54, 51, 57, 51, 102, 48, 57, 48, 52, 49, 53, 54, 101, 56, 48, 49, 53, 48, 51, 49, 51, 55, 50, 54, 98, 54, 102, 52, 50, 101, 100, 56, 56, 98, 54, 51, 102, 57, 102, 52, 57, 97, 49, 101, 98, 57, 50, 32, 99, 117, 116, 32, 97, 116, 32, 114, 101, 103, 105, 115, 116, 114, 97, 114, 47, 114, 101, 103, 105, 115, 116, 114, 97, 114, 108, 97, 119, 48, 52, 46, 69, 118, 101, 110, 116, 80, 97, 114, 116, 115, 32, 114, 101, 103, 105, 115, 116, 114, 97, 114, 47, 114, 101, 103, 105, 115, 116, 114, 97, 114, 108, 97, 119, 48, 52, 46, 69, 118, 101, 110, 116, 78, 111, 114, 109, 32, 114, 101, 103, 105, 115, 116, 114, 97, 114, 47, 114, 101, 103, 105, 115, 116, 114, 97, 114, 108, 97, 119, 49, 52, 46, 73, 110, 100, 101, 120, 79, 119, 110, 32, 114, 101, 103, 105, 115, 116, 114, 97, 114, 47, 114, 101, 103, 105, 115, 116, 114, 97, 114, 108, 97, 119, 49, 52, 46, 73, 110, 100, 101, 120, 83, 116, 97, 121, 115]
def ordL : List Char := ordN.map Char.ofNat
theorem order_eq : Try.prog.initOrder = String.ofList ordL := by kernel_rfl
theorem signs_eq : Try.prog.initOrder.toList = ordL := by rw [order_eq, String.toList_ofList]
def ordRest : List (List Char) := (behindMainWord (wordsSigns ordL)).tail
theorem words_eq : behindMainWord (wordsSigns ordL) = "cut".toList :: ordRest := by kernel_rfl
theorem strip_cut (r : List (List Char)) : stripLifts liftWords ("cut".toList :: r) = ([], "cut".toList :: r) := by kernel_rfl
theorem mayEnter_of (P : Program) (rest : List (List Char)) (h : behindMainWord (wordsSigns P.initOrder.toList) = "cut".toList :: rest) (h1 : P.laysLater = false) (h2 : P.bearsReflect = false) (h3 : P.doorFits [] = true) : P.mayEnter = true := by
  unfold Program.mayEnter
  rw [h]
  dsimp only
  rw [strip_cut, h1, h2, h3]
  simp
theorem lifts_of (P : Program) (rest : List (List Char)) (h : behindMainWord (wordsSigns P.initOrder.toList) = "cut".toList :: rest) : P.liftsFinal = false := by
  unfold Program.liftsFinal Program.headLifts
  rw [h, strip_cut]
  simp
theorem make_of (P : Program) (rest : List (List Char)) (h : behindMainWord (wordsSigns P.initOrder.toList) = "cut".toList :: rest) : P.make = some .cut := by
  unfold Program.make
  rw [h]
  dsimp only
  rw [if_neg (by decide), if_pos (by simp)]
theorem door_of (P : Program) (h : P.doorRows = []) : P.doorFits [] = true := by
  unfold Program.doorFits
  rw [h]
  simp
theorem head_eq : behindMainWord (wordsSigns Try.prog.initOrder.toList) = "cut".toList :: ordRest := by rw [signs_eq]; exact words_eq
theorem h_later : Try.prog.laysLater = false := by kernel_rfl
theorem h_refl : Try.prog.bearsReflect = false := by kernel_rfl
theorem h_rows : Try.prog.doorRows = [] := by kernel_rfl
theorem mayEnter_eq : Try.prog.mayEnter = true := mayEnter_of _ _ head_eq h_later h_refl (door_of _ h_rows)
theorem lifts_eq : Try.prog.liftsFinal = false := lifts_of _ _ head_eq
theorem make_eq : Try.prog.make = some .cut := make_of _ _ head_eq
theorem laidOut_eq : laidOutB Try.prog = true := by kernel_rfl
theorem mapsRowed_eq : mapsRowed Try.prog = true := by kernel_rfl
theorem stops_eq : (Try.prog.stops == []) = true := by kernel_rfl
theorem stopKnobs_eq : (Try.prog.stopKnobs == []) = true := by kernel_rfl
theorem heard_eq : Try.prog.stopsHeard = true := by kernel_rfl
theorem own_eq : ownKnob Try.prog.godebug = none := by kernel_rfl

/-- The rows' one great closed fact, out of its parts. -/
theorem joined_of {P : Program} {f : FuncId} {fn : Func} {s : ChangeSpec} {c : OpenClaim}
    (k1 : c.wf (OpenSpec.ofChange s) = true) (k2 : laidOutB P = true) (k3 : mapsRowed P = true) (k4 : fn.params.all (P.readableRec ·) = true) (k5 : namedTie P c.named s.vars = true)
    (k6 : (c.stops == []) = true) (k7 : (P.stops == []) = true) (k8 : (c.knobs == []) = true) (k9 : (P.stopKnobs == []) = true)
    (k10 : (c.inPlace == P.inPlace f) = true) (k11 : (c.unfollowed == P.unfollowed f) = true) (k12 : (c.recurses == P.recurses f) = true) (k13 : (c.named == P.varsNamed f) = true)
    (k14 : (c.maps == (fn.params.toList ++ s.plain.varTypes P).any (P.mapsRec ·)) = true) (k15 : (c.ifaces == (fn.params.toList ++ s.plain.varTypes P).any (P.ifacesRec ·)) = true) (k16 : (c.mapsOut == P.mapsAmong fn.resultTypes.toList) = true)
    (k17 : (c.loops == (fn.params.toList ++ s.plain.varTypes P).any (P.loopsFrom ·)) = true) (k18 : (c.wideKeys == (fn.params.toList ++ s.plain.varTypes P ++ fn.resultTypes.toList).any (P.wideKeysFrom ·)) = true)
    (k19 : s.vars.all (P.varReadable ·) = true) (k20 : fn.resultTypes.all (fun t => P.readableRec t && decide (t < P.types.size)) = true) (k21 : (c.ifacesOut == fn.resultTypes.toList.any (P.ifacesRec ·)) = true) (k22 : (c.loopsOut == fn.resultTypes.toList.any (P.loopsFrom ·)) = true)
    (k23 : (c.plainKeys == P.plainKeys) = true) (k24 : c.shortTexts.isNone = true) (k25 : P.stopsHeard = true) (k26 : P.mayEnter = true) (k27 : (c.lifted == P.liftsFinal) = true) (k28 : (P.make == some c.make) = true)
    (k29 : c.kinds = [] ∧ c.domain = []) (k30 : (c.pinned == c.pinnedBy) = true)
    (k31 : (c.veiled == (fn.params.toList ++ s.plain.varTypes P ++ fn.resultTypes.toList).any (P.veiledRec ·)) = true) (k32 : c.veiledFits P fn.params.toList (fn.params.toList ++ s.plain.varTypes P ++ fn.resultTypes.toList) = true) :
    joinedFacts P f fn s c = true := by
  unfold joinedFacts
  rw [k1, k2, k3, k4, k5, k6, k7, k8, k9, k10, k11, k12, k13, k14, k15, k16, k17, k18, k19, k20, k21, k22, k23, k24, k25, k26, k27, k28, k29.1, k29.2, k30, k31, k32]
  rfl
end Go.Proofs.Ytfoghahidofegaa

namespace Go.Proofs.Ytfoghahidofegaa.eventParts
open Go.ChangeShapes Go.WideShapes Go.ChangeAt Go.RowKit
open Go.ChangeMaps (open_string shut_string)
set_option maxRecDepth 100000 in
theorem lifted (os : Os) (started : os.Started) (H : Type) (enc : TypeId × Value → H) :
    ReturnsInHanded {} Try.checked os 3 .any (Rows.eventPartsSpec.pre6 enc Try.prog Try.f3 Rows.eventPartsRow.domain false) (Rows.eventPartsSpec.post enc Try.prog Try.f3 false true false false) := by
  refine returnsInHanded_of_change_sized (C := Try.checked) own_eq started (by kernel_rfl) Try.func3
    (ChangeSpec.witness6 (enc := enc) (C := Try.checked) false ⟨#[], #[.agg #[.string ByteArray.empty, .string ByteArray.empty, .slice none 0 0, .slice none 0 0], .int .i64 0, .int .i64 0], []⟩ 8 (by kernel_rfl) (by kernel_rfl) (by kernel_rfl) (by kernel_rfl)) ?_
  intro W base args ds gs before hval0 hW hcnd hsz0 _
  have hval : ∀ (j : Nat) t v, Try.f3.params[j]? = some t → args[j]? = some v → Value.okWide Try.prog W .any base t v := hval0
  have hW' := hW
  obtain ⟨p, q, hA0, hV, rfl, hfz, hnd⟩ := hW
  have hA : DataW.TrodAll enc Try.prog W 0 (fun _ => true) true Try.f3.params.toList args.toList ds p := hA0
  rw [Try.params3] at hA hval
  obtain ⟨v0, vs0, d0, ds0, p0, q0, hargs, rfl, rfl, h0, r0⟩ := trodAll_cons hA
  obtain ⟨v1, vs1, d1, ds1, p1, q1, rfl, rfl, rfl, h1, r1⟩ := trodAll_cons r0
  obtain ⟨v2, vs2, d2, ds2, p2, q2, rfl, rfl, rfl, h2, r2⟩ := trodAll_cons r1
  obtain ⟨rfl, rfl, rfl⟩ := trodAll_nil r2
  obtain rfl : args = #[v0, v1, v2] := by cases args; simp_all
  obtain ⟨rfl, rfl⟩ := trodVars_none hV
  have k0 := h0
  have lt0 : ∀ x ∈ p0, x.block < W.heap.size := by obtain ⟨m, hm⟩ := k0; exact DataW.trod_lt m _ _ _ hm
  obtain ⟨cs0, rfl, _⟩ := okWide_struct Try.underlying25 (hval 0 25 v0 rfl rfl)
  obtain ⟨x0, w0, g0⟩ := (opEvent).arg h0
  have k1 := h1
  have lt1 : ∀ x ∈ p1, x.block < W.heap.size := by obtain ⟨m, hm⟩ := k1; exact DataW.trod_lt m _ _ _ hm
  obtain ⟨a1, rfl, _, _, w1⟩ := open_int Try.underlying3 (hval 1 3 v1 rfl rfl) h1
  have k2 := h2
  have lt2 : ∀ x ∈ p2, x.block < W.heap.size := by obtain ⟨m, hm⟩ := k2; exact DataW.trod_lt m _ _ _ hm
  obtain ⟨a2, rfl, _, _, w2⟩ := open_int Try.underlying3 (hval 2 3 v2 rfl rfl) h2
  clear hA0 hval0
  refine (eventParts_walk W cs0 x0 w0 g0 a1 w1 a2 w2).mono fun e W' ⟨he, bel⟩ => ?_
  subst he
  exact ⟨_, rfl, _, _, _, [], _, [], hW', trodAll_mk1 (shut_bool Try.underlying4 _), (trodAll_cons_mk (Below.trod laidOut_eq (by kernel_rfl) (of_decide_eq_true (by kernel_rfl)) k0 bel lt0) (trodAll_cons_mk (Below.trod laidOut_eq (by kernel_rfl) (of_decide_eq_true (by kernel_rfl)) k1 bel lt1) (trodAll_cons_mk (Below.trod laidOut_eq (by kernel_rfl) (of_decide_eq_true (by kernel_rfl)) k2 bel lt2) trodAll_mk0))), rfl, bel.frame _, fun h => by cases h⟩
theorem k10 : (Rows.eventPartsRow.inPlace == Try.prog.inPlace 3) = true := by kernel_rfl
theorem k11 : (Rows.eventPartsRow.unfollowed == Try.prog.unfollowed 3) = true := by kernel_rfl
theorem k12 : (Rows.eventPartsRow.recurses == Try.prog.recurses 3) = true := by kernel_rfl
theorem k13 : (Rows.eventPartsRow.named == Try.prog.varsNamed 3) = true := by kernel_rfl
theorem k23 : (Rows.eventPartsRow.plainKeys == Try.prog.plainKeys) = true := by kernel_rfl
theorem kfn : Try.pinned.checked.prog.funcNamed Rows.eventPartsRow.func = some 3 := by kernel_rfl
theorem closed : joinedFacts Try.prog 3 Try.f3 Rows.eventPartsSpec Rows.eventPartsRow = true :=
  joined_of (by kernel_rfl) laidOut_eq mapsRowed_eq (by kernel_rfl) (by kernel_rfl) rfl stops_eq rfl stopKnobs_eq k10 k11 k12 k13 (by kernel_rfl) (by kernel_rfl) (by kernel_rfl) (by kernel_rfl) (by kernel_rfl) (by kernel_rfl) (by kernel_rfl) (by kernel_rfl) (by kernel_rfl) k23 rfl heard_eq mayEnter_eq (by rw [lifts_eq]; rfl) (by rw [make_eq]; rfl) ⟨rfl, rfl⟩ (by kernel_rfl) (by kernel_rfl) (by kernel_rfl)
theorem over : Rows.eventPartsRow.holds Try.pinned (OpenSpec.ofChange Rows.eventPartsSpec) :=
  OpenClaim.holds_of_wide 3 Try.f3 rfl rfl rfl rfl rfl rfl rfl ⟨rfl, rfl, rfl, rfl, rfl⟩ rfl rfl rfl rfl rfl kfn Try.func3 closed
    (of_decide_eq_true (by kernel_rfl)) (by unfold Func.isWrapper; first | (rw [if_pos (by decide +kernel)]; kernel_rfl) | (rw [if_neg (by decide +kernel)]; exact ⟨rfl, rfl⟩))
    (fun os started H enc _ => lifted os started H enc)
theorem proved : Rows.EventPartsSaid := over
#print axioms proved
end Go.Proofs.Ytfoghahidofegaa.eventParts
