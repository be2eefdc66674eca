/- registrarref04.Has. registrarref06.clause. registrarref06.Match. GuardBatch: the law's walk. The closed facts that every row of this seat leans on, each proved for itself: the order's text is long, so it is read once as a list of signs. The row of the law GuardBatch, over its walk: for every input the call returns true and each argument reads afterwards as it read before. No conditions. -/
import Derived.Test.YtigejdnjdajbhaaGreatBundA
import Derived.Deep.RegionHeld3
import Derived.Deep.DeepFit
import Derived.Test.YtigejdnjdajbhaaGreatBundG
import Derived.Test.YtigejdnjdajbhaaGreatRows
import Derived.JoinedOf
import Derived.KernelRfl
import Derived.WalkKit
import Derived.ProofKit
import Derived.OpenShut
import Derived.ShutString
import Derived.ChangeOld
import Derived.Below
import Derived.SizedLaws
set_option linter.unusedVariables false
set_option linter.unusedSimpArgs false
namespace Go.Proofs.YtigejdnjdajbhaaGreat
open Go.RowKit

theorem hasS_take_no {s : ByteArray} {l : List ByteArray} (h : ∀ j (hj : j < l.length), l[j] ≠ s) : hasS s l = false := by
  rw [Bool.eq_false_iff]
  intro hh
  obtain ⟨j, hj, e⟩ := List.mem_iff_getElem.1 ((hasS_iff s l).1 hh)
  exact h j hj e
set_option maxHeartbeats 400000 in
theorem Has04_any {e : Event} {T F : Option Addr} {ct cf : Nat} {w : World} (h : Sl Kn.str (fun _ => True) w T ct e.tags) (s : ByteArray) :
    Calls Tryz.prog 104 #[vEvent e T ct F cf, .string s] w fun r w' => r = .returned (.bool (hasS s e.tags)) ∧ Below w.heap.size w w' := by
  have h1 := h.1
  have h2 := h.2.1
  unfold maxLen at h2
  unfold vEvent
  go_enter Tryz.func104, Tryz.ntmps104
  go_wp2
  have H1 := Lib.hid (h.alloc (.cells #[.string e.stream, .string e.type, .slice T e.tags.length ct, .slice F e.fields.length cf] 42))
  have hz := (Bx.new w 42 [.string e.stream, .string e.type, .slice T e.tags.length ct, .slice F e.fields.length cf]).cell 2
  have HB := Lib.hid (show Below w.heap.size w (w.alloc (.cells #[.string e.stream, .string e.type, .slice T e.tags.length ct, .slice F e.fields.length cf] 42)) from (Below.refl _ _).alloc (Nat.le_refl _) _)
  simp only [List.getElem?_cons_succ, List.getElem?_cons_zero] at hz
  clear h
  generalize w.alloc (.cells #[.string e.stream, .string e.type, .slice T e.tags.length ct, .slice F e.fields.length cf] 42) = X at *
  generalize w.heap.size = g at hz ⊢
  go_loopw [5] (fun i wr => ∃ k n : Nat, k ≤ e.tags.length ∧ i = .int .i64 k ∧ (∀ j (hj : j < e.tags.length), j < k → e.tags[j] ≠ s) ∧ wr = X.drewN n) (fun i _ => e.tags.length - (intOf i).toNat)
  case atStart => exact ⟨0, 0, Nat.zero_le _, rfl, fun j hj hk => by omega, rfl⟩
  case round =>
    obtain ⟨k, n, hk, rfl, hal, rfl⟩ := hrel
    have HAL := Lib.hid hal
    clear hal
    by_cases hlt : k < e.tags.length
    · obtain ⟨ad, rfl, hx⟩ := row_str_at H1.out.2.2 hlt
      generalize hxe : e.tags[k] = x at hx
      have HX := Lib.hid hxe
      clear hxe
      have b1 : (0 : Int) ≤ (k : Int) := Int.natCast_nonneg _
      have b2 : (k : Int) < (e.tags.length : Int) := by omega
      have hq := strEqL x s
      by_cases hxy : x = s
      · rw [decide_eq_true hxy] at hq
        have HXY := Lib.hid hxy
        clear hxy
        go_wp2
        go_ret
        refine ⟨?_, bthen HB.out (below_drewN (Below.refl _ _) _)⟩
        rw [(hasS_iff s e.tags).2 (by rw [← HXY.out, ← HX.out]; exact List.getElem_mem hlt)]
        rfl
      · rw [decide_eq_false hxy] at hq
        have HXY := Lib.hid hxy
        clear hxy
        go_wp2
        go_roundw
        case rel =>
          refine ⟨k + 1, _, by omega, by go_num, fun j hj hjk => ?_, rfl⟩
          rcases Nat.lt_or_ge j k with h | h
          · exact HAL.out j hj h
          · obtain rfl : j = k := by omega
            rw [HX.out]; exact HXY.out
        case measure => simp [intOf]; omega
    · go_wp2
      go_ret
      refine ⟨?_, bthen HB.out (below_drewN (Below.refl _ _) _)⟩
      rw [hasS_take_no (fun j hj => HAL.out j hj (by omega))]
      rfl
end Go.Proofs.YtigejdnjdajbhaaGreat
namespace Go.Proofs.YtigejdnjdajbhaaGreat
open Go.RowKit

theorem all_of {α : Type} {l : List α} {f : α → Bool} (h : ∀ j (hj : j < l.length), f l[j] = true) : l.all f = true := by
  rw [List.all_eq_true]
  intro x hx
  obtain ⟨j, hj, e⟩ := List.mem_iff_getElem.1 hx
  exact e ▸ h j hj
theorem all_no {α : Type} {l : List α} {f : α → Bool} {j : Nat} (hj : j < l.length) (h : f l[j] = false) : l.all f = false := by
  rw [Bool.eq_false_iff]
  intro hh
  rw [List.all_eq_true.1 hh _ (List.getElem_mem hj)] at h
  cases h
set_option maxHeartbeats 1000000 in
set_option maxRecDepth 4000 in
theorem clause06_any {c : Clause} {e : Event} {S U T F : Option Addr} {cs cu ct cf : Nat} {w : World} (hS : Sl Kn.str (fun _ => True) w S cs c.tags) (hU : Sl Kn.str (fun _ => True) w U cu c.types) (hT : Sl Kn.str (fun _ => True) w T ct e.tags) :
    Calls Tryz.prog 73 #[.agg #[.slice S c.tags.length cs, .slice U c.types.length cu], vEvent e T ct F cf] w fun r w' => r = .returned (.bool (clauseM e c)) ∧ Below w.heap.size w w' := by
  have hs1 := hS.1
  have hs2 := hS.2.1
  have hu1 := hU.1
  have hu2 := hU.2.1
  unfold maxLen at hs2 hu2
  unfold vEvent
  go_enter Tryz.func73, Tryz.ntmps73
  go_upto_region 2 with fail
  have ha : Below w.heap.size w (w.alloc (.cells #[.slice S c.tags.length cs, .slice U c.types.length cu] 122)) := (Below.refl _ _).alloc (Nat.le_refl _) _
  have hbx1 := (Bx.new w 122 [.slice S c.tags.length cs, .slice U c.types.length cu]).alloc (.cells #[.string e.stream, .string e.type, .slice T e.tags.length ct, .slice F e.fields.length cf] 42)
  have hbx2 := Bx.new (w.alloc (.cells #[.slice S c.tags.length cs, .slice U c.types.length cu] 122)) 42 [.string e.stream, .string e.type, .slice T e.tags.length ct, .slice F e.fields.length cf]
  rw [show (w.alloc (.cells #[.slice S c.tags.length cs, .slice U c.types.length cu] 122)).heap.size = w.heap.size + 1 by simp] at hbx2
  have HBW := Lib.hid (show Below w.heap.size w ((w.alloc (.cells #[.slice S c.tags.length cs, .slice U c.types.length cu] 122)).alloc (.cells #[.string e.stream, .string e.type, .slice T e.tags.length ct, .slice F e.fields.length cf] 42)) from ha.alloc (by simp) _)
  have HS := Lib.hid (hS.below HBW.out)
  have HU := Lib.hid (hU.below HBW.out)
  have HT := Lib.hid (hT.below HBW.out)
  have HX1 := Lib.hid hbx1
  have HX2 := Lib.hid hbx2
  clear hS hU hT ha hbx1 hbx2
  generalize (w.alloc (.cells #[.slice S c.tags.length cs, .slice U c.types.length cu] 122)).alloc (.cells #[.string e.stream, .string e.type, .slice T e.tags.length ct, .slice F e.fields.length cf] 42) = X at *
  generalize w.heap.size = g at HX1 HX2 ⊢
  have HK := Lib.hid (fun W (hb : Below X.heap.size X W) => show Below X.heap.size X W ∧ W.cell? ⟨g, 0, none⟩ = some (.slice S c.tags.length cs) ∧ W.cell? ⟨g, 1, none⟩ = some (.slice U c.types.length cu) ∧ W.cell? ⟨g + 1, 0, none⟩ = some (.string e.stream) ∧ W.cell? ⟨g + 1, 1, none⟩ = some (.string e.type) ∧ W.cell? ⟨g + 1, 2, none⟩ = some (.slice T e.tags.length ct) ∧ W.cell? ⟨g + 1, 3, none⟩ = some (.slice F e.fields.length cf) from
    ⟨hb, (HX1.out.under hb).cell 0, (HX1.out.under hb).cell 1, (HX2.out.under hb).cell 0, (HX2.out.under hb).cell 1, (HX2.out.under hb).cell 2, (HX2.out.under hb).cell 3⟩)
  have CH : Hid (∀ W (R : Prop) (x : ByteArray), Below X.heap.size X W ∧ R → Calls Tryz.prog 104 #[.agg #[.string e.stream, .string e.type, .slice T e.tags.length ct, .slice F e.fields.length cf], .string x] W fun r w' => r = .returned (.bool (hasS x e.tags)) ∧ Below W.heap.size W w') :=
    Lib.hid (fun W R x h => Has04_any (HT.out.below h.1) x)
  clear HX1 HX2
  go_loopw [5] (fun i wr => ∃ k : Nat, k ≤ c.tags.length ∧ i = .int .i64 k ∧ (∀ j (hj : j < c.tags.length), j < k → hasS c.tags[j] e.tags = true) ∧ Below X.heap.size X wr) (fun i _ => c.tags.length - (intOf i).toNat)
  case atStart => exact ⟨0, Nat.zero_le _, rfl, fun j hj hk => by omega, Below.refl _ _⟩
  case round =>
    obtain ⟨k, hk, rfl, hal, hb⟩ := hrel
    have HAL := Lib.hid hal
    have HB := Lib.hid hb
    obtain ⟨_, z0, z1, z2, z3, z4, z5⟩ := HK.out wr hb
    clear hal hb
    by_cases hlt : k < c.tags.length
    · obtain ⟨ad, rfl, hx⟩ := row_str_at HS.out.2.2 hlt
      have hxl : ad.block < X.heap.size := by have := World.block_lt_of_cell? X _ hx; rwa [block_add] at this
      generalize hxe : c.tags[k] = x at hx
      have HX := Lib.hid hxe
      have HKx := Lib.hid (fun W (hb : Below X.heap.size X W) => show Below X.heap.size X W ∧ W.cell? ⟨g, 0, none⟩ = some (.slice (some ad) c.tags.length cs) ∧ W.cell? ⟨g + 1, 0, none⟩ = some (.string e.stream) ∧ W.cell? ⟨g + 1, 1, none⟩ = some (.string e.type) ∧ W.cell? ⟨g + 1, 2, none⟩ = some (.slice T e.tags.length ct) ∧ W.cell? ⟨g + 1, 3, none⟩ = some (.slice F e.fields.length cf) ∧ W.cell? (ad.add k) = some (.string x) from by
        obtain ⟨a, a0, a1, a2, a3, a4, a5⟩ := HK.out W hb
        exact ⟨a, a0, a2, a3, a4, a5, (hb.cell (by rw [block_add]; exact hxl)).trans hx⟩)
      have CX := Lib.hid (fun W R h => CH.out W R x h)
      clear hxe hx
      have b1 : (0 : Int) ≤ (k : Int) := Int.natCast_nonneg _
      have b2 : (k : Int) < (c.tags.length : Int) := by omega
      generalize hhe : hasS x e.tags = hh at CX
      have HH := Lib.hid hhe
      clear hhe
      go_upto_region 4 with fail
      clear z0 z1 z2 z3 z4 z5
      rcases hh with _ | _
      all_goals go_region_held3 (fun W => Below X.heap.size X W ∧ W.cell? ⟨g, 0, none⟩ = some (.slice (some ad) c.tags.length cs) ∧ W.cell? ⟨g + 1, 0, none⟩ = some (.string e.stream) ∧ W.cell? ⟨g + 1, 1, none⟩ = some (.string e.type) ∧ W.cell? ⟨g + 1, 2, none⟩ = some (.slice T e.tags.length ct) ∧ W.cell? ⟨g + 1, 3, none⟩ = some (.slice F e.fields.length cf) ∧ W.cell? (ad.add k) = some (.string x)) (first | exact HKx.out _ (below_drawn HB.out) | (assumption) | exact HKx.out _ (bthen (And.left (by assumption : Below X.heap.size X _ ∧ _)) (by assumption))) (first | (go_at_call 104; go_fit (CX.out _ _ (by assumption)); rintro r w6 ⟨rfl, hb6⟩))
      · have HB6 := Lib.hid (bthen (below_drawn HB.out) hb6)
        clear hb6
        go_wp2
        go_ret
        refine ⟨?_, bthen HBW.out HB6.out⟩
        have : c.tags.all (fun s => hasS s e.tags) = false := all_no hlt (by rw [HX.out]; exact HH.out)
        unfold clauseM
        rw [this]
        rfl
      · have HB6 := Lib.hid (bthen (below_drawn HB.out) hb6)
        clear hb6
        go_wp2
        go_roundw
        case rel =>
          refine ⟨k + 1, by omega, by go_num, fun j hj hjk => ?_, HB6.out⟩
          rcases Nat.lt_or_ge j k with h | h
          · exact HAL.out j hj h
          · obtain rfl : j = k := by omega
            rw [HX.out]; exact HH.out
        case measure => simp [intOf]; omega
    · have HALL := Lib.hid (show c.tags.all (fun s => hasS s e.tags) = true from all_of (fun j hj => HAL.out j hj (by omega)))
      have HU' := Lib.hid (HU.out.below HB.out)
      clear CH HK
      go_wp2
      go_loopw [7] (fun i wq => ∃ k n : Nat, k ≤ c.types.length ∧ i = .int .i64 k ∧ (∀ j (hj : j < c.types.length), j < k → c.types[j] ≠ e.type) ∧ wq = wr.drewN n) (fun i _ => c.types.length - (intOf i).toNat)
      case atStart => exact ⟨0, 0, Nat.zero_le _, rfl, fun j hj hk => by omega, rfl⟩
      case round =>
        obtain ⟨k2, n, hk2, rfl, hal, rfl⟩ := hrel
        have HAL2 := Lib.hid hal
        clear hal
        by_cases hlt2 : k2 < c.types.length
        · obtain ⟨ad, rfl, hx⟩ := row_str_at HU'.out.2.2 hlt2
          generalize hxe : c.types[k2] = x at hx
          have HX := Lib.hid hxe
          clear hxe
          have b1 : (0 : Int) ≤ (k2 : Int) := Int.natCast_nonneg _
          have b2 : (k2 : Int) < (c.types.length : Int) := by omega
          have hq := strEqL x e.type
          by_cases hxy : x = e.type
          · rw [decide_eq_true hxy] at hq
            have HXY := Lib.hid hxy
            clear hxy
            go_wp2
            go_quiet (fail)
            go_wp2
            go_ret
            refine ⟨?_, bthen (bthen HBW.out HB.out) (below_drewN (below_drewN (Below.refl _ _) _) _)⟩
            have : hasS e.type c.types = true := (hasS_iff _ _).2 (by rw [← HXY.out, ← HX.out]; exact List.getElem_mem hlt2)
            unfold clauseM
            rw [this, HALL.out]
            simp
          · rw [decide_eq_false hxy] at hq
            have HXY := Lib.hid hxy
            clear hxy
            go_wp2
            go_quiet (fail)
            go_wp2
            go_roundw
            case rel =>
              refine ⟨k2 + 1, _, by omega, by go_num, fun j hj hjk => ?_, rfl⟩
              rcases Nat.lt_or_ge j k2 with h | h
              · exact HAL2.out j hj h
              · obtain rfl : j = k2 := by omega
                rw [HX.out]; exact HXY.out
            case measure => simp [intOf]; omega
        · go_wp2
          go_ret
          refine ⟨?_, bthen (bthen HBW.out HB.out) (below_drewN (Below.refl _ _) _)⟩
          have hno : hasS e.type c.types = false := hasS_take_no (fun j hj => HAL2.out j hj (by omega))
          unfold clauseM
          rw [hno, HALL.out]
          cases c.types with
          | nil => simp
          | cons y ys => simp; omega
end Go.Proofs.YtigejdnjdajbhaaGreat
namespace Go.Proofs.YtigejdnjdajbhaaGreat
open Go.RowKit

theorem any_no {α : Type} {l : List α} {f : α → Bool} (h : ∀ j (hj : j < l.length), f l[j] = false) : l.any f = false := by
  rw [Bool.eq_false_iff]
  intro hh
  obtain ⟨x, hx, e⟩ := List.any_eq_true.1 hh
  obtain ⟨j, hj, e2⟩ := List.mem_iff_getElem.1 hx
  rw [← e2, h j hj] at e
  cases e
set_option maxHeartbeats 1000000 in
set_option maxRecDepth 4000 in
theorem Match06_any {q : List Clause} {e : Event} {Q T F : Option Addr} {cq ct cf : Nat} {w : World} (hQ : SlC w Q cq q) (hT : Sl Kn.str (fun _ => True) w T ct e.tags) :
    Calls Tryz.prog 27 #[.agg #[.slice Q q.length cq], vEvent e T ct F cf] w fun r w' => r = .returned (.bool (matchM q e)) ∧ Below w.heap.size w w' := by
  have hs1 := hQ.1
  have hs2 := hQ.2.1
  unfold maxLen at hs2
  unfold vEvent
  go_enter Tryz.func27, Tryz.ntmps27
  go_upto_region 2 with fail
  have ha : Below w.heap.size w (w.alloc (.cells #[.slice Q q.length cq] 25)) := (Below.refl _ _).alloc (Nat.le_refl _) _
  have hbx1 := (Bx.new w 25 [.slice Q q.length cq]).alloc (.cells #[.string e.stream, .string e.type, .slice T e.tags.length ct, .slice F e.fields.length cf] 42)
  have hbx2 := Bx.new (w.alloc (.cells #[.slice Q q.length cq] 25)) 42 [.string e.stream, .string e.type, .slice T e.tags.length ct, .slice F e.fields.length cf]
  rw [show (w.alloc (.cells #[.slice Q q.length cq] 25)).heap.size = w.heap.size + 1 by simp] at hbx2
  have HBW := Lib.hid (show Below w.heap.size w ((w.alloc (.cells #[.slice Q q.length cq] 25)).alloc (.cells #[.string e.stream, .string e.type, .slice T e.tags.length ct, .slice F e.fields.length cf] 42)) from ha.alloc (by simp) _)
  have HQ := Lib.hid (hQ.below HBW.out)
  have HT := Lib.hid (hT.below HBW.out)
  have HX1 := Lib.hid hbx1
  have HX2 := Lib.hid hbx2
  clear hQ hT ha hbx1 hbx2
  generalize (w.alloc (.cells #[.slice Q q.length cq] 25)).alloc (.cells #[.string e.stream, .string e.type, .slice T e.tags.length ct, .slice F e.fields.length cf] 42) = X at *
  generalize w.heap.size = g at HX1 HX2 ⊢
  have HK := Lib.hid (fun W (hb : Below X.heap.size X W) => show Below X.heap.size X W ∧ W.cell? ⟨g, 0, none⟩ = some (.slice Q q.length cq) ∧ W.cell? ⟨g + 1, 0, none⟩ = some (.string e.stream) ∧ W.cell? ⟨g + 1, 1, none⟩ = some (.string e.type) ∧ W.cell? ⟨g + 1, 2, none⟩ = some (.slice T e.tags.length ct) ∧ W.cell? ⟨g + 1, 3, none⟩ = some (.slice F e.fields.length cf) from
    ⟨hb, (HX1.out.under hb).cell 0, (HX2.out.under hb).cell 0, (HX2.out.under hb).cell 1, (HX2.out.under hb).cell 2, (HX2.out.under hb).cell 3⟩)
  clear HX1 HX2
  go_loopw [5] (fun i wr => ∃ k : Nat, k ≤ q.length ∧ i = .int .i64 k ∧ (∀ j (hj : j < q.length), j < k → clauseM e q[j] = false) ∧ Below X.heap.size X wr) (fun i _ => q.length - (intOf i).toNat)
  case atStart => exact ⟨0, Nat.zero_le _, rfl, fun j hj hk => by omega, Below.refl _ _⟩
  case round =>
    obtain ⟨k, hk, rfl, hal, hb⟩ := hrel
    have HAL := Lib.hid hal
    have HB := Lib.hid hb
    obtain ⟨_, z0, z1, z2, z3, z4⟩ := HK.out wr hb
    clear hal hb
    by_cases hlt : k < q.length
    · obtain ⟨ad, S, sa, U, ua, rfl, hx, hy, hS, hU⟩ := row_clause_at HQ.out.2.2 hlt
      have hxl : ad.block < X.heap.size := by have := World.block_lt_of_cell? X _ hx; rwa [block_add] at this
      generalize hxe : q[k] = x at hx hy hS hU
      have HX := Lib.hid hxe
      have HKx := Lib.hid (fun W (hb : Below X.heap.size X W) => show Below X.heap.size X W ∧ W.cell? ⟨g, 0, none⟩ = some (.slice (some ad) q.length cq) ∧ W.cell? ⟨g + 1, 0, none⟩ = some (.string e.stream) ∧ W.cell? ⟨g + 1, 1, none⟩ = some (.string e.type) ∧ W.cell? ⟨g + 1, 2, none⟩ = some (.slice T e.tags.length ct) ∧ W.cell? ⟨g + 1, 3, none⟩ = some (.slice F e.fields.length cf) ∧ W.cell? (ad.add (k * 2)) = some (.slice S x.tags.length sa) ∧ W.cell? ⟨(ad.add (k * 2)).block, (ad.add (k * 2)).off + 1, none⟩ = some (.slice U x.types.length ua) from by
        obtain ⟨a, a0, a2, a3, a4, a5⟩ := HK.out W hb
        exact ⟨a, a0, a2, a3, a4, a5, (hb.cell (by rw [block_add]; exact hxl)).trans hx, (hb.cell (by simp only; rw [block_add]; exact hxl)).trans hy⟩)
      have CX : Hid (∀ W (R : Prop), Below X.heap.size X W ∧ R → Calls Tryz.prog 73 #[.agg #[.slice S x.tags.length sa, .slice U x.types.length ua], .agg #[.string e.stream, .string e.type, .slice T e.tags.length ct, .slice F e.fields.length cf]] W fun r w' => r = .returned (.bool (clauseM e x)) ∧ Below W.heap.size W w') :=
        Lib.hid (fun W R h => clause06_any (hS.any.below h.1) (hU.any.below h.1) (HT.out.below h.1))
      clear hxe hx hy hS hU
      have b1 : (0 : Int) ≤ (k : Int) := Int.natCast_nonneg _
      have b2 : (k : Int) < (q.length : Int) := by omega
      generalize hhe : clauseM e x = hh at CX
      have HH := Lib.hid hhe
      clear hhe
      go_upto_region 4 with fail
      clear z0 z1 z2 z3 z4
      rcases hh with _ | _
      all_goals go_region_held3 (fun W => Below X.heap.size X W ∧ W.cell? ⟨g, 0, none⟩ = some (.slice (some ad) q.length cq) ∧ W.cell? ⟨g + 1, 0, none⟩ = some (.string e.stream) ∧ W.cell? ⟨g + 1, 1, none⟩ = some (.string e.type) ∧ W.cell? ⟨g + 1, 2, none⟩ = some (.slice T e.tags.length ct) ∧ W.cell? ⟨g + 1, 3, none⟩ = some (.slice F e.fields.length cf) ∧ W.cell? (ad.add (k * 2)) = some (.slice S x.tags.length sa) ∧ W.cell? ⟨(ad.add (k * 2)).block, (ad.add (k * 2)).off + 1, none⟩ = some (.slice U x.types.length ua)) (first | exact HKx.out _ (below_drawn HB.out) | (assumption) | exact HKx.out _ (bthen (And.left (by assumption : Below X.heap.size X _ ∧ _)) (by assumption))) (first | (go_at_call 73; go_fit (CX.out _ _ (by assumption)); rintro r w6 ⟨rfl, hb6⟩))
      · have HB6 := Lib.hid (bthen (below_drawn HB.out) hb6)
        clear hb6
        go_wp2
        go_roundw
        case rel =>
          refine ⟨k + 1, by omega, by go_num, fun j hj hjk => ?_, HB6.out⟩
          rcases Nat.lt_or_ge j k with h | h
          · exact HAL.out j hj h
          · obtain rfl : j = k := by omega
            rw [HX.out]; exact HH.out
        case measure => simp [intOf]; omega
      · have HB6 := Lib.hid (bthen (below_drawn HB.out) hb6)
        clear hb6
        go_wp2
        go_ret
        refine ⟨?_, bthen HBW.out HB6.out⟩
        have : matchM q e = true := List.any_eq_true.2 ⟨_, List.getElem_mem hlt, by rw [HX.out]; exact HH.out⟩
        rw [this]
        rfl
    · go_wp2
      go_ret
      refine ⟨?_, bthen HBW.out HB.out⟩
      have : matchM q e = false := any_no (fun j hj => HAL.out j hj (by omega))
      rw [this]
      rfl
end Go.Proofs.YtigejdnjdajbhaaGreat

namespace Go.Proofs.YtigejdnjdajbhaaGreat
open Go.RowKit Go.Maps

abbrev Grd : Type := ByteArray × Int × List Clause × Bool
abbrev kGuard : Kn Grd := Kn.pair Kn.str (Kn.pair (Kn.int .i64) (Kn.pair kQuery Kn.bool))
abbrev goodGuard (g : Grd) : Prop := gS g.1 ∧ gN g.2.1 ∧ (∀ c ∈ g.2.2.1, goodClause c) ∧ True
theorem opGuard : Opens Tryz.prog 51 kGuard goodGuard :=
  Opens.struct (d := kGuard) (good := goodGuard) Tryz.underlying51 (by kernel_rfl)
    (OpensFs.cons (good := gS) (good' := fun (y : Int × List Clause × Bool) => gN y.1 ∧ (∀ c ∈ y.2.1, goodClause c) ∧ True) (d := Kn.str) opStr (by kernel_rfl)
      (OpensFs.cons (good := gN) (good' := fun (y : List Clause × Bool) => (∀ c ∈ y.1, goodClause c) ∧ True) (d := Kn.int .i64) opInt (by kernel_rfl)
        (OpensFs.cons (good := fun y : List Clause => ∀ c ∈ y, goodClause c) (good' := fun _ : Bool => True) (d := kQuery) opQuery (by kernel_rfl) (OpensFs.last (Opens.bool Tryz.underlying4) (by kernel_rfl)))))
theorem guard_in {w : World} {g : Grd} {c : Array Value} (h : kGuard.K (fun _ => True) w g c.toList) : ∃ Q cq, c = #[.string g.1, .int .i64 g.2.1, .slice Q g.2.2.1.length cq, .bool g.2.2.2] ∧ Sl kClause (fun k => k < w.heap.size) w Q cq g.2.2.1 := by
  obtain ⟨c0, c1, h0, h1, c2, c3, h2, h3, c4, c5, h4, h5, h6⟩ := h
  obtain ⟨Q, cq, h7, h8, h9, h10⟩ := h5
  have e0 : c0 = [.string g.1] := h1
  have e2 : c2 = [.int .i64 g.2.1] := h3
  have e5 : c5 = [.bool g.2.2.2] := h6
  have hs : Sl kClause (fun _ => True) w Q cq g.2.2.1 := ⟨h8, h9, h10⟩
  refine ⟨Q, cq, ?_, hs.bound.mono (fun _ h => h.2)⟩
  subst e0 e2 e5 h7 h4 h2
  cases c
  simpa using h0
theorem event_in18 {w : World} {e : Event} {c1 : Array Value} (he : kEvent.K (fun _ => True) w e c1.toList) : ∃ A ca B cb, c1 = #[.string e.stream, .string e.type, .slice A e.tags.length ca, .slice B e.fields.length cb] ∧
    Sl Kn.str (fun k => k < w.heap.size) w A ca e.tags ∧ Sl kField (fun k => k < w.heap.size) w B cb e.fields := by
  obtain ⟨A, ca, B, cb, h0, h1, h2⟩ := kEvent_out he
  exact ⟨A, ca, B, cb, (by cases c1; simpa using h0), h1.bound.mono (fun _ h => h.2), h2.bound.mono (fun _ h => h.2)⟩
theorem cntS_snoc (es : List Event) (v : Event) (s : ByteArray) : cntS (es ++ [v]) s = cntS es s + (if v.stream = s then 1 else 0) := by
  unfold cntS
  rw [List.filter_append, List.length_append]
  by_cases h : v.stream = s <;> simp [h]
theorem since_snoc (es : List Event) (q : List Clause) (v : Event) (a : Int) : sinceR (es ++ [v]) q a = (sinceR es q a || (matchM q v && decide (a < (es.length : Int) + 1))) := by
  unfold sinceR
  rw [recsOf_snoc, List.any_append]
  simp
/-- What Holds tells. -/
def holdsG (es : List Event) (s : ByteArray) (ver : Int) (q : List Clause) (ask : Bool) : Bool := if ask then !sinceR es q ver else decide ((verR es s es.length : Int) = ver)
theorem holds_free {es : List Event} {s : ByteArray} {ver : Int} {q : List Clause} {v : Event} (b : Bool) (hb : decide (v.stream = s) = b) : (b = false → holdsG (es ++ [v]) s ver q false = holdsG es s ver q false) ∧ (b = true → ¬ (holdsG es s ver q false = true ∧ holdsG (es ++ [v]) s ver q false = true)) := by
  unfold holdsG
  simp only [Bool.false_eq_true, if_false]
  rw [verR_all es s (Int.le_refl _), verR_all (es ++ [v]) s (Int.le_refl _), cntS_snoc]
  constructor
  · intro h
    have : ¬ v.stream = s := by rw [← hb] at h; simpa using h
    rw [if_neg this]; rfl
  · intro h
    have : v.stream = s := by rw [← hb] at h; simpa using h
    rw [if_pos this, decide_eq_true_eq, decide_eq_true_eq]
    omega
theorem holds_asked {es : List Event} {s : ByteArray} {ver : Int} {q : List Clause} {v : Event} (b : Bool) (hb : (matchM q v && decide (ver ≤ (es.length : Int))) = b) : (b = true → holdsG (es ++ [v]) s ver q true = false) ∧ (b = false → holdsG (es ++ [v]) s ver q true = holdsG es s ver q true) := by
  unfold holdsG
  simp only [if_true]
  rw [since_snoc, show decide (ver < (es.length : Int) + 1) = decide (ver ≤ (es.length : Int)) from decide_eq_decide.2 (by omega), hb]
  constructor
  · intro h; rw [h]; simp
  · intro h; rw [h]; simp
set_option maxHeartbeats 8000000 in
set_option maxRecDepth 100000 in
theorem guardBatch_walk (w : World) (A : Option Addr) (c : Nat) (l : List Event) (h : Sl kEvent (fun _ => True) w A c l) (hg : ∀ x ∈ l, goodEvent x) (c1 : Array Value) (g : Grd) (hgk : kGuard.K (fun _ => True) w g c1.toList) (gg : goodGuard g) (c2 : Array Value) (v : Event) (hv : kEvent.K (fun _ => True) w v c2.toList) (gv : goodEvent v) :
    Calls Tryz.prog 4 #[.slice A l.length c, .agg c1, .agg c2] w fun r w' => r = .returned (.bool true) ∧ Below w.heap.size w w' := by
  have HL0 := Lib.hid (show Sl kEvent (fun k => k < w.heap.size) w A c l from h.bound.mono (fun _ h => h.2))
  have HG := Lib.hid (ev_in hg)
  have HV := Lib.hid (ev_in (l := [v]) (fun x hx => by rw [List.mem_singleton.1 hx]; exact gv) v List.mem_cons_self)
  obtain ⟨Q, cq, rfl, hQ⟩ := guard_in hgk
  obtain ⟨T, ct, F, cf, rfl, hT, hF⟩ := event_in18 hv
  obtain ⟨s, ver, q, ask⟩ := g
  have HS := Lib.hid (show s.size ≤ maxLen from gg.1)
  have HQ := Lib.hid hQ
  have HT := Lib.hid hT
  have HF := Lib.hid hF
  have HGQ := Lib.hid (show ∀ x ∈ q.take 8, goodClause x from fun x hx => gg.2.2.1 x (List.mem_of_mem_take hx))
  obtain ⟨W1, hW1⟩ : ∃ W1, W1 = (w.alloc (.cells #[.string s, .int .i64 ver, .slice Q q.length cq, .bool ask] 51)).alloc (.cells #[.string v.stream, .string v.type, .slice T v.tags.length ct, .slice F v.fields.length cf] 42) := ⟨_, rfl⟩
  have HW1 := Lib.hid hW1
  have hbA : Below w.heap.size w (w.alloc (.cells #[.string s, .int .i64 ver, .slice Q q.length cq, .bool ask] 51)) := (Below.refl _ _).alloc (Nat.le_refl _) _
  have hb1 : Below w.heap.size w W1 := by rw [hW1]; exact hbA.alloc (by simp) _
  have hx1 : Bx W1 w.heap.size 51 [.string s, .int .i64 ver, .slice Q q.length cq, .bool ask] := by
    rw [hW1]
    exact (Bx.new w _ _).alloc _
  have hx2 : Bx W1 (w.heap.size + 1) 42 [.string v.stream, .string v.type, .slice T v.tags.length ct, .slice F v.fields.length cf] := by
    rw [hW1]
    simpa using Bx.new (w.alloc (.cells #[.string s, .int .i64 ver, .slice Q q.length cq, .bool ask] 51)) 42 [.string v.stream, .string v.type, .slice T v.tags.length ct, .slice F v.fields.length cf]
  have HB1 := Lib.hid hb1
  have HX1 := Lib.hid hx1
  have HX2 := Lib.hid hx2
  have C1 := Lib.hid (shown18_any W1)
  clear h hg hgk gg hv gv hQ hT hF hbA hb1 hx1 hx2
  go_enter Tryz.func4, Tryz.ntmps4
  go_upto_region 1 with fail
  rw [← HW1.out]
  clear hW1 HW1
  go_upto_region 3 with (first
    | (go_at_call 23; go_fit C3.out; rintro r w3 ⟨B, y, rfl, h3⟩; have H3 := Lib.hid h3; clear h3)
    | (go_at_call 22; go_fit C1.out; rintro r w1 ⟨rfl, hb1⟩; have HB2 := Lib.hid hb1; have C3 := Lib.hid (filled_any (w := w1) ((HL0.out.below (bthen HB1.out HB2.out)).mono (fun j hj => Nat.lt_of_lt_of_le hj (bthen HB1.out HB2.out).size)) HG.out); clear hb1))
  go_upto_region 5 with fail
  clear C1 C3
  obtain ⟨es, hes⟩ : ∃ es, filE l = es := ⟨_, rfl⟩
  have H3 := Lib.hid (show Fi w1 w3 B y es by rw [← hes]; exact H3.out)
  have hel : es.length ≤ 30 := by rw [← hes]; exact filter_len30 l 30
  clear hes
  have HB3 := Lib.hid (bthen HB2.out H3.out.bel)
  obtain ⟨m, hm⟩ : ∃ m, (q.take 8).length = m := ⟨_, rfl⟩
  have CF := Lib.hid (show Calls Tryz.prog 24 #[.agg #[.string s, .int .i64 ver, .slice Q q.length cq, .bool ask]] w3 fun r w' => r = .returned (.agg #[.string s, .int .i64 ver, .slice Q m cq, .bool ask]) ∧ Below w3.heap.size w3 w' from by
    rw [← hm]; exact few18_any (w := w3) s ver ((HQ.out.any.below (bthen HB1.out HB3.out))) ask)
  have HM := Lib.hid hm
  clear hm
  have hx1 := HX1.out.under HB3.out
  have k0 := hx1.cell 0
  have k1 := hx1.cell 1
  have k2 := hx1.cell 2
  have k3 := hx1.cell 3
  simp only [List.getElem?_cons_succ, List.getElem?_cons_zero] at k0 k1 k2 k3
  clear hx1
  go_upto_region 6 with (go_at_call 24; go_fit CF.out; rintro r w4 ⟨rfl, hb4⟩; have HB4 := Lib.hid hb4; have hx4 := HX1.out.under (bthen HB3.out hb4); have l0 := hx4.cell 0; have l1 := hx4.cell 1; have l2 := hx4.cell 2; have l3 := hx4.cell 3; simp only [List.getElem?_cons_succ, List.getElem?_cons_zero] at l0 l1 l2 l3; have f0 := hx4.free 0; have f1 := hx4.free 1; have f2 := hx4.free 2; have f3 := hx4.free 3; clear hb4)
  clear l0 l1 l2 l3 f0 f1 f2 f3 k0 k1 k2 k3 CF
  obtain ⟨X6, hX6⟩ : ∃ X6, X6 = (((w4.setCell ⟨w.heap.size, 0, none⟩ (.string s)).setCell ⟨w.heap.size, 1, none⟩ (.int .i64 ver)).setCell ⟨w.heap.size, 2, none⟩ (.slice Q m cq)).setCell ⟨w.heap.size, 3, none⟩ (.bool ask) := ⟨_, rfl⟩
  rw [← hX6]
  have hset : ∀ (W : World) (n : Nat) (u : Value), But (fun k => k = w.heap.size) W (W.setCell ⟨w.heap.size, n, none⟩ u) := fun W n u => But.setCell (S := fun k => k = w.heap.size) W (p := ⟨w.heap.size, n, none⟩) rfl _
  have hbut : But (fun k => k = w.heap.size) w4 X6 := by rw [hX6]; exact (((hset _ _ _).trans (hset _ _ _)).trans (hset _ _ _)).trans (hset _ _ _)
  have hx1 : Bx X6 w.heap.size 51 [.string s, .int .i64 ver, .slice Q m cq, .bool ask] := by rw [hX6]; exact ((((HX1.out.under (bthen HB3.out HB4.out)).set 0 _).set 1 _).set 2 _).set 3 _
  have hx2 := (HX2.out.under (bthen HB3.out HB4.out)).stay (fun hk => hbut.block _ hk (by omega))
  have hw1 : w.heap.size + 1 < w1.heap.size := by have := HX2.out.lt; have := HB2.out.size; omega
  have hix : Ix X6 B es (fun k => k < w1.heap.size ∨ k = y) := (H3.out.ix.below HB4.out).far (hbut.mono (fun k hk => .inl (by omega)))
  obtain ⟨A4, c4, hrx⟩ := H3.out.rx
  have hyw := H3.out.yl
  have hyB := hrx.xy
  have hy : Bx X6 y 34 [.slice A4 es.length c4] := by
    have := (hrx.bx.under HB4.out).stay (w' := X6) (fun hk => hbut.block _ hk (by omega))
    rw [recsOf_len] at this
    exact this
  have hbW : Below w.heap.size w w4 := bthen HB1.out (bthen HB3.out HB4.out)
  have hq6 : SlC X6 Q cq (q.take 8) := by
    have h1 := ((HQ.out.below hbW).stay hbut.size (fun k hk hl => hbut.block k hl (by omega))).any
    exact ⟨by have := h1.1; rw [List.length_take]; omega, h1.2.1, h1.2.2.take 8⟩
  have hqs6 := (HQ.out.below hbW).stay hbut.size (fun k hk hl => hbut.block k hl (by omega))
  have ht6 := (HT.out.below hbW).stay hbut.size (fun k hk hl => hbut.block k hl (by omega))
  have hf6 := (HF.out.below hbW).stay hbut.size (fun k hk hl => hbut.block k hl (by omega))
  have HBT := Lib.hid (show Below w.heap.size w X6 by rw [hX6]; exact (((hbW.setCell (Nat.le_refl _) _).setCell (Nat.le_refl _) _).setCell (Nat.le_refl _) _).setCell (Nat.le_refl _) _)
  have HIX := Lib.hid hix
  have HY := Lib.hid hy
  have HX1 := Lib.hid hx1
  have HX2 := Lib.hid hx2
  have HQ6 := Lib.hid hq6
  have HQS := Lib.hid hqs6
  have HT6 := Lib.hid ht6
  have HF6 := Lib.hid hf6
  have HLO := Lib.hid H3.out.lo
  have k0 := hx2.cell 0
  have k1 := hx2.cell 1
  have k2 := hx2.cell 2
  have k3 := hx2.cell 3
  simp only [List.getElem?_cons_succ, List.getElem?_cons_zero] at k0 k1 k2 k3
  obtain ⟨e, he⟩ : ∃ e, mayE v = e := ⟨_, rfl⟩
  have CM := Lib.hid (show Calls Tryz.prog 25 #[vEvent v T ct F cf] X6 fun r w' => r = .returned (.int .i64 e) ∧ Below X6.heap.size X6 w' from by rw [← he]; exact refMayE_any ht6.any hf6.any HV.out.1)
  unfold vEvent at CM
  have HE := Lib.hid he
  clear hqs6 hX6 hset hbut hx1 hx2 hix hrx hy hq6 ht6 hf6 he hbW HL0 HG
  by_cases he0 : e = 0
  rotate_left
  · have d0 : (e != 0) = true := by simp [he0]
    clear he0
    go_wp2_with (go_at_call 25; go_fit CM.out; rintro r w7 ⟨rfl, hb7⟩; have HB7 := Lib.hid hb7; clear hb7)
    go_ret
    exact ⟨rfl, bthen HBT.out HB7.out⟩
  subst he0
  go_upto_region 8 with (go_at_call 25; go_fit CM.out; rintro r w7 ⟨rfl, hb7⟩; have HB7 := Lib.hid hb7; clear hb7)
  clear k0 k1 k2 k3 CM
  have HIN := Lib.hid (HV.out.2 HE.out)
  obtain ⟨was, hwas⟩ : ∃ was, holdsG es s ver (q.take 8) ask = was := ⟨_, rfl⟩
  obtain ⟨now, hnow⟩ : ∃ now, holdsG (es ++ [v]) s ver (q.take 8) ask = now := ⟨_, rfl⟩
  have D1 := Lib.hid (show Calls Tryz.prog 26 #[.pointer (some ⟨B.b, 0, none⟩), .agg #[.string s, .int .i64 ver, .slice Q m cq, .bool ask]] w7 fun r w' => r = .returned (.bool was) ∧ Below w7.heap.size w7 w' from by
    have := holds_any (HIX.out.below HB7.out) HS.out (HQ6.out.below HB7.out) HGQ.out ver ask
    rw [HM.out] at this
    rw [← hwas]
    exact this)
  have k0 := (HX1.out.under HB7.out).cell 0
  have k1 := (HX1.out.under HB7.out).cell 1
  have k2 := (HX1.out.under HB7.out).cell 2
  have k3 := (HX1.out.under HB7.out).cell 3
  simp only [List.getElem?_cons_succ, List.getElem?_cons_zero] at k0 k1 k2 k3
  go_upto_region 9 with (go_at_call 26; go_fit D1.out; rintro r w8 ⟨rfl, hb8⟩; have HB8 := Lib.hid (bthen HB7.out hb8); clear hb8)
  clear k0 k1 k2 k3 D1
  have HK := Lib.hid (fun W (hb : Below w8.heap.size w8 W) => show W.cell? ⟨y, 0, none⟩ = some (.slice A4 es.length c4) ∧ W.cell? ⟨w.heap.size + 1, 0, none⟩ = some (.string v.stream) ∧ W.cell? ⟨w.heap.size + 1, 1, none⟩ = some (.string v.type) ∧ W.cell? ⟨w.heap.size + 1, 2, none⟩ = some (.slice T v.tags.length ct) ∧ W.cell? ⟨w.heap.size + 1, 3, none⟩ = some (.slice F v.fields.length cf) from
    ⟨(HY.out.under (bthen HB8.out hb)).cell 0, (HX2.out.under (bthen HB8.out hb)).cell 0, (HX2.out.under (bthen HB8.out hb)).cell 1, (HX2.out.under (bthen HB8.out hb)).cell 2, (HX2.out.under (bthen HB8.out hb)).cell 3⟩)
  have CA := Lib.hid (fun W (hb : Below w8.heap.size w8 W) (E : Nat) (hE : Sl kEvent (fun j => j < w.heap.size ∨ w8.heap.size ≤ j) W (some ⟨E, 0, none⟩) 1 [v]) => show Calls Tryz.prog 16 #[.pointer (some ⟨B.b, 0, none⟩), .agg #[.int .i64 es.length, .slice (some ⟨E, 0, none⟩) 1 1]] W fun r w' => (∃ u, r = .returned u) ∧ Ix w' B (es ++ [v]) (fun j => j < w1.heap.size ∨ j = y) ∧ But B.has w8 w' from by
    have hI := HIX.out.below (bthen HB8.out hb)
    refine (iAdd_any (bs := [v]) (after := es.length) hI (hE.mono (fun j hj hB => hj.elim (fun h => by have := HLO.out j hB; omega) (fun h => by have := (HIX.out.below HB8.out).lt j hB; omega))) (fun x hx => by rw [List.mem_singleton.1 hx]; exact HIN.out) (by simp; omega)).mono ?_
    rintro r w' ⟨A', c', e1, _, h1, h2⟩
    rw [addTo1 HE.out hel] at h1
    exact ⟨⟨_, e1⟩, h1, (But.of_below hb).trans h2⟩)
  have HEV := Lib.hid (show Sl kEvent (fun j => j < w.heap.size ∨ w8.heap.size ≤ j) (w8.alloc (.cells #[.string v.stream, .string v.type, .slice T v.tags.length ct, .slice F v.fields.length cf] 42)) (some ⟨w8.heap.size, 0, none⟩) 1 [v] from
    Sl.one (d := kEvent) (ok := fun j => j < w.heap.size) (w := w8) (y := v) (cs := [.string v.stream, .string v.type, .slice T v.tags.length ct, .slice F v.fields.length cf]) 42 (kEvent_mk (HT6.out.below HB8.out) (HF6.out.below HB8.out)) w8.heap.size rfl)
  have HEL := Lib.hid hel
  have HYB := Lib.hid hyB
  have HXS := Lib.hid (fun W (hb : But B.has w8 W) => show Bx W (w.heap.size + 1) 42 [.string v.stream, .string v.type, .slice T v.tags.length ct, .slice F v.fields.length cf] from (HX2.out.under HB8.out).stay (fun hk => hb.block _ hk (fun hB => by have := HLO.out _ hB; omega)))
  go_cut [43, 76] (fun _ x wx => x = undef ∧ Ix wx B (es ++ [v]) (fun j => j < w1.heap.size ∨ j = y) ∧ But B.has w8 wx)
  case first =>
    go_region_held3 (fun W => W.cell? ⟨y, 0, none⟩ = some (.slice A4 es.length c4) ∧ W.cell? ⟨w.heap.size + 1, 0, none⟩ = some (.string v.stream) ∧ W.cell? ⟨w.heap.size + 1, 1, none⟩ = some (.string v.type) ∧ W.cell? ⟨w.heap.size + 1, 2, none⟩ = some (.slice T v.tags.length ct) ∧ W.cell? ⟨w.heap.size + 1, 3, none⟩ = some (.slice F v.fields.length cf)) (first | exact HK.out _ (below_drawn (Below.refl _ _)) | exact HK.out _ (below_made (below_drawn (Below.refl _ _)) (Nat.le_refl _) _) | exact HK.out _ (below_drawn (below_made (Below.refl _ _) (Nat.le_refl _) _)) | exact HS9.out | (assumption))
      (first | (go_at_call 16; go_fit (CA.out _ (below_drawn (below_made (Below.refl _ _) (Nat.le_refl _) _)) _ (HEV.out.below (below_drawn (Below.refl _ _)))); rintro r w9 ⟨⟨u9, rfl⟩, h9, hb9⟩; have HI9 := Lib.hid h9; have HB9 := Lib.hid hb9; have HS9 := Lib.hid (show w9.cell? ⟨y, 0, none⟩ = some (.slice A4 es.length c4) ∧ w9.cell? ⟨w.heap.size + 1, 0, none⟩ = some (.string v.stream) ∧ w9.cell? ⟨w.heap.size + 1, 1, none⟩ = some (.string v.type) ∧ w9.cell? ⟨w.heap.size + 1, 2, none⟩ = some (.slice T v.tags.length ct) ∧ w9.cell? ⟨w.heap.size + 1, 3, none⟩ = some (.slice F v.fields.length cf) from ⟨((HY.out.under HB8.out).stay (fun hk => hb9.block _ hk HYB.out)).cell 0, (HXS.out w9 hb9).cell 0, (HXS.out w9 hb9).cell 1, (HXS.out w9 hb9).cell 2, (HXS.out w9 hb9).cell 3⟩); clear h9 hb9))
    all_goals go_wp2_with fail
    all_goals go_meet
    all_goals exact ⟨rfl, HI9.out, HB9.out⟩
  case rest =>
    obtain ⟨rfl, hi9, hb9⟩ := hcut
    have HI9 := Lib.hid hi9
    have hx1 := (HX1.out.under HB8.out).stay (w' := wc) (fun hk => hb9.block _ hk (fun hB => by have := HLO.out _ hB; omega))
    have HX1' := Lib.hid hx1
    have HX2' := Lib.hid (HXS.out wc hb9)
    have HY' := Lib.hid ((HY.out.under HB8.out).stay (w' := wc) (fun hk => hb9.block _ hk hyB))
    have hqS : Sl kClause (fun k => k < w.heap.size) wc Q cq q := (HQS.out.below HB8.out).stay hb9.size (fun j hj hl => hb9.block j hl (fun hB => by have := HLO.out j hB; omega))
    have hq9 : SlC wc Q cq (q.take 8) := ⟨by have := hqS.1; rw [List.length_take]; omega, hqS.2.1, hqS.any.2.2.take 8⟩
    have hT9 := ((HT6.out.below HB8.out).stay hb9.size (fun j hj hl => hb9.block j hl (fun hB => by have := HLO.out j hB; omega))).any
    have HBW := Lib.hid (hb9.below (bthen HBT.out HB8.out) (bthen HBT.out HB8.out).size (fun j hj => by have := HLO.out j hj; omega))
    have D2 := Lib.hid (show Calls Tryz.prog 26 #[.pointer (some ⟨B.b, 0, none⟩), .agg #[.string s, .int .i64 ver, .slice Q m cq, .bool ask]] wc fun r w' => r = .returned (.bool now) ∧ Below wc.heap.size wc w' from by
      have := holds_any hi9 HS.out hq9 HGQ.out ver ask
      rw [HM.out] at this
      rw [← hnow]
      exact this)
    have HQ9 := Lib.hid hq9
    have HT9 := Lib.hid hT9
    have k0 := hx1.cell 0
    have k1 := hx1.cell 1
    have k2 := hx1.cell 2
    have k3 := hx1.cell 3
    simp only [List.getElem?_cons_succ, List.getElem?_cons_zero] at k0 k1 k2 k3
    clear hx1 hb9 hi9 hqS hq9 hT9 CA HK HXS HEV HYB
    go_upto_region 11 with (go_at_call 26; go_fit D2.out; rintro r w10 ⟨rfl, hb10⟩; have HB10 := Lib.hid hb10; clear hb10)
    clear k0 k1 k2 k3 D2
    have HBW := Lib.hid (bthen HBW.out HB10.out)
    have k3 := (HX1'.out.under HB10.out).cell 3
    simp only [List.getElem?_cons_succ, List.getElem?_cons_zero] at k3
    cases ask with
    | false =>
      obtain ⟨b, hb⟩ : ∃ b, decide (v.stream = s) = b := ⟨_, rfl⟩
      have hq := strEqL v.stream s
      obtain ⟨hf1, hf2⟩ := holds_free (es := es) (s := s) (ver := ver) (q := q.take 8) (v := v) b hb
      rw [hb] at hq
      rw [hwas, hnow] at hf1 hf2
      have k0 := (HX1'.out.under HB10.out).cell 0
      have j0 := (HX2'.out.under HB10.out).cell 0
      simp only [List.getElem?_cons_zero] at k0 j0
      clear hwas hnow hb
      rcases b with _ | _ <;> rcases was with _ | _ <;> rcases now with _ | _
      all_goals first
        | (exfalso; exact absurd (hf1 rfl) (by decide))
        | (exfalso; exact hf2 rfl ⟨rfl, rfl⟩)
        | (clear hf1 hf2; go_wp2_with fail; go_ret; exact ⟨rfl, HBW.out⟩)
    | true =>
      obtain ⟨mm, hmm⟩ : ∃ mm, matchM (q.take 8) v = mm := ⟨_, rfl⟩
      obtain ⟨b, hb⟩ : ∃ b, (mm && decide (ver ≤ (es.length : Int))) = b := ⟨_, rfl⟩
      obtain ⟨hf1, hf2⟩ := holds_asked (es := es) (s := s) (ver := ver) (q := q.take 8) (v := v) b (by rw [hmm]; exact hb)
      rw [hwas, hnow] at hf2
      rw [hnow] at hf1
      have DM := Lib.hid (fun W (R : Prop) (hW : Below w10.heap.size w10 W ∧ R) => show Calls Tryz.prog 27 #[.agg #[.slice Q m cq], .agg #[.string v.stream, .string v.type, .slice T v.tags.length ct, .slice F v.fields.length cf]] W fun r w' => r = .returned (.bool mm) ∧ Below W.heap.size W w' from by
        have := Match06_any (e := v) (F := F) (cf := cf) (HQ9.out.below (bthen HB10.out hW.1)) (HT9.out.below (bthen HB10.out hW.1))
        rw [HM.out, hmm] at this
        exact this)
      have HK := Lib.hid (fun W (hb : Below w10.heap.size w10 W) => show Below w10.heap.size w10 W ∧ W.cell? ⟨w.heap.size, 1, none⟩ = some (.int .i64 ver) ∧ W.cell? ⟨w.heap.size, 2, none⟩ = some (.slice Q m cq) ∧ W.cell? ⟨y, 0, none⟩ = some (.slice A4 es.length c4) ∧ W.cell? ⟨w.heap.size + 1, 0, none⟩ = some (.string v.stream) ∧ W.cell? ⟨w.heap.size + 1, 1, none⟩ = some (.string v.type) ∧ W.cell? ⟨w.heap.size + 1, 2, none⟩ = some (.slice T v.tags.length ct) ∧ W.cell? ⟨w.heap.size + 1, 3, none⟩ = some (.slice F v.fields.length cf) from
        ⟨hb, (HX1'.out.under (bthen HB10.out hb)).cell 1, (HX1'.out.under (bthen HB10.out hb)).cell 2, (HY'.out.under (bthen HB10.out hb)).cell 0, (HX2'.out.under (bthen HB10.out hb)).cell 0, (HX2'.out.under (bthen HB10.out hb)).cell 1, (HX2'.out.under (bthen HB10.out hb)).cell 2, (HX2'.out.under (bthen HB10.out hb)).cell 3⟩)
      have HBQ := Lib.hid hb
      have HF1 := Lib.hid hf1
      have HF2 := Lib.hid hf2
      clear hwas hnow hmm hb hf1 hf2
      go_upto_region 14 with fail
      clear k3
      generalize es.length = n at *
      go_cut [13, 76] (fun x _ wx => x = .bool b ∧ Below w10.heap.size w10 wx)
      case first =>
        rcases mm with _ | _
        · have hb : b = false := by rw [← HBQ.out]; rfl
          subst hb
          refine wp_region_held_drew (S := (fun W => Below w10.heap.size w10 W ∧ W.cell? ⟨w.heap.size, 1, none⟩ = some (.int .i64 ver) ∧ W.cell? ⟨w.heap.size, 2, none⟩ = some (.slice Q m cq) ∧ W.cell? ⟨y, 0, none⟩ = some (.slice A4 n c4) ∧ W.cell? ⟨w.heap.size + 1, 0, none⟩ = some (.string v.stream) ∧ W.cell? ⟨w.heap.size + 1, 1, none⟩ = some (.string v.type) ∧ W.cell? ⟨w.heap.size + 1, 2, none⟩ = some (.slice T v.tags.length ct) ∧ W.cell? ⟨w.heap.size + 1, 3, none⟩ = some (.slice F v.fields.length cf))) (by kernel_rfl) (HK.out _ (below_drawn (Below.refl _ _))) (fun hHeld => ?_)
          refine wpAnyH_take (i := 0) (oi := { dst := some 72, op := Op.fieldAddr 51 (Operand.tmp 4) 2, type := 0, pos := "more.go:29", after := #[], guard := none }) (v := ?_) rfl (by kernel_rfl) (by kernel_rfl) (by kernel_rfl) (fun _ _ _ h => h) (Or.inl ⟨by rfl, ?_⟩) (by assumption) ?_
          rotate_left
          · (intro W hSw; (try dsimp only at hSw); go_simp) <;> with_reducible rfl
          try simp only [Act.put, List.setIfInBounds_toArray, List.set_cons_zero, List.set_cons_succ]
          refine wpAnyH_take (i := 1) (oi := { dst := some 73, op := Op.load 25 (Operand.tmp 72), type := 25, pos := "more.go:29", after := #[{ on := 0, ground := Ground.data }], guard := none }) (v := ?_) rfl (by kernel_rfl) (by kernel_rfl) (by kernel_rfl) (fun _ _ _ h => h) (Or.inl ⟨by rfl, ?_⟩) (by assumption) ?_
          rotate_left
          · (intro W hSw; (try dsimp only at hSw); go_simp) <;> with_reducible rfl
          try simp only [Act.put, List.setIfInBounds_toArray, List.set_cons_zero, List.set_cons_succ]
          refine wpAnyH_take (i := 2) (oi := { dst := some 74, op := Op.load 42 (Operand.tmp 5), type := 42, pos := "more.go:29", after := #[], guard := none }) (v := ?_) rfl (by kernel_rfl) (by kernel_rfl) (by kernel_rfl) (fun _ _ _ h => h) (Or.inl ⟨by rfl, ?_⟩) (by assumption) ?_
          rotate_left
          · (intro W hSw; (try dsimp only at hSw); go_simp) <;> with_reducible rfl
          try simp only [Act.put, List.setIfInBounds_toArray, List.set_cons_zero, List.set_cons_succ]
          refine wpAnyH_ready (rs := [3]) (by kernel_rfl) (by simp) ?_
          refine AllReadyH.cons (o := { dst := some 75, op := Op.call { callee := Callee.value (Operand.func 27), args := #[Operand.tmp 73, Operand.tmp 74], argTypes := #[25, 42] }, type := 4, pos := "more.go:29", after := #[{ on := 1, ground := Ground.data }, { on := 2, ground := Ground.data }], guard := none }) rfl (fun K hK => ?_) AllReadyH.nil
          go_simp
          go_at_call 27
          go_fit (DM.out _ _ (by assumption))
          rintro r w11 ⟨rfl, hb11⟩
          have HB11 := Lib.hid (bthen (below_drawn (Below.refl _ _)) hb11)
          clear hb11
          go_wp2_with fail
          refine hK.out _ _ (HK.out _ HB11.out) (fun hHeld2 => ?_)
          clear hK K
          try simp only [Act.put, List.setIfInBounds_toArray, List.set_cons_zero, List.set_cons_succ]
          refine wpAnyH_take (i := 4) (oi := { dst := some 76, op := Op.move (Operand.tmp 75), type := 4, pos := "more.go:29", after := #[{ on := 3, ground := Ground.data }, { on := 3, ground := Ground.chain }], guard := none }) (v := ?_) rfl (by kernel_rfl) (by kernel_rfl) (by kernel_rfl) (fun _ _ _ h => h) (Or.inl ⟨by rfl, ?_⟩) (by assumption) ?_
          rotate_left
          · (intro W hSw; (try dsimp only at hSw); go_simp) <;> with_reducible rfl
          try simp only [Act.put, List.setIfInBounds_toArray, List.set_cons_zero, List.set_cons_succ]
          refine wpAnyH_take (i := 5) (oi := { dst := some 77, op := Op.fieldAddr 51 (Operand.tmp 4) 1, type := 0, pos := "more.go:29", after := #[{ on := 4, ground := Ground.guard }], guard := some (4, true) }) (v := undef) rfl (by kernel_rfl) (by kernel_rfl) (by kernel_rfl) (fun _ _ _ h => h) (Or.inr ⟨by rfl, rfl⟩) (by assumption) ?_
          try simp only [Act.put, List.setIfInBounds_toArray, List.set_cons_zero, List.set_cons_succ]
          refine wpAnyH_take (i := 6) (oi := { dst := some 78, op := Op.load 3 (Operand.tmp 77), type := 3, pos := "more.go:29", after := #[{ on := 5, ground := Ground.data }, { on := 4, ground := Ground.guard }], guard := some (4, true) }) (v := undef) rfl (by kernel_rfl) (by kernel_rfl) (by kernel_rfl) (fun _ _ _ h => h) (Or.inr ⟨by rfl, rfl⟩) (by assumption) ?_
          try simp only [Act.put, List.setIfInBounds_toArray, List.set_cons_zero, List.set_cons_succ]
          refine wpAnyH_take (i := 7) (oi := { dst := some 79, op := Op.move (Operand.tmp 9), type := 31, pos := "more.go:29", after := #[{ on := 4, ground := Ground.guard }], guard := some (4, true) }) (v := undef) rfl (by kernel_rfl) (by kernel_rfl) (by kernel_rfl) (fun _ _ _ h => h) (Or.inr ⟨by rfl, rfl⟩) (by assumption) ?_
          try simp only [Act.put, List.setIfInBounds_toArray, List.set_cons_zero, List.set_cons_succ]
          refine wpAnyH_take (i := 8) (oi := { dst := some 80, op := Op.nilCheck (Operand.tmp 79), type := 0, pos := "more.go:29", after := #[{ on := 7, ground := Ground.data }, { on := 4, ground := Ground.guard }], guard := some (4, true) }) (v := undef) rfl (by kernel_rfl) (by kernel_rfl) (by kernel_rfl) (fun _ _ _ h => h) (Or.inr ⟨by rfl, rfl⟩) (by assumption) ?_
          try simp only [Act.put, List.setIfInBounds_toArray, List.set_cons_zero, List.set_cons_succ]
          refine wpAnyH_take (i := 9) (oi := { dst := some 81, op := Op.fieldAddr 34 (Operand.tmp 80) 0, type := 0, pos := "more.go:29", after := #[{ on := 8, ground := Ground.data }, { on := 4, ground := Ground.guard }], guard := some (4, true) }) (v := undef) rfl (by kernel_rfl) (by kernel_rfl) (by kernel_rfl) (fun _ _ _ h => h) (Or.inr ⟨by rfl, rfl⟩) (by assumption) ?_
          try simp only [Act.put, List.setIfInBounds_toArray, List.set_cons_zero, List.set_cons_succ]
          refine wpAnyH_take (i := 10) (oi := { dst := some 82, op := Op.load 32 (Operand.tmp 81), type := 32, pos := "more.go:29", after := #[{ on := 9, ground := Ground.data }, { on := 4, ground := Ground.guard }], guard := some (4, true) }) (v := undef) rfl (by kernel_rfl) (by kernel_rfl) (by kernel_rfl) (fun _ _ _ h => h) (Or.inr ⟨by rfl, rfl⟩) (by assumption) ?_
          try simp only [Act.put, List.setIfInBounds_toArray, List.set_cons_zero, List.set_cons_succ]
          refine wpAnyH_take (i := 11) (oi := { dst := some 83, op := Op.call { callee := Callee.builtin Builtin.len, args := #[Operand.tmp 82], argTypes := #[32] }, type := 3, pos := "more.go:29", after := #[{ on := 10, ground := Ground.data }, { on := 4, ground := Ground.guard }], guard := some (4, true) }) (v := undef) rfl (by kernel_rfl) (by kernel_rfl) (by kernel_rfl) (fun _ _ _ h => h) (Or.inr ⟨by rfl, rfl⟩) (by assumption) ?_
          try simp only [Act.put, List.setIfInBounds_toArray, List.set_cons_zero, List.set_cons_succ]
          refine wpAnyH_take (i := 12) (oi := { dst := some 84, op := Op.binOp BinOp.leq 3 (Operand.tmp 78) (Operand.tmp 83) 3, type := 4, pos := "more.go:29", after := #[{ on := 6, ground := Ground.data }, { on := 11, ground := Ground.data }, { on := 4, ground := Ground.guard }], guard := some (4, true) }) (v := undef) rfl (by kernel_rfl) (by kernel_rfl) (by kernel_rfl) (fun _ _ _ h => h) (Or.inr ⟨by rfl, rfl⟩) (by assumption) ?_
          try simp only [Act.put, List.setIfInBounds_toArray, List.set_cons_zero, List.set_cons_succ]
          refine wpAnyH_take (i := 13) (oi := { dst := some 85, op := Op.pick (Operand.tmp 76) (Operand.tmp 84) (Operand.const (Value.bool false)), type := 4, pos := "more.go:29", after := #[{ on := 4, ground := Ground.data }, { on := 12, ground := Ground.data }], guard := none }) (v := ?_) rfl (by kernel_rfl) (by kernel_rfl) (by kernel_rfl) (fun _ _ _ h => h) (Or.inl ⟨by rfl, ?_⟩) (by assumption) ?_
          rotate_left
          · (intro W hSw; (try dsimp only at hSw); go_simp) <;> with_reducible rfl
          try simp only [Act.put, List.setIfInBounds_toArray, List.set_cons_zero, List.set_cons_succ]
          refine wpAnyH_take (i := 14) (oi := { dst := some 13, op := Op.assign (Operand.tmp 85), type := 4, pos := "more.go:29", after := #[{ on := 13, ground := Ground.data }, { on := 4, ground := Ground.chain }, { on := 0, ground := Ground.phase }, { on := 1, ground := Ground.phase }, { on := 2, ground := Ground.phase }, { on := 3, ground := Ground.phase }, { on := 4, ground := Ground.phase }, { on := 5, ground := Ground.phase }, { on := 6, ground := Ground.phase }, { on := 7, ground := Ground.phase }, { on := 8, ground := Ground.phase }, { on := 9, ground := Ground.phase }, { on := 10, ground := Ground.phase }, { on := 11, ground := Ground.phase }, { on := 12, ground := Ground.phase }, { on := 13, ground := Ground.phase }], guard := none }) (v := ?_) rfl (by kernel_rfl) (by kernel_rfl) (by kernel_rfl) (fun _ _ _ h => h) (Or.inl ⟨by rfl, ?_⟩) (by assumption) ?_
          rotate_left
          · (intro W hSw; (try dsimp only at hSw); go_simp) <;> with_reducible rfl
          try simp only [Act.put, List.setIfInBounds_toArray, List.set_cons_zero, List.set_cons_succ]
          refine wpAnyH_done (by kernel_rfl) ?_ _
          go_wp2_with fail
          go_meet
          exact ⟨rfl, HB11.out⟩
        · by_cases hvn : ver ≤ (n : Int)
          · have hb : b = true := by rw [← HBQ.out, decide_eq_true hvn]; rfl
            subst hb
            go_region_held3 (fun W => Below w10.heap.size w10 W ∧ W.cell? ⟨w.heap.size, 1, none⟩ = some (.int .i64 ver) ∧ W.cell? ⟨w.heap.size, 2, none⟩ = some (.slice Q m cq) ∧ W.cell? ⟨y, 0, none⟩ = some (.slice A4 n c4) ∧ W.cell? ⟨w.heap.size + 1, 0, none⟩ = some (.string v.stream) ∧ W.cell? ⟨w.heap.size + 1, 1, none⟩ = some (.string v.type) ∧ W.cell? ⟨w.heap.size + 1, 2, none⟩ = some (.slice T v.tags.length ct) ∧ W.cell? ⟨w.heap.size + 1, 3, none⟩ = some (.slice F v.fields.length cf))
              (first | exact HK.out _ (below_drawn (Below.refl _ _)) | exact HK.out _ HB11.out | (assumption))
              (first | (go_at_call 27; go_fit (DM.out _ _ (by assumption)); rintro r w11 ⟨rfl, hb11⟩; have HB11 := Lib.hid (bthen (below_drawn (Below.refl _ _)) hb11); clear hb11))
            all_goals go_wp2_with fail
            all_goals go_meet
            all_goals exact ⟨rfl, HB11.out⟩
          · have hb : b = false := by rw [← HBQ.out, decide_eq_false hvn]; rfl
            subst hb
            go_region_held3 (fun W => Below w10.heap.size w10 W ∧ W.cell? ⟨w.heap.size, 1, none⟩ = some (.int .i64 ver) ∧ W.cell? ⟨w.heap.size, 2, none⟩ = some (.slice Q m cq) ∧ W.cell? ⟨y, 0, none⟩ = some (.slice A4 n c4) ∧ W.cell? ⟨w.heap.size + 1, 0, none⟩ = some (.string v.stream) ∧ W.cell? ⟨w.heap.size + 1, 1, none⟩ = some (.string v.type) ∧ W.cell? ⟨w.heap.size + 1, 2, none⟩ = some (.slice T v.tags.length ct) ∧ W.cell? ⟨w.heap.size + 1, 3, none⟩ = some (.slice F v.fields.length cf))
              (first | exact HK.out _ (below_drawn (Below.refl _ _)) | exact HK.out _ HB11.out | (assumption))
              (first | (go_at_call 27; go_fit (DM.out _ _ (by assumption)); rintro r w11 ⟨rfl, hb11⟩; have HB11 := Lib.hid (bthen (below_drawn (Below.refl _ _)) hb11); clear hb11))
            all_goals go_wp2_with fail
            all_goals go_meet
            all_goals exact ⟨congrArg Value.bool (decide_eq_false (by omega)), HB11.out⟩
      case rest =>
        obtain ⟨rfl, hbc⟩ := hcut
        have HBE := Lib.hid (bthen HBW.out hbc)
        clear hbc
        rcases b with _ | _ <;> rcases was with _ | _ <;> rcases now with _ | _
        all_goals first
          | (exfalso; exact absurd (HF1.out rfl) (by decide))
          | (exfalso; exact absurd (HF2.out rfl) (by decide))
          | (go_wp2_with fail; go_ret; exact ⟨rfl, HBE.out⟩)
end Go.Proofs.YtigejdnjdajbhaaGreat

namespace Go.Proofs.YtigejdnjdajbhaaGreat

set_option maxRecDepth 100000 in
def ordN : List Nat := [104, 97, 114, 110, 101, 115, 115, 32, 48, 98, 56, 53, 55, 52, 49, 49, 99, 98, 49, 50, 57, 97, 97, 98, 100, 54, 57, 99, 51, 102, 52, 99, 53, 54, 54, 51, 100, 56, 99, 100, 102, 54, 102, 97, 57, 99, 97, 50, 52, 48, 56, 97, 98, 53, 100, 52, 99, 100, 52, 102, 57, 97, 50, 50, 53, 99, 100, 57, 51, 49, 56, 57, 32, 99, 117, 116, 32, 97, 116, 32, 114, 101, 103, 105, 115, 116, 114, 97, 114, 47, 114, 101, 103, 105, 115, 116, 114, 97, 114, 108, 97, 119, 49, 52, 46, 73, 110, 100, 101, 120, 80, 108, 97, 121, 115, 32, 114, 101, 103, 105, 115, 116, 114, 97, 114, 47, 114, 101, 103, 105, 115, 116, 114, 97, 114, 108, 97, 119, 49, 56, 46, 71, 117, 97, 114, 100, 66, 97, 116, 99, 104, 32, 114, 101, 103, 105, 115, 116, 114, 97, 114, 47, 114, 101, 103, 105, 115, 116, 114, 97, 114, 108, 97, 119, 49, 56, 46, 71, 117, 97, 114, 100, 82, 101, 97, 100, 32, 114, 101, 103, 105, 115, 116, 114, 97, 114, 47, 114, 101, 103, 105, 115, 116, 114, 97, 114, 108, 97, 119, 49, 56, 46, 71, 117, 97, 114, 100, 76, 105, 115, 116, 115, 32, 114, 101, 103, 105, 115, 116, 114, 97, 114, 47, 114, 101, 103, 105, 115, 116, 114, 97, 114, 108, 97, 119, 49, 57, 46, 83, 101, 115, 115, 105, 111, 110, 77, 97, 110, 121, 32, 114, 101, 103, 105, 115, 116, 114, 97, 114, 47, 114, 101, 103, 105, 115, 116, 114, 97, 114, 108, 97, 119, 49, 57, 46, 83, 101, 115, 115, 105, 111, 110, 70, 114, 101, 101, 32, 114, 101, 103, 105, 115, 116, 114, 97, 114, 47, 114, 101, 103, 105, 115, 116, 114, 97, 114, 108, 97, 119, 49, 57, 46, 83, 101, 115, 115, 105, 111, 110, 83, 101, 101, 115, 32, 114, 101, 103, 105, 115, 116, 114, 97, 114, 47, 114, 101, 103, 105, 115, 116, 114, 97, 114, 108, 97, 119, 49, 57, 46, 83, 101, 115, 115, 105, 111, 110, 65, 116, 32, 114, 101, 103, 105, 115, 116, 114, 97, 114, 47, 114, 101, 103, 105, 115, 116, 114, 97, 114, 108, 97, 119, 49, 57, 46, 83, 101, 115, 115, 105, 111, 110, 82, 101, 102, 117, 115, 101, 115, 32, 114, 101, 103, 105, 115, 116, 114, 97, 114, 47, 114, 101, 103, 105, 115, 116, 114, 97, 114, 108, 97, 119, 49, 57, 46, 83, 101, 115, 115, 105, 111, 110, 80, 108, 97, 121, 115]
def ordL : List Char := ordN.map Char.ofNat
theorem order_eq : Tryz.prog.initOrder = String.ofList ordL := by kernel_rfl
theorem signs_eq : Tryz.prog.initOrder.toList = ordL := by rw [order_eq, String.toList_ofList]
def ordRest : List (List Char) := (behindMainWord (wordsSigns ordL)).tail
theorem words_eq : behindMainWord (wordsSigns ordL) = "cut".toList :: ordRest := by kernel_rfl
theorem strip_cut (r : List (List Char)) : stripLifts liftWords ("cut".toList :: r) = ([], "cut".toList :: r) := by kernel_rfl
theorem mayEnter_of (P : Program) (rest : List (List Char)) (h : behindMainWord (wordsSigns P.initOrder.toList) = "cut".toList :: rest) (h1 : P.laysLater = false) (h2 : P.bearsReflect = false) (h3 : P.doorFits [] = true) : P.mayEnter = true := by
  unfold Program.mayEnter
  rw [h]
  dsimp only
  rw [strip_cut, h1, h2, h3]
  simp
theorem lifts_of (P : Program) (rest : List (List Char)) (h : behindMainWord (wordsSigns P.initOrder.toList) = "cut".toList :: rest) : P.liftsFinal = false := by
  unfold Program.liftsFinal Program.headLifts
  rw [h, strip_cut]
  simp
theorem make_of (P : Program) (rest : List (List Char)) (h : behindMainWord (wordsSigns P.initOrder.toList) = "cut".toList :: rest) : P.make = some .cut := by
  unfold Program.make
  rw [h]
  dsimp only
  rw [if_neg (by decide), if_pos (by simp)]
theorem door_of (P : Program) (h : P.doorRows = []) : P.doorFits [] = true := by
  unfold Program.doorFits
  rw [h]
  simp
theorem head_eq : behindMainWord (wordsSigns Tryz.prog.initOrder.toList) = "cut".toList :: ordRest := by rw [signs_eq]; exact words_eq
theorem h_later : Tryz.prog.laysLater = false := by kernel_rfl
theorem h_refl : Tryz.prog.bearsReflect = false := by kernel_rfl
theorem h_rows : Tryz.prog.doorRows = [] := by kernel_rfl
theorem mayEnter_eq : Tryz.prog.mayEnter = true := mayEnter_of _ _ head_eq h_later h_refl (door_of _ h_rows)
theorem lifts_eq : Tryz.prog.liftsFinal = false := lifts_of _ _ head_eq
theorem make_eq : Tryz.prog.make = some .cut := make_of _ _ head_eq
theorem laidOut_eq : laidOutB Tryz.prog = true := by kernel_rfl
theorem mapsRowed_eq : mapsRowed Tryz.prog = true := by kernel_rfl
theorem stops_eq : (Tryz.prog.stops == []) = true := by kernel_rfl
theorem stopKnobs_eq : (Tryz.prog.stopKnobs == []) = true := by kernel_rfl
theorem heard_eq : Tryz.prog.stopsHeard = true := by kernel_rfl
theorem own_eq : ownKnob Tryz.prog.godebug = none := by kernel_rfl

/-- The rows' one great closed fact, out of its parts. -/
theorem joined_of {P : Program} {f : FuncId} {fn : Func} {s : ChangeSpec} {c : OpenClaim}
    (k1 : c.wf (OpenSpec.ofChange s) = true) (k2 : laidOutB P = true) (k3 : mapsRowed P = true) (k4 : fn.params.all (P.readableRec ·) = true) (k5 : namedTie P c.named s.vars = true)
    (k6 : (c.stops == []) = true) (k7 : (P.stops == []) = true) (k8 : (c.knobs == []) = true) (k9 : (P.stopKnobs == []) = true)
    (k10 : (c.inPlace == P.inPlace f) = true) (k11 : (c.unfollowed == P.unfollowed f) = true) (k12 : (c.recurses == P.recurses f) = true) (k13 : (c.named == P.varsNamed f) = true)
    (k14 : (c.maps == (fn.params.toList ++ s.plain.varTypes P).any (P.mapsRec ·)) = true) (k15 : (c.ifaces == (fn.params.toList ++ s.plain.varTypes P).any (P.ifacesRec ·)) = true) (k16 : (c.mapsOut == P.mapsAmong fn.resultTypes.toList) = true)
    (k17 : (c.loops == (fn.params.toList ++ s.plain.varTypes P).any (P.loopsFrom ·)) = true) (k18 : (c.wideKeys == (fn.params.toList ++ s.plain.varTypes P ++ fn.resultTypes.toList).any (P.wideKeysFrom ·)) = true)
    (k19 : s.vars.all (P.varReadable ·) = true) (k20 : fn.resultTypes.all (fun t => P.readableRec t && decide (t < P.types.size)) = true) (k21 : (c.ifacesOut == fn.resultTypes.toList.any (P.ifacesRec ·)) = true) (k22 : (c.loopsOut == fn.resultTypes.toList.any (P.loopsFrom ·)) = true)
    (k23 : (c.plainKeys == P.plainKeys) = true) (k24 : c.shortTexts.isNone = true) (k25 : P.stopsHeard = true) (k26 : P.mayEnter = true) (k27 : (c.lifted == P.liftsFinal) = true) (k28 : (P.make == some c.make) = true)
    (k29 : c.kinds = [] ∧ c.domain = []) (k30 : (c.pinned == c.pinnedBy) = true)
    (k31 : (c.veiled == (fn.params.toList ++ s.plain.varTypes P ++ fn.resultTypes.toList).any (P.veiledRec ·)) = true) (k32 : c.veiledFits P fn.params.toList (fn.params.toList ++ s.plain.varTypes P ++ fn.resultTypes.toList) = true) :
    joinedFacts P f fn s c = true := by
  unfold joinedFacts
  rw [k1, k2, k3, k4, k5, k6, k7, k8, k9, k10, k11, k12, k13, k14, k15, k16, k17, k18, k19, k20, k21, k22, k23, k24, k25, k26, k27, k28, k29.1, k29.2, k30, k31, k32]
  rfl
end Go.Proofs.YtigejdnjdajbhaaGreat

namespace Go.Proofs.YtigejdnjdajbhaaGreat.guardBatch
open Go.ChangeShapes Go.WideShapes Go.ChangeAt Go.RowKit
open Go.ChangeMaps (open_string shut_string)
set_option maxRecDepth 100000 in
theorem lifted (os : Os) (started : os.Started) (H : Type) (enc : TypeId × Value → H) :
    ReturnsInHanded {} Tryz.checked os 4 .any (Rows.guardBatchSpec.pre6 enc Tryz.prog Tryz.f4 Rows.guardBatchRow.domain false) (Rows.guardBatchSpec.post enc Tryz.prog Tryz.f4 false true false false) := by
  refine returnsInHanded_of_change_sized (C := Tryz.checked) own_eq started (by kernel_rfl) Tryz.func4
    (ChangeSpec.witness6 (enc := enc) (C := Tryz.checked) false ⟨#[], #[.slice none 0 0, .agg #[.string ByteArray.empty, .int .i64 0, .slice none 0 0, .bool false], .agg #[.string ByteArray.empty, .string ByteArray.empty, .slice none 0 0, .slice none 0 0]], []⟩ 8 (by kernel_rfl) (by kernel_rfl) (by kernel_rfl) (by kernel_rfl)) ?_
  intro W base args ds gs before hval0 hW hcnd hsz0 _
  have hval : ∀ (j : Nat) t v, Tryz.f4.params[j]? = some t → args[j]? = some v → Value.okWide Tryz.prog W .any base t v := hval0
  have hW' := hW
  obtain ⟨p, q, hA0, hV, rfl, hfz, hnd⟩ := hW
  have hA : DataW.TrodAll enc Tryz.prog W 0 (fun _ => true) true Tryz.f4.params.toList args.toList ds p := hA0
  rw [Tryz.params4] at hA hval
  obtain ⟨v0, vs0, d0, ds0, p0, q0, hargs, rfl, rfl, h0, r0⟩ := trodAll_cons hA
  obtain ⟨v1, vs1, d1, ds1, p1, q1, rfl, rfl, rfl, h1, r1⟩ := trodAll_cons r0
  obtain ⟨v2, vs2, d2, ds2, p2, q2, rfl, rfl, rfl, h2, r2⟩ := trodAll_cons r1
  obtain ⟨rfl, rfl, rfl⟩ := trodAll_nil r2
  obtain rfl : args = #[v0, v1, v2] := by cases args; simp_all
  obtain ⟨rfl, rfl⟩ := trodVars_none hV
  have k0 := h0
  have lt0 : ∀ x ∈ p0, x.block < W.heap.size := by obtain ⟨m, hm⟩ := k0; exact DataW.trod_lt m _ _ _ hm
  obtain ⟨a0, len0, cap0, rfl⟩ := okWide_slice Tryz.underlying43 (hval 0 43 v0 rfl rfl)
  obtain ⟨x0, ⟨A0, c0, e0, l0, m0, w0⟩, g0⟩ := (opEvs).arg h0
  simp only [Value.cells, List.cons.injEq, Value.slice.injEq, and_true] at e0
  obtain ⟨rfl, rfl, rfl⟩ := e0
  have k1 := h1
  have lt1 : ∀ x ∈ p1, x.block < W.heap.size := by obtain ⟨m, hm⟩ := k1; exact DataW.trod_lt m _ _ _ hm
  obtain ⟨cs1, rfl, _⟩ := okWide_struct Tryz.underlying51 (hval 1 51 v1 rfl rfl)
  obtain ⟨x1, w1, g1⟩ := (opGuard).arg h1
  have k2 := h2
  have lt2 : ∀ x ∈ p2, x.block < W.heap.size := by obtain ⟨m, hm⟩ := k2; exact DataW.trod_lt m _ _ _ hm
  obtain ⟨cs2, rfl, _⟩ := okWide_struct Tryz.underlying42 (hval 2 42 v2 rfl rfl)
  obtain ⟨x2, w2, g2⟩ := (opEvent).arg h2
  clear hA0 hval0
  refine (guardBatch_walk W _ _ x0 ⟨l0, m0, w0⟩ g0 cs1 x1 w1 g1 cs2 x2 w2 g2).mono fun e W' ⟨he, bel⟩ => ?_
  subst he
  exact ⟨_, rfl, _, _, _, [], _, [], hW', trodAll_mk1 (shut_bool Tryz.underlying4 _), (trodAll_cons_mk (Below.trod laidOut_eq (by kernel_rfl) (of_decide_eq_true (by kernel_rfl)) k0 bel lt0) (trodAll_cons_mk (Below.trod laidOut_eq (by kernel_rfl) (of_decide_eq_true (by kernel_rfl)) k1 bel lt1) (trodAll_cons_mk (Below.trod laidOut_eq (by kernel_rfl) (of_decide_eq_true (by kernel_rfl)) k2 bel lt2) trodAll_mk0))), rfl, bel.frame _, fun h => by cases h⟩
theorem k10 : (Rows.guardBatchRow.inPlace == Tryz.prog.inPlace 4) = true := by kernel_rfl
theorem k11 : (Rows.guardBatchRow.unfollowed == Tryz.prog.unfollowed 4) = true := by kernel_rfl
theorem k12 : (Rows.guardBatchRow.recurses == Tryz.prog.recurses 4) = true := by kernel_rfl
theorem k13 : (Rows.guardBatchRow.named == Tryz.prog.varsNamed 4) = true := by kernel_rfl
theorem k23 : (Rows.guardBatchRow.plainKeys == Tryz.prog.plainKeys) = true := by kernel_rfl
theorem kfn : Tryz.pinned.checked.prog.funcNamed Rows.guardBatchRow.func = some 4 := by kernel_rfl
theorem closed : joinedFacts Tryz.prog 4 Tryz.f4 Rows.guardBatchSpec Rows.guardBatchRow = true :=
  joined_of (by kernel_rfl) laidOut_eq mapsRowed_eq (by kernel_rfl) (by kernel_rfl) rfl stops_eq rfl stopKnobs_eq k10 k11 k12 k13 (by kernel_rfl) (by kernel_rfl) (by kernel_rfl) (by kernel_rfl) (by kernel_rfl) (by kernel_rfl) (by kernel_rfl) (by kernel_rfl) (by kernel_rfl) k23 rfl heard_eq mayEnter_eq (by rw [lifts_eq]; rfl) (by rw [make_eq]; rfl) ⟨rfl, rfl⟩ (by kernel_rfl) (by kernel_rfl) (by kernel_rfl)
theorem over : Rows.guardBatchRow.holds Tryz.pinned (OpenSpec.ofChange Rows.guardBatchSpec) :=
  OpenClaim.holds_of_wide 4 Tryz.f4 rfl rfl rfl rfl rfl rfl rfl ⟨rfl, rfl, rfl, rfl, rfl⟩ rfl rfl rfl rfl rfl kfn Tryz.func4 closed
    (of_decide_eq_true (by kernel_rfl)) (by unfold Func.isWrapper; first | (rw [if_pos (by decide +kernel)]; kernel_rfl) | (rw [if_neg (by decide +kernel)]; exact ⟨rfl, rfl⟩))
    (fun os started H enc _ => lifted os started H enc)
theorem proved : Rows.GuardBatchSaid := over
#print axioms proved
end Go.Proofs.YtigejdnjdajbhaaGreat.guardBatch
