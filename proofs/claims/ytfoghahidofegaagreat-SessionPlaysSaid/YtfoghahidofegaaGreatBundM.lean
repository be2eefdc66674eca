/- registrarref04.Has. registrarref06.clause. registrarref06.Match. registrarlaw19.Op: its kind, its opener, its row; few, kind (walks). IndexStays: plain facts. What is read up to a position, and what is read now: plain facts. registrarref14.Index: Query (walk). SessionSees: plain facts. -/
import Derived.Test.YtfoghahidofegaaGreatBundA
import Derived.Deep.RegionHeld3
import Derived.Deep.DeepFit
import Derived.Test.YtfoghahidofegaaGreatBundL
import Derived.Test.YtfoghahidofegaaGreatBundJ
import Derived.Test.YtfoghahidofegaaGreatBundG
import Derived.Test.YtfoghahidofegaaGreatBundR
set_option linter.unusedVariables false
set_option linter.unusedSimpArgs false
namespace Go.Proofs.YtfoghahidofegaaGreat
open Go.RowKit

theorem hasS_take_no {s : ByteArray} {l : List ByteArray} (h : ∀ j (hj : j < l.length), l[j] ≠ s) : hasS s l = false := by
  rw [Bool.eq_false_iff]
  intro hh
  obtain ⟨j, hj, e⟩ := List.mem_iff_getElem.1 ((hasS_iff s l).1 hh)
  exact h j hj e
set_option maxHeartbeats 400000 in
theorem Has04_any {e : Event} {T F : Option Addr} {ct cf : Nat} {w : World} (h : Sl Kn.str (fun _ => True) w T ct e.tags) (s : ByteArray) :
    Calls Tryz.prog 149 #[vEvent e T ct F cf, .string s] w fun r w' => r = .returned (.bool (hasS s e.tags)) ∧ Below w.heap.size w w' := by
  have h1 := h.1
  have h2 := h.2.1
  unfold maxLen at h2
  unfold vEvent
  go_enter Tryz.func149, Tryz.ntmps149
  go_wp2
  have H1 := Lib.hid (h.alloc (.cells #[.string e.stream, .string e.type, .slice T e.tags.length ct, .slice F e.fields.length cf] 42))
  have hz := (Bx.new w 42 [.string e.stream, .string e.type, .slice T e.tags.length ct, .slice F e.fields.length cf]).cell 2
  have HB := Lib.hid (show Below w.heap.size w (w.alloc (.cells #[.string e.stream, .string e.type, .slice T e.tags.length ct, .slice F e.fields.length cf] 42)) from (Below.refl _ _).alloc (Nat.le_refl _) _)
  simp only [List.getElem?_cons_succ, List.getElem?_cons_zero] at hz
  clear h
  generalize w.alloc (.cells #[.string e.stream, .string e.type, .slice T e.tags.length ct, .slice F e.fields.length cf] 42) = X at *
  generalize w.heap.size = g at hz ⊢
  go_loopw [5] (fun i wr => ∃ k n : Nat, k ≤ e.tags.length ∧ i = .int .i64 k ∧ (∀ j (hj : j < e.tags.length), j < k → e.tags[j] ≠ s) ∧ wr = X.drewN n) (fun i _ => e.tags.length - (intOf i).toNat)
  case atStart => exact ⟨0, 0, Nat.zero_le _, rfl, fun j hj hk => by omega, rfl⟩
  case round =>
    obtain ⟨k, n, hk, rfl, hal, rfl⟩ := hrel
    have HAL := Lib.hid hal
    clear hal
    by_cases hlt : k < e.tags.length
    · obtain ⟨ad, rfl, hx⟩ := row_str_at H1.out.2.2 hlt
      generalize hxe : e.tags[k] = x at hx
      have HX := Lib.hid hxe
      clear hxe
      have b1 : (0 : Int) ≤ (k : Int) := Int.natCast_nonneg _
      have b2 : (k : Int) < (e.tags.length : Int) := by omega
      have hq := strEqL x s
      by_cases hxy : x = s
      · rw [decide_eq_true hxy] at hq
        have HXY := Lib.hid hxy
        clear hxy
        go_wp2
        go_ret
        refine ⟨?_, bthen HB.out (below_drewN (Below.refl _ _) _)⟩
        rw [(hasS_iff s e.tags).2 (by rw [← HXY.out, ← HX.out]; exact List.getElem_mem hlt)]
        rfl
      · rw [decide_eq_false hxy] at hq
        have HXY := Lib.hid hxy
        clear hxy
        go_wp2
        go_roundw
        case rel =>
          refine ⟨k + 1, _, by omega, by go_num, fun j hj hjk => ?_, rfl⟩
          rcases Nat.lt_or_ge j k with h | h
          · exact HAL.out j hj h
          · obtain rfl : j = k := by omega
            rw [HX.out]; exact HXY.out
        case measure => simp [intOf]; omega
    · go_wp2
      go_ret
      refine ⟨?_, bthen HB.out (below_drewN (Below.refl _ _) _)⟩
      rw [hasS_take_no (fun j hj => HAL.out j hj (by omega))]
      rfl
end Go.Proofs.YtfoghahidofegaaGreat
namespace Go.Proofs.YtfoghahidofegaaGreat
open Go.RowKit

theorem all_of {α : Type} {l : List α} {f : α → Bool} (h : ∀ j (hj : j < l.length), f l[j] = true) : l.all f = true := by
  rw [List.all_eq_true]
  intro x hx
  obtain ⟨j, hj, e⟩ := List.mem_iff_getElem.1 hx
  exact e ▸ h j hj
theorem all_no {α : Type} {l : List α} {f : α → Bool} {j : Nat} (hj : j < l.length) (h : f l[j] = false) : l.all f = false := by
  rw [Bool.eq_false_iff]
  intro hh
  rw [List.all_eq_true.1 hh _ (List.getElem_mem hj)] at h
  cases h
set_option maxHeartbeats 1000000 in
set_option maxRecDepth 4000 in
theorem clause06_any {c : Clause} {e : Event} {S U T F : Option Addr} {cs cu ct cf : Nat} {w : World} (hS : Sl Kn.str (fun _ => True) w S cs c.tags) (hU : Sl Kn.str (fun _ => True) w U cu c.types) (hT : Sl Kn.str (fun _ => True) w T ct e.tags) :
    Calls Tryz.prog 123 #[.agg #[.slice S c.tags.length cs, .slice U c.types.length cu], vEvent e T ct F cf] w fun r w' => r = .returned (.bool (clauseM e c)) ∧ Below w.heap.size w w' := by
  have hs1 := hS.1
  have hs2 := hS.2.1
  have hu1 := hU.1
  have hu2 := hU.2.1
  unfold maxLen at hs2 hu2
  unfold vEvent
  go_enter Tryz.func123, Tryz.ntmps123
  go_upto_region 2 with fail
  have ha : Below w.heap.size w (w.alloc (.cells #[.slice S c.tags.length cs, .slice U c.types.length cu] 118)) := (Below.refl _ _).alloc (Nat.le_refl _) _
  have hbx1 := (Bx.new w 118 [.slice S c.tags.length cs, .slice U c.types.length cu]).alloc (.cells #[.string e.stream, .string e.type, .slice T e.tags.length ct, .slice F e.fields.length cf] 42)
  have hbx2 := Bx.new (w.alloc (.cells #[.slice S c.tags.length cs, .slice U c.types.length cu] 118)) 42 [.string e.stream, .string e.type, .slice T e.tags.length ct, .slice F e.fields.length cf]
  rw [show (w.alloc (.cells #[.slice S c.tags.length cs, .slice U c.types.length cu] 118)).heap.size = w.heap.size + 1 by simp] at hbx2
  have HBW := Lib.hid (show Below w.heap.size w ((w.alloc (.cells #[.slice S c.tags.length cs, .slice U c.types.length cu] 118)).alloc (.cells #[.string e.stream, .string e.type, .slice T e.tags.length ct, .slice F e.fields.length cf] 42)) from ha.alloc (by simp) _)
  have HS := Lib.hid (hS.below HBW.out)
  have HU := Lib.hid (hU.below HBW.out)
  have HT := Lib.hid (hT.below HBW.out)
  have HX1 := Lib.hid hbx1
  have HX2 := Lib.hid hbx2
  clear hS hU hT ha hbx1 hbx2
  generalize (w.alloc (.cells #[.slice S c.tags.length cs, .slice U c.types.length cu] 118)).alloc (.cells #[.string e.stream, .string e.type, .slice T e.tags.length ct, .slice F e.fields.length cf] 42) = X at *
  generalize w.heap.size = g at HX1 HX2 ⊢
  have HK := Lib.hid (fun W (hb : Below X.heap.size X W) => show Below X.heap.size X W ∧ W.cell? ⟨g, 0, none⟩ = some (.slice S c.tags.length cs) ∧ W.cell? ⟨g, 1, none⟩ = some (.slice U c.types.length cu) ∧ W.cell? ⟨g + 1, 0, none⟩ = some (.string e.stream) ∧ W.cell? ⟨g + 1, 1, none⟩ = some (.string e.type) ∧ W.cell? ⟨g + 1, 2, none⟩ = some (.slice T e.tags.length ct) ∧ W.cell? ⟨g + 1, 3, none⟩ = some (.slice F e.fields.length cf) from
    ⟨hb, (HX1.out.under hb).cell 0, (HX1.out.under hb).cell 1, (HX2.out.under hb).cell 0, (HX2.out.under hb).cell 1, (HX2.out.under hb).cell 2, (HX2.out.under hb).cell 3⟩)
  have CH : Hid (∀ W (R : Prop) (x : ByteArray), Below X.heap.size X W ∧ R → Calls Tryz.prog 149 #[.agg #[.string e.stream, .string e.type, .slice T e.tags.length ct, .slice F e.fields.length cf], .string x] W fun r w' => r = .returned (.bool (hasS x e.tags)) ∧ Below W.heap.size W w') :=
    Lib.hid (fun W R x h => Has04_any (HT.out.below h.1) x)
  clear HX1 HX2
  go_loopw [5] (fun i wr => ∃ k : Nat, k ≤ c.tags.length ∧ i = .int .i64 k ∧ (∀ j (hj : j < c.tags.length), j < k → hasS c.tags[j] e.tags = true) ∧ Below X.heap.size X wr) (fun i _ => c.tags.length - (intOf i).toNat)
  case atStart => exact ⟨0, Nat.zero_le _, rfl, fun j hj hk => by omega, Below.refl _ _⟩
  case round =>
    obtain ⟨k, hk, rfl, hal, hb⟩ := hrel
    have HAL := Lib.hid hal
    have HB := Lib.hid hb
    obtain ⟨_, z0, z1, z2, z3, z4, z5⟩ := HK.out wr hb
    clear hal hb
    by_cases hlt : k < c.tags.length
    · obtain ⟨ad, rfl, hx⟩ := row_str_at HS.out.2.2 hlt
      have hxl : ad.block < X.heap.size := by have := World.block_lt_of_cell? X _ hx; rwa [block_add] at this
      generalize hxe : c.tags[k] = x at hx
      have HX := Lib.hid hxe
      have HKx := Lib.hid (fun W (hb : Below X.heap.size X W) => show Below X.heap.size X W ∧ W.cell? ⟨g, 0, none⟩ = some (.slice (some ad) c.tags.length cs) ∧ W.cell? ⟨g + 1, 0, none⟩ = some (.string e.stream) ∧ W.cell? ⟨g + 1, 1, none⟩ = some (.string e.type) ∧ W.cell? ⟨g + 1, 2, none⟩ = some (.slice T e.tags.length ct) ∧ W.cell? ⟨g + 1, 3, none⟩ = some (.slice F e.fields.length cf) ∧ W.cell? (ad.add k) = some (.string x) from by
        obtain ⟨a, a0, a1, a2, a3, a4, a5⟩ := HK.out W hb
        exact ⟨a, a0, a2, a3, a4, a5, (hb.cell (by rw [block_add]; exact hxl)).trans hx⟩)
      have CX := Lib.hid (fun W R h => CH.out W R x h)
      clear hxe hx
      have b1 : (0 : Int) ≤ (k : Int) := Int.natCast_nonneg _
      have b2 : (k : Int) < (c.tags.length : Int) := by omega
      generalize hhe : hasS x e.tags = hh at CX
      have HH := Lib.hid hhe
      clear hhe
      go_upto_region 4 with fail
      clear z0 z1 z2 z3 z4 z5
      rcases hh with _ | _
      all_goals go_region_held3 (fun W => Below X.heap.size X W ∧ W.cell? ⟨g, 0, none⟩ = some (.slice (some ad) c.tags.length cs) ∧ W.cell? ⟨g + 1, 0, none⟩ = some (.string e.stream) ∧ W.cell? ⟨g + 1, 1, none⟩ = some (.string e.type) ∧ W.cell? ⟨g + 1, 2, none⟩ = some (.slice T e.tags.length ct) ∧ W.cell? ⟨g + 1, 3, none⟩ = some (.slice F e.fields.length cf) ∧ W.cell? (ad.add k) = some (.string x)) (first | exact HKx.out _ (below_drawn HB.out) | (assumption) | exact HKx.out _ (bthen (And.left (by assumption : Below X.heap.size X _ ∧ _)) (by assumption))) (first | (go_at_call 149; go_fit (CX.out _ _ (by assumption)); rintro r w6 ⟨rfl, hb6⟩))
      · have HB6 := Lib.hid (bthen (below_drawn HB.out) hb6)
        clear hb6
        go_wp2
        go_ret
        refine ⟨?_, bthen HBW.out HB6.out⟩
        have : c.tags.all (fun s => hasS s e.tags) = false := all_no hlt (by rw [HX.out]; exact HH.out)
        unfold clauseM
        rw [this]
        rfl
      · have HB6 := Lib.hid (bthen (below_drawn HB.out) hb6)
        clear hb6
        go_wp2
        go_roundw
        case rel =>
          refine ⟨k + 1, by omega, by go_num, fun j hj hjk => ?_, HB6.out⟩
          rcases Nat.lt_or_ge j k with h | h
          · exact HAL.out j hj h
          · obtain rfl : j = k := by omega
            rw [HX.out]; exact HH.out
        case measure => simp [intOf]; omega
    · have HALL := Lib.hid (show c.tags.all (fun s => hasS s e.tags) = true from all_of (fun j hj => HAL.out j hj (by omega)))
      have HU' := Lib.hid (HU.out.below HB.out)
      clear CH HK
      go_wp2
      go_loopw [7] (fun i wq => ∃ k n : Nat, k ≤ c.types.length ∧ i = .int .i64 k ∧ (∀ j (hj : j < c.types.length), j < k → c.types[j] ≠ e.type) ∧ wq = wr.drewN n) (fun i _ => c.types.length - (intOf i).toNat)
      case atStart => exact ⟨0, 0, Nat.zero_le _, rfl, fun j hj hk => by omega, rfl⟩
      case round =>
        obtain ⟨k2, n, hk2, rfl, hal, rfl⟩ := hrel
        have HAL2 := Lib.hid hal
        clear hal
        by_cases hlt2 : k2 < c.types.length
        · obtain ⟨ad, rfl, hx⟩ := row_str_at HU'.out.2.2 hlt2
          generalize hxe : c.types[k2] = x at hx
          have HX := Lib.hid hxe
          clear hxe
          have b1 : (0 : Int) ≤ (k2 : Int) := Int.natCast_nonneg _
          have b2 : (k2 : Int) < (c.types.length : Int) := by omega
          have hq := strEqL x e.type
          by_cases hxy : x = e.type
          · rw [decide_eq_true hxy] at hq
            have HXY := Lib.hid hxy
            clear hxy
            go_wp2
            go_quiet (fail)
            go_wp2
            go_ret
            refine ⟨?_, bthen (bthen HBW.out HB.out) (below_drewN (below_drewN (Below.refl _ _) _) _)⟩
            have : hasS e.type c.types = true := (hasS_iff _ _).2 (by rw [← HXY.out, ← HX.out]; exact List.getElem_mem hlt2)
            unfold clauseM
            rw [this, HALL.out]
            simp
          · rw [decide_eq_false hxy] at hq
            have HXY := Lib.hid hxy
            clear hxy
            go_wp2
            go_quiet (fail)
            go_wp2
            go_roundw
            case rel =>
              refine ⟨k2 + 1, _, by omega, by go_num, fun j hj hjk => ?_, rfl⟩
              rcases Nat.lt_or_ge j k2 with h | h
              · exact HAL2.out j hj h
              · obtain rfl : j = k2 := by omega
                rw [HX.out]; exact HXY.out
            case measure => simp [intOf]; omega
        · go_wp2
          go_ret
          refine ⟨?_, bthen (bthen HBW.out HB.out) (below_drewN (Below.refl _ _) _)⟩
          have hno : hasS e.type c.types = false := hasS_take_no (fun j hj => HAL2.out j hj (by omega))
          unfold clauseM
          rw [hno, HALL.out]
          cases c.types with
          | nil => simp
          | cons y ys => simp; omega
end Go.Proofs.YtfoghahidofegaaGreat
namespace Go.Proofs.YtfoghahidofegaaGreat
open Go.RowKit

theorem any_no {α : Type} {l : List α} {f : α → Bool} (h : ∀ j (hj : j < l.length), f l[j] = false) : l.any f = false := by
  rw [Bool.eq_false_iff]
  intro hh
  obtain ⟨x, hx, e⟩ := List.any_eq_true.1 hh
  obtain ⟨j, hj, e2⟩ := List.mem_iff_getElem.1 hx
  rw [← e2, h j hj] at e
  cases e
set_option maxHeartbeats 1000000 in
set_option maxRecDepth 4000 in
theorem Match06_any {q : List Clause} {e : Event} {Q T F : Option Addr} {cq ct cf : Nat} {w : World} (hQ : SlC w Q cq q) (hT : Sl Kn.str (fun _ => True) w T ct e.tags) :
    Calls Tryz.prog 86 #[.agg #[.slice Q q.length cq], vEvent e T ct F cf] w fun r w' => r = .returned (.bool (matchM q e)) ∧ Below w.heap.size w w' := by
  have hs1 := hQ.1
  have hs2 := hQ.2.1
  unfold maxLen at hs2
  unfold vEvent
  go_enter Tryz.func86, Tryz.ntmps86
  go_upto_region 2 with fail
  have ha : Below w.heap.size w (w.alloc (.cells #[.slice Q q.length cq] 25)) := (Below.refl _ _).alloc (Nat.le_refl _) _
  have hbx1 := (Bx.new w 25 [.slice Q q.length cq]).alloc (.cells #[.string e.stream, .string e.type, .slice T e.tags.length ct, .slice F e.fields.length cf] 42)
  have hbx2 := Bx.new (w.alloc (.cells #[.slice Q q.length cq] 25)) 42 [.string e.stream, .string e.type, .slice T e.tags.length ct, .slice F e.fields.length cf]
  rw [show (w.alloc (.cells #[.slice Q q.length cq] 25)).heap.size = w.heap.size + 1 by simp] at hbx2
  have HBW := Lib.hid (show Below w.heap.size w ((w.alloc (.cells #[.slice Q q.length cq] 25)).alloc (.cells #[.string e.stream, .string e.type, .slice T e.tags.length ct, .slice F e.fields.length cf] 42)) from ha.alloc (by simp) _)
  have HQ := Lib.hid (hQ.below HBW.out)
  have HT := Lib.hid (hT.below HBW.out)
  have HX1 := Lib.hid hbx1
  have HX2 := Lib.hid hbx2
  clear hQ hT ha hbx1 hbx2
  generalize (w.alloc (.cells #[.slice Q q.length cq] 25)).alloc (.cells #[.string e.stream, .string e.type, .slice T e.tags.length ct, .slice F e.fields.length cf] 42) = X at *
  generalize w.heap.size = g at HX1 HX2 ⊢
  have HK := Lib.hid (fun W (hb : Below X.heap.size X W) => show Below X.heap.size X W ∧ W.cell? ⟨g, 0, none⟩ = some (.slice Q q.length cq) ∧ W.cell? ⟨g + 1, 0, none⟩ = some (.string e.stream) ∧ W.cell? ⟨g + 1, 1, none⟩ = some (.string e.type) ∧ W.cell? ⟨g + 1, 2, none⟩ = some (.slice T e.tags.length ct) ∧ W.cell? ⟨g + 1, 3, none⟩ = some (.slice F e.fields.length cf) from
    ⟨hb, (HX1.out.under hb).cell 0, (HX2.out.under hb).cell 0, (HX2.out.under hb).cell 1, (HX2.out.under hb).cell 2, (HX2.out.under hb).cell 3⟩)
  clear HX1 HX2
  go_loopw [5] (fun i wr => ∃ k : Nat, k ≤ q.length ∧ i = .int .i64 k ∧ (∀ j (hj : j < q.length), j < k → clauseM e q[j] = false) ∧ Below X.heap.size X wr) (fun i _ => q.length - (intOf i).toNat)
  case atStart => exact ⟨0, Nat.zero_le _, rfl, fun j hj hk => by omega, Below.refl _ _⟩
  case round =>
    obtain ⟨k, hk, rfl, hal, hb⟩ := hrel
    have HAL := Lib.hid hal
    have HB := Lib.hid hb
    obtain ⟨_, z0, z1, z2, z3, z4⟩ := HK.out wr hb
    clear hal hb
    by_cases hlt : k < q.length
    · obtain ⟨ad, S, sa, U, ua, rfl, hx, hy, hS, hU⟩ := row_clause_at HQ.out.2.2 hlt
      have hxl : ad.block < X.heap.size := by have := World.block_lt_of_cell? X _ hx; rwa [block_add] at this
      generalize hxe : q[k] = x at hx hy hS hU
      have HX := Lib.hid hxe
      have HKx := Lib.hid (fun W (hb : Below X.heap.size X W) => show Below X.heap.size X W ∧ W.cell? ⟨g, 0, none⟩ = some (.slice (some ad) q.length cq) ∧ W.cell? ⟨g + 1, 0, none⟩ = some (.string e.stream) ∧ W.cell? ⟨g + 1, 1, none⟩ = some (.string e.type) ∧ W.cell? ⟨g + 1, 2, none⟩ = some (.slice T e.tags.length ct) ∧ W.cell? ⟨g + 1, 3, none⟩ = some (.slice F e.fields.length cf) ∧ W.cell? (ad.add (k * 2)) = some (.slice S x.tags.length sa) ∧ W.cell? ⟨(ad.add (k * 2)).block, (ad.add (k * 2)).off + 1, none⟩ = some (.slice U x.types.length ua) from by
        obtain ⟨a, a0, a2, a3, a4, a5⟩ := HK.out W hb
        exact ⟨a, a0, a2, a3, a4, a5, (hb.cell (by rw [block_add]; exact hxl)).trans hx, (hb.cell (by simp only; rw [block_add]; exact hxl)).trans hy⟩)
      have CX : Hid (∀ W (R : Prop), Below X.heap.size X W ∧ R → Calls Tryz.prog 123 #[.agg #[.slice S x.tags.length sa, .slice U x.types.length ua], .agg #[.string e.stream, .string e.type, .slice T e.tags.length ct, .slice F e.fields.length cf]] W fun r w' => r = .returned (.bool (clauseM e x)) ∧ Below W.heap.size W w') :=
        Lib.hid (fun W R h => clause06_any (hS.any.below h.1) (hU.any.below h.1) (HT.out.below h.1))
      clear hxe hx hy hS hU
      have b1 : (0 : Int) ≤ (k : Int) := Int.natCast_nonneg _
      have b2 : (k : Int) < (q.length : Int) := by omega
      generalize hhe : clauseM e x = hh at CX
      have HH := Lib.hid hhe
      clear hhe
      go_upto_region 4 with fail
      clear z0 z1 z2 z3 z4
      rcases hh with _ | _
      all_goals go_region_held3 (fun W => Below X.heap.size X W ∧ W.cell? ⟨g, 0, none⟩ = some (.slice (some ad) q.length cq) ∧ W.cell? ⟨g + 1, 0, none⟩ = some (.string e.stream) ∧ W.cell? ⟨g + 1, 1, none⟩ = some (.string e.type) ∧ W.cell? ⟨g + 1, 2, none⟩ = some (.slice T e.tags.length ct) ∧ W.cell? ⟨g + 1, 3, none⟩ = some (.slice F e.fields.length cf) ∧ W.cell? (ad.add (k * 2)) = some (.slice S x.tags.length sa) ∧ W.cell? ⟨(ad.add (k * 2)).block, (ad.add (k * 2)).off + 1, none⟩ = some (.slice U x.types.length ua)) (first | exact HKx.out _ (below_drawn HB.out) | (assumption) | exact HKx.out _ (bthen (And.left (by assumption : Below X.heap.size X _ ∧ _)) (by assumption))) (first | (go_at_call 123; go_fit (CX.out _ _ (by assumption)); rintro r w6 ⟨rfl, hb6⟩))
      · have HB6 := Lib.hid (bthen (below_drawn HB.out) hb6)
        clear hb6
        go_wp2
        go_roundw
        case rel =>
          refine ⟨k + 1, by omega, by go_num, fun j hj hjk => ?_, HB6.out⟩
          rcases Nat.lt_or_ge j k with h | h
          · exact HAL.out j hj h
          · obtain rfl : j = k := by omega
            rw [HX.out]; exact HH.out
        case measure => simp [intOf]; omega
      · have HB6 := Lib.hid (bthen (below_drawn HB.out) hb6)
        clear hb6
        go_wp2
        go_ret
        refine ⟨?_, bthen HBW.out HB6.out⟩
        have : matchM q e = true := List.any_eq_true.2 ⟨_, List.getElem_mem hlt, by rw [HX.out]; exact HH.out⟩
        rw [this]
        rfl
    · go_wp2
      go_ret
      refine ⟨?_, bthen HBW.out HB.out⟩
      have : matchM q e = false := any_no (fun j hj => HAL.out j hj (by omega))
      rw [this]
      rfl
end Go.Proofs.YtfoghahidofegaaGreat

namespace Go.Proofs.YtfoghahidofegaaGreat
open Go.RowKit Go.Maps

abbrev Op19 : Type := Int × Int × ByteArray × Event × List Clause
abbrev kOp19 : Kn Op19 := Kn.pair (Kn.int .i64) (Kn.pair (Kn.int .i64) (Kn.pair Kn.str (Kn.pair kEvent kQuery)))
abbrev goodOp19 (o : Op19) : Prop := gN o.1 ∧ gN o.2.1 ∧ gS o.2.2.1 ∧ goodEvent o.2.2.2.1 ∧ (∀ c ∈ o.2.2.2.2, goodClause c)
theorem opOp19 : Opens Tryz.prog 77 kOp19 goodOp19 :=
  Opens.struct (d := kOp19) (good := goodOp19) Tryz.underlying77 (by kernel_rfl)
    (OpensFs.cons (good := gN) (good' := fun (y : Int × ByteArray × Event × List Clause) => gN y.1 ∧ gS y.2.1 ∧ goodEvent y.2.2.1 ∧ (∀ c ∈ y.2.2.2, goodClause c)) (d := Kn.int .i64) opInt (by kernel_rfl)
      (OpensFs.cons (good := gN) (good' := fun (y : ByteArray × Event × List Clause) => gS y.1 ∧ goodEvent y.2.1 ∧ (∀ c ∈ y.2.2, goodClause c)) (d := Kn.int .i64) opInt (by kernel_rfl)
        (OpensFs.cons (good := gS) (good' := fun (y : Event × List Clause) => goodEvent y.1 ∧ (∀ c ∈ y.2, goodClause c)) (d := Kn.str) opStr (by kernel_rfl)
          (OpensFs.cons (good := goodEvent) (good' := fun (y : List Clause) => ∀ c ∈ y, goodClause c) (d := kEvent) opEvent (by kernel_rfl) (OpensFs.last opQuery (by kernel_rfl))))))
theorem opOps19 : Opens Tryz.prog 86 (Kn.slice kOp19) (fun q => ∀ o ∈ q, goodOp19 o) := Opens.slice Tryz.underlying86 (by kernel_rfl) (by decide) opOp19
theorem kOp19_out {ok : Nat → Prop} {w : World} {o : Op19} {cs : List Value} (h : kOp19.K ok w o cs) : ∃ T ct F cf Q cq, cs = [.int .i64 o.1, .int .i64 o.2.1, .string o.2.2.1, .string o.2.2.2.1.stream, .string o.2.2.2.1.type, .slice T o.2.2.2.1.tags.length ct, .slice F o.2.2.2.1.fields.length cf, .slice Q o.2.2.2.2.length cq] ∧
    Sl Kn.str ok w T ct o.2.2.2.1.tags ∧ Sl kField ok w F cf o.2.2.2.1.fields ∧ Sl kClause ok w Q cq o.2.2.2.2 := by
  obtain ⟨c0, c1, h0, h1, c2, c3, h2, h3, c4, c5, h4, h5, c6, c7, h6, h7, Q, cq, h8, h9, h10, h11⟩ := h
  obtain ⟨T, ct, F, cf, h12, h13, h14⟩ := kEvent_out h7
  have e0 : c0 = [.int .i64 o.1] := h1
  have e2 : c2 = [.int .i64 o.2.1] := h3
  have e4 : c4 = [.string o.2.2.1] := h5
  refine ⟨T, ct, F, cf, Q, cq, ?_, h13, h14, h9, h10, h11⟩
  rw [h0, h2, h4, h6, e0, e2, e4, h12, h8]
  rfl
theorem op_in {w : World} {o : Op19} {c : Array Value} (h : kOp19.K (fun _ => True) w o c.toList) : ∃ T ct F cf Q cq, c = #[.int .i64 o.1, .int .i64 o.2.1, .string o.2.2.1, .string o.2.2.2.1.stream, .string o.2.2.2.1.type, .slice T o.2.2.2.1.tags.length ct, .slice F o.2.2.2.1.fields.length cf, .slice Q o.2.2.2.2.length cq] ∧
    Sl Kn.str (fun k => k < w.heap.size) w T ct o.2.2.2.1.tags ∧ Sl kField (fun k => k < w.heap.size) w F cf o.2.2.2.1.fields ∧ Sl kClause (fun k => k < w.heap.size) w Q cq o.2.2.2.2 := by
  obtain ⟨T, ct, F, cf, Q, cq, h0, h1, h2, h3⟩ := kOp19_out h
  exact ⟨T, ct, F, cf, Q, cq, (by cases c; simpa using h0), h1.bound.mono (fun _ h => h.2), h2.bound.mono (fun _ h => h.2), h3.bound.mono (fun _ h => h.2)⟩
theorem kOp19_sz : kOp19.sz = 8 := rfl
theorem row_op19_at {ok : Nat → Prop} {w : World} {A : Option Addr} {xs : List Op19} (h : Row kOp19 ok w A xs) {j : Nat} (hj : j < xs.length) :
    ∃ ad T ct F cf Q cq, A = some ad ∧ w.cell? (ad.add (j * 8)) = some (.int .i64 xs[j].1) ∧ w.cell? ⟨(ad.add (j * 8)).block, (ad.add (j * 8)).off + 1, none⟩ = some (.int .i64 xs[j].2.1) ∧ w.cell? ⟨(ad.add (j * 8)).block, (ad.add (j * 8)).off + 2, none⟩ = some (.string xs[j].2.2.1) ∧
      w.cell? ⟨(ad.add (j * 8)).block, (ad.add (j * 8)).off + 3, none⟩ = some (.string xs[j].2.2.2.1.stream) ∧ w.cell? ⟨(ad.add (j * 8)).block, (ad.add (j * 8)).off + 4, none⟩ = some (.string xs[j].2.2.2.1.type) ∧
      w.cell? ⟨(ad.add (j * 8)).block, (ad.add (j * 8)).off + 5, none⟩ = some (.slice T xs[j].2.2.2.1.tags.length ct) ∧ w.cell? ⟨(ad.add (j * 8)).block, (ad.add (j * 8)).off + 6, none⟩ = some (.slice F xs[j].2.2.2.1.fields.length cf) ∧ w.cell? ⟨(ad.add (j * 8)).block, (ad.add (j * 8)).off + 7, none⟩ = some (.slice Q xs[j].2.2.2.2.length cq) ∧
      Sl Kn.str ok w T ct xs[j].2.2.2.1.tags ∧ Sl kField ok w F cf xs[j].2.2.2.1.fields ∧ Sl kClause ok w Q cq xs[j].2.2.2.2 := by
  obtain ⟨ad, cs, e, _, _, _, hk, hc⟩ := h.at_ hj
  obtain ⟨T, ct, F, cf, Q, cq, rfl, h1, h2, h3⟩ := kOp19_out hk
  rw [kOp19_sz] at hc
  have g : ∀ i u, 0 < i → [Value.int .i64 xs[j].1, .int .i64 xs[j].2.1, .string xs[j].2.2.1, .string xs[j].2.2.2.1.stream, .string xs[j].2.2.2.1.type, .slice T xs[j].2.2.2.1.tags.length ct, .slice F xs[j].2.2.2.1.fields.length cf, .slice Q xs[j].2.2.2.2.length cq][i]? = some u → w.cell? ⟨(ad.add (j * 8)).block, (ad.add (j * 8)).off + i, none⟩ = some u := fun i u hi hu => by
    have := hc i u hu
    rwa [add_field _ _ _ hi] at this
  exact ⟨ad, T, ct, F, cf, Q, cq, e, hc 0 _ rfl, g 1 _ (by omega) rfl, g 2 _ (by omega) rfl, g 3 _ (by omega) rfl, g 4 _ (by omega) rfl, g 5 _ (by omega) rfl, g 6 _ (by omega) rfl, g 7 _ (by omega) rfl, h1, h2, h3⟩

theorem few19_box (w : World) (cs : List Value) : Bx ((w.alloc (.cells cs.toArray 77)).alloc (.cells cs.toArray 77)) (w.heap.size + 1) 77 cs := by
  have := Bx.new (w.alloc (.cells cs.toArray 77)) 77 cs
  rwa [show (w.alloc (.cells cs.toArray 77)).heap.size = w.heap.size + 1 by simp] at this
/-- An event of a call, cut. -/
def cutV (e : Event) : Event := ⟨e.stream, e.type, e.tags.take 10, e.fields.take 10⟩
theorem cutV_good {e : Event} (h : goodEvent e) : goodEvent (cutV e) := ⟨h.1, h.2.1, fun x hx => h.2.2.1 x (List.mem_of_mem_take hx), fun x hx => h.2.2.2 x (List.mem_of_mem_take hx)⟩
set_option maxHeartbeats 8000000 in
set_option maxRecDepth 100000 in
theorem few19_any {w : World} (a b : Int) (s s1 s2 : ByteArray) {n1 n2 n3 : Nat} {T F Q : Option Addr} {ct cf cq : Nat} (h1 : n1 ≤ ct) (h1' : ct ≤ maxLen) (h2 : n2 ≤ cf) (h2' : cf ≤ maxLen) (h3 : n3 ≤ cq) (h3' : cq ≤ maxLen) :
    Calls Tryz.prog 39 #[.agg #[.int .i64 a, .int .i64 b, .string s, .string s1, .string s2, .slice T n1 ct, .slice F n2 cf, .slice Q n3 cq]] w fun r w' => r = .returned (.agg #[.int .i64 a, .int .i64 b, .string s, .string s1, .string s2, .slice T (min 10 n1) ct, .slice F (min 10 n2) cf, .slice Q (min 8 n3) cq]) ∧ Below w.heap.size w w' := by
  unfold maxLen at h1' h2' h3'
  have hbel : ∀ o : Obj, Below w.heap.size w ((w.alloc o).alloc o) := fun o => ((Below.refl _ _).alloc (Nat.le_refl _) o).alloc (by simp) o
  have HBE := Lib.hid hbel
  clear hbel
  obtain ⟨m1, hm1⟩ : ∃ m1, min 10 n1 = m1 := ⟨_, rfl⟩
  obtain ⟨m2, hm2⟩ : ∃ m2, min 10 n2 = m2 := ⟨_, rfl⟩
  obtain ⟨m3, hm3⟩ : ∃ m3, min 8 n3 = m3 := ⟨_, rfl⟩
  rw [hm1, hm2, hm3]
  by_cases q1 : 10 < n1
  · by_cases q2 : 10 < n2
    · by_cases q3 : 8 < n3
      · obtain rfl : m1 = 10 := by omega
        obtain rfl : m2 = 10 := by omega
        obtain rfl : m3 = 8 := by omega
        have ict : (10 : Int) ≤ (ct : Int) := by omega
        have jct : 10 ≤ ct := by omega
        have icf : (10 : Int) ≤ (cf : Int) := by omega
        have jcf : 10 ≤ cf := by omega
        have icq : (8 : Int) ≤ (cq : Int) := by omega
        have jcq : 8 ≤ cq := by omega
        clear hm1 hm2 hm3
        have HB := Lib.hid (few19_box w [.int .i64 a, .int .i64 b, .string s, .string s1, .string s2, .slice T 10 ct, .slice F 10 cf, .slice Q 8 cq])
        have c0 := HB.out.cell 0
        have c1 := HB.out.cell 1
        have c2 := HB.out.cell 2
        have c3 := HB.out.cell 3
        have c4 := HB.out.cell 4
        have c5 := HB.out.cell 5
        have c6 := HB.out.cell 6
        have c7 := HB.out.cell 7
        simp only [List.getElem?_cons_succ, List.getElem?_cons_zero] at c0 c1 c2 c3 c4 c5 c6 c7
        go_enter Tryz.func39, Tryz.ntmps39
        go_wp2_with fail
        exact bodyPost_ret (v := .agg #[.int .i64 a, .int .i64 b, .string s, .string s1, .string s2, .slice T 10 ct, .slice F 10 cf, .slice Q 8 cq]) (by simp [results, Tryz.results39, go_sem, c0, c1, c2, c3, c4, c5, c6, c7]) rfl ⟨rfl, HBE.out _⟩
      · obtain rfl : m1 = 10 := by omega
        obtain rfl : m2 = 10 := by omega
        obtain rfl : m3 = n3 := by omega
        have ict : (10 : Int) ≤ (ct : Int) := by omega
        have jct : 10 ≤ ct := by omega
        have icf : (10 : Int) ≤ (cf : Int) := by omega
        have jcf : 10 ≤ cf := by omega
        clear hm1 hm2 hm3
        have HB := Lib.hid (few19_box w [.int .i64 a, .int .i64 b, .string s, .string s1, .string s2, .slice T 10 ct, .slice F 10 cf, .slice Q m3 cq])
        have c0 := HB.out.cell 0
        have c1 := HB.out.cell 1
        have c2 := HB.out.cell 2
        have c3 := HB.out.cell 3
        have c4 := HB.out.cell 4
        have c5 := HB.out.cell 5
        have c6 := HB.out.cell 6
        have c7 := HB.out.cell 7
        simp only [List.getElem?_cons_succ, List.getElem?_cons_zero] at c0 c1 c2 c3 c4 c5 c6 c7
        go_enter Tryz.func39, Tryz.ntmps39
        go_wp2_with fail
        exact bodyPost_ret (v := .agg #[.int .i64 a, .int .i64 b, .string s, .string s1, .string s2, .slice T 10 ct, .slice F 10 cf, .slice Q m3 cq]) (by simp [results, Tryz.results39, go_sem, c0, c1, c2, c3, c4, c5, c6, c7]) rfl ⟨rfl, HBE.out _⟩
    · by_cases q3 : 8 < n3
      · obtain rfl : m1 = 10 := by omega
        obtain rfl : m2 = n2 := by omega
        obtain rfl : m3 = 8 := by omega
        have ict : (10 : Int) ≤ (ct : Int) := by omega
        have jct : 10 ≤ ct := by omega
        have icq : (8 : Int) ≤ (cq : Int) := by omega
        have jcq : 8 ≤ cq := by omega
        clear hm1 hm2 hm3
        have HB := Lib.hid (few19_box w [.int .i64 a, .int .i64 b, .string s, .string s1, .string s2, .slice T 10 ct, .slice F m2 cf, .slice Q 8 cq])
        have c0 := HB.out.cell 0
        have c1 := HB.out.cell 1
        have c2 := HB.out.cell 2
        have c3 := HB.out.cell 3
        have c4 := HB.out.cell 4
        have c5 := HB.out.cell 5
        have c6 := HB.out.cell 6
        have c7 := HB.out.cell 7
        simp only [List.getElem?_cons_succ, List.getElem?_cons_zero] at c0 c1 c2 c3 c4 c5 c6 c7
        go_enter Tryz.func39, Tryz.ntmps39
        go_wp2_with fail
        exact bodyPost_ret (v := .agg #[.int .i64 a, .int .i64 b, .string s, .string s1, .string s2, .slice T 10 ct, .slice F m2 cf, .slice Q 8 cq]) (by simp [results, Tryz.results39, go_sem, c0, c1, c2, c3, c4, c5, c6, c7]) rfl ⟨rfl, HBE.out _⟩
      · obtain rfl : m1 = 10 := by omega
        obtain rfl : m2 = n2 := by omega
        obtain rfl : m3 = n3 := by omega
        have ict : (10 : Int) ≤ (ct : Int) := by omega
        have jct : 10 ≤ ct := by omega
        clear hm1 hm2 hm3
        have HB := Lib.hid (few19_box w [.int .i64 a, .int .i64 b, .string s, .string s1, .string s2, .slice T 10 ct, .slice F m2 cf, .slice Q m3 cq])
        have c0 := HB.out.cell 0
        have c1 := HB.out.cell 1
        have c2 := HB.out.cell 2
        have c3 := HB.out.cell 3
        have c4 := HB.out.cell 4
        have c5 := HB.out.cell 5
        have c6 := HB.out.cell 6
        have c7 := HB.out.cell 7
        simp only [List.getElem?_cons_succ, List.getElem?_cons_zero] at c0 c1 c2 c3 c4 c5 c6 c7
        go_enter Tryz.func39, Tryz.ntmps39
        go_wp2_with fail
        exact bodyPost_ret (v := .agg #[.int .i64 a, .int .i64 b, .string s, .string s1, .string s2, .slice T 10 ct, .slice F m2 cf, .slice Q m3 cq]) (by simp [results, Tryz.results39, go_sem, c0, c1, c2, c3, c4, c5, c6, c7]) rfl ⟨rfl, HBE.out _⟩
  · by_cases q2 : 10 < n2
    · by_cases q3 : 8 < n3
      · obtain rfl : m1 = n1 := by omega
        obtain rfl : m2 = 10 := by omega
        obtain rfl : m3 = 8 := by omega
        have icf : (10 : Int) ≤ (cf : Int) := by omega
        have jcf : 10 ≤ cf := by omega
        have icq : (8 : Int) ≤ (cq : Int) := by omega
        have jcq : 8 ≤ cq := by omega
        clear hm1 hm2 hm3
        have HB := Lib.hid (few19_box w [.int .i64 a, .int .i64 b, .string s, .string s1, .string s2, .slice T m1 ct, .slice F 10 cf, .slice Q 8 cq])
        have c0 := HB.out.cell 0
        have c1 := HB.out.cell 1
        have c2 := HB.out.cell 2
        have c3 := HB.out.cell 3
        have c4 := HB.out.cell 4
        have c5 := HB.out.cell 5
        have c6 := HB.out.cell 6
        have c7 := HB.out.cell 7
        simp only [List.getElem?_cons_succ, List.getElem?_cons_zero] at c0 c1 c2 c3 c4 c5 c6 c7
        go_enter Tryz.func39, Tryz.ntmps39
        go_wp2_with fail
        exact bodyPost_ret (v := .agg #[.int .i64 a, .int .i64 b, .string s, .string s1, .string s2, .slice T m1 ct, .slice F 10 cf, .slice Q 8 cq]) (by simp [results, Tryz.results39, go_sem, c0, c1, c2, c3, c4, c5, c6, c7]) rfl ⟨rfl, HBE.out _⟩
      · obtain rfl : m1 = n1 := by omega
        obtain rfl : m2 = 10 := by omega
        obtain rfl : m3 = n3 := by omega
        have icf : (10 : Int) ≤ (cf : Int) := by omega
        have jcf : 10 ≤ cf := by omega
        clear hm1 hm2 hm3
        have HB := Lib.hid (few19_box w [.int .i64 a, .int .i64 b, .string s, .string s1, .string s2, .slice T m1 ct, .slice F 10 cf, .slice Q m3 cq])
        have c0 := HB.out.cell 0
        have c1 := HB.out.cell 1
        have c2 := HB.out.cell 2
        have c3 := HB.out.cell 3
        have c4 := HB.out.cell 4
        have c5 := HB.out.cell 5
        have c6 := HB.out.cell 6
        have c7 := HB.out.cell 7
        simp only [List.getElem?_cons_succ, List.getElem?_cons_zero] at c0 c1 c2 c3 c4 c5 c6 c7
        go_enter Tryz.func39, Tryz.ntmps39
        go_wp2_with fail
        exact bodyPost_ret (v := .agg #[.int .i64 a, .int .i64 b, .string s, .string s1, .string s2, .slice T m1 ct, .slice F 10 cf, .slice Q m3 cq]) (by simp [results, Tryz.results39, go_sem, c0, c1, c2, c3, c4, c5, c6, c7]) rfl ⟨rfl, HBE.out _⟩
    · by_cases q3 : 8 < n3
      · obtain rfl : m1 = n1 := by omega
        obtain rfl : m2 = n2 := by omega
        obtain rfl : m3 = 8 := by omega
        have icq : (8 : Int) ≤ (cq : Int) := by omega
        have jcq : 8 ≤ cq := by omega
        clear hm1 hm2 hm3
        have HB := Lib.hid (few19_box w [.int .i64 a, .int .i64 b, .string s, .string s1, .string s2, .slice T m1 ct, .slice F m2 cf, .slice Q 8 cq])
        have c0 := HB.out.cell 0
        have c1 := HB.out.cell 1
        have c2 := HB.out.cell 2
        have c3 := HB.out.cell 3
        have c4 := HB.out.cell 4
        have c5 := HB.out.cell 5
        have c6 := HB.out.cell 6
        have c7 := HB.out.cell 7
        simp only [List.getElem?_cons_succ, List.getElem?_cons_zero] at c0 c1 c2 c3 c4 c5 c6 c7
        go_enter Tryz.func39, Tryz.ntmps39
        go_wp2_with fail
        exact bodyPost_ret (v := .agg #[.int .i64 a, .int .i64 b, .string s, .string s1, .string s2, .slice T m1 ct, .slice F m2 cf, .slice Q 8 cq]) (by simp [results, Tryz.results39, go_sem, c0, c1, c2, c3, c4, c5, c6, c7]) rfl ⟨rfl, HBE.out _⟩
      · obtain rfl : m1 = n1 := by omega
        obtain rfl : m2 = n2 := by omega
        obtain rfl : m3 = n3 := by omega
        clear hm1 hm2 hm3
        have HB := Lib.hid (few19_box w [.int .i64 a, .int .i64 b, .string s, .string s1, .string s2, .slice T m1 ct, .slice F m2 cf, .slice Q m3 cq])
        have c0 := HB.out.cell 0
        have c1 := HB.out.cell 1
        have c2 := HB.out.cell 2
        have c3 := HB.out.cell 3
        have c4 := HB.out.cell 4
        have c5 := HB.out.cell 5
        have c6 := HB.out.cell 6
        have c7 := HB.out.cell 7
        simp only [List.getElem?_cons_succ, List.getElem?_cons_zero] at c0 c1 c2 c3 c4 c5 c6 c7
        go_enter Tryz.func39, Tryz.ntmps39
        go_wp2_with fail
        exact bodyPost_ret (v := .agg #[.int .i64 a, .int .i64 b, .string s, .string s1, .string s2, .slice T m1 ct, .slice F m2 cf, .slice Q m3 cq]) (by simp [results, Tryz.results39, go_sem, c0, c1, c2, c3, c4, c5, c6, c7]) rfl ⟨rfl, HBE.out _⟩
end Go.Proofs.YtfoghahidofegaaGreat

namespace Go.Proofs.YtfoghahidofegaaGreat
open Go.RowKit Go.Maps

theorem addTo_pre (es : List Event) (after : Int) (bs : List Event) : ∃ ds, addTo es after bs = es ++ ds := by
  unfold addTo
  split
  · exact ⟨bs, rfl⟩
  · exact ⟨[], (List.append_nil es).symm⟩
theorem growB_pre (es : List Event) (ms : List Bt) : ∃ ds, growB es ms = es ++ ds := by
  induction ms generalizing es with
  | nil => exact ⟨[], (List.append_nil es).symm⟩
  | cons b ms ih =>
    obtain ⟨ds, h⟩ := addTo_pre es es.length (few8 b.2)
    obtain ⟨fs, h2⟩ := ih (addTo es es.length (few8 b.2))
    refine ⟨ds ++ fs, ?_⟩
    show growB (addTo es es.length (few8 b.2)) ms = _
    rw [h2, h, List.append_assoc]
theorem filter_pre (es ds : List Event) (f : Rec → Bool) {x : Int} (hx : x ≤ es.length) : (recsOf (es ++ ds)).filter (fun r => f r && decide (r.pos ≤ x)) = (recsOf es).filter (fun r => f r && decide (r.pos ≤ x)) := by
  rw [recsOf_append, List.filter_append]
  have : (recsFrom es ds).filter (fun r => f r && decide (r.pos ≤ x)) = [] := by
    rw [List.filter_eq_nil_iff]
    intro r hr
    have := (recsFrom_lo hr).1
    simp
    intro _
    omega
  rw [this, List.append_nil]
theorem strm_pre (es ds : List Event) (s : ByteArray) {x : Int} (hx : x ≤ es.length) : strmR (es ++ ds) s x = strmR es s x := filter_pre es ds (fun r => decide (r.ev.stream = s)) hx
theorem qry_pre (es ds : List Event) (q : List Clause) {x : Int} (hx : x ≤ es.length) : qryR (es ++ ds) q x = qryR es q x := filter_pre es ds (fun r => matchM q r.ev) hx
theorem recsFrom_ver (pre es : List Event) (s : ByteArray) {k : Nat} {r : Rec} (h : ((recsFrom pre es).filter (fun r => decide (r.ev.stream = s)))[k]? = some r) : r.ver = (cntS pre s : Int) + k + 1 ∧ r.ev.stream = s := by
  induction es generalizing pre k with
  | nil => simp [recsFrom] at h
  | cons e es ih =>
    simp only [recsFrom, List.filter_cons] at h
    have hc : cntS (pre ++ [e]) s = cntS pre s + (if e.stream = s then 1 else 0) := by
      unfold cntS
      rw [List.filter_append, List.length_append]
      by_cases h : e.stream = s <;> simp [h]
    by_cases he : e.stream = s
    · simp only [he, decide_true, if_true] at h
      cases k with
      | zero =>
        simp only [List.getElem?_cons_zero, Option.some.injEq] at h
        subst h
        exact ⟨by simp, he⟩
      | succ k =>
        rw [List.getElem?_cons_succ] at h
        have := ih (pre ++ [e]) h
        rw [hc, if_pos he] at this
        exact ⟨by rw [this.1]; push_cast; omega, this.2⟩
    · simp only [he, decide_false, Bool.false_eq_true, if_false] at h
      have := ih (pre ++ [e]) h
      rw [hc, if_neg he] at this
      exact ⟨by rw [this.1]; push_cast; omega, this.2⟩
theorem strm_at (es : List Event) (s : ByteArray) {k : Nat} {r : Rec} (h : (strmR es s es.length)[k]? = some r) : r.ver = k + 1 ∧ r.ev.stream = s := by
  rw [strmR_all es s (Int.le_refl _)] at h
  have := recsFrom_ver [] es s h
  exact ⟨by rw [this.1]; simp [cntS], this.2⟩
theorem qry_rise (es : List Event) (q : List Clause) (x : Int) : (qryR es q x).Pairwise (fun a b => a.pos < b.pos) := (recsOf_rise es).sublist List.filter_sublist
theorem qry_mem {es : List Event} {q : List Clause} {x : Int} {r : Rec} (h : r ∈ qryR es q x) : matchM q r.ev = true := by
  have := (List.mem_filter.1 h).2
  rw [Bool.and_eq_true] at this
  exact this.1
theorem qry_more (es : List Event) (q : List Clause) {a : Int} (ha : a ≤ es.length) : sinceR es q a = decide ((qryR es q a).length < (qryR es q es.length).length) := by
  have h1 : qryR es q a = (qryR es q es.length).filter (fun r => decide (r.pos ≤ a)) := by
    unfold qryR
    rw [List.filter_filter]
    refine List.filter_congr (fun r hr => ?_)
    have := (recsOf_mem hr).2.1
    simp only [decide_eq_true this, Bool.and_true]
    rw [Bool.and_comm]
  have hle := List.length_filter_le (fun r : Rec => decide (r.pos ≤ a)) (qryR es q es.length)
  rw [Bool.eq_iff_iff, decide_eq_true_eq, h1]
  constructor
  · intro h
    refine Nat.lt_of_le_of_ne hle (fun e => ?_)
    have h2 := List.length_filter_eq_length_iff.1 e
    unfold sinceR at h
    obtain ⟨r, hr, hc⟩ := List.any_eq_true.1 h
    rw [Bool.and_eq_true, decide_eq_true_eq] at hc
    have h3 := h2 r (List.mem_filter.2 ⟨hr, by rw [hc.1, decide_eq_true (recsOf_mem hr).2.1]; rfl⟩)
    rw [decide_eq_true_eq] at h3
    omega
  · intro h
    cases hs : sinceR es q a with
    | true => rfl
    | false =>
      exfalso
      refine Nat.ne_of_lt h (List.length_filter_eq_length_iff.2 (fun r hr => ?_))
      obtain ⟨hr, hm⟩ := List.mem_filter.1 hr
      rw [Bool.and_eq_true] at hm
      unfold sinceR at hs
      rw [List.any_eq_false] at hs
      have h3 := hs r hr
      rw [hm.1, Bool.true_and, decide_eq_true_eq] at h3
      rw [decide_eq_true_eq]
      omega
end Go.Proofs.YtfoghahidofegaaGreat

namespace Go.Proofs.YtfoghahidofegaaGreat
open Go.RowKit Go.Maps

theorem same_filter {rs : List Rec} (f : Rec → Bool) (g : Rec → Bool) (hfg : ∀ r ∈ rs, f r = true → g r = true) : sameRs (rs.filter f) (rs.filter g) = decide ((rs.filter g).length = (rs.filter f).length) := by
  have h1 : rs.filter f = (rs.filter g).filter f := by
    rw [List.filter_filter]
    refine List.filter_congr (fun r hr => ?_)
    by_cases h : f r = true
    · rw [h, hfg r hr h]; rfl
    · simp [h]
  rw [Bool.eq_iff_iff, sameRs_iff, decide_eq_true_eq]
  constructor
  · intro h; rw [h]
  · intro h
    rw [h1] at h ⊢
    exact List.filter_eq_self.2 (List.length_filter_eq_length_iff.1 h.symm)
theorem read_one (es : List Event) (s : ByteArray) {t : Nat} (ht : t ≤ es.length) : sameRs (strmR es s t) (strmR es s es.length) = decide ((verR es s es.length : Int) = (verR es s t : Int)) := by
  unfold strmR verR
  rw [same_filter _ _ (fun r _ h => by
    simp only [Bool.and_eq_true, decide_eq_true_eq] at h ⊢
    exact ⟨h.1, by omega⟩)]
  unfold strmR
  exact decide_eq_decide.2 (by omega)
theorem read_two (es : List Event) (q : List Clause) {t : Nat} (ht : t ≤ es.length) : sameRs (qryR es q t) (qryR es q es.length) = !sinceR es q t := by
  unfold qryR
  rw [same_filter _ _ (fun r _ h => by
    simp only [Bool.and_eq_true, decide_eq_true_eq] at h ⊢
    exact ⟨h.1, by omega⟩)]
  rw [Bool.eq_iff_iff, decide_eq_true_eq, Bool.not_eq_true']
  have h1 : (recsOf es).filter (fun r => matchM q r.ev && decide (r.pos ≤ (t : Int))) = ((recsOf es).filter (fun r => matchM q r.ev && decide (r.pos ≤ (es.length : Int)))).filter (fun r => decide (r.pos ≤ (t : Int))) := by
    rw [List.filter_filter]
    refine List.filter_congr (fun r hr => ?_)
    have := (recsOf_mem hr).2.1
    simp only [decide_eq_true this, Bool.and_true]
    rw [Bool.and_comm]
  rw [h1]
  constructor
  · intro h
    have h2 := List.length_filter_eq_length_iff.1 h.symm
    unfold sinceR
    rw [List.any_eq_false]
    intro r hr hc
    rw [Bool.and_eq_true, decide_eq_true_eq] at hc
    have h3 := h2 r (List.mem_filter.2 ⟨hr, by rw [hc.1, decide_eq_true (recsOf_mem hr).2.1]; rfl⟩)
    rw [decide_eq_true_eq] at h3
    omega
  · intro h
    refine (List.length_filter_eq_length_iff.2 (fun r hr => ?_)).symm
    obtain ⟨hr, hm⟩ := List.mem_filter.1 hr
    rw [Bool.and_eq_true] at hm
    unfold sinceR at h
    rw [List.any_eq_false] at h
    have h3 := h r hr
    rw [hm.1, Bool.true_and, decide_eq_true_eq] at h3
    rw [decide_eq_true_eq]
    omega
end Go.Proofs.YtfoghahidofegaaGreat

namespace Go.Proofs.YtfoghahidofegaaGreat
open Go.RowKit Go.Maps

section
variable {w : World} {y : Nat} {A : Option Addr} {c : Nat} {rs : List Rec} {X : Nat → Prop}
set_option maxHeartbeats 4000000 in
set_option maxRecDepth 100000 in
theorem ref14Query_any (h : Rx w y A c rs X) (hl : rs.length ≤ 100000) {q : List Clause} {Q : Option Addr} {cq : Nat} (hq : SlC w Q cq q) (x : Int) :
    Calls Tryz.prog 44 #[.pointer (some ⟨y, 0, none⟩), .agg #[.slice Q q.length cq], .int .i64 x] w (RetRef y (rs.filter (fun r => matchM q r.ev && decide (r.pos ≤ x))) w) := by
  have hc1 := h.sl.1
  have hc2 := h.sl.2.1
  unfold maxLen at hc2
  obtain ⟨W1, hW1⟩ : ∃ W1, W1 = w.alloc (.cells #[.slice Q q.length cq] 25) := ⟨_, rfl⟩
  have HW1 := Lib.hid hW1
  have hb1 : Below w.heap.size w W1 := by rw [hW1]; exact (Below.refl _ _).alloc (Nat.le_refl _) _
  have hxq : Bx W1 w.heap.size 25 [.slice Q q.length cq] := by rw [hW1]; exact Bx.new w _ _
  have HB1 := Lib.hid hb1
  have HXQ := Lib.hid hxq
  have HQ := Lib.hid (hq.below hb1)
  have H := Lib.hid (h.below hb1)
  obtain ⟨f, hf⟩ : ∃ f : Rec → Bool, f = fun r => matchM q r.ev && decide (r.pos ≤ x) := ⟨_, rfl⟩
  rw [← hf]
  have HF := Lib.hid hf
  have hyl := (h.below hb1).bx.lt
  have HO := Lib.hid (Own.lit0 kRec 101 W1.heap.size (fun j => j < W1.heap.size) W1 (Nat.le_refl _))
  clear h hf hq hb1 hxq
  go_enter Tryz.func44, Tryz.ntmps44
  go_upto_region 1 with fail
  rw [← HW1.out]
  clear hW1 HW1
  go_wp2_with fail
  go_loopw [7, 8] (fun v i wr => ∃ k : Nat, k ≤ rs.length ∧ i = .int .i64 k ∧ Own kRec 101 W1.heap.size (fun j => j < W1.heap.size) wr v ((rs.take k).filter f) ∧ Below W1.heap.size W1 wr) (fun _ i _ => rs.length - (intOf i).toNat)
  case atStart => exact ⟨0, Nat.zero_le _, rfl, HO.out, (Below.refl _ _).alloc (Nat.le_refl _) _⟩
  case round =>
    clear HO
    obtain ⟨k, hk, rfl, ho, hb⟩ := hrel
    have x0 := (H.out.bx.under hb).cell 0
    simp only [List.getElem?_cons_zero] at x0
    by_cases hlt : k < rs.length
    · obtain ⟨ad, S, sa, T, ta, rfl, c0, c1, c2, c3, c4, c5, hS, hT⟩ := row_rec_at ((H.out.sl.bound).below hb).2.2 hlt
      have HY := Lib.hid (fun hy => filter_take_yes (f := f) hlt hy)
      have HN := Lib.hid (fun hy => filter_take_no (f := f) hlt hy)
      have hfl : ((rs.take k).filter f).length ≤ k := by have := List.length_filter_le f (rs.take k); rw [List.length_take] at this; omega
      generalize rs[k] = r at c0 c1 c2 c3 c4 c5 hS hT HY HN
      have HS := Lib.hid hS
      have HT := Lib.hid hT
      have HOW := Lib.hid ho
      have HB := Lib.hid hb
      have e1 : (0 : Int) ≤ (k : Int) := Int.natCast_nonneg _
      have e2 : (k : Int) < (rs.length : Int) := by omega
      have hbs := hb.size
      obtain ⟨m, hm⟩ : ∃ m, matchM q r.ev = m := ⟨_, rfl⟩
      have hfr : f r = (m && decide (r.pos ≤ x)) := by rw [HF.out, ← hm]
      have HFR := Lib.hid hfr
      have HCF := Lib.hid (fun W (hw : Below wr.heap.size wr W) => show W.cell? (ad.add (k * 6)) = some (.int .i64 r.pos) ∧ W.cell? ⟨(ad.add (k * 6)).block, (ad.add (k * 6)).off + 1, none⟩ = some (.int .i64 r.ver) ∧ W.cell? ⟨w.heap.size, 0, none⟩ = some (.slice Q q.length cq) ∧ W.cell? ⟨y, 0, none⟩ = some (.slice (some ad) rs.length c) ∧ W.cell? ⟨(ad.add (k * 6)).block, (ad.add (k * 6)).off + 2, none⟩ = some (.string r.ev.stream) ∧ W.cell? ⟨(ad.add (k * 6)).block, (ad.add (k * 6)).off + 2 + 1, none⟩ = some (.string r.ev.type) ∧ W.cell? ⟨(ad.add (k * 6)).block, (ad.add (k * 6)).off + 2 + 2, none⟩ = some (.slice S r.ev.tags.length sa) ∧ W.cell? ⟨(ad.add (k * 6)).block, (ad.add (k * 6)).off + 2 + 3, none⟩ = some (.slice T r.ev.fields.length ta) from
        ⟨(hw.cell (World.block_lt_of_cell? wr _ c0)).trans c0, (hw.cell (World.block_lt_of_cell? wr _ c1)).trans c1, ((HXQ.out.under hb).under hw).cell 0, ((H.out.bx.under hb).under hw).cell 0, (hw.cell (World.block_lt_of_cell? wr _ c2)).trans c2, (hw.cell (World.block_lt_of_cell? wr _ c3)).trans c3, (hw.cell (World.block_lt_of_cell? wr _ c4)).trans c4, (hw.cell (World.block_lt_of_cell? wr _ c5)).trans c5⟩)
      have DM := Lib.hid (fun W (R : Prop) (hW : Below wr.heap.size wr W ∧ R) => show Calls Tryz.prog 86 #[.agg #[.slice Q q.length cq], .agg #[.string r.ev.stream, .string r.ev.type, .slice S r.ev.tags.length sa, .slice T r.ev.fields.length ta]] W fun r w' => r = .returned (.bool m) ∧ Below W.heap.size W w' from by
        have := Match06_any (e := r.ev) (F := T) (cf := ta) (HQ.out.below (bthen HB.out hW.1)) (HS.out.below hW.1).any
        rw [hm] at this
        exact this)
      clear hS hT ho hb hfr hm c0 c1 c2 c3 c4 c5
      go_upto_region 5 with fail
      go_cut [9] (fun v wx => v = .bool m ∧ Below wr.heap.size wr wx)
      case first =>
        have HK := Lib.hid (fun W (hw : Below wr.heap.size wr W) => show Below wr.heap.size wr W ∧ W.cell? ⟨w.heap.size, 0, none⟩ = some (.slice Q q.length cq) ∧ W.cell? ⟨y, 0, none⟩ = some (.slice (some ad) rs.length c) ∧ W.cell? ⟨(ad.add (k * 6)).block, (ad.add (k * 6)).off + 2, none⟩ = some (.string r.ev.stream) ∧ W.cell? ⟨(ad.add (k * 6)).block, (ad.add (k * 6)).off + 2 + 1, none⟩ = some (.string r.ev.type) ∧ W.cell? ⟨(ad.add (k * 6)).block, (ad.add (k * 6)).off + 2 + 2, none⟩ = some (.slice S r.ev.tags.length sa) ∧ W.cell? ⟨(ad.add (k * 6)).block, (ad.add (k * 6)).off + 2 + 3, none⟩ = some (.slice T r.ev.fields.length ta) from ⟨hw, (HCF.out W hw).2.2⟩)
        go_region_held3 (fun W => Below wr.heap.size wr W ∧ W.cell? ⟨w.heap.size, 0, none⟩ = some (.slice Q q.length cq) ∧ W.cell? ⟨y, 0, none⟩ = some (.slice (some ad) rs.length c) ∧ W.cell? ⟨(ad.add (k * 6)).block, (ad.add (k * 6)).off + 2, none⟩ = some (.string r.ev.stream) ∧ W.cell? ⟨(ad.add (k * 6)).block, (ad.add (k * 6)).off + 2 + 1, none⟩ = some (.string r.ev.type) ∧ W.cell? ⟨(ad.add (k * 6)).block, (ad.add (k * 6)).off + 2 + 2, none⟩ = some (.slice S r.ev.tags.length sa) ∧ W.cell? ⟨(ad.add (k * 6)).block, (ad.add (k * 6)).off + 2 + 3, none⟩ = some (.slice T r.ev.fields.length ta)) (first | exact HK.out _ (below_drawn (Below.refl _ _)) | exact HK.out _ HB5.out | (assumption))
          (first | (go_at_call 86; go_fit (DM.out _ _ (by assumption)); rintro r w5 ⟨rfl, hb5⟩; have HB5 := Lib.hid (bthen (below_drawn (Below.refl _ _)) hb5); clear hb5))
        all_goals go_wp2_with fail
        all_goals go_meet
        all_goals exact ⟨rfl, HB5.out⟩
      case rest =>
        obtain ⟨rfl, hbc⟩ := hcut
        have HBC := Lib.hid hbc
        obtain ⟨c0, c1, _, y0, c2, c3, c4, c5⟩ := HCF.out _ hbc
        have HOC := Lib.hid (HOW.out.below hbc)
        have hcs := hbc.size
        have hws : W1.heap.size ≤ wc.heap.size := by omega
        clear hbc x0
        cases m with
        | true =>
          by_cases h2 : r.pos ≤ x
          · have HTK := Lib.hid (HY.out (by rw [HFR.out, decide_eq_true h2]; rfl))
            go_wp2_with (at_builtin; refine wpList_pushH (W := wc) rfl _ _ _ rfl 101 _ 6 96 Tryz.underlying32 infoRec rfl (by decide) (by decide) rfl W1.heap.size (fun i => i < W1.heap.size) u7 _ rfl HOC.out r [.int .i64 r.pos, .int .i64 r.ver, .string r.ev.stream, .string r.ev.type, .slice S r.ev.tags.length sa, .slice T r.ev.fields.length ta] (kRec_mk ((HS.out.below HBC.out).mono (fun i hi => ⟨hi.2, own_far HOC.out i hi.2⟩)) ((HT.out.below HBC.out).mono (fun i hi => ⟨hi.2, own_far HOC.out i hi.2⟩))) wc.heap.size rfl rfl hws (by omega) ?_; intro v1 w6 hown1 hg1 hat1 hbel1; have HO5 := Lib.hid hown1; have HB5 := Lib.hid (hbel1 W1 (bthen HB.out HBC.out)); clear hown1 hg1 hat1 hbel1)
            go_roundw
            case rel => exact ⟨k + 1, by omega, by go_num, by rw [HTK.out]; exact HO5.out, HB5.out⟩
            case measure => simp [intOf]; omega
          · have HTK := Lib.hid (HN.out (by rw [HFR.out, decide_eq_false h2]; rfl))
            go_wp2_with fail
            go_roundw
            case rel => exact ⟨k + 1, by omega, by go_num, by rw [HTK.out]; exact HOC.out, bthen HB.out HBC.out⟩
            case measure => simp [intOf]; omega
        | false =>
          have HTK := Lib.hid (HN.out (by rw [HFR.out]; rfl))
          go_wp2_with fail
          go_roundw
          case rel => exact ⟨k + 1, by omega, by go_num, by rw [HTK.out]; exact HOC.out, bthen HB.out HBC.out⟩
          case measure => simp [intOf]; omega
    · obtain rfl : k = rs.length := by omega
      rw [List.take_length] at ho
      obtain ⟨A1, c1, rfl, hs⟩ := ho.sl
      have HS := Lib.hid hs.any
      have HB := Lib.hid hb
      clear ho hs hb
      go_wp2_with fail
      go_ret
      exact ⟨A1, c1, rfl, HS.out, bthen HB1.out HB.out⟩
end
end Go.Proofs.YtfoghahidofegaaGreat

namespace Go.Proofs.YtfoghahidofegaaGreat
open Go.RowKit

theorem keepL_sub {gs : List Grd} {g x : Grd} (h : x ∈ gs) : x ∈ keepL gs g := by
  by_cases h0 : addE gs g = 0
  · rw [keepL_ok h0]
    unfold addL
    rw [if_neg (by simp [h0])]
    split
    · exact h
    · exact List.mem_append_left _ h
  · rw [keepL_no h0]; exact h
theorem keepL_in {gs : List Grd} {g : Grd} (h0 : addE gs g = 0) : g ∈ keepL gs g := by
  rw [keepL_ok h0]
  unfold addL
  rw [if_neg (by simp [h0])]
  split
  · rename_i h; exact hasG_mem.1 h
  · simp
theorem add_may {gs : List Grd} {g : Grd} (h : mayG g ≠ 0) : addE gs g = mayG g ∧ keepL gs g = gs := by
  have h0 : addE gs g = mayG g := by unfold addE; rw [if_pos h]
  exact ⟨h0, keepL_no (by rw [h0]; exact h)⟩
theorem add_again {gs : List Grd} {g : Grd} (h : mayG g ≠ 0 ∨ g ∈ gs) : addE gs g = mayG g ∧ keepL gs g = gs := by
  by_cases h0 : mayG g = 0
  · obtain ⟨h1, h2⟩ := addE_has h0 (h.resolve_left (fun h => h h0))
    exact ⟨by rw [h1, h0], h2⟩
  · exact add_may h0
theorem add_room {gs : List Grd} {g : Grd} (h : gs.length < 16) : addE gs g = mayG g := by
  by_cases h0 : mayG g = 0
  · unfold addE
    rw [if_neg (by simp [h0]), h0]
    split
    · rfl
    · rw [if_neg (by omega)]
  · exact (add_may h0).1
section
variable {es ds : List Event} {s : ByteArray} {q : List Clause} {n : Nat}
/-- The guards after both were read. -/
abbrev seesG (es : List Event) (n : Nat) (s : ByteArray) (q : List Clause) : List Grd := keepL (keepL [] (gRead es n s)) (gAsk n q)
theorem sees_len1 : (keepL [] (gRead es n s)).length ≤ 1 := by
  by_cases h : addE [] (gRead es n s) = 0
  · rw [keepL_ok h]; unfold addL hasG; simp [h]
  · rw [keepL_no h]; simp
theorem sees_read (hn : n ≤ es.length) : gRead (es ++ ds) n s = gRead es n s := by
  unfold gRead verR
  rw [strm_pre es ds s (by omega)]
theorem sees_e1 : addE [] (gRead es n s) = mayG (gRead es n s) := add_room (by simp)
theorem sees_f1 : addE (keepL [] (gRead es n s)) (gAsk n q) = mayG (gAsk n q) := add_room (by have := sees_len1 (es := es) (s := s) (n := n); omega)
theorem sees_e2 (hn : n ≤ es.length) : addE (seesG es n s q) (gRead (es ++ ds) n s) = addE [] (gRead es n s) ∧ keepL (seesG es n s q) (gRead (es ++ ds) n s) = seesG es n s q := by
  rw [sees_read hn, sees_e1]
  refine add_again ?_
  by_cases h : mayG (gRead es n s) = 0
  · exact .inr (keepL_sub (keepL_in (by rw [sees_e1, h])))
  · exact .inl h
theorem sees_f2 : addE (seesG es n s q) (gAsk n q) = addE (keepL [] (gRead es n s)) (gAsk n q) ∧ keepL (seesG es n s q) (gAsk n q) = seesG es n s q := by
  rw [sees_f1]
  refine add_again ?_
  by_cases h : mayG (gAsk n q) = 0
  · exact .inr (keepL_in (by rw [sees_f1, h]))
  · exact .inl h
theorem sees_rd (hn : n ≤ es.length) : rdR (es ++ ds) n (seesG es n s q) s = rdR es n [] s := by
  unfold rdR
  rw [(sees_e2 hn).1, strm_pre es ds s (by omega)]
theorem sees_ak (hn : n ≤ es.length) : akR (es ++ ds) n (seesG es n s q) q = akR es n (keepL [] (gRead es n s)) q := by
  unfold akR
  rw [sees_f2.1, qry_pre es ds q (by omega)]
theorem sees_holds1 (hn : n ≤ es.length) : holdsR (es ++ ds) (gRead es n s) = sameRs (strmR es s n) (strmR (es ++ ds) s (es ++ ds).length) := by
  have h := read_one (es ++ ds) s (t := n) (by rw [List.length_append]; omega)
  rw [strm_pre es ds s (by omega)] at h
  rw [h]
  have hv : verR (es ++ ds) s (n : Int) = verR es s n := by unfold verR; rw [strm_pre es ds s (by omega)]
  rw [hv]
  rfl
theorem sees_holds2 (hn : n ≤ es.length) : holdsR (es ++ ds) (gAsk n q) = sameRs (qryR es q n) (qryR (es ++ ds) q (es ++ ds).length) := by
  have h := read_two (es ++ ds) q (t := n) (by rw [List.length_append]; omega)
  rw [qry_pre es ds q (by omega)] at h
  rw [h]
  rfl
theorem sees_chk {fs : List Event} {z : Event} {a b : Bool} (ha : a = (decide (addE [] (gRead es n s) ≠ 0) || holdsR fs (gRead es n s))) (hb : b = (decide (addE (keepL [] (gRead es n s)) (gAsk n q) ≠ 0) || holdsR fs (gAsk n q))) :
    chkE fs (seesG es n s q) [z] = if (a && b) = true then 0 else 20 := by
  unfold chkE
  rw [if_neg (by simp)]
  have hne : gRead es n s ≠ gAsk n q := fun e => by
    have := congrArg (fun g : Grd => g.2.2.2) e
    simp [gRead, gAsk] at this
  have h1 : keepL [] (gRead es n s) = if addE [] (gRead es n s) = 0 then [gRead es n s] else [] := by
    by_cases h : addE [] (gRead es n s) = 0
    · rw [if_pos h]; exact (addE_nil (addE_may h)).2
    · rw [if_neg h, keepL_no h]
  have h2 : seesG es n s q = keepL [] (gRead es n s) ++ if addE (keepL [] (gRead es n s)) (gAsk n q) = 0 then [gAsk n q] else [] := by
    by_cases h : addE (keepL [] (gRead es n s)) (gAsk n q) = 0
    · rw [if_pos h]
      show keepL (keepL [] (gRead es n s)) (gAsk n q) = _
      rw [keepL_ok h]
      unfold addL
      rw [if_neg (by simp [h]), if_neg]
      rw [hasG_mem]
      intro hm
      rw [h1] at hm
      split at hm
      · exact hne (List.mem_singleton.1 hm).symm
      · cases hm
    · rw [if_neg h, List.append_nil]; exact keepL_no h
  rw [h2, List.any_append, ha, hb]
  rw [h1]
  by_cases he : addE [] (gRead es n s) = 0
  · by_cases hf : addE (if addE [] (gRead es n s) = 0 then [gRead es n s] else []) (gAsk n q) = 0
    · rw [if_pos he] at hf ⊢
      rw [if_pos hf]
      simp only [List.any_cons, List.any_nil, Bool.or_false]
      rw [he, hf]
      generalize holdsR fs (gRead es n s) = x1
      generalize holdsR fs (gAsk n q) = x2
      cases x1 <;> cases x2 <;> rfl
    · rw [if_pos he] at hf ⊢
      rw [if_neg hf]
      simp only [List.any_cons, List.any_nil, Bool.or_false, List.any_nil]
      rw [he, decide_eq_true hf]
      generalize holdsR fs (gRead es n s) = x1
      cases x1 <;> rfl
  · by_cases hf : addE (if addE [] (gRead es n s) = 0 then [gRead es n s] else []) (gAsk n q) = 0
    · rw [if_neg he] at hf ⊢
      rw [if_pos hf]
      simp only [List.any_cons, List.any_nil, Bool.or_false, Bool.false_or]
      rw [hf, decide_eq_true he]
      generalize holdsR fs (gAsk n q) = x2
      cases x2 <;> rfl
    · rw [if_neg he] at hf ⊢
      rw [if_neg hf]
      simp [he, hf]
end
end Go.Proofs.YtfoghahidofegaaGreat
