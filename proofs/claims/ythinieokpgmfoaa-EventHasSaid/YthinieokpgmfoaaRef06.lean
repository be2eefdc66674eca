/- registrarref04.Has. registrarref06.clause. registrarref06.Match. -/
import Derived.Test.YthinieokpgmfoaaMatch
import Derived.Test.YthinieokpgmfoaaBox
import Derived.Test.YthinieokpgmfoaaStep
import Derived.Deep.RegionHeld3
import Derived.Deep.DeepFit
set_option linter.unusedVariables false
set_option linter.unusedSimpArgs false
namespace Go.Proofs.Ythinieokpgmfoaa
open Go.RowKit

theorem hasS_take_no {s : ByteArray} {l : List ByteArray} (h : ∀ j (hj : j < l.length), l[j] ≠ s) : hasS s l = false := by
  rw [Bool.eq_false_iff]
  intro hh
  obtain ⟨j, hj, e⟩ := List.mem_iff_getElem.1 ((hasS_iff s l).1 hh)
  exact h j hj e
set_option maxHeartbeats 400000 in
theorem Has04_any {e : Event} {T F : Option Addr} {ct cf : Nat} {w : World} (h : Sl Kn.str (fun _ => True) w T ct e.tags) (s : ByteArray) :
    Calls Try.prog 29 #[vEvent e T ct F cf, .string s] w fun r w' => r = .returned (.bool (hasS s e.tags)) ∧ Below w.heap.size w w' := by
  have h1 := h.1
  have h2 := h.2.1
  unfold maxLen at h2
  unfold vEvent
  go_enter Try.func29, Try.ntmps29
  go_wp2
  have H1 := Lib.hid (h.alloc (.cells #[.string e.stream, .string e.type, .slice T e.tags.length ct, .slice F e.fields.length cf] 28))
  have hz := (Bx.new w 28 [.string e.stream, .string e.type, .slice T e.tags.length ct, .slice F e.fields.length cf]).cell 2
  have HB := Lib.hid (show Below w.heap.size w (w.alloc (.cells #[.string e.stream, .string e.type, .slice T e.tags.length ct, .slice F e.fields.length cf] 28)) from (Below.refl _ _).alloc (Nat.le_refl _) _)
  simp only [List.getElem?_cons_succ, List.getElem?_cons_zero] at hz
  clear h
  generalize w.alloc (.cells #[.string e.stream, .string e.type, .slice T e.tags.length ct, .slice F e.fields.length cf] 28) = X at *
  generalize w.heap.size = g at hz ⊢
  go_loopw [5] (fun i wr => ∃ k n : Nat, k ≤ e.tags.length ∧ i = .int .i64 k ∧ (∀ j (hj : j < e.tags.length), j < k → e.tags[j] ≠ s) ∧ wr = X.drewN n) (fun i _ => e.tags.length - (intOf i).toNat)
  case atStart => exact ⟨0, 0, Nat.zero_le _, rfl, fun j hj hk => by omega, rfl⟩
  case round =>
    obtain ⟨k, n, hk, rfl, hal, rfl⟩ := hrel
    have HAL := Lib.hid hal
    clear hal
    by_cases hlt : k < e.tags.length
    · obtain ⟨ad, rfl, hx⟩ := row_str_at H1.out.2.2 hlt
      generalize hxe : e.tags[k] = x at hx
      have HX := Lib.hid hxe
      clear hxe
      have b1 : (0 : Int) ≤ (k : Int) := Int.natCast_nonneg _
      have b2 : (k : Int) < (e.tags.length : Int) := by omega
      have hq := strEqL x s
      by_cases hxy : x = s
      · rw [decide_eq_true hxy] at hq
        have HXY := Lib.hid hxy
        clear hxy
        go_wp2
        go_ret
        refine ⟨?_, bthen HB.out (below_drewN (Below.refl _ _) _)⟩
        rw [(hasS_iff s e.tags).2 (by rw [← HXY.out, ← HX.out]; exact List.getElem_mem hlt)]
        rfl
      · rw [decide_eq_false hxy] at hq
        have HXY := Lib.hid hxy
        clear hxy
        go_wp2
        go_roundw
        case rel =>
          refine ⟨k + 1, _, by omega, by go_num, fun j hj hjk => ?_, rfl⟩
          rcases Nat.lt_or_ge j k with h | h
          · exact HAL.out j hj h
          · obtain rfl : j = k := by omega
            rw [HX.out]; exact HXY.out
        case measure => simp [intOf]; omega
    · go_wp2
      go_ret
      refine ⟨?_, bthen HB.out (below_drewN (Below.refl _ _) _)⟩
      rw [hasS_take_no (fun j hj => HAL.out j hj (by omega))]
      rfl
end Go.Proofs.Ythinieokpgmfoaa
namespace Go.Proofs.Ythinieokpgmfoaa
open Go.RowKit

theorem all_of {α : Type} {l : List α} {f : α → Bool} (h : ∀ j (hj : j < l.length), f l[j] = true) : l.all f = true := by
  rw [List.all_eq_true]
  intro x hx
  obtain ⟨j, hj, e⟩ := List.mem_iff_getElem.1 hx
  exact e ▸ h j hj
theorem all_no {α : Type} {l : List α} {f : α → Bool} {j : Nat} (hj : j < l.length) (h : f l[j] = false) : l.all f = false := by
  rw [Bool.eq_false_iff]
  intro hh
  rw [List.all_eq_true.1 hh _ (List.getElem_mem hj)] at h
  cases h
set_option maxHeartbeats 1000000 in
set_option maxRecDepth 4000 in
theorem clause06_any {c : Clause} {e : Event} {S U T F : Option Addr} {cs cu ct cf : Nat} {w : World} (hS : Sl Kn.str (fun _ => True) w S cs c.tags) (hU : Sl Kn.str (fun _ => True) w U cu c.types) (hT : Sl Kn.str (fun _ => True) w T ct e.tags) :
    Calls Try.prog 40 #[.agg #[.slice S c.tags.length cs, .slice U c.types.length cu], vEvent e T ct F cf] w fun r w' => r = .returned (.bool (clauseM e c)) ∧ Below w.heap.size w w' := by
  have hs1 := hS.1
  have hs2 := hS.2.1
  have hu1 := hU.1
  have hu2 := hU.2.1
  unfold maxLen at hs2 hu2
  unfold vEvent
  go_enter Try.func40, Try.ntmps40
  go_upto_region 2 with fail
  have ha : Below w.heap.size w (w.alloc (.cells #[.slice S c.tags.length cs, .slice U c.types.length cu] 33)) := (Below.refl _ _).alloc (Nat.le_refl _) _
  have hbx1 := (Bx.new w 33 [.slice S c.tags.length cs, .slice U c.types.length cu]).alloc (.cells #[.string e.stream, .string e.type, .slice T e.tags.length ct, .slice F e.fields.length cf] 28)
  have hbx2 := Bx.new (w.alloc (.cells #[.slice S c.tags.length cs, .slice U c.types.length cu] 33)) 28 [.string e.stream, .string e.type, .slice T e.tags.length ct, .slice F e.fields.length cf]
  rw [show (w.alloc (.cells #[.slice S c.tags.length cs, .slice U c.types.length cu] 33)).heap.size = w.heap.size + 1 by simp] at hbx2
  have HBW := Lib.hid (show Below w.heap.size w ((w.alloc (.cells #[.slice S c.tags.length cs, .slice U c.types.length cu] 33)).alloc (.cells #[.string e.stream, .string e.type, .slice T e.tags.length ct, .slice F e.fields.length cf] 28)) from ha.alloc (by simp) _)
  have HS := Lib.hid (hS.below HBW.out)
  have HU := Lib.hid (hU.below HBW.out)
  have HT := Lib.hid (hT.below HBW.out)
  have HX1 := Lib.hid hbx1
  have HX2 := Lib.hid hbx2
  clear hS hU hT ha hbx1 hbx2
  generalize (w.alloc (.cells #[.slice S c.tags.length cs, .slice U c.types.length cu] 33)).alloc (.cells #[.string e.stream, .string e.type, .slice T e.tags.length ct, .slice F e.fields.length cf] 28) = X at *
  generalize w.heap.size = g at HX1 HX2 ⊢
  have HK := Lib.hid (fun W (hb : Below X.heap.size X W) => show Below X.heap.size X W ∧ W.cell? ⟨g, 0, none⟩ = some (.slice S c.tags.length cs) ∧ W.cell? ⟨g, 1, none⟩ = some (.slice U c.types.length cu) ∧ W.cell? ⟨g + 1, 0, none⟩ = some (.string e.stream) ∧ W.cell? ⟨g + 1, 1, none⟩ = some (.string e.type) ∧ W.cell? ⟨g + 1, 2, none⟩ = some (.slice T e.tags.length ct) ∧ W.cell? ⟨g + 1, 3, none⟩ = some (.slice F e.fields.length cf) from
    ⟨hb, (HX1.out.under hb).cell 0, (HX1.out.under hb).cell 1, (HX2.out.under hb).cell 0, (HX2.out.under hb).cell 1, (HX2.out.under hb).cell 2, (HX2.out.under hb).cell 3⟩)
  have CH : Hid (∀ W (R : Prop) (x : ByteArray), Below X.heap.size X W ∧ R → Calls Try.prog 29 #[.agg #[.string e.stream, .string e.type, .slice T e.tags.length ct, .slice F e.fields.length cf], .string x] W fun r w' => r = .returned (.bool (hasS x e.tags)) ∧ Below W.heap.size W w') :=
    Lib.hid (fun W R x h => Has04_any (HT.out.below h.1) x)
  clear HX1 HX2
  go_loopw [5] (fun i wr => ∃ k : Nat, k ≤ c.tags.length ∧ i = .int .i64 k ∧ (∀ j (hj : j < c.tags.length), j < k → hasS c.tags[j] e.tags = true) ∧ Below X.heap.size X wr) (fun i _ => c.tags.length - (intOf i).toNat)
  case atStart => exact ⟨0, Nat.zero_le _, rfl, fun j hj hk => by omega, Below.refl _ _⟩
  case round =>
    obtain ⟨k, hk, rfl, hal, hb⟩ := hrel
    have HAL := Lib.hid hal
    have HB := Lib.hid hb
    obtain ⟨_, z0, z1, z2, z3, z4, z5⟩ := HK.out wr hb
    clear hal hb
    by_cases hlt : k < c.tags.length
    · obtain ⟨ad, rfl, hx⟩ := row_str_at HS.out.2.2 hlt
      have hxl : ad.block < X.heap.size := by have := World.block_lt_of_cell? X _ hx; rwa [block_add] at this
      generalize hxe : c.tags[k] = x at hx
      have HX := Lib.hid hxe
      have HKx := Lib.hid (fun W (hb : Below X.heap.size X W) => show Below X.heap.size X W ∧ W.cell? ⟨g, 0, none⟩ = some (.slice (some ad) c.tags.length cs) ∧ W.cell? ⟨g + 1, 0, none⟩ = some (.string e.stream) ∧ W.cell? ⟨g + 1, 1, none⟩ = some (.string e.type) ∧ W.cell? ⟨g + 1, 2, none⟩ = some (.slice T e.tags.length ct) ∧ W.cell? ⟨g + 1, 3, none⟩ = some (.slice F e.fields.length cf) ∧ W.cell? (ad.add k) = some (.string x) from by
        obtain ⟨a, a0, a1, a2, a3, a4, a5⟩ := HK.out W hb
        exact ⟨a, a0, a2, a3, a4, a5, (hb.cell (by rw [block_add]; exact hxl)).trans hx⟩)
      have CX := Lib.hid (fun W R h => CH.out W R x h)
      clear hxe hx
      have b1 : (0 : Int) ≤ (k : Int) := Int.natCast_nonneg _
      have b2 : (k : Int) < (c.tags.length : Int) := by omega
      generalize hhe : hasS x e.tags = hh at CX
      have HH := Lib.hid hhe
      clear hhe
      go_upto_region 4 with fail
      clear z0 z1 z2 z3 z4 z5
      rcases hh with _ | _
      all_goals go_region_held3 (fun W => Below X.heap.size X W ∧ W.cell? ⟨g, 0, none⟩ = some (.slice (some ad) c.tags.length cs) ∧ W.cell? ⟨g + 1, 0, none⟩ = some (.string e.stream) ∧ W.cell? ⟨g + 1, 1, none⟩ = some (.string e.type) ∧ W.cell? ⟨g + 1, 2, none⟩ = some (.slice T e.tags.length ct) ∧ W.cell? ⟨g + 1, 3, none⟩ = some (.slice F e.fields.length cf) ∧ W.cell? (ad.add k) = some (.string x)) (first | exact HKx.out _ (below_drawn HB.out) | (assumption) | exact HKx.out _ (bthen (And.left (by assumption : Below X.heap.size X _ ∧ _)) (by assumption))) (first | (go_at_call 29; go_fit (CX.out _ _ (by assumption)); rintro r w6 ⟨rfl, hb6⟩))
      · have HB6 := Lib.hid (bthen (below_drawn HB.out) hb6)
        clear hb6
        go_wp2
        go_ret
        refine ⟨?_, bthen HBW.out HB6.out⟩
        have : c.tags.all (fun s => hasS s e.tags) = false := all_no hlt (by rw [HX.out]; exact HH.out)
        unfold clauseM
        rw [this]
        rfl
      · have HB6 := Lib.hid (bthen (below_drawn HB.out) hb6)
        clear hb6
        go_wp2
        go_roundw
        case rel =>
          refine ⟨k + 1, by omega, by go_num, fun j hj hjk => ?_, HB6.out⟩
          rcases Nat.lt_or_ge j k with h | h
          · exact HAL.out j hj h
          · obtain rfl : j = k := by omega
            rw [HX.out]; exact HH.out
        case measure => simp [intOf]; omega
    · have HALL := Lib.hid (show c.tags.all (fun s => hasS s e.tags) = true from all_of (fun j hj => HAL.out j hj (by omega)))
      have HU' := Lib.hid (HU.out.below HB.out)
      clear CH HK
      go_wp2
      go_loopw [7] (fun i wq => ∃ k n : Nat, k ≤ c.types.length ∧ i = .int .i64 k ∧ (∀ j (hj : j < c.types.length), j < k → c.types[j] ≠ e.type) ∧ wq = wr.drewN n) (fun i _ => c.types.length - (intOf i).toNat)
      case atStart => exact ⟨0, 0, Nat.zero_le _, rfl, fun j hj hk => by omega, rfl⟩
      case round =>
        obtain ⟨k2, n, hk2, rfl, hal, rfl⟩ := hrel
        have HAL2 := Lib.hid hal
        clear hal
        by_cases hlt2 : k2 < c.types.length
        · obtain ⟨ad, rfl, hx⟩ := row_str_at HU'.out.2.2 hlt2
          generalize hxe : c.types[k2] = x at hx
          have HX := Lib.hid hxe
          clear hxe
          have b1 : (0 : Int) ≤ (k2 : Int) := Int.natCast_nonneg _
          have b2 : (k2 : Int) < (c.types.length : Int) := by omega
          have hq := strEqL x e.type
          by_cases hxy : x = e.type
          · rw [decide_eq_true hxy] at hq
            have HXY := Lib.hid hxy
            clear hxy
            go_wp2
            go_quiet (fail)
            go_wp2
            go_ret
            refine ⟨?_, bthen (bthen HBW.out HB.out) (below_drewN (below_drewN (Below.refl _ _) _) _)⟩
            have : hasS e.type c.types = true := (hasS_iff _ _).2 (by rw [← HXY.out, ← HX.out]; exact List.getElem_mem hlt2)
            unfold clauseM
            rw [this, HALL.out]
            simp
          · rw [decide_eq_false hxy] at hq
            have HXY := Lib.hid hxy
            clear hxy
            go_wp2
            go_quiet (fail)
            go_wp2
            go_roundw
            case rel =>
              refine ⟨k2 + 1, _, by omega, by go_num, fun j hj hjk => ?_, rfl⟩
              rcases Nat.lt_or_ge j k2 with h | h
              · exact HAL2.out j hj h
              · obtain rfl : j = k2 := by omega
                rw [HX.out]; exact HXY.out
            case measure => simp [intOf]; omega
        · go_wp2
          go_ret
          refine ⟨?_, bthen (bthen HBW.out HB.out) (below_drewN (Below.refl _ _) _)⟩
          have hno : hasS e.type c.types = false := hasS_take_no (fun j hj => HAL2.out j hj (by omega))
          unfold clauseM
          rw [hno, HALL.out]
          cases c.types with
          | nil => simp
          | cons y ys => simp; omega
end Go.Proofs.Ythinieokpgmfoaa
namespace Go.Proofs.Ythinieokpgmfoaa
open Go.RowKit

theorem any_no {α : Type} {l : List α} {f : α → Bool} (h : ∀ j (hj : j < l.length), f l[j] = false) : l.any f = false := by
  rw [Bool.eq_false_iff]
  intro hh
  obtain ⟨x, hx, e⟩ := List.any_eq_true.1 hh
  obtain ⟨j, hj, e2⟩ := List.mem_iff_getElem.1 hx
  rw [← e2, h j hj] at e
  cases e
set_option maxHeartbeats 1000000 in
set_option maxRecDepth 4000 in
theorem Match06_any {q : List Clause} {e : Event} {Q T F : Option Addr} {cq ct cf : Nat} {w : World} (hQ : SlC w Q cq q) (hT : Sl Kn.str (fun _ => True) w T ct e.tags) :
    Calls Try.prog 16 #[.agg #[.slice Q q.length cq], vEvent e T ct F cf] w fun r w' => r = .returned (.bool (matchM q e)) ∧ Below w.heap.size w w' := by
  have hs1 := hQ.1
  have hs2 := hQ.2.1
  unfold maxLen at hs2
  unfold vEvent
  go_enter Try.func16, Try.ntmps16
  go_upto_region 2 with fail
  have ha : Below w.heap.size w (w.alloc (.cells #[.slice Q q.length cq] 24)) := (Below.refl _ _).alloc (Nat.le_refl _) _
  have hbx1 := (Bx.new w 24 [.slice Q q.length cq]).alloc (.cells #[.string e.stream, .string e.type, .slice T e.tags.length ct, .slice F e.fields.length cf] 28)
  have hbx2 := Bx.new (w.alloc (.cells #[.slice Q q.length cq] 24)) 28 [.string e.stream, .string e.type, .slice T e.tags.length ct, .slice F e.fields.length cf]
  rw [show (w.alloc (.cells #[.slice Q q.length cq] 24)).heap.size = w.heap.size + 1 by simp] at hbx2
  have HBW := Lib.hid (show Below w.heap.size w ((w.alloc (.cells #[.slice Q q.length cq] 24)).alloc (.cells #[.string e.stream, .string e.type, .slice T e.tags.length ct, .slice F e.fields.length cf] 28)) from ha.alloc (by simp) _)
  have HQ := Lib.hid (hQ.below HBW.out)
  have HT := Lib.hid (hT.below HBW.out)
  have HX1 := Lib.hid hbx1
  have HX2 := Lib.hid hbx2
  clear hQ hT ha hbx1 hbx2
  generalize (w.alloc (.cells #[.slice Q q.length cq] 24)).alloc (.cells #[.string e.stream, .string e.type, .slice T e.tags.length ct, .slice F e.fields.length cf] 28) = X at *
  generalize w.heap.size = g at HX1 HX2 ⊢
  have HK := Lib.hid (fun W (hb : Below X.heap.size X W) => show Below X.heap.size X W ∧ W.cell? ⟨g, 0, none⟩ = some (.slice Q q.length cq) ∧ W.cell? ⟨g + 1, 0, none⟩ = some (.string e.stream) ∧ W.cell? ⟨g + 1, 1, none⟩ = some (.string e.type) ∧ W.cell? ⟨g + 1, 2, none⟩ = some (.slice T e.tags.length ct) ∧ W.cell? ⟨g + 1, 3, none⟩ = some (.slice F e.fields.length cf) from
    ⟨hb, (HX1.out.under hb).cell 0, (HX2.out.under hb).cell 0, (HX2.out.under hb).cell 1, (HX2.out.under hb).cell 2, (HX2.out.under hb).cell 3⟩)
  clear HX1 HX2
  go_loopw [5] (fun i wr => ∃ k : Nat, k ≤ q.length ∧ i = .int .i64 k ∧ (∀ j (hj : j < q.length), j < k → clauseM e q[j] = false) ∧ Below X.heap.size X wr) (fun i _ => q.length - (intOf i).toNat)
  case atStart => exact ⟨0, Nat.zero_le _, rfl, fun j hj hk => by omega, Below.refl _ _⟩
  case round =>
    obtain ⟨k, hk, rfl, hal, hb⟩ := hrel
    have HAL := Lib.hid hal
    have HB := Lib.hid hb
    obtain ⟨_, z0, z1, z2, z3, z4⟩ := HK.out wr hb
    clear hal hb
    by_cases hlt : k < q.length
    · obtain ⟨ad, S, sa, U, ua, rfl, hx, hy, hS, hU⟩ := row_clause_at HQ.out.2.2 hlt
      have hxl : ad.block < X.heap.size := by have := World.block_lt_of_cell? X _ hx; rwa [block_add] at this
      generalize hxe : q[k] = x at hx hy hS hU
      have HX := Lib.hid hxe
      have HKx := Lib.hid (fun W (hb : Below X.heap.size X W) => show Below X.heap.size X W ∧ W.cell? ⟨g, 0, none⟩ = some (.slice (some ad) q.length cq) ∧ W.cell? ⟨g + 1, 0, none⟩ = some (.string e.stream) ∧ W.cell? ⟨g + 1, 1, none⟩ = some (.string e.type) ∧ W.cell? ⟨g + 1, 2, none⟩ = some (.slice T e.tags.length ct) ∧ W.cell? ⟨g + 1, 3, none⟩ = some (.slice F e.fields.length cf) ∧ W.cell? (ad.add (k * 2)) = some (.slice S x.tags.length sa) ∧ W.cell? ⟨(ad.add (k * 2)).block, (ad.add (k * 2)).off + 1, none⟩ = some (.slice U x.types.length ua) from by
        obtain ⟨a, a0, a2, a3, a4, a5⟩ := HK.out W hb
        exact ⟨a, a0, a2, a3, a4, a5, (hb.cell (by rw [block_add]; exact hxl)).trans hx, (hb.cell (by simp only; rw [block_add]; exact hxl)).trans hy⟩)
      have CX : Hid (∀ W (R : Prop), Below X.heap.size X W ∧ R → Calls Try.prog 40 #[.agg #[.slice S x.tags.length sa, .slice U x.types.length ua], .agg #[.string e.stream, .string e.type, .slice T e.tags.length ct, .slice F e.fields.length cf]] W fun r w' => r = .returned (.bool (clauseM e x)) ∧ Below W.heap.size W w') :=
        Lib.hid (fun W R h => clause06_any (hS.any.below h.1) (hU.any.below h.1) (HT.out.below h.1))
      clear hxe hx hy hS hU
      have b1 : (0 : Int) ≤ (k : Int) := Int.natCast_nonneg _
      have b2 : (k : Int) < (q.length : Int) := by omega
      generalize hhe : clauseM e x = hh at CX
      have HH := Lib.hid hhe
      clear hhe
      go_upto_region 4 with fail
      clear z0 z1 z2 z3 z4
      rcases hh with _ | _
      all_goals go_region_held3 (fun W => Below X.heap.size X W ∧ W.cell? ⟨g, 0, none⟩ = some (.slice (some ad) q.length cq) ∧ W.cell? ⟨g + 1, 0, none⟩ = some (.string e.stream) ∧ W.cell? ⟨g + 1, 1, none⟩ = some (.string e.type) ∧ W.cell? ⟨g + 1, 2, none⟩ = some (.slice T e.tags.length ct) ∧ W.cell? ⟨g + 1, 3, none⟩ = some (.slice F e.fields.length cf) ∧ W.cell? (ad.add (k * 2)) = some (.slice S x.tags.length sa) ∧ W.cell? ⟨(ad.add (k * 2)).block, (ad.add (k * 2)).off + 1, none⟩ = some (.slice U x.types.length ua)) (first | exact HKx.out _ (below_drawn HB.out) | (assumption) | exact HKx.out _ (bthen (And.left (by assumption : Below X.heap.size X _ ∧ _)) (by assumption))) (first | (go_at_call 40; go_fit (CX.out _ _ (by assumption)); rintro r w6 ⟨rfl, hb6⟩))
      · have HB6 := Lib.hid (bthen (below_drawn HB.out) hb6)
        clear hb6
        go_wp2
        go_roundw
        case rel =>
          refine ⟨k + 1, by omega, by go_num, fun j hj hjk => ?_, HB6.out⟩
          rcases Nat.lt_or_ge j k with h | h
          · exact HAL.out j hj h
          · obtain rfl : j = k := by omega
            rw [HX.out]; exact HH.out
        case measure => simp [intOf]; omega
      · have HB6 := Lib.hid (bthen (below_drawn HB.out) hb6)
        clear hb6
        go_wp2
        go_ret
        refine ⟨?_, bthen HBW.out HB6.out⟩
        have : matchM q e = true := List.any_eq_true.2 ⟨_, List.getElem_mem hlt, by rw [HX.out]; exact HH.out⟩
        rw [this]
        rfl
    · go_wp2
      go_ret
      refine ⟨?_, bthen HBW.out HB.out⟩
      have : matchM q e = false := any_no (fun j hj => HAL.out j hj (by omega))
      rw [this]
      rfl
end Go.Proofs.Ythinieokpgmfoaa
