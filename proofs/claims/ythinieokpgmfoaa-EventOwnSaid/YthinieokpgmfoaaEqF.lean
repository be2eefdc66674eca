/- slices.Equal at []api.Field, event.Same, event.Value. -/
import Derived.Test.YthinieokpgmfoaaEv04a
import Derived.Test.YthinieokpgmfoaaSame06
set_option linter.unusedVariables false
set_option linter.unusedSimpArgs false
namespace Go.Proofs.Ythinieokpgmfoaa
open Go.RowKit

/-- Two fields compared as the model does. -/
theorem fieldEq (x y : ByteArray × Int) : x = y ↔ (x.1 = y.1 ∧ x.2 = y.2) := ⟨fun h => by rw [h]; exact ⟨rfl, rfl⟩, fun h => Prod.ext h.1 h.2⟩
def AlikeF (a b : List (ByteArray × Int)) (k : Nat) : Prop := ∀ j, j < k → a[j]? = b[j]?
theorem alikeF_all {a b : List (ByteArray × Int)} (hl : a.length = b.length) (h : AlikeF a b a.length) : a = b := by
  apply List.ext_getElem? 
  intro i
  by_cases hi : i < a.length
  · exact h i hi
  · rw [List.getElem?_eq_none (by omega), List.getElem?_eq_none (by omega)]
set_option maxHeartbeats 400000 in
theorem equalF_any (A B : Option Addr) (ca cb : Nat) (a b : List (ByteArray × Int)) (w : World) (ha0 : SlF w A ca a) (hb0 : SlF w B cb b) :
    Calls Try.prog 60 #[.slice A a.length ca, .slice B b.length cb] w fun e w' => e = .returned (.bool (decide (a = b))) ∧ ∃ n, w' = w.drewN n := by
  obtain ⟨hca, hma, ha⟩ := ha0
  obtain ⟨hcb, hmb, hb⟩ := hb0
  unfold maxLen at hma hmb
  by_cases hl : a.length = b.length
  · have H0 := Lib.hid hl
    have hl0 : ((a.length : Int) != (b.length : Int)) = false := by rw [hl]; simp
    have hl1 : a.length ≤ b.length := by omega
    have hl2 : b.length ≤ a.length := by omega
    clear hl
    go_enter Try.func60, Try.ntmps60
    go_wp2
    go_loopw [13] (fun i wr => ∃ k n : Nat, k ≤ a.length ∧ i = .int .i64 k ∧ AlikeF a b k ∧ wr = w.drewN n) (fun i _ => a.length - (intOf i).toNat)
    case atStart => exact ⟨0, 0, Nat.zero_le _, rfl, fun j hj => by omega, rfl⟩
    case round =>
      obtain ⟨k, n, hk, rfl, hal, rfl⟩ := hrel
      by_cases hlt : k < a.length
      · obtain ⟨ad, rfl, hx, hx1⟩ := row_field_at ha hlt
        obtain ⟨bd, rfl, hy, hy1⟩ := row_field_at hb (j := k) (by omega)
        have hltb : k < b.length := by omega
        generalize hxe : a[k] = x at hx hx1
        generalize hye : b[k] = y at hy hy1
        have HX := Lib.hid hxe
        have HY := Lib.hid hye
        clear hxe hye
        have hq := strEqL x.1 y.1
        have hxy2 : (x = y) ↔ (x.1 = y.1 ∧ x.2 = y.2) := fieldEq x y
        by_cases h1 : x.1 = y.1
        · by_cases h2 : x.2 = y.2
          · rw [decide_eq_true h1] at hq
            have HXY := Lib.hid (hxy2.2 ⟨h1, h2⟩)
            have h3 : (x.2 == y.2) = true := by simpa using h2
            have h3' : (x.2 != y.2) = false := by simpa using h2
            clear h1 h2 hxy2
            go_wp2
            go_quiet (fail)
            go_wp2
            go_roundw
            case rel =>
              refine ⟨k + 1, _, by omega, by go_num, fun j hj => ?_, rfl⟩
              rcases Nat.lt_or_ge j k with h | h
              · exact hal j h
              · obtain rfl : j = k := by omega
                rw [List.getElem?_eq_getElem hlt, List.getElem?_eq_getElem hltb, HX.out, HY.out, HXY.out]
            case measure => simp [intOf]; omega
          · rw [decide_eq_true h1] at hq
            have HXY := Lib.hid (show a ≠ b from fun e => h2 ((hxy2.1 (by subst e; exact HX.out.symm.trans HY.out)).2))
            have h3 : (x.2 == y.2) = false := by simpa using h2
            have h3' : (x.2 != y.2) = true := by simpa using h2
            clear h1 h2 hxy2
            go_wp2
            go_quiet (fail)
            go_wp2
            go_ret
            refine ⟨?_, _, World.drewN_drewN _ _ _⟩
            have := HXY.out
            simp [this]
        · rw [decide_eq_false h1] at hq
          have HXY := Lib.hid (show a ≠ b from fun e => h1 ((hxy2.1 (by subst e; exact HX.out.symm.trans HY.out)).1))
          clear h1 hxy2
          go_wp2
          go_quiet (fail)
          go_wp2
          go_ret
          refine ⟨?_, _, World.drewN_drewN _ _ _⟩
          have := HXY.out
          simp [this]
      · go_wp2
        go_ret
        refine ⟨?_, _, rfl⟩
        obtain rfl : k = a.length := by omega
        simp [alikeF_all H0.out hal]
  · have hl0 : ((a.length : Int) != (b.length : Int)) = true := by rw [bne_iff_ne]; omega
    go_enter Try.func60, Try.ntmps60
    go_wp2
    go_ret
    refine ⟨?_, 0, rfl⟩
    have : a ≠ b := fun e => hl (by rw [e])
    simp [this]

/-- What an event tells of a field. -/
def valF : List (ByteArray × Int) → ByteArray → Int × Bool
  | [], _ => (0, false)
  | x :: xs, s => if x.1 = s then (x.2, true) else valF xs s
theorem valF_here {l : List (ByteArray × Int)} {k : Nat} (h : k < l.length) {s : ByteArray} (e : (l[k]).1 = s) : valF (l.drop k) s = ((l[k]).2, true) := by
  rw [List.drop_eq_getElem_cons h]; simp [valF, e]
theorem valF_next {l : List (ByteArray × Int)} {k : Nat} (h : k < l.length) {s : ByteArray} (e : (l[k]).1 ≠ s) : valF (l.drop k) s = valF (l.drop (k + 1)) s := by
  rw [List.drop_eq_getElem_cons h]; simp [valF, e]
set_option maxHeartbeats 1000000 in
theorem valueE_any {w : World} {e : Event} {T F : Option Addr} {ct cf : Nat} (hF : SlF w F cf e.fields) (s : ByteArray) :
    Calls Try.prog 27 #[vEvent e T ct F cf, .string s] w fun r w' => r = .returned (.tuple #[.int .i64 (valF e.fields s).1, .bool (valF e.fields s).2]) ∧ Below w.heap.size w w' := by
  obtain ⟨h1, h2, h3⟩ := hF
  unfold maxLen at h2
  obtain ⟨W1, hW1⟩ : ∃ W1, W1 = w.alloc (.cells #[.string e.stream, .string e.type, .slice T e.tags.length ct, .slice F e.fields.length cf] 28) := ⟨_, rfl⟩
  have HW := Lib.hid hW1
  have hB : Below w.heap.size w W1 := by rw [hW1]; exact (Below.refl _ _).alloc (Nat.le_refl _) _
  have hx1 : Bx W1 w.heap.size 28 [.string e.stream, .string e.type, .slice T e.tags.length ct, .slice F e.fields.length cf] := by rw [hW1]; exact Bx.new w _ _
  have c3 := hx1.cell 3
  simp only [List.getElem?_cons_succ, List.getElem?_cons_zero] at c3
  have HB := Lib.hid hB
  clear hB hx1 hW1
  obtain ⟨V, hV⟩ : ∃ V, V = valF e.fields s := ⟨_, rfl⟩
  rw [← hV]
  have HV := Lib.hid hV
  clear hV
  go_enter Try.func27, Try.ntmps27
  go_upto_region 1 with fail
  rw [← HW.out]
  clear HW
  go_wp2_with fail
  clear c3
  go_loopw [11] (fun i wr => ∃ k : Nat, k ≤ e.fields.length ∧ i = .int .i64 k ∧ Hid (V = valF (e.fields.drop k) s) ∧ Below w.heap.size w wr) (fun i _ => e.fields.length - (intOf i).toNat)
  case atStart => exact ⟨0, Nat.zero_le _, rfl, HV, HB.out⟩
  case round =>
    obtain ⟨k, hk, rfl, hv, hb⟩ := hrel
    clear HV
    by_cases hlt : k < e.fields.length
    · obtain ⟨ad, rfl, hx, hy⟩ := row_field_at (h3.below hb) hlt
      have HH := Lib.hid (valF_here hlt (s := s))
      have HN := Lib.hid (valF_next hlt (s := s))
      have HBA := Lib.hid (fun o => (hb.alloc hb.size o : Below w.heap.size w (wr.alloc o)))
      generalize e.fields[k] = x at hx hy HH HN
      have e1 : (0 : Int) ≤ (k : Int) := Int.natCast_nonneg _
      have e2 : (k : Int) < (e.fields.length : Int) := by omega
      have hq := strEqL x.1 s
      clear hb
      by_cases hxs : x.1 = s
      · rw [decide_eq_true hxs] at hq
        have HV := Lib.hid (hv.out.trans (HH.out hxs))
        clear hxs HH HN hv
        go_wp2_with fail
        exact bodyPost_ret (v := .tuple #[.int .i64 x.2, .bool true]) (by simp [results, Try.results27, go_sem]) rfl ⟨by rw [HV.out], HBA.out _⟩
      · rw [decide_eq_false hxs] at hq
        have HV := Lib.hid (hv.out.trans (HN.out hxs))
        clear hxs HH HN hv
        go_wp2_with fail
        go_roundw
        case rel => exact ⟨k + 1, by omega, by go_num, HV, HBA.out _⟩
        case measure => simp [intOf]; omega
    · have HV := Lib.hid (show V = (0, false) by rw [hv.out, List.drop_of_length_le (by omega)]; rfl)
      have HBB := Lib.hid hb
      clear hv hb
      go_wp2_with fail
      exact bodyPost_ret (v := .tuple #[.int .i64 0, .bool false]) (by simp [results, Try.results27, go_sem]) rfl ⟨by rw [HV.out], HBB.out⟩
end Go.Proofs.Ythinieokpgmfoaa
