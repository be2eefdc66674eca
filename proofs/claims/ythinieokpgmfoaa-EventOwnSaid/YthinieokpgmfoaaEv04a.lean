/- event.names, rise, not; slices.IndexFunc, ContainsFunc, Equal at []api.Field: what they come to (walks). -/
import Derived.Test.YthinieokpgmfoaaNameTag
import Derived.Test.YthinieokpgmfoaaFuncIn
import Derived.Test.YthinieokpgmfoaaRise06
import Derived.Test.YthinieokpgmfoaaTexts04
import Derived.Test.YthinieokpgmfoaaBox
set_option linter.unusedVariables false
set_option linter.unusedSimpArgs false
namespace Go.Proofs.Ythinieokpgmfoaa
open Go.RowKit

abbrev SlF (w : World) (A : Option Addr) (c : Nat) (xs : List (ByteArray × Int)) : Prop := Sl kField (fun _ => True) w A c xs
def fnames (l : List (ByteArray × Int)) : List ByteArray := l.map (·.1)
set_option maxHeartbeats 1000000 in
set_option maxRecDepth 100000 in
theorem names_any {w : World} {A : Option Addr} {c : Nat} {l : List (ByteArray × Int)} (h : SlF w A c l) (hl : l.length ≤ 1000000) :
    Calls Try.prog 50 #[.slice A l.length c] w fun e w' => ∃ A' c', e = .returned (.slice A' l.length c') ∧ SlS w' A' c' (fnames l) ∧ Below w.heap.size w w' := by
  obtain ⟨h1, h2, h3⟩ := h
  unfold maxLen at h2
  go_enter Try.func50, Try.ntmps50
  go_wp2
  go_loopw [3, 8] (fun v i wr => ∃ k : Nat, k ≤ l.length ∧ i = .int .i64 k ∧ Own Kn.str 9 w.heap.size (fun _ => False) wr v (fnames (l.take k)) ∧ Below w.heap.size w wr) (fun _ i _ => l.length - (intOf i).toNat)
  case atStart => exact ⟨0, Nat.zero_le _, rfl, Own.nil_ _ _ _ _ _, Below.refl _ _⟩
  case round =>
    obtain ⟨k, hk, rfl, ho, hb⟩ := hrel
    by_cases hlt : k < l.length
    · obtain ⟨ad, rfl, hx, hy⟩ := row_field_at (h3.below hb) hlt
      have HST := Lib.hid (show fnames (l.take (k + 1)) = fnames (l.take k) ++ [(l[k]).1] by unfold fnames; rw [List.take_succ_eq_append_getElem hlt, List.map_append]; rfl)
      have HLN := Lib.hid (show (fnames (l.take k)).length = k by unfold fnames; simp; omega)
      generalize l[k] = x at hx hy HST
      have e1 : (0 : Int) ≤ (k : Int) := Int.natCast_nonneg _
      have e2 : (k : Int) < (l.length : Int) := by omega
      have HO := Lib.hid (ho.alloc (.cells #[.string x.1, .int .i64 x.2] 41))
      have HB := Lib.hid (show Below w.heap.size w (wr.alloc (.cells #[.string x.1, .int .i64 x.2] 41)) from hb.alloc hb.size _)
      have hws := hb.size
      clear ho
      go_wp2_with (at_builtin; refine wpList_pushH (W := wr.alloc (.cells #[.string x.1, .int .i64 x.2] 41)) rfl _ _ _ rfl 9 _ 1 16 Try.underlying25 infoS2 rfl (by decide) (by decide) rfl w.heap.size (fun _ => False) _ _ rfl HO.out x.1 [.string x.1] rfl (wr.heap.size + 1) (by simp) rfl (by simp; omega) (by rw [HLN.out]; omega) ?_; intro v1 w5 hown1 hg1 hat1 hbel1; have HO5 := Lib.hid hown1; have HB5 := Lib.hid (hbel1 w HB.out); clear hown1 hg1 hat1 hbel1)
      go_roundw
      case rel => exact ⟨k + 1, by omega, by go_num, by rw [HST.out]; exact HO5.out, HB5.out⟩
      case measure => simp [intOf]; omega
    · have hfin : fnames (l.take k) = fnames l := by rw [List.take_of_length_le (by omega)]
      rw [hfin] at ho
      obtain ⟨A', c', rfl, hs⟩ := ho.sl
      have hlen : (fnames l).length = l.length := by simp [fnames]
      rw [hlen] at *
      have HS := Lib.hid hs.any
      clear ho hs hfin hlen
      go_wp2
      go_ret
      exact ⟨A', c', rfl, HS.out, hb⟩

set_option maxHeartbeats 1000000 in
theorem riseE_any {A : Option Addr} {c : Nat} {l : List ByteArray} {w : World} (h : SlS w A c l) :
    Calls Try.prog 55 #[.slice A l.length c] w fun e w' => e = .returned (.bool (riseN l)) ∧ w' = w := by
  obtain ⟨h1, h2, h3⟩ := h
  unfold maxLen at h2
  go_enter Try.func55, Try.ntmps55
  go_wp2_with fail
  go_loopw [3, 4, 7] (fun _ _ i wr => ∃ k : Nat, k ≤ l.length ∧ i = .int .i64 k ∧ Hid (∀ j (hj : j + 1 < l.length), j + 1 < k → ltB l[j] l[j + 1]) ∧ wr = w) (fun _ _ i _ => l.length - (intOf i).toNat)
  case atStart => exact ⟨0, Nat.zero_le _, rfl, Lib.hid (fun j hj hm => by omega), rfl⟩
  case round =>
    obtain ⟨k, hk, rfl, hs, rfl⟩ := hrel
    by_cases hlt : k < l.length
    · obtain ⟨ad, rfl, hx⟩ := row_str_at h3 hlt
      have e1 : (0 : Int) ≤ (k : Int) := Int.natCast_nonneg _
      have e2 : (k : Int) < (l.length : Int) := by omega
      by_cases h0 : k = 0
      · have HST := Lib.hid (show ∀ j (hj : j + 1 < l.length), j + 1 < k + 1 → ltB l[j] l[j + 1] from fun j hj hm => by omega)
        generalize l[k] = x at hx
        have e3 : ¬ (0 : Int) < (k : Int) := by omega
        clear hs h0
        go_wp2
        go_roundw
        case rel => exact ⟨k + 1, by omega, by go_num, HST, by first | rfl | trivial⟩
        case measure => simp [intOf]; omega
      · obtain ⟨j, hj⟩ : ∃ j, k = j + 1 := ⟨k - 1, by omega⟩
        have hj0 : j < l.length := by omega
        have ew : IntKind.i64.wrap ((k : Int) - 1) = (j : Int) := by rw [IntWalk.i64_in _ (by omega)]; omega
        obtain ⟨ad', e', hy⟩ := row_str_at h3 hj0
        injection e' with e'
        subst e'
        have HST := Lib.hid (show ltB l[j] l[k] → ∀ i (hi : i + 1 < l.length), i + 1 < k + 1 → ltB l[i] l[i + 1] from fun hle i hi hm => by
          rcases Nat.lt_or_ge (i + 1) k with h | h
          · exact hs.out i hi h
          · obtain rfl : i = j := by omega
            simpa only [hj] using hle)
        have HNO := Lib.hid (show (¬ ltB l[j] l[k] → riseN l = false) from fun hle => by
          rw [Bool.eq_false_iff]
          intro hr
          exact hle (List.pairwise_iff_getElem.1 ((riseN_iff l).1 hr) j k hj0 hlt (by omega)))
        generalize l[k] = x at hx HST HNO
        generalize l[j] = y at hy HST HNO
        have hq := less_eq2 y x
        have b1 : (0 : Int) ≤ (j : Int) := Int.natCast_nonneg _
        have b3 : (j : Int) < (l.length : Int) := by omega
        have e3 : (0 : Int) < (k : Int) := by omega
        clear hs h0 hj
        by_cases hlx : ltB y x
        · rw [decide_eq_true hlx] at hq
          have HL := Lib.hid (HST.out hlx)
          clear hlx HST HNO
          go_wp2
          go_roundw
          case rel => exact ⟨k + 1, by omega, by go_num, HL, by first | rfl | trivial⟩
          case measure => simp [intOf]; omega
        · rw [decide_eq_false hlx] at hq
          have HL := Lib.hid (HNO.out hlx)
          clear hlx HST HNO
          go_wp2
          go_ret
          exact ⟨by rw [HL.out]; rfl, rfl⟩
    · have HR := Lib.hid (show riseN l = true from (riseN_iff l).2 (by
        refine List.pairwise_iff_getElem.2 ?_
        intro i j hi hj hij
        obtain ⟨d, rfl⟩ : ∃ d, j = i + 1 + d := ⟨j - i - 1, by omega⟩
        induction d with
        | zero => exact hs.out i (by omega) (by omega)
        | succ d ih => exact ltB_trans (ih (by omega) (by omega)) (hs.out (i + 1 + d) (by omega) (by omega))))
      clear hs
      go_wp2
      go_ret
      exact ⟨by rw [HR.out]; rfl, rfl⟩
end Go.Proofs.Ythinieokpgmfoaa
