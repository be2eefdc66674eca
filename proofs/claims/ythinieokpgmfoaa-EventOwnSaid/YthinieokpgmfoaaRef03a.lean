/- registrarref03: plain, letters, begins, letter (walks), and what they come to by runes. -/
import Derived.Test.YthinieokpgmfoaaNameMay
import Derived.Deep.RegionHeld3
set_option linter.unusedVariables false
set_option linter.unusedSimpArgs false
namespace Go.Proofs.Ythinieokpgmfoaa
open Go.RowKit

/-- A letter of one byte. -/
def plN (b : Int) : Bool := (decide (97 ≤ b) && decide (b ≤ 122)) || (decide (48 ≤ b) && decide (b ≤ 57)) || decide (b = 45) || decide (b = 95)
set_option maxHeartbeats 1000000 in
theorem plain_any (c : Int) (w : World) : Calls Try.prog 87 #[.int .u8 c] w fun e w' => e = .returned (.bool (plN c)) ∧ w' = w := by
  by_cases h5 : c = 45
  · subst h5; go_enter Try.func87, Try.ntmps87; go_wp2; go_ret; exact ⟨rfl, rfl⟩
  by_cases h6 : c = 95
  · subst h6; go_enter Try.func87, Try.ntmps87; go_wp2; go_ret; exact ⟨rfl, rfl⟩
  have e5 : (c == 45) = false := by simp [h5]
  have e6 : (c == 95) = false := by simp [h6]
  have hl : plN c = ((decide (97 ≤ c) && decide (c ≤ 122)) || (decide (48 ≤ c) && decide (c ≤ 57))) := by simp [plN, h5, h6]
  rw [hl]
  clear hl h5 h6
  by_cases h1 : 97 ≤ c
  · by_cases h2 : c ≤ 122
    · have h3 : 48 ≤ c := by omega
      have h4 : ¬ c ≤ 57 := by omega
      go_enter Try.func87, Try.ntmps87; go_wp2; go_ret
      exact ⟨by simp [h1, h2], rfl⟩
    · have h3 : 48 ≤ c := by omega
      have h4 : ¬ c ≤ 57 := by omega
      go_enter Try.func87, Try.ntmps87; go_wp2; go_ret
      exact ⟨by simp [h2, h4], rfl⟩
  · by_cases h3 : 48 ≤ c
    · by_cases h4 : c ≤ 57
      · go_enter Try.func87, Try.ntmps87; go_wp2; go_ret
        exact ⟨by simp [h3, h4], rfl⟩
      · go_enter Try.func87, Try.ntmps87; go_wp2; go_ret
        exact ⟨by simp [h1, h4]; omega, rfl⟩
    · go_enter Try.func87, Try.ntmps87; go_wp2; go_ret
      exact ⟨by simp [h1, h3]; omega, rfl⟩
/-- The letters of two bytes. -/
def twoB : List ByteArray := [⟨#[195, 169]⟩, ⟨#[195, 184]⟩, ⟨#[195, 159]⟩, ⟨#[206, 187]⟩]
theorem letters_any (w : World) : Calls Try.prog 88 #[] w fun e w' => ∃ A, e = .returned (.slice A 4 4) ∧ SlS w' A 4 twoB ∧ Below w.heap.size w w' := by
  have hs := Sl.lit Value.string (fun _ => rfl) w 9 twoB (by decide)
  have HS := Lib.hid hs
  have HB := Lib.hid (fun o => (Below.refl w.heap.size w).alloc (Nat.le_refl _) o)
  clear hs
  go_enter Try.func88, Try.ntmps88
  go_wp2
  go_ret
  exact ⟨_, rfl, HS.out.any, HB.out _⟩
/-- Whether a text begins with t at a place. -/
def begB (s : ByteArray) (i : Nat) (t : ByteArray) : Bool := decide (s.extract i (i + t.size) = t)
theorem extract_size' (s : ByteArray) (i n : Nat) : (s.extract i (i + n)).size = min (i + n) s.size - i := by simp
theorem begins_any (s : ByteArray) (i : Nat) (t : ByteArray) (hi : i ≤ s.size) (hs : s.size ≤ 1000000) (ht : t.size ≤ 1000000) (w : World) : Calls Try.prog 89 #[.string s, .int .i64 i, .string t] w fun e w' => e = .returned (.bool (begB s i t)) ∧ w' = w := by
  by_cases hl : t.size ≤ s.size - i
  · have ew : IntKind.i64.wrap ((s.size : Int) - (i : Int)) = ((s.size - i : Nat) : Int) := by rw [IntWalk.i64_in _ (by omega)]; omega
    have ew2 : IntKind.i64.wrap ((i : Int) + (t.size : Int)) = ((i + t.size : Nat) : Int) := by rw [IntWalk.i64_in _ (by omega)]; omega
    obtain ⟨n, hn⟩ : ∃ n, n = s.size - i := ⟨_, rfl⟩
    obtain ⟨m, hm⟩ : ∃ m, m = i + t.size := ⟨_, rfl⟩
    have he : begB s i t = decide (s.extract i m = t) := by unfold begB; rw [hm]
    have hq := strEqL (s.extract i m) t
    rw [he]
    rw [← hn] at ew
    rw [← hm] at ew2
    have b1 : (t.size : Int) ≤ (n : Int) := by omega
    have b2 : (i : Int) ≤ (m : Int) := by omega
    have b3 : (m : Int) ≤ (s.size : Int) := by omega
    have b4 : (0 : Int) ≤ (i : Int) := Int.natCast_nonneg _
    clear hn hm he
    go_enter Try.func89, Try.ntmps89
    go_wp2
    go_ret
    exact ⟨rfl, rfl⟩
  · have he : begB s i t = false := by
      unfold begB
      rw [decide_eq_false]
      intro e
      have := congrArg ByteArray.size e
      rw [extract_size'] at this
      omega
    rw [he]
    have ew : IntKind.i64.wrap ((s.size : Int) - (i : Int)) = ((s.size - i : Nat) : Int) := by rw [IntWalk.i64_in _ (by omega)]; omega
    obtain ⟨n, hn⟩ : ∃ n, n = s.size - i := ⟨_, rfl⟩
    rw [← hn] at ew hl
    have b1 : ¬ (t.size : Int) ≤ (n : Int) := by omega
    clear hn he
    go_enter Try.func89, Try.ntmps89
    go_wp2
    go_ret
    exact ⟨rfl, rfl⟩
/-- How many bytes the letter at a place has; 0: there is none. -/
def letB (s : ByteArray) (i : Nat) (h : i < s.size) : Int := if plN (s[i]'h).toNat then 1 else if twoB.any (begB s i) then 2 else 0
set_option maxHeartbeats 2000000 in
set_option maxRecDepth 100000 in
theorem refLetter_any (s : ByteArray) (i : Nat) (h : i < s.size) (hs : s.size ≤ 1000000) (w : World) : Calls Try.prog 79 #[.string s, .int .i64 i] w fun e w' => e = .returned (.int .i64 (letB s i h)) ∧ Below w.heap.size w w' := by
  have CP := Lib.hid (fun W => plain_any ((s[i]'h).toNat : Int) W)
  have CL := Lib.hid (fun W => letters_any W)
  have CB := Lib.hid (fun t W (ht : t.size ≤ 1000000) => begins_any s i t (Nat.le_of_lt h) hs ht W)
  have b1 : (0 : Int) ≤ (i : Int) := Int.natCast_nonneg _
  have b2 : (i : Int) < (s.size : Int) := by omega
  by_cases hp : plN ((s[i]'h).toNat : Int) = true
  · have he : letB s i h = 1 := by unfold letB; rw [if_pos hp]
    rw [he]
    rw [hp] at CP
    clear he hp
    go_enter Try.func79, Try.ntmps79
    go_wp2_with (go_at_call 87; go_fit (CP.out _); rintro e w1 ⟨rfl, rfl⟩)
    go_ret
    exact ⟨rfl, Below.refl _ _⟩
  · have hp' : plN ((s[i]'h).toNat : Int) = false := by simpa using hp
    have he : letB s i h = if twoB.any (begB s i) then 2 else 0 := by unfold letB; rw [if_neg hp]
    rw [he]
    rw [hp'] at CP
    obtain ⟨R, hR⟩ : ∃ R : Int, (if twoB.any (begB s i) = true then 2 else 0) = R := ⟨_, rfl⟩
    have HRT := Lib.hid (show twoB.any (begB s i) = true → R = 2 from fun h2 => by rw [← hR, if_pos h2])
    have HRF := Lib.hid (show twoB.any (begB s i) = false → R = 0 from fun h2 => by rw [← hR, h2]; rfl)
    rw [hR]
    clear he hp hp' hR
    go_enter Try.func79, Try.ntmps79
    go_wp2_with (first
      | (go_at_call 88; go_fit (CL.out _); rintro e w2 ⟨A, rfl, hs2, hb2⟩; have HS2 := Lib.hid hs2; have HB2 := Lib.hid hb2; clear hs2 hb2)
      | (go_at_call 87; go_fit (CP.out _); rintro e w1 ⟨rfl, rfl⟩))
    go_loopw [6] (fun j wr => ∃ k : Nat, k ≤ 4 ∧ j = .int .i64 k ∧ Hid ((twoB.take k).any (begB s i) = false) ∧ Below w2.heap.size w2 wr) (fun j _ => 4 - (intOf j).toNat)
    case atStart => exact ⟨0, by omega, rfl, Lib.hid rfl, Below.refl _ _⟩
    case round =>
      obtain ⟨k, hk, rfl, hn, hb⟩ := hrel
      by_cases hk4 : k < 4
      · obtain ⟨ad, rfl, hx⟩ := row_str_at (HS2.out.below hb).2.2 (show k < twoB.length from hk4)
        have hxs : (twoB[k]'hk4).size ≤ 1000000 := by
          have : ∀ t ∈ twoB, t.size ≤ 1000000 := by decide
          exact this _ (List.getElem_mem _)
        have HST := Lib.hid (show (twoB.take (k + 1)).any (begB s i) = begB s i (twoB[k]'hk4) by rw [any_take_succ _ _ _ (show k < twoB.length from hk4), hn.out, Bool.false_or]; rfl)
        have HAL := Lib.hid (show begB s i (twoB[k]'hk4) = true → twoB.any (begB s i) = true from fun h2 => any_of_at (show k < twoB.length from hk4) h2)
        have HAR := Lib.hid (show begB s i (twoB[k]'hk4) = true → R = 2 from fun h2 => HRT.out (HAL.out h2))
        clear HAL
        generalize twoB[k]'hk4 = t at hx hxs HST HAR
        have CT := Lib.hid (fun W => CB.out t W hxs)
        have c1 : (0 : Int) ≤ (k : Int) := Int.natCast_nonneg _
        have c2 : (k : Int) < 4 := by omega
        generalize begB s i t = b at CT HST HAR
        clear CB
        rcases b with _ | _
        · go_wp2_with (go_at_call 89; go_fit (CT.out _); rintro e w3 ⟨rfl, rfl⟩)
          go_roundw
          case rel => exact ⟨k + 1, by omega, by go_num, HST, hb⟩
          case measure => simp [intOf]; omega
        · have HR2 := Lib.hid (HAR.out rfl)
          go_wp2_with (go_at_call 89; go_fit (CT.out _); rintro e w3 ⟨rfl, rfl⟩)
          go_ret
          exact ⟨by rw [HR2.out]; rfl, bthen HB2.out hb⟩
      · obtain rfl : k = 4 := by omega
        go_wp2
        go_ret
        have h4 : twoB.any (begB s i) = false := hn.out
        exact ⟨by rw [HRF.out h4]; rfl, bthen HB2.out hb⟩
end Go.Proofs.Ythinieokpgmfoaa
