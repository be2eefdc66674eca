/- registrarref03: plain, letters, begins, letter (walks), and what they come to by runes. registrarref03: a letter by bytes is a letter by runes (plain). registrarref03.May, Parts: what they come to (walks). registrarref04.tags. registrarref04.Rise. registrarref04.May: what it comes to (walk). registrarref10.May (walk). Two events alike, plain. registrarref04.Same. registrarref14.Same (walk). -/
import Derived.Test.YtfoghahidofegaaGreatBundC
import Derived.Deep.RegionHeld3
import Derived.Test.YtfoghahidofegaaGreatBundN
import Derived.Test.YtfoghahidofegaaGreatBundA
import Derived.Deep.DeepFit
import Derived.Test.YtfoghahidofegaaGreatBundI
set_option linter.unusedVariables false
set_option linter.unusedSimpArgs false
namespace Go.Proofs.YtfoghahidofegaaGreat
open Go.RowKit

/-- A letter of one byte. -/
def plN (b : Int) : Bool := (decide (97 ≤ b) && decide (b ≤ 122)) || (decide (48 ≤ b) && decide (b ≤ 57)) || decide (b = 45) || decide (b = 95)
set_option maxHeartbeats 1000000 in
theorem plain_any (c : Int) (w : World) : Calls Tryz.prog 107 #[.int .u8 c] w fun e w' => e = .returned (.bool (plN c)) ∧ w' = w := by
  by_cases h5 : c = 45
  · subst h5; go_enter Tryz.func107, Tryz.ntmps107; go_wp2; go_ret; exact ⟨rfl, rfl⟩
  by_cases h6 : c = 95
  · subst h6; go_enter Tryz.func107, Tryz.ntmps107; go_wp2; go_ret; exact ⟨rfl, rfl⟩
  have e5 : (c == 45) = false := by simp [h5]
  have e6 : (c == 95) = false := by simp [h6]
  have hl : plN c = ((decide (97 ≤ c) && decide (c ≤ 122)) || (decide (48 ≤ c) && decide (c ≤ 57))) := by simp [plN, h5, h6]
  rw [hl]
  clear hl h5 h6
  by_cases h1 : 97 ≤ c
  · by_cases h2 : c ≤ 122
    · have h3 : 48 ≤ c := by omega
      have h4 : ¬ c ≤ 57 := by omega
      go_enter Tryz.func107, Tryz.ntmps107; go_wp2; go_ret
      exact ⟨by simp [h1, h2], rfl⟩
    · have h3 : 48 ≤ c := by omega
      have h4 : ¬ c ≤ 57 := by omega
      go_enter Tryz.func107, Tryz.ntmps107; go_wp2; go_ret
      exact ⟨by simp [h2, h4], rfl⟩
  · by_cases h3 : 48 ≤ c
    · by_cases h4 : c ≤ 57
      · go_enter Tryz.func107, Tryz.ntmps107; go_wp2; go_ret
        exact ⟨by simp [h3, h4], rfl⟩
      · go_enter Tryz.func107, Tryz.ntmps107; go_wp2; go_ret
        exact ⟨by simp [h1, h4]; omega, rfl⟩
    · go_enter Tryz.func107, Tryz.ntmps107; go_wp2; go_ret
      exact ⟨by simp [h1, h3]; omega, rfl⟩
/-- The letters of two bytes. -/
def twoB : List ByteArray := [⟨#[195, 169]⟩, ⟨#[195, 184]⟩, ⟨#[195, 159]⟩, ⟨#[206, 187]⟩]
theorem letters_any (w : World) : Calls Tryz.prog 108 #[] w fun e w' => ∃ A, e = .returned (.slice A 4 4) ∧ SlS w' A 4 twoB ∧ Below w.heap.size w w' := by
  have hs := Sl.lit Value.string (fun _ => rfl) w 9 twoB (by decide)
  have HS := Lib.hid hs
  have HB := Lib.hid (fun o => (Below.refl w.heap.size w).alloc (Nat.le_refl _) o)
  clear hs
  go_enter Tryz.func108, Tryz.ntmps108
  go_wp2
  go_ret
  exact ⟨_, rfl, HS.out.any, HB.out _⟩
/-- Whether a text begins with t at a place. -/
def begB (s : ByteArray) (i : Nat) (t : ByteArray) : Bool := decide (s.extract i (i + t.size) = t)
theorem extract_size' (s : ByteArray) (i n : Nat) : (s.extract i (i + n)).size = min (i + n) s.size - i := by simp
theorem begins_any (s : ByteArray) (i : Nat) (t : ByteArray) (hi : i ≤ s.size) (hs : s.size ≤ 1000000) (ht : t.size ≤ 1000000) (w : World) : Calls Tryz.prog 109 #[.string s, .int .i64 i, .string t] w fun e w' => e = .returned (.bool (begB s i t)) ∧ w' = w := by
  by_cases hl : t.size ≤ s.size - i
  · have ew : IntKind.i64.wrap ((s.size : Int) - (i : Int)) = ((s.size - i : Nat) : Int) := by rw [IntWalk.i64_in _ (by omega)]; omega
    have ew2 : IntKind.i64.wrap ((i : Int) + (t.size : Int)) = ((i + t.size : Nat) : Int) := by rw [IntWalk.i64_in _ (by omega)]; omega
    obtain ⟨n, hn⟩ : ∃ n, n = s.size - i := ⟨_, rfl⟩
    obtain ⟨m, hm⟩ : ∃ m, m = i + t.size := ⟨_, rfl⟩
    have he : begB s i t = decide (s.extract i m = t) := by unfold begB; rw [hm]
    have hq := strEqL (s.extract i m) t
    rw [he]
    rw [← hn] at ew
    rw [← hm] at ew2
    have b1 : (t.size : Int) ≤ (n : Int) := by omega
    have b2 : (i : Int) ≤ (m : Int) := by omega
    have b3 : (m : Int) ≤ (s.size : Int) := by omega
    have b4 : (0 : Int) ≤ (i : Int) := Int.natCast_nonneg _
    clear hn hm he
    go_enter Tryz.func109, Tryz.ntmps109
    go_wp2
    go_ret
    exact ⟨rfl, rfl⟩
  · have he : begB s i t = false := by
      unfold begB
      rw [decide_eq_false]
      intro e
      have := congrArg ByteArray.size e
      rw [extract_size'] at this
      omega
    rw [he]
    have ew : IntKind.i64.wrap ((s.size : Int) - (i : Int)) = ((s.size - i : Nat) : Int) := by rw [IntWalk.i64_in _ (by omega)]; omega
    obtain ⟨n, hn⟩ : ∃ n, n = s.size - i := ⟨_, rfl⟩
    rw [← hn] at ew hl
    have b1 : ¬ (t.size : Int) ≤ (n : Int) := by omega
    clear hn he
    go_enter Tryz.func109, Tryz.ntmps109
    go_wp2
    go_ret
    exact ⟨rfl, rfl⟩
/-- How many bytes the letter at a place has; 0: there is none. -/
def letB (s : ByteArray) (i : Nat) (h : i < s.size) : Int := if plN (s[i]'h).toNat then 1 else if twoB.any (begB s i) then 2 else 0
set_option maxHeartbeats 2000000 in
set_option maxRecDepth 100000 in
theorem refLetter_any (s : ByteArray) (i : Nat) (h : i < s.size) (hs : s.size ≤ 1000000) (w : World) : Calls Tryz.prog 76 #[.string s, .int .i64 i] w fun e w' => e = .returned (.int .i64 (letB s i h)) ∧ Below w.heap.size w w' := by
  have CP := Lib.hid (fun W => plain_any ((s[i]'h).toNat : Int) W)
  have CL := Lib.hid (fun W => letters_any W)
  have CB := Lib.hid (fun t W (ht : t.size ≤ 1000000) => begins_any s i t (Nat.le_of_lt h) hs ht W)
  have b1 : (0 : Int) ≤ (i : Int) := Int.natCast_nonneg _
  have b2 : (i : Int) < (s.size : Int) := by omega
  by_cases hp : plN ((s[i]'h).toNat : Int) = true
  · have he : letB s i h = 1 := by unfold letB; rw [if_pos hp]
    rw [he]
    rw [hp] at CP
    clear he hp
    go_enter Tryz.func76, Tryz.ntmps76
    go_wp2_with (go_at_call 107; go_fit (CP.out _); rintro e w1 ⟨rfl, rfl⟩)
    go_ret
    exact ⟨rfl, Below.refl _ _⟩
  · have hp' : plN ((s[i]'h).toNat : Int) = false := by simpa using hp
    have he : letB s i h = if twoB.any (begB s i) then 2 else 0 := by unfold letB; rw [if_neg hp]
    rw [he]
    rw [hp'] at CP
    obtain ⟨R, hR⟩ : ∃ R : Int, (if twoB.any (begB s i) = true then 2 else 0) = R := ⟨_, rfl⟩
    have HRT := Lib.hid (show twoB.any (begB s i) = true → R = 2 from fun h2 => by rw [← hR, if_pos h2])
    have HRF := Lib.hid (show twoB.any (begB s i) = false → R = 0 from fun h2 => by rw [← hR, h2]; rfl)
    rw [hR]
    clear he hp hp' hR
    go_enter Tryz.func76, Tryz.ntmps76
    go_wp2_with (first
      | (go_at_call 108; go_fit (CL.out _); rintro e w2 ⟨A, rfl, hs2, hb2⟩; have HS2 := Lib.hid hs2; have HB2 := Lib.hid hb2; clear hs2 hb2)
      | (go_at_call 107; go_fit (CP.out _); rintro e w1 ⟨rfl, rfl⟩))
    go_loopw [6] (fun j wr => ∃ k : Nat, k ≤ 4 ∧ j = .int .i64 k ∧ Hid ((twoB.take k).any (begB s i) = false) ∧ Below w2.heap.size w2 wr) (fun j _ => 4 - (intOf j).toNat)
    case atStart => exact ⟨0, by omega, rfl, Lib.hid rfl, Below.refl _ _⟩
    case round =>
      obtain ⟨k, hk, rfl, hn, hb⟩ := hrel
      by_cases hk4 : k < 4
      · obtain ⟨ad, rfl, hx⟩ := row_str_at (HS2.out.below hb).2.2 (show k < twoB.length from hk4)
        have hxs : (twoB[k]'hk4).size ≤ 1000000 := by
          have : ∀ t ∈ twoB, t.size ≤ 1000000 := by decide
          exact this _ (List.getElem_mem _)
        have HST := Lib.hid (show (twoB.take (k + 1)).any (begB s i) = begB s i (twoB[k]'hk4) by rw [any_take_succ _ _ _ (show k < twoB.length from hk4), hn.out, Bool.false_or]; rfl)
        have HAL := Lib.hid (show begB s i (twoB[k]'hk4) = true → twoB.any (begB s i) = true from fun h2 => any_of_at (show k < twoB.length from hk4) h2)
        have HAR := Lib.hid (show begB s i (twoB[k]'hk4) = true → R = 2 from fun h2 => HRT.out (HAL.out h2))
        clear HAL
        generalize twoB[k]'hk4 = t at hx hxs HST HAR
        have CT := Lib.hid (fun W => CB.out t W hxs)
        have c1 : (0 : Int) ≤ (k : Int) := Int.natCast_nonneg _
        have c2 : (k : Int) < 4 := by omega
        generalize begB s i t = b at CT HST HAR
        clear CB
        rcases b with _ | _
        · go_wp2_with (go_at_call 109; go_fit (CT.out _); rintro e w3 ⟨rfl, rfl⟩)
          go_roundw
          case rel => exact ⟨k + 1, by omega, by go_num, HST, hb⟩
          case measure => simp [intOf]; omega
        · have HR2 := Lib.hid (HAR.out rfl)
          go_wp2_with (go_at_call 109; go_fit (CT.out _); rintro e w3 ⟨rfl, rfl⟩)
          go_ret
          exact ⟨by rw [HR2.out]; rfl, bthen HB2.out hb⟩
      · obtain rfl : k = 4 := by omega
        go_wp2
        go_ret
        have h4 : twoB.any (begB s i) = false := hn.out
        exact ⟨by rw [HRF.out h4]; rfl, bthen HB2.out hb⟩
end Go.Proofs.YtfoghahidofegaaGreat

namespace Go.Proofs.YtfoghahidofegaaGreat
open Go.RowKit

theorem begB_two (s : ByteArray) (i : Nat) (x y : UInt8) : begB s i ⟨#[x, y]⟩ = decide (i + 1 < s.size ∧ (s.get! (i + 0)).toNat = x.toNat ∧ (s.get! (i + 1)).toNat = y.toNat) := by
  unfold begB
  refine decide_eq_decide.2 ?_
  have h2 : (⟨#[x, y]⟩ : ByteArray).size = 2 := rfl
  rw [h2]
  constructor
  · intro e
    have hsz := congrArg ByteArray.size e
    rw [extract_size', h2] at hsz
    have hi : i + 1 < s.size := by omega
    have hd : s.data.extract i (i + 2) = #[x, y] := by rw [← ByteArray.data_extract, e]
    have g0 : (s.data.extract i (i + 2))[0]? = some x := by rw [hd]; rfl
    have g1 : (s.data.extract i (i + 2))[1]? = some y := by rw [hd]; rfl
    have hi' : i + 1 < s.data.size := hi
    rw [Array.getElem?_extract_of_lt (by omega)] at g0 g1
    injection g0 with g0
    injection g1 with g1
    refine ⟨hi, ?_, ?_⟩
    · rw [get_at s i (by omega)]; show (s.data[i]).toNat = _; simp only [Nat.add_zero] at g0; rw [g0]
    · have e9 : s.get! (i + 1) = s[i + 1]'hi := get_at s (i + 1) hi; rw [e9]; show (s.data[i + 1]).toNat = _; rw [g1]
  · rintro ⟨hi, e0, e1⟩
    have hi' : i + 1 < s.data.size := hi
    have g0 : s.data[i] = x := by
      have := get_at s i (by omega)
      rw [this] at e0
      exact UInt8.toNat_inj.1 e0
    have g1 : s.data[i + 1] = y := by
      have e9 : s.get! (i + 1) = s[i + 1]'hi := get_at s (i + 1) hi
      rw [e9] at e1
      exact UInt8.toNat_inj.1 e1
    apply ByteArray.ext
    rw [ByteArray.data_extract]
    apply Array.ext
    · simp; omega
    · intro j h1 h3
      have hj : j < 2 := by simpa using h3
      rw [Array.getElem_extract]
      match j, hj with
      | 0, _ => simpa using g0
      | 1, _ => simpa using g1
theorem letN_low (r : Nat) (h : r < 128) : letN (r : Int) = plN (r : Int) := by
  unfold letN plN
  have h1 : ¬ (r : Int) = 233 := by omega
  have h2 : ¬ (r : Int) = 248 := by omega
  have h3 : ¬ (r : Int) = 223 := by omega
  have h4 : ¬ (r : Int) = 955 := by omega
  simp [h1, h2, h3, h4]
theorem letN_high (r : Nat) (h : 128 ≤ r) : letN (r : Int) = decide (r = 233 ∨ r = 248 ∨ r = 223 ∨ r = 955) := by
  unfold letN
  have h1 : ¬ (r : Int) ≤ 122 := by omega
  have h2 : ¬ (r : Int) ≤ 57 := by omega
  have h3 : ¬ (r : Int) = 45 := by omega
  have h4 : ¬ (r : Int) = 95 := by omega
  rw [Bool.eq_iff_iff]
  simp [h1, h2, h3, h4]
  omega
theorem twoB_any (s : ByteArray) (i : Nat) : twoB.any (begB s i) = decide (i + 1 < s.size ∧ (((s.get! (i + 0)).toNat = 195 ∧ ((s.get! (i + 1)).toNat = 169 ∨ (s.get! (i + 1)).toNat = 184 ∨ (s.get! (i + 1)).toNat = 159)) ∨ ((s.get! (i + 0)).toNat = 206 ∧ (s.get! (i + 1)).toNat = 187))) := by
  unfold twoB
  simp only [List.any_cons, List.any_nil, begB_two]
  rw [Bool.eq_iff_iff]
  simp only [Bool.or_eq_true, decide_eq_true_eq, Bool.false_eq_true, or_false]
  have e1 : (195 : UInt8).toNat = 195 := rfl
  have e2 : (169 : UInt8).toNat = 169 := rfl
  have e3 : (184 : UInt8).toNat = 184 := rfl
  have e4 : (159 : UInt8).toNat = 159 := rfl
  have e5 : (206 : UInt8).toNat = 206 := rfl
  have e6 : (187 : UInt8).toNat = 187 := rfl
  rw [e1, e2, e3, e4, e5, e6]
  omega
/-- A rune out of four bytes. -/
def runeOf (n i b0 b1 b2 b3 : Nat) : Nat × Nat :=
  if b0 < 128 then (b0, 1)
  else if (b0 / 32 == 6 && (decide (i + 1 < n) && b1 / 64 == 2)) = true then
    if b0 % 32 * 64 + b1 % 64 ≥ 128 then (b0 % 32 * 64 + b1 % 64, 2) else (Utf8.runeError, 1)
  else if (b0 / 16 == 14 && (decide (i + 1 < n) && b1 / 64 == 2) && (decide (i + 2 < n) && b2 / 64 == 2)) = true then
    if (decide (b0 % 16 * 4096 + b1 % 64 * 64 + b2 % 64 ≥ 2048) && Utf8.valid ((b0 % 16 * 4096 + b1 % 64 * 64 + b2 % 64 : Nat) : Int)) = true then (b0 % 16 * 4096 + b1 % 64 * 64 + b2 % 64, 3) else (Utf8.runeError, 1)
  else if (b0 / 8 == 30 && (decide (i + 1 < n) && b1 / 64 == 2) && (decide (i + 2 < n) && b2 / 64 == 2) && (decide (i + 3 < n) && b3 / 64 == 2)) = true then
    if (decide (b0 % 8 * 262144 + b1 % 64 * 4096 + b2 % 64 * 64 + b3 % 64 ≥ 65536) && Utf8.valid ((b0 % 8 * 262144 + b1 % 64 * 4096 + b2 % 64 * 64 + b3 % 64 : Nat) : Int)) = true then (b0 % 8 * 262144 + b1 % 64 * 4096 + b2 % 64 * 64 + b3 % 64, 4) else (Utf8.runeError, 1)
  else (Utf8.runeError, 1)
theorem decode_is (s : ByteArray) (i : Nat) : Utf8.decode s i = runeOf s.size i (s.get! (i + 0)).toNat (s.get! (i + 1)).toNat (s.get! (i + 2)).toNat (s.get! (i + 3)).toNat := by
  unfold Utf8.decode runeOf
  simp only [Bool.and_eq_true, decide_eq_true_eq]
theorem rune_two (n i b0 b1 b2 b3 : Nat) (h0 : ¬ b0 < 128) (l0 : b0 < 256) (l1 : b1 < 256) : (if decide (i + 1 < n ∧ ((b0 = 195 ∧ (b1 = 169 ∨ b1 = 184 ∨ b1 = 159)) ∨ (b0 = 206 ∧ b1 = 187))) = true then (2 : Int) else 0)
    = if decide ((runeOf n i b0 b1 b2 b3).1 = 233 ∨ (runeOf n i b0 b1 b2 b3).1 = 248 ∨ (runeOf n i b0 b1 b2 b3).1 = 223 ∨ (runeOf n i b0 b1 b2 b3).1 = 955) = true then ((runeOf n i b0 b1 b2 b3).2 : Int) else 0 := by
  simp only [decide_eq_true_eq]
  unfold runeOf Utf8.runeError
  rw [if_neg h0]
  by_cases h1 : (b0 / 32 == 6 && (decide (i + 1 < n) && b1 / 64 == 2)) = true
  · rw [if_pos h1]
    simp only [Bool.and_eq_true, beq_iff_eq, decide_eq_true_eq] at h1
    obtain ⟨a1, a2, a3⟩ := h1
    by_cases h2 : b0 % 32 * 64 + b1 % 64 ≥ 128
    · rw [if_pos h2]
      simp only
      by_cases h3 : i + 1 < n ∧ ((b0 = 195 ∧ (b1 = 169 ∨ b1 = 184 ∨ b1 = 159)) ∨ (b0 = 206 ∧ b1 = 187))
      · rw [if_pos h3, if_pos (by omega)]; rfl
      · rw [if_neg h3, if_neg (by omega)]
    · rw [if_neg h2]
      simp only
      rw [if_neg (by omega), if_neg (by omega)]
  · rw [if_neg h1]
    simp only [Bool.and_eq_true, beq_iff_eq, decide_eq_true_eq] at h1
    have h3 : ¬ (i + 1 < n ∧ ((b0 = 195 ∧ (b1 = 169 ∨ b1 = 184 ∨ b1 = 159)) ∨ (b0 = 206 ∧ b1 = 187))) := by omega
    rw [if_neg h3, if_neg]
    split
    · split
      · rename_i h5
        simp only [Bool.and_eq_true, decide_eq_true_eq] at h5
        simp only
        omega
      · simp only; omega
    · split
      · split
        · rename_i h5
          simp only [Bool.and_eq_true, decide_eq_true_eq] at h5
          simp only
          omega
        · simp only; omega
      · simp only; omega
theorem let_decode (s : ByteArray) (i : Nat) (h : i < s.size) : letB s i h = if letN (Utf8.decode s i).1 then ((Utf8.decode s i).2 : Int) else 0 := by
  unfold letB
  rw [twoB_any]
  by_cases ha : (s[i]'h).toNat < 128
  · rw [decode_ascii s i h ha]
    have hg : (s.get! (i + 0)).toNat = (s[i]'h).toNat := by rw [get_at s i h]
    rw [hg]
    generalize (s[i]'h).toNat = b at ha ⊢
    simp only
    rw [letN_low b ha]
    by_cases hp : plN (b : Int) = true
    · rw [if_pos hp, if_pos hp]; rfl
    · rw [if_neg hp, if_neg hp, if_neg]
      rw [decide_eq_true_eq]
      omega
  · have hhi := decode_high s i h (by omega)
    have hp : ¬ plN (((s[i]'h).toNat : Nat) : Int) = true := by unfold plN; simp; omega
    rw [if_neg hp, letN_high _ hhi.1]
    have hg : (s.get! (i + 0)).toNat = (s[i]'h).toNat := by rw [get_at s i h]
    rw [← hg] at ha
    rw [decode_is]
    exact rune_two _ _ _ _ _ _ ha (s.get! (i + 0)).toNat_lt (s.get! (i + 1)).toNat_lt
end Go.Proofs.YtfoghahidofegaaGreat

namespace Go.Proofs.YtfoghahidofegaaGreat
open Go.RowKit

/-- A text that begins so is no name. -/
def fstN (b : Nat) : Prop := (48 ≤ b ∧ b ≤ 57) ∨ b = 45
theorem decode_lo {s : ByteArray} {i : Nat} (h : i < s.size) (hd : (Utf8.decode s i).1 < 128) : (s[i]'h).toNat = (Utf8.decode s i).1 := by
  by_cases ha : (s[i]'h).toNat < 128
  · rw [decode_ascii s i h ha]
  · have := (decode_high s i h (by omega)).1; omega
theorem let_small {r : Nat} (hl : letN (r : Int) = true) (h : (r : Int) ≤ 57) : fstN r := by
  unfold letN at hl
  simp only [Bool.or_eq_true, Bool.and_eq_true, decide_eq_true_eq] at hl
  unfold fstN
  omega
theorem fst_no {s : ByteArray} (h : 0 < s.size) (hf : fstN (s[0]'h).toNat) : mayF s s.size 0 = false := by
  obtain ⟨f, hfe⟩ : ∃ f, s.size = f + 1 := ⟨s.size - 1, by omega⟩
  rw [hfe, mayF, if_pos h]
  have ha : (s[0]'h).toNat < 128 := by unfold fstN at hf; omega
  rw [decode_ascii s 0 h ha]
  have : (((s[0]'h).toNat : Nat) : Int) ≤ 57 := by unfold fstN at hf; omega
  simp [this]
theorem may_step {s : ByteArray} (h0 : 0 < s.size) (hf : ¬ fstN (s[0]'h0).toNat) {f pos : Nat} (hp : pos < s.size) : mayF s (f + 1) pos = (letN (Utf8.decode s pos).1 && mayF s f (pos + (Utf8.decode s pos).2)) := by
  rw [mayF, if_pos hp]
  congr 1
  by_cases hl : letN (Utf8.decode s pos).1 = true
  · rw [hl, Bool.true_and]
    by_cases hz : pos = 0
    · subst hz
      have : ¬ ((Utf8.decode s 0).1 : Int) ≤ 57 := fun h9 => by
        have h1 := let_small hl h9
        have h2 := decode_lo h0 (by omega)
        rw [← h2] at h1
        exact hf h1
      simp [this]
    · simp [hz]
  · rw [Bool.not_eq_true] at hl
    rw [hl]
    rfl
theorem mayF_end (s : ByteArray) (f pos : Nat) (h : ¬ pos < s.size) : mayF s f pos = true := by
  cases f with
  | zero => rfl
  | succ f => rw [mayF, if_neg h]

set_option maxHeartbeats 2000000 in
set_option maxRecDepth 100000 in
theorem refMay_any (s : ByteArray) (w : World) : Calls Tryz.prog 29 #[.string s] w fun e w' => e = .returned (.bool (mayN s)) ∧ Below w.heap.size w w' := by
  by_cases h0 : s.size < 1
  · have hm : mayN s = false := by unfold mayN; rw [decide_eq_false (by omega)]; rfl
    rw [hm]
    go_enter Tryz.func29, Tryz.ntmps29
    go_wp2
    go_ret
    exact ⟨rfl, Below.refl _ _⟩
  by_cases h24 : 24 < s.size
  · have hm : mayN s = false := by simp [mayN]; omega
    rw [hm]
    go_enter Tryz.func29, Tryz.ntmps29
    go_wp2
    go_ret
    exact ⟨rfl, Below.refl _ _⟩
  have hp0 : 0 < s.size := by omega
  have hm : mayN s = mayF s s.size 0 := by
    have : s.size ≠ 0 := by omega
    simp [mayN, this]; omega
  rw [hm]
  clear hm
  have b0 : (0 : Int) < (s.size : Int) := by omega
  by_cases hf : fstN (s[0]'hp0).toNat
  · rw [fst_no hp0 hf]
    have hbb : ((s[0]'hp0).toNat : Int) = 45 ∨ ((48 : Int) ≤ ((s[0]'hp0).toNat : Int) ∧ ((s[0]'hp0).toNat : Int) ≤ 57) := by unfold fstN at hf; omega
    rcases hbb with hb | ⟨hb1, hb2⟩
    · go_enter Tryz.func29, Tryz.ntmps29
      go_wp2
      go_ret
      exact ⟨rfl, Below.refl _ _⟩
    · go_enter Tryz.func29, Tryz.ntmps29
      go_wp2
      go_ret
      exact ⟨rfl, Below.refl _ _⟩
  · have HST := Lib.hid (fun (f pos : Nat) (hp : pos < s.size) => may_step hp0 hf (f := f) hp)
    have hbb : (((s[0]'hp0).toNat : Int) == 45) = false ∧ (¬ (48 : Int) ≤ ((s[0]'hp0).toNat : Int) ∨ ((48 : Int) ≤ ((s[0]'hp0).toNat : Int) ∧ ¬ ((s[0]'hp0).toNat : Int) ≤ 57)) := by
      unfold fstN at hf
      refine ⟨?_, by omega⟩
      rw [beq_eq_false_iff_ne]
      omega
    obtain ⟨e45, hbb⟩ := hbb
    have hs24 : s.size ≤ 24 := by omega
    have CL := Lib.hid (fun W pos (hp : pos < s.size) => refLetter_any s pos hp (by omega) W)
    clear hf
    rcases hbb with hb1 | ⟨hb1, hb2⟩
    all_goals
      go_enter Tryz.func29, Tryz.ntmps29
      go_wp2
      go_loopw [3, 4] (fun at_ _ wr => ∃ pos f : Nat, pos ≤ 100 ∧ at_ = .int .i64 pos ∧ Hid (mayF s f pos = mayF s s.size 0) ∧ s.size ≤ pos + f ∧ Below w.heap.size w wr) (fun at_ _ _ => 200 - (intOf at_).toNat)
      case atStart => exact ⟨0, s.size, by omega, rfl, Lib.hid rfl, by omega, Below.refl _ _⟩
      case round =>
        obtain ⟨pos, f, hp1, rfl, hc, hf, hb⟩ := hrel
        by_cases hp : pos < s.size
        · obtain ⟨f, rfl⟩ : ∃ f', f = f' + 1 := ⟨f - 1, by omega⟩
          have hst := HST.out f pos hp
          rw [hc.out] at hst
          have hwd := decode_pos s pos hp
          have hwd4 : (Utf8.decode s pos).2 ≤ 4 := by
            rw [decode_is]
            unfold runeOf
            repeat' split
            all_goals simp
          have CP := Lib.hid (fun W => CL.out W pos hp)
          rw [let_decode s pos hp] at CP
          generalize (Utf8.decode s pos).1 = r at hst CP
          generalize (Utf8.decode s pos).2 = n at hst CP hwd hwd4
          have p1 : (pos : Int) < (s.size : Int) := by omega
          have p2 : (0 : Int) ≤ (pos : Int) := Int.natCast_nonneg _
          clear hc
          by_cases hl : letN (r : Int) = true
          · rw [if_pos hl] at CP
            rw [hl, Bool.true_and] at hst
            have HC := Lib.hid hst.symm
            have hn0 : ((n : Int) == 0) = false := by rw [beq_eq_false_iff_ne]; omega
            have ew : IntKind.i64.wrap ((pos : Int) + (n : Int)) = ((pos + n : Nat) : Int) := by rw [IntWalk.i64_in _ (by omega)]; omega
            clear hst hl
            go_wp2_with (go_at_call 76; go_fit (CP.out _); rintro e w3 ⟨rfl, hb3⟩)
            go_roundw
            case rel => exact ⟨pos + n, f, by omega, by go_num, HC, by omega, bthen hb hb3⟩
            case measure => simp [intOf]; omega
          · rw [if_neg hl] at CP
            have hl' : letN (r : Int) = false := by simpa using hl
            rw [hl', Bool.false_and] at hst
            have HC := Lib.hid hst
            clear hst hl hl'
            go_wp2_with (go_at_call 76; go_fit (CP.out _); rintro e w3 ⟨rfl, hb3⟩)
            go_ret
            exact ⟨by rw [HC.out]; rfl, bthen hb hb3⟩
        · have HC := Lib.hid (show mayF s s.size 0 = true by rw [← hc.out]; exact mayF_end s f pos hp)
          clear hc
          go_wp2
          go_ret
          exact ⟨by rw [HC.out]; rfl, hb⟩
theorem mayN_empty : mayN ByteArray.empty = false := by rfl
theorem colon_at {s : ByteArray} {k : Nat} (hk : k < s.size) (hc : colon s < 0 ∨ (k : Int) ≤ colon s) : (s[k]'hk = 58 → colon s = k) ∧ (s[k]'hk ≠ 58 → colon s < 0 ∨ ((k + 1 : Nat) : Int) ≤ colon s) := by
  have hk' : k < s.data.toList.length := by rw [Array.length_toList]; exact hk
  have hge : s.data.toList[k]? = some (s[k]'hk) := by rw [List.getElem?_eq_getElem hk']; rfl
  constructor
  · intro e
    rcases hc with hc | hc
    · have h1 : colon s = -1 := by have := colon_ge s; omega
      exact absurd (by rw [hge, e]) (Lib.indexByte_none h1 k)
    · obtain ⟨o, ho⟩ : ∃ o : Nat, colon s = o := ⟨(colon s).toNat, by omega⟩
      rcases Nat.lt_or_ge k o with h | h
      · exact absurd (by rw [hge, e]) ((Lib.indexByte_some ho).2 k h)
      · omega
  · intro e
    rcases hc with hc | hc
    · exact .inl hc
    · refine .inr ?_
      obtain ⟨o, ho⟩ : ∃ o : Nat, colon s = o := ⟨(colon s).toNat, by omega⟩
      have h1 := (Lib.indexByte_some ho).1
      have : k ≠ o := fun e2 => by
        subst e2
        rw [hge] at h1
        injection h1 with h1
        exact e h1
      omega

set_option maxHeartbeats 2000000 in
set_option maxRecDepth 100000 in
theorem refParts_any (s : ByteArray) (hs : s.size ≤ maxLen) (w : World) : Calls Tryz.prog 110 #[.string s] w fun e w' => ∃ x y, e = .returned (.tuple #[.string x, .string y, .bool (tagN s)]) ∧ Below w.heap.size w w' := by
  unfold maxLen at hs
  have C := Lib.hid (fun t W => refMay_any t W)
  go_enter Tryz.func110, Tryz.ntmps110
  go_wp2
  go_loopw [5] (fun i wr => ∃ k : Nat, k ≤ s.size ∧ i = .int .i64 k ∧ Hid (colon s < 0 ∨ (k : Int) ≤ colon s) ∧ Below w.heap.size w wr) (fun i _ => s.size - (intOf i).toNat)
  case atStart => exact ⟨0, Nat.zero_le _, rfl, Lib.hid (by have := colon_ge s; omega), Below.refl _ _⟩
  case round =>
    obtain ⟨k, hk, rfl, hc, hb⟩ := hrel
    by_cases hlt : k < s.size
    · have hca := colon_at hlt hc.out
      have b1 : (0 : Int) ≤ (k : Int) := Int.natCast_nonneg _
      have b2 : (k : Int) < (s.size : Int) := by omega
      by_cases h58 : s[k]'hlt = 58
      · have hcol := hca.1 h58
        have htag : tagN s = (mayN (s.extract 0 k) && mayN (s.extract (k + 1) s.size)) := by
          unfold tagN headS tailS
          rw [if_neg (by omega), if_neg (by omega), hcol]
          rfl
        obtain ⟨n, hn⟩ : ∃ n, n = k + 1 := ⟨_, rfl⟩
        rw [← hn] at htag
        have HT := Lib.hid htag
        have ew : IntKind.i64.wrap ((k : Int) + 1) = (n : Int) := by rw [IntWalk.i64_in _ (by omega)]; omega
        have h58' : (((s[k]'hlt).toNat : Int) != 58) = false := by rw [h58]; rfl
        have b3 : (0 : Int) ≤ (n : Int) := Int.natCast_nonneg _
        have b4 : (n : Int) ≤ (s.size : Int) := by omega
        have b5 : (k : Int) ≤ (s.size : Int) := by omega
        have C1 := Lib.hid (fun W => C.out (s.extract 0 k) W)
        have C2 := Lib.hid (fun W => C.out (s.extract n s.size) W)
        generalize mayN (s.extract 0 k) = m1 at C1 HT
        generalize mayN (s.extract n s.size) = m2 at C2 HT
        clear hca h58 hcol htag hn hc C
        rcases m1 with _ | _ <;> rcases m2 with _ | _
        all_goals
          go_wp2_with (first
            | (go_at_call 29; go_fit (C1.out _); rintro e w3 ⟨rfl, hb3⟩)
            | (go_at_call 29; go_fit (C2.out _); rintro e w4 ⟨rfl, hb4⟩))
          first
            | exact bodyPost_ret (v := .tuple #[.string ⟨#[]⟩, .string ⟨#[]⟩, .bool false]) (by simp [results, Tryz.results110, go_sem]) rfl ⟨_, _, by rw [HT.out]; rfl, bthen hb (bthen hb3 hb4)⟩
            | skip
          all_goals (go_quiet (fail); go_wp2; exact bodyPost_ret (v := .tuple #[.string (s.extract 0 k), .string (s.extract n s.size), .bool true]) (by simp [results, Tryz.results110, go_sem]) rfl ⟨_, _, by rw [HT.out]; rfl, below_drewN (bthen hb (bthen hb3 hb4)) _⟩)
      · have hcn := Lib.hid (hca.2 h58)
        have h58' : (((s[k]'hlt).toNat : Int) != 58) = true := by
          rw [bne_iff_ne]
          intro e
          exact h58 (UInt8.toNat_inj.1 (by show (s[k]'hlt).toNat = 58; omega))
        clear hca h58 hc
        go_wp2
        go_roundw
        case rel => exact ⟨k + 1, by omega, by go_num, hcn, hb⟩
        case measure => simp [intOf]; omega
    · obtain rfl : k = s.size := by omega
      have hcol : colon s < 0 := by
        rcases hc.out with h | h
        · exact h
        · have := colon_lt (s := s) (by omega); omega
      have htag : tagN s = false := by
        unfold tagN tailS
        rw [if_pos hcol, mayN_empty, Bool.and_false]
      have HT := Lib.hid htag
      clear htag hc
      go_wp2
      exact bodyPost_ret (v := .tuple #[.string ⟨#[]⟩, .string ⟨#[]⟩, .bool false]) (by simp [results, Tryz.results110, go_sem]) rfl ⟨_, _, by rw [HT.out], hb⟩
end Go.Proofs.YtfoghahidofegaaGreat

namespace Go.Proofs.YtfoghahidofegaaGreat
open Go.RowKit

set_option maxHeartbeats 1000000 in
theorem refTags_any {w : World} {T : Option Addr} {ct : Nat} {l : List ByteArray} (hT : SlS w T ct l) (hg : ∀ s ∈ l, s.size ≤ maxLen) :
    Calls Tryz.prog 78 #[.slice T l.length ct] w fun r w' => r = .returned (.bool (!l.any (fun s => !tagN s))) ∧ Below w.heap.size w w' := by
  obtain ⟨h1, h2, h3⟩ := hT
  unfold maxLen at h2
  obtain ⟨V, hV⟩ : ∃ V, V = l.any (fun s => !tagN s) := ⟨_, rfl⟩
  rw [← hV]
  have HV := Lib.hid hV
  have HG := Lib.hid hg
  clear hV hg
  go_enter Tryz.func78, Tryz.ntmps78
  go_wp2_with fail
  go_loopw [3, 4, 5, 6] (fun i _ _ _ wr => ∃ k : Nat, k ≤ l.length ∧ i = .int .i64 k ∧ Hid (V = (l.drop k).any (fun s => !tagN s)) ∧ Below w.heap.size w wr) (fun i _ _ _ _ => l.length - (intOf i).toNat)
  case atStart => exact ⟨0, Nat.zero_le _, rfl, HV, Below.refl _ _⟩
  case round =>
    obtain ⟨k, hk, rfl, hv, hb⟩ := hrel
    clear HV
    by_cases hlt : k < l.length
    · obtain ⟨ad, rfl, hx⟩ := row_str_at (h3.below hb) hlt
      have HC := Lib.hid (refParts_any l[k] (HG.out _ (List.getElem_mem hlt)) wr)
      have HN := Lib.hid (show (l.drop k).any (fun s => !tagN s) = (!tagN l[k] || (l.drop (k + 1)).any (fun s => !tagN s)) by rw [List.drop_eq_getElem_cons hlt, List.any_cons])
      generalize l[k] = x at hx HC HN
      have e1 : (0 : Int) ≤ (k : Int) := Int.natCast_nonneg _
      have e2 : (k : Int) < (l.length : Int) := by omega
      have HB := Lib.hid hb
      clear hb
      generalize tagN x = t at HC HN
      rcases t with _ | _
      · have HV := Lib.hid (show V = true by rw [hv.out, HN.out]; rfl)
        clear HN hv
        go_wp2_with (go_at_call 110; go_fit HC.out; rintro r w2 ⟨x1, y1, rfl, hb2⟩; have HB2 := Lib.hid hb2; clear hb2)
        go_ret
        exact ⟨by rw [HV.out]; rfl, bthen HB.out HB2.out⟩
      · have HV := Lib.hid (show V = (l.drop (k + 1)).any (fun s => !tagN s) by rw [hv.out, HN.out]; rfl)
        clear HN hv
        go_wp2_with (go_at_call 110; go_fit HC.out; rintro r w2 ⟨x1, y1, rfl, hb2⟩; have HB2 := Lib.hid hb2; clear hb2)
        go_roundw
        case rel => exact ⟨k + 1, by omega, by go_num, HV, bthen HB.out HB2.out⟩
        case measure => simp [intOf]; omega
    · have HV := Lib.hid (show V = false by rw [hv.out, List.drop_of_length_le (by omega)]; rfl)
      have HB := Lib.hid hb
      clear hv hb
      go_wp2_with fail
      go_ret
      exact ⟨by rw [HV.out]; rfl, HB.out⟩
end Go.Proofs.YtfoghahidofegaaGreat

namespace Go.Proofs.YtfoghahidofegaaGreat
open Go.RowKit

/-- Texts rise as far as they have been looked at. -/
def RiseTo (l : List ByteArray) (m : Nat) : Prop := ∀ j (h : j + 1 < l.length), j + 1 < m → ltB l[j] l[j + 1]
theorem rise_all {l : List ByteArray} (h : RiseTo l l.length) : l.Pairwise ltB := by
  refine List.pairwise_iff_getElem.2 ?_
  intro i j hi hj hij
  obtain ⟨d, rfl⟩ : ∃ d, j = i + 1 + d := ⟨j - i - 1, by omega⟩
  induction d with
  | zero => exact h i (by omega) (by omega)
  | succ d ih => exact ltB_trans (ih (by omega) (by omega)) (h (i + 1 + d) (by omega) (by omega))
theorem ge_eq (x y : ByteArray) : decide (¬ ltB x y) = !(Op.bytesLess x.toList y.toList) := by rw [less_eq2]; simp

set_option maxHeartbeats 1000000 in
theorem refRise_any {A : Option Addr} {c : Nat} {l : List ByteArray} {w : World} (h : SlS w A c l) :
    Calls Tryz.prog 79 #[.slice A l.length c] w fun e w' => e = .returned (.bool (riseN l)) ∧ Below w.heap.size w w' := by
  obtain ⟨h1, h2, h3⟩ := h
  unfold maxLen at h2
  go_enter Tryz.func79, Tryz.ntmps79
  go_wp2_with fail
  go_loopw [3] (fun i wr => ∃ k : Nat, 1 ≤ k ∧ k ≤ l.length + 1 ∧ i = .int .i64 k ∧ Hid (RiseTo l k) ∧ Below w.heap.size w wr) (fun i _ => l.length + 1 - (intOf i).toNat)
  case atStart => exact ⟨1, by omega, by omega, rfl, Lib.hid (fun j hj hm => by omega), Below.refl _ _⟩
  case round =>
    obtain ⟨k, hk1, hk, rfl, hs, hb⟩ := hrel
    by_cases hk2 : k < l.length
    · obtain ⟨j, rfl⟩ : ∃ j, k = j + 1 := ⟨k - 1, by omega⟩
      obtain ⟨n, hn⟩ : ∃ n, n = j + 1 := ⟨_, rfl⟩
      have hj0 : j < l.length := by omega
      have ew : IntKind.i64.wrap ((n : Int) - 1) = (j : Int) := by rw [IntWalk.i64_in _ (by omega)]; omega
      obtain ⟨ad, rfl, hx⟩ := row_str_at (h3.below hb) hk2
      obtain ⟨ad', e', hy⟩ := row_str_at (h3.below hb) hj0
      injection e' with e'
      subst e'
      have HST := Lib.hid (show (ltB l[j] l[j + 1] → RiseTo l (n + 1)) from fun hle i hi hm => by
        rcases Nat.lt_or_ge i j with h | h
        · exact hs.out i hi (by omega)
        · obtain rfl : i = j := by omega
          exact hle)
      have HNO := Lib.hid (show (¬ ltB l[j] l[j + 1] → riseN l = false) from fun hle => by
        rw [Bool.eq_false_iff]
        intro hr
        exact hle (List.pairwise_iff_getElem.1 ((riseN_iff l).1 hr) j (j + 1) (by omega) hk2 (by omega)))
      obtain ⟨x, hxe⟩ : ∃ x, l[j + 1] = x := ⟨_, rfl⟩
      obtain ⟨y, hye⟩ : ∃ y, l[j] = y := ⟨_, rfl⟩
      rw [hxe] at hx HST HNO
      rw [hye] at hy HST HNO
      rw [← hn] at hx
      have hq := less_eq2 y x
      have b1 : (0 : Int) ≤ (j : Int) := Int.natCast_nonneg _
      have b0 : (0 : Int) ≤ (n : Int) := Int.natCast_nonneg _
      have b2 : (n : Int) < (l.length : Int) := by omega
      have b3 : (j : Int) < (l.length : Int) := by omega
      have HN := Lib.hid hn
      have ec : ((j + 1 : Nat) : Int) = (n : Int) := by omega
      rw [ec]
      clear hxe hye hs hn ec
      by_cases hlt : ltB y x
      · rw [decide_eq_true hlt] at hq
        have HL := Lib.hid hlt
        clear hlt
        go_wp2
        go_quiet (fail)
        go_wp2
        go_roundw
        case rel => exact ⟨n + 1, by omega, by have := HN.out; omega, by go_num, Lib.hid (HST.out HL.out), below_drewN hb _⟩
        case measure => have := HN.out; simp [intOf]; omega
      · rw [decide_eq_false hlt] at hq
        have HL := Lib.hid (HNO.out hlt)
        clear hlt
        go_wp2
        go_quiet (fail)
        go_wp2
        go_ret
        exact ⟨by rw [HL.out]; rfl, below_drewN hb _⟩
    · have HR := Lib.hid (show riseN l = true from (riseN_iff l).2 (rise_all (fun j hj hm => hs.out j hj (by omega))))
      clear hs
      go_wp2
      go_ret
      exact ⟨by rw [HR.out]; rfl, hb⟩

end Go.Proofs.YtfoghahidofegaaGreat

namespace Go.Proofs.YtfoghahidofegaaGreat
open Go.RowKit

theorem over_snoc (l : List (ByteArray × Int)) (k : Nat) (h : k < l.length) : (!(l.take (k + 1)).any overF) = ((!(l.take k).any overF) && !overF l[k]) := by
  rw [List.take_succ_eq_append_getElem h, List.any_append]; simp
theorem fnames_snoc (l : List (ByteArray × Int)) (k : Nat) (h : k < l.length) : fnames (l.take (k + 1)) = fnames (l.take k) ++ [(l[k]).1] := by
  unfold fnames; rw [List.take_succ_eq_append_getElem h, List.map_append]; rfl
theorem fnames_at (l : List (ByteArray × Int)) (k : Nat) (h : k < l.length) (hm : mayN (l[k]).1 = false) : (fnames l).any (fun s => !mayN s) = true := by
  rw [List.any_eq_true]
  exact ⟨_, List.mem_map.2 ⟨_, List.getElem_mem h, rfl⟩, by rw [hm]; rfl⟩

set_option maxHeartbeats 4000000 in
set_option maxRecDepth 100000 in
theorem refMayE_any {w : World} {e : Event} {T F : Option Addr} {ct cf : Nat} (hT : SlS w T ct e.tags) (hF : SlF w F cf e.fields) (hg : ∀ s ∈ e.tags, s.size ≤ maxLen) :
    Calls Tryz.prog 33 #[vEvent e T ct F cf] w fun r w' => r = .returned (.int .i64 (mayE e)) ∧ Below w.heap.size w w' := by
  obtain ⟨W1, hW1⟩ : ∃ W1, W1 = w.alloc (.cells #[.string e.stream, .string e.type, .slice T e.tags.length ct, .slice F e.fields.length cf] 42) := ⟨_, rfl⟩
  have HW := Lib.hid hW1
  have hB : Below w.heap.size w W1 := by rw [hW1]; exact (Below.refl _ _).alloc (Nat.le_refl _) _
  have hx1 : Bx W1 w.heap.size 42 [.string e.stream, .string e.type, .slice T e.tags.length ct, .slice F e.fields.length cf] := by rw [hW1]; exact Bx.new w _ _
  have HT := Lib.hid (hT.below hB)
  have HF := Lib.hid (hF.below hB)
  have HX := Lib.hid hx1
  have HBl := Lib.hid hB
  have HG := Lib.hid hg
  have c0 := hx1.cell 0
  simp only [List.getElem?_cons_succ, List.getElem?_cons_zero] at c0
  clear hB hx1 hW1 hT hF hg
  obtain ⟨R, hR⟩ : ∃ R, mayE e = R := ⟨_, rfl⟩
  have HR := Lib.hid hR
  rw [hR]
  clear hR
  have C1 := Lib.hid (refMay_any e.stream W1)
  have C2 := Lib.hid (fun W => refMay_any e.type W)
  unfold mayE at HR
  generalize mayN e.stream = m1 at C1 HR
  generalize mayN e.type = m2 at C2 HR
  go_enter Tryz.func33, Tryz.ntmps33
  go_upto_region 1 with fail
  rw [← HW.out]
  clear HW
  go_upto_region 3 with (first
    | (go_at_call 29; go_fit (C2.out _); rintro r w3 ⟨rfl, hb3⟩; have HB3 := Lib.hid (bthen HB2.out hb3); clear hb3)
    | (go_at_call 29; go_fit C1.out; rintro r w2 ⟨rfl, hb2⟩; have HB2 := Lib.hid hb2; have c1 := (HX.out.under hb2).cell 1; simp only [List.getElem?_cons_succ, List.getElem?_cons_zero] at c1; clear hb2))
  clear c0 c1 C1 C2 HB2
  have HX3 := Lib.hid (HX.out.under HB3.out)
  have HT3 := Lib.hid (HT.out.below HB3.out)
  have HF3 := Lib.hid (HF.out.below HB3.out)
  have HB03 := Lib.hid (bthen HBl.out HB3.out)
  clear HX HT HF HBl HB3
  obtain ⟨X, hX⟩ : ∃ X, X = w3 := ⟨_, rfl⟩
  subst hX
  have k2 := HX3.out.cell 2
  have k3 := HX3.out.cell 3
  simp only [List.getElem?_cons_succ, List.getElem?_cons_zero] at k2 k3
  have hf1 := HF3.out.1
  have hf2 := HF3.out.2.1
  unfold maxLen at hf2
  rcases m1 with _ | _
  · have HV := Lib.hid (show R = 5 by rw [← HR.out]; rfl)
    clear HR
    go_wp2_with fail
    go_ret
    exact ⟨by rw [HV.out]; rfl, HB03.out⟩
  rcases m2 with _ | _
  · have HV := Lib.hid (show R = 5 by rw [← HR.out]; rfl)
    clear HR
    go_wp2_with fail
    go_ret
    exact ⟨by rw [HV.out]; rfl, HB03.out⟩
  by_cases h6 : 6 < e.tags.length
  · have HV := Lib.hid (show R = 3 by rw [← HR.out, decide_eq_true h6]; rfl)
    clear HR
    go_wp2_with fail
    go_ret
    exact ⟨by rw [HV.out]; rfl, HB03.out⟩
  by_cases h4 : 4 < e.fields.length
  · have HV := Lib.hid (show R = 3 by rw [← HR.out, decide_eq_true h4, Bool.or_true]; rfl)
    clear HR
    go_wp2_with fail
    go_ret
    exact ⟨by rw [HV.out]; rfl, HB03.out⟩
  have HR3 := Lib.hid (show (if (e.tags.any (fun s => !tagN s) || (fnames e.fields).any (fun s => !mayN s)) = true then (5 : Int)
    else if (!riseN e.tags || !riseN (fnames e.fields) || e.fields.any overF) = true then 1 else 0) = R by have := HR.out; rwa [decide_eq_false h6, decide_eq_false h4, if_neg (by decide), if_neg (by decide)] at this)
  clear HR
  have h0 := Own.lit0 Kn.str 9 X.heap.size (fun _ => False) X (Nat.le_refl _)
  have HO0 := Lib.hid h0
  have HBA := Lib.hid (show Below X.heap.size X (X.alloc (.cells #[] 9)) from (Below.refl _ _).alloc (Nat.le_refl _) _)
  clear h0
  go_wp2_with fail
  go_loopw [5, 6, 7] (fun v ft i wr => ∃ k : Nat, k ≤ e.fields.length ∧ i = .int .i64 k ∧ ft = .bool (!(e.fields.take k).any overF) ∧ Own Kn.str 9 X.heap.size (fun _ => False) wr v (fnames (e.fields.take k)) ∧ Hid ((fnames (e.fields.take k)).any (fun s => !mayN s) = false) ∧ Below X.heap.size X wr) (fun _ _ i _ => e.fields.length - (intOf i).toNat)
  case atStart => exact ⟨0, Nat.zero_le _, rfl, rfl, HO0.out, by exact rfl, HBA.out⟩
  case round =>
    clear HO0 HBA k2 k3
    obtain ⟨k, hk, rfl, rfl, ho, hm, hb⟩ := hrel
    have HB := Lib.hid hb
    have HO := Lib.hid ho
    have k3 := (HX3.out.under hb).cell 3
    simp only [List.getElem?_cons_succ, List.getElem?_cons_zero] at k3
    by_cases hlt : k < e.fields.length
    · obtain ⟨ad, rfl, hx, hy⟩ := row_field_at (HF3.out.2.2.below hb) hlt
      have HOV := Lib.hid (over_snoc e.fields k hlt)
      have HFN := Lib.hid (fnames_snoc e.fields k hlt)
      have HFA := Lib.hid (fnames_at e.fields k hlt)
      have HLN := Lib.hid (show (fnames (e.fields.take k)).length = k by simp [fnames]; omega)
      have HC := Lib.hid (refMay_any (e.fields[k]).1 wr)
      have HRA := Lib.hid (fun W (hb : Below X.heap.size X W) => show W.cell? (ad.add (k * 2)) = some (.string (e.fields[k]).1) ∧ W.cell? ⟨(ad.add (k * 2)).block, (ad.add (k * 2)).off + 1, none⟩ = some (.int .i64 (e.fields[k]).2) ∧ W.cell? ⟨w.heap.size, 3, none⟩ = some (.slice (some ad) e.fields.length cf) from by
        obtain ⟨ad', he, h1, h2⟩ := row_field_at (HF3.out.below hb).2.2 hlt
        obtain rfl := Option.some.inj he
        exact ⟨h1, h2, (HX3.out.under hb).cell 3⟩)
      generalize e.fields[k] = x at hx hy HOV HFN HFA HC HRA
      have e1 : (0 : Int) ≤ (k : Int) := Int.natCast_nonneg _
      have e2 : (k : Int) < (e.fields.length : Int) := by omega
      have HMN := Lib.hid (show (fnames (e.fields.take k) ++ [x.1]).any (fun s => !mayN s) = !mayN x.1 by rw [List.any_append, hm.out]; simp)
      clear ho hb hm
      generalize mayN x.1 = m at HFA HC HMN
      rcases m with _ | _
      · have HV := Lib.hid (show R = 5 by rw [← HR3.out, HFA.out rfl, Bool.or_true]; rfl)
        clear HR3
        go_wp2_with (go_at_call 29; go_fit HC.out; rintro r w4 ⟨rfl, hb4⟩; have HB4 := Lib.hid (bthen HB.out hb4); clear hb4)
        go_ret
        exact ⟨by rw [HV.out]; rfl, bthen HB03.out HB4.out⟩
      · have hov : overF x = (decide (x.2 < -1099511627776) || decide (1099511627776 < x.2)) := rfl
        rw [hov] at HOV
        clear hov
        generalize (!(e.fields.take k).any overF) = ft at HOV ⊢
        have h3 : (x.2 < -1099511627776 ∧ ¬ 1099511627776 < x.2) ∨ (¬ x.2 < -1099511627776 ∧ 1099511627776 < x.2) ∨ (¬ x.2 < -1099511627776 ∧ ¬ 1099511627776 < x.2) := by omega
        rcases ft with _ | _ <;> rcases h3 with ⟨h1, h2⟩ | ⟨h1, h2⟩ | ⟨h1, h2⟩
        all_goals
          first
            | rw [decide_eq_true h1, decide_eq_false h2] at HOV
            | rw [decide_eq_false h1, decide_eq_true h2] at HOV
            | rw [decide_eq_false h1, decide_eq_false h2] at HOV
          go_wp2_with (first
            | (go_at_call 29; go_fit HC.out; rintro r w4 ⟨rfl, hb4⟩; have HB4 := Lib.hid (bthen HB.out hb4); have HO4 := Lib.hid (HO.out.below hb4); obtain ⟨a0, a1, a2⟩ := HRA.out _ HB4.out; clear hb4)
            | (at_builtin; refine wpList_pushH (W := w4) rfl _ _ _ rfl 9 _ 1 16 Tryz.underlying39 infoS2 rfl (by decide) (by decide) rfl X.heap.size (fun _ => False) _ _ rfl HO4.out x.1 [.string x.1] rfl w4.heap.size rfl rfl HB4.out.size (by rw [HLN.out]; omega) ?_; intro v1 w5 hown1 hg1 hat1 hbel1; have HO5 := Lib.hid hown1; have HB5 := Lib.hid (hbel1 X HB4.out); obtain ⟨b0, b1, b2⟩ := HRA.out _ HB5.out; clear hown1 hg1 hat1 hbel1))
          go_roundw
          case rel => exact ⟨k + 1, by omega, by go_num, by first | (rw [HOV.out]; rfl) | (rw [HOV.out]; simp; omega), by rw [HFN.out]; exact HO5.out, Lib.hid (by rw [HFN.out]; exact HMN.out), HB5.out⟩
          case measure => simp [intOf]; omega
    · obtain rfl : k = e.fields.length := by omega
      clear ho hb hlt
      have hfl : e.fields.take e.fields.length = e.fields := List.take_length
      rw [hfl] at hm HO ⊢
      have HR4 := Lib.hid (show (if (e.tags.any (fun s => !tagN s)) = true then (5 : Int) else if (!riseN e.tags || !riseN (fnames e.fields) || e.fields.any overF) = true then 1 else 0) = R by have := HR3.out; rwa [hm.out, Bool.or_false] at this)
      obtain ⟨A', c', rfl, hs⟩ := HO.out.sl
      have HN := Lib.hid hs.any
      clear hm HO hs hfl HR3
      have k2 := (HX3.out.under HB.out).cell 2
      simp only [List.getElem?_cons_succ, List.getElem?_cons_zero] at k2
      have CT := Lib.hid (refTags_any (HT3.out.below HB.out) HG.out)
      have D1 := Lib.hid (fun W (hb : Below wr.heap.size wr W) => refRise_any (HT3.out.below (bthen HB.out hb)))
      have D2 := Lib.hid (fun W (hb : Below wr.heap.size wr W) => refRise_any (HN.out.below hb))
      have HKB := Lib.hid (fun W (hb : Below wr.heap.size wr W) => show W.cell? ⟨w.heap.size, 2, none⟩ = some (.slice T e.tags.length ct) from (HX3.out.under (bthen HB.out hb)).cell 2)
      generalize e.tags.any (fun s => !tagN s) = t1 at CT HR4
      generalize riseN e.tags = r1 at D1 HR4
      generalize riseN (fnames e.fields) = r2 at D2 HR4
      generalize e.fields.any overF = o at HR4 ⊢
      rcases t1 with _ | _
      rotate_left
      · have HV := Lib.hid (show R = 5 by rw [← HR4.out]; rfl)
        clear HR4
        go_wp2_with (go_at_call 78; go_fit CT.out; rintro r w4 ⟨rfl, hb4⟩; have HB4 := Lib.hid (bthen HB.out hb4); clear hb4)
        go_ret
        exact ⟨by rw [HV.out]; rfl, bthen HB03.out HB4.out⟩
      rcases r1 with _ | _ <;> rcases r2 with _ | _ <;> rcases o with _ | _
      all_goals
        first
          | (have HV := Lib.hid (show R = 1 by rw [← HR4.out]; rfl))
          | (have HV := Lib.hid (show R = 0 by rw [← HR4.out]; rfl))
        clear HR4
        go_wp2_with (first
          | (go_at_call 78; go_fit CT.out; rintro r w4 ⟨rfl, hb4⟩; have HB4 := Lib.hid hb4; have j2 := HKB.out _ hb4; clear hb4)
          | (go_at_call 79; go_fit (D1.out _ HB4.out); rintro r w5 ⟨rfl, hb5⟩; have HB5 := Lib.hid (bthen HB4.out hb5); clear hb5)
          | (go_at_call 79; go_fit (D2.out _ HB5.out); rintro r w6 ⟨rfl, hb6⟩; have HB6 := Lib.hid (bthen HB5.out hb6); clear hb6))
        go_ret
        exact ⟨by rw [HV.out]; rfl, bthen HB03.out (bthen HB.out HB6.out)⟩
end Go.Proofs.YtfoghahidofegaaGreat

namespace Go.Proofs.YtfoghahidofegaaGreat
open Go.RowKit

set_option maxHeartbeats 4000000 in
set_option maxRecDepth 8000 in
theorem ref10May_any {w : World} {E : Option Addr} {ce : Nat} {es : List Event} {after : Int} (hE : SlE w E ce es) (hg : ∀ e ∈ es, EvIn e) :
    Calls Tryz.prog 60 #[.agg #[.int .i64 after, .slice E es.length ce]] w fun r w' => r = .returned (.int .i64 (mayB after es)) ∧ Below w.heap.size w w' := by
  obtain ⟨h1, h2, h3⟩ := hE
  unfold maxLen at h2
  have HB0 := Lib.hid (show Below w.heap.size w (w.alloc (.cells #[.int .i64 after, .slice E es.length ce] 45)) from (Below.refl _ _).alloc (Nat.le_refl _) _)
  have HX0 := Lib.hid (Bx.new w 45 [.int .i64 after, .slice E es.length ce])
  have HG := Lib.hid hg
  clear hg
  go_enter Tryz.func60, Tryz.ntmps60
  by_cases hz : es.length = 0
  · have HZ := Lib.hid hz
    have d0 : ((es.length : Int) == 0) = true := by simp [hz]
    clear hz
    go_wp2_with fail
    go_ret
    exact ⟨ret_int (by unfold mayB; rw [if_pos HZ.out]), HB0.out⟩
  have d0 : ((es.length : Int) == 0) = false := by simp [hz]
  by_cases h16 : 16 < es.length
  · go_wp2_with fail
    go_ret
    exact ⟨ret_int (by unfold mayB; rw [if_neg hz, if_pos h16]), HB0.out⟩
  go_wp2_with fail
  go_loopw [3] (fun i wr => ∃ k : Nat, k ≤ es.length ∧ i = .int .i64 k ∧ Hid (badE (es.take k) = 0) ∧ Hid (Bx wr w.heap.size 45 [.int .i64 after, .slice E es.length ce]) ∧ Below w.heap.size w wr) (fun i _ => es.length - (intOf i).toNat)
  case atStart => exact ⟨0, Nat.zero_le _, rfl, by exact rfl, HX0, HB0.out⟩
  case round =>
    obtain ⟨k, hk, rfl, hbad, hx, hb⟩ := hrel
    have x1 := hx.out.cell 1
    simp only [List.getElem?_cons_succ, List.getElem?_cons_zero] at x1
    by_cases hlt : k < es.length
    · obtain ⟨ad, S, sa, T, ta, rfl, c0, c1, c2, c3, hS, hT⟩ := row_ev_at (h3.below hb) hlt
      have hin := HG.out _ (List.getElem_mem hlt)
      have HT1 := Lib.hid (badE_take hlt hbad.out)
      have HT2 := Lib.hid (badE_at hlt hbad.out)
      generalize es[k] = e at c0 c1 c2 c3 hS hT hin HT1 HT2
      obtain ⟨m, hm⟩ : ∃ m, mayE e = m := ⟨_, rfl⟩
      have C := Lib.hid (refMayE_any hS.any hT.any hin.ts)
      rw [hm] at C HT1 HT2
      have HM := Lib.hid hm
      have e1 : (0 : Int) ≤ (k : Int) := Int.natCast_nonneg _
      have e2 : (k : Int) < (es.length : Int) := by omega
      have HB := Lib.hid hb
      clear hm hS hT hbad hb
      by_cases hm0 : m = 0
      · subst hm0
        go_wp2_with (go_at_call 33; go_fit C.out; rintro r w4 ⟨rfl, hb4⟩; have HB4 := Lib.hid hb4; clear hb4)
        go_roundw
        case rel => exact ⟨k + 1, by omega, by go_num, Lib.hid (HT1.out (by first | rfl | trivial)), Lib.hid (hx.out.under HB4.out), bthen HB.out HB4.out⟩
        case measure => simp [intOf]; omega
      · have d2 : (m != 0) = true := by simp [hm0]
        have HM0 := Lib.hid hm0
        clear hm0
        go_wp2_with (go_at_call 33; go_fit C.out; rintro r w4 ⟨rfl, hb4⟩; have HB4 := Lib.hid hb4; clear hb4)
        go_ret
        exact ⟨ret_int (by unfold mayB; rw [if_neg hz, if_neg h16, HT2.out HM0.out, if_pos HM0.out]), bthen HB.out HB4.out⟩
    · obtain rfl : k = es.length := by omega
      have hbd := hbad.out
      rw [List.take_length] at hbd
      have HBD := Lib.hid hbd
      clear hbad hbd
      have ew : IntKind.i64.wrap (1048576 - (es.length : Int)) = 1048576 - (es.length : Int) := IntWalk.i64_in _ (by omega)
      have x0 := hx.out.cell 0
      simp only [List.getElem?_cons_zero] at x0
      have HNZ := Lib.hid hz
      clear hz
      by_cases ha : after < 0
      · go_wp2_with fail
        go_ret
        exact ⟨ret_int (by unfold mayB; rw [if_neg HNZ.out, if_neg h16, HBD.out, if_neg (by simp), if_pos (.inl ha)]), hb⟩
      · by_cases ha2 : 1048576 - (es.length : Int) < after
        · go_wp2_with fail
          go_ret
          exact ⟨ret_int (by unfold mayB; rw [if_neg HNZ.out, if_neg h16, HBD.out, if_neg (by simp), if_pos (.inr ha2)]), hb⟩
        · go_wp2_with fail
          go_ret
          exact ⟨ret_int (by unfold mayB; rw [if_neg HNZ.out, if_neg h16, HBD.out, if_neg (by simp), if_neg (by omega)]), hb⟩
end Go.Proofs.YtfoghahidofegaaGreat

namespace Go.Proofs.YtfoghahidofegaaGreat
open Go.RowKit

/-- Whether two events are the same. -/
def sameE (a b : Event) : Bool := decide (a.stream = b.stream) && (decide (a.type = b.type) && (decide (a.tags = b.tags) && decide (a.fields = b.fields)))
theorem event_ext {a b : Event} (h1 : a.stream = b.stream) (h2 : a.type = b.type) (h3 : a.tags = b.tags) (h4 : a.fields = b.fields) : a = b := by
  cases a; cases b; simp at h1 h2 h3 h4; rw [h1, h2, h3, h4]
theorem sameE_iff (a b : Event) : sameE a b = true ↔ a = b := by
  unfold sameE
  simp only [Bool.and_eq_true, decide_eq_true_eq]
  exact ⟨fun h => event_ext h.1 h.2.1 h.2.2.1 h.2.2.2, fun h => by rw [h]; simp⟩
theorem sameE_refl (a : Event) : sameE a a = true := (sameE_iff a a).2 rfl
theorem sameE_comm (a b : Event) : sameE a b = sameE b a := by
  rw [Bool.eq_iff_iff, sameE_iff, sameE_iff]; exact eq_comm

end Go.Proofs.YtfoghahidofegaaGreat

namespace Go.Proofs.YtfoghahidofegaaGreat
open Go.RowKit

set_option maxHeartbeats 4000000 in
theorem refSameE_any {w : World} {x y : Event} {T F T' F' : Option Addr} {ct cf ct' cf' : Nat} (h1 : SlS w T ct x.tags) (h2 : SlF w F cf x.fields) (h3 : SlS w T' ct' y.tags) (h4 : SlF w F' cf' y.fields) :
    Calls Tryz.prog 45 #[vEvent x T ct F cf, vEvent y T' ct' F' cf'] w fun e w' => e = .returned (.bool (sameE x y)) ∧ Below w.heap.size w w' := by
  obtain ⟨W1, hW1⟩ : ∃ W1, W1 = (w.alloc (.cells #[.string x.stream, .string x.type, .slice T x.tags.length ct, .slice F x.fields.length cf] 42)).alloc (.cells #[.string y.stream, .string y.type, .slice T' y.tags.length ct', .slice F' y.fields.length cf'] 42) := ⟨_, rfl⟩
  have HW := Lib.hid hW1
  have hB : Below w.heap.size w W1 := by rw [hW1]; exact ((Below.refl _ _).alloc (Nat.le_refl _) _).alloc (by simp) _
  have hx1 : Bx W1 w.heap.size 42 [.string x.stream, .string x.type, .slice T x.tags.length ct, .slice F x.fields.length cf] := by rw [hW1]; exact (Bx.new w _ _).alloc _
  have hx2 : Bx W1 (w.heap.size + 1) 42 [.string y.stream, .string y.type, .slice T' y.tags.length ct', .slice F' y.fields.length cf'] := by
    rw [hW1]; have := Bx.new (w.alloc (.cells #[.string x.stream, .string x.type, .slice T x.tags.length ct, .slice F x.fields.length cf] 42)) 42 [.string y.stream, .string y.type, .slice T' y.tags.length ct', .slice F' y.fields.length cf']
    simpa using this
  have CT := Lib.hid (texts_any2 (h1.below hB) (h3.below hB))
  have q1 := strEqL x.stream y.stream
  have q2 := strEqL x.type y.type
  have HF1 := Lib.hid (h2.below hB)
  have HF2 := Lib.hid (h4.below hB)
  unfold sameE
  generalize decide (x.stream = y.stream) = b1 at q1 ⊢
  generalize decide (x.type = y.type) = b2 at q2 ⊢
  generalize decide (x.tags = y.tags) = b3 at CT ⊢
  obtain ⟨R, hR⟩ : ∃ R, R = (b1 && (b2 && (b3 && decide (x.fields = y.fields)))) := ⟨_, rfl⟩
  rw [← hR]
  have HR := Lib.hid hR
  clear hR
  have HBx1 := Lib.hid hx1
  have HBx2 := Lib.hid hx2
  have HB := Lib.hid hB
  clear hB hx1 hx2 hW1 h1 h2 h3 h4
  go_enter Tryz.func45, Tryz.ntmps45
  go_upto_region 1 with fail
  rw [← HW.out]
  clear HW
  have c2 := HBx1.out.cell 2
  have d2 := HBx2.out.cell 2
  simp only [List.getElem?_cons_succ, List.getElem?_cons_zero] at c2 d2
  go_upto_region 2 with (go_at_call 87; go_fit CT.out; rintro e w2 ⟨rfl, hb2⟩; have HB2 := Lib.hid hb2; clear hb2)
  clear c2 d2 CT
  have X1 := Lib.hid (HBx1.out.under HB2.out)
  have X2 := Lib.hid (HBx2.out.under HB2.out)
  have R1 := Lib.hid (HF1.out.below HB2.out)
  have R2 := Lib.hid (HF2.out.below HB2.out)
  have HBW := Lib.hid (bthen HB.out HB2.out)
  clear HBx1 HBx2 HF1 HF2 HB HB2
  obtain ⟨X, hX⟩ : ∃ X, X = w2 := ⟨_, rfl⟩
  subst hX
  have c0 := X1.out.cell 0
  have c1 := X1.out.cell 1
  have c3 := X1.out.cell 3
  have d0 := X2.out.cell 0
  have d1 := X2.out.cell 1
  have d3 := X2.out.cell 3
  simp only [List.getElem?_cons_succ, List.getElem?_cons_zero] at c0 c1 c3 d0 d1 d3
  have hr1 := R1.out.1
  have hr2 := R1.out.2.1
  have hr3 := R2.out.1
  have hr4 := R2.out.2.1
  unfold maxLen at hr2 hr4
  rcases b1 with _ | _
  · have HT := Lib.hid (show R = false by rw [HR.out]; rfl)
    clear HR
    go_wp2_with fail
    go_ret
    exact ⟨by rw [HT.out]; rfl, HBW.out⟩
  rcases b2 with _ | _
  · have HT := Lib.hid (show R = false by rw [HR.out]; rfl)
    clear HR
    go_wp2_with fail
    go_ret
    exact ⟨by rw [HT.out]; rfl, HBW.out⟩
  rcases b3 with _ | _
  · have HT := Lib.hid (show R = false by rw [HR.out]; rfl)
    clear HR
    go_wp2_with fail
    go_ret
    exact ⟨by rw [HT.out]; rfl, HBW.out⟩
  by_cases hl : x.fields.length = y.fields.length
  · have H0 := Lib.hid hl
    have hl0 : ((x.fields.length : Int) != (y.fields.length : Int)) = false := by rw [hl]; simp
    clear hl
    go_wp2_with fail
    clear c0 c1 c3 d0 d1 d3
    go_loopw [6] (fun i wr => ∃ k : Nat, k ≤ x.fields.length ∧ i = .int .i64 k ∧ AlikeF x.fields y.fields k ∧ Below X.heap.size X wr) (fun i _ => x.fields.length - (intOf i).toNat)
    case atStart => exact ⟨0, Nat.zero_le _, rfl, fun j hj => by omega, Below.refl _ _⟩
    case round =>
      obtain ⟨k, hk, rfl, hal, hb⟩ := hrel
      have c3 := (X1.out.under hb).cell 3
      have d3 := (X2.out.under hb).cell 3
      simp only [List.getElem?_cons_succ, List.getElem?_cons_zero] at c3 d3
      have HBK := Lib.hid (fun n => below_drewN hb n)
      have HBK0 := Lib.hid hb
      by_cases hlt : k < x.fields.length
      · obtain ⟨ad, rfl, hx, hx1⟩ := row_field_at (R1.out.below hb).2.2 hlt
        obtain ⟨bd, rfl, hy, hy1⟩ := row_field_at (R2.out.below hb).2.2 (j := k) (by have := H0.out; omega)
        have hltb : k < y.fields.length := by have := H0.out; omega
        generalize hxe : x.fields[k] = u at hx hx1
        generalize hye : y.fields[k] = v at hy hy1
        have HX := Lib.hid hxe
        have HY := Lib.hid hye
        clear hxe hye hb
        have hq := strEqL u.1 v.1
        have hxy2 : (u = v) ↔ (u.1 = v.1 ∧ u.2 = v.2) := fieldEq u v
        have e1 : (0 : Int) ≤ (k : Int) := Int.natCast_nonneg _
        have e2 : (k : Int) < (x.fields.length : Int) := by omega
        have e3 : (k : Int) < (y.fields.length : Int) := by omega
        by_cases h1 : u.1 = v.1
        · by_cases h2 : u.2 = v.2
          · rw [decide_eq_true h1] at hq
            have HXY := Lib.hid (hxy2.2 ⟨h1, h2⟩)
            have h3 : (u.2 == v.2) = true := by simpa using h2
            have h3' : (u.2 != v.2) = false := by simpa using h2
            clear h1 h2 hxy2
            go_wp2
            go_quiet (fail)
            go_wp2
            go_roundw
            case rel =>
              refine ⟨k + 1, by omega, by go_num, fun j hj => ?_, HBK.out _⟩
              rcases Nat.lt_or_ge j k with h | h
              · exact hal j h
              · obtain rfl : j = k := by omega
                rw [List.getElem?_eq_getElem hlt, List.getElem?_eq_getElem hltb, HX.out, HY.out, HXY.out]
            case measure => simp [intOf]; omega
          · rw [decide_eq_true h1] at hq
            have HXY := Lib.hid (show x.fields ≠ y.fields from fun e => h2 ((hxy2.1 (by rw [← HX.out, ← HY.out]; simp only [e])).2))
            have HT := Lib.hid (show R = false by rw [HR.out, decide_eq_false HXY.out]; rfl)
            have h3 : (u.2 == v.2) = false := by simpa using h2
            have h3' : (u.2 != v.2) = true := by simpa using h2
            clear h1 h2 hxy2 HR
            go_wp2
            go_quiet (fail)
            go_wp2
            go_ret
            exact ⟨by rw [HT.out]; rfl, bthen HBW.out (HBK.out _)⟩
        · rw [decide_eq_false h1] at hq
          have HXY := Lib.hid (show x.fields ≠ y.fields from fun e => h1 ((hxy2.1 (by rw [← HX.out, ← HY.out]; simp only [e])).1))
          have HT := Lib.hid (show R = false by rw [HR.out, decide_eq_false HXY.out]; rfl)
          clear h1 hxy2 HR
          go_wp2
          go_quiet (fail)
          go_wp2
          go_ret
          exact ⟨by rw [HT.out]; rfl, bthen HBW.out (HBK.out _)⟩
      · obtain rfl : k = x.fields.length := by omega
        have HT := Lib.hid (show R = true by rw [HR.out, decide_eq_true (alikeF_all H0.out hal)]; rfl)
        clear HR hb
        go_wp2
        go_ret
        exact ⟨by rw [HT.out]; rfl, bthen HBW.out HBK0.out⟩
  · have hl0 : ((x.fields.length : Int) != (y.fields.length : Int)) = true := by rw [bne_iff_ne]; omega
    have HT := Lib.hid (show R = false by rw [HR.out, decide_eq_false (fun e => hl (by rw [e]))]; rfl)
    clear HR
    go_wp2_with fail
    go_ret
    exact ⟨by rw [HT.out]; rfl, HBW.out⟩

end Go.Proofs.YtfoghahidofegaaGreat

namespace Go.Proofs.YtfoghahidofegaaGreat
open Go.RowKit

/-- Two records alike. -/
def sameR1 (a b : Rec) : Bool := decide (a.pos = b.pos) && (decide (a.ver = b.ver) && sameE a.ev b.ev)
theorem sameR1_iff (a b : Rec) : sameR1 a b = true ↔ a = b := by
  unfold sameR1
  rw [Bool.and_eq_true, Bool.and_eq_true, decide_eq_true_eq, decide_eq_true_eq, sameE_iff]
  constructor
  · rintro ⟨h1, h2, h3⟩; cases a; cases b; simp_all
  · rintro rfl; exact ⟨rfl, rfl, rfl⟩
/-- Two rows of records alike. -/
def sameRs : List Rec → List Rec → Bool
  | [], [] => true
  | a :: as_, b :: bs => sameR1 a b && sameRs as_ bs
  | _, _ => false
theorem sameRs_iff : ∀ (a b : List Rec), sameRs a b = true ↔ a = b
  | [], [] => by simp [sameRs]
  | a :: as_, [] => by simp [sameRs]
  | [], b :: bs => by simp [sameRs]
  | a :: as_, b :: bs => by rw [sameRs, Bool.and_eq_true, sameR1_iff, sameRs_iff as_ bs]; simp
theorem sameRs_refl (a : List Rec) : sameRs a a = true := (sameRs_iff a a).2 rfl
theorem sameRs_ne {a b : List Rec} (h : a.length ≠ b.length) : sameRs a b = false := by
  cases hh : sameRs a b with
  | false => rfl
  | true => exact absurd (congrArg List.length ((sameRs_iff a b).1 hh)) h
theorem sameRs_drop {a b : List Rec} {k : Nat} (ha : k < a.length) (hb : k < b.length) : sameRs (a.drop k) (b.drop k) = (sameR1 a[k] b[k] && sameRs (a.drop (k + 1)) (b.drop (k + 1))) := by
  rw [List.drop_eq_getElem_cons ha, List.drop_eq_getElem_cons hb]; rfl

set_option maxHeartbeats 8000000 in
set_option maxRecDepth 100000 in
theorem ref14Same_any {w : World} {A B : Option Addr} {ca cb : Nat} {a b : List Rec} (ha : SlR w A ca a) (hb : SlR w B cb b) :
    Calls Tryz.prog 18 #[.slice A a.length ca, .slice B b.length cb] w fun r w' => r = .returned (.bool (sameRs a b)) ∧ Below w.heap.size w w' := by
  have ha2 := ha.2.1
  have hb2 := hb.2.1
  unfold maxLen at ha2 hb2
  have ha1 := ha.1
  have hb1 := hb.1
  go_enter Tryz.func18, Tryz.ntmps18
  by_cases hl : a.length = b.length
  rotate_left
  · have HN := Lib.hid (sameRs_ne hl)
    have d0 : ((a.length : Int) != (b.length : Int)) = true := by rw [bne_iff_ne]; omega
    clear hl
    go_wp2_with fail
    go_ret
    exact ⟨ret_bool HN.out.symm, Below.refl _ _⟩
  have d0 : ((a.length : Int) != (b.length : Int)) = false := by rw [hl]; simp
  have HL := Lib.hid hl
  obtain ⟨R, hR⟩ : ∃ R, sameRs a b = R := ⟨_, rfl⟩
  rw [hR]
  clear hl
  go_wp2_with fail
  go_loopw [5] (fun i wr => ∃ k : Nat, k ≤ a.length ∧ i = .int .i64 k ∧ Hid (sameRs (a.drop k) (b.drop k) = R) ∧ Below w.heap.size w wr) (fun i _ => a.length - (intOf i).toNat)
  case atStart => exact ⟨0, Nat.zero_le _, rfl, Lib.hid hR, Below.refl _ _⟩
  case round =>
    clear hR
    obtain ⟨k, hk, rfl, hs, hbl⟩ := hrel
    by_cases hlt : k < a.length
    · have hltb : k < b.length := by rw [← HL.out]; exact hlt
      obtain ⟨ad, S, sa, T, ta, rfl, c0, c1, c2, c3, c4, c5, hS, hT⟩ := row_rec_at (ha.below hbl).2.2 hlt
      obtain ⟨bd, S', sb, T', tb, rfl, e0, e1, e2, e3, e4, e5, hS', hT'⟩ := row_rec_at (hb.below hbl).2.2 hltb
      have HST := Lib.hid (sameRs_drop hlt hltb)
      generalize a[k] = x at c0 c1 c2 c3 c4 c5 hS hT HST
      generalize b[k] = y at e0 e1 e2 e3 e4 e5 hS' hT' HST
      have HA := Lib.hid (And.intro hS.any hT.any)
      have HB := Lib.hid (And.intro hS'.any hT'.any)
      obtain ⟨s, hs0⟩ : ∃ s, sameE x.ev y.ev = s := ⟨_, rfl⟩
      have C1 : Hid (∀ W (Q : Prop), Below wr.heap.size wr W ∧ Q → Calls Tryz.prog 45 #[vEvent x.ev S sa T ta, vEvent y.ev S' sb T' tb] W fun e w' => e = .returned (.bool s) ∧ Below W.heap.size W w') := Lib.hid (fun W Q hW => by
        rw [← hs0]; exact refSameE_any (HA.out.1.below hW.1) (HA.out.2.below hW.1) (HB.out.1.below hW.1) (HB.out.2.below hW.1))
      have HS0 := Lib.hid hs0
      have i1 : (0 : Int) ≤ (k : Int) := Int.natCast_nonneg _
      have i2 : (k : Int) < (a.length : Int) := by omega
      have i3 : (k : Int) < (b.length : Int) := by omega
      have HKA : Hid (∀ W, Below wr.heap.size wr W → Below wr.heap.size wr W ∧ (W.cell? ⟨(ad.add (k * 6)).block, (ad.add (k * 6)).off + 2, none⟩ = some (.string x.ev.stream) ∧ W.cell? ⟨(ad.add (k * 6)).block, (ad.add (k * 6)).off + 3, none⟩ = some (.string x.ev.type) ∧ W.cell? ⟨(ad.add (k * 6)).block, (ad.add (k * 6)).off + 4, none⟩ = some (.slice S x.ev.tags.length sa) ∧ W.cell? ⟨(ad.add (k * 6)).block, (ad.add (k * 6)).off + 5, none⟩ = some (.slice T x.ev.fields.length ta)) ∧ (W.cell? ⟨(bd.add (k * 6)).block, (bd.add (k * 6)).off + 2, none⟩ = some (.string y.ev.stream) ∧ W.cell? ⟨(bd.add (k * 6)).block, (bd.add (k * 6)).off + 3, none⟩ = some (.string y.ev.type) ∧ W.cell? ⟨(bd.add (k * 6)).block, (bd.add (k * 6)).off + 4, none⟩ = some (.slice S' y.ev.tags.length sb) ∧ W.cell? ⟨(bd.add (k * 6)).block, (bd.add (k * 6)).off + 5, none⟩ = some (.slice T' y.ev.fields.length tb))) :=
        Lib.hid (fun W hW => by
          have mv : ∀ p u, wr.cell? p = some u → W.cell? p = some u := fun p u h => (hW.cell (World.block_lt_of_cell? wr _ h)).trans h
          exact ⟨hW, ⟨mv _ _ c2, mv _ _ c3, mv _ _ c4, mv _ _ c5⟩, ⟨mv _ _ e2, mv _ _ e3, mv _ _ e4, mv _ _ e5⟩⟩)
      have HC := Lib.hid (fun W (hW : Below wr.heap.size wr W) => show W.cell? (ad.add (k * 6)) = some (.int .i64 x.pos) ∧ W.cell? ⟨(ad.add (k * 6)).block, (ad.add (k * 6)).off + 1, none⟩ = some (.int .i64 x.ver) ∧ W.cell? (bd.add (k * 6)) = some (.int .i64 y.pos) ∧ W.cell? ⟨(bd.add (k * 6)).block, (bd.add (k * 6)).off + 1, none⟩ = some (.int .i64 y.ver) from by
          have mv : ∀ p u, wr.cell? p = some u → W.cell? p = some u := fun p u h => (hW.cell (World.block_lt_of_cell? wr _ h)).trans h
          exact ⟨mv _ _ c0, mv _ _ c1, mv _ _ e0, mv _ _ e1⟩)
      clear c0 c1 c2 c3 c4 c5 e0 e1 e2 e3 e4 e5 hS hT hS' hT' hs0
      go_upto_region 6 with fail
      go_cut [6] (fun v wx => v = .bool s ∧ Below wr.heap.size wr wx)
      case first =>
        go_region_held3 (fun W => Below wr.heap.size wr W ∧ (W.cell? ⟨(ad.add (k * 6)).block, (ad.add (k * 6)).off + 2, none⟩ = some (.string x.ev.stream) ∧ W.cell? ⟨(ad.add (k * 6)).block, (ad.add (k * 6)).off + 3, none⟩ = some (.string x.ev.type) ∧ W.cell? ⟨(ad.add (k * 6)).block, (ad.add (k * 6)).off + 4, none⟩ = some (.slice S x.ev.tags.length sa) ∧ W.cell? ⟨(ad.add (k * 6)).block, (ad.add (k * 6)).off + 5, none⟩ = some (.slice T x.ev.fields.length ta)) ∧ (W.cell? ⟨(bd.add (k * 6)).block, (bd.add (k * 6)).off + 2, none⟩ = some (.string y.ev.stream) ∧ W.cell? ⟨(bd.add (k * 6)).block, (bd.add (k * 6)).off + 3, none⟩ = some (.string y.ev.type) ∧ W.cell? ⟨(bd.add (k * 6)).block, (bd.add (k * 6)).off + 4, none⟩ = some (.slice S' y.ev.tags.length sb) ∧ W.cell? ⟨(bd.add (k * 6)).block, (bd.add (k * 6)).off + 5, none⟩ = some (.slice T' y.ev.fields.length tb)))
          (first | exact HKA.out _ (below_drawn (Below.refl _ _)) | (assumption) | exact HKA.out _ (bthen (And.left (by assumption : Below wr.heap.size wr _ ∧ _)) (by assumption)))
          (first | (go_at_call 45; go_fit (C1.out _ _ (by assumption)); rintro r w4 ⟨rfl, hb4⟩))
        all_goals go_wp2_with fail
        all_goals go_meet
        all_goals exact ⟨rfl, And.left (by assumption : Below wr.heap.size wr w4 ∧ _)⟩
      case rest =>
        obtain ⟨rfl, hbx⟩ := hcut
        obtain ⟨c0, c1, e0, e1⟩ := HC.out _ hbx
        have HBX := Lib.hid (bthen hbl hbx)
        clear hbx hbl C1 HKA HC
        have hR1 : sameR1 x y = (decide (x.pos = y.pos) && (decide (x.ver = y.ver) && s)) := by unfold sameR1; rw [HS0.out]
        have HR1 := Lib.hid hR1
        clear hR1
        by_cases hp : x.pos = y.pos
        · have p0 : (x.pos != y.pos) = false := by simp [hp]
          by_cases hv : x.ver = y.ver
          · have v0 : (x.ver != y.ver) = false := by simp [hv]
            cases s with
            | true =>
              have HNX := Lib.hid (show sameRs (a.drop (k + 1)) (b.drop (k + 1)) = R by
                have := hs.out
                rw [HST.out, HR1.out, decide_eq_true hp, decide_eq_true hv] at this
                simpa using this)
              clear hp hv hs
              go_upto_region 7 with fail
              go_quiet (fail)
              go_wp2_with fail
              go_roundw
              case rel => exact ⟨k + 1, by omega, by go_num, HNX, below_drewN HBX.out _⟩
              case measure => simp [intOf]; omega
            | false =>
              have HNX := Lib.hid (show false = R by
                have := hs.out
                rw [HST.out, HR1.out, decide_eq_true hp, decide_eq_true hv] at this
                simpa using this)
              clear hp hv hs
              go_upto_region 7 with fail
              go_quiet (fail)
              go_wp2_with fail
              go_ret
              exact ⟨ret_bool HNX.out, below_drewN HBX.out _⟩
          · have v0 : (x.ver != y.ver) = true := by simp [hv]
            have HNX := Lib.hid (show false = R by
              have := hs.out
              rw [HST.out, HR1.out, decide_eq_true hp, decide_eq_false hv] at this
              simpa using this)
            clear hp hv hs
            go_upto_region 7 with fail
            go_quiet (fail)
            go_wp2_with fail
            go_ret
            exact ⟨ret_bool HNX.out, below_drewN HBX.out _⟩
        · have p0 : (x.pos != y.pos) = true := by simp [hp]
          have HNX := Lib.hid (show false = R by
            have := hs.out
            rw [HST.out, HR1.out, decide_eq_false hp] at this
            simpa using this)
          clear hp hs
          go_upto_region 7 with fail
          go_quiet (fail)
          go_wp2_with fail
          go_ret
          exact ⟨ret_bool HNX.out, below_drewN HBX.out _⟩
    · obtain rfl : k = a.length := by omega
      have HNX := Lib.hid (show true = R by
        have := hs.out
        rw [List.drop_length, HL.out, List.drop_length] at this
        exact this)
      clear hs
      go_wp2_with fail
      go_ret
      exact ⟨ret_bool HNX.out, hbl⟩
end Go.Proofs.YtfoghahidofegaaGreat
