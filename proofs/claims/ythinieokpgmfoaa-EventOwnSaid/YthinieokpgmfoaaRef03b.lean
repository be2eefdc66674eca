/- registrarref03: a letter by bytes is a letter by runes (plain). -/
import Derived.Test.YthinieokpgmfoaaRef03a
set_option linter.unusedVariables false
set_option linter.unusedSimpArgs false
namespace Go.Proofs.Ythinieokpgmfoaa
open Go.RowKit

theorem begB_two (s : ByteArray) (i : Nat) (x y : UInt8) : begB s i ⟨#[x, y]⟩ = decide (i + 1 < s.size ∧ (s.get! (i + 0)).toNat = x.toNat ∧ (s.get! (i + 1)).toNat = y.toNat) := by
  unfold begB
  refine decide_eq_decide.2 ?_
  have h2 : (⟨#[x, y]⟩ : ByteArray).size = 2 := rfl
  rw [h2]
  constructor
  · intro e
    have hsz := congrArg ByteArray.size e
    rw [extract_size', h2] at hsz
    have hi : i + 1 < s.size := by omega
    have hd : s.data.extract i (i + 2) = #[x, y] := by rw [← ByteArray.data_extract, e]
    have g0 : (s.data.extract i (i + 2))[0]? = some x := by rw [hd]; rfl
    have g1 : (s.data.extract i (i + 2))[1]? = some y := by rw [hd]; rfl
    have hi' : i + 1 < s.data.size := hi
    rw [Array.getElem?_extract_of_lt (by omega)] at g0 g1
    injection g0 with g0
    injection g1 with g1
    refine ⟨hi, ?_, ?_⟩
    · rw [get_at s i (by omega)]; show (s.data[i]).toNat = _; simp only [Nat.add_zero] at g0; rw [g0]
    · have e9 : s.get! (i + 1) = s[i + 1]'hi := get_at s (i + 1) hi; rw [e9]; show (s.data[i + 1]).toNat = _; rw [g1]
  · rintro ⟨hi, e0, e1⟩
    have hi' : i + 1 < s.data.size := hi
    have g0 : s.data[i] = x := by
      have := get_at s i (by omega)
      rw [this] at e0
      exact UInt8.toNat_inj.1 e0
    have g1 : s.data[i + 1] = y := by
      have e9 : s.get! (i + 1) = s[i + 1]'hi := get_at s (i + 1) hi
      rw [e9] at e1
      exact UInt8.toNat_inj.1 e1
    apply ByteArray.ext
    rw [ByteArray.data_extract]
    apply Array.ext
    · simp; omega
    · intro j h1 h3
      have hj : j < 2 := by simpa using h3
      rw [Array.getElem_extract]
      match j, hj with
      | 0, _ => simpa using g0
      | 1, _ => simpa using g1
theorem letN_low (r : Nat) (h : r < 128) : letN (r : Int) = plN (r : Int) := by
  unfold letN plN
  have h1 : ¬ (r : Int) = 233 := by omega
  have h2 : ¬ (r : Int) = 248 := by omega
  have h3 : ¬ (r : Int) = 223 := by omega
  have h4 : ¬ (r : Int) = 955 := by omega
  simp [h1, h2, h3, h4]
theorem letN_high (r : Nat) (h : 128 ≤ r) : letN (r : Int) = decide (r = 233 ∨ r = 248 ∨ r = 223 ∨ r = 955) := by
  unfold letN
  have h1 : ¬ (r : Int) ≤ 122 := by omega
  have h2 : ¬ (r : Int) ≤ 57 := by omega
  have h3 : ¬ (r : Int) = 45 := by omega
  have h4 : ¬ (r : Int) = 95 := by omega
  rw [Bool.eq_iff_iff]
  simp [h1, h2, h3, h4]
  omega
theorem twoB_any (s : ByteArray) (i : Nat) : twoB.any (begB s i) = decide (i + 1 < s.size ∧ (((s.get! (i + 0)).toNat = 195 ∧ ((s.get! (i + 1)).toNat = 169 ∨ (s.get! (i + 1)).toNat = 184 ∨ (s.get! (i + 1)).toNat = 159)) ∨ ((s.get! (i + 0)).toNat = 206 ∧ (s.get! (i + 1)).toNat = 187))) := by
  unfold twoB
  simp only [List.any_cons, List.any_nil, begB_two]
  rw [Bool.eq_iff_iff]
  simp only [Bool.or_eq_true, decide_eq_true_eq, Bool.false_eq_true, or_false]
  have e1 : (195 : UInt8).toNat = 195 := rfl
  have e2 : (169 : UInt8).toNat = 169 := rfl
  have e3 : (184 : UInt8).toNat = 184 := rfl
  have e4 : (159 : UInt8).toNat = 159 := rfl
  have e5 : (206 : UInt8).toNat = 206 := rfl
  have e6 : (187 : UInt8).toNat = 187 := rfl
  rw [e1, e2, e3, e4, e5, e6]
  omega
/-- A rune out of four bytes. -/
def runeOf (n i b0 b1 b2 b3 : Nat) : Nat × Nat :=
  if b0 < 128 then (b0, 1)
  else if (b0 / 32 == 6 && (decide (i + 1 < n) && b1 / 64 == 2)) = true then
    if b0 % 32 * 64 + b1 % 64 ≥ 128 then (b0 % 32 * 64 + b1 % 64, 2) else (Utf8.runeError, 1)
  else if (b0 / 16 == 14 && (decide (i + 1 < n) && b1 / 64 == 2) && (decide (i + 2 < n) && b2 / 64 == 2)) = true then
    if (decide (b0 % 16 * 4096 + b1 % 64 * 64 + b2 % 64 ≥ 2048) && Utf8.valid ((b0 % 16 * 4096 + b1 % 64 * 64 + b2 % 64 : Nat) : Int)) = true then (b0 % 16 * 4096 + b1 % 64 * 64 + b2 % 64, 3) else (Utf8.runeError, 1)
  else if (b0 / 8 == 30 && (decide (i + 1 < n) && b1 / 64 == 2) && (decide (i + 2 < n) && b2 / 64 == 2) && (decide (i + 3 < n) && b3 / 64 == 2)) = true then
    if (decide (b0 % 8 * 262144 + b1 % 64 * 4096 + b2 % 64 * 64 + b3 % 64 ≥ 65536) && Utf8.valid ((b0 % 8 * 262144 + b1 % 64 * 4096 + b2 % 64 * 64 + b3 % 64 : Nat) : Int)) = true then (b0 % 8 * 262144 + b1 % 64 * 4096 + b2 % 64 * 64 + b3 % 64, 4) else (Utf8.runeError, 1)
  else (Utf8.runeError, 1)
theorem decode_is (s : ByteArray) (i : Nat) : Utf8.decode s i = runeOf s.size i (s.get! (i + 0)).toNat (s.get! (i + 1)).toNat (s.get! (i + 2)).toNat (s.get! (i + 3)).toNat := by
  unfold Utf8.decode runeOf
  simp only [Bool.and_eq_true, decide_eq_true_eq]
theorem rune_two (n i b0 b1 b2 b3 : Nat) (h0 : ¬ b0 < 128) (l0 : b0 < 256) (l1 : b1 < 256) : (if decide (i + 1 < n ∧ ((b0 = 195 ∧ (b1 = 169 ∨ b1 = 184 ∨ b1 = 159)) ∨ (b0 = 206 ∧ b1 = 187))) = true then (2 : Int) else 0)
    = if decide ((runeOf n i b0 b1 b2 b3).1 = 233 ∨ (runeOf n i b0 b1 b2 b3).1 = 248 ∨ (runeOf n i b0 b1 b2 b3).1 = 223 ∨ (runeOf n i b0 b1 b2 b3).1 = 955) = true then ((runeOf n i b0 b1 b2 b3).2 : Int) else 0 := by
  simp only [decide_eq_true_eq]
  unfold runeOf Utf8.runeError
  rw [if_neg h0]
  by_cases h1 : (b0 / 32 == 6 && (decide (i + 1 < n) && b1 / 64 == 2)) = true
  · rw [if_pos h1]
    simp only [Bool.and_eq_true, beq_iff_eq, decide_eq_true_eq] at h1
    obtain ⟨a1, a2, a3⟩ := h1
    by_cases h2 : b0 % 32 * 64 + b1 % 64 ≥ 128
    · rw [if_pos h2]
      simp only
      by_cases h3 : i + 1 < n ∧ ((b0 = 195 ∧ (b1 = 169 ∨ b1 = 184 ∨ b1 = 159)) ∨ (b0 = 206 ∧ b1 = 187))
      · rw [if_pos h3, if_pos (by omega)]; rfl
      · rw [if_neg h3, if_neg (by omega)]
    · rw [if_neg h2]
      simp only
      rw [if_neg (by omega), if_neg (by omega)]
  · rw [if_neg h1]
    simp only [Bool.and_eq_true, beq_iff_eq, decide_eq_true_eq] at h1
    have h3 : ¬ (i + 1 < n ∧ ((b0 = 195 ∧ (b1 = 169 ∨ b1 = 184 ∨ b1 = 159)) ∨ (b0 = 206 ∧ b1 = 187))) := by omega
    rw [if_neg h3, if_neg]
    split
    · split
      · rename_i h5
        simp only [Bool.and_eq_true, decide_eq_true_eq] at h5
        simp only
        omega
      · simp only; omega
    · split
      · split
        · rename_i h5
          simp only [Bool.and_eq_true, decide_eq_true_eq] at h5
          simp only
          omega
        · simp only; omega
      · simp only; omega
theorem let_decode (s : ByteArray) (i : Nat) (h : i < s.size) : letB s i h = if letN (Utf8.decode s i).1 then ((Utf8.decode s i).2 : Int) else 0 := by
  unfold letB
  rw [twoB_any]
  by_cases ha : (s[i]'h).toNat < 128
  · rw [decode_ascii s i h ha]
    have hg : (s.get! (i + 0)).toNat = (s[i]'h).toNat := by rw [get_at s i h]
    rw [hg]
    generalize (s[i]'h).toNat = b at ha ⊢
    simp only
    rw [letN_low b ha]
    by_cases hp : plN (b : Int) = true
    · rw [if_pos hp, if_pos hp]; rfl
    · rw [if_neg hp, if_neg hp, if_neg]
      rw [decide_eq_true_eq]
      omega
  · have hhi := decode_high s i h (by omega)
    have hp : ¬ plN (((s[i]'h).toNat : Nat) : Int) = true := by unfold plN; simp; omega
    rw [if_neg hp, letN_high _ hhi.1]
    have hg : (s.get! (i + 0)).toNat = (s[i]'h).toNat := by rw [get_at s i h]
    rw [← hg] at ha
    rw [decode_is]
    exact rune_two _ _ _ _ _ _ ha (s.get! (i + 0)).toNat_lt (s.get! (i + 1)).toNat_lt
end Go.Proofs.Ythinieokpgmfoaa
