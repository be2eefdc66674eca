/- registrarref03.May, Parts: what they come to (walks). -/
import Derived.Test.YthinieokpgmfoaaRef03b
import Derived.Test.YthinieokpgmfoaaNameTag
set_option linter.unusedVariables false
set_option linter.unusedSimpArgs false
namespace Go.Proofs.Ythinieokpgmfoaa
open Go.RowKit

/-- A text that begins so is no name. -/
def fstN (b : Nat) : Prop := (48 ≤ b ∧ b ≤ 57) ∨ b = 45
theorem decode_lo {s : ByteArray} {i : Nat} (h : i < s.size) (hd : (Utf8.decode s i).1 < 128) : (s[i]'h).toNat = (Utf8.decode s i).1 := by
  by_cases ha : (s[i]'h).toNat < 128
  · rw [decode_ascii s i h ha]
  · have := (decode_high s i h (by omega)).1; omega
theorem let_small {r : Nat} (hl : letN (r : Int) = true) (h : (r : Int) ≤ 57) : fstN r := by
  unfold letN at hl
  simp only [Bool.or_eq_true, Bool.and_eq_true, decide_eq_true_eq] at hl
  unfold fstN
  omega
theorem fst_no {s : ByteArray} (h : 0 < s.size) (hf : fstN (s[0]'h).toNat) : mayF s s.size 0 = false := by
  obtain ⟨f, hfe⟩ : ∃ f, s.size = f + 1 := ⟨s.size - 1, by omega⟩
  rw [hfe, mayF, if_pos h]
  have ha : (s[0]'h).toNat < 128 := by unfold fstN at hf; omega
  rw [decode_ascii s 0 h ha]
  have : (((s[0]'h).toNat : Nat) : Int) ≤ 57 := by unfold fstN at hf; omega
  simp [this]
theorem may_step {s : ByteArray} (h0 : 0 < s.size) (hf : ¬ fstN (s[0]'h0).toNat) {f pos : Nat} (hp : pos < s.size) : mayF s (f + 1) pos = (letN (Utf8.decode s pos).1 && mayF s f (pos + (Utf8.decode s pos).2)) := by
  rw [mayF, if_pos hp]
  congr 1
  by_cases hl : letN (Utf8.decode s pos).1 = true
  · rw [hl, Bool.true_and]
    by_cases hz : pos = 0
    · subst hz
      have : ¬ ((Utf8.decode s 0).1 : Int) ≤ 57 := fun h9 => by
        have h1 := let_small hl h9
        have h2 := decode_lo h0 (by omega)
        rw [← h2] at h1
        exact hf h1
      simp [this]
    · simp [hz]
  · rw [Bool.not_eq_true] at hl
    rw [hl]
    rfl
theorem mayF_end (s : ByteArray) (f pos : Nat) (h : ¬ pos < s.size) : mayF s f pos = true := by
  cases f with
  | zero => rfl
  | succ f => rw [mayF, if_neg h]

set_option maxHeartbeats 2000000 in
set_option maxRecDepth 100000 in
theorem refMay_any (s : ByteArray) (w : World) : Calls Try.prog 57 #[.string s] w fun e w' => e = .returned (.bool (mayN s)) ∧ Below w.heap.size w w' := by
  by_cases h0 : s.size < 1
  · have hm : mayN s = false := by unfold mayN; rw [decide_eq_false (by omega)]; rfl
    rw [hm]
    go_enter Try.func57, Try.ntmps57
    go_wp2
    go_ret
    exact ⟨rfl, Below.refl _ _⟩
  by_cases h24 : 24 < s.size
  · have hm : mayN s = false := by simp [mayN]; omega
    rw [hm]
    go_enter Try.func57, Try.ntmps57
    go_wp2
    go_ret
    exact ⟨rfl, Below.refl _ _⟩
  have hp0 : 0 < s.size := by omega
  have hm : mayN s = mayF s s.size 0 := by
    have : s.size ≠ 0 := by omega
    simp [mayN, this]; omega
  rw [hm]
  clear hm
  have b0 : (0 : Int) < (s.size : Int) := by omega
  by_cases hf : fstN (s[0]'hp0).toNat
  · rw [fst_no hp0 hf]
    have hbb : ((s[0]'hp0).toNat : Int) = 45 ∨ ((48 : Int) ≤ ((s[0]'hp0).toNat : Int) ∧ ((s[0]'hp0).toNat : Int) ≤ 57) := by unfold fstN at hf; omega
    rcases hbb with hb | ⟨hb1, hb2⟩
    · go_enter Try.func57, Try.ntmps57
      go_wp2
      go_ret
      exact ⟨rfl, Below.refl _ _⟩
    · go_enter Try.func57, Try.ntmps57
      go_wp2
      go_ret
      exact ⟨rfl, Below.refl _ _⟩
  · have HST := Lib.hid (fun (f pos : Nat) (hp : pos < s.size) => may_step hp0 hf (f := f) hp)
    have hbb : (((s[0]'hp0).toNat : Int) == 45) = false ∧ (¬ (48 : Int) ≤ ((s[0]'hp0).toNat : Int) ∨ ((48 : Int) ≤ ((s[0]'hp0).toNat : Int) ∧ ¬ ((s[0]'hp0).toNat : Int) ≤ 57)) := by
      unfold fstN at hf
      refine ⟨?_, by omega⟩
      rw [beq_eq_false_iff_ne]
      omega
    obtain ⟨e45, hbb⟩ := hbb
    have hs24 : s.size ≤ 24 := by omega
    have CL := Lib.hid (fun W pos (hp : pos < s.size) => refLetter_any s pos hp (by omega) W)
    clear hf
    rcases hbb with hb1 | ⟨hb1, hb2⟩
    all_goals
      go_enter Try.func57, Try.ntmps57
      go_wp2
      go_loopw [3, 4] (fun at_ _ wr => ∃ pos f : Nat, pos ≤ 100 ∧ at_ = .int .i64 pos ∧ Hid (mayF s f pos = mayF s s.size 0) ∧ s.size ≤ pos + f ∧ Below w.heap.size w wr) (fun at_ _ _ => 200 - (intOf at_).toNat)
      case atStart => exact ⟨0, s.size, by omega, rfl, Lib.hid rfl, by omega, Below.refl _ _⟩
      case round =>
        obtain ⟨pos, f, hp1, rfl, hc, hf, hb⟩ := hrel
        by_cases hp : pos < s.size
        · obtain ⟨f, rfl⟩ : ∃ f', f = f' + 1 := ⟨f - 1, by omega⟩
          have hst := HST.out f pos hp
          rw [hc.out] at hst
          have hwd := decode_pos s pos hp
          have hwd4 : (Utf8.decode s pos).2 ≤ 4 := by
            rw [decode_is]
            unfold runeOf
            repeat' split
            all_goals simp
          have CP := Lib.hid (fun W => CL.out W pos hp)
          rw [let_decode s pos hp] at CP
          generalize (Utf8.decode s pos).1 = r at hst CP
          generalize (Utf8.decode s pos).2 = n at hst CP hwd hwd4
          have p1 : (pos : Int) < (s.size : Int) := by omega
          have p2 : (0 : Int) ≤ (pos : Int) := Int.natCast_nonneg _
          clear hc
          by_cases hl : letN (r : Int) = true
          · rw [if_pos hl] at CP
            rw [hl, Bool.true_and] at hst
            have HC := Lib.hid hst.symm
            have hn0 : ((n : Int) == 0) = false := by rw [beq_eq_false_iff_ne]; omega
            have ew : IntKind.i64.wrap ((pos : Int) + (n : Int)) = ((pos + n : Nat) : Int) := by rw [IntWalk.i64_in _ (by omega)]; omega
            clear hst hl
            go_wp2_with (go_at_call 79; go_fit (CP.out _); rintro e w3 ⟨rfl, hb3⟩)
            go_roundw
            case rel => exact ⟨pos + n, f, by omega, by go_num, HC, by omega, bthen hb hb3⟩
            case measure => simp [intOf]; omega
          · rw [if_neg hl] at CP
            have hl' : letN (r : Int) = false := by simpa using hl
            rw [hl', Bool.false_and] at hst
            have HC := Lib.hid hst
            clear hst hl hl'
            go_wp2_with (go_at_call 79; go_fit (CP.out _); rintro e w3 ⟨rfl, hb3⟩)
            go_ret
            exact ⟨by rw [HC.out]; rfl, bthen hb hb3⟩
        · have HC := Lib.hid (show mayF s s.size 0 = true by rw [← hc.out]; exact mayF_end s f pos hp)
          clear hc
          go_wp2
          go_ret
          exact ⟨by rw [HC.out]; rfl, hb⟩
theorem mayN_empty : mayN ByteArray.empty = false := by rfl
theorem colon_at {s : ByteArray} {k : Nat} (hk : k < s.size) (hc : colon s < 0 ∨ (k : Int) ≤ colon s) : (s[k]'hk = 58 → colon s = k) ∧ (s[k]'hk ≠ 58 → colon s < 0 ∨ ((k + 1 : Nat) : Int) ≤ colon s) := by
  have hk' : k < s.data.toList.length := by rw [Array.length_toList]; exact hk
  have hge : s.data.toList[k]? = some (s[k]'hk) := by rw [List.getElem?_eq_getElem hk']; rfl
  constructor
  · intro e
    rcases hc with hc | hc
    · have h1 : colon s = -1 := by have := colon_ge s; omega
      exact absurd (by rw [hge, e]) (Lib.indexByte_none h1 k)
    · obtain ⟨o, ho⟩ : ∃ o : Nat, colon s = o := ⟨(colon s).toNat, by omega⟩
      rcases Nat.lt_or_ge k o with h | h
      · exact absurd (by rw [hge, e]) ((Lib.indexByte_some ho).2 k h)
      · omega
  · intro e
    rcases hc with hc | hc
    · exact .inl hc
    · refine .inr ?_
      obtain ⟨o, ho⟩ : ∃ o : Nat, colon s = o := ⟨(colon s).toNat, by omega⟩
      have h1 := (Lib.indexByte_some ho).1
      have : k ≠ o := fun e2 => by
        subst e2
        rw [hge] at h1
        injection h1 with h1
        exact e h1
      omega

set_option maxHeartbeats 2000000 in
set_option maxRecDepth 100000 in
theorem refParts_any (s : ByteArray) (hs : s.size ≤ maxLen) (w : World) : Calls Try.prog 67 #[.string s] w fun e w' => ∃ x y, e = .returned (.tuple #[.string x, .string y, .bool (tagN s)]) ∧ Below w.heap.size w w' := by
  unfold maxLen at hs
  have C := Lib.hid (fun t W => refMay_any t W)
  go_enter Try.func67, Try.ntmps67
  go_wp2
  go_loopw [5] (fun i wr => ∃ k : Nat, k ≤ s.size ∧ i = .int .i64 k ∧ Hid (colon s < 0 ∨ (k : Int) ≤ colon s) ∧ Below w.heap.size w wr) (fun i _ => s.size - (intOf i).toNat)
  case atStart => exact ⟨0, Nat.zero_le _, rfl, Lib.hid (by have := colon_ge s; omega), Below.refl _ _⟩
  case round =>
    obtain ⟨k, hk, rfl, hc, hb⟩ := hrel
    by_cases hlt : k < s.size
    · have hca := colon_at hlt hc.out
      have b1 : (0 : Int) ≤ (k : Int) := Int.natCast_nonneg _
      have b2 : (k : Int) < (s.size : Int) := by omega
      by_cases h58 : s[k]'hlt = 58
      · have hcol := hca.1 h58
        have htag : tagN s = (mayN (s.extract 0 k) && mayN (s.extract (k + 1) s.size)) := by
          unfold tagN headS tailS
          rw [if_neg (by omega), if_neg (by omega), hcol]
          rfl
        obtain ⟨n, hn⟩ : ∃ n, n = k + 1 := ⟨_, rfl⟩
        rw [← hn] at htag
        have HT := Lib.hid htag
        have ew : IntKind.i64.wrap ((k : Int) + 1) = (n : Int) := by rw [IntWalk.i64_in _ (by omega)]; omega
        have h58' : (((s[k]'hlt).toNat : Int) != 58) = false := by rw [h58]; rfl
        have b3 : (0 : Int) ≤ (n : Int) := Int.natCast_nonneg _
        have b4 : (n : Int) ≤ (s.size : Int) := by omega
        have b5 : (k : Int) ≤ (s.size : Int) := by omega
        have C1 := Lib.hid (fun W => C.out (s.extract 0 k) W)
        have C2 := Lib.hid (fun W => C.out (s.extract n s.size) W)
        generalize mayN (s.extract 0 k) = m1 at C1 HT
        generalize mayN (s.extract n s.size) = m2 at C2 HT
        clear hca h58 hcol htag hn hc C
        rcases m1 with _ | _ <;> rcases m2 with _ | _
        all_goals
          go_wp2_with (first
            | (go_at_call 57; go_fit (C1.out _); rintro e w3 ⟨rfl, hb3⟩)
            | (go_at_call 57; go_fit (C2.out _); rintro e w4 ⟨rfl, hb4⟩))
          first
            | exact bodyPost_ret (v := .tuple #[.string ⟨#[]⟩, .string ⟨#[]⟩, .bool false]) (by simp [results, Try.results67, go_sem]) rfl ⟨_, _, by rw [HT.out]; rfl, bthen hb (bthen hb3 hb4)⟩
            | skip
          all_goals (go_quiet (fail); go_wp2; exact bodyPost_ret (v := .tuple #[.string (s.extract 0 k), .string (s.extract n s.size), .bool true]) (by simp [results, Try.results67, go_sem]) rfl ⟨_, _, by rw [HT.out]; rfl, below_drewN (bthen hb (bthen hb3 hb4)) _⟩)
      · have hcn := Lib.hid (hca.2 h58)
        have h58' : (((s[k]'hlt).toNat : Int) != 58) = true := by
          rw [bne_iff_ne]
          intro e
          exact h58 (UInt8.toNat_inj.1 (by show (s[k]'hlt).toNat = 58; omega))
        clear hca h58 hc
        go_wp2
        go_roundw
        case rel => exact ⟨k + 1, by omega, by go_num, hcn, hb⟩
        case measure => simp [intOf]; omega
    · obtain rfl : k = s.size := by omega
      have hcol : colon s < 0 := by
        rcases hc.out with h | h
        · exact h
        · have := colon_lt (s := s) (by omega); omega
      have htag : tagN s = false := by
        unfold tagN tailS
        rw [if_pos hcol, mayN_empty, Bool.and_false]
      have HT := Lib.hid htag
      clear htag hc
      go_wp2
      exact bodyPost_ret (v := .tuple #[.string ⟨#[]⟩, .string ⟨#[]⟩, .bool false]) (by simp [results, Try.results67, go_sem]) rfl ⟨_, _, by rw [HT.out], hb⟩
end Go.Proofs.Ythinieokpgmfoaa
