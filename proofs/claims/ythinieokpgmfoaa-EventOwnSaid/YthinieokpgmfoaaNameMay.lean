/- name.letter, name.May: what they come to (walks). -/
import Derived.Test.YthinieokpgmfoaaStrs
import Derived.Laws.RangeAny
import Derived.Deep.DeepFit
set_option linter.unusedVariables false
set_option linter.unusedSimpArgs false
namespace Go.Proofs.Ythinieokpgmfoaa
open Go.RowKit

/-- A letter of a name. -/
def letN (c : Int) : Bool := (decide (97 ≤ c) && decide (c ≤ 122)) || (decide (48 ≤ c) && decide (c ≤ 57)) || decide (c = 45) || decide (c = 95) || decide (c = 233) || decide (c = 248) || decide (c = 223) || decide (c = 955)
/-- From a place on every rune is a letter, and the first no digit and no '-'. -/
def mayF (s : ByteArray) : Nat → Nat → Bool
  | 0, _ => true
  | f + 1, pos => if pos < s.size then (letN (Utf8.decode s pos).1 && !(decide (pos = 0) && decide (((Utf8.decode s pos).1 : Int) ≤ 57))) && mayF s f (pos + (Utf8.decode s pos).2) else true
/-- Whether a text is a name. -/
def mayN (s : ByteArray) : Bool := decide (s.size ≠ 0) && decide (s.size ≤ 24) && mayF s s.size 0
theorem decode_pos (s : ByteArray) (pos : Nat) (h : pos < s.size) : 1 ≤ (Utf8.decode s pos).2 := by
  by_cases ha : (s[pos]'h).toNat < 128
  · rw [decode_ascii s pos h ha]; exact Nat.le_refl _
  · exact (decode_high s pos h (by omega)).2

set_option maxHeartbeats 1000000 in
theorem letter_any (c : Int) (w : World) : Calls Try.prog 75 #[.int .i32 c] w fun e w' => e = .returned (.bool (letN c)) ∧ w' = w := by
  by_cases h5 : c = 45
  · subst h5; go_enter Try.func75, Try.ntmps75; go_wp2; go_ret; exact ⟨rfl, rfl⟩
  by_cases h6 : c = 95
  · subst h6; go_enter Try.func75, Try.ntmps75; go_wp2; go_ret; exact ⟨rfl, rfl⟩
  by_cases h7 : c = 233
  · subst h7; go_enter Try.func75, Try.ntmps75; go_wp2; go_ret; exact ⟨rfl, rfl⟩
  by_cases h8 : c = 248
  · subst h8; go_enter Try.func75, Try.ntmps75; go_wp2; go_ret; exact ⟨rfl, rfl⟩
  by_cases h9 : c = 223
  · subst h9; go_enter Try.func75, Try.ntmps75; go_wp2; go_ret; exact ⟨rfl, rfl⟩
  by_cases h10 : c = 955
  · subst h10; go_enter Try.func75, Try.ntmps75; go_wp2; go_ret; exact ⟨rfl, rfl⟩
  have e5 : (c == 45) = false := by simp [h5]
  have e6 : (c == 95) = false := by simp [h6]
  have e7 : (c == 233) = false := by simp [h7]
  have e8 : (c == 248) = false := by simp [h8]
  have e9 : (c == 223) = false := by simp [h9]
  have e10 : (c == 955) = false := by simp [h10]
  have hl : letN c = ((decide (97 ≤ c) && decide (c ≤ 122)) || (decide (48 ≤ c) && decide (c ≤ 57))) := by simp [letN, h5, h6, h7, h8, h9, h10]
  rw [hl]
  clear hl h5 h6 h7 h8 h9 h10
  by_cases h1 : 97 ≤ c
  · by_cases h2 : c ≤ 122
    · have h3 : 48 ≤ c := by omega
      have h4 : ¬ c ≤ 57 := by omega
      go_enter Try.func75, Try.ntmps75; go_wp2; go_ret
      exact ⟨by simp [h1, h2], rfl⟩
    · have h3 : 48 ≤ c := by omega
      have h4 : ¬ c ≤ 57 := by omega
      go_enter Try.func75, Try.ntmps75; go_wp2; go_ret
      exact ⟨by simp [h2, h4], rfl⟩
  · by_cases h3 : 48 ≤ c
    · by_cases h4 : c ≤ 57
      · go_enter Try.func75, Try.ntmps75; go_wp2; go_ret
        exact ⟨by simp [h3, h4], rfl⟩
      · go_enter Try.func75, Try.ntmps75; go_wp2; go_ret
        exact ⟨by simp [h1, h4]; omega, rfl⟩
    · go_enter Try.func75, Try.ntmps75; go_wp2; go_ret
      exact ⟨by simp [h1, h3]; omega, rfl⟩

set_option maxHeartbeats 1000000 in
set_option maxRecDepth 100000 in
theorem nameMay_any (s : ByteArray) (w : World) : Calls Try.prog 52 #[.string s] w fun e w' => e = .returned (.bool (mayN s)) ∧ Below w.heap.size w w' := by
  by_cases h0 : s.size = 0
  · have hm : mayN s = false := by simp [mayN, h0]
    have e0 : ((s.size : Int) == 0) = true := by simp [h0]
    have H0 := Lib.hid h0
    clear h0
    rw [hm]
    go_enter Try.func52, Try.ntmps52
    go_wp2
    go_ret
    exact ⟨rfl, Below.refl _ _⟩
  by_cases h24 : 24 < s.size
  · have hm : mayN s = false := by simp [mayN]; omega
    have e0 : ((s.size : Int) == 0) = false := by simp [h0]
    rw [hm]
    clear h0
    go_enter Try.func52, Try.ntmps52
    go_wp2
    go_ret
    exact ⟨rfl, Below.refl _ _⟩
  have e0 : ((s.size : Int) == 0) = false := by simp [h0]
  have hm : mayN s = mayF s s.size 0 := by simp [mayN, h0]; omega
  rw [hm]
  have hs : s.size ≤ 24 := by omega
  clear hm h0
  have HB := Lib.hid (fun o => (Below.refl w.heap.size w).alloc (Nat.le_refl _) o)
  go_enter Try.func52, Try.ntmps52
  go_wp2
  go_loopw [3, 4] (fun _ _ w' => ∃ (pos b : Nat), w' = w.iter s pos ∧ Hid (mayF s b pos = mayF s s.size 0) ∧ s.size ≤ pos + b) (fun _ _ w' => s.size - w'.iterPos w.heap.size)
  case atStart => exact ⟨0, s.size, rfl, Lib.hid rfl, by omega⟩
  case round =>
    obtain ⟨pos, b, rfl, hc, hb⟩ := hrel
    by_cases hp : pos < s.size
    · have hnx : ∀ ty, (Instr.next (.pointer (some ⟨w.heap.size, 0, none⟩)) true ty).run Try.prog (w.iter s pos) = _ := fun ty => run_next_any w s pos ty hp
      have hwd := decode_pos s pos hp
      obtain ⟨b, rfl⟩ : ∃ b', b = b' + 1 := ⟨b - 1, by omega⟩
      have hstep : mayF s (b + 1) pos = ((letN (Utf8.decode s pos).1 && !(decide (pos = 0) && decide (((Utf8.decode s pos).1 : Int) ≤ 57))) && mayF s b (pos + (Utf8.decode s pos).2)) := by rw [mayF, if_pos hp]
      rw [hstep] at hc
      have HC := Lib.hid hc.out
      clear hstep hc
      generalize hd : Utf8.decode s pos = d at hnx hwd HC
      have HD := Lib.hid hd
      clear hd
      obtain ⟨r, n⟩ := d
      simp only at hwd HC hnx
      have CL := Lib.hid (fun W => letter_any (r : Int) W)
      by_cases hl : letN (r : Int) = true
      · rw [hl] at CL HC
        by_cases h0 : pos = 0
        · have hz : ((pos : Int) == 0) = true := by simp [h0]
          by_cases h9 : (r : Int) ≤ 57
          · have HC2 := Lib.hid (show mayF s s.size 0 = false by rw [← HC.out]; simp [h0, h9])
            have H0 := Lib.hid h0
            clear h0 HC hl
            go_wp2_with (go_at_call 75; go_fit (CL.out _); rintro e w1 ⟨rfl, rfl⟩)
            go_ret
            exact ⟨by rw [HC2.out]; rfl, HB.out _⟩
          · have HC2 := Lib.hid (show mayF s b (pos + n) = mayF s s.size 0 by rw [← HC.out]; simp [h9])
            have H0 := Lib.hid h0
            clear h0 HC hl
            go_wp2_with (go_at_call 75; go_fit (CL.out _); rintro e w1 ⟨rfl, rfl⟩)
            go_roundw
            case rel => exact ⟨pos + n, b, rfl, HC2, by omega⟩
            case measure => simp; omega
        · have hz : ((pos : Int) == 0) = false := by simp [h0]
          have HC2 := Lib.hid (show mayF s b (pos + n) = mayF s s.size 0 by rw [← HC.out]; simp [h0])
          clear HC hl
          go_wp2_with (go_at_call 75; go_fit (CL.out _); rintro e w1 ⟨rfl, rfl⟩)
          go_roundw
          case rel => exact ⟨pos + n, b, rfl, HC2, by omega⟩
          case measure => simp; omega
      · have hl' : letN (r : Int) = false := by simpa using hl
        rw [hl'] at CL HC
        have HC2 := Lib.hid (show mayF s s.size 0 = false by rw [← HC.out]; simp)
        clear HC hl hl'
        go_wp2_with (go_at_call 75; go_fit (CL.out _); rintro e w1 ⟨rfl, rfl⟩)
        go_ret
        exact ⟨by rw [HC2.out]; rfl, HB.out _⟩
    · have hnx : ∀ ty, (Instr.next (.pointer (some ⟨w.heap.size, 0, none⟩)) true ty).run Try.prog (w.iter s pos) = _ := fun ty => run_next_end w s pos ty hp
      have hend : mayF s b pos = true := by
        cases b with
        | zero => rfl
        | succ b => rw [mayF, if_neg hp]
      have HC2 := Lib.hid (show mayF s s.size 0 = true by rw [← hc.out]; exact hend)
      clear hc hend
      go_wp2
      go_ret
      exact ⟨by rw [HC2.out]; rfl, HB.out _⟩
end Go.Proofs.Ythinieokpgmfoaa
