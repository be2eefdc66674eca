/- name.letter, name.May: what they come to (walks). slices.Compact at []string, and the index of one byte in a text, at this program: the library's contracts, laid. Written by a program (the kit's lay-shelf and its plain mode). strings.Cut at one byte, name.Parts, name.MayTag: what they come to (walks). slices.IndexFunc, ContainsFunc at []string, the predicate known at the elements alone. Whether texts rise. event.names, rise, not; slices.IndexFunc, ContainsFunc, Equal at []api.Field: what they come to (walks). event.not, May: what they come to (walks). -/
import Derived.Test.YtfoghahidofegaaBundA
import Derived.Laws.RangeAny
import Derived.Deep.DeepFit
import Derived.Shelf.Strings.Search1
import Derived.Shelf.Strings.Search2
import Derived.Shelf.Slices.CompactS
import Derived.Test.YtfoghahidofegaaProg
import Derived.Lib.IndexLaws
import Derived.Lib.SliceRun
import Derived.Sort.Walk0
import Derived.Deep.RegionHeld3
set_option linter.unusedVariables false
set_option linter.unusedSimpArgs false
namespace Go.Proofs.Ytfoghahidofegaa
open Go.RowKit

/-- A letter of a name. -/
def letN (c : Int) : Bool := (decide (97 ≤ c) && decide (c ≤ 122)) || (decide (48 ≤ c) && decide (c ≤ 57)) || decide (c = 45) || decide (c = 95) || decide (c = 233) || decide (c = 248) || decide (c = 223) || decide (c = 955)
/-- From a place on every rune is a letter, and the first no digit and no '-'. -/
def mayF (s : ByteArray) : Nat → Nat → Bool
  | 0, _ => true
  | f + 1, pos => if pos < s.size then (letN (Utf8.decode s pos).1 && !(decide (pos = 0) && decide (((Utf8.decode s pos).1 : Int) ≤ 57))) && mayF s f (pos + (Utf8.decode s pos).2) else true
/-- Whether a text is a name. -/
def mayN (s : ByteArray) : Bool := decide (s.size ≠ 0) && decide (s.size ≤ 24) && mayF s s.size 0
theorem decode_pos (s : ByteArray) (pos : Nat) (h : pos < s.size) : 1 ≤ (Utf8.decode s pos).2 := by
  by_cases ha : (s[pos]'h).toNat < 128
  · rw [decode_ascii s pos h ha]; exact Nat.le_refl _
  · exact (decode_high s pos h (by omega)).2

set_option maxHeartbeats 1000000 in
theorem letter_any (c : Int) (w : World) : Calls Try.prog 55 #[.int .i32 c] w fun e w' => e = .returned (.bool (letN c)) ∧ w' = w := by
  by_cases h5 : c = 45
  · subst h5; go_enter Try.func55, Try.ntmps55; go_wp2; go_ret; exact ⟨rfl, rfl⟩
  by_cases h6 : c = 95
  · subst h6; go_enter Try.func55, Try.ntmps55; go_wp2; go_ret; exact ⟨rfl, rfl⟩
  by_cases h7 : c = 233
  · subst h7; go_enter Try.func55, Try.ntmps55; go_wp2; go_ret; exact ⟨rfl, rfl⟩
  by_cases h8 : c = 248
  · subst h8; go_enter Try.func55, Try.ntmps55; go_wp2; go_ret; exact ⟨rfl, rfl⟩
  by_cases h9 : c = 223
  · subst h9; go_enter Try.func55, Try.ntmps55; go_wp2; go_ret; exact ⟨rfl, rfl⟩
  by_cases h10 : c = 955
  · subst h10; go_enter Try.func55, Try.ntmps55; go_wp2; go_ret; exact ⟨rfl, rfl⟩
  have e5 : (c == 45) = false := by simp [h5]
  have e6 : (c == 95) = false := by simp [h6]
  have e7 : (c == 233) = false := by simp [h7]
  have e8 : (c == 248) = false := by simp [h8]
  have e9 : (c == 223) = false := by simp [h9]
  have e10 : (c == 955) = false := by simp [h10]
  have hl : letN c = ((decide (97 ≤ c) && decide (c ≤ 122)) || (decide (48 ≤ c) && decide (c ≤ 57))) := by simp [letN, h5, h6, h7, h8, h9, h10]
  rw [hl]
  clear hl h5 h6 h7 h8 h9 h10
  by_cases h1 : 97 ≤ c
  · by_cases h2 : c ≤ 122
    · have h3 : 48 ≤ c := by omega
      have h4 : ¬ c ≤ 57 := by omega
      go_enter Try.func55, Try.ntmps55; go_wp2; go_ret
      exact ⟨by simp [h1, h2], rfl⟩
    · have h3 : 48 ≤ c := by omega
      have h4 : ¬ c ≤ 57 := by omega
      go_enter Try.func55, Try.ntmps55; go_wp2; go_ret
      exact ⟨by simp [h2, h4], rfl⟩
  · by_cases h3 : 48 ≤ c
    · by_cases h4 : c ≤ 57
      · go_enter Try.func55, Try.ntmps55; go_wp2; go_ret
        exact ⟨by simp [h3, h4], rfl⟩
      · go_enter Try.func55, Try.ntmps55; go_wp2; go_ret
        exact ⟨by simp [h1, h4]; omega, rfl⟩
    · go_enter Try.func55, Try.ntmps55; go_wp2; go_ret
      exact ⟨by simp [h1, h3]; omega, rfl⟩

set_option maxHeartbeats 1000000 in
set_option maxRecDepth 100000 in
theorem nameMay_any (s : ByteArray) (w : World) : Calls Try.prog 29 #[.string s] w fun e w' => e = .returned (.bool (mayN s)) ∧ Below w.heap.size w w' := by
  by_cases h0 : s.size = 0
  · have hm : mayN s = false := by simp [mayN, h0]
    have e0 : ((s.size : Int) == 0) = true := by simp [h0]
    have H0 := Lib.hid h0
    clear h0
    rw [hm]
    go_enter Try.func29, Try.ntmps29
    go_wp2
    go_ret
    exact ⟨rfl, Below.refl _ _⟩
  by_cases h24 : 24 < s.size
  · have hm : mayN s = false := by simp [mayN]; omega
    have e0 : ((s.size : Int) == 0) = false := by simp [h0]
    rw [hm]
    clear h0
    go_enter Try.func29, Try.ntmps29
    go_wp2
    go_ret
    exact ⟨rfl, Below.refl _ _⟩
  have e0 : ((s.size : Int) == 0) = false := by simp [h0]
  have hm : mayN s = mayF s s.size 0 := by simp [mayN, h0]; omega
  rw [hm]
  have hs : s.size ≤ 24 := by omega
  clear hm h0
  have HB := Lib.hid (fun o => (Below.refl w.heap.size w).alloc (Nat.le_refl _) o)
  go_enter Try.func29, Try.ntmps29
  go_wp2
  go_loopw [3, 4] (fun _ _ w' => ∃ (pos b : Nat), w' = w.iter s pos ∧ Hid (mayF s b pos = mayF s s.size 0) ∧ s.size ≤ pos + b) (fun _ _ w' => s.size - w'.iterPos w.heap.size)
  case atStart => exact ⟨0, s.size, rfl, Lib.hid rfl, by omega⟩
  case round =>
    obtain ⟨pos, b, rfl, hc, hb⟩ := hrel
    by_cases hp : pos < s.size
    · have hnx : ∀ ty, (Instr.next (.pointer (some ⟨w.heap.size, 0, none⟩)) true ty).run Try.prog (w.iter s pos) = _ := fun ty => run_next_any w s pos ty hp
      have hwd := decode_pos s pos hp
      obtain ⟨b, rfl⟩ : ∃ b', b = b' + 1 := ⟨b - 1, by omega⟩
      have hstep : mayF s (b + 1) pos = ((letN (Utf8.decode s pos).1 && !(decide (pos = 0) && decide (((Utf8.decode s pos).1 : Int) ≤ 57))) && mayF s b (pos + (Utf8.decode s pos).2)) := by rw [mayF, if_pos hp]
      rw [hstep] at hc
      have HC := Lib.hid hc.out
      clear hstep hc
      generalize hd : Utf8.decode s pos = d at hnx hwd HC
      have HD := Lib.hid hd
      clear hd
      obtain ⟨r, n⟩ := d
      simp only at hwd HC hnx
      have CL := Lib.hid (fun W => letter_any (r : Int) W)
      by_cases hl : letN (r : Int) = true
      · rw [hl] at CL HC
        by_cases h0 : pos = 0
        · have hz : ((pos : Int) == 0) = true := by simp [h0]
          by_cases h9 : (r : Int) ≤ 57
          · have HC2 := Lib.hid (show mayF s s.size 0 = false by rw [← HC.out]; simp [h0, h9])
            have H0 := Lib.hid h0
            clear h0 HC hl
            go_wp2_with (go_at_call 55; go_fit (CL.out _); rintro e w1 ⟨rfl, rfl⟩)
            go_ret
            exact ⟨by rw [HC2.out]; rfl, HB.out _⟩
          · have HC2 := Lib.hid (show mayF s b (pos + n) = mayF s s.size 0 by rw [← HC.out]; simp [h9])
            have H0 := Lib.hid h0
            clear h0 HC hl
            go_wp2_with (go_at_call 55; go_fit (CL.out _); rintro e w1 ⟨rfl, rfl⟩)
            go_roundw
            case rel => exact ⟨pos + n, b, rfl, HC2, by omega⟩
            case measure => simp; omega
        · have hz : ((pos : Int) == 0) = false := by simp [h0]
          have HC2 := Lib.hid (show mayF s b (pos + n) = mayF s s.size 0 by rw [← HC.out]; simp [h0])
          clear HC hl
          go_wp2_with (go_at_call 55; go_fit (CL.out _); rintro e w1 ⟨rfl, rfl⟩)
          go_roundw
          case rel => exact ⟨pos + n, b, rfl, HC2, by omega⟩
          case measure => simp; omega
      · have hl' : letN (r : Int) = false := by simpa using hl
        rw [hl'] at CL HC
        have HC2 := Lib.hid (show mayF s s.size 0 = false by rw [← HC.out]; simp)
        clear HC hl hl'
        go_wp2_with (go_at_call 55; go_fit (CL.out _); rintro e w1 ⟨rfl, rfl⟩)
        go_ret
        exact ⟨by rw [HC2.out]; rfl, HB.out _⟩
    · have hnx : ∀ ty, (Instr.next (.pointer (some ⟨w.heap.size, 0, none⟩)) true ty).run Try.prog (w.iter s pos) = _ := fun ty => run_next_end w s pos ty hp
      have hend : mayF s b pos = true := by
        cases b with
        | zero => rfl
        | succ b => rw [mayF, if_neg hp]
      have HC2 := Lib.hid (show mayF s s.size 0 = true by rw [← hc.out]; exact hend)
      clear hc hend
      go_wp2
      go_ret
      exact ⟨by rw [HC2.out]; rfl, HB.out _⟩
end Go.Proofs.Ytfoghahidofegaa

namespace Go.Proofs.Ytfoghahidofegaa
open Go.Shelf
def Lit.index_ren : Go.Shelf.Ren := ⟨fun | 219 => 97 | 217 => 104 | 225 => 105 | 224 => 106 | 267 => 107 | 266 => 109 | 314 => 110 | n => n, fun | 9 => 9 | 3 => 3 | 4 => 4 | 5 => 5 | 46 => 123 | 146 => 152 | 51 => 137 | n => n, fun | 1 => 0 | n => n⟩
theorem Lit.index : Go.Proofs.Lays.n219 Try.prog Lit.index_ren := {
  mixed := by kernel_rfl
  f217 := Try.func104.trans (congrArg some (by kernel_rfl))
  f219 := Try.func97.trans (congrArg some (by kernel_rfl))
  f224 := Try.func106.trans (congrArg some (by kernel_rfl))
  f225 := Try.func105.trans (congrArg some (by kernel_rfl))
  f266 := Try.func109.trans (congrArg some (by kernel_rfl))
  f267 := Try.func107.trans (congrArg some (by kernel_rfl))
  f314 := Try.func110.trans (congrArg some (by kernel_rfl))
  t3 := Try.underlying3
  a3 := Try.isAgg3
  z3 := Try.sizeOf3
  v3 := Try.zeroValue3
  t4 := Try.underlying4
  a4 := Try.isAgg4
  z4 := Try.sizeOf4
  v4 := Try.zeroValue4
  t5 := Try.underlying5
  a5 := Try.isAgg5
  z5 := Try.sizeOf5
  v5 := Try.zeroValue5
  t9 := Try.underlying9
  a9 := Try.isAgg9
  z9 := Try.sizeOf9
  v9 := Try.zeroValue9
  t46 := Try.underlying123
  a46 := Try.isAgg123
  z46 := Try.sizeOf123
  v46 := Try.zeroValue123
  t51 := Try.underlying137
  a51 := Try.isAgg137
  z51 := Try.sizeOf137
  v51 := Try.zeroValue137
  t146 := Try.underlying152
  a146 := Try.isAgg152
  z146 := Try.sizeOf152
  v146 := Try.zeroValue152
  g1 := by kernel_rfl }
open Go.RowKit Go.Lib in
theorem Lit.indexOne (s : ByteArray) (c : UInt8) (w : World) :
    Calls Try.prog 97 #[.string s, .string ⟨#[c]⟩] w fun e w' => e = .returned (.int .i64 (Lib.indexByte s.data.toList c)) ∧ w' = w := Any.stringslite_Index_one Lit.index s c w
def Lit.compact_ren : Go.Shelf.Ren := ⟨fun | 194 => 36 | n => n, fun | 31 => 22 | 9 => 9 | 3 => 3 | 4 => 4 | 0 => 0 | n => n, fun | n => n⟩
theorem Lit.compact : Go.Proofs.Lays.n194 Try.prog Lit.compact_ren := {
  mixed := by kernel_rfl
  f194 := Try.func36.trans (congrArg some (by kernel_rfl))
  t0 := Try.underlying0
  a0 := Try.isAgg0
  z0 := Try.sizeOf0
  v0 := Try.zeroValue0
  t3 := Try.underlying3
  a3 := Try.isAgg3
  z3 := Try.sizeOf3
  v3 := Try.zeroValue3
  t4 := Try.underlying4
  a4 := Try.isAgg4
  z4 := Try.sizeOf4
  v4 := Try.zeroValue4
  t9 := Try.underlying9
  a9 := Try.isAgg9
  z9 := Try.sizeOf9
  v9 := Try.zeroValue9
  t31 := Try.underlying22
  a31 := Try.isAgg22
  z31 := Try.sizeOf22
  v31 := Try.zeroValue22 }
open Go.RowKit Go.Lib Go.Sort in
theorem Lit.compactS (blk off cap : Nat) (zs : List (List UInt8)) (w : World) (hH : Holds encStr w blk off zs.toArray) (hsz : zs.length ≤ 9223372036854775807) (hcap : zs.length ≤ cap) :
    Calls Try.prog 36 #[.slice (some ⟨blk, off, none⟩) zs.length cap] w fun e w' => e = .returned (.slice (some ⟨blk, off, none⟩) (Lib.compact zs).length cap) ∧ ∃ q, w' = putRow encStr (Sort.ahead w q) blk off (Lib.compact zs ++ List.replicate (zs.length - (Lib.compact zs).length) []).toArray := Any.slices_Compact_string Lit.compact blk off cap zs w hH hsz hcap
open Go.RowKit Go.Lib Go.Sort in
theorem Lit.compactS0 (a : Option Addr) (cap : Nat) (w : World) :
    Calls Try.prog 36 #[.slice a 0 cap] w fun e w' => e = .returned (.slice a 0 cap) ∧ w' = w := Any.slices_Compact_string_empty Lit.compact a cap w
end Go.Proofs.Ytfoghahidofegaa

namespace Go.Proofs.Ytfoghahidofegaa
open Go.RowKit

/-- The place of the first ':' of a text, or -1. -/
def colon (s : ByteArray) : Int := Lib.indexByte s.data.toList 58
theorem colon_ge (s : ByteArray) : -1 ≤ colon s := Lib.indexByte_ge _ _
theorem colon_lt {s : ByteArray} (h : 0 ≤ colon s) : colon s < s.size := by
  obtain ⟨o, ho⟩ : ∃ o : Nat, colon s = o := ⟨(colon s).toNat, by omega⟩
  have h1 := (Lib.indexByte_some (l := s.data.toList) (c := 58) (o := o) ho).1
  have h2 := (List.getElem?_eq_some_iff.1 h1).1
  rw [ho]
  have : s.data.toList.length = s.size := Array.length_toList
  omega
def headS (s : ByteArray) : ByteArray := if colon s < 0 then s else s.extract 0 (colon s).toNat
def tailS (s : ByteArray) : ByteArray := if colon s < 0 then ByteArray.empty else s.extract ((colon s).toNat + 1) s.size
/-- Whether a text is a tag. -/
def tagN (s : ByteArray) : Bool := mayN (headS s) && mayN (tailS s)

set_option maxHeartbeats 1000000 in
theorem cutL_any (s : ByteArray) (hs : s.size ≤ maxLen) (w : World) : Calls Try.prog 83 #[.string s, .string ⟨#[58]⟩] w fun e w' => ∃ b, e = .returned (.tuple #[.string (headS s), .string (tailS s), .bool b]) ∧ Below w.heap.size w w' := by
  have CI := Lib.hid (show ∀ W, Calls Try.prog 97 #[.string s, .string ⟨#[58]⟩] W fun e w' => e = .returned (.int .i64 (colon s)) ∧ w' = W from fun W => Lit.indexOne s 58 W)
  unfold maxLen at hs
  by_cases h : 0 ≤ colon s
  · have h1 : headS s = s.extract 0 (colon s).toNat := by unfold headS; rw [if_neg (by omega)]
    have h2 : tailS s = s.extract ((colon s).toNat + 1) s.size := by unfold tailS; rw [if_neg (by omega)]
    rw [h1, h2]
    have hlt := colon_lt h
    generalize colon s = i at *
    have b1 : i ≤ (s.size : Int) := by omega
    have b2 : i + 1 ≤ (s.size : Int) := by omega
    have b3 : (0 : Int) ≤ i + 1 := by omega
    have ew : wrap64 (i + 1) = i + 1 := IntWalk.wrap64_in _ (by omega)
    have ew2 : IntKind.i64.wrap (i + 1) = i + 1 := IntWalk.i64_in _ (by omega)
    have et : (i + 1).toNat = i.toNat + 1 := by omega
    rw [← et]
    clear h1 h2 et
    go_enter Try.func83, Try.ntmps83
    go_upto_region 3 with (go_at_call 97; go_fit (CI.out _); rintro e w1 ⟨rfl, rfl⟩)
    go_quiet (fail)
    go_wp2
    exact bodyPost_ret (v := .tuple #[.string (s.extract 0 i.toNat), .string (s.extract (i + 1).toNat s.size), .bool true]) (by simp [results, Try.results83, go_sem]) rfl ⟨_, rfl, below_drewN (Below.refl _ _) _⟩
  · have h1 : headS s = s := by unfold headS; rw [if_pos (by omega)]
    have h2 : tailS s = ByteArray.empty := by unfold tailS; rw [if_pos (by omega)]
    rw [h1, h2]
    generalize colon s = i at *
    clear h1 h2
    go_enter Try.func83, Try.ntmps83
    go_wp2_with (go_at_call 97; go_fit (CI.out _); rintro e w1 ⟨rfl, rfl⟩)
    exact bodyPost_ret (v := .tuple #[.string s, .string ByteArray.empty, .bool false]) (by simp [results, Try.results83, go_sem]; try rfl) rfl ⟨_, rfl, Below.refl _ _⟩
theorem cut_any (s : ByteArray) (hs : s.size ≤ maxLen) (w : World) : Calls Try.prog 74 #[.string s, .string ⟨#[58]⟩] w fun e w' => ∃ b, e = .returned (.tuple #[.string (headS s), .string (tailS s), .bool b]) ∧ Below w.heap.size w w' := by
  have C := Lib.hid (cutL_any s hs w)
  generalize headS s = x at *
  generalize tailS s = y at *
  go_enter Try.func74, Try.ntmps74
  go_wp2_with (go_at_call 83; go_fit C.out; rintro e w1 ⟨b, rfl, hb⟩)
  exact bodyPost_ret (v := .tuple #[.string x, .string y, .bool b]) (by simp [results, Try.results74, go_sem]) rfl ⟨_, rfl, hb⟩
set_option maxHeartbeats 1000000 in
theorem parts_any (s : ByteArray) (hs : s.size ≤ maxLen) (w : World) : Calls Try.prog 58 #[.string s] w fun e w' => ∃ x y, e = .returned (.tuple #[.string x, .string y, .bool (tagN s)]) ∧ Below w.heap.size w w' := by
  have C := Lib.hid (cut_any s hs w)
  have C1 := Lib.hid (fun W => nameMay_any (headS s) W)
  have C2 := Lib.hid (fun W => nameMay_any (tailS s) W)
  unfold tagN
  generalize mayN (headS s) = b1 at *
  generalize mayN (tailS s) = b2 at *
  generalize headS s = x at *
  generalize tailS s = y at *
  rcases b1 with _ | _ <;> rcases b2 with _ | _
  all_goals
    go_enter Try.func58, Try.ntmps58
    go_wp2_with (first
      | (go_at_call 74; go_fit C.out; rintro e w1 ⟨b, rfl, hb⟩)
      | (go_at_call 29; go_fit (C1.out _); rintro e w2 ⟨rfl, hb2⟩)
      | (go_at_call 29; go_fit (C2.out _); rintro e w3 ⟨rfl, hb3⟩))
    first
      | exact bodyPost_ret (v := .tuple #[.string x, .string y, .bool true]) (by simp [results, Try.results58, go_sem]) rfl ⟨_, _, rfl, bthen (bthen hb hb2) hb3⟩
      | exact bodyPost_ret (v := .tuple #[.string ⟨#[]⟩, .string ⟨#[]⟩, .bool false]) (by simp [results, Try.results58, go_sem]) rfl ⟨_, _, rfl, bthen hb hb2⟩
      | exact bodyPost_ret (v := .tuple #[.string ⟨#[]⟩, .string ⟨#[]⟩, .bool false]) (by simp [results, Try.results58, go_sem]) rfl ⟨_, _, rfl, bthen (bthen hb hb2) hb3⟩
theorem mayTag_any (s : ByteArray) (hs : s.size ≤ maxLen) (w : World) : Calls Try.prog 32 #[.string s] w fun e w' => e = .returned (.bool (tagN s)) ∧ Below w.heap.size w w' := by
  have C := Lib.hid (parts_any s hs w)
  generalize tagN s = b at *
  go_enter Try.func32, Try.ntmps32
  go_wp2_with (go_at_call 58; go_fit C.out; rintro e w1 ⟨x, y, rfl, hb⟩)
  go_ret
  exact ⟨rfl, hb⟩
end Go.Proofs.Ytfoghahidofegaa

namespace Go.Proofs.Ytfoghahidofegaa
open Go.RowKit

def PredS1 (g : Nat) (lb : Array Value) (p : ByteArray → Bool) (w : World) (s : ByteArray) : Prop := ∀ (W : World), Below w.heap.size w W → Calls Try.prog g (#[.string s] ++ lb) W fun e w' => e = .returned (.bool (p s)) ∧ Below W.heap.size W w'
set_option maxHeartbeats 400000 in
theorem indexFuncS_in {A : Option Addr} {c : Nat} {xs : List ByteArray} {w : World} (h : SlS w A c xs) (g : Nat) (lb : Array Value) (p : ByteArray → Bool) (eg : ∀ (args : Array Value) (W : World), (callFunc g args).run Try.prog W = .ok (.enter g args) W) (hp : ∀ s ∈ xs, PredS1 g lb p w s) :
    Calls Try.prog 56 #[.slice A xs.length c, .func (.func g) #[] lb] w fun e w' => ∃ i : Int, e = .returned (.int .i64 i) ∧ Below w.heap.size w w' ∧ -1 ≤ i ∧ decide (0 ≤ i) = xs.any p := by
  obtain ⟨h1, h2, h3⟩ := h
  unfold maxLen at h2
  have HP := Lib.hid hp
  clear hp
  go_enter Try.func56, Try.ntmps56
  go_wp2
  go_loopw [8] (fun i wr => ∃ k : Nat, k ≤ xs.length ∧ i = .int .i64 k ∧ Hid ((xs.take k).any p = false) ∧ Below w.heap.size w wr) (fun i _ => xs.length - (intOf i).toNat)
  case atStart => exact ⟨0, Nat.zero_le _, rfl, by exact rfl, Below.refl _ _⟩
  case round =>
    obtain ⟨k, hk, rfl, hn, hb⟩ := hrel
    by_cases hlt : k < xs.length
    · obtain ⟨ad, rfl, hx⟩ := row_str_at (h3.below hb) hlt
      have hmem := List.getElem_mem hlt
      generalize hye : xs[k] = y at hx hmem
      have HM := Lib.hid hmem
      clear hmem
      have HY := Lib.hid hye
      clear hye
      go_wp2_with fail
      refine (HP.out y HM.out wr hb).mono ?_
      rintro e w1 ⟨rfl, hb1⟩
      cases hpy : p y
      · go_wp2
        go_roundw
        case rel => exact ⟨k + 1, by omega, by go_num, by show _ = false; rw [any_take_succ _ _ _ hlt, hn.out, HY.out, hpy]; rfl, bthen hb hb1⟩
        case measure => simp [intOf]; omega
      · go_wp2
        go_ret
        exact ⟨k, rfl, bthen hb hb1, by omega, by rw [any_of_at hlt (by rw [HY.out]; exact hpy)]; simp⟩
    · go_wp2
      go_ret
      obtain rfl : k = xs.length := by omega
      have h4 : (xs.take xs.length).any p = false := hn.out
      rw [List.take_length] at h4
      exact ⟨-1, rfl, hb, by omega, by rw [h4]; rfl⟩

theorem containsFuncS_in {A : Option Addr} {c : Nat} {xs : List ByteArray} {w : World} (h : SlS w A c xs) (g : Nat) (lb : Array Value) (p : ByteArray → Bool) (eg : ∀ (args : Array Value) (W : World), (callFunc g args).run Try.prog W = .ok (.enter g args) W) (hp : ∀ s ∈ xs, PredS1 g lb p w s) :
    Calls Try.prog 30 #[.slice A xs.length c, .func (.func g) #[] lb] w fun e w' => e = .returned (.bool (xs.any p)) ∧ Below w.heap.size w w' := by
  have H := Lib.hid (indexFuncS_in h g lb p eg hp)
  clear hp
  go_enter Try.func30, Try.ntmps30
  go_wp2_with fail
  refine H.out.mono ?_
  rintro e w' ⟨i, rfl, hb, h1, h2⟩
  have H2 := Lib.hid h2
  clear h2
  go_wp2
  go_ret
  exact ⟨ret_bool H2.out, hb⟩
end Go.Proofs.Ytfoghahidofegaa

namespace Go.Proofs.Ytfoghahidofegaa
open Go.RowKit Go.Sort

theorem infoS2 : (Try.prog.info? 9).map (fun i => (i.zero, i.size, i.bytes)) = some (some (.string ByteArray.empty), 1, 16) := by kernel_rfl
theorem less_eq2 (x y : ByteArray) : Op.bytesLess x.toList y.toList = decide (ltB x y) := by rw [Lib.toList_data, Lib.toList_data, bytesLess_eq]; rfl
/-- Whether texts rise. -/
def riseN (l : List ByteArray) : Bool := decide (l.Pairwise ltB)
theorem riseN_iff (l : List ByteArray) : riseN l = true ↔ l.Pairwise ltB := by unfold riseN; simp
end Go.Proofs.Ytfoghahidofegaa

namespace Go.Proofs.Ytfoghahidofegaa
open Go.RowKit

abbrev SlF (w : World) (A : Option Addr) (c : Nat) (xs : List (ByteArray × Int)) : Prop := Sl kField (fun _ => True) w A c xs
def fnames (l : List (ByteArray × Int)) : List ByteArray := l.map (·.1)
set_option maxHeartbeats 1000000 in
set_option maxRecDepth 100000 in
theorem names_any {w : World} {A : Option Addr} {c : Nat} {l : List (ByteArray × Int)} (h : SlF w A c l) (hl : l.length ≤ 1000000) :
    Calls Try.prog 27 #[.slice A l.length c] w fun e w' => ∃ A' c', e = .returned (.slice A' l.length c') ∧ SlS w' A' c' (fnames l) ∧ Below w.heap.size w w' := by
  obtain ⟨h1, h2, h3⟩ := h
  unfold maxLen at h2
  go_enter Try.func27, Try.ntmps27
  go_wp2
  go_loopw [3, 8] (fun v i wr => ∃ k : Nat, k ≤ l.length ∧ i = .int .i64 k ∧ Own Kn.str 9 w.heap.size (fun _ => False) wr v (fnames (l.take k)) ∧ Below w.heap.size w wr) (fun _ i _ => l.length - (intOf i).toNat)
  case atStart => exact ⟨0, Nat.zero_le _, rfl, Own.nil_ _ _ _ _ _, Below.refl _ _⟩
  case round =>
    obtain ⟨k, hk, rfl, ho, hb⟩ := hrel
    by_cases hlt : k < l.length
    · obtain ⟨ad, rfl, hx, hy⟩ := row_field_at (h3.below hb) hlt
      have HST := Lib.hid (show fnames (l.take (k + 1)) = fnames (l.take k) ++ [(l[k]).1] by unfold fnames; rw [List.take_succ_eq_append_getElem hlt, List.map_append]; rfl)
      have HLN := Lib.hid (show (fnames (l.take k)).length = k by unfold fnames; simp; omega)
      generalize l[k] = x at hx hy HST
      have e1 : (0 : Int) ≤ (k : Int) := Int.natCast_nonneg _
      have e2 : (k : Int) < (l.length : Int) := by omega
      have HO := Lib.hid (ho.alloc (.cells #[.string x.1, .int .i64 x.2] 34))
      have HB := Lib.hid (show Below w.heap.size w (wr.alloc (.cells #[.string x.1, .int .i64 x.2] 34)) from hb.alloc hb.size _)
      have hws := hb.size
      clear ho
      go_wp2_with (at_builtin; refine wpList_pushH (W := wr.alloc (.cells #[.string x.1, .int .i64 x.2] 34)) rfl _ _ _ rfl 9 _ 1 16 Try.underlying22 infoS2 rfl (by decide) (by decide) rfl w.heap.size (fun _ => False) _ _ rfl HO.out x.1 [.string x.1] rfl (wr.heap.size + 1) (by simp) rfl (by simp; omega) (by rw [HLN.out]; omega) ?_; intro v1 w5 hown1 hg1 hat1 hbel1; have HO5 := Lib.hid hown1; have HB5 := Lib.hid (hbel1 w HB.out); clear hown1 hg1 hat1 hbel1)
      go_roundw
      case rel => exact ⟨k + 1, by omega, by go_num, by rw [HST.out]; exact HO5.out, HB5.out⟩
      case measure => simp [intOf]; omega
    · have hfin : fnames (l.take k) = fnames l := by rw [List.take_of_length_le (by omega)]
      rw [hfin] at ho
      obtain ⟨A', c', rfl, hs⟩ := ho.sl
      have hlen : (fnames l).length = l.length := by simp [fnames]
      rw [hlen] at *
      have HS := Lib.hid hs.any
      clear ho hs hfin hlen
      go_wp2
      go_ret
      exact ⟨A', c', rfl, HS.out, hb⟩

set_option maxHeartbeats 1000000 in
theorem riseE_any {A : Option Addr} {c : Nat} {l : List ByteArray} {w : World} (h : SlS w A c l) :
    Calls Try.prog 33 #[.slice A l.length c] w fun e w' => e = .returned (.bool (riseN l)) ∧ w' = w := by
  obtain ⟨h1, h2, h3⟩ := h
  unfold maxLen at h2
  go_enter Try.func33, Try.ntmps33
  go_wp2_with fail
  go_loopw [3, 4, 7] (fun _ _ i wr => ∃ k : Nat, k ≤ l.length ∧ i = .int .i64 k ∧ Hid (∀ j (hj : j + 1 < l.length), j + 1 < k → ltB l[j] l[j + 1]) ∧ wr = w) (fun _ _ i _ => l.length - (intOf i).toNat)
  case atStart => exact ⟨0, Nat.zero_le _, rfl, Lib.hid (fun j hj hm => by omega), rfl⟩
  case round =>
    obtain ⟨k, hk, rfl, hs, rfl⟩ := hrel
    by_cases hlt : k < l.length
    · obtain ⟨ad, rfl, hx⟩ := row_str_at h3 hlt
      have e1 : (0 : Int) ≤ (k : Int) := Int.natCast_nonneg _
      have e2 : (k : Int) < (l.length : Int) := by omega
      by_cases h0 : k = 0
      · have HST := Lib.hid (show ∀ j (hj : j + 1 < l.length), j + 1 < k + 1 → ltB l[j] l[j + 1] from fun j hj hm => by omega)
        generalize l[k] = x at hx
        have e3 : ¬ (0 : Int) < (k : Int) := by omega
        clear hs h0
        go_wp2
        go_roundw
        case rel => exact ⟨k + 1, by omega, by go_num, HST, by first | rfl | trivial⟩
        case measure => simp [intOf]; omega
      · obtain ⟨j, hj⟩ : ∃ j, k = j + 1 := ⟨k - 1, by omega⟩
        have hj0 : j < l.length := by omega
        have ew : IntKind.i64.wrap ((k : Int) - 1) = (j : Int) := by rw [IntWalk.i64_in _ (by omega)]; omega
        obtain ⟨ad', e', hy⟩ := row_str_at h3 hj0
        injection e' with e'
        subst e'
        have HST := Lib.hid (show ltB l[j] l[k] → ∀ i (hi : i + 1 < l.length), i + 1 < k + 1 → ltB l[i] l[i + 1] from fun hle i hi hm => by
          rcases Nat.lt_or_ge (i + 1) k with h | h
          · exact hs.out i hi h
          · obtain rfl : i = j := by omega
            simpa only [hj] using hle)
        have HNO := Lib.hid (show (¬ ltB l[j] l[k] → riseN l = false) from fun hle => by
          rw [Bool.eq_false_iff]
          intro hr
          exact hle (List.pairwise_iff_getElem.1 ((riseN_iff l).1 hr) j k hj0 hlt (by omega)))
        generalize l[k] = x at hx HST HNO
        generalize l[j] = y at hy HST HNO
        have hq := less_eq2 y x
        have b1 : (0 : Int) ≤ (j : Int) := Int.natCast_nonneg _
        have b3 : (j : Int) < (l.length : Int) := by omega
        have e3 : (0 : Int) < (k : Int) := by omega
        clear hs h0 hj
        by_cases hlx : ltB y x
        · rw [decide_eq_true hlx] at hq
          have HL := Lib.hid (HST.out hlx)
          clear hlx HST HNO
          go_wp2
          go_roundw
          case rel => exact ⟨k + 1, by omega, by go_num, HL, by first | rfl | trivial⟩
          case measure => simp [intOf]; omega
        · rw [decide_eq_false hlx] at hq
          have HL := Lib.hid (HNO.out hlx)
          clear hlx HST HNO
          go_wp2
          go_ret
          exact ⟨by rw [HL.out]; rfl, rfl⟩
    · have HR := Lib.hid (show riseN l = true from (riseN_iff l).2 (by
        refine List.pairwise_iff_getElem.2 ?_
        intro i j hi hj hij
        obtain ⟨d, rfl⟩ : ∃ d, j = i + 1 + d := ⟨j - i - 1, by omega⟩
        induction d with
        | zero => exact hs.out i (by omega) (by omega)
        | succ d ih => exact ltB_trans (ih (by omega) (by omega)) (hs.out (i + 1 + d) (by omega) (by omega))))
      clear hs
      go_wp2
      go_ret
      exact ⟨by rw [HR.out]; rfl, rfl⟩
end Go.Proofs.Ytfoghahidofegaa

namespace Go.Proofs.Ytfoghahidofegaa
open Go.RowKit

def PredF1 (g : Nat) (lb : Array Value) (p : ByteArray × Int → Bool) (w : World) (x : ByteArray × Int) : Prop := ∀ (W : World), Below w.heap.size w W →
  Calls Try.prog g (#[.agg #[.string x.1, .int .i64 x.2]] ++ lb) W fun e w' => e = .returned (.bool (p x)) ∧ Below W.heap.size W w'

set_option maxHeartbeats 400000 in
theorem indexFuncF_in {A : Option Addr} {c : Nat} {xs : List (ByteArray × Int)} {w : World} (h : SlF w A c xs) (g : Nat) (lb : Array Value) (p : ByteArray × Int → Bool) (eg : ∀ (args : Array Value) (W : World), (callFunc g args).run Try.prog W = .ok (.enter g args) W) (hp : ∀ x ∈ xs, PredF1 g lb p w x) :
    Calls Try.prog 59 #[.slice A xs.length c, .func (.func g) #[] lb] w fun e w' => ∃ i : Int, e = .returned (.int .i64 i) ∧ Below w.heap.size w w' ∧ -1 ≤ i ∧ decide (0 ≤ i) = xs.any p := by
  obtain ⟨h1, h2, h3⟩ := h
  unfold maxLen at h2
  have HP := Lib.hid hp
  clear hp
  go_enter Try.func59, Try.ntmps59
  go_wp2
  go_loopw [8] (fun i wr => ∃ k : Nat, k ≤ xs.length ∧ i = .int .i64 k ∧ Hid ((xs.take k).any p = false) ∧ Below w.heap.size w wr) (fun i _ => xs.length - (intOf i).toNat)
  case atStart => exact ⟨0, Nat.zero_le _, rfl, by exact rfl, Below.refl _ _⟩
  case round =>
    obtain ⟨k, hk, rfl, hn, hb⟩ := hrel
    by_cases hlt : k < xs.length
    · obtain ⟨ad, rfl, hx, hy⟩ := row_field_at (h3.below hb) hlt
      have hmem := List.getElem_mem hlt
      generalize hye : xs[k] = y at hx hy hmem
      have HM := Lib.hid hmem
      clear hmem
      have HY := Lib.hid hye
      clear hye
      go_wp2_with fail
      refine (HP.out y HM.out wr hb).mono ?_
      rintro e w1 ⟨rfl, hb1⟩
      cases hpy : p y
      · go_wp2
        go_roundw
        case rel => exact ⟨k + 1, by omega, by go_num, by show _ = false; rw [any_take_succ _ _ _ hlt, hn.out, HY.out, hpy]; rfl, bthen hb hb1⟩
        case measure => simp [intOf]; omega
      · go_wp2
        go_ret
        exact ⟨k, rfl, bthen hb hb1, by omega, by rw [any_of_at hlt (by rw [HY.out]; exact hpy)]; simp⟩
    · go_wp2
      go_ret
      obtain rfl : k = xs.length := by omega
      have h4 : (xs.take xs.length).any p = false := hn.out
      rw [List.take_length] at h4
      exact ⟨-1, rfl, hb, by omega, by rw [h4]; rfl⟩

theorem containsFuncF_in {A : Option Addr} {c : Nat} {xs : List (ByteArray × Int)} {w : World} (h : SlF w A c xs) (g : Nat) (lb : Array Value) (p : ByteArray × Int → Bool) (eg : ∀ (args : Array Value) (W : World), (callFunc g args).run Try.prog W = .ok (.enter g args) W) (hp : ∀ x ∈ xs, PredF1 g lb p w x) :
    Calls Try.prog 34 #[.slice A xs.length c, .func (.func g) #[] lb] w fun e w' => e = .returned (.bool (xs.any p)) ∧ Below w.heap.size w w' := by
  have H := Lib.hid (indexFuncF_in h g lb p eg hp)
  clear hp
  go_enter Try.func34, Try.ntmps34
  go_wp2_with fail
  refine H.out.mono ?_
  rintro e w' ⟨i, rfl, hb, h1, h2⟩
  have H2 := Lib.hid h2
  clear h2
  go_wp2
  go_ret
  exact ⟨ret_bool H2.out, hb⟩


theorem not_any (f : Nat) (w : World) : Calls Try.prog 31 #[.func (.func f) #[] #[]] w fun e w' => ∃ b, e = .returned (.func (.func 57) #[] #[.pointer (some ⟨b, 0, none⟩)]) ∧ w'.cell? ⟨b, 0, none⟩ = some (.func (.func f) #[] #[]) ∧ b < w'.heap.size ∧ Below w.heap.size w w' := by
  have HB := Lib.hid (fun o => (Below.refl w.heap.size w).alloc (Nat.le_refl _) o)
  have HX := Lib.hid (Bx.new w 67 [.func (.func f) #[] #[]])
  go_enter Try.func31, Try.ntmps31
  go_wp2
  go_ret
  exact ⟨w.heap.size, rfl, HX.out.c0, HX.out.lt, HB.out _⟩
theorem not1_any {f : Nat} {b : Bool} {s : ByteArray} {k : Nat} {w : World} (hk : w.cell? ⟨k, 0, none⟩ = some (.func (.func f) #[] #[])) (ef : ∀ (args : Array Value) (W : World), (callFunc f args).run Try.prog W = .ok (.enter f args) W) (hf : Calls Try.prog f #[.string s] w fun e w' => e = .returned (.bool b) ∧ Below w.heap.size w w') :
    Calls Try.prog 57 #[.string s, .pointer (some ⟨k, 0, none⟩)] w fun e w' => e = .returned (.bool (!b)) ∧ Below w.heap.size w w' := by
  have HF := Lib.hid hf
  clear hf
  go_enter Try.func57, Try.ntmps57
  go_wp2_with fail
  refine HF.out.mono ?_
  rintro e w1 ⟨rfl, hb⟩
  go_wp2
  go_ret
  exact ⟨rfl, hb⟩
/-- A number of a field that is too great. -/
def overF (x : ByteArray × Int) : Bool := decide (x.2 < -1099511627776) || decide (1099511627776 < x.2)
theorem over_any (x : ByteArray × Int) (w : World) : Calls Try.prog 28 #[.agg #[.string x.1, .int .i64 x.2]] w fun e w' => e = .returned (.bool (overF x)) ∧ Below w.heap.size w w' := by
  have HB := Lib.hid (fun o => (Below.refl w.heap.size w).alloc (Nat.le_refl _) o)
  obtain ⟨s, n⟩ := x
  unfold overF
  simp only
  by_cases h1 : n < -1099511627776
  · rw [decide_eq_true h1]
    go_enter Try.func28, Try.ntmps28
    go_wp2
    go_ret
    exact ⟨rfl, HB.out _⟩
  · rw [decide_eq_false h1]
    by_cases h2 : 1099511627776 < n
    · rw [decide_eq_true h2]
      go_enter Try.func28, Try.ntmps28
      go_wp2
      go_ret
      exact ⟨by first | (simp; done) | (simp; omega), HB.out _⟩
    · rw [decide_eq_false h2]
      go_enter Try.func28, Try.ntmps28
      go_wp2
      go_ret
      exact ⟨by first | (simp; done) | (simp; omega), HB.out _⟩
theorem noTag_any {W : World} {T : Option Addr} {ct : Nat} {l : List ByteArray} (hT : SlS W T ct l) (hg : ∀ s ∈ l, s.size ≤ maxLen) {b : Nat} (hb : W.cell? ⟨b, 0, none⟩ = some (.func (.func 32) #[] #[])) (hbl : b < W.heap.size) :
    Calls Try.prog 30 #[.slice T l.length ct, .func (.func 57) #[] #[.pointer (some ⟨b, 0, none⟩)]] W fun e w' => e = .returned (.bool (l.any fun s => !tagN s)) ∧ Below W.heap.size W w' :=
  containsFuncS_in hT 57 #[.pointer (some ⟨b, 0, none⟩)] (fun s => !tagN s) (fun args W => enters_of Try.func57 (by kernel_rfl) rfl args W) (fun s hs W' hW => not1_any ((hW.cell (p := ⟨b, 0, none⟩) hbl).trans hb) (fun args W => enters_of Try.func32 (by kernel_rfl) rfl args W) (mayTag_any s (hg s hs) W'))
theorem noName_any {W : World} {T : Option Addr} {ct : Nat} {l : List ByteArray} (hT : SlS W T ct l) {b : Nat} (hb : W.cell? ⟨b, 0, none⟩ = some (.func (.func 29) #[] #[])) (hbl : b < W.heap.size) :
    Calls Try.prog 30 #[.slice T l.length ct, .func (.func 57) #[] #[.pointer (some ⟨b, 0, none⟩)]] W fun e w' => e = .returned (.bool (l.any fun s => !mayN s)) ∧ Below W.heap.size W w' :=
  containsFuncS_in hT 57 #[.pointer (some ⟨b, 0, none⟩)] (fun s => !mayN s) (fun args W => enters_of Try.func57 (by kernel_rfl) rfl args W) (fun s hs W' hW => not1_any ((hW.cell (p := ⟨b, 0, none⟩) hbl).trans hb) (fun args W => enters_of Try.func29 (by kernel_rfl) rfl args W) (nameMay_any s W'))
theorem overs_any {W : World} {F : Option Addr} {cf : Nat} {l : List (ByteArray × Int)} (hF : SlF W F cf l) :
    Calls Try.prog 34 #[.slice F l.length cf, .func (.func 28) #[] #[]] W fun e w' => e = .returned (.bool (l.any overF)) ∧ Below W.heap.size W w' :=
  containsFuncF_in hF 28 #[] overF (fun args W => enters_of Try.func28 (by kernel_rfl) rfl args W) (fun x hx W' hW => over_any x W')
/-- What is wrong with an event. -/
def mayE (e : Event) : Int :=
  if (!mayN e.stream || !mayN e.type) then 5 else if (decide (6 < e.tags.length) || decide (4 < e.fields.length)) then 3
  else if (e.tags.any (fun s => !tagN s) || (fnames e.fields).any (fun s => !mayN s)) then 5
  else if (!riseN e.tags || !riseN (fnames e.fields) || e.fields.any overF) then 1 else 0

set_option maxHeartbeats 4000000 in
set_option maxRecDepth 100000 in
theorem mayE_any {w : World} {e : Event} {T F : Option Addr} {ct cf : Nat} (hT : SlS w T ct e.tags) (hF : SlF w F cf e.fields) (hl : e.fields.length ≤ 1000000) (hg : ∀ s ∈ e.tags, s.size ≤ maxLen) :
    Calls Try.prog 9 #[vEvent e T ct F cf] w fun r w' => r = .returned (.int .i64 (mayE e)) ∧ Below w.heap.size w w' := by
  obtain ⟨W1, hW1⟩ : ∃ W1, W1 = w.alloc (.cells #[.string e.stream, .string e.type, .slice T e.tags.length ct, .slice F e.fields.length cf] 25) := ⟨_, rfl⟩
  have HW := Lib.hid hW1
  have hB : Below w.heap.size w W1 := by rw [hW1]; exact (Below.refl _ _).alloc (Nat.le_refl _) _
  have hx1 : Bx W1 w.heap.size 25 [.string e.stream, .string e.type, .slice T e.tags.length ct, .slice F e.fields.length cf] := by rw [hW1]; exact Bx.new w _ _
  have HT := Lib.hid (hT.below hB)
  have HF := Lib.hid (hF.below hB)
  have HX := Lib.hid hx1
  have HBl := Lib.hid hB
  have HG := Lib.hid hg
  have CN := Lib.hid (names_any (hF.below hB) hl)
  have c3 := hx1.cell 3
  simp only [List.getElem?_cons_succ, List.getElem?_cons_zero] at c3
  have hnl : (fnames e.fields).length = e.fields.length := by simp [fnames]
  have HNL := Lib.hid hnl
  clear hB hx1 hW1 hT hF hg hnl
  obtain ⟨R, hR⟩ : ∃ R, mayE e = R := ⟨_, rfl⟩
  have HR := Lib.hid hR
  rw [hR]
  clear hR
  go_enter Try.func9, Try.ntmps9
  go_upto_region 1 with fail
  rw [← HW.out]
  clear HW
  go_upto_region 3 with (go_at_call 27; go_fit CN.out; rintro r w2 ⟨N, cn, rfl, hn2, hb2⟩; have HN := Lib.hid hn2; have HB2 := Lib.hid hb2; clear hn2 hb2)
  clear c3 CN
  have HX2 := Lib.hid (HX.out.under HB2.out)
  have HT2 := Lib.hid (HT.out.below HB2.out)
  have HF2 := Lib.hid (HF.out.below HB2.out)
  have HB02 := Lib.hid (bthen HBl.out HB2.out)
  clear HX HT HF HBl HB2
  obtain ⟨X, hX⟩ : ∃ X, X = w2 := ⟨_, rfl⟩
  subst hX
  have HK := Lib.hid (fun W (hb : Below X.heap.size X W) => show W.cell? ⟨w.heap.size, 0, none⟩ = some (.string e.stream) ∧ W.cell? ⟨w.heap.size, 1, none⟩ = some (.string e.type) ∧ W.cell? ⟨w.heap.size, 2, none⟩ = some (.slice T e.tags.length ct) ∧ W.cell? ⟨w.heap.size, 3, none⟩ = some (.slice F e.fields.length cf) from
    ⟨(HX2.out.under hb).cell 0, (HX2.out.under hb).cell 1, (HX2.out.under hb).cell 2, (HX2.out.under hb).cell 3⟩)
  obtain ⟨k0, k1, k2, k3⟩ := HK.out X (Below.refl _ _)
  have C1 := Lib.hid (fun W => nameMay_any e.stream W)
  have C2 := Lib.hid (fun W => nameMay_any e.type W)
  unfold mayE at HR
  generalize mayN e.stream = m1 at C1 HR
  generalize mayN e.type = m2 at C2 HR
  go_cut [8] (fun v wx => v = .bool (!m1 || !m2) ∧ Below X.heap.size X wx)
  case first =>
    rcases m1 with _ | _ <;> rcases m2 with _ | _
    all_goals
      go_wp2_with (first
        | (go_at_call 29; go_fit (C2.out _); rintro r w4 ⟨rfl, hb4⟩)
        | (go_at_call 29; go_fit (C1.out _); rintro r w3 ⟨rfl, hb3⟩; have HB3 := Lib.hid hb3; obtain ⟨_, k11, _, _⟩ := HK.out _ hb3; clear hb3))
      go_meet
      first
        | exact ⟨rfl, bthen HB3.out hb4⟩
        | exact ⟨rfl, HB3.out⟩
  case rest =>
    obtain ⟨rfl, hbc⟩ := hcut
    have HBC := Lib.hid hbc
    clear hbc k0 k1 k2 k3 C1 C2
    obtain ⟨k0, k1, k2, k3⟩ := HK.out _ HBC.out
    generalize (!m1 || !m2) = m at HR
    rcases m with _ | _
    rotate_left
    · have HT := Lib.hid (show R = 5 by rw [← HR.out]; rfl)
      clear HR
      go_wp2_with fail
      go_ret
      exact ⟨by rw [HT.out]; rfl, bthen HB02.out HBC.out⟩
    have HR2 := Lib.hid (show (if (decide (6 < e.tags.length) || decide (4 < e.fields.length)) = true then (3 : Int) else if (e.tags.any (fun s => !tagN s) || (fnames e.fields).any (fun s => !mayN s)) = true then 5
      else if (!riseN e.tags || !riseN (fnames e.fields) || e.fields.any overF) = true then 1 else 0) = R by have := HR.out; rwa [if_neg (by decide)] at this)
    clear HR
    by_cases h6 : 6 < e.tags.length
    · have HT := Lib.hid (show R = 3 by rw [← HR2.out, decide_eq_true h6]; rfl)
      clear HR2
      go_wp2_with fail
      go_ret
      exact ⟨by rw [HT.out]; rfl, bthen HB02.out HBC.out⟩
    by_cases h4 : 4 < e.fields.length
    · have HT := Lib.hid (show R = 3 by rw [← HR2.out, decide_eq_true h4, Bool.or_true]; rfl)
      clear HR2
      go_wp2_with fail
      go_ret
      exact ⟨by rw [HT.out]; rfl, bthen HB02.out HBC.out⟩
    have HR3 := Lib.hid (show (if (e.tags.any (fun s => !tagN s) || (fnames e.fields).any (fun s => !mayN s)) = true then (5 : Int)
      else if (!riseN e.tags || !riseN (fnames e.fields) || e.fields.any overF) = true then 1 else 0) = R by have := HR2.out; rwa [decide_eq_false h6, decide_eq_false h4, if_neg (by decide)] at this)
    clear HR2
    have CT := Lib.hid (fun W (b : Nat) (hc : W.cell? ⟨b, 0, none⟩ = some (.func (.func 32) #[] #[])) (hl : b < W.heap.size) (R : Prop) (hb : Below X.heap.size X W ∧ R) => noTag_any (HT2.out.below hb.1) HG.out hc hl)
    have CM := Lib.hid (fun W (b : Nat) (hc : W.cell? ⟨b, 0, none⟩ = some (.func (.func 29) #[] #[])) (hl : b < W.heap.size) (R : Prop) (hb : Below X.heap.size X W ∧ R) => noName_any (HN.out.below hb.1) hc hl)
    rw [HNL.out] at CM
    have CO := Lib.hid (fun f W => not_any f W)
    have HK2 := Lib.hid (fun W (hb : Below X.heap.size X W) => show Below X.heap.size X W ∧ W.cell? ⟨w.heap.size, 2, none⟩ = some (.slice T e.tags.length ct) from ⟨hb, (HK.out W hb).2.2.1⟩)
    generalize (e.tags.any fun s => !tagN s) = t1 at CT HR3
    generalize ((fnames e.fields).any fun s => !mayN s) = t2 at CM HR3
    go_upto_region 7 with fail
    go_cut [29] (fun v wx => v = .bool (t1 || t2) ∧ Below X.heap.size X wx)
    case first =>
      rcases t1 with _ | _
      · clear k0 k1 k2 k3
        go_region_held3 (fun W => Below X.heap.size X W ∧ W.cell? ⟨w.heap.size, 2, none⟩ = some (.slice T e.tags.length ct))
          (first | assumption | exact HK2.out _ (below_drawn HBC.out) | exact HK2.out _ (bthen (And.left (by assumption : Below X.heap.size X _ ∧ _)) (by assumption)))
          (first
          | (go_at_call 30; refine (CT.out _ _ HC1.out HL1.out _ (by assumption)).mono ?_; rintro r w' ⟨rfl, hb⟩)
          | (go_at_call 30; refine (CM.out _ _ HC1.out HL1.out _ (by assumption)).mono ?_; rintro r w' ⟨rfl, hb⟩)
          | (go_at_call 31; refine (CO.out _ _).mono ?_; rintro r w' ⟨b1, rfl, hc1, hl1, hb⟩; have HC1 := Lib.hid hc1; have HL1 := Lib.hid hl1; clear hc1 hl1))
        all_goals go_wp2_with fail
        all_goals go_meet
        all_goals exact ⟨by simp, And.left (by assumption : Below X.heap.size X _ ∧ _)⟩
      · clear k0 k1 k2 k3
        refine wp_region_held_drew (S := (fun W => Below X.heap.size X W ∧ W.cell? ⟨w.heap.size, 2, none⟩ = some (.slice T e.tags.length ct))) (by kernel_rfl) (by first | assumption | exact HK2.out _ (below_drawn HBC.out)) (fun hHeld => ?_)
        refine wpAnyH_take (i := 0) (v := .pointer (some ⟨w.heap.size, 2, none⟩)) rfl (by kernel_rfl) (by kernel_rfl) (by kernel_rfl) (fun _ _ _ h => h) (Or.inl ⟨by rfl, ?_⟩) (by assumption) ?_
        · intro w hSw
          (try dsimp only at hSw)
          go_simp
        (try simp only [Act.put, List.setIfInBounds_toArray, List.set_cons_zero, List.set_cons_succ])
        refine wpAnyH_take (i := 1) (v := .slice T e.tags.length ct) rfl (by kernel_rfl) (by kernel_rfl) (by kernel_rfl) (fun _ _ _ h => h) (Or.inl ⟨by rfl, ?_⟩) (by assumption) ?_
        · intro w hSw
          (try dsimp only at hSw)
          go_simp
        (try simp only [Act.put, List.setIfInBounds_toArray, List.set_cons_zero, List.set_cons_succ])
        refine wpAnyH_ready (rs := [2]) (by kernel_rfl) (by simp) ?_
        refine AllReadyH.cons rfl (fun K hK => ?_) AllReadyH.nil
        go_simp
        go_at_call 31
        refine (CO.out _ _).mono ?_
        rintro r w5 ⟨b1, rfl, hc1, hl1, hb⟩
        (try go_wp2_with fail)
        refine hK.out _ _ (by first | assumption | exact HK2.out _ (below_drawn HBC.out) | exact HK2.out _ (bthen (And.left (by assumption : Below X.heap.size X _ ∧ _)) (by assumption))) (fun hHeld => ?_)
        clear hK K
        (try simp only [Act.put, List.setIfInBounds_toArray, List.set_cons_zero, List.set_cons_succ])
        refine wpAnyH_ready (rs := [3]) (by kernel_rfl) (by simp) ?_
        refine AllReadyH.cons rfl (fun K hK => ?_) AllReadyH.nil
        go_simp
        go_at_call 30
        refine (CT.out _ _ hc1 hl1 _ (by assumption)).mono ?_
        rintro r w6 ⟨rfl, hb6⟩
        (try go_wp2_with fail)
        refine hK.out _ _ (by first | assumption | exact HK2.out _ (below_drawn HBC.out) | exact HK2.out _ (bthen (And.left (by assumption : Below X.heap.size X _ ∧ _)) (by assumption))) (fun hHeld => ?_)
        clear hK K
        (try simp only [Act.put, List.setIfInBounds_toArray, List.set_cons_zero, List.set_cons_succ])
        refine wpAnyH_take (i := 4) (v := .bool true) rfl (by kernel_rfl) (by kernel_rfl) (by kernel_rfl) (fun _ _ _ h => h) (Or.inl ⟨by rfl, ?_⟩) (by assumption) ?_
        · intro w hSw
          (try dsimp only at hSw)
          go_simp
        (try simp only [Act.put, List.setIfInBounds_toArray, List.set_cons_zero, List.set_cons_succ])
        refine wpAnyH_take (i := 5) (v := undef) rfl (by kernel_rfl) (by kernel_rfl) (by kernel_rfl) (fun _ _ _ h => h) (Or.inr ⟨by rfl, rfl⟩) (by assumption) ?_
        (try simp only [Act.put, List.setIfInBounds_toArray, List.set_cons_zero, List.set_cons_succ])
        refine wpAnyH_take (i := 6) (v := undef) rfl (by kernel_rfl) (by kernel_rfl) (by kernel_rfl) (fun _ _ _ h => h) (Or.inr ⟨by rfl, rfl⟩) (by assumption) ?_
        (try simp only [Act.put, List.setIfInBounds_toArray, List.set_cons_zero, List.set_cons_succ])
        refine wpAnyH_take (i := 7) (v := undef) rfl (by kernel_rfl) (by kernel_rfl) (by kernel_rfl) (fun _ _ _ h => h) (Or.inr ⟨by rfl, rfl⟩) (by assumption) ?_
        (try simp only [Act.put, List.setIfInBounds_toArray, List.set_cons_zero, List.set_cons_succ])
        refine wpAnyH_take (i := 8) (v := .bool true) rfl (by kernel_rfl) (by kernel_rfl) (by kernel_rfl) (fun _ _ _ h => h) (Or.inl ⟨by rfl, ?_⟩) (by assumption) ?_
        · intro w hSw
          (try dsimp only at hSw)
          go_simp
        (try simp only [Act.put, List.setIfInBounds_toArray, List.set_cons_zero, List.set_cons_succ])
        refine wpAnyH_take (i := 9) (v := .bool true) rfl (by kernel_rfl) (by kernel_rfl) (by kernel_rfl) (fun _ _ _ h => h) (Or.inl ⟨by rfl, ?_⟩) (by assumption) ?_
        · intro w hSw
          (try dsimp only at hSw)
          go_simp
        (try simp only [Act.put, List.setIfInBounds_toArray, List.set_cons_zero, List.set_cons_succ])
        refine wpAnyH_done (by kernel_rfl) ?_ _
        simp only [List.getElem_toArray, List.getElem_cons_succ, List.getElem_cons_zero, Act.put, List.setIfInBounds_toArray, List.set_cons_zero, List.set_cons_succ]
        all_goals go_wp2_with fail
        all_goals go_meet
        all_goals exact ⟨rfl, And.left (by assumption : Below X.heap.size X _ ∧ _)⟩
    case rest =>
      obtain ⟨rfl, hbd⟩ := hcut
      have HBD := Lib.hid hbd
      clear hbd k0 k1 k2 k3 CT CM CO HK2
      obtain ⟨k0, k1, k2, k3⟩ := HK.out _ HBD.out
      have HB3 := Lib.hid (bthen HB02.out HBD.out)
      generalize (t1 || t2) = t at HR3
      rcases t with _ | _
      rotate_left
      · have HT := Lib.hid (show R = 5 by rw [← HR3.out]; rfl)
        clear HR3
        go_wp2_with fail
        go_ret
        exact ⟨by rw [HT.out]; rfl, HB3.out⟩
      have HR4 := Lib.hid (show (if (!riseN e.tags || !riseN (fnames e.fields) || e.fields.any overF) = true then (1 : Int) else 0) = R by have := HR3.out; rwa [if_neg (by decide)] at this)
      clear HR3
      have D1 := Lib.hid (riseE_any (HT2.out.below HBD.out))
      have D2 := Lib.hid (riseE_any (HN.out.below HBD.out))
      rw [HNL.out] at D2
      have D3 := Lib.hid (overs_any (HF2.out.below HBD.out))
      clear HX2 HK HG
      generalize riseN e.tags = r1 at D1 HR4
      generalize riseN (fnames e.fields) = r2 at D2 HR4
      generalize e.fields.any overF = o at D3 HR4
      rcases r1 with _ | _ <;> rcases r2 with _ | _ <;> rcases o with _ | _
      all_goals
        first
          | (have HT := Lib.hid (show R = 1 by rw [← HR4.out]; rfl))
          | (have HT := Lib.hid (show R = 0 by rw [← HR4.out]; rfl))
        clear HR4
        go_wp2_with (first
          | (go_at_call 33; go_fit D1.out; rintro r w6 ⟨rfl, rfl⟩)
          | (go_at_call 33; go_fit D2.out; rintro r w7 ⟨rfl, rfl⟩)
          | (go_at_call 34; go_fit D3.out; rintro r w8 ⟨rfl, hb8⟩; have HB8 := Lib.hid hb8; clear hb8))
        go_ret
        first
          | exact ⟨by rw [HT.out]; rfl, bthen HB3.out HB8.out⟩
          | exact ⟨by rw [HT.out]; rfl, HB3.out⟩
end Go.Proofs.Ytfoghahidofegaa
