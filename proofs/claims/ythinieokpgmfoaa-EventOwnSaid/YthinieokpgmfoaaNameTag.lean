/- strings.Cut at one byte, name.Parts, name.MayTag: what they come to (walks). -/
import Derived.Test.YthinieokpgmfoaaNameMay
import Derived.Test.YthinieokpgmfoaaShelf
import Derived.Lib.IndexLaws
set_option linter.unusedVariables false
set_option linter.unusedSimpArgs false
namespace Go.Proofs.Ythinieokpgmfoaa
open Go.RowKit

/-- The place of the first ':' of a text, or -1. -/
def colon (s : ByteArray) : Int := Lib.indexByte s.data.toList 58
theorem colon_ge (s : ByteArray) : -1 ≤ colon s := Lib.indexByte_ge _ _
theorem colon_lt {s : ByteArray} (h : 0 ≤ colon s) : colon s < s.size := by
  obtain ⟨o, ho⟩ : ∃ o : Nat, colon s = o := ⟨(colon s).toNat, by omega⟩
  have h1 := (Lib.indexByte_some (l := s.data.toList) (c := 58) (o := o) ho).1
  have h2 := (List.getElem?_eq_some_iff.1 h1).1
  rw [ho]
  have : s.data.toList.length = s.size := Array.length_toList
  omega
def headS (s : ByteArray) : ByteArray := if colon s < 0 then s else s.extract 0 (colon s).toNat
def tailS (s : ByteArray) : ByteArray := if colon s < 0 then ByteArray.empty else s.extract ((colon s).toNat + 1) s.size
/-- Whether a text is a tag. -/
def tagN (s : ByteArray) : Bool := mayN (headS s) && mayN (tailS s)

set_option maxHeartbeats 1000000 in
theorem cutL_any (s : ByteArray) (hs : s.size ≤ maxLen) (w : World) : Calls Try.prog 101 #[.string s, .string ⟨#[58]⟩] w fun e w' => ∃ b, e = .returned (.tuple #[.string (headS s), .string (tailS s), .bool b]) ∧ Below w.heap.size w w' := by
  have CI := Lib.hid (show ∀ W, Calls Try.prog 108 #[.string s, .string ⟨#[58]⟩] W fun e w' => e = .returned (.int .i64 (colon s)) ∧ w' = W from fun W => Lit.indexOne s 58 W)
  unfold maxLen at hs
  by_cases h : 0 ≤ colon s
  · have h1 : headS s = s.extract 0 (colon s).toNat := by unfold headS; rw [if_neg (by omega)]
    have h2 : tailS s = s.extract ((colon s).toNat + 1) s.size := by unfold tailS; rw [if_neg (by omega)]
    rw [h1, h2]
    have hlt := colon_lt h
    generalize colon s = i at *
    have b1 : i ≤ (s.size : Int) := by omega
    have b2 : i + 1 ≤ (s.size : Int) := by omega
    have b3 : (0 : Int) ≤ i + 1 := by omega
    have ew : wrap64 (i + 1) = i + 1 := IntWalk.wrap64_in _ (by omega)
    have ew2 : IntKind.i64.wrap (i + 1) = i + 1 := IntWalk.i64_in _ (by omega)
    have et : (i + 1).toNat = i.toNat + 1 := by omega
    rw [← et]
    clear h1 h2 et
    go_enter Try.func101, Try.ntmps101
    go_upto_region 3 with (go_at_call 108; go_fit (CI.out _); rintro e w1 ⟨rfl, rfl⟩)
    go_quiet (fail)
    go_wp2
    exact bodyPost_ret (v := .tuple #[.string (s.extract 0 i.toNat), .string (s.extract (i + 1).toNat s.size), .bool true]) (by simp [results, Try.results101, go_sem]) rfl ⟨_, rfl, below_drewN (Below.refl _ _) _⟩
  · have h1 : headS s = s := by unfold headS; rw [if_pos (by omega)]
    have h2 : tailS s = ByteArray.empty := by unfold tailS; rw [if_pos (by omega)]
    rw [h1, h2]
    generalize colon s = i at *
    clear h1 h2
    go_enter Try.func101, Try.ntmps101
    go_wp2_with (go_at_call 108; go_fit (CI.out _); rintro e w1 ⟨rfl, rfl⟩)
    exact bodyPost_ret (v := .tuple #[.string s, .string ByteArray.empty, .bool false]) (by simp [results, Try.results101, go_sem]; try rfl) rfl ⟨_, rfl, Below.refl _ _⟩
theorem cut_any (s : ByteArray) (hs : s.size ≤ maxLen) (w : World) : Calls Try.prog 86 #[.string s, .string ⟨#[58]⟩] w fun e w' => ∃ b, e = .returned (.tuple #[.string (headS s), .string (tailS s), .bool b]) ∧ Below w.heap.size w w' := by
  have C := Lib.hid (cutL_any s hs w)
  generalize headS s = x at *
  generalize tailS s = y at *
  go_enter Try.func86, Try.ntmps86
  go_wp2_with (go_at_call 101; go_fit C.out; rintro e w1 ⟨b, rfl, hb⟩)
  exact bodyPost_ret (v := .tuple #[.string x, .string y, .bool b]) (by simp [results, Try.results86, go_sem]) rfl ⟨_, rfl, hb⟩
set_option maxHeartbeats 1000000 in
theorem parts_any (s : ByteArray) (hs : s.size ≤ maxLen) (w : World) : Calls Try.prog 77 #[.string s] w fun e w' => ∃ x y, e = .returned (.tuple #[.string x, .string y, .bool (tagN s)]) ∧ Below w.heap.size w w' := by
  have C := Lib.hid (cut_any s hs w)
  have C1 := Lib.hid (fun W => nameMay_any (headS s) W)
  have C2 := Lib.hid (fun W => nameMay_any (tailS s) W)
  unfold tagN
  generalize mayN (headS s) = b1 at *
  generalize mayN (tailS s) = b2 at *
  generalize headS s = x at *
  generalize tailS s = y at *
  rcases b1 with _ | _ <;> rcases b2 with _ | _
  all_goals
    go_enter Try.func77, Try.ntmps77
    go_wp2_with (first
      | (go_at_call 86; go_fit C.out; rintro e w1 ⟨b, rfl, hb⟩)
      | (go_at_call 52; go_fit (C1.out _); rintro e w2 ⟨rfl, hb2⟩)
      | (go_at_call 52; go_fit (C2.out _); rintro e w3 ⟨rfl, hb3⟩))
    first
      | exact bodyPost_ret (v := .tuple #[.string x, .string y, .bool true]) (by simp [results, Try.results77, go_sem]) rfl ⟨_, _, rfl, bthen (bthen hb hb2) hb3⟩
      | exact bodyPost_ret (v := .tuple #[.string ⟨#[]⟩, .string ⟨#[]⟩, .bool false]) (by simp [results, Try.results77, go_sem]) rfl ⟨_, _, rfl, bthen hb hb2⟩
      | exact bodyPost_ret (v := .tuple #[.string ⟨#[]⟩, .string ⟨#[]⟩, .bool false]) (by simp [results, Try.results77, go_sem]) rfl ⟨_, _, rfl, bthen (bthen hb hb2) hb3⟩
theorem mayTag_any (s : ByteArray) (hs : s.size ≤ maxLen) (w : World) : Calls Try.prog 54 #[.string s] w fun e w' => e = .returned (.bool (tagN s)) ∧ Below w.heap.size w w' := by
  have C := Lib.hid (parts_any s hs w)
  generalize tagN s = b at *
  go_enter Try.func54, Try.ntmps54
  go_wp2_with (go_at_call 77; go_fit C.out; rintro e w1 ⟨x, y, rfl, hb⟩)
  go_ret
  exact ⟨rfl, hb⟩
end Go.Proofs.Ythinieokpgmfoaa
