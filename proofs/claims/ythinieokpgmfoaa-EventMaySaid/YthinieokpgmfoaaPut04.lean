/- registrarref04.Put: rising texts with one more. -/
import Derived.Test.YthinieokpgmfoaaStrs
import Derived.Test.YthinieokpgmfoaaOrd
import Derived.Test.YthinieokpgmfoaaSpread
import Derived.Deep.DeepFit
import Derived.Sort.Walk0
set_option linter.unusedVariables false
set_option linter.unusedSimpArgs false
namespace Go.Proofs.Ythinieokpgmfoaa
open Go.RowKit

theorem infoS : (Try.prog.info? 9).map (fun i => (i.zero, i.size, i.bytes)) = some (some (.string ByteArray.empty), 1, 16) := by kernel_rfl
/-- Texts with one more, each once. -/
structure PutR (l : List ByteArray) (s : ByteArray) (l' : List ByteArray) : Prop where
  rise : l'.Pairwise ltB
  mem : ∀ x, x ∈ l' ↔ x ∈ l ∨ x = s
  len : l'.length ≤ l.length + 1

theorem putL_rise {l : List ByteArray} (hr : l.Pairwise ltB) {s : ByteArray} {j : Nat} (hlow : ∀ x ∈ l.take j, ltB x s) (hhi : ∀ x ∈ l.drop j, ltB s x) : PutR l s ([] ++ l.take j ++ [s] ++ l.drop j) := by
  have e : l.take j ++ l.drop j = l := List.take_append_drop j l
  refine ⟨?_, fun x => ?_, ?_⟩
  · rw [List.nil_append, List.append_assoc, List.pairwise_append]
    rw [← e, List.pairwise_append] at hr
    refine ⟨hr.1, ?_, fun x hx y hy => ?_⟩
    · rw [List.singleton_append, List.pairwise_cons]; exact ⟨hhi, hr.2.1⟩
    · rcases List.mem_append.1 hy with hy | hy
      · rw [List.mem_singleton.1 hy]; exact hlow x hx
      · exact hr.2.2 x hx y hy
  · have : x ∈ l ↔ x ∈ l.take j ∨ x ∈ l.drop j := by rw [← List.mem_append, e]
    rw [this]; simp only [List.nil_append, List.mem_append, List.mem_singleton]
    constructor
    · rintro ((h | h) | h) <;> simp [h]
    · rintro ((h | h) | h) <;> simp [h]
  · have := congrArg List.length e
    simp only [List.length_append, List.nil_append, List.length_singleton] at this ⊢
    omega
theorem less_eq (x y : ByteArray) : Op.bytesLess x.toList y.toList = decide (ltB x y) := by rw [Lib.toList_data, Lib.toList_data, bytesLess_eq]; rfl
theorem putRow2 {ok : Nat → Prop} {A : Option Addr} {c : Nat} {l : List ByteArray} {w w1 : World} (h : Sl Kn.str ok w A c l) (hb : Below w.heap.size w w1) (j : Nat) :
    Row Kn.str (fun k => k < w1.heap.size ∧ some k ≠ (Value.slice (some ⟨w1.heap.size, 0, none⟩) 0 0).ownBlock) (w1.alloc (.cells #[] 9)) A (l.take j) :=
  ((h.2.2.bound.below (hb.alloc hb.size _)).mono (fun k hk => ⟨Nat.lt_of_lt_of_le hk.2 hb.size, fun e => by have := hb.size; have h2 := hk.2; simp [Value.ownBlock] at e; omega⟩)).take j
theorem putRow4 {ok : Nat → Prop} {A : Option Addr} {c : Nat} {l : List ByteArray} {w1 w3 : World} (h : Sl Kn.str (fun k => ok k ∧ k < w1.heap.size) w1 A c ([] ++ l)) (hb : Below w1.heap.size w1 w3) {v : Value} (hv : ∀ k, v.ownBlock = some k → w1.heap.size ≤ k) :
    Row Kn.str (fun k => k < w1.heap.size ∧ some k ≠ v.ownBlock) w3 A l :=
  (h.2.2.below hb).mono (fun k hk => ⟨hk.2, fun e => by have := hv k e.symm; omega⟩)

set_option maxHeartbeats 2000000 in
theorem Put_any {ok : Nat → Prop} {A : Option Addr} {c : Nat} {l : List ByteArray} {w : World} (h : Sl Kn.str ok w A c l) (hl : l.length ≤ 1000000) (hr : l.Pairwise ltB) (s : ByteArray) :
    Calls Try.prog 49 #[.slice A l.length c, .string s] w fun r w' => ∃ A' c' l', r = .returned (.slice A' l'.length c') ∧ Sl Kn.str (fun k => ok k ∨ w.heap.size ≤ k) w' A' c' l' ∧ PutR l s l' ∧ Below w.heap.size w w' := by
  have HR := Lib.hid hr
  have H := Lib.hid h
  have hc1 := h.1
  have hc2 := h.2.1
  unfold maxLen at hc2
  clear hr h
  have HO0 := Lib.hid (Own.lit0 Kn.str 9 w.heap.size (fun k => k < w.heap.size) w (Nat.le_refl _))
  go_enter Try.func49, Try.ntmps49
  go_wp2_with fail
  go_loop [5] (fun i => ∃ j : Nat, j ≤ l.length ∧ i = .int .i64 j ∧ Hid (∀ x ∈ l.take j, ltB x s)) (fun i => l.length - (intOf i).toNat)
  case atStart => exact ⟨0, Nat.zero_le _, rfl, Lib.hid (by simp)⟩
  case round =>
    obtain ⟨j, hj, rfl, hlow⟩ := hrel
    have HTJ := Lib.hid (show (l.take j).length = j by rw [List.length_take]; omega)
    have HCUT := Lib.hid (show Row Kn.str (fun k => k < w.heap.size ∧ some k ≠ (Value.slice (some ⟨w.heap.size, 0, none⟩) 0 0).ownBlock) (w.alloc (.cells #[] 9)) (if c = j then A else A.map (·.add (j * 1))) (l.drop j) from
      Row.cut ((H.out.2.2.bound.below ((Below.refl _ _).alloc (Nat.le_refl _) _)).mono (fun k hk => ⟨hk.2, fun e => by have h2 := hk.2; simp [Value.ownBlock] at e; omega⟩)) hc1)
    by_cases hlt : j < l.length
    · obtain ⟨ad, rfl, hx⟩ := row_str_at H.out.2.2 hlt
      have HR1 := HCUT.out
      rw [if_neg (by omega), Nat.mul_one] at HR1
      have HR1 := Lib.hid (show Row Kn.str _ _ (some (ad.add j)) (l.drop j) from HR1)
      have hye : l[j]? = some l[j] := List.getElem?_eq_getElem hlt
      have hdr : l.drop j = l[j] :: l.drop (j + 1) := List.drop_eq_getElem_cons hlt
      have htk : l.take (j + 1) = l.take j ++ [l[j]] := List.take_succ_eq_append_getElem hlt
      generalize l[j] = y at *
      have HY := Lib.hid hye
      have HDR := Lib.hid hdr
      have HTK := Lib.hid htk
      clear hye hdr htk HCUT
      have hb := less_eq y s
      have hq := strEqL y s
      rcases ltB_tri y s with hys | hys | hys
      · rw [decide_eq_true hys] at hb
        have HYS := Lib.hid hys
        clear hys hq
        go_wp2_with fail
        go_round
        case rel => exact ⟨j + 1, by omega, by go_num, Lib.hid (fun x hx => by rw [HTK.out] at hx; exact (List.mem_append.1 hx).elim (hlow.out x) (fun h => by rw [List.mem_singleton.1 h]; exact HYS.out))⟩
        case measure => simp [intOf]; omega
      · subst hys
        rw [decide_eq_false (ltB_irrefl y)] at hb
        rw [decide_eq_true rfl] at hq
        go_wp2_with fail
        go_ret
        exact ⟨some ad, c, l, rfl, H.out.mono (fun k hk => .inl hk), ⟨HR.out, fun x => ⟨.inl, fun h => h.elim id (fun e => e ▸ List.mem_of_getElem? HY.out)⟩, by omega⟩, Below.refl _ _⟩
      · have hn1 : ¬ ltB y s := fun h => ltB_irrefl _ (ltB_trans h hys)
        have hn2 : ¬ y = s := fun e => ltB_irrefl s (by rw [e] at hys; exact hys)
        rw [decide_eq_false hn1] at hb
        rw [decide_eq_false hn2] at hq
        have HPUT := Lib.hid (putL_rise HR.out hlow.out (fun x hx => by
          have hp := HR.out
          rw [← List.take_append_drop j l, List.pairwise_append, HDR.out, List.pairwise_cons] at hp
          rw [HDR.out] at hx
          rcases List.mem_cons.1 hx with rfl | hx
          · exact hys
          · exact ltB_trans hys (hp.2.1.1 x hx)))
        clear hn1 hn2 hys
        go_wp2_with (first
          | (at_builtin; refine wpList_spreadN rfl _ _ _ rfl 9 _ 1 16 Try.underlying25 infoS rfl (by decide) (by decide) rfl w1.heap.size (fun k => k < w1.heap.size) _ _ rfl HO3.out (l.drop j) (l.length - j) (by simp) _ _ HR4.out rfl HZ3.out (by first | (simp; done) | (simp; omega)) ?_; intro v4 w4 hown4 hg4 hat4 hbel4; have HO4 := Lib.hid hown4; have HB4 := Lib.hid (hbel4 w1 HB3.out); clear hown4 hg4 hat4 hbel4)
          | (at_builtin; refine wpList_pushH (W := w2) rfl _ _ _ rfl 9 _ 1 16 Try.underlying25 infoS rfl (by decide) (by decide) rfl w1.heap.size (fun k => k < w1.heap.size) _ _ rfl HO2.out s [.string s] rfl w2.heap.size rfl rfl HZ2.out (by first | (simp; done) | (simp; omega)) ?_; intro v3 w3 hown3 hg3 hat3 hbel3; obtain ⟨A3, c3, rfl, _⟩ := hown3.sl; have hl3 : (([] ++ l.take j) ++ [s]).length = j + 1 := (by first | (simp; done) | (simp; omega)); rw [hl3] at hown3 hat3 ⊢; have HB3 := Lib.hid (hbel3 w1 HB2.out); have HZ3 := Lib.hid HB3.out.size; have HR4 := Lib.hid (putRow4 HS1.out HB3.out (v := .slice A3 (j + 1) c3) (fun k hk => hown3.base_le k hk)); have HO3 := Lib.hid hown3; clear hown3 hg3 hat3 hbel3 hl3)
          | (at_builtin; refine wpList_spreadN (W := w1.alloc (.cells #[] 9)) rfl _ _ _ rfl 9 _ 1 16 Try.underlying25 infoS rfl (by decide) (by decide) rfl w1.heap.size (fun k => k < w1.heap.size) _ [] rfl HOL.out (l.take j) j HTJ.out _ _ HR2.out rfl (by simp) (by first | (simp; done) | (simp; omega)) ?_; intro v2 w2 hown2 hg2 hat2 hbel2; obtain ⟨A2, c2, rfl, _⟩ := hown2.sl; have hl2 : (([] : List ByteArray) ++ l.take j).length = j := HTJ.out; rw [hl2] at hown2 hat2 ⊢; have HO2 := Lib.hid hown2; have HB2 := Lib.hid (hbel2 w1 ((Below.refl _ _).alloc (Nat.le_refl _) _)); have HZ2 := Lib.hid HB2.out.size; clear hown2 hg2 hat2 hbel2 hl2)
          | (at_builtin; refine wpList_spreadN rfl _ _ _ rfl 9 _ 1 16 Try.underlying25 infoS rfl (by decide) (by decide) rfl w.heap.size (fun k => k < w.heap.size) _ [] rfl HO0.out (l.drop j) (l.length - j) (by simp) _ _ HR1.out rfl (by simp) (by first | (simp; done) | (simp; omega)) ?_; intro v1 w1 hown1 hg1 hat1 hbel1; obtain ⟨A1, c1, rfl, hs1⟩ := (show Own Kn.str 9 w.heap.size (fun _ => False) w1 v1 ([] ++ l.drop j) from hown1).sl; have HS1 := Lib.hid hs1.bound; have hl1 : (([] : List ByteArray) ++ l.drop j).length = l.length - j := (by simp); rw [hl1]; have HB1 := Lib.hid (hbel1 w ((Below.refl _ _).alloc (Nat.le_refl _) _)); have HOL := Lib.hid (Own.lit0 Kn.str 9 w1.heap.size (fun k => k < w1.heap.size) w1 (Nat.le_refl _)); have HR2 := Lib.hid (putRow2 H.out HB1.out j); clear hown1 hg1 hat1 hbel1 hs1 hl1))
        go_ret
        obtain ⟨A4, c4, rfl, hs4⟩ := (show Own Kn.str 9 w1.heap.size (fun _ => False) w4 v4 _ from HO4.out).sl
        exact ⟨A4, c4, _, rfl, hs4.mono (fun k hk => .inr (hk.elim False.elim (fun h => Nat.le_trans HB1.out.size h))), HPUT.out, bthen HB1.out HB4.out⟩
    · obtain rfl : j = l.length := by omega
      have HPUT := Lib.hid (putL_rise (s := s) HR.out hlow.out (fun x hx => by simp at hx))
      rw [List.drop_length] at HPUT
      clear HCUT
      by_cases hcj : c = l.length
      · go_wp2_with (first
        | (at_builtin; refine wpList_spreadN rfl _ _ _ rfl 9 _ 1 16 Try.underlying25 infoS rfl (by decide) (by decide) rfl w1.heap.size (fun k => k < w1.heap.size) _ _ rfl HO3.out (([] : List ByteArray)) 0 (by simp) _ _ Row.nil_ rfl HZ3.out (by first | (simp; done) | (simp; omega)) ?_; intro v4 w4 hown4 hg4 hat4 hbel4; have HO4 := Lib.hid hown4; have HB4 := Lib.hid (hbel4 w1 HB3.out); clear hown4 hg4 hat4 hbel4)
        | (at_builtin; refine wpList_pushH (W := w2) rfl _ _ _ rfl 9 _ 1 16 Try.underlying25 infoS rfl (by decide) (by decide) rfl w1.heap.size (fun k => k < w1.heap.size) _ _ rfl HO2.out s [.string s] rfl w2.heap.size rfl rfl HZ2.out (by first | (simp; done) | (simp; omega)) ?_; intro v3 w3 hown3 hg3 hat3 hbel3; obtain ⟨A3, c3, rfl, _⟩ := hown3.sl; have hl3 : (([] ++ l.take l.length) ++ [s]).length = l.length + 1 := (by first | (simp; done) | (simp; omega)); rw [hl3] at hown3 hat3 ⊢; have HB3 := Lib.hid (hbel3 w1 HB2.out); have HZ3 := Lib.hid HB3.out.size; have HO3 := Lib.hid hown3; clear hown3 hg3 hat3 hbel3 hl3)
        | (at_builtin; refine wpList_spreadN (W := w1.alloc (.cells #[] 9)) rfl _ _ _ rfl 9 _ 1 16 Try.underlying25 infoS rfl (by decide) (by decide) rfl w1.heap.size (fun k => k < w1.heap.size) _ [] rfl HOL.out (l.take l.length) l.length HTJ.out _ _ HR2.out rfl (by simp) (by first | (simp; done) | (simp; omega)) ?_; intro v2 w2 hown2 hg2 hat2 hbel2; obtain ⟨A2, c2, rfl, _⟩ := hown2.sl; have hl2 : (([] : List ByteArray) ++ l.take l.length).length = l.length := HTJ.out; rw [hl2] at hown2 hat2 ⊢; have HO2 := Lib.hid hown2; have HB2 := Lib.hid (hbel2 w1 ((Below.refl _ _).alloc (Nat.le_refl _) _)); have HZ2 := Lib.hid HB2.out.size; clear hown2 hg2 hat2 hbel2 hl2)
        | (at_builtin; refine wpList_spreadN rfl _ _ _ rfl 9 _ 1 16 Try.underlying25 infoS rfl (by decide) (by decide) rfl w.heap.size (fun k => k < w.heap.size) _ [] rfl HO0.out (([] : List ByteArray)) 0 (by simp) _ _ Row.nil_ rfl (by simp) (by first | (simp; done) | (simp; omega)) ?_; intro v1 w1 hown1 hg1 hat1 hbel1; obtain ⟨A1, c1, rfl, hs1⟩ := (show Own Kn.str 9 w.heap.size (fun _ => False) w1 v1 ([] ++ ([] : List ByteArray)) from hown1).sl; have HS1 := Lib.hid hs1.bound; have hl1 : (([] : List ByteArray) ++ ([] : List ByteArray)).length = 0 := (by simp); rw [hl1]; have HB1 := Lib.hid (hbel1 w ((Below.refl _ _).alloc (Nat.le_refl _) _)); have HOL := Lib.hid (Own.lit0 Kn.str 9 w1.heap.size (fun k => k < w1.heap.size) w1 (Nat.le_refl _)); have HR2 := Lib.hid (putRow2 H.out HB1.out l.length); clear hown1 hg1 hat1 hbel1 hs1 hl1))
        all_goals go_ret
        all_goals obtain ⟨A4, c4, rfl, hs4⟩ := (show Own Kn.str 9 w1.heap.size (fun _ => False) w4 v4 _ from HO4.out).sl
        all_goals exact ⟨A4, c4, _, rfl, hs4.mono (fun k hk => .inr (hk.elim False.elim (fun h => Nat.le_trans HB1.out.size h))), HPUT.out, bthen HB1.out HB4.out⟩
      · go_wp2_with (first
        | (at_builtin; refine wpList_spreadN rfl _ _ _ rfl 9 _ 1 16 Try.underlying25 infoS rfl (by decide) (by decide) rfl w1.heap.size (fun k => k < w1.heap.size) _ _ rfl HO3.out (([] : List ByteArray)) 0 (by simp) _ _ Row.nil_ rfl HZ3.out (by first | (simp; done) | (simp; omega)) ?_; intro v4 w4 hown4 hg4 hat4 hbel4; have HO4 := Lib.hid hown4; have HB4 := Lib.hid (hbel4 w1 HB3.out); clear hown4 hg4 hat4 hbel4)
        | (at_builtin; refine wpList_pushH (W := w2) rfl _ _ _ rfl 9 _ 1 16 Try.underlying25 infoS rfl (by decide) (by decide) rfl w1.heap.size (fun k => k < w1.heap.size) _ _ rfl HO2.out s [.string s] rfl w2.heap.size rfl rfl HZ2.out (by first | (simp; done) | (simp; omega)) ?_; intro v3 w3 hown3 hg3 hat3 hbel3; obtain ⟨A3, c3, rfl, _⟩ := hown3.sl; have hl3 : (([] ++ l.take l.length) ++ [s]).length = l.length + 1 := (by first | (simp; done) | (simp; omega)); rw [hl3] at hown3 hat3 ⊢; have HB3 := Lib.hid (hbel3 w1 HB2.out); have HZ3 := Lib.hid HB3.out.size; have HO3 := Lib.hid hown3; clear hown3 hg3 hat3 hbel3 hl3)
        | (at_builtin; refine wpList_spreadN (W := w1.alloc (.cells #[] 9)) rfl _ _ _ rfl 9 _ 1 16 Try.underlying25 infoS rfl (by decide) (by decide) rfl w1.heap.size (fun k => k < w1.heap.size) _ [] rfl HOL.out (l.take l.length) l.length HTJ.out _ _ HR2.out rfl (by simp) (by first | (simp; done) | (simp; omega)) ?_; intro v2 w2 hown2 hg2 hat2 hbel2; obtain ⟨A2, c2, rfl, _⟩ := hown2.sl; have hl2 : (([] : List ByteArray) ++ l.take l.length).length = l.length := HTJ.out; rw [hl2] at hown2 hat2 ⊢; have HO2 := Lib.hid hown2; have HB2 := Lib.hid (hbel2 w1 ((Below.refl _ _).alloc (Nat.le_refl _) _)); have HZ2 := Lib.hid HB2.out.size; clear hown2 hg2 hat2 hbel2 hl2)
        | (at_builtin; refine wpList_spreadN rfl _ _ _ rfl 9 _ 1 16 Try.underlying25 infoS rfl (by decide) (by decide) rfl w.heap.size (fun k => k < w.heap.size) _ [] rfl HO0.out (([] : List ByteArray)) 0 (by simp) _ _ Row.nil_ rfl (by simp) (by first | (simp; done) | (simp; omega)) ?_; intro v1 w1 hown1 hg1 hat1 hbel1; obtain ⟨A1, c1, rfl, hs1⟩ := (show Own Kn.str 9 w.heap.size (fun _ => False) w1 v1 ([] ++ ([] : List ByteArray)) from hown1).sl; have HS1 := Lib.hid hs1.bound; have hl1 : (([] : List ByteArray) ++ ([] : List ByteArray)).length = 0 := (by simp); rw [hl1]; have HB1 := Lib.hid (hbel1 w ((Below.refl _ _).alloc (Nat.le_refl _) _)); have HOL := Lib.hid (Own.lit0 Kn.str 9 w1.heap.size (fun k => k < w1.heap.size) w1 (Nat.le_refl _)); have HR2 := Lib.hid (putRow2 H.out HB1.out l.length); clear hown1 hg1 hat1 hbel1 hs1 hl1))
        all_goals go_ret
        all_goals obtain ⟨A4, c4, rfl, hs4⟩ := (show Own Kn.str 9 w1.heap.size (fun _ => False) w4 v4 _ from HO4.out).sl
        all_goals exact ⟨A4, c4, _, rfl, hs4.mono (fun k hk => .inr (hk.elim False.elim (fun h => Nat.le_trans HB1.out.size h))), HPUT.out, bthen HB1.out HB4.out⟩
end Go.Proofs.Ythinieokpgmfoaa
