/- registrarref04.Put: rising texts with one more. All streams' records together are all records: plain facts. IndexWhole: the law's walk. The closed facts that every row of this seat leans on, each proved for itself: the order's text is long, so it is read once as a list of signs. The row of the law IndexWhole, over its walk: for every input the call returns true and each argument reads afterwards as it read before. No conditions. -/
import Derived.Test.YtigejdnjdajbhaaBundA
import Derived.Deep.DeepFit
import Derived.Sort.Walk0
import Derived.Test.YtigejdnjdajbhaaBundJ
import Derived.Test.YtigejdnjdajbhaaBundR
import Derived.Deep.CutBlock
import Derived.Test.YtigejdnjdajbhaaRows
import Derived.JoinedOf
import Derived.KernelRfl
import Derived.WalkKit
import Derived.ProofKit
import Derived.OpenShut
import Derived.ShutString
import Derived.ChangeOld
import Derived.Below
import Derived.SizedLaws
set_option linter.unusedVariables false
set_option linter.unusedSimpArgs false
namespace Go.Proofs.Ytigejdnjdajbhaa
open Go.RowKit

theorem infoS : (Try.prog.info? 9).map (fun i => (i.zero, i.size, i.bytes)) = some (some (.string ByteArray.empty), 1, 16) := by kernel_rfl
/-- Texts with one more, each once. -/
structure PutR (l : List ByteArray) (s : ByteArray) (l' : List ByteArray) : Prop where
  rise : l'.Pairwise ltB
  mem : ∀ x, x ∈ l' ↔ x ∈ l ∨ x = s
  len : l'.length ≤ l.length + 1

theorem putL_rise {l : List ByteArray} (hr : l.Pairwise ltB) {s : ByteArray} {j : Nat} (hlow : ∀ x ∈ l.take j, ltB x s) (hhi : ∀ x ∈ l.drop j, ltB s x) : PutR l s ([] ++ l.take j ++ [s] ++ l.drop j) := by
  have e : l.take j ++ l.drop j = l := List.take_append_drop j l
  refine ⟨?_, fun x => ?_, ?_⟩
  · rw [List.nil_append, List.append_assoc, List.pairwise_append]
    rw [← e, List.pairwise_append] at hr
    refine ⟨hr.1, ?_, fun x hx y hy => ?_⟩
    · rw [List.singleton_append, List.pairwise_cons]; exact ⟨hhi, hr.2.1⟩
    · rcases List.mem_append.1 hy with hy | hy
      · rw [List.mem_singleton.1 hy]; exact hlow x hx
      · exact hr.2.2 x hx y hy
  · have : x ∈ l ↔ x ∈ l.take j ∨ x ∈ l.drop j := by rw [← List.mem_append, e]
    rw [this]; simp only [List.nil_append, List.mem_append, List.mem_singleton]
    constructor
    · rintro ((h | h) | h) <;> simp [h]
    · rintro ((h | h) | h) <;> simp [h]
  · have := congrArg List.length e
    simp only [List.length_append, List.nil_append, List.length_singleton] at this ⊢
    omega
theorem less_eq (x y : ByteArray) : Op.bytesLess x.toList y.toList = decide (ltB x y) := by rw [Lib.toList_data, Lib.toList_data, bytesLess_eq]; rfl
theorem putRow2 {ok : Nat → Prop} {A : Option Addr} {c : Nat} {l : List ByteArray} {w w1 : World} (h : Sl Kn.str ok w A c l) (hb : Below w.heap.size w w1) (j : Nat) :
    Row Kn.str (fun k => k < w1.heap.size ∧ some k ≠ (Value.slice (some ⟨w1.heap.size, 0, none⟩) 0 0).ownBlock) (w1.alloc (.cells #[] 9)) A (l.take j) :=
  ((h.2.2.bound.below (hb.alloc hb.size _)).mono (fun k hk => ⟨Nat.lt_of_lt_of_le hk.2 hb.size, fun e => by have := hb.size; have h2 := hk.2; simp [Value.ownBlock] at e; omega⟩)).take j
theorem putRow4 {ok : Nat → Prop} {A : Option Addr} {c : Nat} {l : List ByteArray} {w1 w3 : World} (h : Sl Kn.str (fun k => ok k ∧ k < w1.heap.size) w1 A c ([] ++ l)) (hb : Below w1.heap.size w1 w3) {v : Value} (hv : ∀ k, v.ownBlock = some k → w1.heap.size ≤ k) :
    Row Kn.str (fun k => k < w1.heap.size ∧ some k ≠ v.ownBlock) w3 A l :=
  (h.2.2.below hb).mono (fun k hk => ⟨hk.2, fun e => by have := hv k e.symm; omega⟩)

set_option maxHeartbeats 2000000 in
theorem Put_any {ok : Nat → Prop} {A : Option Addr} {c : Nat} {l : List ByteArray} {w : World} (h : Sl Kn.str ok w A c l) (hl : l.length ≤ 1000000) (hr : l.Pairwise ltB) (s : ByteArray) :
    Calls Try.prog 21 #[.slice A l.length c, .string s] w fun r w' => ∃ A' c' l', r = .returned (.slice A' l'.length c') ∧ Sl Kn.str (fun k => ok k ∨ w.heap.size ≤ k) w' A' c' l' ∧ PutR l s l' ∧ Below w.heap.size w w' := by
  have HR := Lib.hid hr
  have H := Lib.hid h
  have hc1 := h.1
  have hc2 := h.2.1
  unfold maxLen at hc2
  clear hr h
  have HO0 := Lib.hid (Own.lit0 Kn.str 9 w.heap.size (fun k => k < w.heap.size) w (Nat.le_refl _))
  go_enter Try.func21, Try.ntmps21
  go_wp2_with fail
  go_loop [5] (fun i => ∃ j : Nat, j ≤ l.length ∧ i = .int .i64 j ∧ Hid (∀ x ∈ l.take j, ltB x s)) (fun i => l.length - (intOf i).toNat)
  case atStart => exact ⟨0, Nat.zero_le _, rfl, Lib.hid (by simp)⟩
  case round =>
    obtain ⟨j, hj, rfl, hlow⟩ := hrel
    have HTJ := Lib.hid (show (l.take j).length = j by rw [List.length_take]; omega)
    have HCUT := Lib.hid (show Row Kn.str (fun k => k < w.heap.size ∧ some k ≠ (Value.slice (some ⟨w.heap.size, 0, none⟩) 0 0).ownBlock) (w.alloc (.cells #[] 9)) (if c = j then A else A.map (·.add (j * 1))) (l.drop j) from
      Row.cut ((H.out.2.2.bound.below ((Below.refl _ _).alloc (Nat.le_refl _) _)).mono (fun k hk => ⟨hk.2, fun e => by have h2 := hk.2; simp [Value.ownBlock] at e; omega⟩)) hc1)
    by_cases hlt : j < l.length
    · obtain ⟨ad, rfl, hx⟩ := row_str_at H.out.2.2 hlt
      have HR1 := HCUT.out
      rw [if_neg (by omega), Nat.mul_one] at HR1
      have HR1 := Lib.hid (show Row Kn.str _ _ (some (ad.add j)) (l.drop j) from HR1)
      have hye : l[j]? = some l[j] := List.getElem?_eq_getElem hlt
      have hdr : l.drop j = l[j] :: l.drop (j + 1) := List.drop_eq_getElem_cons hlt
      have htk : l.take (j + 1) = l.take j ++ [l[j]] := List.take_succ_eq_append_getElem hlt
      generalize l[j] = y at *
      have HY := Lib.hid hye
      have HDR := Lib.hid hdr
      have HTK := Lib.hid htk
      clear hye hdr htk HCUT
      have hb := less_eq y s
      have hq := strEqL y s
      rcases ltB_tri y s with hys | hys | hys
      · rw [decide_eq_true hys] at hb
        have HYS := Lib.hid hys
        clear hys hq
        go_wp2_with fail
        go_round
        case rel => exact ⟨j + 1, by omega, by go_num, Lib.hid (fun x hx => by rw [HTK.out] at hx; exact (List.mem_append.1 hx).elim (hlow.out x) (fun h => by rw [List.mem_singleton.1 h]; exact HYS.out))⟩
        case measure => simp [intOf]; omega
      · subst hys
        rw [decide_eq_false (ltB_irrefl y)] at hb
        rw [decide_eq_true rfl] at hq
        go_wp2_with fail
        go_ret
        exact ⟨some ad, c, l, rfl, H.out.mono (fun k hk => .inl hk), ⟨HR.out, fun x => ⟨.inl, fun h => h.elim id (fun e => e ▸ List.mem_of_getElem? HY.out)⟩, by omega⟩, Below.refl _ _⟩
      · have hn1 : ¬ ltB y s := fun h => ltB_irrefl _ (ltB_trans h hys)
        have hn2 : ¬ y = s := fun e => ltB_irrefl s (by rw [e] at hys; exact hys)
        rw [decide_eq_false hn1] at hb
        rw [decide_eq_false hn2] at hq
        have HPUT := Lib.hid (putL_rise HR.out hlow.out (fun x hx => by
          have hp := HR.out
          rw [← List.take_append_drop j l, List.pairwise_append, HDR.out, List.pairwise_cons] at hp
          rw [HDR.out] at hx
          rcases List.mem_cons.1 hx with rfl | hx
          · exact hys
          · exact ltB_trans hys (hp.2.1.1 x hx)))
        clear hn1 hn2 hys
        go_wp2_with (first
          | (at_builtin; refine wpList_spreadN rfl _ _ _ rfl 9 _ 1 16 Try.underlying39 infoS rfl (by decide) (by decide) rfl w1.heap.size (fun k => k < w1.heap.size) _ _ rfl HO3.out (l.drop j) (l.length - j) (by simp) _ _ HR4.out rfl HZ3.out (by first | (simp; done) | (simp; omega)) ?_; intro v4 w4 hown4 hg4 hat4 hbel4; have HO4 := Lib.hid hown4; have HB4 := Lib.hid (hbel4 w1 HB3.out); clear hown4 hg4 hat4 hbel4)
          | (at_builtin; refine wpList_pushH (W := w2) rfl _ _ _ rfl 9 _ 1 16 Try.underlying39 infoS rfl (by decide) (by decide) rfl w1.heap.size (fun k => k < w1.heap.size) _ _ rfl HO2.out s [.string s] rfl w2.heap.size rfl rfl HZ2.out (by first | (simp; done) | (simp; omega)) ?_; intro v3 w3 hown3 hg3 hat3 hbel3; obtain ⟨A3, c3, rfl, _⟩ := hown3.sl; have hl3 : (([] ++ l.take j) ++ [s]).length = j + 1 := (by first | (simp; done) | (simp; omega)); rw [hl3] at hown3 hat3 ⊢; have HB3 := Lib.hid (hbel3 w1 HB2.out); have HZ3 := Lib.hid HB3.out.size; have HR4 := Lib.hid (putRow4 HS1.out HB3.out (v := .slice A3 (j + 1) c3) (fun k hk => hown3.base_le k hk)); have HO3 := Lib.hid hown3; clear hown3 hg3 hat3 hbel3 hl3)
          | (at_builtin; refine wpList_spreadN (W := w1.alloc (.cells #[] 9)) rfl _ _ _ rfl 9 _ 1 16 Try.underlying39 infoS rfl (by decide) (by decide) rfl w1.heap.size (fun k => k < w1.heap.size) _ [] rfl HOL.out (l.take j) j HTJ.out _ _ HR2.out rfl (by simp) (by first | (simp; done) | (simp; omega)) ?_; intro v2 w2 hown2 hg2 hat2 hbel2; obtain ⟨A2, c2, rfl, _⟩ := hown2.sl; have hl2 : (([] : List ByteArray) ++ l.take j).length = j := HTJ.out; rw [hl2] at hown2 hat2 ⊢; have HO2 := Lib.hid hown2; have HB2 := Lib.hid (hbel2 w1 ((Below.refl _ _).alloc (Nat.le_refl _) _)); have HZ2 := Lib.hid HB2.out.size; clear hown2 hg2 hat2 hbel2 hl2)
          | (at_builtin; refine wpList_spreadN rfl _ _ _ rfl 9 _ 1 16 Try.underlying39 infoS rfl (by decide) (by decide) rfl w.heap.size (fun k => k < w.heap.size) _ [] rfl HO0.out (l.drop j) (l.length - j) (by simp) _ _ HR1.out rfl (by simp) (by first | (simp; done) | (simp; omega)) ?_; intro v1 w1 hown1 hg1 hat1 hbel1; obtain ⟨A1, c1, rfl, hs1⟩ := (show Own Kn.str 9 w.heap.size (fun _ => False) w1 v1 ([] ++ l.drop j) from hown1).sl; have HS1 := Lib.hid hs1.bound; have hl1 : (([] : List ByteArray) ++ l.drop j).length = l.length - j := (by simp); rw [hl1]; have HB1 := Lib.hid (hbel1 w ((Below.refl _ _).alloc (Nat.le_refl _) _)); have HOL := Lib.hid (Own.lit0 Kn.str 9 w1.heap.size (fun k => k < w1.heap.size) w1 (Nat.le_refl _)); have HR2 := Lib.hid (putRow2 H.out HB1.out j); clear hown1 hg1 hat1 hbel1 hs1 hl1))
        go_ret
        obtain ⟨A4, c4, rfl, hs4⟩ := (show Own Kn.str 9 w1.heap.size (fun _ => False) w4 v4 _ from HO4.out).sl
        exact ⟨A4, c4, _, rfl, hs4.mono (fun k hk => .inr (hk.elim False.elim (fun h => Nat.le_trans HB1.out.size h))), HPUT.out, bthen HB1.out HB4.out⟩
    · obtain rfl : j = l.length := by omega
      have HPUT := Lib.hid (putL_rise (s := s) HR.out hlow.out (fun x hx => by simp at hx))
      rw [List.drop_length] at HPUT
      clear HCUT
      by_cases hcj : c = l.length
      · go_wp2_with (first
        | (at_builtin; refine wpList_spreadN rfl _ _ _ rfl 9 _ 1 16 Try.underlying39 infoS rfl (by decide) (by decide) rfl w1.heap.size (fun k => k < w1.heap.size) _ _ rfl HO3.out (([] : List ByteArray)) 0 (by simp) _ _ Row.nil_ rfl HZ3.out (by first | (simp; done) | (simp; omega)) ?_; intro v4 w4 hown4 hg4 hat4 hbel4; have HO4 := Lib.hid hown4; have HB4 := Lib.hid (hbel4 w1 HB3.out); clear hown4 hg4 hat4 hbel4)
        | (at_builtin; refine wpList_pushH (W := w2) rfl _ _ _ rfl 9 _ 1 16 Try.underlying39 infoS rfl (by decide) (by decide) rfl w1.heap.size (fun k => k < w1.heap.size) _ _ rfl HO2.out s [.string s] rfl w2.heap.size rfl rfl HZ2.out (by first | (simp; done) | (simp; omega)) ?_; intro v3 w3 hown3 hg3 hat3 hbel3; obtain ⟨A3, c3, rfl, _⟩ := hown3.sl; have hl3 : (([] ++ l.take l.length) ++ [s]).length = l.length + 1 := (by first | (simp; done) | (simp; omega)); rw [hl3] at hown3 hat3 ⊢; have HB3 := Lib.hid (hbel3 w1 HB2.out); have HZ3 := Lib.hid HB3.out.size; have HO3 := Lib.hid hown3; clear hown3 hg3 hat3 hbel3 hl3)
        | (at_builtin; refine wpList_spreadN (W := w1.alloc (.cells #[] 9)) rfl _ _ _ rfl 9 _ 1 16 Try.underlying39 infoS rfl (by decide) (by decide) rfl w1.heap.size (fun k => k < w1.heap.size) _ [] rfl HOL.out (l.take l.length) l.length HTJ.out _ _ HR2.out rfl (by simp) (by first | (simp; done) | (simp; omega)) ?_; intro v2 w2 hown2 hg2 hat2 hbel2; obtain ⟨A2, c2, rfl, _⟩ := hown2.sl; have hl2 : (([] : List ByteArray) ++ l.take l.length).length = l.length := HTJ.out; rw [hl2] at hown2 hat2 ⊢; have HO2 := Lib.hid hown2; have HB2 := Lib.hid (hbel2 w1 ((Below.refl _ _).alloc (Nat.le_refl _) _)); have HZ2 := Lib.hid HB2.out.size; clear hown2 hg2 hat2 hbel2 hl2)
        | (at_builtin; refine wpList_spreadN rfl _ _ _ rfl 9 _ 1 16 Try.underlying39 infoS rfl (by decide) (by decide) rfl w.heap.size (fun k => k < w.heap.size) _ [] rfl HO0.out (([] : List ByteArray)) 0 (by simp) _ _ Row.nil_ rfl (by simp) (by first | (simp; done) | (simp; omega)) ?_; intro v1 w1 hown1 hg1 hat1 hbel1; obtain ⟨A1, c1, rfl, hs1⟩ := (show Own Kn.str 9 w.heap.size (fun _ => False) w1 v1 ([] ++ ([] : List ByteArray)) from hown1).sl; have HS1 := Lib.hid hs1.bound; have hl1 : (([] : List ByteArray) ++ ([] : List ByteArray)).length = 0 := (by simp); rw [hl1]; have HB1 := Lib.hid (hbel1 w ((Below.refl _ _).alloc (Nat.le_refl _) _)); have HOL := Lib.hid (Own.lit0 Kn.str 9 w1.heap.size (fun k => k < w1.heap.size) w1 (Nat.le_refl _)); have HR2 := Lib.hid (putRow2 H.out HB1.out l.length); clear hown1 hg1 hat1 hbel1 hs1 hl1))
        all_goals go_ret
        all_goals obtain ⟨A4, c4, rfl, hs4⟩ := (show Own Kn.str 9 w1.heap.size (fun _ => False) w4 v4 _ from HO4.out).sl
        all_goals exact ⟨A4, c4, _, rfl, hs4.mono (fun k hk => .inr (hk.elim False.elim (fun h => Nat.le_trans HB1.out.size h))), HPUT.out, bthen HB1.out HB4.out⟩
      · go_wp2_with (first
        | (at_builtin; refine wpList_spreadN rfl _ _ _ rfl 9 _ 1 16 Try.underlying39 infoS rfl (by decide) (by decide) rfl w1.heap.size (fun k => k < w1.heap.size) _ _ rfl HO3.out (([] : List ByteArray)) 0 (by simp) _ _ Row.nil_ rfl HZ3.out (by first | (simp; done) | (simp; omega)) ?_; intro v4 w4 hown4 hg4 hat4 hbel4; have HO4 := Lib.hid hown4; have HB4 := Lib.hid (hbel4 w1 HB3.out); clear hown4 hg4 hat4 hbel4)
        | (at_builtin; refine wpList_pushH (W := w2) rfl _ _ _ rfl 9 _ 1 16 Try.underlying39 infoS rfl (by decide) (by decide) rfl w1.heap.size (fun k => k < w1.heap.size) _ _ rfl HO2.out s [.string s] rfl w2.heap.size rfl rfl HZ2.out (by first | (simp; done) | (simp; omega)) ?_; intro v3 w3 hown3 hg3 hat3 hbel3; obtain ⟨A3, c3, rfl, _⟩ := hown3.sl; have hl3 : (([] ++ l.take l.length) ++ [s]).length = l.length + 1 := (by first | (simp; done) | (simp; omega)); rw [hl3] at hown3 hat3 ⊢; have HB3 := Lib.hid (hbel3 w1 HB2.out); have HZ3 := Lib.hid HB3.out.size; have HO3 := Lib.hid hown3; clear hown3 hg3 hat3 hbel3 hl3)
        | (at_builtin; refine wpList_spreadN (W := w1.alloc (.cells #[] 9)) rfl _ _ _ rfl 9 _ 1 16 Try.underlying39 infoS rfl (by decide) (by decide) rfl w1.heap.size (fun k => k < w1.heap.size) _ [] rfl HOL.out (l.take l.length) l.length HTJ.out _ _ HR2.out rfl (by simp) (by first | (simp; done) | (simp; omega)) ?_; intro v2 w2 hown2 hg2 hat2 hbel2; obtain ⟨A2, c2, rfl, _⟩ := hown2.sl; have hl2 : (([] : List ByteArray) ++ l.take l.length).length = l.length := HTJ.out; rw [hl2] at hown2 hat2 ⊢; have HO2 := Lib.hid hown2; have HB2 := Lib.hid (hbel2 w1 ((Below.refl _ _).alloc (Nat.le_refl _) _)); have HZ2 := Lib.hid HB2.out.size; clear hown2 hg2 hat2 hbel2 hl2)
        | (at_builtin; refine wpList_spreadN rfl _ _ _ rfl 9 _ 1 16 Try.underlying39 infoS rfl (by decide) (by decide) rfl w.heap.size (fun k => k < w.heap.size) _ [] rfl HO0.out (([] : List ByteArray)) 0 (by simp) _ _ Row.nil_ rfl (by simp) (by first | (simp; done) | (simp; omega)) ?_; intro v1 w1 hown1 hg1 hat1 hbel1; obtain ⟨A1, c1, rfl, hs1⟩ := (show Own Kn.str 9 w.heap.size (fun _ => False) w1 v1 ([] ++ ([] : List ByteArray)) from hown1).sl; have HS1 := Lib.hid hs1.bound; have hl1 : (([] : List ByteArray) ++ ([] : List ByteArray)).length = 0 := (by simp); rw [hl1]; have HB1 := Lib.hid (hbel1 w ((Below.refl _ _).alloc (Nat.le_refl _) _)); have HOL := Lib.hid (Own.lit0 Kn.str 9 w1.heap.size (fun k => k < w1.heap.size) w1 (Nat.le_refl _)); have HR2 := Lib.hid (putRow2 H.out HB1.out l.length); clear hown1 hg1 hat1 hbel1 hs1 hl1))
        all_goals go_ret
        all_goals obtain ⟨A4, c4, rfl, hs4⟩ := (show Own Kn.str 9 w1.heap.size (fun _ => False) w4 v4 _ from HO4.out).sl
        all_goals exact ⟨A4, c4, _, rfl, hs4.mono (fun k hk => .inr (hk.elim False.elim (fun h => Nat.le_trans HB1.out.size h))), HPUT.out, bthen HB1.out HB4.out⟩
end Go.Proofs.Ytigejdnjdajbhaa

namespace Go.Proofs.Ytigejdnjdajbhaa

/-- The streams' numbers of records together. -/
def sumC (es : List Event) (ns : List ByteArray) : Nat := (ns.map (cntS es)).sum
theorem sumC_snoc (es : List Event) (ns : List ByteArray) (s : ByteArray) : sumC es (ns ++ [s]) = sumC es ns + cntS es s := by simp [sumC]
theorem cntS_cons (e : Event) (es : List Event) (s : ByteArray) : cntS (e :: es) s = (if e.stream = s then 1 else 0) + cntS es s := by
  unfold cntS
  rw [List.filter_cons]
  by_cases h : e.stream = s
  · simp [h]; omega
  · simp [h]
theorem sumC_cons (e : Event) (es : List Event) : ∀ (ns : List ByteArray), sumC (e :: es) ns = (ns.filter (fun s => decide (e.stream = s))).length + sumC es ns
  | [] => rfl
  | s :: ns => by
    have ih := sumC_cons e es ns
    unfold sumC at ih ⊢
    simp only [List.map_cons, List.sum_cons, List.filter_cons, cntS_cons]
    rw [show (ns.map (cntS (e :: es))).sum = _ from ih]
    by_cases h : e.stream = s
    · simp [h]; omega
    · simp [h]; omega
theorem one_of {ns : List ByteArray} (hr : ns.Pairwise ltB) {s : ByteArray} (h : s ∈ ns) : (ns.filter (fun x => decide (s = x))).length = 1 := by
  induction ns with
  | nil => cases h
  | cons x ns ih =>
    obtain ⟨h1, h2⟩ := List.pairwise_cons.1 hr
    rw [List.filter_cons]
    by_cases hx : s = x
    · subst hx
      have : ns.filter (fun y => decide (s = y)) = [] := by
        rw [List.filter_eq_nil_iff]
        intro y hy he
        have := h1 y hy
        rw [of_decide_eq_true he] at this
        exact ltB_irrefl _ this
      simp [this]
    · have h3 : s ∈ ns := (List.mem_cons.1 h).resolve_left hx
      simp [hx, ih h2 h3]
theorem sumC_nil : ∀ (ns : List ByteArray), sumC [] ns = 0
  | [] => rfl
  | s :: ns => by
    have ih := sumC_nil ns
    unfold sumC at ih ⊢
    rw [List.map_cons, List.sum_cons, ih]; rfl
theorem sumC_all {ns : List ByteArray} (hr : ns.Pairwise ltB) : ∀ {es : List Event}, (∀ e ∈ es, e.stream ∈ ns) → sumC es ns = es.length
  | [], _ => sumC_nil ns
  | e :: es, h => by
    rw [sumC_cons, one_of hr (h e List.mem_cons_self), sumC_all hr (fun x hx => h x (List.mem_cons_of_mem _ hx)), List.length_cons]
    omega
theorem sumC_le (es : List Event) (ns : List ByteArray) (k : Nat) : sumC es (ns.take k) ≤ sumC es ns := by
  conv => rhs; rw [← List.take_append_drop k ns]
  unfold sumC
  rw [List.map_append, List.sum_append]
  omega
/-- Names, rising, of all streams of some records. -/
structure Nam (es : List Event) (rs : List Rec) (ns : List ByteArray) : Prop where
  rise : ns.Pairwise ltB
  mem : ∀ e ∈ es, e.stream ∈ ns
  mem2 : ∀ r ∈ rs, r.ev.stream ∈ ns
  size : ∀ s ∈ ns, s.size ≤ maxLen
  len : ns.length ≤ es.length + rs.length
theorem Nam.start : Nam [] [] [] := ⟨List.Pairwise.nil, by simp, by simp, by simp, by simp⟩
theorem Nam.put {es : List Event} {rs : List Rec} {ns ns' : List ByteArray} (h : Nam es rs ns) {r : Rec} (hp : PutR ns r.ev.stream ns') (hr : EvIn r.ev) : Nam es (rs ++ [r]) ns' := by
  refine ⟨hp.rise, fun e he => (hp.mem _).2 (.inl (h.mem e he)), fun x hx => (hp.mem _).2 ?_, fun s hs => ?_, ?_⟩
  · rcases List.mem_append.1 hx with hx | hx
    · exact .inl (h.mem2 x hx)
    · rw [List.mem_singleton.1 hx]; exact .inr rfl
  · rcases (hp.mem s).1 hs with h1 | h1
    · exact h.size s h1
    · rw [h1]; exact hr.st
  · have := hp.len; have := h.len; simp; omega
theorem Nam.done {es : List Event} {after : Int} {bs : List Event} {ns : List ByteArray} (h : Nam es (addRs es after bs) ns) : Nam (addTo es after bs) [] ns := by
  refine ⟨h.rise, fun e he => ?_, by simp, h.size, ?_⟩
  · unfold addTo at he
    have h2 := h.mem2
    unfold addRs at h2
    by_cases hz : addErr es after bs = 0
    · rw [if_pos hz] at he h2
      rcases List.mem_append.1 he with he | he
      · exact h.mem e he
      · have : e ∈ (recsFrom es bs).map (·.ev) := by rw [recsFrom_ev]; exact he
        obtain ⟨r, hr, rfl⟩ := List.mem_map.1 this
        exact h2 r hr
    · rw [if_neg hz] at he
      exact h.mem e he
  · have h1 := h.len
    rw [addRs_len] at h1
    unfold addTo
    by_cases hz : addErr es after bs = 0
    · rw [if_pos hz] at h1 ⊢; simp; omega
    · rw [if_neg hz] at h1 ⊢; simp; omega
/-- A query of all. -/
def qAll : List Clause := [⟨[], []⟩]
theorem matchM_all (e : Event) : matchM qAll e = true := rfl
theorem qryR_qAll (es : List Event) : qryR es qAll es.length = recsOf es := by
  rw [qryR_all es qAll (Int.le_refl _)]
  exact List.filter_eq_self.2 (fun r _ => matchM_all r.ev)
theorem sinceR_qAll (es : List Event) (a : Int) : sinceR es qAll a = (decide (a < (es.length : Int)) && decide (0 < es.length)) := by
  unfold sinceR
  rw [Bool.eq_iff_iff, List.any_eq_true, Bool.and_eq_true, decide_eq_true_eq, decide_eq_true_eq]
  constructor
  · rintro ⟨r, hr, h⟩
    rw [matchM_all, Bool.true_and, decide_eq_true_eq] at h
    have := recsOf_mem hr
    exact ⟨by omega, by omega⟩
  · rintro ⟨h1, h2⟩
    have hl : es.length - 1 < (recsOf es).length := by rw [recsOf_len]; omega
    refine ⟨(recsOf es)[es.length - 1], List.getElem_mem hl, ?_⟩
    have := recsOf_pos (List.getElem?_eq_getElem hl)
    rw [matchM_all, Bool.true_and, decide_eq_true_eq]
    omega
theorem qryR_nil (es : List Event) (x : Int) : qryR es [] x = [] := by
  unfold qryR
  rw [List.filter_eq_nil_iff]
  intro r _ h
  simp [matchM] at h
end Go.Proofs.Ytigejdnjdajbhaa

namespace Go.Proofs.Ytigejdnjdajbhaa
open Go.RowKit Go.Maps

/-- The law's first loop. -/
structure Wh (w wr : World) (B : Six) (es : List Event) (N : Option Addr) (cn : Nat) (ns : List ByteArray) : Prop where
  li : Li w wr B es
  nr : Sl Kn.str (fun k => ¬ B.has k) wr N cn ns
  nam : Nam es [] ns
  bel : Below w.heap.size w wr
set_option maxHeartbeats 8000000 in
set_option maxRecDepth 100000 in
theorem indexWhole_walk (w : World) (A : Option Addr) (c : Nat) (l : List Bt) (h : Sl kBatch (fun _ => True) w A c l) (hg : ∀ x ∈ l, goodBatch x) (at_ : Int) (hat : (Lit.int .i64 at_).wf = true) :
    Calls Try.prog 6 #[.slice A l.length c, .int .i64 at_] w fun r w' => r = .returned (.bool true) ∧ Below w.heap.size w w' := by
  have HL0 := Lib.hid (show Sl kBatch (fun k => k < w.heap.size) w A c l from h.bound.mono (fun _ h => h.2))
  have HG := Lib.hid hg
  have C1 := Lib.hid (shown14_any w)
  have hc2 := h.2.1
  unfold maxLen at hc2
  have hc1 := h.1
  clear h hg
  go_enter Try.func6, Try.ntmps6
  go_upto_block 0 with (first
    | (go_at_call 11; go_fit C2.out; rintro r w2 ⟨B, rfl, h2, hb2⟩; have H2 := Lib.hid h2; have HB2 := Lib.hid (bthen HB1.out hb2); clear h2 hb2)
    | (go_at_call 10; go_fit C1.out; rintro r w1 ⟨rfl, hb1⟩; have HB1 := Lib.hid hb1; have C2 := Lib.hid (lNew w hb1.size); clear hb1))
  have HA2 := Lib.hid (show Below w2.heap.size w2 (w2.alloc (.cells #[] 9)) from (Below.refl _ _).alloc (Nat.le_refl _) _)
  have HS := Lib.hid (show Wh w (w2.alloc (.cells #[] 9)) B [] (some ⟨w2.heap.size, 0, none⟩) 0 [] from ⟨H2.out.below HA2.out, ⟨Nat.le_refl _, by simp [maxLen], Row.nil_⟩, Nam.start, bthen HB2.out HA2.out⟩)
  go_cut [7, 8] (fun v _ wx => ∃ es N cn ns, es.length ≤ 120 ∧ v = .slice N ns.length cn ∧ Wh w wx B es N cn ns)
  case first =>
    go_wp2_with fail
    go_loopw [7, 8] (fun v i wr => ∃ (k : Nat) (N : Option Addr) (cn : Nat) (ns : List ByteArray), k ≤ l.length ∧ k ≤ 15 ∧ i = .int .i64 k ∧ v = .slice N ns.length cn ∧ Wh w wr B (growB [] (l.take k)) N cn ns) (fun _ i _ => l.length - (intOf i).toNat)
    case atStart => exact ⟨0, _, _, [], Nat.zero_le _, Nat.zero_le _, rfl, rfl, HS.out⟩
    case round =>
      clear HS H2 HB2 HA2 C1 C2 HB1
      obtain ⟨k, N, cn, ns, hk, hk15, rfl, rfl, hwh⟩ := hrel
      have HWH := Lib.hid hwh
      have hlen : (growB [] (l.take k)).length ≤ 120 := by
        have := growB_len [] (l.take k)
        rw [List.length_take] at this
        simp at this
        omega
      by_cases hlt : k < l.length ∧ k < 15
      · obtain ⟨hlt, h15⟩ := hlt
        have hrows : Sl kBatch (fun k => k < w.heap.size) wr A c l := HL0.out.stay hwh.bel.size (fun j hj _ => hwh.bel.block j hj)
        obtain ⟨ad, Q, cq, rfl, x0, x1, hQ⟩ := row_batch_at hrows.2.2 hlt
        have hin := few8_in (HG.out _ (List.getElem_mem hlt)).2
        have HST := Lib.hid (show growB [] (l.take (k + 1)) = addTo (growB [] (l.take k)) (growB [] (l.take k)).length (few8 (l[k]).2) by rw [List.take_succ_eq_append_getElem hlt, growB_snoc])
        generalize l[k] = q at x0 x1 hQ hin HST
        generalize growB [] (l.take k) = es at hlen HST HWH hwh
        have HIN := Lib.hid hin
        have CF := Lib.hid (few14_any (a := q.1) (fun j => j < w.heap.size) hQ)
        have i1 : (0 : Int) ≤ (k : Int) := Int.natCast_nonneg _
        have i2 : (k : Int) < (l.length : Int) := by omega
        have f8 := few8_len q.2
        clear hwh hrows hQ hin
        go_upto_region 10 with (go_at_call 12; go_fit CF.out; rintro r w4 ⟨A4, c4, rfl, h4, hb4⟩; have H4 := Lib.hid h4; have HB4 := Lib.hid hb4; clear h4 hb4)
        have HA5 := Lib.hid (fun (o : Obj) => show Below w4.heap.size w4 (w4.alloc o) from (Below.refl _ _).alloc (Nat.le_refl _) o)
        have CL := Lib.hid (fun (o : Obj) => iLast (((HWH.out.li.below HB4.out).below (HA5.out o)).ix))
        have CA : Hid (∀ o : Obj, Calls Try.prog 14 #[.pointer (some ⟨B.b, 0, none⟩), .agg #[.int .i64 es.length, .slice A4 (few8 q.2).length c4]] (w4.alloc o) fun r w' => ∃ (A' : Option Addr) (c' : Nat), r = .returned (.tuple #[.slice A' (addRs es es.length (few8 q.2)).length c', .int .i64 (addErr es es.length (few8 q.2))]) ∧ Sl kRec (fun k => wr.heap.size ≤ k) w' A' c' (addRs es es.length (few8 q.2)) ∧ Li w w' B (addTo es es.length (few8 q.2)) ∧ Sl Kn.str (fun k => ¬ B.has k) w' N cn ns ∧ Below w.heap.size w w') := Lib.hid (fun o => by
          have hI := (HWH.out.li.below HB4.out).below (HA5.out o)
          have hb5 := bthen HB4.out (HA5.out o)
          refine (lAdd hI (after := es.length) ((H4.out.below (HA5.out o)).mono (fun j hj hB => hj.elim (fun h => by have := HWH.out.li.lo j hB; omega) (fun h => by have := HWH.out.li.ix.lt j hB; omega))) HIN.out (by omega)).mono ?_
          rintro r w' ⟨A', c', e, h0, h1, h2⟩
          exact ⟨A', c', e, h0.mono (fun j hj => by have := hb5.size; omega), h1, (HWH.out.nr.below hb5).stay h2.size (fun j hj hl => h2.block j hl hj), But.bel hI h2 (Nat.le_refl _) (bthen HWH.out.bel hb5)⟩)
        have hrl := addRs_len es es.length (few8 q.2)
        have HRIN := Lib.hid (fun r (hr : r ∈ addRs es es.length (few8 q.2)) => show EvIn r.ev from by
          unfold addRs at hr
          split at hr
          · exact HIN.out _ (recsFrom_lo hr).2.2
          · cases hr)
        have hrl8 : (addRs es es.length (few8 q.2)).length ≤ 8 := by rw [hrl]; split <;> omega
        have HDONE := Lib.hid (fun ns' (hn : Nam es (addRs es es.length (few8 q.2)) ns') => hn.done)
        generalize addRs es es.length (few8 q.2) = rs at CA HRIN hrl8 HDONE
        generalize addTo es es.length (few8 q.2) = fs at CA HDONE HST
        clear hrl
        go_upto_region 13 with (first
          | (go_at_call 14; go_fit (CA.out _); rintro r w6 ⟨A6, c6, rfl, h60, h6, h7, h8⟩; have H6 := Lib.hid h6; have HR6 := Lib.hid h60; have HN6 := Lib.hid h7; have HB6 := Lib.hid h8; clear h60 h6 h7 h8)
          | (go_at_call 13; go_fit (CL.out _); rintro r w5 ⟨rfl, rfl⟩))
        have hcr := HR6.out.2.1
        unfold maxLen at hcr
        have HLW := Lib.hid HWH.out.li.ix.lt
        have HNAM := Lib.hid HWH.out.nam
        have hnl : ns.length ≤ 120 := by have := HWH.out.nam.len; simp at this; omega
        obtain ⟨wo, rfl⟩ : ∃ wo : World, wo = wr := ⟨_, rfl⟩
        go_loopw [7, 12] (fun v i wr => ∃ (j : Nat) (N2 : Option Addr) (c2 : Nat) (ns2 : List ByteArray), j ≤ rs.length ∧ i = .int .i64 j ∧ v = .slice N2 ns2.length c2 ∧ Sl Kn.str (fun k => ¬ B.has k) wr N2 c2 ns2 ∧ Hid (Nam es (rs.take j) ns2) ∧ Below w6.heap.size w6 wr) (fun _ i _ => rs.length - (intOf i).toNat)
        case atStart => exact ⟨0, N, cn, ns, Nat.zero_le _, rfl, rfl, HN6.out, by simpa using HNAM, Below.refl _ _⟩
        case round =>
          obtain ⟨j, N2, c2, ns2, hj, rfl, rfl, hs2, hnam2, hbq⟩ := hrel
          by_cases hjl : j < rs.length
          · obtain ⟨rd, S, sa, T, ta, rfl, _, _, y2, _, _, _, _, _⟩ := row_rec_at (HR6.out.below hbq).2.2 hjl
            have HRJ := Lib.hid (HRIN.out _ (List.getElem_mem hjl))
            have HTJ := Lib.hid (show rs.take (j + 1) = rs.take j ++ [rs[j]] from List.take_succ_eq_append_getElem hjl)
            generalize rs[j] = r at y2 HRJ HTJ
            have hl2 := hnam2.out.len
            rw [List.length_take] at hl2
            have CP := Lib.hid (Put_any hs2 (by omega) hnam2.out.rise r.ev.stream)
            have m1 : (0 : Int) ≤ (j : Int) := Int.natCast_nonneg _
            have m2 : (j : Int) < (rs.length : Int) := by omega
            have HBQ := Lib.hid hbq
            have HLQ := Lib.hid (fun k (hk : B.has k) => show k < wr.heap.size from Nat.lt_of_lt_of_le (H6.out.ix.lt k hk) hbq.size)
            clear hs2 hbq
            go_wp2_with (go_at_call 21; go_fit CP.out; rintro r7 w7 ⟨N7, c7, ns7, rfl, h7, hp7, hb7⟩; have H7 := Lib.hid h7; have HP7 := Lib.hid hp7; have HB7 := Lib.hid hb7; clear h7 hp7 hb7)
            go_roundw
            case rel => exact ⟨j + 1, N7, c7, ns7, by omega, by go_num, rfl, H7.out.mono (fun i hi hB => hi.elim (fun h => h hB) (fun h => by have := HLQ.out i hB; omega)), Lib.hid (by rw [HTJ.out]; exact hnam2.out.put HP7.out HRJ.out), bthen HBQ.out HB7.out⟩
            case measure => simp [intOf]; omega
          · obtain rfl : j = rs.length := by omega
            have hn2 := hnam2.out
            rw [List.take_length] at hn2
            have HWN := Lib.hid (show Wh w wr B fs N2 c2 ns2 from ⟨H6.out.below hbq, hs2, HDONE.out _ hn2, bthen HB6.out hbq⟩)
            clear hn2 hnam2 hs2 hbq
            go_wp2_with fail
            go_roundw
            case rel => exact ⟨k + 1, N2, c2, ns2, by omega, by omega, by go_num, rfl, by rw [HST.out]; exact HWN.out⟩
            case measure => simp [intOf]; omega
      · have hstop : k < l.length → ¬ k < 15 := fun h h2 => hlt ⟨h, h2⟩
        have HF := Lib.hid (show ∃ es N' cn' ns', es.length ≤ 120 ∧ (Value.slice N ns.length cn) = .slice N' ns'.length cn' ∧ Wh w wr B es N' cn' ns' from ⟨_, N, cn, ns, hlen, rfl, hwh⟩)
        clear hlen HWH hwh hlt
        rcases Nat.lt_or_ge k l.length with hc | hc
        · have h10 := hstop hc
          clear hstop
          go_wp2_with fail
          go_meet
          exact HF.out
        · clear hstop
          go_wp2_with fail
          go_meet
          exact HF.out
  case rest =>
    obtain ⟨es, N, cn, ns, hlen, rfl, hwh⟩ := hcut
    obtain ⟨w3, hw3⟩ : ∃ w3, w3 = wc := ⟨_, rfl⟩
    subst hw3
    have HWH := Lib.hid hwh
    have hsum := sumC_all hwh.nam.rise hwh.nam.mem
    have hnl : ns.length ≤ 120 := by have := hwh.nam.len; simp at this; omega
    have hcn := hwh.nr.2.1
    unfold maxLen at hcn
    have hcn0 := hwh.nr.1
    have HSUM := Lib.hid hsum
    clear HS H2 HB2 HA2 C1 C2 HB1 hwh hsum
    have CL := Lib.hid (fun W (hW : Below w3.heap.size w3 W) => iLast (HWH.out.li.below hW).ix)
    go_wp2_with fail
    go_loopw [13, 14] (fun m i wr => ∃ k : Nat, k ≤ ns.length ∧ i = .int .i64 k ∧ m = .int .i64 (sumC es (ns.take k)) ∧ Below w3.heap.size w3 wr) (fun _ i _ => ns.length - (intOf i).toNat)
    case atStart => exact ⟨0, Nat.zero_le _, rfl, rfl, Below.refl _ _⟩
    case round =>
      obtain ⟨k, hk, rfl, rfl, hbq⟩ := hrel
      by_cases hkl : k < ns.length
      · obtain ⟨nd, rfl, y⟩ := row_str_at (HWH.out.nr.below hbq).2.2 hkl
        have HTK := Lib.hid (show sumC es (ns.take (k + 1)) = sumC es (ns.take k) + cntS es ns[k] by rw [List.take_succ_eq_append_getElem hkl, sumC_snoc])
        have hle := sumC_le es ns (k + 1)
        rw [HTK.out, HSUM.out] at hle
        have hsz := HWH.out.nam.size _ (List.getElem_mem hkl)
        generalize ns[k] = s at y HTK hle hsz
        have HSZ := Lib.hid hsz
        have HK : Hid (∀ W, Below wr.heap.size wr W → Below wr.heap.size wr W ∧ W.cell? (nd.add k) = some (.string s)) := Lib.hid (fun W hW => ⟨hW, (hW.cell (World.block_lt_of_cell? wr _ y)).trans y⟩)
        have CV : Hid (∀ W (Q : Prop), Below wr.heap.size wr W ∧ Q → Calls Try.prog 22 #[.pointer (some ⟨B.b, 0, none⟩), .string s, .int .i64 es.length] W fun r w' => r = .returned (.int .i64 (cntS es s)) ∧ W = w') := Lib.hid (fun W Q hW => by
          have := iVersion (HWH.out.li.below (bthen hbq hW.1)).ix HSZ.out es.length
          rw [verR_all es s (Int.le_refl _)] at this
          exact this)
        have CL2 : Hid (∀ W (Q : Prop), Below wr.heap.size wr W ∧ Q → Calls Try.prog 13 #[.pointer (some ⟨B.b, 0, none⟩)] W fun r w' => r = .returned (.int .i64 es.length) ∧ W = w') := Lib.hid (fun W Q hW => CL.out W (bthen hbq hW.1))
        have m1 : (0 : Int) ≤ (k : Int) := Int.natCast_nonneg _
        have m2 : (k : Int) < (ns.length : Int) := by omega
        have HBQ := Lib.hid hbq
        have ew : IntKind.i64.wrap ((sumC es (ns.take k) : Int) + (cntS es s : Int)) = ((sumC es (ns.take k) + cntS es s : Nat) : Int) := by rw [IntWalk.i64_in _ (by omega)]; omega
        clear hbq hsz y
        go_upto_region 20 with fail
        go_region_held3 (fun W => Below wr.heap.size wr W ∧ W.cell? (nd.add k) = some (.string s)) (first | exact HK.out _ (below_drawn (Below.refl _ _)) | (assumption))
          (first
            | (go_at_call 22; go_fit (CV.out _ _ (by assumption)); rintro r w7 ⟨rfl, rfl⟩)
            | (go_at_call 13; go_fit (CL2.out _ _ (by assumption)); rintro r w6 ⟨rfl, rfl⟩))
        all_goals go_wp2_with fail
        all_goals
          go_roundw
          case rel => exact ⟨k + 1, by omega, by go_num, congrArg (Value.int .i64) (by rw [HTK.out]; omega), bthen HBQ.out (below_drawn (Below.refl _ _))⟩
          case measure => simp [intOf]; omega
      · obtain rfl : k = ns.length := by omega
        rw [List.take_length, HSUM.out]
        obtain ⟨w4, hw4⟩ : ∃ w4, w4 = wr := ⟨_, rfl⟩
        subst hw4
        have HL4 := Lib.hid (HWH.out.li.below hbq)
        have HB4 := Lib.hid (bthen HWH.out.bel hbq)
        have CA := Lib.hid (iAll HL4.out.ix es.length)
        have hal : allR es es.length = recsOf es := allR_all es (Int.le_refl _)
        rw [hal, recsOf_len] at CA
        have CL4 := Lib.hid (iLast HL4.out.ix)
        clear hal hbq
        go_upto_region 22 with (first
          | (go_at_call 15; go_fit CA.out; rintro r w5 ⟨P, cp, rfl, h5, hb5⟩; have HP5 := Lib.hid h5.any; have HB5 := Lib.hid hb5; clear h5 hb5)
          | (go_at_call 13; go_fit CL4.out; rintro r w6 ⟨rfl, rfl⟩))
        have hq5 : Sl kClause (fun _ => True) (w5.alloc (.cells #[.slice none 0 0, .slice none 0 0] 52)) (some ⟨w5.heap.size, 0, none⟩) 1 qAll := (Sl.one (d := kClause) (ok := fun _ => True) (y := ⟨[], []⟩) (cs := [.slice none 0 0, .slice none 0 0]) 52 (kClause_mk (c := ⟨[], []⟩) Sl.nil_ Sl.nil_) w5.heap.size rfl).any
        have hgq : ∀ c ∈ qAll, goodClause c := by
          intro c hc
          simp only [qAll, List.mem_cons, List.not_mem_nil, or_false] at hc
          rw [hc]; exact ⟨by simp, by simp⟩
        go_upto_region 23 with fail
        obtain ⟨W6, hW6⟩ : ∃ W6, W6 = (w5.alloc (.cells #[.slice none 0 0, .slice none 0 0] 52)).alloc (.cells #[.slice (some ⟨w5.heap.size, 0, none⟩) 1 1] 55) := ⟨_, rfl⟩
        rw [← hW6]
        have hbA : Below w5.heap.size w5 (w5.alloc (.cells #[.slice none 0 0, .slice none 0 0] 52)) := (Below.refl _ _).alloc (Nat.le_refl _) _
        have hb6 : Below w5.heap.size w5 W6 := by rw [hW6]; exact hbA.alloc (by simp) _
        have hx6 : Bx W6 (w5.heap.size + 1) 55 [.slice (some ⟨w5.heap.size, 0, none⟩) 1 1] := by
          rw [hW6]
          simpa using Bx.new (w5.alloc (.cells #[.slice none 0 0, .slice none 0 0] 52)) 55 [.slice (some ⟨w5.heap.size, 0, none⟩) 1 1]
        have hq6 : SlC W6 (some ⟨w5.heap.size, 0, none⟩) 1 qAll := by rw [hW6]; exact hq5.alloc _
        have HL6 := Lib.hid ((HL4.out.below HB5.out).below hb6)
        have HP6 := Lib.hid (HP5.out.below hb6)
        have HB6 := Lib.hid (bthen HB4.out (bthen HB5.out hb6))
        have HQ6 := Lib.hid hq6
        have HX6 := Lib.hid hx6
        have HGQ := Lib.hid hgq
        have HK : Hid (∀ W, Below W6.heap.size W6 W → Below W6.heap.size W6 W ∧ W.cell? ⟨w5.heap.size + 1, 0, none⟩ = some (.slice (some ⟨w5.heap.size, 0, none⟩) 1 1)) := Lib.hid (fun W hW => ⟨hW, (HX6.out.under hW).cell 0⟩)
        have D1 : Hid (∀ W (Q : Prop), Below W6.heap.size W6 W ∧ Q → Calls Try.prog 13 #[.pointer (some ⟨B.b, 0, none⟩)] W fun r w' => r = .returned (.int .i64 es.length) ∧ W = w') := Lib.hid (fun W Q hW => iLast (HL6.out.below hW.1).ix)
        have D2 : Hid (∀ W (Q : Prop), Below W6.heap.size W6 W ∧ Q → Calls Try.prog 23 #[.pointer (some ⟨B.b, 0, none⟩), .agg #[.slice (some ⟨w5.heap.size, 0, none⟩) 1 1], .int .i64 es.length] W fun r w' => (∃ A' c', r = .returned (.slice A' es.length c') ∧ SlR w' A' c' (recsOf es)) ∧ Below W.heap.size W w') := Lib.hid (fun W Q hW => by
          have := iQuery (HL6.out.below hW.1).ix (HQ6.out.below hW.1) HGQ.out es.length
          rw [qryR_qAll, recsOf_len] at this
          exact this.mono fun r w' ⟨A', c', e, h1, h2⟩ => ⟨⟨A', c', e, h1.any⟩, h2⟩)
        have D3 : Hid (∀ W (Q : Prop) (R : Option Addr) (cr : Nat), Below W6.heap.size W6 W ∧ Q → SlR W R cr (recsOf es) → Calls Try.prog 17 #[.slice P es.length cp, .slice R es.length cr] W fun r w' => r = .returned (.bool true) ∧ Below W.heap.size W w') := Lib.hid (fun W Q R cr hW hR => by
          have := ref14Same_any (HP6.out.below hW.1) hR
          rw [recsOf_len, sameRs_refl] at this
          exact this)
        clear hW6 hbA hb6 hx6 hq6 hq5 hgq CA CL4 HL4 HP5 HB4 HB5 HX6
        go_cut [17] (fun v wx => v = .bool true ∧ Below W6.heap.size W6 wx)
        case first =>
          go_region_held3 (fun W => Below W6.heap.size W6 W ∧ W.cell? ⟨w5.heap.size + 1, 0, none⟩ = some (.slice (some ⟨w5.heap.size, 0, none⟩) 1 1)) (first | exact HK.out _ (below_drawn (Below.refl _ _)) | (assumption) | exact HK.out _ (bthen (And.left (by assumption : Below W6.heap.size W6 _ ∧ _)) (by assumption)))
            (first
              | (go_at_call 17; go_fit (D3.out _ _ _ _ (by assumption) HR8.out); rintro r w9 ⟨rfl, hb9⟩; have HB9 := Lib.hid hb9)
              | (go_at_call 23; go_fit (D2.out _ _ (by assumption)); rintro r w8 ⟨⟨R, cr, rfl, hr8⟩, hb8⟩; have HR8 := Lib.hid hr8; clear hr8)
              | (go_at_call 13; go_fit (D1.out _ _ (by assumption)); rintro r w7 ⟨rfl, rfl⟩))
          all_goals go_wp2_with fail
          all_goals go_meet
          all_goals exact ⟨rfl, And.left (by assumption : Below W6.heap.size W6 w9 ∧ _)⟩
        case rest =>
          obtain ⟨rfl, hbx⟩ := hcut
          obtain ⟨w9, hw9⟩ : ∃ w9, w9 = wc := ⟨_, rfl⟩
          subst hw9
          have HB9 := Lib.hid hbx
          have k0 := (HK.out _ hbx).2
          have C9 := Lib.hid (iLast (HL6.out.below hbx).ix)
          have CS := Lib.hid (iSince (HL6.out.below hbx).ix (HQ6.out.below hbx) HGQ.out at_)
          rw [sinceR_qAll] at CS
          have CQ := Lib.hid (fun W (hW : Below w9.heap.size w9 W) => show Calls Try.prog 23 #[.pointer (some ⟨B.b, 0, none⟩), .agg #[.slice none 0 0], .int .i64 es.length] W fun r w' => ∃ A' c', r = .returned (.slice A' 0 c') ∧ Below W.heap.size W w' from by
            have := iQuery (HL6.out.below (bthen hbx hW)).ix (q := []) (Q := none) (cq := 0) Sl.nil_ (by simp) es.length
            rw [qryR_nil] at this
            exact this.mono fun r w' ⟨A', c', e, _, h2⟩ => ⟨A', c', e, h2⟩)
          have CL10 := Lib.hid (fun W (hW : Below w9.heap.size w9 W) => iLast (HL6.out.below (bthen hbx hW)).ix)
          clear hbx D1 D2 D3 HK
          by_cases h1 : at_ < (es.length : Int) <;> by_cases h2 : 0 < es.length
          all_goals
            first | rw [decide_eq_true h1] at CS | rw [decide_eq_false h1] at CS
            first | rw [decide_eq_true h2] at CS | rw [decide_eq_false h2] at CS
            simp only [Bool.and_true, Bool.and_false, Bool.true_and, Bool.false_and] at CS
            go_wp2_with (first
              | (go_at_call 23; go_fit (CQ.out _ HB10.out); rintro r w12 ⟨A12, c12, rfl, hb12⟩; have HB12 := Lib.hid hb12; clear hb12)
              | (go_at_call 13; go_fit (CL10.out _ HB10.out); rintro r w11 ⟨rfl, rfl⟩)
              | (go_at_call 24; go_fit CS.out; rintro r w10 ⟨rfl, hb10⟩; have HB10 := Lib.hid hb10; clear hb10)
              | (go_at_call 13; go_fit C9.out; rintro r w11 ⟨rfl, rfl⟩))
            go_ret
            exact ⟨rfl, bthen HB6.out (bthen HB9.out (bthen HB10.out HB12.out))⟩
end Go.Proofs.Ytigejdnjdajbhaa

namespace Go.Proofs.Ytigejdnjdajbhaa

set_option maxRecDepth 100000 in
def ordN : List Nat := [104, 97, 114, 110, 101, 115, 115, 32, 51, 51, 99, 100, 49, 48, 101, 102, 99, 49, 100, 49, 57, 100, 101, 100, 50, 102, 57, 100, 97, 101, 101, 51, 54, 49, 54, 56, 48, 102, 48, 49, 97, 51, 102, 55, 56, 102, 54, 99, 100, 55, 53, 100, 50, 54, 97, 99, 102, 50, 50, 56, 51, 51, 48, 100, 55, 53, 56, 53, 54, 48, 55, 97, 32, 99, 117, 116, 32, 97, 116, 32, 114, 101, 103, 105, 115, 116, 114, 97, 114, 47, 114, 101, 103, 105, 115, 116, 114, 97, 114, 108, 97, 119, 49, 52, 46, 73, 110, 100, 101, 120, 82, 101, 102, 117, 115, 101, 115, 32, 114, 101, 103, 105, 115, 116, 114, 97, 114, 47, 114, 101, 103, 105, 115, 116, 114, 97, 114, 108, 97, 119, 49, 52, 46, 73, 110, 100, 101, 120, 79, 119, 110, 32, 114, 101, 103, 105, 115, 116, 114, 97, 114, 47, 114, 101, 103, 105, 115, 116, 114, 97, 114, 108, 97, 119, 49, 52, 46, 73, 110, 100, 101, 120, 67, 111, 112, 105, 101, 115, 32, 114, 101, 103, 105, 115, 116, 114, 97, 114, 47, 114, 101, 103, 105, 115, 116, 114, 97, 114, 108, 97, 119, 49, 52, 46, 73, 110, 100, 101, 120, 87, 104, 111, 108, 101, 32, 114, 101, 103, 105, 115, 116, 114, 97, 114, 47, 114, 101, 103, 105, 115, 116, 114, 97, 114, 108, 97, 119, 49, 52, 46, 73, 110, 100, 101, 120, 83, 116, 97, 121, 115, 32, 114, 101, 103, 105, 115, 116, 114, 97, 114, 47, 114, 101, 103, 105, 115, 116, 114, 97, 114, 108, 97, 119, 49, 56, 46, 71, 117, 97, 114, 100, 69, 109, 112, 116, 121, 32, 114, 101, 103, 105, 115, 116, 114, 97, 114, 47, 114, 101, 103, 105, 115, 116, 114, 97, 114, 108, 97, 119, 49, 56, 46, 71, 117, 97, 114, 100, 76, 97, 116, 101, 114]
def ordL : List Char := ordN.map Char.ofNat
theorem order_eq : Try.prog.initOrder = String.ofList ordL := by kernel_rfl
theorem signs_eq : Try.prog.initOrder.toList = ordL := by rw [order_eq, String.toList_ofList]
def ordRest : List (List Char) := (behindMainWord (wordsSigns ordL)).tail
theorem words_eq : behindMainWord (wordsSigns ordL) = "cut".toList :: ordRest := by kernel_rfl
theorem strip_cut (r : List (List Char)) : stripLifts liftWords ("cut".toList :: r) = ([], "cut".toList :: r) := by kernel_rfl
theorem mayEnter_of (P : Program) (rest : List (List Char)) (h : behindMainWord (wordsSigns P.initOrder.toList) = "cut".toList :: rest) (h1 : P.laysLater = false) (h2 : P.bearsReflect = false) (h3 : P.doorFits [] = true) : P.mayEnter = true := by
  unfold Program.mayEnter
  rw [h]
  dsimp only
  rw [strip_cut, h1, h2, h3]
  simp
theorem lifts_of (P : Program) (rest : List (List Char)) (h : behindMainWord (wordsSigns P.initOrder.toList) = "cut".toList :: rest) : P.liftsFinal = false := by
  unfold Program.liftsFinal Program.headLifts
  rw [h, strip_cut]
  simp
theorem make_of (P : Program) (rest : List (List Char)) (h : behindMainWord (wordsSigns P.initOrder.toList) = "cut".toList :: rest) : P.make = some .cut := by
  unfold Program.make
  rw [h]
  dsimp only
  rw [if_neg (by decide), if_pos (by simp)]
theorem door_of (P : Program) (h : P.doorRows = []) : P.doorFits [] = true := by
  unfold Program.doorFits
  rw [h]
  simp
theorem head_eq : behindMainWord (wordsSigns Try.prog.initOrder.toList) = "cut".toList :: ordRest := by rw [signs_eq]; exact words_eq
theorem h_later : Try.prog.laysLater = false := by kernel_rfl
theorem h_refl : Try.prog.bearsReflect = false := by kernel_rfl
theorem h_rows : Try.prog.doorRows = [] := by kernel_rfl
theorem mayEnter_eq : Try.prog.mayEnter = true := mayEnter_of _ _ head_eq h_later h_refl (door_of _ h_rows)
theorem lifts_eq : Try.prog.liftsFinal = false := lifts_of _ _ head_eq
theorem make_eq : Try.prog.make = some .cut := make_of _ _ head_eq
theorem laidOut_eq : laidOutB Try.prog = true := by kernel_rfl
theorem mapsRowed_eq : mapsRowed Try.prog = true := by kernel_rfl
theorem stops_eq : (Try.prog.stops == []) = true := by kernel_rfl
theorem stopKnobs_eq : (Try.prog.stopKnobs == []) = true := by kernel_rfl
theorem heard_eq : Try.prog.stopsHeard = true := by kernel_rfl
theorem own_eq : ownKnob Try.prog.godebug = none := by kernel_rfl

/-- The rows' one great closed fact, out of its parts. -/
theorem joined_of {P : Program} {f : FuncId} {fn : Func} {s : ChangeSpec} {c : OpenClaim}
    (k1 : c.wf (OpenSpec.ofChange s) = true) (k2 : laidOutB P = true) (k3 : mapsRowed P = true) (k4 : fn.params.all (P.readableRec ·) = true) (k5 : namedTie P c.named s.vars = true)
    (k6 : (c.stops == []) = true) (k7 : (P.stops == []) = true) (k8 : (c.knobs == []) = true) (k9 : (P.stopKnobs == []) = true)
    (k10 : (c.inPlace == P.inPlace f) = true) (k11 : (c.unfollowed == P.unfollowed f) = true) (k12 : (c.recurses == P.recurses f) = true) (k13 : (c.named == P.varsNamed f) = true)
    (k14 : (c.maps == (fn.params.toList ++ s.plain.varTypes P).any (P.mapsRec ·)) = true) (k15 : (c.ifaces == (fn.params.toList ++ s.plain.varTypes P).any (P.ifacesRec ·)) = true) (k16 : (c.mapsOut == P.mapsAmong fn.resultTypes.toList) = true)
    (k17 : (c.loops == (fn.params.toList ++ s.plain.varTypes P).any (P.loopsFrom ·)) = true) (k18 : (c.wideKeys == (fn.params.toList ++ s.plain.varTypes P ++ fn.resultTypes.toList).any (P.wideKeysFrom ·)) = true)
    (k19 : s.vars.all (P.varReadable ·) = true) (k20 : fn.resultTypes.all (fun t => P.readableRec t && decide (t < P.types.size)) = true) (k21 : (c.ifacesOut == fn.resultTypes.toList.any (P.ifacesRec ·)) = true) (k22 : (c.loopsOut == fn.resultTypes.toList.any (P.loopsFrom ·)) = true)
    (k23 : (c.plainKeys == P.plainKeys) = true) (k24 : c.shortTexts.isNone = true) (k25 : P.stopsHeard = true) (k26 : P.mayEnter = true) (k27 : (c.lifted == P.liftsFinal) = true) (k28 : (P.make == some c.make) = true)
    (k29 : c.kinds = [] ∧ c.domain = []) (k30 : (c.pinned == c.pinnedBy) = true)
    (k31 : (c.veiled == (fn.params.toList ++ s.plain.varTypes P ++ fn.resultTypes.toList).any (P.veiledRec ·)) = true) (k32 : c.veiledFits P fn.params.toList (fn.params.toList ++ s.plain.varTypes P ++ fn.resultTypes.toList) = true) :
    joinedFacts P f fn s c = true := by
  unfold joinedFacts
  rw [k1, k2, k3, k4, k5, k6, k7, k8, k9, k10, k11, k12, k13, k14, k15, k16, k17, k18, k19, k20, k21, k22, k23, k24, k25, k26, k27, k28, k29.1, k29.2, k30, k31, k32]
  rfl
end Go.Proofs.Ytigejdnjdajbhaa

namespace Go.Proofs.Ytigejdnjdajbhaa.indexWhole
open Go.ChangeShapes Go.WideShapes Go.ChangeAt Go.RowKit
open Go.ChangeMaps (open_string shut_string)
set_option maxRecDepth 100000 in
theorem lifted (os : Os) (started : os.Started) (H : Type) (enc : TypeId × Value → H) :
    ReturnsInHanded {} Try.checked os 6 .any (Rows.indexWholeSpec.pre6 enc Try.prog Try.f6 Rows.indexWholeRow.domain false) (Rows.indexWholeSpec.post enc Try.prog Try.f6 false true false false) := by
  refine returnsInHanded_of_change_sized (C := Try.checked) own_eq started (by kernel_rfl) Try.func6
    (ChangeSpec.witness6 (enc := enc) (C := Try.checked) false ⟨#[], #[.slice none 0 0, .int .i64 0], []⟩ 8 (by kernel_rfl) (by kernel_rfl) (by kernel_rfl) (by kernel_rfl)) ?_
  intro W base args ds gs before hval0 hW hcnd hsz0 _
  have hval : ∀ (j : Nat) t v, Try.f6.params[j]? = some t → args[j]? = some v → Value.okWide Try.prog W .any base t v := hval0
  have hW' := hW
  obtain ⟨p, q, hA0, hV, rfl, hfz, hnd⟩ := hW
  have hA : DataW.TrodAll enc Try.prog W 0 (fun _ => true) true Try.f6.params.toList args.toList ds p := hA0
  rw [Try.params6] at hA hval
  obtain ⟨v0, vs0, d0, ds0, p0, q0, hargs, rfl, rfl, h0, r0⟩ := trodAll_cons hA
  obtain ⟨v1, vs1, d1, ds1, p1, q1, rfl, rfl, rfl, h1, r1⟩ := trodAll_cons r0
  obtain ⟨rfl, rfl, rfl⟩ := trodAll_nil r1
  obtain rfl : args = #[v0, v1] := by cases args; simp_all
  obtain ⟨rfl, rfl⟩ := trodVars_none hV
  have k0 := h0
  have lt0 : ∀ x ∈ p0, x.block < W.heap.size := by obtain ⟨m, hm⟩ := k0; exact DataW.trod_lt m _ _ _ hm
  obtain ⟨a0, len0, cap0, rfl⟩ := okWide_slice Try.underlying22 (hval 0 22 v0 rfl rfl)
  obtain ⟨x0, ⟨A0, c0, e0, l0, m0, w0⟩, g0⟩ := (opBatches).arg h0
  simp only [Value.cells, List.cons.injEq, Value.slice.injEq, and_true] at e0
  obtain ⟨rfl, rfl, rfl⟩ := e0
  have k1 := h1
  have lt1 : ∀ x ∈ p1, x.block < W.heap.size := by obtain ⟨m, hm⟩ := k1; exact DataW.trod_lt m _ _ _ hm
  obtain ⟨a1, rfl, _, _, w1⟩ := open_int Try.underlying3 (hval 1 3 v1 rfl rfl) h1
  clear hA0 hval0
  refine (indexWhole_walk W _ _ x0 ⟨l0, m0, w0⟩ g0 a1 w1).mono fun e W' ⟨he, bel⟩ => ?_
  subst he
  exact ⟨_, rfl, _, _, _, [], _, [], hW', trodAll_mk1 (shut_bool Try.underlying4 _), (trodAll_cons_mk (Below.trod laidOut_eq (by kernel_rfl) (of_decide_eq_true (by kernel_rfl)) k0 bel lt0) (trodAll_cons_mk (Below.trod laidOut_eq (by kernel_rfl) (of_decide_eq_true (by kernel_rfl)) k1 bel lt1) trodAll_mk0)), rfl, bel.frame _, fun h => by cases h⟩
theorem k10 : (Rows.indexWholeRow.inPlace == Try.prog.inPlace 6) = true := by kernel_rfl
theorem k11 : (Rows.indexWholeRow.unfollowed == Try.prog.unfollowed 6) = true := by kernel_rfl
theorem k12 : (Rows.indexWholeRow.recurses == Try.prog.recurses 6) = true := by kernel_rfl
theorem k13 : (Rows.indexWholeRow.named == Try.prog.varsNamed 6) = true := by kernel_rfl
theorem k23 : (Rows.indexWholeRow.plainKeys == Try.prog.plainKeys) = true := by kernel_rfl
theorem kfn : Try.pinned.checked.prog.funcNamed Rows.indexWholeRow.func = some 6 := by kernel_rfl
theorem closed : joinedFacts Try.prog 6 Try.f6 Rows.indexWholeSpec Rows.indexWholeRow = true :=
  joined_of (by kernel_rfl) laidOut_eq mapsRowed_eq (by kernel_rfl) (by kernel_rfl) rfl stops_eq rfl stopKnobs_eq k10 k11 k12 k13 (by kernel_rfl) (by kernel_rfl) (by kernel_rfl) (by kernel_rfl) (by kernel_rfl) (by kernel_rfl) (by kernel_rfl) (by kernel_rfl) (by kernel_rfl) k23 rfl heard_eq mayEnter_eq (by rw [lifts_eq]; rfl) (by rw [make_eq]; rfl) ⟨rfl, rfl⟩ (by kernel_rfl) (by kernel_rfl) (by kernel_rfl)
theorem over : Rows.indexWholeRow.holds Try.pinned (OpenSpec.ofChange Rows.indexWholeSpec) :=
  OpenClaim.holds_of_wide 6 Try.f6 rfl rfl rfl rfl rfl rfl rfl ⟨rfl, rfl, rfl, rfl, rfl⟩ rfl rfl rfl rfl rfl kfn Try.func6 closed
    (of_decide_eq_true (by kernel_rfl)) (by unfold Func.isWrapper; first | (rw [if_pos (by decide +kernel)]; kernel_rfl) | (rw [if_neg (by decide +kernel)]; exact ⟨rfl, rfl⟩))
    (fun os started H enc _ => lifted os started H enc)
theorem proved : Rows.IndexWholeSaid := over
#print axioms proved
end Go.Proofs.Ytigejdnjdajbhaa.indexWhole
