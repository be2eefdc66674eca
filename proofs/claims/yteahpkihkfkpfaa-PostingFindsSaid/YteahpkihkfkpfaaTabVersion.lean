/- (*streams.Table).Version. -/
import Derived.Test.YteahpkihkfkpfaaTab
import Derived.Test.YteahpkihkfkpfaaBsearch
set_option linter.unusedVariables false
set_option linter.unusedSimpArgs false
namespace Go.Proofs.Yteahpkihkfkpfaa
open Go.RowKit Go.Maps

/-- How many positions are at most x. -/
def upTo (l : List Int) (x : Int) : Nat := (l.filter (fun p => decide (p ≤ x))).length
theorem Cut.counts {l : List Int} {x : Int} {n : Nat} (h : Cut l x n n) (hr : l.Pairwise (· < ·)) : upTo l x = if l[n]? = some x then n + 1 else n := by
  have key : ∀ m : Nat, (∀ k y, l[k]? = some y → k < m → y ≤ x) → (∀ k y, l[k]? = some y → m ≤ k → x < y) → m ≤ l.length → upTo l x = m := by
    intro m hlo hhi hm
    unfold upTo
    have hs : l.filter (fun p => decide (p ≤ x)) = l.take m := by
      conv => lhs; rw [← List.take_append_drop m l]
      rw [List.filter_append]
      have h1 : (l.take m).filter (fun p => decide (p ≤ x)) = l.take m := by
        rw [List.filter_eq_self]
        intro y hy
        obtain ⟨k, hk⟩ := List.getElem?_of_mem hy
        rw [List.getElem?_take] at hk
        split at hk
        · simpa using hlo k y hk (by assumption)
        · cases hk
      have h2 : (l.drop m).filter (fun p => decide (p ≤ x)) = [] := by
        rw [List.filter_eq_nil_iff]
        intro y hy
        obtain ⟨k, hk⟩ := List.getElem?_of_mem hy
        rw [List.getElem?_drop] at hk
        have := hhi _ y hk (by omega)
        simp; omega
      rw [h1, h2, List.append_nil]
    rw [hs, List.length_take]
    omega
  split
  · rename_i hx
    refine key (n + 1) (fun k y hk hn => ?_) (fun k y hk hn => rise_at hr hx hk (by omega)) (by have := (List.getElem?_eq_some_iff.1 hx).1; omega)
    rcases Nat.lt_or_ge k n with hlt | hge
    · have := h.lo k y hk hlt; omega
    · obtain rfl : k = n := by omega
      rw [hx] at hk; injection hk with hk; omega
  · rename_i hx
    refine key n (fun k y hk hn => by have := h.lo k y hk hn; omega) (fun k y hk hn => ?_) h.jn
    have := h.hi k y hk hn
    rcases Nat.lt_or_eq_of_le hn with hlt | rfl
    · have hn' : n < l.length := by have := (List.getElem?_eq_some_iff.1 hk).1; omega
      have h1 := h.hi n _ (List.getElem?_eq_getElem hn') (Nat.le_refl _)
      have h2 := rise_at hr (List.getElem?_eq_getElem hn') hk hlt
      omega
    · have : y ≠ x := fun e => hx (by rw [hk, e])
      omega

set_option maxHeartbeats 1000000 in
theorem Version_any {w : World} {b m N : Nat} {D : DataW Value} {last : Int} {f : ByteArray → List Int} {X : Nat → Prop} (h : Tb w b m N D last f X) (hN : N ≤ 1000000) {s : ByteArray} (hs : s.size ≤ maxLen) (x : Int) :
    Calls Try.prog 16 #[.pointer (some ⟨b, 0, none⟩), .string s, .int .i64 x] w fun r w' => r = .returned (.int .i64 (upTo (f s) x)) ∧ w = w' := by
  obtain ⟨A, c, _, hl, hsl, _⟩ := h.mp.look Try.underlying77 hs
  have hb := h.bx.cell 1
  simp only [List.getElem?_cons_succ, List.getElem?_cons_zero] at hb
  have hlen := h.len s
  have HB := Lib.hid (bsearch_any hsl (h.rise s) (by omega) x)
  have HR := Lib.hid (h.rise s)
  have HN := Lib.hid hlen
  clear hlen hsl h
  go_enter Try.func16, Try.ntmps16
  go_wp2_with fail
  refine HB.out.mono ?_
  rintro r w' ⟨n, rfl, rfl, hc⟩
  have HC := Lib.hid (hc.counts HR.out)
  have hn := hc.jn
  have hn2 := HN.out
  clear hc
  by_cases hx : (f s)[n]? = some x
  · rw [if_pos hx] at HC
    have hd : decide ((f s)[n]? = some x) = true := by simp [hx]
    have HX := Lib.hid hx
    clear hx
    rw [hd]
    go_wp2
    go_ret
    exact ⟨by rw [HC.out]; go_num, rfl⟩
  · rw [if_neg hx] at HC
    have hd : decide ((f s)[n]? = some x) = false := by simp [hx]
    rw [hd]
    clear hx
    go_wp2
    go_ret
    exact ⟨by rw [HC.out]; rfl, rfl⟩
end Go.Proofs.Yteahpkihkfkpfaa
