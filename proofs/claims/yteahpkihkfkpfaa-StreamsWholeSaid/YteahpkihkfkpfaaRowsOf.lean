/- Which positions a table has: those of the streams' row. -/
import Derived.Test.YteahpkihkfkpfaaLawStreamsRefuse
set_option linter.unusedVariables false
set_option linter.unusedSimpArgs false
namespace Go.Proofs.Yteahpkihkfkpfaa
open Go.RowKit Go.Maps

/-- The first k streams of l stand at the positions 1 .. k. -/
def RowsOf (l : List ByteArray) (k : Nat) (f : ByteArray → List Int) : Prop := ∀ s p, p ∈ f s ↔ ∃ j, j < k ∧ l[j]? = some s ∧ p = (j : Int) + 1
theorem RowsOf.start (l : List ByteArray) : RowsOf l 0 (fun _ => []) := fun s p => by simp
theorem RowsOf.step {l : List ByteArray} {k : Nat} {f : ByteArray → List Int} (h : RowsOf l k f) {s : ByteArray} (hs : l[k]? = some s) : RowsOf l (k + 1) (upd f s (f s ++ [(k : Int) + 1])) := by
  intro t p
  by_cases ht : t = s
  · subst ht
    rw [upd_same, List.mem_append, h t p]
    constructor
    · rintro (⟨j, h1, h2, h3⟩ | h1)
      · exact ⟨j, by omega, h2, h3⟩
      · exact ⟨k, by omega, hs, by simpa using h1⟩
    · rintro ⟨j, h1, h2, h3⟩
      rcases Nat.lt_or_eq_of_le (Nat.le_of_lt_succ h1) with h4 | h4
      · exact .inl ⟨j, h4, h2, h3⟩
      · subst h4; exact .inr (by simp [h3])
  · rw [upd_other _ _ ht, h t p]
    constructor
    · rintro ⟨j, h1, h2, h3⟩; exact ⟨j, by omega, h2, h3⟩
    · rintro ⟨j, h1, h2, h3⟩
      refine ⟨j, ?_, h2, h3⟩
      rcases Nat.lt_or_eq_of_le (Nat.le_of_lt_succ h1) with h4 | h4
      · exact h4
      · subst h4; rw [hs] at h2; exact absurd (Option.some.inj h2).symm ht
theorem RowsOf.at_ {l : List ByteArray} {n : Nat} {f : ByteArray → List Int} (h : RowsOf l n f) {i : Nat} (hi : i < n) (hl : i < l.length) (s : ByteArray) : ((i : Int) + 1 ∈ f s) ↔ s = l[i] := by
  rw [h s]
  constructor
  · rintro ⟨j, h1, h2, h3⟩
    obtain rfl : j = i := by omega
    rw [List.getElem?_eq_getElem hl] at h2
    exact (Option.some.inj h2).symm
  · rintro rfl
    exact ⟨i, hi, List.getElem?_eq_getElem hl, rfl⟩

theorem upTo_step : ∀ {l : List Int} (_ : l.Pairwise (· < ·)) (i : Int), upTo l (i + 1) = upTo l i + if i + 1 ∈ l then 1 else 0
  | [], _, i => by simp [upTo_nil]
  | y :: l, hr, i => by
    rw [List.pairwise_cons] at hr
    rw [upTo_cons, upTo_cons]
    by_cases h1 : y = i + 1
    · subst h1
      rw [upTo_none (x := i + 1) (fun p hp => hr.1 p hp), upTo_none (x := i) (fun p hp => by have := hr.1 p hp; omega)]
      simp; omega
    · rw [upTo_step hr.2 i]
      have h2 : (i + 1 ∈ y :: l) ↔ (i + 1 ∈ l) := by simp; intro h; exact absurd h.symm h1
      simp only [h2]
      by_cases h3 : y ≤ i
      · rw [if_pos h3, if_pos (by omega)]; omega
      · rw [if_neg h3, if_neg (by omega)]; omega
/-- The versions of some streams, together. -/
def sumV (f : ByteArray → List Int) (ns : List ByteArray) (x : Int) : Nat := (ns.map (fun s => upTo (f s) x)).sum
theorem sumV_snoc (f : ByteArray → List Int) (ns : List ByteArray) (x : Int) (s : ByteArray) : sumV f (ns ++ [s]) x = sumV f ns x + upTo (f s) x := by simp [sumV]
theorem sumV_le (f : ByteArray → List Int) : ∀ (ns : List ByteArray) (x : Int) (m : Nat), (∀ s, upTo (f s) x ≤ m) → sumV f ns x ≤ ns.length * m
  | [], _, _, _ => Nat.zero_le _
  | s :: ns, x, m, h => by
    have ih := sumV_le f ns x m h
    have h1 := h s
    unfold sumV at ih ⊢
    rw [List.map_cons, List.sum_cons, List.length_cons, Nat.add_mul]
    omega
theorem sum_one : ∀ {ns : List ByteArray} (_ : ns.Nodup) (a : ByteArray), (a ∈ ns → (ns.map (fun s => if s = a then 1 else 0)).sum = 1) ∧ (a ∉ ns → (ns.map (fun s => if s = a then 1 else 0)).sum = 0)
  | [], _, a => by simp
  | s :: ns, hn, a => by
    rw [List.nodup_cons] at hn
    have ih := sum_one hn.2 a
    rw [List.map_cons, List.sum_cons]
    by_cases h : s = a
    · subst h
      rw [ih.2 hn.1]
      simp
    · have h2 : (a ∈ s :: ns) ↔ a ∈ ns := by simp; intro e; exact absurd e.symm h
      rw [if_neg h, h2]
      exact ⟨fun hm => by rw [ih.1 hm], fun hm => by rw [ih.2 hm]⟩
theorem sum_add (g h : ByteArray → Nat) : ∀ ns : List ByteArray, (ns.map (fun s => g s + h s)).sum = (ns.map g).sum + (ns.map h).sum
  | [] => rfl
  | s :: ns => by rw [List.map_cons, List.sum_cons, sum_add g h ns, List.map_cons, List.sum_cons, List.map_cons, List.sum_cons]; omega
theorem sumV_all {l : List ByteArray} {n : Nat} {f : ByteArray → List Int} (h : RowsOf l n f) (hl : n ≤ l.length) (hr : ∀ s, (f s).Pairwise (· < ·)) {ns : List ByteArray} (hn : Nms f ns) : ∀ i : Nat, i ≤ n → sumV f ns (i : Int) = i
  | 0, _ => by
    unfold sumV
    have : (ns.map (fun s => upTo (f s) ((0 : Nat) : Int))) = ns.map (fun _ => 0) := List.map_congr_left (fun s _ => upTo_none (fun p hp => by obtain ⟨j, _, _, h3⟩ := (h s p).1 hp; omega))
    rw [this]
    clear this hn
    induction ns with
    | nil => rfl
    | cons s ns ih => simpa using ih
  | i + 1, hi => by
    have ih := sumV_all h hl hr hn i (by omega)
    have hil : i < l.length := by omega
    have e : (ns.map (fun s => upTo (f s) ((i + 1 : Nat) : Int))) = ns.map (fun s => upTo (f s) (i : Int) + if s = l[i] then 1 else 0) := List.map_congr_left (fun s _ => by
      rw [show ((i + 1 : Nat) : Int) = (i : Int) + 1 by omega, upTo_step (hr s)]
      simp only [h.at_ (by omega) hil s])
    unfold sumV at ih ⊢
    rw [e, sum_add, ih]
    have hm : l[i] ∈ ns := (hn.mem _).2 (fun e => by have := (h.at_ (i := i) (by omega) hil l[i]).2 rfl; rw [e] at this; cases this)
    rw [(sum_one hn.nodup _).1 hm]
end Go.Proofs.Yteahpkihkfkpfaa
