/- Texts sorted, each once: the plain law. -/
import Derived.Test.YthinieokpgmfoaaOrd
import Derived.Lib.SlicesCompact
import Derived.Lib.OwnBridge
import Derived.Sort.EncStr
set_option linter.unusedVariables false
set_option linter.unusedSimpArgs false
namespace Go.Proofs.Ythinieokpgmfoaa

def ofL (l : List UInt8) : ByteArray := ⟨l.toArray⟩
def toLs (l : List ByteArray) : List (List UInt8) := l.map (fun s => s.data.toList)
theorem ofL_toL (s : ByteArray) : ofL s.data.toList = s := ByteArray.ext (Array.ext' (by simp [ofL]))
theorem toLs_ofL (l : List (List UInt8)) : toLs (l.map ofL) = l := by
  unfold toLs; rw [List.map_map]; conv => rhs; rw [← List.map_id l]
  exact List.map_congr_left (fun a _ => by simp [ofL])
theorem ofL_toLs (l : List ByteArray) : (toLs l).map ofL = l := by
  unfold toLs; rw [List.map_map]; conv => rhs; rw [← List.map_id l]
  exact List.map_congr_left (fun a _ => ofL_toL a)
theorem enc_toLs (l : List ByteArray) : l.map Value.string = (toLs l).map encStr := by
  unfold toLs; rw [List.map_map]
  exact List.map_congr_left (fun a _ => by show Value.string a = Value.string (ofL a.data.toList); rw [ofL_toL])
/-- Sorted. -/
def srtL (l : List ByteArray) : List (List UInt8) := (toLs l).mergeSort fun x y => decide (x ≤ y)
/-- Sorted, each once. -/
def uniq (l : List ByteArray) : List ByteArray := (Lib.compact (srtL l)).map ofL

theorem srtL_len (l : List ByteArray) : (srtL l).length = l.length := by simp [srtL, toLs]
theorem srtL_pair (l : List ByteArray) : (srtL l).Pairwise (fun a b => a ≤ b) := by
  have tr : ∀ a b c : List UInt8, decide (a ≤ b) = true → decide (b ≤ c) = true → decide (a ≤ c) = true := fun a b c h1 h2 => by simp only [decide_eq_true_eq] at *; exact List.le_trans h1 h2
  have tt : ∀ a b : List UInt8, (decide (a ≤ b) || decide (b ≤ a)) = true := fun a b => by simp only [Bool.or_eq_true, decide_eq_true_eq]; exact List.le_total a b
  exact (List.pairwise_mergeSort (le := fun x y => decide (x ≤ y)) tr tt (toLs l)).imp (fun {a b} h => by simpa using h)
theorem compact_lt {zs : List (List UInt8)} (h : zs.Pairwise (fun a b => a ≤ b)) : (Lib.compact zs).Pairwise (fun a b => a < b) := by
  unfold Lib.compact Lib.compactUpTo
  rw [List.pairwise_map]
  refine List.Pairwise.imp_of_mem (R := fun i j => i < j) ?_ (List.Pairwise.filter _ List.pairwise_lt_range)
  intro i j hi hj hij
  obtain ⟨hj1, hj2⟩ := List.mem_filter.1 hj
  have hjl : j < zs.length := List.mem_range.1 hj1
  simp only [Lib.keeps, decide_eq_true_eq] at hj2
  have hne := hj2.resolve_left (by omega)
  simp only [getElem!_pos, List.size_toArray, hjl, show j - 1 < zs.length by omega, show i < zs.length by omega, List.getElem_toArray] at hne ⊢
  have hp := List.pairwise_iff_getElem.1 h
  have h1 : zs[j - 1] ≤ zs[j] := hp (j - 1) j (by omega) hjl (by omega)
  have h2 : zs[j - 1] < zs[j] := (List.le_iff_lt_or_eq.1 h1).resolve_right (fun e => hne e.symm)
  by_cases hi2 : i = j - 1
  · subst hi2; exact h2
  · exact List.lt_of_le_of_lt (hp i (j - 1) (by omega) (by omega) (by omega)) h2
theorem compact_mem {zs : List (List UInt8)} {x : List UInt8} : x ∈ Lib.compact zs ↔ x ∈ zs := by
  unfold Lib.compact Lib.compactUpTo
  constructor
  · intro h
    obtain ⟨i, hi, rfl⟩ := List.mem_map.1 h
    have hi' : i < zs.length := List.mem_range.1 (List.mem_filter.1 hi).1
    simp [getElem!_pos, hi']
  · intro h
    obtain ⟨i, hi, rfl⟩ := List.mem_iff_getElem.1 h
    suffices hs : ∀ n, ∀ (hn : n < zs.length), zs[n] = zs[i] → ∃ k, k ∈ (List.range zs.length).filter (Lib.keeps zs.toArray) ∧ zs.toArray[k]! = zs[i] by
      obtain ⟨k, h1, h2⟩ := hs i hi rfl
      exact List.mem_map.2 ⟨k, h1, h2⟩
    intro n
    induction n with
    | zero => intro hn e; exact ⟨0, List.mem_filter.2 ⟨List.mem_range.2 hn, by simp [Lib.keeps]⟩, by simp [getElem!_pos, hn, e]⟩
    | succ n ih =>
      intro hn e
      by_cases he : zs[n] = zs[i]
      · exact ih (by omega) he
      · refine ⟨n + 1, List.mem_filter.2 ⟨List.mem_range.2 hn, ?_⟩, by simp [getElem!_pos, hn, e]⟩
        simp only [Lib.keeps, decide_eq_true_eq]
        right
        simp only [getElem!_pos, List.size_toArray, hn, show n + 1 - 1 < zs.length by omega, List.getElem_toArray]
        rw [e]
        exact fun e2 => he e2.symm
theorem uniq_rise (l : List ByteArray) : (uniq l).Pairwise ltB := by
  unfold uniq
  rw [List.pairwise_map]
  exact (compact_lt (srtL_pair l)).imp (fun {a b} h => by show (ofL a).data.toList < (ofL b).data.toList; simpa [ofL] using h)
theorem mem_uniq {l : List ByteArray} {x : ByteArray} : x ∈ uniq l ↔ x ∈ l := by
  unfold uniq
  rw [List.mem_map]
  have hm : ∀ z, z ∈ srtL l ↔ z ∈ toLs l := fun z => (List.mergeSort_perm _ _).mem_iff
  constructor
  · rintro ⟨a, ha, rfl⟩
    rw [compact_mem, hm] at ha
    obtain ⟨s, hs, rfl⟩ := List.mem_map.1 ha
    rwa [ofL_toL]
  · intro h
    exact ⟨x.data.toList, compact_mem.2 ((hm _).2 (List.mem_map.2 ⟨x, h, rfl⟩)), ofL_toL x⟩
theorem uniq_len (l : List ByteArray) : (uniq l).length ≤ l.length := by
  unfold uniq
  rw [List.length_map, ← srtL_len l]
  exact Lib.compact_length_le _
theorem uniq_of_rise {l : List ByteArray} (h : l.Pairwise ltB) : uniq l = l := riseB_eq (uniq_rise l) h (fun x => mem_uniq)
theorem uniq_uniq (l : List ByteArray) : uniq (uniq l) = uniq l := uniq_of_rise (uniq_rise l)
theorem uniq_congr {l m : List ByteArray} (h : ∀ x, x ∈ l ↔ x ∈ m) : uniq l = uniq m := riseB_eq (uniq_rise l) (uniq_rise m) (fun x => by rw [mem_uniq, mem_uniq, h])
end Go.Proofs.Ythinieokpgmfoaa
