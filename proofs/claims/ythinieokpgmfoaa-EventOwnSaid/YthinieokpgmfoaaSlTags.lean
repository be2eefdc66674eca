/- slices.Compact(slices.Sorted(slices.Values(l))): the three calls, ready for a caller's walk. -/
import Derived.Test.YthinieokpgmfoaaSlUniq
import Derived.Test.YthinieokpgmfoaaBox
set_option linter.unusedVariables false
set_option linter.unusedSimpArgs false
namespace Go.Proofs.Ythinieokpgmfoaa
open Go.RowKit Go.Sort

/-- A row of the call's own that holds texts. -/
theorem own_of_row {w : World} {B : Nat} {v : Value} {n : Nat} {l : List ByteArray} (hn : n = l.length) (h : w.ownsRow B 9 1 v n (l.map Value.string)) : Own Kn.str 9 B (fun _ => False) w v l := by
  subst hn
  refine ⟨l.map (fun s => [Value.string s]), ?_, by simp, by simp; intro _ _; rfl, by simp [Value.oneCell'], fun j x hj => ⟨[.string x], by rw [List.getElem?_map, hj]; rfl, rfl⟩⟩
  have e1 : ((l.map (fun s => [Value.string s])).flatten : List Value) = l.map Value.string := by
    clear h
    induction l with
    | nil => rfl
    | cons y ys ih => simp only [List.map_cons, List.flatten_cons, ih]; rfl
  rw [e1]
  exact h
theorem tagsValues_any (A : Option Addr) (k c : Nat) (w : World) : Calls Try.prog 47 #[.slice A k c] w fun e w' => e = .returned (.func (.func 73) #[] #[.pointer (some ⟨w.heap.size, 0, none⟩)]) ∧ w' = w.alloc (.cells #[.slice A k c] 25) :=
  callsIn_wide.1 (values_in Fence.wide 8 trivial rfl A k c w)
theorem tagsSorted_any {w : World} {ok : Nat → Prop} {A : Option Addr} {c : Nat} {l : List ByteArray} (h : Sl Kn.str ok w A c l) (hl : l.length ≤ 1000000) :
    Calls Try.prog 46 #[.func (.func 73) #[] #[.pointer (some ⟨w.heap.size, 0, none⟩)]] (w.alloc (.cells #[.slice A l.length c] 25)) fun e w' =>
      ∃ v, e = .returned v ∧ w'.ownsRow w.heap.size 9 1 v (srtL l).length ((srtL l).map encStr) ∧ Below w.heap.size w w' := by
  obtain ⟨W1, hW1⟩ : ∃ W1, W1 = w.alloc (.cells #[.slice A l.length c] 25) := ⟨_, rfl⟩
  have hB1 : Below w.heap.size w W1 := by rw [hW1]; exact (Below.refl _ _).alloc (Nat.le_refl _) _
  have hs1 : W1.heap.size = w.heap.size + 1 := by rw [hW1]; simp
  have hc1 : W1.cell? ⟨w.heap.size, 0, none⟩ = some (.slice A l.length c) := by rw [hW1]; simp
  have hx1 : Sl Kn.str (fun j => j < W1.heap.size) W1 A c l := ((show Sl Kn.str _ w A c l from ⟨h.1, h.2.1, h.2.2.bound⟩).below hB1).mono (fun k hk => by have := hk.2; omega)
  have cS := sortedV_in Fence.wide 8 trivial trivial trivial trivial trivial rfl (by omega) (sorts_here 7) w.heap.size A c l W1 (by omega) hc1 hx1 hl
  rw [← hW1]
  refine (callsIn_wide.1 cS).mono ?_
  rintro e w2 ⟨v, rfl, hrow, hb2⟩
  exact ⟨v, rfl, by rw [srtL_len]; exact ownsRow_base_a hrow (by omega), bthen hB1 hb2⟩
theorem tagsCompact_any {w1 : World} {B : Nat} {v : Value} {l : List ByteArray} (h : w1.ownsRow B 9 1 v (srtL l).length ((srtL l).map encStr)) (hl : l.length ≤ 1000000) :
    Calls Try.prog 45 #[v] w1 fun e w' => ∃ v', e = .returned v' ∧ Own Kn.str 9 B (fun _ => False) w' v' (uniq l) ∧ ∀ w0, Below w0.heap.size w0 w1 → w0.heap.size ≤ B → Below w0.heap.size w0 w' := by
  refine (callsIn_wide.1 (compact_any (m := 8) h (by rw [srtL_len]; exact hl))).mono ?_
  rintro e w3 ⟨v', rfl, hrow, hb3⟩
  exact ⟨v', rfl, own_of_row (n := (Lib.compact (srtL l)).length) (by simp [uniq]) (by unfold uniq; rw [enc_toLs, toLs_ofL]; exact hrow), hb3⟩
end Go.Proofs.Ythinieokpgmfoaa
