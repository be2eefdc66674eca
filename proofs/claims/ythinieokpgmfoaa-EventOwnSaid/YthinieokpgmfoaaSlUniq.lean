/- query.sorted: texts rising, each once. -/
import Derived.Test.YthinieokpgmfoaaSlSort
import Derived.Test.YthinieokpgmfoaaIter
import Derived.Test.YthinieokpgmfoaaShelf
set_option linter.unusedVariables false
set_option linter.unusedSimpArgs false
namespace Go.Proofs.Ythinieokpgmfoaa
open Go.RowKit Go.Sort

theorem sorts_here (m : Nat) : SortsHere Fence.wide m := Lit.sorts m
/-- A row of the call's own that holds texts is a slice of them. -/
theorem sl_of_row {w : World} {B : Nat} {v : Value} {n : Nat} {l : List ByteArray} (hn : n = l.length) (h : w.ownsRow B 9 1 v n (l.map Value.string)) : ∃ A c, v = .slice A l.length c ∧ Sl Kn.str (fun k => B ≤ k) w A c l := by
  subst hn
  have ho : Own Kn.str 9 B (fun _ => False) w v l := by
    refine ⟨l.map (fun s => [Value.string s]), ?_, by simp, by simp; intro _ _; rfl, by simp [Value.oneCell'], fun j x hj => ⟨[.string x], by rw [List.getElem?_map, hj]; rfl, rfl⟩⟩
    have e1 : (l.map (fun s => [Value.string s])).flatten = l.map Value.string := by
      clear h
      induction l with
      | nil => rfl
      | cons y ys ih => simp only [List.map_cons, List.flatten_cons, ih]; rfl
    rw [e1]
    exact h
  obtain ⟨A, c, e, hs⟩ := ho.sl
  exact ⟨A, c, e, hs.mono (fun k hk => hk.elim False.elim id)⟩
theorem row_compact {w1 : World} {B g cap q : Nat} {zs : List (List UInt8)} (h : w1.ownsRow B 9 1 (.slice (some ⟨g, 0, none⟩) zs.length cap) zs.length (zs.map encStr)) :
    (putRow encStr (Sort.ahead w1 q) g 0 (Lib.compact zs ++ List.replicate (zs.length - (Lib.compact zs).length) []).toArray).ownsRow B 9 1 (.slice (some ⟨g, 0, none⟩) (Lib.compact zs).length cap) (Lib.compact zs).length ((Lib.compact zs).map encStr) := by
  have hle := Lib.compact_length_le zs
  have := Lib.ownsRow_putRow (q := q) (k := (Lib.compact zs).length) (ys := Lib.compact zs ++ List.replicate (zs.length - (Lib.compact zs).length) []) h (by simp; omega) hle
  rwa [List.take_left] at this

theorem compact_any {w1 : World} {B m : Nat} {v : Value} {zs : List (List UInt8)} (h : w1.ownsRow B 9 1 v zs.length (zs.map encStr)) (hz : zs.length ≤ 1000000) :
    CallsIn Fence.wide m Try.prog 45 #[v] w1 fun e w' => ∃ v', e = .returned v' ∧ w'.ownsRow B 9 1 v' (Lib.compact zs).length ((Lib.compact zs).map encStr) ∧ ∀ w0, Below w0.heap.size w0 w1 → w0.heap.size ≤ B → Below w0.heap.size w0 w' := by
  refine callsIn_wide.2 ?_
  rcases h.2 with ⟨rfl, hz0⟩ | ⟨g, cap, cur, rfl, hbase, hgb, r1, r2, r3, r4⟩
  · have hzs : zs = [] := List.eq_nil_of_length_eq_zero hz0
    subst hzs
    refine (Lit.compactS0 none 0 w1).mono ?_
    rintro e w' ⟨rfl, rfl⟩
    exact ⟨_, rfl, h, fun w0 hb _ => hb⟩
  · have hH : Holds encStr w1 g 0 zs.toArray := holds_of_block hgb (by simpa using r4)
    refine (Lit.compactS g 0 cap zs w1 hH (by omega) r1).mono ?_
    rintro e w' ⟨rfl, q, rfl⟩
    exact ⟨_, rfl, row_compact h, fun w0 hb hB => Lib.below_putRow hb (by omega)⟩

set_option maxHeartbeats 2000000 in
theorem qsorted_any {w : World} {ok : Nat → Prop} {A : Option Addr} {c : Nat} {l : List ByteArray} (h : Sl Kn.str ok w A c l) (hl : l.length ≤ 1000000) :
    Calls Try.prog 39 #[.slice A l.length c] w fun r w' => ∃ A' c', r = .returned (.slice A' (uniq l).length c') ∧ Sl Kn.str (fun k => w.heap.size ≤ k) w' A' c' (uniq l) ∧ Below w.heap.size w w' := by
  refine (callsIn_wide (n := 9)).1 ?_
  obtain ⟨W1, hW1⟩ : ∃ W1, W1 = w.alloc (.cells #[.slice A l.length c] 25) := ⟨_, rfl⟩
  have hB1 : Below w.heap.size w W1 := by rw [hW1]; exact (Below.refl _ _).alloc (Nat.le_refl _) _
  have hs1 : W1.heap.size = w.heap.size + 1 := by rw [hW1]; simp
  have hc1 : W1.cell? ⟨w.heap.size, 0, none⟩ = some (.slice A l.length c) := by rw [hW1]; simp
  have hx1 : Sl Kn.str (fun j => j < W1.heap.size) W1 A c l := ((show Sl Kn.str _ w A c l from ⟨h.1, h.2.1, h.2.2.bound⟩).below hB1).mono (fun k hk => by have := hk.2; omega)
  have cV := values_in Fence.wide 8 trivial rfl A l.length c w
  rw [← hW1] at cV
  have cS := sortedV_in Fence.wide 8 trivial trivial trivial trivial trivial rfl (by omega) (sorts_here 7) w.heap.size A c l W1 (by omega) hc1 hx1 hl
  have hz : (srtL l).length = l.length := srtL_len l
  rw [← hz] at cS
  rw [hz] at cS
  have HB1 := Lib.hid hB1
  have HZ := Lib.hid hz
  have HS1 := Lib.hid hs1
  clear hW1 h hx1 hB1 hc1 hz hs1
  unfold uniq
  generalize srtL l = zs at *
  have hfV : Fence.wide.fn 47 := trivial
  have hfS : Fence.wide.fn 46 := trivial
  have hfC : Fence.wide.fn 45 := trivial
  refine callsIn_of_wp Try.func39 rfl trivial ?_ rfl
  simp only [Try.ntmps39, List.size_toArray, List.length_cons, List.length_nil, Nat.reduceAdd, Nat.reduceSub, Array.replicate_succ, Array.replicate_zero, List.push_toArray, List.append_toArray, List.nil_append, List.cons_append]
  gi_wp2_with (first
    | (gi_at_call 47; refine cV.mono ?_; rintro e w1 ⟨rfl, rfl⟩)
    | (gi_at_call 46; refine cS.mono ?_; rintro e w2 ⟨v, rfl, hrow, hb2⟩; rw [← HZ.out] at hrow; have HB2 := Lib.hid hb2; have cC := compact_any (m := 8) hrow (by rw [HZ.out]; exact hl); clear hrow hb2)
    | (gi_at_call 45; refine cC.mono ?_; rintro e w3 ⟨v', rfl, hrow, hb3⟩))
  go_ret
  have hlen : (Lib.compact zs).length = ((Lib.compact zs).map ofL).length := by simp
  obtain ⟨A', c', rfl, hs⟩ := sl_of_row (l := (Lib.compact zs).map ofL) hlen (by rw [enc_toLs, toLs_ofL]; exact hrow)
  exact ⟨A', c', rfl, hs.mono (fun k hk => by have := HB1.out.size; omega), hb3 w (bthen HB1.out HB2.out) HB1.out.size⟩
end Go.Proofs.Ythinieokpgmfoaa
