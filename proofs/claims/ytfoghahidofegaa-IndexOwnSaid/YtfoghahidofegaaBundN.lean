/- slices.Values at []string: what its iterator gives while what lay before the call is kept. slices.AppendSeq(nil, slices.Values(l)): the texts of l, in a row of the call's own. Texts sorted, each once: the plain law. slices.Collect and slices.Sorted of slices.Values(l). slices.Sorted(maps.Keys(m)) at this program: the library's contracts, laid. Written by a program (the kit's lay-iter and its plain mode). slices.Compact of a row of texts. slices.Compact(slices.Sorted(slices.Values(l))): the three calls, ready for a caller's walk. A map of numbers by name: its state as Lean data. Own work. event.Norm. Fields, plain. What events may be, and what comes of them: plain facts. Events brought in order: plain facts. -/
import Derived.Test.YtfoghahidofegaaBundA
import Derived.RangeFuncKeeps
import Derived.RangeFuncBox
import Derived.RangeFuncLeaves
import Derived.OwnWalkIn
import Derived.TacticsInMore
import Derived.LoopNIn
import Derived.LoopIn
import Derived.RangeFuncFrom
import Derived.Maps.AppendAt
import Derived.Lib.SlicesCompact
import Derived.Lib.OwnBridge
import Derived.Sort.EncStr
import Derived.Sort.OwnSorted
import Derived.Shelf.SlIter.Nil
import Derived.Shelf.SortM.Plain
import Derived.Shelf.SortM.SortNone
import Derived.Test.YtfoghahidofegaaProg
import Derived.Test.YtfoghahidofegaaBundC
import Derived.Sort.KeysCollected
import Derived.Maps.OwnSet
import Derived.Maps.Views
import Derived.Deep.DeepFit
import Derived.Carry
set_option linter.unusedVariables false
set_option linter.unusedSimpArgs false
namespace Go.Proofs.Ytfoghahidofegaa
open Go.RowKit


set_option maxRecDepth 100000 in
set_option maxHeartbeats 2000000 in
theorem values1_in (F : Fence) (n : Nat) (hf : F.fn 63) (hro : F.round = none) (hn : 1 ≤ n) (l Bs n0 : Nat) (A : Option Addr) (c : Nat) (xs : List ByteArray) (J Jx : List ByteArray → World → Prop)
    (hY : ∀ pre x W, J pre W → pre.length < xs.length → YieldAt F (n - 1) Try.prog l #[.string x] W fun e W' =>
      (e = .returned (.bool true) ∧ J (pre ++ [x]) W' ∧ Below n0 W W') ∨ (e = .returned (.bool false) ∧ Jx (pre ++ [x]) W'))
    (W : World) (hBs : W.cell? ⟨Bs, 0, none⟩ = some (.slice A xs.length c)) (hx : Sl Kn.str (fun j => j < n0) W A c xs) (h0 : J [] W) :
    CallsIn F n Try.prog 63 #[.func (.yield l) #[] #[], .pointer (some ⟨Bs, 0, none⟩)] W fun e W' => (∃ v, e = .returned v) ∧
      ((∃ ys, ys = xs ∧ J ys W') ∨ (∃ pre, pre <+: xs ∧ Jx pre W')) := by
  have hx2 := hx.2.1
  unfold maxLen at hx2
  have hx1 := hx.1
  refine callsIn_of_wp Try.func63 rfl hf ?_ hro
  simp only [Try.ntmps63, List.size_toArray, List.length_cons, List.length_nil, Nat.reduceAdd, Nat.reduceSub, Array.replicate_succ, Array.replicate_zero, List.push_toArray, List.append_toArray, List.nil_append, List.cons_append]
  gi_wp2
  gi_loopw [7] (fun i wr => ∃ k : Nat, k ≤ xs.length ∧ i = .int .i64 k ∧ J (xs.take k) wr ∧ Below n0 W wr)
    (fun i _ => xs.length - (intOf i).toNat)
  case atStart => exact ⟨0, Nat.zero_le _, rfl, h0, Below.refl _ _⟩
  case round =>
    obtain ⟨k, hk, rfl, hJs, hnx⟩ := hrel
    by_cases hlt : k < xs.length
    · obtain ⟨fn, tmps, assign, body, hy, hR⟩ := hY _ xs[k] wr hJs (by simp; omega)
      obtain ⟨ad, rfl, hc⟩ := row_str_at (hx.stay hnx.size (fun j hj _ => hnx.block j hj)).2.2 hlt
      have htk : xs.take k ++ [xs[k]] = xs.take (k + 1) := by simp
      rw [htk] at hR
      have hpre : xs.take (k + 1) <+: xs := List.take_prefix _ _
      generalize xs[k] = x at *
      have b1 : (0 : Int) ≤ (k : Int) := Int.natCast_nonneg _
      have b2 : (k : Int) < (xs.length : Int) := by omega
      clear htk
      gi_wp2
      refine hR.mono ?_
      rintro e W3 (⟨rfl, hJ3, hk3⟩ | ⟨rfl, hJx3⟩)
      · gi_wp2
        go_roundw
        case rel => exact ⟨k + 1, by omega, by go_num, hJ3, hnx.trans hk3⟩
        case measure => simp [intOf]; omega
      · gi_wp2
        refine bodyPost_ret (results_none rfl _ _ _) rfl ?_
        exact ⟨⟨_, rfl⟩, .inr ⟨_, hpre, hJx3⟩⟩
    · obtain rfl : k = xs.length := by omega
      rw [List.take_length] at hJs
      gi_wp2
      go_end0
      exact ⟨⟨_, rfl⟩, .inl ⟨_, rfl, hJs⟩⟩

set_option maxHeartbeats 1000000 in
theorem values_in (F : Fence) (n : Nat) (hf : F.fn 38) (hro : F.round = none) (A : Option Addr) (k c : Nat) (w : World) :
    CallsIn F n Try.prog 38 #[.slice A k c] w fun e w' => e = .returned (.func (.func 63) #[] #[.pointer (some ⟨w.heap.size, 0, none⟩)]) ∧ w' = w.alloc (.cells #[.slice A k c] 22) := by
  refine callsIn_of_wp Try.func38 rfl hf ?_ hro
  simp only [Try.ntmps38, List.size_toArray, List.length_cons, List.length_nil, Nat.reduceAdd, Nat.reduceSub, Array.replicate_succ, Array.replicate_zero, List.push_toArray, List.append_toArray, List.nil_append, List.cons_append]
  gi_wp2
  go_ret
  exact ⟨rfl, rfl⟩

theorem values_stops (F : Fence) (n : Nat) (hf : F.fn 63) (hro : F.round = none) (hn : 1 ≤ n) (Bs n0 : Nat) (A : Option Addr) (c : Nat) (xs : List ByteArray) (w : World) (hB : Bs < w.heap.size) (hn0 : n0 ≤ w.heap.size)
    (hc : w.cell? ⟨Bs, 0, none⟩ = some (.slice A xs.length c)) (hx : Sl Kn.str (fun j => j < n0) w A c xs) :
    SeqStopsK F n Try.prog 63 #[.pointer (some ⟨Bs, 0, none⟩)] (fun x : ByteArray => #[Value.string x]) (Below n0) (fun ys => ys = xs) (fun pre => pre <+: xs) xs.length w := fun l J Jx W hW _ _ hY h0 =>
  values1_in F n hf hro hn l Bs n0 A c xs J Jx hY W ((hW.cell (p := ⟨Bs, 0, none⟩) hB).trans hc) (hx.stay hW.size (fun j hj _ => hW.block j (by omega))) h0
end Go.Proofs.Ytfoghahidofegaa

namespace Go.Proofs.Ytfoghahidofegaa
open Go.RowKit


/-- Between two rounds: the box at B0 holds a row of the call's own with what came so far. -/
def AppI (w0 : World) (b : Nat) (xs : List ByteArray) (W : World) : Prop :=
  ∃ v, W.heap[b]? = some (.cells #[v] 22 (0, 0)) ∧ W.ownsRow w0.heap.size 9 1 v xs.length (xs.map Value.string) ∧ Below w0.heap.size w0 W
theorem appI_own (w0 : World) (b B : Nat) (hB : w0.heap.size ≤ B) : OwnFrom B (AppI w0 b) := by
  rintro xs W W' row ⟨v, h1, h2, h3⟩ hg hr
  have hne : ∀ (j : Nat) (o : Obj), W.heap[j]? = some o → o.isCells = true → row ≠ some j := fun j o hj ho e => by
    obtain ⟨_, o', ho', hc⟩ := hr j e
    rw [hj] at ho'; cases ho'; rw [ho] at hc; cases hc
  have hkeep : ∀ (j : Nat) (o : Obj), W.heap[j]? = some o → o.isCells = true → W'.heap[j]? = some o := fun j o hj ho =>
    (hg.block j (Array.getElem?_eq_some_iff.1 hj).1 (fun e => hne j o hj ho e.symm)).trans hj
  refine ⟨v, hkeep _ _ h1 rfl, ?_, h3.grown hg h3.size (fun k e => Nat.le_trans hB (hr k e).1)⟩
  refine h2.kept hg ?_
  rcases h2.2 with ⟨rfl, _⟩ | ⟨g, cap, cur, rfl, _, hgb, _⟩
  · exact .inl rfl
  · refine .inr fun e' => ?_
    exact hne g _ hgb rfl (by simpa [Value.ownBlock] using e'.symm)

theorem infoStrV : (Try.prog.info? 9).map (fun i => (i.zero, i.size, i.bytes)) = some (some (.string ByteArray.empty), 1, 16) := by kernel_rfl
theorem cell_of_box {W : World} {B : Nat} {v : Value} {t : TypeId} (h : W.heap[B]? = some (.cells #[v] t (0, 0))) : W.cell? ⟨B, 0, none⟩ = some v ∧ W.frozen? ⟨B, 0, none⟩ = false := by
  constructor <;> simp [World.cell?, World.frozen?, h]

set_option maxRecDepth 100000 in
set_option maxHeartbeats 4000000 in
theorem appendSeq_in (F : Fence) (n : Nat) (hf : F.fn 75) (hv : F.fn 63) (hro : F.round = none) (hn : 3 ≤ n) (Bs : Nat) (A : Option Addr) (c : Nat) (xs : List ByteArray) (w : World) (hB : Bs < w.heap.size)
    (hc : w.cell? ⟨Bs, 0, none⟩ = some (.slice A xs.length c)) (hx : Sl Kn.str (fun j => j < w.heap.size) w A c xs) (hlen : xs.length ≤ 1000000) :
    CallsIn F n Try.prog 75 #[.slice none 0 0, .func (.func 63) #[] #[.pointer (some ⟨Bs, 0, none⟩)]] w fun e w' => ∃ v, e = .returned v ∧
      w'.ownsRow w.heap.size 9 1 v xs.length (xs.map Value.string) ∧ Below w.heap.size w w' := by
  have h1 : 1 ≤ n := by omega
  obtain ⟨i0, hi, hz0, hz1, hz2⟩ := info_parts infoStrV
  refine callsIn_of_wp_marks Try.func75 rfl hf ?_ hro
  simp only [Try.ntmps75, List.size_toArray, List.length_cons, List.length_nil, Nat.reduceAdd, Nat.reduceSub, Array.replicate_succ, Array.replicate_zero, List.push_toArray, List.append_toArray, List.nil_append, List.cons_append]
  gi_wp2
  have hnew : (w.alloc (.cells #[.slice none 0 0] 22)).heap[w.heap.size]? = some (.cells #[.slice none 0 0] 22 (0, 0)) := World.alloc_heap_new w _
  have hbel : Below w.heap.size w (w.alloc (.cells #[.slice none 0 0] 22)) := (Below.refl _ w).alloc (Nat.le_refl _) _
  have hc1 : (w.alloc (.cells #[.slice none 0 0] 22)).cell? ⟨Bs, 0, none⟩ = some (.slice A xs.length c) := (hbel.cell (p := ⟨Bs, 0, none⟩) hB).trans hc
  have hsz : (w.alloc (.cells #[.slice none 0 0] 22)).heap.size = w.heap.size + 1 := by simp
  generalize w.alloc (.cells #[.slice none 0 0] 22) = W0 at *
  refine wpIn_rangeFunc_ownF hro h1 (gf := 63) (lb := #[.pointer (some ⟨Bs, 0, none⟩)]) rfl hv (enters_of Try.func63 (by kernel_rfl) rfl)
    (values_stops F (n - 1) hv hro (by omega) Bs w.heap.size A c xs W0 (by omega) (by omega) hc1 (hx.below hbel)) belowK_t (belowK_b (by omega)) (Below.refl _ _) (fun _ => rfl)
    (AppI w w.heap.size) (fun _ _ _ => False) (appI_own w _ _ (by omega)) (fun _ _ _ _ _ hs _ _ => hs)
    ⟨_, hnew, ⟨rfl, .inl ⟨rfl, rfl⟩⟩, hbel⟩
    (fun x => { tmps := #[.slice none 0 0, .func (.func 63) #[] #[.pointer (some ⟨Bs, 0, none⟩)], .pointer (some ⟨w.heap.size, 0, none⟩), undef, .slice none 0 0, .string x, .func (.func 63) #[] #[.pointer (some ⟨Bs, 0, none⟩)], .string x, undef, undef, undef, undef, undef], defers := [] }) ?assign ?body ?done ?stop
  case assign =>
    intro l x W K hK
    gi_wp2_with (rw [Oper.semAt_eq _ _ _ (fun c h => by cases h)]; go_simp; try go_bits)
    exact hK
  case body =>
    rintro l pre x W ⟨v, hb, hrow, hbl⟩ hl
    obtain ⟨hcell, hfz⟩ := cell_of_box hb
    have hBlt : w.heap.size < W.heap.size := (Array.getElem?_eq_some_iff.1 hb).1
    have hb2 : (W.alloc (.cells #[.string x] 9)).heap[w.heap.size]? = some (.cells #[v] 22 (0, 0)) := (Below.heap_alloc _ _ _ hBlt).trans hb
    have hne : v.ownBlock ≠ some w.heap.size := by
      rcases hrow.2 with ⟨rfl, _⟩ | ⟨g, cap, cur, rfl, _, hgb, _⟩
      · simp [Value.ownBlock]
      · intro e'
        have : g = w.heap.size := by simpa [Value.ownBlock] using e'
        subst this; rw [hgb] at hb; cases hb
    have hrc : ∀ (j : Nat) (o : Obj), v.ownBlock = some j → (W.alloc (.cells #[.string x] 9)).heap[j]? = some o → o.isCells = true := by
      intro j o hj ho
      rcases (hrow.alloc (.cells #[.string x] 9)).2 with ⟨rfl, _⟩ | ⟨g, cap, cur, rfl, _, hgb, _⟩
      · simp [Value.ownBlock] at hj
      · have : g = j := by simpa [Value.ownBlock] using hj
        subst this; rw [hgb] at ho; cases ho; rfl
    gi_wp2_with (first
      | (gi_at_builtin; refine wpListIn_append_own _ rfl _ _ 22 rfl w.heap.size 9 i0 (.string ByteArray.empty) 1 16 Try.underlying22 hi hz0 hz1 hz2 rfl (by decide) _ _ _ rfl (hrow.alloc (.cells #[.string x] 9)) ⟨W.heap.size, 0, none⟩ 1 1 [.string x] rfl rfl (cell_one_new _ _ _) (by simp [Value.oneCell']) (by unfold maxLen; omega) (by omega) (by simp; omega) ?_; intro v' w3 hown' hg3 hnil3
         have hb3 : w3.heap[w.heap.size]? = some (.cells #[v] 22 (0, 0)) := (hg3.block _ (by simp; omega) (fun e => hne e.symm)).trans hb2
         obtain ⟨hc3, hf3⟩ := cell_of_box hb3
         have hg3' : (W.alloc (.cells #[.string x] 9)).grownBy w3 v.ownBlock := hg3
         obtain ⟨V, hV⟩ : ∃ V, v' = V := ⟨_, rfl⟩
         have hown3 : w3.ownsRow w.heap.size 9 1 V (pre ++ [x]).length ((pre ++ [x]).map Value.string) := by rw [← hV]; simpa using hown'
         obtain ⟨g', cap', hV'⟩ : ∃ g' cap', V = .slice (some ⟨g', 0, none⟩) (pre.length + 1) cap' := by
           rcases hown3.2 with ⟨_, h0⟩ | ⟨g', cap', cur, h', _⟩
           · simp at h0
           · exact ⟨g', cap', by simpa using h'⟩
         rw [hV'] at hV
         subst hV
         have HO3 := Lib.hid hown3
         have HV := Lib.hid hV'
         have HG3 := Lib.hid hg3'
         have HB3 := Lib.hid hb3
         clear hown' hg3 hnil3 hown3 hV' hg3' hb3)
      | (rw [Oper.semAt_eq _ _ _ (fun c h => by cases h)]; go_simp; try go_bits))
    have hb3 := HB3.out
    have hg4 : w3.grownBy (w3.setCell ⟨w.heap.size, 0, none⟩ V) (some w.heap.size) := ⟨rfl, rfl, rfl, (KeepsWalks.setCell w3 _ V).size, fun k _ hk => Below.heap_setCell _ _ _ k (fun e => hk (by rw [e]))⟩
    have hbelow : Below w.heap.size W (w3.setCell ⟨w.heap.size, 0, none⟩ V) := (((Below.refl w.heap.size W).alloc (Nat.le_of_lt hBlt) _).grown HG3.out (by simp; omega) (fun k e => (hrow.lt k e).1)).setCell (Nat.le_refl _) _
    have hkeep : KeepsOthers W (w3.setCell ⟨w.heap.size, 0, none⟩ V) := ((KeepsOthers.alloc W _).trans (KeepsOthers.of_grownBy HG3.out hrc)).trans (KeepsOthers.setCell _ _ _)
    refine ⟨by rw [← HV.out]; exact hkeep, by rw [← HV.out]; exact hbelow, V, ?_, ?_, by rw [← HV.out]; exact hbl.trans hbelow⟩
    · rw [← HV.out]
      show (w3.heap.modify w.heap.size _)[w.heap.size]? = _
      obtain ⟨hlt, hk⟩ := Array.getElem?_eq_some_iff.1 hb3
      rw [Array.getElem?_eq_getElem (by rw [Array.size_modify]; exact hlt), Array.getElem_modify_self, hk]
      rfl
    · rw [← HV.out]
      refine HO3.out.kept hg4 ?_
      rcases HO3.out.2 with ⟨e1, _⟩ | ⟨g, cap, cur, e1, _, hgb, _⟩
      · exact .inl (by rw [e1]; rfl)
      · refine .inr fun e' => ?_
        rw [e1] at e'
        have : g = w.heap.size := by simpa [Value.ownBlock] using e'
        subst this; rw [hgb] at hb3; cases hb3
  case done =>
    rintro D ys W hD rfl ⟨v, hb, hrow, hbl⟩ hK
    obtain ⟨hcell, hfz⟩ := cell_of_box hb
    gi_wp2
    refine ⟨by simp, .inl ⟨_, _, rfl, run_takeDeferred hK, ?_⟩⟩
    refine ⟨_, results_tmp rfl _ _ _, v, rfl, ?_, hbl.grown (grownBy_putObj' _ D _) hbl.size (fun k e => by cases e; omega)⟩
    refine hrow.kept (grownBy_putObj' _ D _) ?_
    rcases hrow.2 with ⟨rfl, _⟩ | ⟨g, cap, cur, rfl, _, hgb, _⟩
    · exact .inl rfl
    · refine .inr fun e' => ?_
      have : g = D := by simpa [Value.ownBlock] using e'
      subst this; rw [hgb] at hK; cases hK
  case stop =>
    rintro D c pre W _ _ h _
    exact h.elim
end Go.Proofs.Ytfoghahidofegaa

namespace Go.Proofs.Ytfoghahidofegaa

def ofL (l : List UInt8) : ByteArray := ⟨l.toArray⟩
def toLs (l : List ByteArray) : List (List UInt8) := l.map (fun s => s.data.toList)
theorem ofL_toL (s : ByteArray) : ofL s.data.toList = s := ByteArray.ext (Array.ext' (by simp [ofL]))
theorem toLs_ofL (l : List (List UInt8)) : toLs (l.map ofL) = l := by
  unfold toLs; rw [List.map_map]; conv => rhs; rw [← List.map_id l]
  exact List.map_congr_left (fun a _ => by simp [ofL])
theorem ofL_toLs (l : List ByteArray) : (toLs l).map ofL = l := by
  unfold toLs; rw [List.map_map]; conv => rhs; rw [← List.map_id l]
  exact List.map_congr_left (fun a _ => ofL_toL a)
theorem enc_toLs (l : List ByteArray) : l.map Value.string = (toLs l).map encStr := by
  unfold toLs; rw [List.map_map]
  exact List.map_congr_left (fun a _ => by show Value.string a = Value.string (ofL a.data.toList); rw [ofL_toL])
/-- Sorted. -/
def srtL (l : List ByteArray) : List (List UInt8) := (toLs l).mergeSort fun x y => decide (x ≤ y)
/-- Sorted, each once. -/
def uniq (l : List ByteArray) : List ByteArray := (Lib.compact (srtL l)).map ofL

theorem srtL_len (l : List ByteArray) : (srtL l).length = l.length := by simp [srtL, toLs]
theorem srtL_pair (l : List ByteArray) : (srtL l).Pairwise (fun a b => a ≤ b) := by
  have tr : ∀ a b c : List UInt8, decide (a ≤ b) = true → decide (b ≤ c) = true → decide (a ≤ c) = true := fun a b c h1 h2 => by simp only [decide_eq_true_eq] at *; exact List.le_trans h1 h2
  have tt : ∀ a b : List UInt8, (decide (a ≤ b) || decide (b ≤ a)) = true := fun a b => by simp only [Bool.or_eq_true, decide_eq_true_eq]; exact List.le_total a b
  exact (List.pairwise_mergeSort (le := fun x y => decide (x ≤ y)) tr tt (toLs l)).imp (fun {a b} h => by simpa using h)
theorem compact_lt {zs : List (List UInt8)} (h : zs.Pairwise (fun a b => a ≤ b)) : (Lib.compact zs).Pairwise (fun a b => a < b) := by
  unfold Lib.compact Lib.compactUpTo
  rw [List.pairwise_map]
  refine List.Pairwise.imp_of_mem (R := fun i j => i < j) ?_ (List.Pairwise.filter _ List.pairwise_lt_range)
  intro i j hi hj hij
  obtain ⟨hj1, hj2⟩ := List.mem_filter.1 hj
  have hjl : j < zs.length := List.mem_range.1 hj1
  simp only [Lib.keeps, decide_eq_true_eq] at hj2
  have hne := hj2.resolve_left (by omega)
  simp only [getElem!_pos, List.size_toArray, hjl, show j - 1 < zs.length by omega, show i < zs.length by omega, List.getElem_toArray] at hne ⊢
  have hp := List.pairwise_iff_getElem.1 h
  have h1 : zs[j - 1] ≤ zs[j] := hp (j - 1) j (by omega) hjl (by omega)
  have h2 : zs[j - 1] < zs[j] := (List.le_iff_lt_or_eq.1 h1).resolve_right (fun e => hne e.symm)
  by_cases hi2 : i = j - 1
  · subst hi2; exact h2
  · exact List.lt_of_le_of_lt (hp i (j - 1) (by omega) (by omega) (by omega)) h2
theorem compact_mem {zs : List (List UInt8)} {x : List UInt8} : x ∈ Lib.compact zs ↔ x ∈ zs := by
  unfold Lib.compact Lib.compactUpTo
  constructor
  · intro h
    obtain ⟨i, hi, rfl⟩ := List.mem_map.1 h
    have hi' : i < zs.length := List.mem_range.1 (List.mem_filter.1 hi).1
    simp [getElem!_pos, hi']
  · intro h
    obtain ⟨i, hi, rfl⟩ := List.mem_iff_getElem.1 h
    suffices hs : ∀ n, ∀ (hn : n < zs.length), zs[n] = zs[i] → ∃ k, k ∈ (List.range zs.length).filter (Lib.keeps zs.toArray) ∧ zs.toArray[k]! = zs[i] by
      obtain ⟨k, h1, h2⟩ := hs i hi rfl
      exact List.mem_map.2 ⟨k, h1, h2⟩
    intro n
    induction n with
    | zero => intro hn e; exact ⟨0, List.mem_filter.2 ⟨List.mem_range.2 hn, by simp [Lib.keeps]⟩, by simp [getElem!_pos, hn, e]⟩
    | succ n ih =>
      intro hn e
      by_cases he : zs[n] = zs[i]
      · exact ih (by omega) he
      · refine ⟨n + 1, List.mem_filter.2 ⟨List.mem_range.2 hn, ?_⟩, by simp [getElem!_pos, hn, e]⟩
        simp only [Lib.keeps, decide_eq_true_eq]
        right
        simp only [getElem!_pos, List.size_toArray, hn, show n + 1 - 1 < zs.length by omega, List.getElem_toArray]
        rw [e]
        exact fun e2 => he e2.symm
theorem uniq_rise (l : List ByteArray) : (uniq l).Pairwise ltB := by
  unfold uniq
  rw [List.pairwise_map]
  exact (compact_lt (srtL_pair l)).imp (fun {a b} h => by show (ofL a).data.toList < (ofL b).data.toList; simpa [ofL] using h)
theorem mem_uniq {l : List ByteArray} {x : ByteArray} : x ∈ uniq l ↔ x ∈ l := by
  unfold uniq
  rw [List.mem_map]
  have hm : ∀ z, z ∈ srtL l ↔ z ∈ toLs l := fun z => (List.mergeSort_perm _ _).mem_iff
  constructor
  · rintro ⟨a, ha, rfl⟩
    rw [compact_mem, hm] at ha
    obtain ⟨s, hs, rfl⟩ := List.mem_map.1 ha
    rwa [ofL_toL]
  · intro h
    exact ⟨x.data.toList, compact_mem.2 ((hm _).2 (List.mem_map.2 ⟨x, h, rfl⟩)), ofL_toL x⟩
theorem uniq_len (l : List ByteArray) : (uniq l).length ≤ l.length := by
  unfold uniq
  rw [List.length_map, ← srtL_len l]
  exact Lib.compact_length_le _
theorem uniq_of_rise {l : List ByteArray} (h : l.Pairwise ltB) : uniq l = l := riseB_eq (uniq_rise l) h (fun x => mem_uniq)
theorem uniq_uniq (l : List ByteArray) : uniq (uniq l) = uniq l := uniq_of_rise (uniq_rise l)
theorem uniq_congr {l m : List ByteArray} (h : ∀ x, x ∈ l ↔ x ∈ m) : uniq l = uniq m := riseB_eq (uniq_rise l) (uniq_rise m) (fun x => by rw [mem_uniq, mem_uniq, h])
end Go.Proofs.Ytfoghahidofegaa

namespace Go.Proofs.Ytfoghahidofegaa
open Go.RowKit Go.Sort

set_option maxHeartbeats 1000000 in
theorem collect_in (F : Fence) (n : Nat) (hf : F.fn 61) (ha : F.fn 75) (hv : F.fn 63) (hro : F.round = none) (hn : 4 ≤ n) (Bs : Nat) (A : Option Addr) (c : Nat) (xs : List ByteArray) (w : World) (hB : Bs < w.heap.size)
    (hc : w.cell? ⟨Bs, 0, none⟩ = some (.slice A xs.length c)) (hx : Sl Kn.str (fun j => j < w.heap.size) w A c xs) (hlen : xs.length ≤ 1000000) :
    CallsIn F n Try.prog 61 #[.func (.func 63) #[] #[.pointer (some ⟨Bs, 0, none⟩)]] w fun e w' => ∃ v, e = .returned v ∧
      w'.ownsRow w.heap.size 9 1 v xs.length (xs.map Value.string) ∧ Below w.heap.size w w' := by
  have h1 : 1 ≤ n := by omega
  refine callsIn_of_wp Try.func61 rfl hf ?_ hro
  simp only [Try.ntmps61, List.size_toArray, List.length_cons, List.length_nil, Nat.reduceAdd, Nat.reduceSub, Array.replicate_succ, Array.replicate_zero, List.push_toArray, List.append_toArray, List.nil_append, List.cons_append]
  have C := appendSeq_in F (n - 1) ha hv hro (by omega) Bs A c xs w hB hc hx hlen
  gi_wp2_with (gi_at_call 75; refine C.mono ?_; rintro e w' ⟨v, rfl, hrow, hb⟩)
  go_ret
  exact ⟨v, rfl, hrow, hb⟩

/-- slices.Sort's two contracts at []string, in a fence. -/
def SortsHere (F : Fence) (m : Nat) : Prop :=
  (∀ (blk off cap : Nat) (ss : List (List UInt8)) (W : World), Holds encStr W blk off ss.toArray → blk < W.heap.size → ss.length < 4611686018427387904 →
    CallsIn F m Try.prog 62 #[.slice (some ⟨blk, off, none⟩) ss.length cap] W fun e w' => e = .returned (.tuple #[]) ∧ ∃ k os, w' = grow (putRow encStr (Sort.ahead W k) blk off (ss.mergeSort fun x y => decide (x ≤ y)).toArray) os) ∧
  (∀ (p : Option Addr) (cap : Nat) (W : World), CallsIn F m Try.prog 62 #[.slice p 0 cap] W fun e w' => e = .returned (.tuple #[]) ∧ w' = W)

set_option maxHeartbeats 2000000 in
theorem sortedV_in (F : Fence) (n : Nat) (hf : F.fn 37) (hco : F.fn 61) (hso : F.fn 62) (ha : F.fn 75) (hv : F.fn 63) (hro : F.round = none) (hn : 5 ≤ n) (hsort : SortsHere F (n - 1)) (Bs : Nat) (A : Option Addr) (c : Nat) (xs : List ByteArray) (w : World) (hB : Bs < w.heap.size)
    (hc : w.cell? ⟨Bs, 0, none⟩ = some (.slice A xs.length c)) (hx : Sl Kn.str (fun j => j < w.heap.size) w A c xs) (hlen : xs.length ≤ 1000000) :
    CallsIn F n Try.prog 37 #[.func (.func 63) #[] #[.pointer (some ⟨Bs, 0, none⟩)]] w fun e w' => ∃ v, e = .returned v ∧
      w'.ownsRow w.heap.size 9 1 v xs.length ((srtL xs).map encStr) ∧ Below w.heap.size w w' := by
  have h1 : 1 ≤ n := by omega
  refine callsIn_of_wp Try.func37 rfl hf ?_ hro
  simp only [Try.ntmps37, List.size_toArray, List.length_cons, List.length_nil, Nat.reduceAdd, Nat.reduceSub, Array.replicate_succ, Array.replicate_zero, List.push_toArray, List.append_toArray, List.nil_append, List.cons_append]
  have C := collect_in F (n - 1) hco ha hv hro (by omega) Bs A c xs w hB hc hx hlen
  rw [enc_toLs xs, show xs.length = (toLs xs).length by simp [toLs]] at C
  rw [show xs.length = (toLs xs).length by simp [toLs]]
  unfold srtL
  have hlen2 : (toLs xs).length ≤ 1000000 := by simpa [toLs] using hlen
  generalize toLs xs = ss at C hlen2 ⊢
  clear hc hx hlen
  gi_wp2_with (gi_at_call 61; refine C.mono ?_; rintro e W ⟨v, rfl, hrow, hb⟩)
  rcases hrow.2 with ⟨rfl, hz⟩ | ⟨gb, cap, cur, rfl, hbase, hgb, r1, r2, r3, r4⟩
  · have hss : ss = [] := List.eq_nil_of_length_eq_zero hz
    subst hss
    have cS := hsort.2 none 0 W
    gi_wp2_with (gi_at_call 62; refine cS.mono ?_; rintro e w' ⟨rfl, rfl⟩)
    go_ret
    exact ⟨.slice none 0 0, rfl, by simpa using hrow, hb⟩
  · have hH : Holds encStr W gb 0 ss.toArray := holds_of_block hgb (by simpa using r4)
    have hgl : gb < W.heap.size := (Array.getElem?_eq_some_iff.1 hgb).1
    have cS := hsort.1 gb 0 cap ss W hH hgl (by omega)
    gi_wp2_with (gi_at_call 62; refine cS.mono ?_; rintro e w' ⟨rfl, nn, os, rfl⟩)
    go_ret
    exact ⟨_, rfl, ownsRow_sorted (by simp) hbase hgb r1 r2 r3, hb.grown (grownBy_sorted _) hb.size (fun j hj => by cases hj; exact hbase)⟩
end Go.Proofs.Ytfoghahidofegaa

namespace Go.Proofs.Ytfoghahidofegaa
open Go.RowKit Go.Maps Go.Sort Go.Shelf

def Lit.keys_ren : Go.Shelf.Ren := ⟨fun | 7 => 39 | 10 => 64 | n => n, fun | 23 => 78 | 26 => 9 | 3 => 3 | 28 => 76 | 0 => 0 | 27 => 75 | 33 => 67 | 4 => 4 | n => n, fun | n => n⟩
theorem Lit.keys : Go.Proofs.SlLaysZ.n7 Try.prog Lit.keys_ren := {
  mixed := by kernel_rfl
  f7 := ⟨Try.f39.name, by decide, Try.func39.trans (congrArg some (by kernel_rfl))⟩
  f10 := ⟨Try.f64.name, by decide, Try.func64.trans (congrArg some (by kernel_rfl))⟩
  t0 := Try.underlying0
  a0 := Try.isAgg0
  z0 := Try.sizeOf0
  v0 := Try.zeroValue0
  t4 := Try.underlying4
  a4 := Try.isAgg4
  z4 := Try.sizeOf4
  v4 := Try.zeroValue4
  t23 := Try.underlying78
  a23 := Try.isAgg78
  z23 := Try.sizeOf78
  v23 := Try.zeroValue78
  t26 := Try.underlying9
  a26 := Try.isAgg9
  z26 := Try.sizeOf9
  v26 := Try.zeroValue9
  t27 := Try.underlying75
  a27 := Try.isAgg75
  z27 := Try.sizeOf75
  v27 := Try.zeroValue75
  t28 := Try.underlying76
  a28 := Try.isAgg76
  z28 := Try.sizeOf76
  v28 := Try.zeroValue76
  t33 := Try.underlying67
  a33 := Try.isAgg67
  z33 := Try.sizeOf67
  v33 := Try.zeroValue67 }
def Lit.sorted_ren : Go.Shelf.Ren := ⟨fun | 6 => 37 | 8 => 61 | 9 => 62 | 11 => 75 | 13 => 77 | 12 => 76 | 23 => 93 | 24 => 94 | 14 => 84 | 15 => 85 | 16 => 86 | 17 => 87 | 18 => 88 | 19 => 89 | 20 => 90 | 21 => 91 | 22 => 92 | 25 => 98 | 26 => 99 | 27 => 100 | 28 => 101 | 29 => 102 | 30 => 103 | 31 => 108 | n => n, fun | 26 => 9 | 28 => 76 | 24 => 22 | 0 => 0 | 3 => 3 | 37 => 123 | 48 => 137 | 50 => 139 | 4 => 4 | 40 => 130 | 39 => 129 | 45 => 31 | 5 => 5 | 9 => 9 | 51 => 141 | 55 => 145 | 57 => 149 | 58 => 150 | 33 => 67 | n => n, fun | n => n⟩
theorem Lit.sorted : Go.Proofs.SlLaysZ.n6 Try.prog Lit.sorted_ren := {
  mixed := by kernel_rfl
  f6 := ⟨Try.f37.name, by decide, Try.func37.trans (congrArg some (by kernel_rfl))⟩
  f8 := ⟨Try.f61.name, by decide, Try.func61.trans (congrArg some (by kernel_rfl))⟩
  f11 := ⟨Try.f75.name, by decide, Try.func75.trans (congrArg some (by kernel_rfl))⟩
  t0 := Try.underlying0
  a0 := Try.isAgg0
  z0 := Try.sizeOf0
  v0 := Try.zeroValue0
  t24 := Try.underlying22
  a24 := Try.isAgg22
  z24 := Try.sizeOf22
  v24 := Try.zeroValue22
  t26 := Try.underlying9
  a26 := Try.isAgg9
  z26 := Try.sizeOf9
  v26 := Try.zeroValue9
  t28 := Try.underlying76
  a28 := Try.isAgg76
  z28 := Try.sizeOf76
  v28 := Try.zeroValue76
  i26 := by kernel_rfl }
def Lit.sort_ren : Go.Shelf.Ren := ⟨fun | 6 => 62 | 8 => 77 | 9 => 76 | 19 => 93 | 20 => 94 | 21 => 84 | 22 => 85 | 23 => 86 | 24 => 87 | 25 => 88 | 26 => 89 | 27 => 90 | 28 => 91 | 29 => 92 | 36 => 98 | 31 => 99 | 32 => 100 | 37 => 101 | 38 => 102 | 39 => 103 | 41 => 108 | n => n, fun | 27 => 22 | 29 => 9 | 3 => 3 | 32 => 123 | 26 => 22 | 0 => 0 | 44 => 137 | 46 => 139 | 4 => 4 | 36 => 130 | 35 => 129 | 41 => 31 | 5 => 5 | 9 => 9 | 53 => 141 | 57 => 145 | 63 => 149 | 64 => 150 | n => n, fun | n => n⟩
theorem Lit.sort : Go.Proofs.SlLaysM.n6 Try.prog Lit.sort_ren := {
  mixed := by kernel_rfl
  f6 := ⟨Try.f62.name, by decide, Try.func62.trans (congrArg some (by kernel_rfl))⟩
  f8 := Try.func77.trans (congrArg some (by kernel_rfl))
  f9 := ⟨Try.f76.name, by decide, Try.func76.trans (congrArg some (by kernel_rfl))⟩
  f19 := Try.func93.trans (congrArg some (by kernel_rfl))
  f20 := Try.func94.trans (congrArg some (by kernel_rfl))
  f21 := ⟨Try.f84.name, by decide, Try.func84.trans (congrArg some (by kernel_rfl))⟩
  f22 := ⟨Try.f85.name, by decide, Try.func85.trans (congrArg some (by kernel_rfl))⟩
  f23 := ⟨Try.f86.name, by decide, Try.func86.trans (congrArg some (by kernel_rfl))⟩
  f24 := ⟨Try.f87.name, by decide, Try.func87.trans (congrArg some (by kernel_rfl))⟩
  f25 := ⟨Try.f88.name, by decide, Try.func88.trans (congrArg some (by kernel_rfl))⟩
  f26 := ⟨Try.f89.name, by decide, Try.func89.trans (congrArg some (by kernel_rfl))⟩
  f27 := ⟨Try.f90.name, by decide, Try.func90.trans (congrArg some (by kernel_rfl))⟩
  f28 := ⟨Try.f91.name, by decide, Try.func91.trans (congrArg some (by kernel_rfl))⟩
  f29 := ⟨Try.f92.name, by decide, Try.func92.trans (congrArg some (by kernel_rfl))⟩
  f31 := Try.func99.trans (congrArg some (by kernel_rfl))
  f32 := Try.func100.trans (congrArg some (by kernel_rfl))
  f36 := ⟨Try.f98.name, by decide, Try.func98.trans (congrArg some (by kernel_rfl))⟩
  f37 := ⟨Try.f101.name, by decide, Try.func101.trans (congrArg some (by kernel_rfl))⟩
  f38 := ⟨Try.f102.name, by decide, Try.func102.trans (congrArg some (by kernel_rfl))⟩
  f39 := ⟨Try.f103.name, by decide, Try.func103.trans (congrArg some (by kernel_rfl))⟩
  f41 := ⟨Try.f108.name, by decide, Try.func108.trans (congrArg some (by kernel_rfl))⟩
  t0 := Try.underlying0
  a0 := Try.isAgg0
  z0 := Try.sizeOf0
  v0 := Try.zeroValue0
  t3 := Try.underlying3
  a3 := Try.isAgg3
  z3 := Try.sizeOf3
  v3 := Try.zeroValue3
  t4 := Try.underlying4
  a4 := Try.isAgg4
  z4 := Try.sizeOf4
  v4 := Try.zeroValue4
  t5 := Try.underlying5
  a5 := Try.isAgg5
  z5 := Try.sizeOf5
  v5 := Try.zeroValue5
  t9 := Try.underlying9
  a9 := Try.isAgg9
  z9 := Try.sizeOf9
  v9 := Try.zeroValue9
  t26 := Try.underlying22
  a26 := Try.isAgg22
  z26 := Try.sizeOf22
  v26 := Try.zeroValue22
  t27 := Try.underlying22
  a27 := Try.isAgg22
  z27 := Try.sizeOf22
  v27 := Try.zeroValue22
  t29 := Try.underlying9
  a29 := Try.isAgg9
  z29 := Try.sizeOf9
  v29 := Try.zeroValue9
  t32 := Try.underlying123
  a32 := Try.isAgg123
  z32 := Try.sizeOf123
  v32 := Try.zeroValue123
  t35 := Try.underlying129
  a35 := Try.isAgg129
  z35 := Try.sizeOf129
  v35 := Try.zeroValue129
  t36 := Try.underlying130
  a36 := Try.isAgg130
  z36 := Try.sizeOf130
  v36 := Try.zeroValue130
  t41 := Try.underlying31
  a41 := Try.isAgg31
  z41 := Try.sizeOf31
  v41 := Try.zeroValue31
  t44 := Try.underlying137
  a44 := Try.isAgg137
  z44 := Try.sizeOf137
  v44 := Try.zeroValue137
  t46 := Try.underlying139
  a46 := Try.isAgg139
  z46 := Try.sizeOf139
  v46 := Try.zeroValue139
  t53 := Try.underlying141
  a53 := Try.isAgg141
  z53 := Try.sizeOf141
  v53 := Try.zeroValue141
  t57 := Try.underlying145
  a57 := Try.isAgg145
  z57 := Try.sizeOf145
  v57 := Try.zeroValue145
  t63 := Try.underlying149
  a63 := Try.isAgg149
  z63 := Try.sizeOf149
  v63 := Try.zeroValue149
  t64 := Try.underlying150
  a64 := Try.isAgg150
  z64 := Try.sizeOf150
  v64 := Try.zeroValue150 }

theorem Lit.sorts (m : Nat) : AnyZ.SortsIn Try.prog Lit.sorted_ren Fence.wide m :=
  ⟨fun blk off cap ss W hH hblk hsz => callsIn_wide.2 (AnyM.slices_Sort_string Lit.sort blk off cap ss W hH hblk hsz),
   fun p cap W => callsIn_wide.2 (AnyM.slices_Sort_string_none Lit.sort p cap W)⟩

theorem Lit.mapsKeys (mb : Option Nat) (W : World) : CallsIn Fence.wide 5 Try.prog 39 #[.map mb] W fun e w' => e = .returned (.func (.func 64) #[] #[.pointer (some ⟨W.heap.size, 0, none⟩)]) ∧ w' = W.alloc (.cells #[.map mb] 78) :=
  AnyZ.keys_in Lit.keys Fence.wide 5 trivial rfl mb W

set_option maxHeartbeats 1000000 in
theorem Lit.sortedKeys {H : Type} (b nn : Nat) (D0 : DataW H) (R : Value → Option (DataW H × List MemPlace)) (w : World) (hown : w.ownsMap Try.prog 9 R b nn D0) (hmax : Maps.size D0 ≤ maxLen) (hbytes : Maps.size D0 * 16 ≤ 140737488355328) :
    CallsIn Fence.wide 5 Try.prog 37 #[.func (.func 64) #[] #[.pointer (some ⟨w.heap.size, 0, none⟩)]] (w.alloc (.cells #[.map (some b)] 78)) fun e w' => ∃ (v : Value) (ss : List (List UInt8)), e = .returned v ∧ ss.Perm (strKeys D0) ∧
      w'.ownsRow (w.alloc (.cells #[.map (some b)] 78)).heap.size 9 1 v ss.length ((ss.mergeSort (fun x y => decide (x ≤ y))).map encStr) ∧ (v = .slice none 0 0 ↔ ss = []) ∧ Below (w.alloc (.cells #[.map (some b)] 78)).heap.size (w.alloc (.cells #[.map (some b)] 78)) w' := by
  have hbl := hown.lt
  have hseq : SeqGives Fence.wide 2 Try.prog 64 #[.pointer (some ⟨w.heap.size, 0, none⟩)] encStr (fun ss => ss.Perm (strKeys D0)) (Maps.size D0) (w.alloc (.cells #[.map (some b)] 78)) :=
    AnyZ.keys_gives (ρ := Lit.keys_ren) { Lit.keys with } Fence.wide _ trivial rfl (by omega) w.heap.size b nn D0 _ (by simp) (by simp) (by
      obtain ⟨es, clock, hb, Ft, hs, hD⟩ := hown
      exact ⟨es, clock, (Below.heap_alloc _ _ b hbl).trans hb, Ft, hs, hD⟩)
  exact AnyZ.sorted_in Lit.sorted Fence.wide 5 trivial trivial trivial trivial rfl (by omega) (Lit.sorts _) (enters_of Try.func62 (by kernel_rfl) rfl) 64 #[.pointer (some ⟨w.heap.size, 0, none⟩)] trivial (enters_of Try.func64 (by kernel_rfl) rfl) _ _ hmax hbytes _ hseq

set_option maxHeartbeats 1000000 in
theorem Lit.sortedKeysNil (w : World) :
    CallsIn Fence.wide 5 Try.prog 37 #[.func (.func 64) #[] #[.pointer (some ⟨w.heap.size, 0, none⟩)]] (w.alloc (.cells #[.map none] 78)) fun e w' => ∃ (v : Value) (ss : List (List UInt8)), e = .returned v ∧ ss = [] ∧
      w'.ownsRow (w.alloc (.cells #[.map none] 78)).heap.size 9 1 v ss.length ((ss.mergeSort (fun x y => decide (x ≤ y))).map encStr) ∧ (v = .slice none 0 0 ↔ ss = []) ∧ Below (w.alloc (.cells #[.map none] 78)).heap.size (w.alloc (.cells #[.map none] 78)) w' := by
  have hseq : SeqGives Fence.wide 2 Try.prog 64 #[.pointer (some ⟨w.heap.size, 0, none⟩)] encStr (fun ss : List (List UInt8) => ss = []) 0 (w.alloc (.cells #[.map none] 78)) :=
    AnyZ.keys_gives_nil (ρ := Lit.keys_ren) { Lit.keys with } Fence.wide _ trivial rfl w.heap.size _ (by simp) (by simp)
  exact AnyZ.sorted_in Lit.sorted Fence.wide 5 trivial trivial trivial trivial rfl (by omega) (Lit.sorts _) (enters_of Try.func62 (by kernel_rfl) rfl) 64 #[.pointer (some ⟨w.heap.size, 0, none⟩)] trivial (enters_of Try.func64 (by kernel_rfl) rfl) _ 0 (Nat.zero_le _) (by omega) _ hseq



end Go.Proofs.Ytfoghahidofegaa

namespace Go.Proofs.Ytfoghahidofegaa
open Go.RowKit Go.Sort

theorem sorts_here (m : Nat) : SortsHere Fence.wide m := Lit.sorts m
/-- A row of the call's own that holds texts is a slice of them. -/
theorem sl_of_row {w : World} {B : Nat} {v : Value} {n : Nat} {l : List ByteArray} (hn : n = l.length) (h : w.ownsRow B 9 1 v n (l.map Value.string)) : ∃ A c, v = .slice A l.length c ∧ Sl Kn.str (fun k => B ≤ k) w A c l := by
  subst hn
  have ho : Own Kn.str 9 B (fun _ => False) w v l := by
    refine ⟨l.map (fun s => [Value.string s]), ?_, by simp, by simp; intro _ _; rfl, by simp [Value.oneCell'], fun j x hj => ⟨[.string x], by rw [List.getElem?_map, hj]; rfl, rfl⟩⟩
    have e1 : (l.map (fun s => [Value.string s])).flatten = l.map Value.string := by
      clear h
      induction l with
      | nil => rfl
      | cons y ys ih => simp only [List.map_cons, List.flatten_cons, ih]; rfl
    rw [e1]
    exact h
  obtain ⟨A, c, e, hs⟩ := ho.sl
  exact ⟨A, c, e, hs.mono (fun k hk => hk.elim False.elim id)⟩
theorem row_compact {w1 : World} {B g cap q : Nat} {zs : List (List UInt8)} (h : w1.ownsRow B 9 1 (.slice (some ⟨g, 0, none⟩) zs.length cap) zs.length (zs.map encStr)) :
    (putRow encStr (Sort.ahead w1 q) g 0 (Lib.compact zs ++ List.replicate (zs.length - (Lib.compact zs).length) []).toArray).ownsRow B 9 1 (.slice (some ⟨g, 0, none⟩) (Lib.compact zs).length cap) (Lib.compact zs).length ((Lib.compact zs).map encStr) := by
  have hle := Lib.compact_length_le zs
  have := Lib.ownsRow_putRow (q := q) (k := (Lib.compact zs).length) (ys := Lib.compact zs ++ List.replicate (zs.length - (Lib.compact zs).length) []) h (by simp; omega) hle
  rwa [List.take_left] at this

theorem compact_any {w1 : World} {B m : Nat} {v : Value} {zs : List (List UInt8)} (h : w1.ownsRow B 9 1 v zs.length (zs.map encStr)) (hz : zs.length ≤ 1000000) :
    CallsIn Fence.wide m Try.prog 36 #[v] w1 fun e w' => ∃ v', e = .returned v' ∧ w'.ownsRow B 9 1 v' (Lib.compact zs).length ((Lib.compact zs).map encStr) ∧ ∀ w0, Below w0.heap.size w0 w1 → w0.heap.size ≤ B → Below w0.heap.size w0 w' := by
  refine callsIn_wide.2 ?_
  rcases h.2 with ⟨rfl, hz0⟩ | ⟨g, cap, cur, rfl, hbase, hgb, r1, r2, r3, r4⟩
  · have hzs : zs = [] := List.eq_nil_of_length_eq_zero hz0
    subst hzs
    refine (Lit.compactS0 none 0 w1).mono ?_
    rintro e w' ⟨rfl, rfl⟩
    exact ⟨_, rfl, h, fun w0 hb _ => hb⟩
  · have hH : Holds encStr w1 g 0 zs.toArray := holds_of_block hgb (by simpa using r4)
    refine (Lit.compactS g 0 cap zs w1 hH (by omega) r1).mono ?_
    rintro e w' ⟨rfl, q, rfl⟩
    exact ⟨_, rfl, row_compact h, fun w0 hb hB => Lib.below_putRow hb (by omega)⟩

end Go.Proofs.Ytfoghahidofegaa

namespace Go.Proofs.Ytfoghahidofegaa
open Go.RowKit Go.Sort

/-- A row of the call's own that holds texts. -/
theorem own_of_row {w : World} {B : Nat} {v : Value} {n : Nat} {l : List ByteArray} (hn : n = l.length) (h : w.ownsRow B 9 1 v n (l.map Value.string)) : Own Kn.str 9 B (fun _ => False) w v l := by
  subst hn
  refine ⟨l.map (fun s => [Value.string s]), ?_, by simp, by simp; intro _ _; rfl, by simp [Value.oneCell'], fun j x hj => ⟨[.string x], by rw [List.getElem?_map, hj]; rfl, rfl⟩⟩
  have e1 : ((l.map (fun s => [Value.string s])).flatten : List Value) = l.map Value.string := by
    clear h
    induction l with
    | nil => rfl
    | cons y ys ih => simp only [List.map_cons, List.flatten_cons, ih]; rfl
  rw [e1]
  exact h
theorem tagsValues_any (A : Option Addr) (k c : Nat) (w : World) : Calls Try.prog 38 #[.slice A k c] w fun e w' => e = .returned (.func (.func 63) #[] #[.pointer (some ⟨w.heap.size, 0, none⟩)]) ∧ w' = w.alloc (.cells #[.slice A k c] 22) :=
  callsIn_wide.1 (values_in Fence.wide 8 trivial rfl A k c w)
theorem tagsSorted_any {w : World} {ok : Nat → Prop} {A : Option Addr} {c : Nat} {l : List ByteArray} (h : Sl Kn.str ok w A c l) (hl : l.length ≤ 1000000) :
    Calls Try.prog 37 #[.func (.func 63) #[] #[.pointer (some ⟨w.heap.size, 0, none⟩)]] (w.alloc (.cells #[.slice A l.length c] 22)) fun e w' =>
      ∃ v, e = .returned v ∧ w'.ownsRow w.heap.size 9 1 v (srtL l).length ((srtL l).map encStr) ∧ Below w.heap.size w w' := by
  obtain ⟨W1, hW1⟩ : ∃ W1, W1 = w.alloc (.cells #[.slice A l.length c] 22) := ⟨_, rfl⟩
  have hB1 : Below w.heap.size w W1 := by rw [hW1]; exact (Below.refl _ _).alloc (Nat.le_refl _) _
  have hs1 : W1.heap.size = w.heap.size + 1 := by rw [hW1]; simp
  have hc1 : W1.cell? ⟨w.heap.size, 0, none⟩ = some (.slice A l.length c) := by rw [hW1]; simp
  have hx1 : Sl Kn.str (fun j => j < W1.heap.size) W1 A c l := ((show Sl Kn.str _ w A c l from ⟨h.1, h.2.1, h.2.2.bound⟩).below hB1).mono (fun k hk => by have := hk.2; omega)
  have cS := sortedV_in Fence.wide 8 trivial trivial trivial trivial trivial rfl (by omega) (sorts_here 7) w.heap.size A c l W1 (by omega) hc1 hx1 hl
  rw [← hW1]
  refine (callsIn_wide.1 cS).mono ?_
  rintro e w2 ⟨v, rfl, hrow, hb2⟩
  exact ⟨v, rfl, by rw [srtL_len]; exact ownsRow_base_a hrow (by omega), bthen hB1 hb2⟩
theorem tagsCompact_any {w1 : World} {B : Nat} {v : Value} {l : List ByteArray} (h : w1.ownsRow B 9 1 v (srtL l).length ((srtL l).map encStr)) (hl : l.length ≤ 1000000) :
    Calls Try.prog 36 #[v] w1 fun e w' => ∃ v', e = .returned v' ∧ Own Kn.str 9 B (fun _ => False) w' v' (uniq l) ∧ ∀ w0, Below w0.heap.size w0 w1 → w0.heap.size ≤ B → Below w0.heap.size w0 w' := by
  refine (callsIn_wide.1 (compact_any (m := 8) h (by rw [srtL_len]; exact hl))).mono ?_
  rintro e w3 ⟨v', rfl, hrow, hb3⟩
  exact ⟨v', rfl, own_of_row (n := (Lib.compact (srtL l)).length) (by simp [uniq]) (by unfold uniq; rw [enc_toLs, toLs_ofL]; exact hrow), hb3⟩
end Go.Proofs.Ytfoghahidofegaa

namespace Go.Proofs.Ytfoghahidofegaa
open Go.RowKit Go.Maps Go.WideMaps Go.ChangeMaps

abbrev RVI : Value → Option (DataW Value × List MemPlace) := fun v => some (.held v, [])
abbrev keyB (s : ByteArray) : Lit := .string s.data.toList
theorem keyB_ne {s k : ByteArray} (h : k ≠ s) : keyB k ≠ keyB s := fun e => by
  injection e with e
  exact h (ByteArray.ext (Array.ext' e))
theorem zero_num (w : World) : (zeroValue 3).run Try.prog w = .ok (.int .i64 0) w := by kernel_rfl
/-- The last field's number of a name. -/
def lastF (l : List (ByteArray × Int)) (s : ByteArray) : Int := l.foldl (fun a x => if x.1 = s then x.2 else a) 0
theorem lastF_snoc (l : List (ByteArray × Int)) (x : ByteArray × Int) (s : ByteArray) : lastF (l ++ [x]) s = if x.1 = s then x.2 else lastF l s := by
  simp [lastF, List.foldl_append]
/-- A map of the numbers of fields, in block m. -/
structure Mi (w : World) (m N : Nat) (D : DataW Value) (l : List (ByteArray × Int)) : Prop where
  om : w.ownsMap Try.prog 9 RVI m N D
  val : ∀ s, D.atKey (keyB s) (.held (.int .i64 0)) = .held (.int .i64 (lastF l s))
  has : ∀ s, Maps.has D (keyB s) = true ↔ s ∈ l.map (·.1)
theorem Mi.stay {w w' : World} {m N : Nat} {D : DataW Value} {l : List (ByteArray × Int)} (h : Mi w m N D l) (hb : w'.heap[m]? = w.heap[m]?) : Mi w' m N D l := by
  refine ⟨?_, h.val, h.has⟩
  obtain ⟨es, clock, hh, r⟩ := h.om
  exact ⟨es, clock, hb.trans hh, r⟩
theorem Mi.below {w w' : World} {m N : Nat} {D : DataW Value} {l : List (ByteArray × Int)} (h : Mi w m N D l) (hb : Below w.heap.size w w') : Mi w' m N D l := h.stay (hb.block m h.om.lt)
theorem Mi.new (w : World) : Mi (w.alloc (.map #[] 0)) w.heap.size 0 (.map []) [] :=
  ⟨World.ownsMap_made w _ _ _, fun s => by simp [DataW.atKey, lastF], fun s => by simp [Maps.has]⟩
theorem Mi.look {w : World} {m N : Nat} {D : DataW Value} {l : List (ByteArray × Int)} (h : Mi w m N D l) {t : TypeId} (ht : Try.prog.underlying t = some (.map 9 3)) {s : ByteArray} (hs : s.size ≤ maxLen) :
    (Instr.lookup t (.map (some m)) (.string s) false).run Try.prog w = .ok (.int .i64 (lastF l s)) w := by
  obtain ⟨v, ps, hrun, hv⟩ := h.om.lookup (string_keyed Try.underlying9) ht (zero_num w) (zd := .held (.int .i64 0)) (zp := []) rfl (keyOf_string_mk Try.underlying9 hs)
  simp only [RVI, Option.some.injEq, Prod.mk.injEq] at hv
  have hu2 : DataW.held v = .held (.int .i64 (lastF l s)) := hv.1.trans (h.val s)
  have e : v = .int .i64 (lastF l s) := DataW.held.inj hu2
  rw [← e]
  exact hrun
theorem Mi.put {w : World} {m N : Nat} {D : DataW Value} {l : List (ByteArray × Int)} (h : Mi w m N D l) (hN : N ≤ 1000000) {t : TypeId} (ht : Try.prog.underlying t = some (.map 9 3)) {x : ByteArray × Int} (hs : x.1.size ≤ maxLen) :
    ∃ D' w', (Instr.mapUpdate t (.map (some m)) (.string x.1) (.int .i64 x.2)).run Try.prog w = .ok () w' ∧ Mi w' m (N + 1) D' (l ++ [x]) ∧ w.grownBy w' (some m) := by
  obtain ⟨w', hrun, hom, hg⟩ := h.om.update (string_keyed Try.underlying9) ht (by unfold maxLen; omega) (val := .int .i64 x.2) (d := .held (.int .i64 x.2)) (ps := []) (keyOf_string_mk Try.underlying9 hs) rfl
  refine ⟨_, w', hrun, ⟨hom, fun s => ?_, fun s => ?_⟩, hg⟩
  · rw [lastF_snoc]
    by_cases hk : x.1 = s
    · subst hk
      rw [if_pos rfl]
      exact atKey_put_same h.om.isMap (by trivial) _ _
    · rw [if_neg hk]
      exact (atKey_put_other (keyB_ne (fun e => hk e.symm)) _ _).trans (h.val s)
  · by_cases hk : x.1 = s
    · subst hk
      have := has_put_same (d := DataW.held (Value.int .i64 x.2)) h.om.isMap (k := keyB x.1) (by trivial)
      simp [this]
    · have e : Maps.has (D.put (keyB x.1) (.held (.int .i64 x.2))) (keyB s) = Maps.has D (keyB s) := has_put_other (keyB_ne (fun e => hk e.symm)) _
      rw [e, h.has s, List.map_append, List.mem_append]
      exact ⟨.inl, fun hh => hh.elim id (fun hh => by simp at hh; exact absurd hh.symm hk)⟩
theorem Mi.keys {w : World} {m N : Nat} {D : DataW Value} {l : List (ByteArray × Int)} (h : Mi w m N D l) : (strKeys D).Nodup ∧ (strKeys D).length = Maps.size D ∧ ∀ x, x ∈ strKeys D ↔ Maps.has D (.string x) = true := by
  obtain ⟨es, hD, hpw, _⟩ := h.om.entries (string_keyed Try.underlying9)
  obtain ⟨es', hD', hko⟩ := h.om.keysOf
  obtain rfl : es = es' := by rw [hD] at hD'; simpa using hD'
  subst hD
  have hk : ∀ p ∈ es, ∃ x, p.1 = .string x := fun p hp => by obtain ⟨v, hv⟩ := hko p hp; obtain ⟨x, _, hx, _⟩ := Maps.keyOf_str Try.underlying9 hv; exact ⟨x, hx⟩
  refine ⟨?_, by simp [strKeys, Maps.size], fun x => ?_⟩
  · show (es.map fun p => strOf p.1).Nodup
    refine List.pairwise_map.2 (hpw.imp_of_mem fun {p q} hp' hq' hne e => hne ?_)
    obtain ⟨a, ha⟩ := hk p hp'
    obtain ⟨b, hb⟩ := hk q hq'
    rw [ha, hb] at e ⊢
    exact congrArg _ e
  · rw [Maps.has_eq, List.any_eq_true]
    show x ∈ es.map (fun p => strOf p.1) ↔ _
    rw [List.mem_map]
    constructor
    · rintro ⟨p, hp', rfl⟩
      obtain ⟨a, ha⟩ := hk p hp'
      exact ⟨p, hp', by rw [ha]; simp [Lit.sameKey, strOf]⟩
    · rintro ⟨p, hp', hs⟩
      obtain ⟨a, ha⟩ := hk p hp'
      rw [ha] at hs
      exact ⟨p, hp', by rw [ha]; simpa [Lit.sameKey, strOf] using hs⟩
theorem Mi.sorted {w : World} {m N : Nat} {D : DataW Value} {l : List (ByteArray × Int)} (h : Mi w m N D l) {ss : List (List UInt8)} (hp : ss.Perm (strKeys D)) :
    (ss.mergeSort (fun x y => decide (x ≤ y))).map ofL = uniq (l.map (·.1)) := by
  obtain ⟨hnd, _, hm⟩ := h.keys
  have tr : ∀ a b c : List UInt8, leB a b = true → leB b c = true → leB a c = true := fun a b c h1 h2 => by simp only [leB, decide_eq_true_eq] at *; exact List.le_trans h1 h2
  have tt : ∀ a b : List UInt8, (leB a b || leB b a) = true := fun a b => by simp only [leB, Bool.or_eq_true, decide_eq_true_eq]; exact List.le_total a b
  have hperm := List.mergeSort_perm ss (fun x y => decide (x ≤ y))
  refine riseB_eq ?_ (uniq_rise _) (fun x => ?_)
  · rw [List.pairwise_map]
    have h1 := List.pairwise_mergeSort (le := leB) tr tt ss
    have h2 : (ss.mergeSort leB).Nodup := (hperm.nodup_iff).2 (hp.nodup_iff.2 hnd)
    refine (List.Pairwise.and h1 h2).imp ?_
    rintro a b ⟨h3, h4⟩
    simp only [leB, decide_eq_true_eq] at h3
    show a.toArray.toList < b.toArray.toList
    rcases List.le_iff_lt_or_eq.1 h3 with h5 | h5
    · simpa using h5
    · exact absurd h5 h4
  · rw [mem_uniq, List.mem_map]
    constructor
    · rintro ⟨k, hk, rfl⟩
      have h1 : k ∈ strKeys D := hp.mem_iff.1 (hperm.mem_iff.1 hk)
      have h2 := (hm k).1 h1
      exact (h.has (ofL k)).1 (by simpa [ofL] using h2)
    · intro hx
      exact ⟨x.data.toList, hperm.mem_iff.2 (hp.mem_iff.2 ((hm _).2 ((h.has x).2 hx))), ofL_toL x⟩
theorem mapsKeys_any (m : Nat) (W : World) : Calls Try.prog 39 #[.map (some m)] W fun e w' => e = .returned (.func (.func 64) #[] #[.pointer (some ⟨W.heap.size, 0, none⟩)]) ∧ w' = W.alloc (.cells #[.map (some m)] 78) :=
  callsIn_wide.1 (Lit.mapsKeys (some m) W)
/-- slices.Sorted(maps.Keys(m)). -/
theorem sortedKeys_any {w : World} {m N : Nat} {D : DataW Value} {l : List (ByteArray × Int)} (h : Mi w m N D l) (hN : N ≤ 1000000) :
    Calls Try.prog 37 #[.func (.func 64) #[] #[.pointer (some ⟨w.heap.size, 0, none⟩)]] (w.alloc (.cells #[.map (some m)] 78)) fun e w' =>
      ∃ A c, e = .returned (.slice A (uniq (l.map (·.1))).length c) ∧ Sl Kn.str (fun k => w.heap.size ≤ k) w' A c (uniq (l.map (·.1))) ∧ Below w.heap.size w w' := by
  have hsz := h.om.size_le
  have cS := Lit.sortedKeys m N D RVI w h.om (by unfold maxLen; omega) (by omega)
  refine (callsIn_wide.1 cS).mono ?_
  rintro e w' ⟨v, ss, rfl, hS, hrow, hnil, hb⟩
  have hn := h.sorted hS
  have hperm := List.mergeSort_perm ss (fun x y => decide (x ≤ y))
  generalize ss.mergeSort (fun x y => decide (x ≤ y)) = tt at hrow hn hperm
  have hlen : ss.length = (tt.map ofL).length := by rw [List.length_map]; exact hperm.length_eq.symm
  obtain ⟨A, c, rfl, hs⟩ := sl_of_row (B := w.heap.size) (l := tt.map ofL) hlen (by rw [enc_toLs, toLs_ofL]; exact ownsRow_base_a hrow (by simp))
  rw [hn] at *
  exact ⟨A, c, rfl, hs, ((Below.refl _ w).alloc (Nat.le_refl _) _).trans (hb.mono (by simp))⟩
end Go.Proofs.Ytfoghahidofegaa

namespace Go.Proofs.Ytfoghahidofegaa
open Go.RowKit Go.Maps Go.WideMaps Go.ChangeMaps

/-- All old blocks but g stay. -/
structure Save (g : Nat) (w w' : World) : Prop where
  os : w'.os = w.os
  tape : w'.tape = w.tape
  output : w'.output = w.output
  size : w.heap.size ≤ w'.heap.size
  block : ∀ k, k < w.heap.size → k ≠ g → w'.heap[k]? = w.heap[k]?
theorem Save.refl (g : Nat) (w : World) : Save g w w := ⟨rfl, rfl, rfl, Nat.le_refl _, fun _ _ _ => rfl⟩
theorem Save.below {g : Nat} {w0 w w' : World} (h : Save g w w') (hb : Below w0.heap.size w0 w) (hg : w0.heap.size ≤ g) : Below w0.heap.size w0 w' :=
  ⟨h.os.trans hb.os, h.tape.trans hb.tape, h.output.trans hb.output, Nat.le_trans hb.size h.size, fun k hk => (h.block k (by have := hb.size; omega) (by omega)).trans (hb.block k hk)⟩
theorem infoField : (Try.prog.info? 34).map (fun i => (i.zero, i.size, i.bytes)) = some (some (.agg #[.string ByteArray.empty, .int .i64 0]), 2, 24) := by kernel_rfl
/-- Fields in order: each name once, with its last number. -/
def normF (l : List (ByteArray × Int)) : List (ByteArray × Int) := (uniq (fnames l)).map (fun s => (s, lastF l s))
def normE (e : Event) : Event := ⟨e.stream, e.type, uniq e.tags, normF e.fields⟩
theorem normF_succ (l : List (ByteArray × Int)) (ns : List ByteArray) (k : Nat) (h : k < ns.length) : (ns.take (k + 1)).map (fun s => (s, lastF l s)) = (ns.take k).map (fun s => (s, lastF l s)) ++ [(ns[k], lastF l ns[k])] := by
  rw [List.take_succ_eq_append_getElem h, List.map_append]; rfl
/-- Norm's state at the head of its first loop. -/
structure Nm1 (w : World) (e : Event) (T F : Option Addr) (ct cf : Nat) (vt : Value) (m k : Nat) (wr : World) : Prop where
  b1 : Bx wr w.heap.size 25 [.string e.stream, .string e.type, .slice T e.tags.length ct, .slice F e.fields.length cf]
  b2 : Bx wr (w.heap.size + 1) 25 [.string ⟨#[]⟩, .string ⟨#[]⟩, .slice none 0 0, .slice none 0 0]
  b3 : Bx wr (w.heap.size + 1 + 1) 25 [.string e.stream, .string e.type, vt, .slice none 0 0]
  own : Own Kn.str 9 (w.heap.size + 3) (fun _ => False) wr vt (uniq e.tags)
  mi : ∃ D, Mi wr m k D (e.fields.take k)
  mb : w.heap.size + 3 ≤ m
  mt : ∀ j, vt.ownBlock = some j → j < m
  bel : Below w.heap.size w wr
theorem Nm1.below {w : World} {e : Event} {T F : Option Addr} {ct cf : Nat} {vt : Value} {m k : Nat} {wr wr' : World} (h : Nm1 w e T F ct cf vt m k wr) (hb : Below wr.heap.size wr wr') : Nm1 w e T F ct cf vt m k wr' :=
  ⟨h.b1.under hb, h.b2.under hb, h.b3.under hb, h.own.below hb, h.mi.imp (fun _ hm => hm.below hb), h.mb, h.mt, bthen h.bel hb⟩
theorem Nm1.step {w : World} {e : Event} {T F : Option Addr} {ct cf : Nat} {vt : Value} {m k : Nat} {wr wr' : World} (h : Nm1 w e T F ct cf vt m k wr) (hk : k < e.fields.length) {D : DataW Value} (hm : Mi wr' m (k + 1) D (e.fields.take k ++ [e.fields[k]])) (hg : wr.grownBy wr' (some m)) : Nm1 w e T F ct cf vt m (k + 1) wr' := by
  have hmb := h.mb
  have hne : ∀ j, j < m → some j ≠ some m := fun j hj e => by injection e with e; omega
  refine ⟨h.b1.grown hg (hne _ (by omega)), h.b2.grown hg (hne _ (by omega)), h.b3.grown hg (hne _ (by omega)), ?_, ⟨D, ?_⟩, h.mb, h.mt, ?_⟩
  · exact h.own.stay hg.size (fun j hj hl => hg.block j hl (hj.elim False.elim (fun hj => hne j (h.mt j hj))))
  · rw [List.take_succ_eq_append_getElem hk]; exact hm
  · exact ⟨hg.os.trans h.bel.os, hg.tape.trans h.bel.tape, hg.output.trans h.bel.output, Nat.le_trans h.bel.size hg.size, fun j hj => (hg.block j (by have := h.bel.size; omega) (hne j (by omega))).trans (h.bel.block j hj)⟩

theorem Nm1.put {w : World} {e : Event} {T F : Option Addr} {ct cf : Nat} {vt : Value} {m k : Nat} {wr : World} (h : Nm1 w e T F ct cf vt m k wr) (hk : k < e.fields.length) (hl : k ≤ 1000000) {t : TypeId} (ht : Try.prog.underlying t = some (.map 9 3)) (hs : (e.fields[k]).1.size ≤ maxLen) :
    ∃ w', (Instr.mapUpdate t (.map (some m)) (.string (e.fields[k]).1) (.int .i64 (e.fields[k]).2)).run Try.prog wr = .ok () w' ∧ Nm1 w e T F ct cf vt m (k + 1) w' := by
  obtain ⟨D, hm⟩ := h.mi
  obtain ⟨D', w', h1, h2, h3⟩ := hm.put hl ht hs
  exact ⟨w', h1, h.step hk h2 h3⟩

/-- Norm's state at the head of its second loop; X: the world ahead of it. -/
structure Nm2 (w : World) (e : Event) (vt : Value) (X : World) (j : Nat) (v : Value) (wr : World) : Prop where
  b3 : Bx wr (w.heap.size + 1 + 1) 25 [.string e.stream, .string e.type, vt, v]
  own : Own kField 34 X.heap.size (fun _ => False) wr v (((uniq (fnames e.fields)).take j).map (fun s => (s, lastF e.fields s)))
  save : Save (w.heap.size + 1 + 1) X wr
theorem Nm2.step {w : World} {e : Event} {vt : Value} {X : World} {j : Nat} {v v1 : Value} {wr w1 : World} (h : Nm2 w e vt X j v wr) (hX : w.heap.size + 3 ≤ X.heap.size) (hg : wr.grownBy w1 v.ownBlock) {s : ByteArray} (hs : (uniq (fnames e.fields))[j]? = some s)
    (hown : Own kField 34 X.heap.size (fun _ => False) w1 v1 (((uniq (fnames e.fields)).take j).map (fun s => (s, lastF e.fields s)) ++ [(s, lastF e.fields s)])) :
    Nm2 w e vt X (j + 1) v1 (w1.setCell ⟨w.heap.size + 1 + 1, 3, none⟩ v1) := by
  obtain ⟨hj, hs⟩ := List.getElem?_eq_some_iff.1 hs
  subst hs
  have hv : ∀ i, v.ownBlock = some i → X.heap.size ≤ i := h.own.base_le
  have hbl : ∀ i, i < X.heap.size → w1.heap[i]? = wr.heap[i]? := fun i hi => hg.block i (by have := h.save.size; omega) (fun e => by have := hv i e.symm; omega)
  refine ⟨(h.b3.stay (fun _ => hbl _ (by omega))).set 3 v1, ?_, ⟨hg.os.trans h.save.os, hg.tape.trans h.save.tape, hg.output.trans h.save.output, ?_, fun i hi hne => ?_⟩⟩
  · rw [normF_succ e.fields _ j hj]
    exact hown.setCell (fun _ hk => hk.elim) (fun i hi => by have := hown.base_le i hi; simp; omega) _
  · have := h.save.size; have := hg.size; simp [World.setCell]; omega
  · exact (heap_setCell_other w1 _ i v1 (by simpa using hne)).trans ((hbl i hi).trans (h.save.block i hi hne))

set_option maxHeartbeats 4000000 in
set_option maxRecDepth 100000 in
theorem normE_any {w : World} {e : Event} {T F : Option Addr} {ct cf : Nat} (hT : SlS w T ct e.tags) (hF : SlF w F cf e.fields) (hlt : e.tags.length ≤ 1000000) (hl : e.fields.length ≤ 1000000) (hg : ∀ x ∈ e.fields, x.1.size ≤ maxLen) :
    Calls Try.prog 12 #[vEvent e T ct F cf] w fun r w' => ∃ (vt vf : Value) (M : Nat), r = .returned (.agg #[.string e.stream, .string e.type, vt, vf]) ∧ Own Kn.str 9 w.heap.size (fun _ => False) w' vt (uniq e.tags) ∧
      Own kField 34 M (fun _ => False) w' vf (normF e.fields) ∧ w.heap.size ≤ M ∧ (∀ j, vt.ownBlock = some j → j < M) ∧ Below w.heap.size w w' := by
  have hmm := @run_makeMap Try.prog
  obtain ⟨W3, hW3⟩ : ∃ W3, W3 = (((w.alloc (.cells #[.string e.stream, .string e.type, .slice T e.tags.length ct, .slice F e.fields.length cf] 25)).alloc (.cells #[.string ⟨#[]⟩, .string ⟨#[]⟩, .slice none 0 0, .slice none 0 0] 25)).alloc (.cells #[.string e.stream, .string e.type, .slice none 0 0, .slice none 0 0] 25)) := ⟨_, rfl⟩
  have HW3 := Lib.hid hW3
  have hs3 : W3.heap.size = w.heap.size + 3 := by rw [hW3]; simp
  have hb3 : Below w.heap.size w W3 := by rw [hW3]; exact (((Below.refl _ _).alloc (Nat.le_refl _) _).alloc (by simp) _).alloc (by simp; omega) _
  have x1 : Bx W3 w.heap.size 25 [.string e.stream, .string e.type, .slice T e.tags.length ct, .slice F e.fields.length cf] := by rw [hW3]; exact ((Bx.new w _ _).alloc _).alloc _
  have x2 : Bx W3 (w.heap.size + 1) 25 [.string ⟨#[]⟩, .string ⟨#[]⟩, .slice none 0 0, .slice none 0 0] := by
    rw [hW3]
    exact (by simpa using Bx.new (w.alloc (.cells #[.string e.stream, .string e.type, .slice T e.tags.length ct, .slice F e.fields.length cf] 25)) 25 [.string ⟨#[]⟩, .string ⟨#[]⟩, .slice none 0 0, .slice none 0 0] : Bx _ (w.heap.size + 1) _ _).alloc _
  have x3 : Bx W3 (w.heap.size + 1 + 1) 25 [.string e.stream, .string e.type, .slice none 0 0, .slice none 0 0] := by
    rw [hW3]
    simpa using Bx.new ((w.alloc (.cells #[.string e.stream, .string e.type, .slice T e.tags.length ct, .slice F e.fields.length cf] 25)).alloc (.cells #[.string ⟨#[]⟩, .string ⟨#[]⟩, .slice none 0 0, .slice none 0 0] 25)) 25 [.string e.stream, .string e.type, .slice none 0 0, .slice none 0 0]
  have HT := Lib.hid (hT.below hb3)
  have HF := Lib.hid (hF.below hb3)
  have HF0 := Lib.hid hF
  have HG := Lib.hid hg
  have HS3 := Lib.hid hs3
  have HB3 := Lib.hid hb3
  have X1 := Lib.hid x1
  have X2 := Lib.hid x2
  have X3 := Lib.hid x3
  clear hT hF hg hW3 hs3 hb3 x1 x2 x3
  go_enter Try.func12, Try.ntmps12
  go_upto_region 2 with fail
  rw [← HW3.out]
  clear HW3
  have k2 := X1.out.cell 2
  simp only [List.getElem?_cons_succ, List.getElem?_cons_zero] at k2
  go_upto_region 4 with (first
    | (go_at_call 38; go_fit (tagsValues_any _ _ _ _); rintro r w4 ⟨rfl, rfl⟩)
    | (go_at_call 37; go_fit (tagsSorted_any HT.out hlt); rintro r w5 ⟨v5, rfl, hr5, hb5⟩; have HR5 := Lib.hid hr5; have HB5 := Lib.hid hb5; clear hr5 hb5)
    | (go_at_call 36; go_fit (tagsCompact_any HR5.out hlt); rintro r w6 ⟨vt, rfl, ho6, hb6⟩; have HO6 := Lib.hid ho6; have HB6 := Lib.hid (hb6 W3 HB5.out (Nat.le_refl _)); have f6 := (X3.out.under HB6.out).free 2; have e6 := (X3.out.under HB6.out).cell 2; simp only [List.getElem?_cons_succ, List.getElem?_cons_zero] at e6; obtain ⟨T6, c6, hv6, _⟩ := ho6.sl; subst hv6; clear ho6 hb6))
  have hse : (w6.setCell ⟨w.heap.size + 1 + 1, 2, none⟩ (.slice T6 (uniq e.tags).length c6)).heap.size = w6.heap.size := by simp [World.setCell]
  have h7 : Nm1 w e T F ct cf (.slice T6 (uniq e.tags).length c6) w6.heap.size 0 ((w6.setCell ⟨w.heap.size + 1 + 1, 2, none⟩ (.slice T6 (uniq e.tags).length c6)).alloc (.map #[] 0)) := by
    have hs3 := HS3.out
    have hs6 := HB6.out.size
    have ho := HO6.out.setCell (p := ⟨w.heap.size + 1 + 1, 2, none⟩) (fun k hk => hk.elim) (fun k hk => by have := HO6.out.base_le k hk; simp; omega) (.slice T6 (uniq e.tags).length c6)
    refine ⟨((X1.out.under HB6.out).far (by simp; omega) _).alloc _, ((X2.out.under HB6.out).far (by simp) _).alloc _, ((X3.out.under HB6.out).set 2 _).alloc _, (ho.alloc _).lower (by omega), ⟨.map [], ?_⟩, by omega, fun j hj => HO6.out.block_lt j hj, ?_⟩
    · have := Mi.new (w6.setCell ⟨w.heap.size + 1 + 1, 2, none⟩ (.slice T6 (uniq e.tags).length c6))
      rw [hse] at this
      exact this
    · exact ((bthen HB3.out HB6.out).setCell (by simp; omega) _).alloc (by rw [hse]; omega) _
  generalize (w6.setCell ⟨w.heap.size + 1 + 1, 2, none⟩ (.slice T6 (uniq e.tags).length c6)).alloc (.map #[] 0) = W7 at *
  obtain ⟨m, hm⟩ : ∃ m, m = w6.heap.size := ⟨_, rfl⟩
  rw [← hm] at h7 ⊢
  have H7 := Lib.hid h7
  clear h7 hse HB6 HO6 HB5 HR5 X1 X2 X3 HB3 HT HF HS3 f6 e6 k2 hmm hm
  have HF := HF0
  clear HF0
  have k3 := H7.out.b1.cell 3
  simp only [List.getElem?_cons_succ, List.getElem?_cons_zero] at k3
  have hf1 := HF.out.1
  have hf2 := HF.out.2.1
  unfold maxLen at hf2
  go_wp2_with fail
  clear k3
  go_loopw [24] (fun i wr => ∃ k : Nat, k ≤ e.fields.length ∧ i = .int .i64 k ∧ Nm1 w e T F ct cf (.slice T6 (uniq e.tags).length c6) m k wr) (fun i _ => e.fields.length - (intOf i).toNat)
  case atStart => exact ⟨0, Nat.zero_le _, rfl, H7.out⟩
  case round =>
    clear H7
    obtain ⟨k, hk, rfl, hf⟩ := hrel
    by_cases hlt : k < e.fields.length
    · obtain ⟨ad, rfl, hx, hy⟩ := row_field_at (HF.out.2.2.below hf.bel) hlt
      have hgk := HG.out _ (List.getElem_mem hlt)
      obtain ⟨w8, hrun, hn8⟩ := (hf.below (show Below wr.heap.size wr (wr.alloc (.cells #[.string (e.fields[k]).1, .int .i64 (e.fields[k]).2] 34)) from (Below.refl _ _).alloc (Nat.le_refl _) _)).put hlt (by omega) Try.underlying78 hgk
      have HN8 := Lib.hid hn8
      clear hn8
      generalize e.fields[k] = x at hx hy hgk hrun
      have b1 : (0 : Int) ≤ (k : Int) := Int.natCast_nonneg _
      have b2 : (k : Int) < (e.fields.length : Int) := by omega
      go_wp2_with fail
      go_roundw
      case rel => exact ⟨k + 1, by omega, by go_num, HN8.out⟩
      case measure => simp [intOf]; omega
    · obtain rfl : k = e.fields.length := by omega
      have HN := Lib.hid hf
      clear hf hlt
      go_upto_region 9 with fail
      obtain ⟨w1, hw1⟩ : ∃ w1, w1 = wr := ⟨_, rfl⟩
      subst hw1
      obtain ⟨D, hmi⟩ := HN.out.mi
      rw [List.take_length] at hmi
      have HMI := Lib.hid hmi
      have CS := Lib.hid (sortedKeys_any hmi (by omega))
      have hfn : e.fields.map (·.1) = fnames e.fields := rfl
      rw [hfn] at CS
      clear hmi hfn
      obtain ⟨ns, hns⟩ : ∃ ns, ns = uniq (fnames e.fields) := ⟨_, rfl⟩
      have HNS := Lib.hid hns
      have hgn : ∀ s ∈ ns, s.size ≤ maxLen := fun s hs => by
        rw [hns, mem_uniq] at hs
        obtain ⟨x, hx, rfl⟩ := List.mem_map.1 hs
        exact HG.out x hx
      have hnl : ns.length ≤ 1000000 := by
        rw [hns]
        have := uniq_len (fnames e.fields)
        simp [fnames] at this
        simp [fnames]
        omega
      have HGN := Lib.hid hgn
      have HNL := Lib.hid hnl
      rw [← hns] at CS
      clear hns hgn hnl
      go_upto_region 10 with (first
        | (go_at_call 39; go_fit (mapsKeys_any m _); rintro r w8 ⟨rfl, rfl⟩)
        | (go_at_call 37; go_fit CS.out; rintro r w9 ⟨A9, c9, rfl, hs9, hb9⟩; have HS9 := Lib.hid hs9; have HB9 := Lib.hid hb9; clear hs9 hb9))
      have HX := Lib.hid (HN.out.below HB9.out)
      have HMX := Lib.hid (HMI.out.below HB9.out)
      have HKX := Lib.hid HS9.out.bound
      have HSX := Lib.hid (show w.heap.size + 3 ≤ w1.heap.size ∧ w1.heap.size ≤ w9.heap.size from ⟨Nat.le_trans HN.out.mb (Nat.le_of_lt HMI.out.om.lt), HB9.out.size⟩)
      clear HN HMI HS9 HB9 CS
      have hs1 := HKX.out.1
      have hs2 := HKX.out.2.1
      unfold maxLen at hs2
      go_loopw [38] (fun i wr => ∃ (j : Nat) (v : Value), j ≤ ns.length ∧ i = .int .i64 j ∧ Nm2 w e (.slice T6 (uniq e.tags).length c6) w9 j v wr) (fun i _ => ns.length - (intOf i).toNat)
      case atStart => exact ⟨0, .slice none 0 0, Nat.zero_le _, rfl, HX.out.b3, Own.nil_ _ _ _ _ _, Save.refl _ _⟩
      case round =>
        obtain ⟨j, v, hj, rfl, hf⟩ := hrel
        by_cases hlt : j < ns.length
        · obtain ⟨ad, rfl, hx⟩ := row_str_at (HKX.out.stay hf.save.size (fun i hi hl => hf.save.block i hi.2 (by have := HSX.out; omega))).2.2 hlt
          have hgk := HGN.out _ (List.getElem_mem hlt)
          have hlook := (HMX.out.stay (hf.save.block m HMX.out.om.lt (by have := HX.out.mb; omega))).look Try.underlying78 hgk
          have HF2 := Lib.hid hf
          have HGE := Lib.hid (show (uniq (fnames e.fields))[j]? = some ns[j] by rw [← HNS.out]; exact List.getElem?_eq_getElem hlt)
          have HLN := Lib.hid (show ∀ y, (((uniq (fnames e.fields)).take j).map (fun s => (s, lastF e.fields s)) ++ [y]).length = j + 1 by intro y; rw [← HNS.out]; simp; omega)
          have k3 := hf.b3.cell 3
          simp only [List.getElem?_cons_succ, List.getElem?_cons_zero] at k3
          generalize ns[j] = s at hx hgk hlook HGE
          have e1 : (0 : Int) ≤ (j : Int) := Int.natCast_nonneg _
          have e2 : (j : Int) < (ns.length : Int) := by omega
          have hnl := HNL.out
          clear hf
          go_wp2_with (at_builtin; refine wpList_pushH (W := wr) rfl _ _ _ rfl 34 _ 2 24 Try.underlying23 infoField rfl (by decide) (by decide) rfl w9.heap.size (fun _ => False) v _ rfl HF2.out.own (s, lastF e.fields s) [.string s, .int .i64 (lastF e.fields s)] ⟨[.string s], [.int .i64 (lastF e.fields s)], rfl, rfl, rfl⟩ wr.heap.size rfl rfl HF2.out.save.size (by have := HLN.out (s, 0); simp only [List.length_append, List.length_cons, List.length_nil] at this; omega) ?_; intro v1 w5 hown5 hg5 hat5 hbel5; obtain ⟨V5, cv5, hv5, _⟩ := hown5.sl; rw [HLN.out] at hv5; subst hv5; have j0 := (HF2.out.b3.grown hg5 (fun e => by have := HF2.out.own.base_le _ e.symm; have := HSX.out; omega)).cell 3; simp only [List.getElem?_cons_succ, List.getElem?_cons_zero] at j0; have j1 := (HF2.out.b3.grown hg5 (fun e => by have := HF2.out.own.base_le _ e.symm; have := HSX.out; omega)).free 3; have HST := Lib.hid (HF2.out.step (by have := HSX.out; omega) hg5 HGE.out hown5); clear hown5 hg5 hat5 hbel5)
          go_roundw
          case rel => exact ⟨j + 1, _, by omega, by go_num, HST.out⟩
          case measure => simp [intOf]; omega
        · obtain rfl : j = ns.length := by omega
          have hown := hf.own
          rw [List.take_of_length_le (by rw [← HNS.out]; exact Nat.le_refl _)] at hown
          obtain ⟨V, cv, hv, hsl⟩ := hown.sl
          rw [List.length_map] at hv
          subst hv
          have HOW := Lib.hid (show Own kField 34 w9.heap.size (fun _ => False) wr _ (normF e.fields) from hown)
          have HSV := Lib.hid hf.save
          have HOT := Lib.hid (HX.out.own.stay hf.save.size (fun i hi hl => hf.save.block i hl (by rcases hi with hi | hi; exact hi.elim; have := HX.out.own.base_le i hi; omega)))
          have hb2 := HX.out.b2.stay (fun hl => hf.save.block _ hl (by omega))
          have HB2 := Lib.hid hb2
          have c20 := hb2.cell 0
          have c21 := hb2.cell 1
          have c22 := hb2.cell 2
          have c23 := hb2.cell 3
          have f20 := hb2.free 0
          have f21 := hb2.free 1
          have f22 := hb2.free 2
          have f23 := hb2.free 3
          have c30 := hf.b3.cell 0
          have c31 := hf.b3.cell 1
          have c32 := hf.b3.cell 2
          have c33 := hf.b3.cell 3
          simp only [List.getElem?_cons_succ, List.getElem?_cons_zero] at c20 c21 c22 c23 c30 c31 c32 c33
          clear hf hown hsl hb2
          go_wp2_with fail
          obtain ⟨vf, hvf⟩ : ∃ vf, vf = Value.slice V (uniq (fnames e.fields)).length cv := ⟨_, rfl⟩
          obtain ⟨vt, hvt⟩ : ∃ vt, vt = Value.slice T6 (uniq e.tags).length c6 := ⟨_, rfl⟩
          rw [← hvf] at HOW ⊢
          rw [← hvt] at HOT ⊢
          have hR := Lib.hid (((((HB2.out.set 0 (.string e.stream)).set 1 (.string e.type)).set 2 vt).set 3 vf : Bx _ _ _ _))
          have r0 := hR.out.cell 0
          have r1 := hR.out.cell 1
          have r2 := hR.out.cell 2
          have r3 := hR.out.cell 3
          simp only [List.set_cons_zero, List.set_cons_succ, List.getElem?_cons_succ, List.getElem?_cons_zero] at r0 r1 r2 r3
          have hsx := HSX.out
          have t1 : ∀ i, vt.ownBlock = some i → i ≠ w.heap.size + 1 := fun i hi => by have := HX.out.own.base_le i (by rw [← hvt]; exact hi); omega
          have t2 : ∀ i, vf.ownBlock = some i → i ≠ w.heap.size + 1 := fun i hi => by have := HOW.out.base_le i hi; omega
          have ho1 := (((HOT.out.setCell (p := ⟨w.heap.size + 1, 0, none⟩) (fun _ h => h.elim) t1 (.string e.stream)).setCell (p := ⟨w.heap.size + 1, 1, none⟩) (fun _ h => h.elim) t1 (.string e.type)).setCell (p := ⟨w.heap.size + 1, 2, none⟩) (fun _ h => h.elim) t1 vt).setCell (p := ⟨w.heap.size + 1, 3, none⟩) (fun _ h => h.elim) t1 vf
          have ho2 := (((HOW.out.setCell (p := ⟨w.heap.size + 1, 0, none⟩) (fun _ h => h.elim) t2 (.string e.stream)).setCell (p := ⟨w.heap.size + 1, 1, none⟩) (fun _ h => h.elim) t2 (.string e.type)).setCell (p := ⟨w.heap.size + 1, 2, none⟩) (fun _ h => h.elim) t2 vt).setCell (p := ⟨w.heap.size + 1, 3, none⟩) (fun _ h => h.elim) t2 vf
          have hbf := HSV.out.below HX.out.bel (by omega)
          have hb4 := (((hbf.setCell (p := ⟨w.heap.size + 1, 0, none⟩) (by simp) (.string e.stream)).setCell (p := ⟨w.heap.size + 1, 1, none⟩) (by simp) (.string e.type)).setCell (p := ⟨w.heap.size + 1, 2, none⟩) (by simp) vt).setCell (p := ⟨w.heap.size + 1, 3, none⟩) (by simp) vf
          exact bodyPost_ret (v := .agg #[.string e.stream, .string e.type, vt, vf]) (by simp [results, Try.results12, go_sem, r0, r1, r2, r3]) rfl ⟨vt, vf, w9.heap.size, rfl, ho1.lower (by omega), ho2, by omega, fun i hi => HX.out.own.block_lt i (by rw [← hvt]; exact hi), hb4⟩
end Go.Proofs.Ytfoghahidofegaa

namespace Go.Proofs.Ytfoghahidofegaa
open Go.RowKit

/-- Two fields compared as the model does. -/
theorem fieldEq (x y : ByteArray × Int) : x = y ↔ (x.1 = y.1 ∧ x.2 = y.2) := ⟨fun h => by rw [h]; exact ⟨rfl, rfl⟩, fun h => Prod.ext h.1 h.2⟩
def AlikeF (a b : List (ByteArray × Int)) (k : Nat) : Prop := ∀ j, j < k → a[j]? = b[j]?
theorem alikeF_all {a b : List (ByteArray × Int)} (hl : a.length = b.length) (h : AlikeF a b a.length) : a = b := by
  apply List.ext_getElem? 
  intro i
  by_cases hi : i < a.length
  · exact h i hi
  · rw [List.getElem?_eq_none (by omega), List.getElem?_eq_none (by omega)]
/-- What an event tells of a field. -/
def valF : List (ByteArray × Int) → ByteArray → Int × Bool
  | [], _ => (0, false)
  | x :: xs, s => if x.1 = s then (x.2, true) else valF xs s
theorem valF_here {l : List (ByteArray × Int)} {k : Nat} (h : k < l.length) {s : ByteArray} (e : (l[k]).1 = s) : valF (l.drop k) s = ((l[k]).2, true) := by
  rw [List.drop_eq_getElem_cons h]; simp [valF, e]
theorem valF_next {l : List (ByteArray × Int)} {k : Nat} (h : k < l.length) {s : ByteArray} (e : (l[k]).1 ≠ s) : valF (l.drop k) s = valF (l.drop (k + 1)) s := by
  rw [List.drop_eq_getElem_cons h]; simp [valF, e]
end Go.Proofs.Ytfoghahidofegaa

namespace Go.Proofs.Ytfoghahidofegaa
open Go.RowKit

/-- An event that may be. -/
structure OkE (e : Event) : Prop where
  st : mayN e.stream = true
  ty : mayN e.type = true
  nt : e.tags.length ≤ 6
  nf : e.fields.length ≤ 4
  ts : ∀ s ∈ e.tags, tagN s = true
  fs : ∀ s ∈ fnames e.fields, mayN s = true
  rt : e.tags.Pairwise ltB
  rf : (fnames e.fields).Pairwise ltB
  ov : ∀ x ∈ e.fields, overF x = false
theorem mayE_iff (e : Event) : mayE e = 0 ↔ OkE e := by
  unfold mayE
  constructor
  · intro h
    by_cases h1 : (!mayN e.stream || !mayN e.type) = true
    · rw [if_pos h1] at h; exact absurd h (by decide)
    rw [if_neg h1] at h
    by_cases h2 : (decide (6 < e.tags.length) || decide (4 < e.fields.length)) = true
    · rw [if_pos h2] at h; exact absurd h (by decide)
    rw [if_neg h2] at h
    by_cases h3 : (e.tags.any (fun s => !tagN s) || (fnames e.fields).any (fun s => !mayN s)) = true
    · rw [if_pos h3] at h; exact absurd h (by decide)
    rw [if_neg h3] at h
    by_cases h4 : (!riseN e.tags || !riseN (fnames e.fields) || e.fields.any overF) = true
    · rw [if_pos h4] at h; exact absurd h (by decide)
    simp only [Bool.not_eq_true, Bool.or_eq_false_iff, Bool.not_eq_false', decide_eq_false_iff_not, List.any_eq_false] at h1 h2 h3 h4
    refine ⟨h1.1, h1.2, by omega, by omega, fun s hs => ?_, fun s hs => ?_, (riseN_iff _).1 h4.1.1, (riseN_iff _).1 h4.1.2, fun x hx => ?_⟩
    · simpa using h3.1 s hs
    · simpa using h3.2 s hs
    · simpa using h4.2 x hx
  · intro h
    rw [if_neg (by simp [h.st, h.ty]), if_neg (by simp; exact ⟨h.nt, h.nf⟩), if_neg, if_neg]
    · simp only [Bool.not_eq_true, Bool.or_eq_false_iff, Bool.not_eq_false', List.any_eq_false]
      exact ⟨⟨(riseN_iff _).2 h.rt, (riseN_iff _).2 h.rf⟩, fun x hx => by simp [h.ov x hx]⟩
    · simp only [Bool.not_eq_true, Bool.or_eq_false_iff, List.any_eq_false]
      exact ⟨fun s hs => by simp [h.ts s hs], fun s hs => by simp [h.fs s hs]⟩
theorem less_sub {α : Type} (l : List α) (k : Nat) : (l.take k ++ l.drop (k + 1)).Sublist l := by
  rw [← List.eraseIdx_eq_take_drop_succ]; exact List.eraseIdx_sublist _ _
theorem ok_tags {e : Event} (h : OkE e) (k : Nat) : OkE { e with tags := e.tags.take k ++ e.tags.drop (k + 1) } :=
  ⟨h.st, h.ty, Nat.le_trans (less_sub e.tags k).length_le h.nt, h.nf, fun s hs => h.ts s ((less_sub e.tags k).subset hs), h.fs, h.rt.sublist (less_sub e.tags k), h.rf, h.ov⟩
theorem ok_fields {e : Event} (h : OkE e) (k : Nat) : OkE { e with fields := e.fields.take k ++ e.fields.drop (k + 1) } :=
  ⟨h.st, h.ty, h.nt, Nat.le_trans (less_sub e.fields k).length_le h.nf, h.ts, fun s hs => h.fs s (((less_sub e.fields k).map _).subset hs), h.rt, h.rf.sublist ((less_sub e.fields k).map _), fun x hx => h.ov x ((less_sub e.fields k).subset hx)⟩
theorem not_more {e : Event} {k : Nat} (hk : k < e.tags.length) : mayE { e with tags := e.tags.take (k + 1) ++ e.tags.drop k } ≠ 0 := fun h => by
  have h1 := ((mayE_iff _).1 h).rt
  have h2 := (List.pairwise_append.1 h1).2.2 e.tags[k] (by rw [List.take_succ_eq_append_getElem hk]; exact List.mem_append.2 (.inr (List.mem_singleton.2 rfl))) e.tags[k] (by rw [List.drop_eq_getElem_cons hk]; exact List.mem_cons_self)
  exact ltB_irrefl _ h2
theorem rise_less {l : List ByteArray} (h : l.Pairwise ltB) {k : Nat} (hk : k < l.length) : l[k] ∉ l.take k ++ l.drop (k + 1) := by
  have e1 : l = l.take k ++ l[k] :: l.drop (k + 1) := by rw [← List.drop_eq_getElem_cons hk, List.take_append_drop]
  rw [e1] at h
  obtain ⟨_, h2, h3⟩ := List.pairwise_append.1 h
  intro hm
  rcases List.mem_append.1 hm with hm | hm
  · exact ltB_irrefl _ (h3 _ hm _ List.mem_cons_self)
  · exact ltB_irrefl _ ((List.pairwise_cons.1 h2).1 _ hm)
theorem has_less {e : Event} (h : OkE e) {k : Nat} (hk : k < e.tags.length) : hasS e.tags[k] (e.tags.take k ++ e.tags.drop (k + 1)) = false := by
  cases hh : hasS e.tags[k] (e.tags.take k ++ e.tags.drop (k + 1)) with
  | false => rfl
  | true => exact absurd ((hasS_iff _ _).1 hh) (rise_less h.rt hk)
theorem valF_none {s : ByteArray} : ∀ {l : List (ByteArray × Int)} (_ : s ∉ fnames l), valF l s = (0, false)
  | [], _ => rfl
  | x :: l, h => by
    have h1 : x.1 ≠ s := fun e => h (by rw [← e]; simp [fnames])
    have h2 : s ∉ fnames l := fun hm => h (by simp [fnames] at hm ⊢; exact .inr hm)
    simp [valF, h1, valF_none h2]
theorem valF_at : ∀ {l : List (ByteArray × Int)} (_ : (fnames l).Pairwise ltB) {k : Nat} (hk : k < l.length), valF l (l[k]).1 = ((l[k]).2, true)
  | x :: l, h, 0, _ => by simp [valF]
  | x :: l, h, k + 1, hk => by
    obtain ⟨h1, h2⟩ := List.pairwise_cons.1 (show (x.1 :: fnames l).Pairwise ltB from h)
    have hk' : k < l.length := by simpa using hk
    have h3 : x.1 ≠ (l[k]).1 := fun e => by
      have := h1 (l[k]).1 (List.mem_map.2 ⟨_, List.getElem_mem hk', rfl⟩)
      rw [← e] at this
      exact ltB_irrefl _ this
    simp only [List.getElem_cons_succ]
    rw [show valF (x :: l) (l[k]).1 = valF l (l[k]).1 by simp [valF, h3]]
    exact valF_at h2 hk'
theorem val_less {e : Event} (h : OkE e) {k : Nat} (hk : k < e.fields.length) : valF (e.fields.take k ++ e.fields.drop (k + 1)) (e.fields[k]).1 = (0, false) := by
  refine valF_none ?_
  have hk' : k < (fnames e.fields).length := by simpa [fnames] using hk
  have := rise_less h.rf hk'
  have e1 : (fnames e.fields)[k] = (e.fields[k]).1 := by simp [fnames]
  have e2 : fnames (e.fields.take k ++ e.fields.drop (k + 1)) = (fnames e.fields).take k ++ (fnames e.fields).drop (k + 1) := by simp [fnames, List.map_take, List.map_drop]
  rw [e2, ← e1]
  exact this
end Go.Proofs.Ytfoghahidofegaa

namespace Go.Proofs.Ytfoghahidofegaa
/-! ## What is in order stays so -/
theorem lastF_mem : ∀ {l : List (ByteArray × Int)} (_ : (fnames l).Pairwise ltB) {x : ByteArray × Int} (_ : x ∈ l), lastF l x.1 = x.2 := by
  intro l
  induction hn : l.length generalizing l with
  | zero => intro _ x hx; rw [List.length_eq_zero_iff.1 hn] at hx; cases hx
  | succ n ih =>
    intro h x hx
    obtain ⟨m, y, rfl⟩ : ∃ m y, l = m ++ [y] := ⟨l.dropLast, l.getLast (by intro e; rw [e] at hn; simp at hn), (List.dropLast_concat_getLast _).symm⟩
    rw [lastF_snoc]
    have hp := List.pairwise_append.1 (show (fnames m ++ [y.1]).Pairwise ltB by simpa [fnames] using h)
    rcases List.mem_append.1 hx with hx | hx
    · have hne : y.1 ≠ x.1 := fun e => by
        have := hp.2.2 x.1 (List.mem_map.2 ⟨x, hx, rfl⟩) y.1 (List.mem_singleton.2 rfl)
        rw [e] at this
        exact ltB_irrefl _ this
      rw [if_neg hne]
      exact ih (by simpa using hn) hp.1 hx
    · obtain rfl := List.mem_singleton.1 hx
      rw [if_pos rfl]
theorem normF_of_rise {l : List (ByteArray × Int)} (h : (fnames l).Pairwise ltB) : normF l = l := by
  unfold normF
  rw [uniq_of_rise h]
  unfold fnames
  rw [List.map_map]
  conv => rhs; rw [← List.map_id l]
  refine List.map_congr_left (fun x hx => ?_)
  show (x.1, lastF l x.1) = x
  rw [lastF_mem h hx]
theorem normE_of_ok {e : Event} (h : OkE e) : normE e = e := by
  unfold normE
  rw [uniq_of_rise h.rt, normF_of_rise h.rf]


theorem fnames_normF (l : List (ByteArray × Int)) : fnames (normF l) = uniq (fnames l) := by
  unfold normF fnames
  rw [List.map_map]
  exact List.map_id _
theorem normE_norm (e : Event) : normE (normE e) = normE e := by
  unfold normE
  rw [uniq_uniq, normF_of_rise (l := normF e.fields) (by rw [fnames_normF]; exact uniq_rise _)]
theorem normE_back (e : Event) : normE { e with tags := e.tags.reverse } = normE e := by
  unfold normE
  rw [uniq_congr (l := e.tags.reverse) (m := e.tags) (fun x => List.mem_reverse)]
theorem hasS_uniq (s : ByteArray) (l : List ByteArray) : hasS s (uniq l) = hasS s l := by
  rw [Bool.eq_iff_iff, hasS_iff, hasS_iff, mem_uniq]
theorem valF_norm (e : Event) {k : Nat} (hk : k < (normE e).fields.length) : valF (normE e).fields ((normE e).fields[k]).1 = (((normE e).fields[k]).2, true) :=
  valF_at (by show (fnames (normF e.fields)).Pairwise ltB; rw [fnames_normF]; exact uniq_rise _) hk
theorem mayE_norm {e : Event} (h : mayE e = 1) : mayE (normE e) = 0 ∨ mayE (normE e) = 1 := by
  unfold mayE at h
  by_cases h1 : (!mayN e.stream || !mayN e.type) = true
  · rw [if_pos h1] at h; exact absurd h (by decide)
  rw [if_neg h1] at h
  by_cases h2 : (decide (6 < e.tags.length) || decide (4 < e.fields.length)) = true
  · rw [if_pos h2] at h; exact absurd h (by decide)
  rw [if_neg h2] at h
  by_cases h3 : (e.tags.any (fun s => !tagN s) || (fnames e.fields).any (fun s => !mayN s)) = true
  · rw [if_pos h3] at h; exact absurd h (by decide)
  clear h
  unfold mayE
  rw [if_neg (show ¬ (!mayN (normE e).stream || !mayN (normE e).type) = true from h1), if_neg, if_neg]
  · split
    · exact .inr rfl
    · exact .inl rfl
  · intro h
    apply h3
    rw [Bool.or_eq_true, List.any_eq_true, List.any_eq_true] at h ⊢
    rcases h with ⟨x, h4, h5⟩ | ⟨x, h4, h5⟩
    · exact .inl ⟨x, mem_uniq.1 h4, h5⟩
    · refine .inr ⟨x, ?_, h5⟩
      rw [show fnames (normE e).fields = uniq (fnames e.fields) from fnames_normF _] at h4
      exact mem_uniq.1 h4
  · intro h
    apply h2
    rw [Bool.or_eq_true, decide_eq_true_eq, decide_eq_true_eq] at h ⊢
    have a := uniq_len e.tags
    have b := uniq_len (fnames e.fields)
    have c : (normE e).fields.length = (uniq (fnames e.fields)).length := by show (normF e.fields).length = _; unfold normF; rw [List.length_map]
    have d : (fnames e.fields).length = e.fields.length := by simp [fnames]
    have f : (normE e).tags = uniq e.tags := rfl
    rw [f, c] at h
    omega
end Go.Proofs.Ytfoghahidofegaa
