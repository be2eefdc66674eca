/- slices.AppendSeq(nil, slices.Values(l)): the texts of l, in a row of the call's own. -/
import Derived.Test.YthinieokpgmfoaaSlV
import Derived.RangeFuncFrom
import Derived.Maps.AppendAt
set_option linter.unusedVariables false
set_option linter.unusedSimpArgs false
namespace Go.Proofs.Ythinieokpgmfoaa
open Go.RowKit


/-- Between two rounds: the box at B0 holds a row of the call's own with what came so far. -/
def AppI (w0 : World) (b : Nat) (xs : List ByteArray) (W : World) : Prop :=
  ∃ v, W.heap[b]? = some (.cells #[v] 25 (0, 0)) ∧ W.ownsRow w0.heap.size 9 1 v xs.length (xs.map Value.string) ∧ Below w0.heap.size w0 W
theorem appI_own (w0 : World) (b B : Nat) (hB : w0.heap.size ≤ B) : OwnFrom B (AppI w0 b) := by
  rintro xs W W' row ⟨v, h1, h2, h3⟩ hg hr
  have hne : ∀ (j : Nat) (o : Obj), W.heap[j]? = some o → o.isCells = true → row ≠ some j := fun j o hj ho e => by
    obtain ⟨_, o', ho', hc⟩ := hr j e
    rw [hj] at ho'; cases ho'; rw [ho] at hc; cases hc
  have hkeep : ∀ (j : Nat) (o : Obj), W.heap[j]? = some o → o.isCells = true → W'.heap[j]? = some o := fun j o hj ho =>
    (hg.block j (Array.getElem?_eq_some_iff.1 hj).1 (fun e => hne j o hj ho e.symm)).trans hj
  refine ⟨v, hkeep _ _ h1 rfl, ?_, h3.grown hg h3.size (fun k e => Nat.le_trans hB (hr k e).1)⟩
  refine h2.kept hg ?_
  rcases h2.2 with ⟨rfl, _⟩ | ⟨g, cap, cur, rfl, _, hgb, _⟩
  · exact .inl rfl
  · refine .inr fun e' => ?_
    exact hne g _ hgb rfl (by simpa [Value.ownBlock] using e'.symm)

theorem infoStrV : (Try.prog.info? 9).map (fun i => (i.zero, i.size, i.bytes)) = some (some (.string ByteArray.empty), 1, 16) := by kernel_rfl
theorem cell_of_box {W : World} {B : Nat} {v : Value} {t : TypeId} (h : W.heap[B]? = some (.cells #[v] t (0, 0))) : W.cell? ⟨B, 0, none⟩ = some v ∧ W.frozen? ⟨B, 0, none⟩ = false := by
  constructor <;> simp [World.cell?, World.frozen?, h]

set_option maxRecDepth 100000 in
set_option maxHeartbeats 4000000 in
theorem appendSeq_in (F : Fence) (n : Nat) (hf : F.fn 83) (hv : F.fn 73) (hro : F.round = none) (hn : 3 ≤ n) (Bs : Nat) (A : Option Addr) (c : Nat) (xs : List ByteArray) (w : World) (hB : Bs < w.heap.size)
    (hc : w.cell? ⟨Bs, 0, none⟩ = some (.slice A xs.length c)) (hx : Sl Kn.str (fun j => j < w.heap.size) w A c xs) (hlen : xs.length ≤ 1000000) :
    CallsIn F n Try.prog 83 #[.slice none 0 0, .func (.func 73) #[] #[.pointer (some ⟨Bs, 0, none⟩)]] w fun e w' => ∃ v, e = .returned v ∧
      w'.ownsRow w.heap.size 9 1 v xs.length (xs.map Value.string) ∧ Below w.heap.size w w' := by
  have h1 : 1 ≤ n := by omega
  obtain ⟨i0, hi, hz0, hz1, hz2⟩ := info_parts infoStrV
  refine callsIn_of_wp_marks Try.func83 rfl hf ?_ hro
  simp only [Try.ntmps83, List.size_toArray, List.length_cons, List.length_nil, Nat.reduceAdd, Nat.reduceSub, Array.replicate_succ, Array.replicate_zero, List.push_toArray, List.append_toArray, List.nil_append, List.cons_append]
  gi_wp2
  have hnew : (w.alloc (.cells #[.slice none 0 0] 25)).heap[w.heap.size]? = some (.cells #[.slice none 0 0] 25 (0, 0)) := World.alloc_heap_new w _
  have hbel : Below w.heap.size w (w.alloc (.cells #[.slice none 0 0] 25)) := (Below.refl _ w).alloc (Nat.le_refl _) _
  have hc1 : (w.alloc (.cells #[.slice none 0 0] 25)).cell? ⟨Bs, 0, none⟩ = some (.slice A xs.length c) := (hbel.cell (p := ⟨Bs, 0, none⟩) hB).trans hc
  have hsz : (w.alloc (.cells #[.slice none 0 0] 25)).heap.size = w.heap.size + 1 := by simp
  generalize w.alloc (.cells #[.slice none 0 0] 25) = W0 at *
  refine wpIn_rangeFunc_ownF hro h1 (gf := 73) (lb := #[.pointer (some ⟨Bs, 0, none⟩)]) rfl hv (enters_of Try.func73 (by kernel_rfl) rfl)
    (values_stops F (n - 1) hv hro (by omega) Bs w.heap.size A c xs W0 (by omega) (by omega) hc1 (hx.below hbel)) belowK_t (belowK_b (by omega)) (Below.refl _ _) (fun _ => rfl)
    (AppI w w.heap.size) (fun _ _ _ => False) (appI_own w _ _ (by omega)) (fun _ _ _ _ _ hs _ _ => hs)
    ⟨_, hnew, ⟨rfl, .inl ⟨rfl, rfl⟩⟩, hbel⟩
    (fun x => { tmps := #[.slice none 0 0, .func (.func 73) #[] #[.pointer (some ⟨Bs, 0, none⟩)], .pointer (some ⟨w.heap.size, 0, none⟩), undef, .slice none 0 0, .string x, .func (.func 73) #[] #[.pointer (some ⟨Bs, 0, none⟩)], .string x, undef, undef, undef, undef, undef], defers := [] }) ?assign ?body ?done ?stop
  case assign =>
    intro l x W K hK
    gi_wp2_with (rw [Oper.semAt_eq _ _ _ (fun c h => by cases h)]; go_simp; try go_bits)
    exact hK
  case body =>
    rintro l pre x W ⟨v, hb, hrow, hbl⟩ hl
    obtain ⟨hcell, hfz⟩ := cell_of_box hb
    have hBlt : w.heap.size < W.heap.size := (Array.getElem?_eq_some_iff.1 hb).1
    have hb2 : (W.alloc (.cells #[.string x] 9)).heap[w.heap.size]? = some (.cells #[v] 25 (0, 0)) := (Below.heap_alloc _ _ _ hBlt).trans hb
    have hne : v.ownBlock ≠ some w.heap.size := by
      rcases hrow.2 with ⟨rfl, _⟩ | ⟨g, cap, cur, rfl, _, hgb, _⟩
      · simp [Value.ownBlock]
      · intro e'
        have : g = w.heap.size := by simpa [Value.ownBlock] using e'
        subst this; rw [hgb] at hb; cases hb
    have hrc : ∀ (j : Nat) (o : Obj), v.ownBlock = some j → (W.alloc (.cells #[.string x] 9)).heap[j]? = some o → o.isCells = true := by
      intro j o hj ho
      rcases (hrow.alloc (.cells #[.string x] 9)).2 with ⟨rfl, _⟩ | ⟨g, cap, cur, rfl, _, hgb, _⟩
      · simp [Value.ownBlock] at hj
      · have : g = j := by simpa [Value.ownBlock] using hj
        subst this; rw [hgb] at ho; cases ho; rfl
    gi_wp2_with (first
      | (gi_at_builtin; refine wpListIn_append_own _ rfl _ _ 25 rfl w.heap.size 9 i0 (.string ByteArray.empty) 1 16 Try.underlying25 hi hz0 hz1 hz2 rfl (by decide) _ _ _ rfl (hrow.alloc (.cells #[.string x] 9)) ⟨W.heap.size, 0, none⟩ 1 1 [.string x] rfl rfl (cell_one_new _ _ _) (by simp [Value.oneCell']) (by unfold maxLen; omega) (by omega) (by simp; omega) ?_; intro v' w3 hown' hg3 hnil3
         have hb3 : w3.heap[w.heap.size]? = some (.cells #[v] 25 (0, 0)) := (hg3.block _ (by simp; omega) (fun e => hne e.symm)).trans hb2
         obtain ⟨hc3, hf3⟩ := cell_of_box hb3
         have hg3' : (W.alloc (.cells #[.string x] 9)).grownBy w3 v.ownBlock := hg3
         obtain ⟨V, hV⟩ : ∃ V, v' = V := ⟨_, rfl⟩
         have hown3 : w3.ownsRow w.heap.size 9 1 V (pre ++ [x]).length ((pre ++ [x]).map Value.string) := by rw [← hV]; simpa using hown'
         obtain ⟨g', cap', hV'⟩ : ∃ g' cap', V = .slice (some ⟨g', 0, none⟩) (pre.length + 1) cap' := by
           rcases hown3.2 with ⟨_, h0⟩ | ⟨g', cap', cur, h', _⟩
           · simp at h0
           · exact ⟨g', cap', by simpa using h'⟩
         rw [hV'] at hV
         subst hV
         have HO3 := Lib.hid hown3
         have HV := Lib.hid hV'
         have HG3 := Lib.hid hg3'
         have HB3 := Lib.hid hb3
         clear hown' hg3 hnil3 hown3 hV' hg3' hb3)
      | (rw [Oper.semAt_eq _ _ _ (fun c h => by cases h)]; go_simp; try go_bits))
    have hb3 := HB3.out
    have hg4 : w3.grownBy (w3.setCell ⟨w.heap.size, 0, none⟩ V) (some w.heap.size) := ⟨rfl, rfl, rfl, (KeepsWalks.setCell w3 _ V).size, fun k _ hk => Below.heap_setCell _ _ _ k (fun e => hk (by rw [e]))⟩
    have hbelow : Below w.heap.size W (w3.setCell ⟨w.heap.size, 0, none⟩ V) := (((Below.refl w.heap.size W).alloc (Nat.le_of_lt hBlt) _).grown HG3.out (by simp; omega) (fun k e => (hrow.lt k e).1)).setCell (Nat.le_refl _) _
    have hkeep : KeepsOthers W (w3.setCell ⟨w.heap.size, 0, none⟩ V) := ((KeepsOthers.alloc W _).trans (KeepsOthers.of_grownBy HG3.out hrc)).trans (KeepsOthers.setCell _ _ _)
    refine ⟨by rw [← HV.out]; exact hkeep, by rw [← HV.out]; exact hbelow, V, ?_, ?_, by rw [← HV.out]; exact hbl.trans hbelow⟩
    · rw [← HV.out]
      show (w3.heap.modify w.heap.size _)[w.heap.size]? = _
      obtain ⟨hlt, hk⟩ := Array.getElem?_eq_some_iff.1 hb3
      rw [Array.getElem?_eq_getElem (by rw [Array.size_modify]; exact hlt), Array.getElem_modify_self, hk]
      rfl
    · rw [← HV.out]
      refine HO3.out.kept hg4 ?_
      rcases HO3.out.2 with ⟨e1, _⟩ | ⟨g, cap, cur, e1, _, hgb, _⟩
      · exact .inl (by rw [e1]; rfl)
      · refine .inr fun e' => ?_
        rw [e1] at e'
        have : g = w.heap.size := by simpa [Value.ownBlock] using e'
        subst this; rw [hgb] at hb3; cases hb3
  case done =>
    rintro D ys W hD rfl ⟨v, hb, hrow, hbl⟩ hK
    obtain ⟨hcell, hfz⟩ := cell_of_box hb
    gi_wp2
    refine ⟨by simp, .inl ⟨_, _, rfl, run_takeDeferred hK, ?_⟩⟩
    refine ⟨_, results_tmp rfl _ _ _, v, rfl, ?_, hbl.grown (grownBy_putObj' _ D _) hbl.size (fun k e => by cases e; omega)⟩
    refine hrow.kept (grownBy_putObj' _ D _) ?_
    rcases hrow.2 with ⟨rfl, _⟩ | ⟨g, cap, cur, rfl, _, hgb, _⟩
    · exact .inl rfl
    · refine .inr fun e' => ?_
      have : g = D := by simpa [Value.ownBlock] using e'
      subst this; rw [hgb] at hK; cases hK
  case stop =>
    rintro D c pre W _ _ h _
    exact h.elim
end Go.Proofs.Ythinieokpgmfoaa
