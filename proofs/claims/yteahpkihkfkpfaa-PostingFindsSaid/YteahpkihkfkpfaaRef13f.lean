/- registrarref13.Lists: Type (walk). registrarref13.Lists: Tag (walk). registrarref13.Lists: Find (walk). -/
import Derived.Test.YteahpkihkfkpfaaRef06
import Derived.Test.YteahpkihkfkpfaaRef12t
set_option linter.unusedVariables false
set_option linter.unusedSimpArgs false
namespace Go.Proofs.Yteahpkihkfkpfaa
open Go.RowKit

/-- The reference's lists in block y; its rows hang on no block of X. -/
structure Rl (w : World) (y : Nat) (E : Option Addr) (cE : Nat) (P : Option Addr) (cP : Nat) (es : List EP) (X : Nat → Prop) : Prop where
  bx : Bx w y 59 [.slice E es.length cE, .slice P es.length cP]
  se : Sl kEvent (fun k => k ≠ y ∧ ¬ X k) w E cE (es.map (·.1))
  sp : Sl (Kn.int .i64) (fun k => k ≠ y ∧ ¬ X k) w P cP (posE es)
  xy : ¬ X y
  xs : ∀ k, X k → k < w.heap.size
section
variable {w w' : World} {y cE cP : Nat} {E P : Option Addr} {es : List EP} {X Y : Nat → Prop}
theorem Rl.far (h : Rl w y E cE P cP es X) (hb : But X w w') : Rl w' y E cE P cP es X :=
  ⟨h.bx.stay (fun hk => hb.block _ hk h.xy), h.se.stay hb.size (fun k hk hl => hb.block k hl hk.2), h.sp.stay hb.size (fun k hk hl => hb.block k hl hk.2), h.xy, fun k hk => Nat.lt_of_lt_of_le (h.xs k hk) hb.size⟩
theorem Rl.below (h : Rl w y E cE P cP es X) (hb : Below w.heap.size w w') : Rl w' y E cE P cP es X := h.far (But.of_below hb)
theorem Rl.fence (h : Rl w y E cE P cP es X) (hb : Below w.heap.size w w') (hY : ∀ k, Y k → X k ∨ (w.heap.size ≤ k ∧ k < w'.heap.size)) : Rl w' y E cE P cP es Y := by
  have hy := h.bx.lt
  have hm : ∀ k, ((k ≠ y ∧ ¬ X k) ∧ k < w.heap.size) → k ≠ y ∧ ¬ Y k := fun k hk => ⟨hk.1.1, fun hx => (hY _ hx).elim hk.1.2 (fun h => by omega)⟩
  exact ⟨h.bx.under hb, (h.se.bound.below hb).mono hm, (h.sp.bound.below hb).mono hm, fun hx => (hY _ hx).elim h.xy (fun h => by omega), fun k hk => (hY k hk).elim (fun h1 => Nat.lt_of_lt_of_le (h.xs k h1) hb.size) (fun h => h.2)⟩
end

set_option maxHeartbeats 1000000 in
theorem refType_any {w : World} {y cE cP : Nat} {E P : Option Addr} {es : List EP} {X : Nat → Prop} (h : Rl w y E cE P cP es X) (hl : es.length ≤ 1000000) (s : ByteArray) :
    Calls Try.prog 34 #[.pointer (some ⟨y, 0, none⟩), .string s] w (RetInts (typeE es s) w) := by
  have H := Lib.hid h
  have hc1 := h.se.1
  have hc2 := h.se.2.1
  have hc3 := h.sp.1
  have hc4 := h.sp.2.1
  unfold maxLen at hc2 hc4
  rw [List.length_map] at hc1
  unfold posE at hc3
  rw [List.length_map] at hc3
  clear h
  have HO0 := Lib.hid (Own.lit0 (Kn.int .i64) 3 w.heap.size (fun _ => False) w (Nat.le_refl _))
  go_enter Try.func34, Try.ntmps34
  go_wp2_with fail
  go_loopw [5, 6] (fun v i wr => ∃ k : Nat, k ≤ es.length ∧ i = .int .i64 k ∧ Own (Kn.int .i64) 3 w.heap.size (fun _ => False) wr v (typeE (es.take k) s) ∧ Below w.heap.size w wr) (fun _ i _ => es.length - (intOf i).toNat)
  case atStart => exact ⟨0, Nat.zero_le _, rfl, HO0.out, (Below.refl _ _).alloc (Nat.le_refl _) _⟩
  case round =>
    obtain ⟨k, hk, rfl, ho, hb⟩ := hrel
    have hy0 := (H.out.bx.under hb).cell 0
    have hy1 := (H.out.bx.under hb).cell 1
    simp only [List.getElem?_cons_succ, List.getElem?_cons_zero] at hy0 hy1
    have HO := Lib.hid ho
    have HB := Lib.hid hb
    clear ho hb
    by_cases hlt : k < es.length
    · obtain ⟨ad, T, ct, F, cf, hE, hx0, hx1, hx2, hx3, htg, hadl⟩ := row_event_at (H.out.se.below HB.out).2.2 (j := k) (by simp; omega)
      obtain ⟨pd, hP, hp1⟩ := row_int_at (H.out.sp.below HB.out).2.2 (j := k) (by simp [posE]; omega)
      subst hE
      subst hP
      have htk : es.take (k + 1) = es.take k ++ [es[k]] := List.take_succ_eq_append_getElem hlt
      have hsn := typeE_snoc (es.take k) es[k].1 es[k].2 s
      rw [show [(es[k].1, es[k].2)] = [es[k]] from rfl, ← htk] at hsn
      have hle : (typeE (es.take k) s).length ≤ k := by
        unfold typeE; rw [List.length_map]; exact Nat.le_trans (List.length_filter_le _ _) (by rw [List.length_take]; omega)
      have h1 : (es.map (·.1))[k]'(by simp; omega) = es[k].1 := by simp
      have h2 : (posE es)[k]'(by simp [posE]; omega) = es[k].2 := by simp [posE]
      rw [h1] at hx0 hx1 hx2 hx3
      rw [h2] at hp1
      generalize es[k].1 = e at hsn hx0 hx1 hx2 hx3
      generalize es[k].2 = p at hsn hp1
      clear htk h1 h2 htg
      have b1 : (0 : Int) ≤ (k : Int) := Int.natCast_nonneg _
      have b2 : (k : Int) < (es.length : Int) := by omega
      have hq := strEqL e.type s
      by_cases h1 : e.type = s
      · rw [decide_eq_true h1] at hq
        rw [if_pos h1] at hsn
        have HSN := Lib.hid hsn
        clear hsn h1
        go_wp2_with (at_builtin; refine wpList_pushH (W := wr) rfl _ _ _ rfl 3 _ 1 8 Try.underlying30 infoInt rfl (by decide) (by decide) rfl w.heap.size (fun _ => False) _ _ rfl HO.out p [.int .i64 p] rfl wr.heap.size rfl rfl HB.out.size (by omega) ?_; intro v1 w1 hown1 hg1 hat1 hbel1; have HO1 := Lib.hid hown1; have HB1 := Lib.hid (hbel1 w HB.out); clear hown1 hg1 hat1 hbel1)
        go_roundw
        case rel => exact ⟨k + 1, by omega, by go_num, by rw [HSN.out]; exact HO1.out, HB1.out⟩
        case measure => simp [intOf]; omega
      · rw [decide_eq_false h1] at hq
        rw [if_neg h1, List.append_nil] at hsn
        have HSN := Lib.hid hsn
        clear hsn h1
        go_wp2_with fail
        go_roundw
        case rel => exact ⟨k + 1, by omega, by go_num, by rw [HSN.out]; exact HO.out, HB.out⟩
        case measure => simp [intOf]; omega
    · obtain rfl : k = es.length := by omega
      rw [List.take_length] at HO
      obtain ⟨A', c', rfl, hs⟩ := HO.out.sl
      go_wp2_with fail
      go_ret
      exact ⟨A', c', rfl, hs.mono (fun k hk => hk.elim False.elim id), HB.out⟩
end Go.Proofs.Yteahpkihkfkpfaa
namespace Go.Proofs.Yteahpkihkfkpfaa
open Go.RowKit

set_option maxHeartbeats 1000000 in
theorem refTag_any {w : World} {y cE cP : Nat} {E P : Option Addr} {es : List EP} {X : Nat → Prop} (h : Rl w y E cE P cP es X) (hl : es.length ≤ 1000000) (s : ByteArray) :
    Calls Try.prog 33 #[.pointer (some ⟨y, 0, none⟩), .string s] w (RetInts (tagE es s) w) := by
  have H := Lib.hid h
  have hc1 := h.se.1
  have hc2 := h.se.2.1
  have hc3 := h.sp.1
  have hc4 := h.sp.2.1
  unfold maxLen at hc2 hc4
  rw [List.length_map] at hc1
  unfold posE at hc3
  rw [List.length_map] at hc3
  clear h
  have HO0 := Lib.hid (Own.lit0 (Kn.int .i64) 3 w.heap.size (fun _ => False) w (Nat.le_refl _))
  go_enter Try.func33, Try.ntmps33
  go_wp2_with fail
  go_loopw [5, 6] (fun v i wr => ∃ k : Nat, k ≤ es.length ∧ i = .int .i64 k ∧ Own (Kn.int .i64) 3 w.heap.size (fun _ => False) wr v (tagE (es.take k) s) ∧ Below w.heap.size w wr) (fun _ i _ => es.length - (intOf i).toNat)
  case atStart => exact ⟨0, Nat.zero_le _, rfl, HO0.out, (Below.refl _ _).alloc (Nat.le_refl _) _⟩
  case round =>
    obtain ⟨k, hk, rfl, ho, hb⟩ := hrel
    have hy0 := (H.out.bx.under hb).cell 0
    have hy1 := (H.out.bx.under hb).cell 1
    simp only [List.getElem?_cons_succ, List.getElem?_cons_zero] at hy0 hy1
    have HO := Lib.hid ho
    have HB := Lib.hid hb
    clear ho hb
    by_cases hlt : k < es.length
    · obtain ⟨ad, T, ct, F, cf, hE, hx0, hx1, hx2, hx3, htg, hadl⟩ := row_event_at (H.out.se.below HB.out).2.2 (j := k) (by simp; omega)
      obtain ⟨pd, hP, hp1⟩ := row_int_at (H.out.sp.below HB.out).2.2 (j := k) (by simp [posE]; omega)
      subst hE
      subst hP
      have htk : es.take (k + 1) = es.take k ++ [es[k]] := List.take_succ_eq_append_getElem hlt
      have hsn := tagE_snoc (es.take k) es[k].1 es[k].2 s
      rw [show [(es[k].1, es[k].2)] = [es[k]] from rfl, ← htk] at hsn
      have hle : (tagE (es.take k) s).length ≤ k := by
        unfold tagE; rw [List.length_map]; exact Nat.le_trans (List.length_filter_le _ _) (by rw [List.length_take]; omega)
      have h1 : (es.map (·.1))[k]'(by simp; omega) = es[k].1 := by simp
      have h2 : (posE es)[k]'(by simp [posE]; omega) = es[k].2 := by simp [posE]
      rw [h1] at hx0 hx1 hx2 hx3 htg
      rw [h2] at hp1
      generalize es[k].1 = e at hsn hx0 hx1 hx2 hx3 htg
      generalize es[k].2 = p at hsn hp1
      have HTG := Lib.hid htg.any
      clear htk h2 h1 htg
      have b1 : (0 : Int) ≤ (k : Int) := Int.natCast_nonneg _
      have b2 : (k : Int) < (es.length : Int) := by omega
      have hpl : pd.block < wr.heap.size := by have := World.block_lt_of_cell? wr _ hp1; rwa [block_add] at this
      have HK := Lib.hid (fun W (hw : Below wr.heap.size wr W) => show W.cell? ⟨y, 0, none⟩ = some (.slice (some ad) es.length cE) ∧ W.cell? ⟨y, 1, none⟩ = some (.slice (some pd) es.length cP) ∧ W.cell? (pd.add k) = some (.int .i64 p) from
        ⟨(H.out.bx.under (bthen HB.out hw)).cell 0, (H.out.bx.under (bthen HB.out hw)).cell 1, (hw.cell (by rw [block_add]; exact hpl)).trans hp1⟩)
      have CH := Lib.hid (show Calls Try.prog 56 #[.agg #[.string e.stream, .string e.type, .slice T e.tags.length ct, .slice F e.fields.length cf], .string s] wr fun r w' => r = .returned (.bool (hasS s e.tags)) ∧ Below wr.heap.size wr w' from Has04_any HTG.out s)
      generalize hbb : hasS s e.tags = bb at CH hsn
      rcases bb with _ | _
      · rw [if_neg (by decide), List.append_nil] at hsn
        have HSN := Lib.hid hsn
        clear hsn hbb
        go_wp2_with (go_at_call 56; go_fit CH.out; rintro r w6 ⟨rfl, h6⟩; have HB6 := Lib.hid h6; clear h6)
        go_roundw
        case rel => exact ⟨k + 1, by omega, by go_num, by rw [HSN.out]; exact HO.out.below HB6.out, bthen HB.out HB6.out⟩
        case measure => simp [intOf]; omega
      · rw [if_pos rfl] at hsn
        have HSN := Lib.hid hsn
        clear hsn hbb
        go_wp2_with (first | (go_at_call 56; go_fit CH.out; rintro r w6 ⟨rfl, h6⟩; have HB6 := Lib.hid (bthen HB.out h6); have HO6 := Lib.hid (HO.out.below h6); obtain ⟨k0, k1, k2⟩ := HK.out _ h6; have hs6 := h6.size; clear h6) | (at_builtin; refine wpList_pushH (W := w6) rfl _ _ _ rfl 3 _ 1 8 Try.underlying30 infoInt rfl (by decide) (by decide) rfl w.heap.size (fun _ => False) _ _ rfl HO6.out p [.int .i64 p] rfl w6.heap.size rfl rfl HB6.out.size (by omega) ?_; intro v1 w1 hown1 hg1 hat1 hbel1; have HO1 := Lib.hid hown1; have HB1 := Lib.hid (hbel1 w HB6.out); clear hown1 hg1 hat1 hbel1))
        go_roundw
        case rel => exact ⟨k + 1, by omega, by go_num, by rw [HSN.out]; exact HO1.out, HB1.out⟩
        case measure => simp [intOf]; omega
    · obtain rfl : k = es.length := by omega
      rw [List.take_length] at HO
      obtain ⟨A', c', rfl, hs⟩ := HO.out.sl
      go_wp2_with fail
      go_ret
      exact ⟨A', c', rfl, hs.mono (fun k hk => hk.elim False.elim id), HB.out⟩
end Go.Proofs.Yteahpkihkfkpfaa
namespace Go.Proofs.Yteahpkihkfkpfaa
open Go.RowKit

set_option maxHeartbeats 2000000 in
set_option maxRecDepth 8000 in
theorem refFind_any {w : World} {y cE cP : Nat} {E P : Option Addr} {es : List EP} {X : Nat → Prop} (h : Rl w y E cE P cP es X) (hl : es.length ≤ 1000000) {q : List Clause} {Q : Option Addr} {cq : Nat} (hq : SlC w Q cq q) (x : Int) :
    Calls Try.prog 35 #[.pointer (some ⟨y, 0, none⟩), .agg #[.slice Q q.length cq], .int .i64 x] w (RetInts (findE es q x) w) := by
  have hc1 := h.se.1
  have hc2 := h.se.2.1
  have hc3 := h.sp.1
  have hc4 := h.sp.2.1
  unfold maxLen at hc2 hc4
  rw [List.length_map] at hc1
  unfold posE at hc3
  rw [List.length_map] at hc3
  go_enter Try.func35, Try.ntmps35
  go_upto_region 3 with fail
  have HBX := Lib.hid (show Below w.heap.size w (w.alloc (.cells #[.slice Q q.length cq] 52)) from (Below.refl _ _).alloc (Nat.le_refl _) _)
  have hXs : (w.alloc (.cells #[.slice Q q.length cq] 52)).heap.size = w.heap.size + 1 := by simp
  have HQB := Lib.hid (Bx.new w 52 [.slice Q q.length cq])
  have H := Lib.hid (h.below HBX.out)
  have HQ := Lib.hid (hq.below HBX.out)
  clear h hq
  generalize w.alloc (.cells #[.slice Q q.length cq] 52) = Z at *
  have HO0 := Lib.hid (Own.lit0 (Kn.int .i64) 3 Z.heap.size (fun _ => False) Z (Nat.le_refl _))
  rw [← hXs]
  have HGZ := Lib.hid hXs
  generalize w.heap.size = g at HQB HGZ ⊢
  clear hXs
  go_loopw [7, 8] (fun v i wr => ∃ k : Nat, k ≤ es.length ∧ i = .int .i64 k ∧ Own (Kn.int .i64) 3 Z.heap.size (fun _ => False) wr v (findE (es.take k) q x) ∧ Below Z.heap.size Z wr) (fun _ i _ => es.length - (intOf i).toNat)
  case atStart => exact ⟨0, Nat.zero_le _, rfl, HO0.out, (Below.refl _ _).alloc (Nat.le_refl _) _⟩
  case round =>
    obtain ⟨k, hk, rfl, ho, hb⟩ := hrel
    have hy0 := (H.out.bx.under hb).cell 0
    simp only [List.getElem?_cons_zero] at hy0
    have HO := Lib.hid ho
    have HB := Lib.hid hb
    clear ho hb
    by_cases hlt : k < es.length
    · obtain ⟨ad, T, ct, F, cf, hE, hx0, hx1, hx2, hx3, htg, hadl⟩ := row_event_at (H.out.se.below HB.out).2.2 (j := k) (by simp; omega)
      obtain ⟨pd, hP, hp1⟩ := row_int_at (H.out.sp.below HB.out).2.2 (j := k) (by simp [posE]; omega)
      subst hE
      subst hP
      have htk : es.take (k + 1) = es.take k ++ [es[k]] := List.take_succ_eq_append_getElem hlt
      have hsn := findE_snoc (es.take k) es[k].1 es[k].2 q x
      rw [show [(es[k].1, es[k].2)] = [es[k]] from rfl, ← htk] at hsn
      have hle : (findE (es.take k) q x).length ≤ k := by
        unfold findE; rw [List.length_map]; exact Nat.le_trans (List.length_filter_le _ _) (by rw [List.length_take]; omega)
      have h1 : (es.map (·.1))[k]'(by simp; omega) = es[k].1 := by simp
      have h2 : (posE es)[k]'(by simp [posE]; omega) = es[k].2 := by simp [posE]
      rw [h1] at hx0 hx1 hx2 hx3 htg
      rw [h2] at hp1
      generalize es[k].1 = e at hsn hx0 hx1 hx2 hx3 htg
      generalize es[k].2 = p at hsn hp1
      have HTG := Lib.hid htg.any
      clear htk h2 h1 htg
      have b1 : (0 : Int) ≤ (k : Int) := Int.natCast_nonneg _
      have b2 : (k : Int) < (es.length : Int) := by omega
      have hpl : pd.block < wr.heap.size := by have := World.block_lt_of_cell? wr _ hp1; rwa [block_add] at this
      have HK := Lib.hid (fun W (hw : Below wr.heap.size wr W) => show Below wr.heap.size wr W ∧ W.cell? ⟨g, 0, none⟩ = some (.slice Q q.length cq) ∧ W.cell? ⟨y, 0, none⟩ = some (.slice (some ad) es.length cE) ∧ W.cell? ⟨y, 1, none⟩ = some (.slice (some pd) es.length cP) ∧ W.cell? (pd.add k) = some (.int .i64 p) ∧
          W.cell? (ad.add (k * 4)) = some (.string e.stream) ∧ W.cell? ⟨(ad.add (k * 4)).block, (ad.add (k * 4)).off + 1, none⟩ = some (.string e.type) ∧ W.cell? ⟨(ad.add (k * 4)).block, (ad.add (k * 4)).off + 2, none⟩ = some (.slice T e.tags.length ct) ∧ W.cell? ⟨(ad.add (k * 4)).block, (ad.add (k * 4)).off + 3, none⟩ = some (.slice F e.fields.length cf) from by
        have hbl : ∀ o, W.cell? ⟨(ad.add (k * 4)).block, o, none⟩ = wr.cell? ⟨(ad.add (k * 4)).block, o, none⟩ := fun o => World.cell?_of_block (hw.block _ (by rw [block_add]; exact hadl))
        have hbl0 : W.cell? (ad.add (k * 4)) = wr.cell? (ad.add (k * 4)) := World.cell?_of_block (hw.block _ (by rw [block_add]; exact hadl))
        exact ⟨hw, (HQB.out.under (bthen HB.out hw)).cell 0, (H.out.bx.under (bthen HB.out hw)).cell 0, (H.out.bx.under (bthen HB.out hw)).cell 1, (hw.cell (by rw [block_add]; exact hpl)).trans hp1, hbl0.trans hx0, (hbl _).trans hx1, (hbl _).trans hx2, (hbl _).trans hx3⟩)
      have CM : Hid (∀ W (R : Prop), Below wr.heap.size wr W ∧ R → Calls Try.prog 45 #[.agg #[.slice Q q.length cq], .agg #[.string e.stream, .string e.type, .slice T e.tags.length ct, .slice F e.fields.length cf]] W fun r w' => r = .returned (.bool (matchM q e)) ∧ Below W.heap.size W w') :=
        Lib.hid (fun W R h => Match06_any (HQ.out.below (bthen HB.out h.1)) (HTG.out.below h.1))
      clear hx0 hx1 hx2 hx3 hp1
      generalize hbb : matchM q e = bb at CM hsn
      clear hbb
      go_upto_region 5 with fail
      clear hy0
      rcases bb with _ | _
      all_goals go_region_held3 (fun W => Below wr.heap.size wr W ∧ W.cell? ⟨g, 0, none⟩ = some (.slice Q q.length cq) ∧ W.cell? ⟨y, 0, none⟩ = some (.slice (some ad) es.length cE) ∧ W.cell? ⟨y, 1, none⟩ = some (.slice (some pd) es.length cP) ∧ W.cell? (pd.add k) = some (.int .i64 p) ∧
          W.cell? (ad.add (k * 4)) = some (.string e.stream) ∧ W.cell? ⟨(ad.add (k * 4)).block, (ad.add (k * 4)).off + 1, none⟩ = some (.string e.type) ∧ W.cell? ⟨(ad.add (k * 4)).block, (ad.add (k * 4)).off + 2, none⟩ = some (.slice T e.tags.length ct) ∧ W.cell? ⟨(ad.add (k * 4)).block, (ad.add (k * 4)).off + 3, none⟩ = some (.slice F e.fields.length cf)) (first | exact HK.out _ (below_drawn (Below.refl _ _)) | (assumption) | exact HK.out _ (bthen (And.left (by assumption : Below wr.heap.size wr _ ∧ _)) (by assumption))) (first | (go_at_call 45; go_fit (CM.out _ _ (by assumption)); rintro r w6 ⟨rfl, hb6⟩))
      all_goals have h6 : Below wr.heap.size wr w6 := bthen (below_drawn (Below.refl _ _)) hb6
      all_goals clear hb6
      all_goals have HB6 := Lib.hid (bthen HB.out h6)
      all_goals have HO6 := Lib.hid (HO.out.below h6)
      all_goals obtain ⟨_, k0, k1, k2, k3, _⟩ := HK.out _ h6
      all_goals have hs6 := h6.size
      all_goals clear h6
      · rw [if_neg (by simp), List.append_nil] at hsn
        have HSN := Lib.hid hsn
        clear hsn
        go_wp2_with fail
        go_roundw
        case rel => exact ⟨k + 1, by omega, by go_num, by rw [HSN.out]; exact HO6.out, HB6.out⟩
        case measure => simp [intOf]; omega
      · by_cases hpx : p ≤ x
        · rw [if_pos (by simp [hpx])] at hsn
          have HSN := Lib.hid hsn
          clear hsn
          go_wp2_with (at_builtin; refine wpList_pushH (W := w6) rfl _ _ _ rfl 3 _ 1 8 Try.underlying30 infoInt rfl (by decide) (by decide) rfl Z.heap.size (fun _ => False) _ _ rfl HO6.out p [.int .i64 p] rfl w6.heap.size rfl rfl HB6.out.size (by omega) ?_; intro v1 w1 hown1 hg1 hat1 hbel1; have HO1 := Lib.hid hown1; have HB1 := Lib.hid (hbel1 Z HB6.out); clear hown1 hg1 hat1 hbel1)
          go_roundw
          case rel => exact ⟨k + 1, by omega, by go_num, by rw [HSN.out]; exact HO1.out, HB1.out⟩
          case measure => simp [intOf]; omega
        · rw [if_neg (by simp [hpx]), List.append_nil] at hsn
          have HSN := Lib.hid hsn
          clear hsn
          go_wp2_with fail
          go_roundw
          case rel => exact ⟨k + 1, by omega, by go_num, by rw [HSN.out]; exact HO6.out, HB6.out⟩
          case measure => simp [intOf]; omega
    · obtain rfl : k = es.length := by omega
      rw [List.take_length] at HO
      obtain ⟨A', c', rfl, hs⟩ := HO.out.sl
      have HS := Lib.hid hs
      clear hs
      go_wp2_with fail
      go_ret
      exact ⟨A', c', rfl, HS.out.mono (fun k hk => hk.elim False.elim (fun h => by have := HBX.out.size; omega)), bthen HBX.out HB.out⟩
end Go.Proofs.Yteahpkihkfkpfaa
