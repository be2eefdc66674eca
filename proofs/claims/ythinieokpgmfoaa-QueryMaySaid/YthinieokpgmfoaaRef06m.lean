/- registrarref06.Norm: what it comes to (walk). -/
import Derived.Test.YthinieokpgmfoaaNorm06
import Derived.Test.YthinieokpgmfoaaPut04
import Derived.Test.YthinieokpgmfoaaStep3
set_option linter.unusedVariables false
set_option linter.unusedSimpArgs false
namespace Go.Proofs.Ythinieokpgmfoaa
open Go.RowKit

theorem put_uniq {xs l' : List ByteArray} {j : Nat} (hj : j < xs.length) (h : PutR (uniq (xs.take j)) xs[j] l') : l' = uniq (xs.take (j + 1)) := by
  refine riseB_eq h.rise (uniq_rise _) (fun x => ?_)
  rw [h.mem, mem_uniq, mem_uniq, List.take_succ_eq_append_getElem hj, List.mem_append, List.mem_singleton]
theorem uniq_nil : uniq [] = [] := List.eq_nil_of_length_eq_zero (Nat.le_zero.1 (uniq_len []))
/-- The outer loop's state. -/
structure RnAt (q : List Clause) (Q : Option Addr) (cq : Nat) (w : World) (k : Nat) (v : Value) (wr : World) : Prop where
  b1 : Bx wr w.heap.size 24 [.slice Q q.length cq]
  b2 : Bx wr (w.heap.size + 1) 24 [.slice none 0 0]
  b3 : Bx wr (w.heap.size + 1 + 1) 24 [v]
  own : Own kClause 33 (w.heap.size + 3) (fun k => w.heap.size + 3 ≤ k) wr v ((q.take k).map normC)
  sl : Sl kClause (fun j => j < w.heap.size) wr Q cq q
  size : w.heap.size + 3 ≤ wr.heap.size
  bel : Below w.heap.size w wr
theorem RnAt.under {q : List Clause} {Q : Option Addr} {cq : Nat} {w : World} {k : Nat} {v : Value} {wr W : World} (h : RnAt q Q cq w k v wr) (hb : Below wr.heap.size wr W) : RnAt q Q cq w k v W :=
  ⟨h.b1.under hb, h.b2.under hb, h.b3.under hb, h.own.below hb, h.sl.below hb, Nat.le_trans h.size hb.size, bthen h.bel hb⟩
theorem RnAt.step {q : List Clause} {Q : Option Addr} {cq : Nat} {w : World} {k : Nat} {v v1 : Value} {W w1 : World} (h : RnAt q Q cq w k v W) (hg : W.grownBy w1 v.ownBlock) (x : Clause) (hxe : q[k]? = some x)
    (hown : Own kClause 33 (w.heap.size + 3) (fun k => w.heap.size + 3 ≤ k) w1 v1 ((q.take k).map normC ++ [normC x])) : RnAt q Q cq w (k + 1) v1 (w1.setCell ⟨w.heap.size + 1 + 1, 0, none⟩ v1) := by
  have hs := h.size
  obtain ⟨hk, hxe⟩ := List.getElem?_eq_some_iff.1 hxe
  subst hxe
  have hv : ∀ j, v.ownBlock = some j → w.heap.size + 3 ≤ j := h.own.base_le
  have hbl : ∀ j, j < w.heap.size + 3 → w1.heap[j]? = W.heap[j]? := fun j hj => hg.block j (by omega) (fun e => by have := hv j e.symm; omega)
  refine ⟨?_, ?_, ?_, ?_, ?_, ?_, ?_⟩
  · exact (h.b1.stay (fun _ => hbl _ (by omega))).far (by simp; omega) _
  · exact (h.b2.stay (fun _ => hbl _ (by omega))).far (by simp) _
  · exact (h.b3.stay (fun _ => hbl _ (by omega))).set 0 v1
  · rw [norm_succ q k hk]
    exact hown.setCell (fun j hj => by simp; omega) (fun j hj => by have := hown.base_le j hj; simp; omega) _
  · exact (h.sl.stay hg.size (fun j hj _ => hbl j (by omega))).setCell (fun j hj => by simp; omega) _
  · have := hg.size; simp [World.setCell]; omega
  · refine Below.setCell ?_ (by simp; omega) _
    exact ⟨hg.os.trans h.bel.os, hg.tape.trans h.bel.tape, hg.output.trans h.bel.output, Nat.le_trans h.bel.size hg.size, fun j hj => (hbl j (by omega)).trans (h.bel.block j hj)⟩
/-- The inner loops' state: the clause that is made, in block g. -/
structure RnIn (w wr : World) (g : Nat) (t u : List ByteArray) (wx : World) : Prop where
  bc : ∃ T c U d, Bx wx g 33 [.slice T t.length c, .slice U u.length d] ∧ Sl Kn.str (fun k => wr.heap.size ≤ k ∧ k ≠ g) wx T c t ∧ Sl Kn.str (fun k => wr.heap.size ≤ k ∧ k ≠ g) wx U d u
  bel : Below wr.heap.size wr wx
  gs : g < wx.heap.size
theorem RnIn.put1 {w wr wx W : World} {g : Nat} {t t' u : List ByteArray} (hg : wr.heap.size ≤ g) (h3 : w.heap.size + 3 ≤ wr.heap.size) (h : RnIn w wr g t u wx) (hb : Below wx.heap.size wx W) {A' : Option Addr} {c' : Nat} (hs : Sl Kn.str (fun k => (wr.heap.size ≤ k ∧ k ≠ g) ∨ wx.heap.size ≤ k) W A' c' t') :
    RnIn w wr g t' u (W.setCell ⟨g, 0, none⟩ (.slice A' t'.length c')) := by
  obtain ⟨T, c, U, d, h1, _, h2⟩ := h.bc
  have hgs := h.gs
  have hws := h.bel.size
  refine ⟨⟨A', c', U, d, (h1.under hb).set 0 _, ?_, (h2.below hb).setCell (fun k hk => hk.2) _⟩, (bthen h.bel hb).setCell hg _, by have := hb.size; simp [World.setCell]; omega⟩
  exact (hs.setCell (fun k hk => by simp; omega) _).mono (fun k hk => by omega)
theorem RnIn.put2 {w wr wx W : World} {g : Nat} {t u u' : List ByteArray} (hg : wr.heap.size ≤ g) (h3 : w.heap.size + 3 ≤ wr.heap.size) (h : RnIn w wr g t u wx) (hb : Below wx.heap.size wx W) {A' : Option Addr} {c' : Nat} (hs : Sl Kn.str (fun k => (wr.heap.size ≤ k ∧ k ≠ g) ∨ wx.heap.size ≤ k) W A' c' u') :
    RnIn w wr g t u' (W.setCell ⟨g, 1, none⟩ (.slice A' u'.length c')) := by
  obtain ⟨T, c, U, d, h1, h2, _⟩ := h.bc
  have hgs := h.gs
  have hws := h.bel.size
  refine ⟨⟨T, c, A', c', (h1.under hb).set 1 _, (h2.below hb).setCell (fun k hk => hk.2) _, ?_⟩, (bthen h.bel hb).setCell hg _, by have := hb.size; simp [World.setCell]; omega⟩
  exact (hs.setCell (fun k hk => by simp; omega) _).mono (fun k hk => by omega)

set_option maxHeartbeats 4000000 in
set_option maxRecDepth 100000 in
theorem refNorm_any {q : List Clause} {Q : Option Addr} {cq : Nat} {w : World} (hq : SlC w Q cq q) (hl : q.length ≤ 100000) (hlt : ∀ c ∈ q, c.tags.length ≤ 100000 ∧ c.types.length ≤ 100000) :
    Calls Try.prog 31 #[.agg #[.slice Q q.length cq]] w fun r w' => ∃ A c, r = .returned (.agg #[.slice A (q.map normC).length c]) ∧ SlC w' A c (q.map normC) ∧ Below w.heap.size w w' := by
  have hq2 := hq.2.1
  unfold maxLen at hq2
  have hq1 := hq.1
  have h0 : RnAt q Q cq w 0 (.slice none 0 0) (((w.alloc (.cells #[.slice Q q.length cq] 24)).alloc (.cells #[.slice none 0 0] 24)).alloc (.cells #[.slice none 0 0] 24)) := by
    refine ⟨((Bx.new w _ [_]).alloc _).alloc _, ?_, ?_, Own.nil_ _ _ _ _ _, (((hq.bound.mono (fun k hk => hk.2)).alloc _).alloc _).alloc _, by simp, (((Below.refl _ _).alloc (Nat.le_refl _) _).alloc (by simp) _).alloc (by simp; omega) _⟩
    · exact (by simpa using Bx.new (w.alloc (.cells #[.slice Q q.length cq] 24)) 24 [.slice none 0 0] : Bx _ (w.heap.size + 1) _ _).alloc _
    · simpa using Bx.new ((w.alloc (.cells #[.slice Q q.length cq] 24)).alloc (.cells #[.slice none 0 0] 24)) 24 [.slice none 0 0]
  have H0 := Lib.hid h0
  have HLT := Lib.hid hlt
  clear h0 hq hlt
  go_enter Try.func31, Try.ntmps31
  go_wp2
  go_loopw [4, 5, 6, 7] (fun i _ _ _ wr => ∃ (k : Nat) (v : Value), k ≤ q.length ∧ i = .int .i64 k ∧ RnAt q Q cq w k v wr) (fun i _ _ _ _ => q.length - (intOf i).toNat)
  case atStart => exact ⟨0, _, Nat.zero_le _, rfl, H0.out⟩
  case round =>
    clear H0
    obtain ⟨k, v, hk, rfl, hf⟩ := hrel
    obtain ⟨w1, hw1⟩ : ∃ w1, w1 = wr := ⟨_, rfl⟩
    subst hw1
    have k1 := hf.b1.c0
    by_cases hlt : k < q.length
    · obtain ⟨ad, S, sa, T, ta, rfl, hx, hy, hS, hT⟩ := row_clause_at hf.sl.2.2 hlt
      have HX := Lib.hid (show q[k]? = some q[k] from List.getElem?_eq_getElem hlt)
      obtain ⟨ht1, ht2⟩ := HLT.out q[k] (List.getElem_mem hlt)
      have HLN := Lib.hid (show ∀ y, ((q.take k).map normC ++ [normC y]).length = k + 1 by intro y; simp; omega)
      generalize q[k] = x at hx hy hS hT HX ht1 ht2
      have b1 : (0 : Int) ≤ (k : Int) := Int.natCast_nonneg _
      have b2 : (k : Int) < (q.length : Int) := by omega
      have HF := Lib.hid hf
      have HS := Lib.hid hS
      have HT := Lib.hid hT
      have hsz := hf.size
      have hax : ad.block < w1.heap.size := World.block_lt_of_cell? w1 (ad.add (k * 2)) hx |> fun h => by rwa [block_add] at h
      have HK := Lib.hid (fun W (hW : Below w1.heap.size w1 W) => show W.cell? ⟨w.heap.size, 0, none⟩ = some (.slice (some ad) q.length cq) ∧ W.cell? (ad.add (k * 2)) = some (.slice S x.tags.length sa) ∧ W.cell? ⟨(ad.add (k * 2)).block, (ad.add (k * 2)).off + 1, none⟩ = some (.slice T x.types.length ta) from
        ⟨(HF.out.b1.under hW).c0, (World.cell?_of_block (hW.block _ (by rw [block_add]; exact hax))).trans hx, (World.cell?_of_block (a := ⟨(ad.add (k * 2)).block, (ad.add (k * 2)).off + 1, none⟩) (hW.block _ (by show (ad.add (k * 2)).block < _; rw [block_add]; exact hax))).trans hy⟩)
      have HI0 := Lib.hid (show RnIn w w1 w1.heap.size [] [] (w1.alloc (.cells #[.slice none 0 0, .slice none 0 0] 33)) from
        ⟨⟨none, 0, none, 0, Bx.new _ _ _, Sl.nil_, Sl.nil_⟩, (Below.refl _ _).alloc (Nat.le_refl _) _, by simp⟩)
      clear hf hx hy hS hT
      go_upto_region 6 with fail
      clear k1
      generalize w1.alloc (.cells #[.slice none 0 0, .slice none 0 0] 33) = X0 at HI0 ⊢
      have HG := Lib.hid (show w1.heap.size ≤ w1.heap.size from Nat.le_refl _)
      obtain ⟨g, hg⟩ : ∃ g, g = w1.heap.size := ⟨_, rfl⟩
      rw [← hg] at HI0 ⊢
      have hgl : w1.heap.size ≤ g := by omega
      clear hg
      go_wp2_with fail
      go_loopw [6] (fun i wx => ∃ j : Nat, j ≤ x.tags.length ∧ i = .int .i64 j ∧ RnIn w w1 g (uniq (x.tags.take j)) [] wx) (fun i _ => x.tags.length - (intOf i).toNat)
      case atStart => exact ⟨0, Nat.zero_le _, rfl, by rw [List.take_zero, uniq_nil]; exact HI0.out⟩
      case round =>
        obtain ⟨j, hj, rfl, hi⟩ := hrel
        obtain ⟨k0, k1, k2⟩ := HK.out _ hi.bel
        have hwx := hi.bel.size
        by_cases hjl : j < x.tags.length
        · obtain ⟨sd, rfl, hsx⟩ := row_str_at (HS.out.below hi.bel).2.2 hjl
          obtain ⟨T1, c1, U1, d1, hbc, hst, hsu⟩ := hi.bc
          have hul := uniq_len (x.tags.take j)
          rw [List.length_take] at hul
          have CP := Lib.hid (fun W (hb : Below wr.heap.size wr W) => Put_any (hst.below hb) (by omega) (uniq_rise _) (x.tags[j]'hjl))
          have HPU := Lib.hid (fun l' (h : PutR (uniq (x.tags.take j)) (x.tags[j]'hjl) l') => put_uniq hjl h)
          have HI := Lib.hid hi
          have HBC := Lib.hid hbc
          have k3 := hbc.c0
          have kf := hbc.free 0
          have j1 : (0 : Int) ≤ (j : Int) := Int.natCast_nonneg _
          have j2 : (j : Int) < (x.tags.length : Int) := by omega
          have hsd : sd.block < wr.heap.size := World.block_lt_of_cell? wr (sd.add j) hsx |> fun h => by rwa [block_add] at h
          generalize x.tags[j]'hjl = y at hsx CP HPU
          clear hbc hst hsu hi hul
          have HG := Lib.hid (show w1.heap.size ≤ g ∧ w.heap.size + 3 ≤ w1.heap.size from ⟨hgl, hsz⟩)
          have hgr : g < wr.heap.size := HI.out.gs
          have hww : w.heap.size < wr.heap.size := by omega
          have haw : ad.block < wr.heap.size := by omega
          clear hgl hsz
          go_upto_region 9 with fail
          go_region_law (first
            | (go_simp; go_at_call 49; go_fit (CP.out _ (below_drawn (Below.refl _ _))); rintro r w5 ⟨A5, c5, l5, rfl, hs5, hp5, hb5⟩; have HS5 := Lib.hid hs5; have HL5 := Lib.hid (HPU.out _ hp5); have HB5 := Lib.hid (show Below wr.heap.size wr w5 from bthen (below_drawn (Below.refl _ _)) hb5); have m0 := (HBC.out.under HB5.out).c0; have mf := (HBC.out.under HB5.out).free 0; clear hs5 hp5 hb5))
          all_goals go_wp2_with fail
          all_goals go_roundw
          all_goals first
            | exact ⟨j + 1, by omega, by go_num, by rw [← HL5.out]; exact HI.out.put1 HG.out.1 HG.out.2 HB5.out HS5.out⟩
            | (simp [intOf]; omega)
        · have HI0' := Lib.hid (show RnIn w w1 g (uniq x.tags) [] wr from by
            have := hi
            rwa [List.take_of_length_le (by omega)] at this)
          clear hi HI0
          obtain ⟨w2, hw2⟩ : ∃ w2, w2 = wr := ⟨_, rfl⟩
          subst hw2
          have hgr : g < w2.heap.size := HI0'.out.gs
          have hww : w.heap.size < w2.heap.size := by omega
          have haw : ad.block < w2.heap.size := by omega
          go_wp2_with fail
          go_loopw [7] (fun i wx => ∃ j : Nat, j ≤ x.types.length ∧ i = .int .i64 j ∧ RnIn w w1 g (uniq x.tags) (uniq (x.types.take j)) wx) (fun i _ => x.types.length - (intOf i).toNat)
          case atStart => exact ⟨0, Nat.zero_le _, rfl, by rw [List.take_zero, uniq_nil]; exact HI0'.out⟩
          case round =>
            clear k0 k1 k2
            obtain ⟨j2, hj2, rfl, hi⟩ := hrel
            obtain ⟨k0, k1, k2⟩ := HK.out _ hi.bel
            have hwx := hi.bel.size
            by_cases hjl2 : j2 < x.types.length
            · obtain ⟨sd, rfl, hsx⟩ := row_str_at (HT.out.below hi.bel).2.2 hjl2
              obtain ⟨T1, c1, U1, d1, hbc, hst, hsu⟩ := hi.bc
              have hul := uniq_len (x.types.take j2)
              rw [List.length_take] at hul
              have CP := Lib.hid (fun W (hb : Below wr.heap.size wr W) => Put_any (hsu.below hb) (by omega) (uniq_rise _) (x.types[j2]'hjl2))
              have HPU := Lib.hid (fun l' (h : PutR (uniq (x.types.take j2)) (x.types[j2]'hjl2) l') => put_uniq hjl2 h)
              have HI := Lib.hid hi
              have HBC := Lib.hid hbc
              have k3 := hbc.cell 1
              have kf := hbc.free 1
              simp only [List.getElem?_cons_succ, List.getElem?_cons_zero] at k3
              have e1 : (0 : Int) ≤ (j2 : Int) := Int.natCast_nonneg _
              have e2 : (j2 : Int) < (x.types.length : Int) := by omega
              have hsd : sd.block < wr.heap.size := World.block_lt_of_cell? wr (sd.add j2) hsx |> fun h => by rwa [block_add] at h
              generalize x.types[j2]'hjl2 = y at hsx CP HPU
              have HG := Lib.hid (show w1.heap.size ≤ g ∧ w.heap.size + 3 ≤ w1.heap.size from ⟨hgl, hsz⟩)
              have hgr2 : g < wr.heap.size := HI.out.gs
              have hww2 : w.heap.size < wr.heap.size := by omega
              have haw2 : ad.block < wr.heap.size := by omega
              clear hbc hst hsu hi hul hgl hsz
              go_upto_region 13 with fail
              go_region_law (first
                | (go_simp; go_at_call 49; go_fit (CP.out _ (below_drawn (Below.refl _ _))); rintro r w5 ⟨A5, c5, l5, rfl, hs5, hp5, hb5⟩; have HS5 := Lib.hid hs5; have HL5 := Lib.hid (HPU.out _ hp5); have HB5 := Lib.hid (show Below wr.heap.size wr w5 from bthen (below_drawn (Below.refl _ _)) hb5); have m0 := (HBC.out.under HB5.out).cell 1; have mf := (HBC.out.under HB5.out).free 1; simp only [List.getElem?_cons_succ, List.getElem?_cons_zero] at m0; clear hs5 hp5 hb5))
              all_goals go_wp2_with fail
              all_goals go_roundw
              all_goals first
                | exact ⟨j2 + 1, by omega, by go_num, by rw [← HL5.out]; exact HI.out.put2 HG.out.1 HG.out.2 HB5.out HS5.out⟩
                | (simp [intOf]; omega)
            · have HI := Lib.hid (show RnIn w w1 g (uniq x.tags) (uniq x.types) wr from by
                have := hi
                rwa [List.take_of_length_le (by omega)] at this)
              clear hi
              obtain ⟨T1, c1, U1, d1, hbc, hst, hsu⟩ := HI.out.bc
              have HF2 := Lib.hid (HF.out.under HI.out.bel)
              have k3 := hbc.cell 0
              have k4 := hbc.cell 1
              have k5 := HF2.out.b3.c0
              have kf := HF2.out.b3.free 0
              simp only [List.getElem?_cons_succ, List.getElem?_cons_zero] at k3 k4
              have hul1 := uniq_len x.tags
              have hul2 := uniq_len x.types
              have hown := Lib.hid HF2.out.own
              have hgn : v.ownBlock ≠ some g := fun e => by have := HF.out.own.block_lt _ e; omega
              have hkk := Lib.hid (show kClause.K (fun k => w.heap.size + 3 ≤ k ∧ some k ≠ v.ownBlock) wr (normC x) [.slice T1 (uniq x.tags).length c1, .slice U1 (uniq x.types).length d1] from
                kClause_mk (hst.mono (fun k hk => ⟨by omega, fun e => by have := HF.out.own.block_lt _ e.symm; omega⟩)) (hsu.mono (fun k hk => ⟨by omega, fun e => by have := HF.out.own.block_lt _ e.symm; omega⟩)))
              have hb3v := Lib.hid (show some (w.heap.size + 1 + 1) ≠ v.ownBlock from fun e => by have := HF.out.own.base_le _ e.symm; omega)
              have hsw : w.heap.size + 3 ≤ wr.heap.size := HF2.out.size
              have HLN2 := Lib.hid (show ((q.take k).map normC).length ≤ 100000 by simp; omega)
              clear hbc hst hsu hgn
              go_wp2_with (at_builtin; refine wpList_pushH rfl _ _ _ rfl 33 _ 2 48 Try.underlying22 infoClause rfl (by decide) (by decide) rfl (w.heap.size + 3) (fun k => w.heap.size + 3 ≤ k) v _ rfl hown.out (normC x) [.slice T1 (uniq x.tags).length c1, .slice U1 (uniq x.types).length d1] hkk.out wr.heap.size rfl rfl (by omega) (by have := HLN2.out; omega) ?_; intro v1 w5 hown1 hg1 hat1 hbel1; obtain ⟨V5, cv5, hv5, _⟩ := hown1.sl; rw [HLN.out] at hv5; subst hv5; have m0 := (HF2.out.b3.grown hg1 hb3v.out).c0; have mf := (HF2.out.b3.grown hg1 hb3v.out).free 0; have HST := Lib.hid (HF2.out.step hg1 x HX.out hown1); clear hown1 hg1 hat1 hbel1)
              go_roundw
              case rel => exact ⟨k + 1, _, by omega, by go_num, HST.out⟩
              case measure => simp [intOf]; omega
    · have hfin : (q.take k).map normC = q.map normC := by rw [List.take_of_length_le (by omega)]
      have hown := hf.own
      rw [hfin] at hown
      obtain ⟨A, c, rfl, hsl⟩ := hown.sl
      have c3 := hf.b3.c0
      have f2 := hf.b2.free 0
      have c2 := hf.b2.c0
      have HB := Lib.hid hf.bel
      have HSL := Lib.hid hsl
      have HB2 := Lib.hid hf.b2
      clear hf hown hsl hfin
      have hR := Lib.hid (show Bx (w1.setCell ⟨w.heap.size + 1, 0, none⟩ (.slice A q.length c)) (w.heap.size + 1) 24 [.slice A q.length c] from HB2.out.set 0 _)
      go_wp2_with fail
      exact bodyPost_ret (v := .agg #[.slice A q.length c]) (by simp [results, Try.results31, go_sem, hR.out.c0]) rfl ⟨A, c, by rw [List.length_map], (HSL.out.setCell (fun j hj => by simp; omega) _).any, HB.out.setCell (by simp) _⟩
end Go.Proofs.Ythinieokpgmfoaa
