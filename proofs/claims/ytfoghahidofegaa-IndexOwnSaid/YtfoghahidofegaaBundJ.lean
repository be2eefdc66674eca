/- index.Index: Add (walk). registrarlaw14.shown: the document's example (walk). registrarlaw14.few: a batch of at most 8 events, of 10 tags and 10 fields each (walk). An index in a law: any batch is added or refused; batches as arguments. -/
import Derived.Test.YtfoghahidofegaaBundI
import Derived.Deep.RegionHeld3
import Derived.Test.YtfoghahidofegaaBundA
set_option linter.unusedVariables false
set_option linter.unusedSimpArgs false
namespace Go.Proofs.Ytfoghahidofegaa
open Go.RowKit Go.Maps

section
variable {w : World} {B : Six} {es : List Event} {X : Nat → Prop}
set_option maxHeartbeats 4000000 in
set_option maxRecDepth 100000 in
theorem iAddNo (h : Ix w B es X) {E : Option Addr} {ce : Nat} {bs : List Event} {after : Int} (hE : SlE w E ce bs) (hg : ∀ e ∈ bs, EvIn e) (hno : addErr es after bs ≠ 0) :
    Calls Try.prog 18 #[.pointer (some ⟨B.b, 0, none⟩), .agg #[.int .i64 after, .slice E bs.length ce]] w fun r w' => r = .returned (.tuple #[.slice none 0 0, .int .i64 (addErr es after bs)]) ∧ Below w.heap.size w w' := by
  obtain ⟨W1, hW1⟩ : ∃ W1, W1 = w.alloc (.cells #[.int .i64 after, .slice E bs.length ce] 43) := ⟨_, rfl⟩
  have HW1 := Lib.hid hW1
  have hb1 : Below w.heap.size w W1 := by rw [hW1]; exact (Below.refl _ _).alloc (Nat.le_refl _) _
  have hxb : Bx W1 w.heap.size 43 [.int .i64 after, .slice E bs.length ce] := by rw [hW1]; exact Bx.new w _ _
  have h1 := h.below hb1
  have C := Lib.hid (batchMay_any (after := after) (hE.below hb1) hg)
  obtain ⟨m, hm⟩ : ∃ m, mayB after bs = m := ⟨_, rfl⟩
  have HNO := Lib.hid hno
  rw [hm] at C
  have HM := Lib.hid hm
  have HB1 := Lib.hid hb1
  have H1 := Lib.hid h1
  have HXB := Lib.hid hxb
  have k0 := hxb.cell 0
  have k1 := hxb.cell 1
  simp only [List.getElem?_cons_succ, List.getElem?_cons_zero] at k0 k1
  clear h h1 hE hg hb1 hxb hno hm
  go_enter Try.func18, Try.ntmps18
  go_upto_region 1 with fail
  rw [← HW1.out]
  clear hW1
  by_cases hm0 : m = 0
  · subst hm0
    have hne : (after != (es.length : Int)) = true := by
      rw [bne_iff_ne]
      intro e
      apply HNO.out
      unfold addErr
      rw [HM.out]
      simp [e]
    have HE := Lib.hid (show addErr es after bs = 1 by
      unfold addErr
      rw [if_neg (by rw [HM.out]; simp), if_pos (by simpa using hne)])
    go_upto_region 4 with (go_at_call 45; go_fit C.out; rintro r w2 ⟨rfl, hb2⟩; have HB2 := Lib.hid hb2; clear hb2)
    have HK : Hid (∀ W, Below w2.heap.size w2 W → Below w2.heap.size w2 W ∧ W.cell? ⟨w.heap.size, 0, none⟩ = some (.int .i64 after)) := Lib.hid (fun W hW => ⟨hW, ((HXB.out.under HB2.out).under hW).cell 0⟩)
    have C2 : Hid (∀ W, Below w2.heap.size w2 W ∧ W.cell? ⟨w.heap.size, 0, none⟩ = some (.int .i64 after) → Calls Try.prog 17 #[.pointer (some ⟨B.b, 0, none⟩)] W fun r w' => r = .returned (.int .i64 es.length) ∧ W = w') := Lib.hid (fun W hW => iLast ((H1.out.below HB2.out).below hW.1))
    clear k0 k1
    go_region_held3 (fun W => Below w2.heap.size w2 W ∧ W.cell? ⟨w.heap.size, 0, none⟩ = some (.int .i64 after)) (first | exact HK.out _ (below_drawn (Below.refl _ _)) | (assumption)) (first | (go_at_call 17; go_fit (C2.out _ (by assumption)); rintro r w4 ⟨rfl, rfl⟩))
    all_goals go_wp2_with fail
    all_goals go_ret2
    all_goals exact ⟨by rw [HE.out]; rfl, below_drawn (bthen HB1.out HB2.out)⟩
  · have d0 : (m != 0) = true := by simp [hm0]
    have HE := Lib.hid (show addErr es after bs = m by unfold addErr; rw [if_pos (by rw [HM.out]; exact hm0), HM.out])
    clear hm0
    go_wp2_with (go_at_call 45; go_fit C.out; rintro r w2 ⟨rfl, hb2⟩; have HB2 := Lib.hid hb2; clear hb2)
    go_ret2
    exact ⟨by rw [HE.out]; rfl, bthen HB1.out HB2.out⟩
end

/-- What an event's box bears, and its rows. -/
structure EvB (w : World) (B : Six) (eb : Nat) (f : Event) (S T : Option Addr) (sa ta : Nat) (W : World) : Prop where
  bx : Bx W eb 25 [.string f.stream, .string f.type, .slice S f.tags.length sa, .slice T f.fields.length ta]
  ts : Sl Kn.str (fun k => ¬ B.has k) W S sa f.tags
  fs : Sl kField (fun k => ¬ B.has k) W T ta f.fields
  hb : ¬ B.has eb
theorem EvB.stay {w : World} {B : Six} {eb : Nat} {f : Event} {S T : Option Addr} {sa ta : Nat} {W W' : World} (h : EvB w B eb f S T sa ta W) (hb : But B.has W W') : EvB w B eb f S T sa ta W' :=
  ⟨h.bx.stay (fun hk => hb.block _ hk h.hb), h.ts.stay hb.size (fun k hk hl => hb.block k hl hk), h.fs.stay hb.size (fun k hk hl => hb.block k hl hk), h.hb⟩
theorem EvB.cells {w : World} {B : Six} {eb : Nat} {f : Event} {S T : Option Addr} {sa ta : Nat} {W : World} (h : EvB w B eb f S T sa ta W) : W.cell? ⟨eb, 0, none⟩ = some (.string f.stream) ∧ W.cell? ⟨eb, 1, none⟩ = some (.string f.type) ∧ W.cell? ⟨eb, 2, none⟩ = some (.slice S f.tags.length sa) ∧ W.cell? ⟨eb, 3, none⟩ = some (.slice T f.fields.length ta) :=
  ⟨h.bx.cell 0, h.bx.cell 1, h.bx.cell 2, h.bx.cell 3⟩

section
variable {w : World} {B : Six} {es : List Event} {X : Nat → Prop}
set_option maxHeartbeats 8000000 in
set_option maxRecDepth 100000 in
theorem iAddOk (h : Ix w B es X) {E : Option Addr} {ce : Nat} {bs : List Event} {after : Int} (hE : Sl kEvent (fun k => ¬ B.has k) w E ce bs) (hg : ∀ e ∈ bs, EvIn e) (hl : (es ++ bs).length ≤ 880) (hyes : addErr es after bs = 0) :
    Calls Try.prog 18 #[.pointer (some ⟨B.b, 0, none⟩), .agg #[.int .i64 after, .slice E bs.length ce]] w fun r w' => ∃ (A' : Option Addr) (c' K : Nat), r = .returned (.tuple #[.slice A' bs.length c', .int .i64 0]) ∧ Sl kRec (fun k => K ≤ k) w' A' c' (recsFrom es bs) ∧ w.heap.size ≤ K ∧
      Ix w' B (es ++ bs) (fun k => X k ∨ (K ≤ k ∧ k < w'.heap.size)) ∧ But B.has w w' := by
  obtain ⟨hmay, hae⟩ := addErr_ok hyes
  obtain ⟨hb0, hb16, hoks, _, _⟩ := mayB_ok hmay
  obtain ⟨W1, hW1⟩ : ∃ W1, W1 = w.alloc (.cells #[.int .i64 after, .slice E bs.length ce] 43) := ⟨_, rfl⟩
  have HW1 := Lib.hid hW1
  have hb1 : Below w.heap.size w W1 := by rw [hW1]; exact (Below.refl _ _).alloc (Nat.le_refl _) _
  have hxb : Bx W1 w.heap.size 43 [.int .i64 after, .slice E bs.length ce] := by rw [hW1]; exact Bx.new w _ _
  have h1 := h.below hb1
  have C := Lib.hid (batchMay_any (after := after) (hE.any.below hb1) hg)
  rw [hmay] at C
  obtain ⟨A0, c0, hx0, hr0, hn0⟩ := h.rs
  have hc0 := hr0.1
  rw [recsOf_len] at hc0
  have hcm := hr0.2.1
  unfold maxLen at hcm
  have HB1 := Lib.hid hb1
  have H := Lib.hid h
  have HXB := Lib.hid hxb
  have HX0 := Lib.hid hx0
  have HR0 := Lib.hid hr0
  have HN0 := Lib.hid hn0
  have HOKS := Lib.hid hoks
  have HG := Lib.hid hg
  have HE := Lib.hid hE
  have HL := Lib.hid hl
  have hece := hE.1
  have hcem := hE.2.1
  unfold maxLen at hcem
  have k0 := hxb.cell 0
  have k1 := hxb.cell 1
  simp only [List.getElem?_cons_succ, List.getElem?_cons_zero] at k0 k1
  have hne : (after != (es.length : Int)) = false := by simp [hae]
  have hes : es.length ≤ 880 := by rw [List.length_append] at hl; omega
  clear h h1 hE hg hb1 hxb hmay hae hyes hoks hx0 hr0 hn0 hl
  go_enter Try.func18, Try.ntmps18
  go_upto_region 1 with fail
  rw [← HW1.out]
  clear hW1
  go_upto_region 4 with (go_at_call 45; go_fit C.out; rintro r w2 ⟨rfl, hb2⟩; have HB2 := Lib.hid hb2; clear hb2)
  have HK : Hid (∀ W, Below w2.heap.size w2 W → Below w2.heap.size w2 W ∧ W.cell? ⟨w.heap.size, 0, none⟩ = some (.int .i64 after)) := Lib.hid (fun W hW => ⟨hW, ((HXB.out.under HB2.out).under hW).cell 0⟩)
  have C2 : Hid (∀ W, Below w2.heap.size w2 W ∧ W.cell? ⟨w.heap.size, 0, none⟩ = some (.int .i64 after) → Calls Try.prog 17 #[.pointer (some ⟨B.b, 0, none⟩)] W fun r w' => r = .returned (.int .i64 es.length) ∧ W = w') := Lib.hid (fun W hW => iLast (((H.out.below HB1.out).below HB2.out).below hW.1))
  clear k0 k1
  go_cut [23] (fun v wx => v = .bool false ∧ Below w2.heap.size w2 wx)
  case first =>
    go_region_held3 (fun W => Below w2.heap.size w2 W ∧ W.cell? ⟨w.heap.size, 0, none⟩ = some (.int .i64 after)) (first | exact HK.out _ (below_drawn (Below.refl _ _)) | (assumption)) (first | (go_at_call 17; go_fit (C2.out _ (by assumption)); rintro r w4 ⟨rfl, rfl⟩))
    all_goals go_wp2_with fail
    all_goals go_meet
    all_goals exact ⟨rfl, below_drawn (Below.refl _ _)⟩
  case rest =>
    obtain ⟨rfl, hbc⟩ := hcut
    have HBC := Lib.hid (bthen HB2.out hbc)
    clear hbc HK C2 hne
    go_upto_region 6 with fail
    have HX6 := Lib.hid ((HX0.out.under HB1.out).under HBC.out)
    have HK : Hid (∀ W, Below wc.heap.size wc W → Below wc.heap.size wc W ∧ W.cell? ⟨B.b, 0, none⟩ = some (.slice A0 es.length c0)) := Lib.hid (fun W hW => ⟨hW, (HX6.out.under hW).cell 0⟩)
    have b0 : (0 : Int) ≤ (es.length : Int) := Int.natCast_nonneg _
    have b1 : (es.length : Int) ≤ (c0 : Int) := by omega
    go_cut [7] (fun v wx => v = .slice A0 es.length es.length ∧ Below wc.heap.size wc wx)
    case first =>
      go_region_held3 (fun W => Below wc.heap.size wc W ∧ W.cell? ⟨B.b, 0, none⟩ = some (.slice A0 es.length c0)) (first | exact HK.out _ (below_drawn (Below.refl _ _)) | (assumption)) (fail)
      all_goals go_wp2_with fail
      all_goals go_meet
      all_goals exact ⟨rfl, below_drawn (Below.refl _ _)⟩
    case rest =>
      obtain ⟨rfl, hbd⟩ := hcut
      have HBD := Lib.hid (bthen HB1.out (bthen HBC.out hbd))
      have HXB2 := Lib.hid ((HXB.out.under HBC.out).under hbd)
      have HIM := Lib.hid (Im.start H.out HBD.out HX0.out HR0.out HN0.out HXB2.out)
      have k1 := HXB2.out.cell 1
      simp only [List.getElem?_cons_succ, List.getElem?_cons_zero] at k1
      clear hbd HX6 HK b1 HXB2 HBC
      go_upto_region 8 with fail
      go_loopw [7, 42] (fun v i wr => ∃ (k : Nat) (g : Option Nat), k ≤ bs.length ∧ i = .int .i64 k ∧ Hid (Im w B es X A0 c0 [.int .i64 after, .slice E bs.length ce] (bs.take k) (bs.take k) (bs.take k) v g wr)) (fun _ i _ => bs.length - (intOf i).toNat)
      case atStart => exact ⟨0, none, Nat.zero_le _, rfl, HIM⟩
      case round =>
        clear HIM k1
        obtain ⟨k, g, hk, rfl, him⟩ := hrel
        obtain ⟨A1, c1, hv, hs7⟩ := him.out.nx.slice
        have hlen : (recsOf (es ++ bs.take k)).length = es.length + k := by rw [recsOf_len, List.length_append, List.length_take]; omega
        rw [hlen] at hv
        have hc1 := hs7.1
        rw [hlen] at hc1
        have hc1m := hs7.2.1
        unfold maxLen at hc1m
        have HS7 := Lib.hid hs7
        clear hs7
        by_cases hlt : k < bs.length
        · have hE2 : Sl kEvent (fun k => ¬ B.has k) wr E ce bs := HE.out.stay him.out.but.size (fun j hj hl => him.out.but.block j hl hj)
          obtain ⟨ad, S, sa, T, ta, rfl, c0', c1', c2', c3', hS, hT⟩ := row_ev_at hE2.2.2 hlt
          have HTK := Lib.hid (show bs.take (k + 1) = bs.take k ++ [bs[k]] from List.take_succ_eq_append_getElem hlt)
          have HOK := Lib.hid (HOKS.out _ (List.getElem_mem hlt))
          have HIN := Lib.hid (HG.out _ (List.getElem_mem hlt))
          generalize bs[k] = f at c0' c1' c2' c3' hS hT HTK HOK HIN
          have hwr : w.heap.size ≤ wr.heap.size := him.out.but.size
          obtain ⟨X0, hX0⟩ : ∃ X0, X0 = wr.alloc (.cells #[.string f.stream, .string f.type, .slice S f.tags.length sa, .slice T f.fields.length ta] 25) := ⟨_, rfl⟩
          have hA : Below wr.heap.size wr X0 := by rw [hX0]; exact (Below.refl _ _).alloc (Nat.le_refl _) _
          have HX0E := Lib.hid hX0
          have HEB := Lib.hid (show EvB w B wr.heap.size f S T sa ta X0 from ⟨by rw [hX0]; exact Bx.new wr _ _, hS.below hA, hT.below hA, fun hB => by have := him.out.lt _ hB; omega⟩)
          have HIM1 := Lib.hid (him.out.below hA)
          have hNl : (es ++ bs.take k).length = es.length + k := by rw [List.length_append, List.length_take]; omega
          have CT := Lib.hid ((HIM1.out.below (below_drawn (Below.refl _ _))).cAddT (f := f) (pos := ((es.length + k : Nat) : Int) + 1) (by rw [hNl]; omega) HIN.out.st (by rw [hNl]))
          have HNL := Lib.hid hNl
          have j1 : X0.cell? ⟨B.b, 1, none⟩ = some (.pointer (some ⟨B.bt, 0, none⟩)) := HIM1.out.bx.cell 1
          have j2 : X0.cell? ⟨wr.heap.size, 0, none⟩ = some (.string f.stream) := HEB.out.cells.1
          obtain ⟨N, hN⟩ : ∃ N, N = es.length + k := ⟨_, rfl⟩
          have hNb : N ≤ 880 := by have := HL.out; rw [List.length_append] at this; omega
          rw [← hN] at CT HNL hv hlen hc1
          have HLEN := Lib.hid hlen
          have HNE := Lib.hid hN
          have HIM0 := him
          subst hv
          clear hX0 hE2 hS hT hA hNl hN hlen him
          have i1 : (0 : Int) ≤ (k : Int) := Int.natCast_nonneg _
          have i2 : (k : Int) < (bs.length : Int) := by omega
          go_upto_region 11 with fail
          rw [← HX0E.out]
          clear c0' c1' c2' c3'
          go_cut [11, 12] (fun v e wx => v = .int .i64 ((cntS (es ++ bs.take k) f.stream : Int) + 1) ∧ e = .int .i64 0 ∧ Im w B es X A0 c0 [.int .i64 after, .slice (some ad) bs.length ce] (bs.take k ++ [f]) (bs.take k) (bs.take k) (.slice A1 N c1) g wx ∧ EvB w B wr.heap.size f S T sa ta wx ∧ But B.has X0 wx)
          case first =>
            go_region_held3 (fun W => W.cell? ⟨B.b, 1, none⟩ = some (.pointer (some ⟨B.bt, 0, none⟩)) ∧ W.cell? ⟨wr.heap.size, 0, none⟩ = some (.string f.stream)) (first | exact ⟨j1, j2⟩ | exact HS4.out | (assumption))
              (first | (go_at_call 46; go_fit CT.out; rintro r w4 ⟨rfl, him4, hbut4⟩; have HIM4 := Lib.hid him4; have HBUT4 := Lib.hid hbut4; have HS4 := Lib.hid (show w4.cell? ⟨B.b, 1, none⟩ = some (.pointer (some ⟨B.bt, 0, none⟩)) ∧ w4.cell? ⟨wr.heap.size, 0, none⟩ = some (.string f.stream) from ⟨him4.bx.cell 1, ((HEB.out.stay (But.of_below (below_drawn (Below.refl _ _)))).stay hbut4).cells.1⟩); clear him4 hbut4))
            all_goals go_wp2_with fail
            all_goals go_meet
            all_goals exact ⟨rfl, rfl, HIM4.out, (HEB.out.stay (But.of_below (below_drawn (Below.refl _ _)))).stay HBUT4.out, (But.of_below (below_drawn (Below.refl _ _))).trans HBUT4.out⟩
          case rest =>
            obtain ⟨rfl, rfl, him4, heb4, hbut4⟩ := hcut
            have HIM4 := Lib.hid him4
            have HEB4 := Lib.hid heb4
            have HSZ4 := Lib.hid (hbut4.size)
            clear him4 heb4 hbut4 CT j1 j2
            go_upto_region 13 with fail
            have CP := Lib.hid ((HIM4.out.below (below_drawn (Below.refl _ _))).cAddP (f := f) (T := S) (F := T) (ct := sa) (cf := ta) (pos := (N : Int) + 1) (by rw [HNL.out]; omega) (HEB4.out.stay (But.of_below (below_drawn (Below.refl _ _)))).ts HOK.out HIN.out (by rw [HNL.out]))
            have HS0 := Lib.hid (show wc.cell? ⟨B.b, 2, none⟩ = some (.pointer (some ⟨B.p, 0, none⟩)) ∧ wc.cell? ⟨wr.heap.size, 0, none⟩ = some (.string f.stream) ∧ wc.cell? ⟨wr.heap.size, 1, none⟩ = some (.string f.type) ∧ wc.cell? ⟨wr.heap.size, 2, none⟩ = some (.slice S f.tags.length sa) ∧ wc.cell? ⟨wr.heap.size, 3, none⟩ = some (.slice T f.fields.length ta) from ⟨HIM4.out.bx.cell 2, HEB4.out.cells⟩)
            go_cut [12] (fun e wx => e = .int .i64 0 ∧ Im w B es X A0 c0 [.int .i64 after, .slice (some ad) bs.length ce] (bs.take k ++ [f]) (bs.take k ++ [f]) (bs.take k) (.slice A1 N c1) g wx ∧ EvB w B wr.heap.size f S T sa ta wx ∧ wc.heap.size ≤ wx.heap.size)
            case first =>
              go_region_held3 (fun W => W.cell? ⟨B.b, 2, none⟩ = some (.pointer (some ⟨B.p, 0, none⟩)) ∧ W.cell? ⟨wr.heap.size, 0, none⟩ = some (.string f.stream) ∧ W.cell? ⟨wr.heap.size, 1, none⟩ = some (.string f.type) ∧ W.cell? ⟨wr.heap.size, 2, none⟩ = some (.slice S f.tags.length sa) ∧ W.cell? ⟨wr.heap.size, 3, none⟩ = some (.slice T f.fields.length ta)) (first | exact HS0.out | exact HS5.out | (assumption))
                (first | (go_at_call 47; go_fit CP.out; rintro r w5 ⟨rfl, him5, hbut5⟩; have HIM5 := Lib.hid him5; have HEB5 := Lib.hid ((HEB4.out.stay (But.of_below (below_drawn (Below.refl _ _)))).stay hbut5); have HSZ5 := Lib.hid (show wc.heap.size ≤ w5.heap.size from hbut5.size); have HS5 := Lib.hid (show w5.cell? ⟨B.b, 2, none⟩ = some (.pointer (some ⟨B.p, 0, none⟩)) ∧ w5.cell? ⟨wr.heap.size, 0, none⟩ = some (.string f.stream) ∧ w5.cell? ⟨wr.heap.size, 1, none⟩ = some (.string f.type) ∧ w5.cell? ⟨wr.heap.size, 2, none⟩ = some (.slice S f.tags.length sa) ∧ w5.cell? ⟨wr.heap.size, 3, none⟩ = some (.slice T f.fields.length ta) from ⟨him5.bx.cell 2, HEB5.out.cells⟩); clear him5 hbut5))
              all_goals go_wp2_with fail
              all_goals go_meet
              all_goals exact ⟨rfl, HIM5.out, HEB5.out, HSZ5.out⟩
            case rest =>
              obtain ⟨rfl, him5, heb5, hsz5⟩ := hcut
              have HIM5 := Lib.hid him5
              have HEB5 := Lib.hid heb5
              have C7 := Lib.hid (ownE_any (HEB5.out.ts.any) (HEB5.out.fs.any) HOK.out HIN.out)
              obtain ⟨j0, j1, j2, j3⟩ := heb5.cells
              have hsz := Nat.le_trans HSZ4.out hsz5
              clear him5 heb5 CP HS0
              have hx0s : X0.heap.size = wr.heap.size + 1 := by rw [HX0E.out]; simp
              have HFR := Lib.hid (fun j (hj : wc.heap.size ≤ j) => show (¬ B.has j ∧ ¬ X j) ∧ some j ≠ g from ⟨⟨fun hB => by have := HIM5.out.lt j hB; omega, fun hX => by have := HIM5.out.xlt j hX; omega⟩, fun e => by have := (HIM5.out.nx.lt e.symm).2; omega⟩)
              have HSW := Lib.hid (show w.heap.size + 1 ≤ wc.heap.size by omega)
              clear hsz5 hsz hx0s
              go_wp2_with (first
                | (go_at_call 48; go_fit C7.out; rintro r w7 ⟨T', F', ct', cf', rfl, h71, h72, hb7⟩; have H71 := Lib.hid h71; have H72 := Lib.hid h72; have HB7 := Lib.hid hb7; have hs7 := hb7.size; clear h71 h72 hb7)
                | (at_builtin; refine wpList_pushN (W := w7) rfl _ _ _ rfl 49 _ 6 96 Try.underlying40 infoRec rfl (by decide) (by decide) rfl (w.heap.size + 1) (fun j => ¬ B.has j ∧ ¬ X j) (.slice A1 N c1) (recsOf (es ++ bs.take k)) g rfl (HIM5.out.below HB7.out).nx ⟨(N : Int) + 1, (cntS (es ++ bs.take k) f.stream : Int) + 1, f⟩ [.int .i64 ((N : Int) + 1), .int .i64 ((cntS (es ++ bs.take k) f.stream : Int) + 1), .string f.stream, .string f.type, .slice T' f.tags.length ct', .slice F' f.fields.length cf'] (kRec_mk (H71.out.mono (fun j hj => HFR.out j hj)) (H72.out.mono (fun j hj => HFR.out j hj))) w7.heap.size rfl rfl (by have := HSW.out; omega) (by rw [HLEN.out]; omega) ?_; intro v1 w8 g1 hn1 hg1 hgg1; have HP := Lib.hid (show Im w B es X A0 c0 [.int .i64 after, .slice (some ad) bs.length ce] (bs.take k ++ [f]) (bs.take k ++ [f]) (bs.take k ++ [f]) v1 g1 w8 from (HIM5.out.below HB7.out).push (by rw [HNL.out]; exact hn1) hg1 hgg1); clear hn1 hg1 hgg1))
              go_roundw
              case rel => exact ⟨k + 1, g1, by omega, by go_num, Lib.hid (by rw [HTK.out]; exact HP.out)⟩
              case measure => simp [intOf]; omega
        · obtain rfl : k = bs.length := by omega
          rw [List.take_length] at him hlen HS7
          have HLEN := Lib.hid hlen
          subst hv
          have hsl := HS7.out
          have hx0 := him.out.bx.cell 0
          have hfz := him.out.bx.free 0
          simp only [List.getElem?_cons_zero] at hx0
          have HIM := him
          have hdr : (recsOf (es ++ bs)).drop es.length = recsFrom es bs := by rw [recsOf_append, List.drop_left' (recsOf_len es)]
          obtain ⟨N, hN⟩ : ∃ N, N = es.length + bs.length := ⟨_, rfl⟩
          rw [← hN] at HLEN hc1 ⊢
          have hNn : es.length ≠ c1 := by omega
          have hcut := Row.cut (k := es.length) (cap := c1) hsl.2.2 hsl.1
          rw [hdr, if_neg (fun e => hNn e.symm)] at hcut
          obtain ⟨ad1, rfl⟩ : ∃ ad1, A1 = some ad1 := by
            cases A1 with
            | none => have := hsl.none_nil'; have h9 := HLEN.out; rw [this] at h9; simp at h9; omega
            | some ad1 => exact ⟨ad1, rfl⟩
          have hfl : (recsFrom es bs).length = bs.length := recsFrom_len _ _
          have hslc : Sl kRec (fun j => (¬ B.has j ∧ ¬ X j) ∨ w.heap.size + 1 ≤ j) wr (some (ad1.add (es.length * 6))) (c1 - es.length) (recsFrom es bs) := ⟨by rw [hfl]; omega, by unfold maxLen; omega, hcut⟩
          have hmem : ∀ r ∈ recsFrom es bs, r.ev ∈ bs := fun r hr => (recsFrom_lo hr).2.2
          have C18 := Lib.hid (told_any (x := .pointer (some ⟨B.b, 0, none⟩)) hslc (by rw [hfl]; omega) (fun r hr => HOKS.out _ (hmem r hr)) (fun r hr => HG.out _ (hmem r hr)))
          rw [hfl] at C18
          have i1 : (es.length : Int) ≤ (N : Int) := by omega
          have i2 : es.length ≤ N := by omega
          have i3 : N ≤ c1 := by omega
          have hsub : N - es.length = bs.length := by omega
          have HSUB := Lib.hid hN
          clear hlen HS7 hsl hdr hcut hslc hfl hmem him hN
          go_wp2_with (go_at_call 49; go_fit C18.out; rintro r w9 ⟨A9, c9, rfl, h9, hb9⟩; have H9 := Lib.hid h9; have HB9 := Lib.hid hb9; have y0 := (HIM.out.bx.under hb9).cell 0; simp only [List.getElem?_cons_zero] at y0; have yf := (HIM.out.bx.under hb9).free 0; clear h9 hb9)
          go_ret2
          have hfin := HIM.out.finish H.out.ok H.out.inn HOKS.out HG.out (by have := HL.out; omega) (fun e => by rw [e] at hb0; exact absurd hb0 (by decide)) H.out.xb HB9.out
          rw [← HSUB.out] at hfin
          have hBlt := HIM.out.lt B.b (.inl rfl)
          have hws := HIM.out.but.size
          refine ⟨A9, c9, wr.heap.size, rfl, H9.out.setCell (fun j hj => by show j ≠ B.b; omega) _, hws, ?_, hfin.2⟩
          have h10 := hfin.1
          rwa [show w9.heap.size = (w9.setCell ⟨B.b, 0, none⟩ (.slice (some ad1) N c1)).heap.size by simp [World.setCell]] at h10
end
end Go.Proofs.Ytfoghahidofegaa

namespace Go.Proofs.Ytfoghahidofegaa
open Go.RowKit Go.Maps

/-- A literal row of many-celled elements in the block just made. -/
theorem Sl.litK {α : Type} {d : Kn α} {ok : Nat → Prop} {w : World} (e : TypeId) (xs : List α) (css : List (List Value)) (hl : css.length = xs.length) (hm : xs.length ≤ maxLen) (hk : ∀ (j : Nat) (x : α) (c : List Value), xs[j]? = some x → css[j]? = some c → d.K ok w x c) :
    Sl d (fun k => ok k ∨ w.heap.size ≤ k) (w.alloc (.cells css.flatten.toArray e)) (some ⟨w.heap.size, 0, none⟩) xs.length xs := by
  refine ⟨Nat.le_refl _, hm, fun _ => ⟨_, rfl, .inr (Nat.le_refl _), by simp, fun j x hj => ?_⟩⟩
  have hjl := (List.getElem?_eq_some_iff.1 hj).1
  have hc : css[j]? = some css[j] := List.getElem?_eq_getElem (by omega)
  have hall : ∀ c ∈ css, c.length = d.sz := fun c hc => by
    obtain ⟨i, hi⟩ := List.getElem?_of_mem hc
    have hil := (List.getElem?_eq_some_iff.1 hi).1
    exact d.len (hk i xs[i] c (List.getElem?_eq_getElem (by omega)) hi)
  refine ⟨css[j], hall _ (List.mem_of_getElem? hc), d.mono (fun _ h => .inl h) (d.below (hk j x _ hj hc) ((Below.refl _ _).alloc (Nat.le_refl _) _)), fun i u hu => ?_⟩
  have hf := flat_at css hall j i _ u hc hu
  have := World.news_of_block (cs := css.flatten.toArray) (t := e) (fr := (0, 0)) (heap_alloc_new w (.cells css.flatten.toArray e)) (j * d.sz + i) u (by simpa using hf)
  exact this
/-- An event of a stream and a type alone. -/
def evOf (s t : ByteArray) : Event := ⟨s, t, [], []⟩
theorem evOf_K (s t : ByteArray) (ok : Nat → Prop) (w : World) : kEvent.K ok w (evOf s t) [.string s, .string t, .slice none 0 0, .slice none 0 0] := kEvent_mk (e := evOf s t) Sl.nil_ Sl.nil_
theorem evOf_in {s t : ByteArray} (hs : s.size ≤ maxLen) (ht : t.size ≤ maxLen) : EvIn (evOf s t) := ⟨hs, ht, by simp [evOf], by simp [evOf], by simp [evOf], by simp [evOf]⟩
def sbS : ByteArray := ⟨#[115]⟩
def sbT : ByteArray := ⟨#[116]⟩
theorem sbS_le : sbS.size ≤ maxLen := by decide
theorem sbT_le : sbT.size ≤ maxLen := by decide
def exB1 : List Event := [evOf sbS sbT, evOf sbS sbT]
def exB2 : List Event := [evOf sbT sbT]
theorem ex1_in : ∀ e ∈ exB1, EvIn e := by
  intro e he
  simp only [exB1, List.mem_cons, List.not_mem_nil, or_false, or_self] at he
  rw [he]; exact evOf_in sbS_le sbT_le
theorem ex2_in : ∀ e ∈ exB2, EvIn e := by
  intro e he
  simp only [exB2, List.mem_cons, List.not_mem_nil, or_false] at he
  rw [he]; exact evOf_in sbT_le sbT_le
theorem ex1_ok : addErr [] 0 exB1 = 0 := by decide +kernel
theorem ex2_ok : addErr ([] ++ exB1) 2 exB2 = 0 := by decide +kernel
theorem ex1_recs : recsFrom [] exB1 = [⟨1, 1, evOf sbS sbT⟩, ⟨2, 2, evOf sbS sbT⟩] := by rfl
theorem ex2_recs : recsFrom ([] ++ exB1) exB2 = [⟨3, 1, evOf sbT sbT⟩] := by rfl
theorem ex_ver : verR (([] ++ exB1) ++ exB2) sbS 1 = 1 := by decide +kernel

set_option maxHeartbeats 8000000 in
set_option maxRecDepth 100000 in
theorem shown14_any (w : World) : Calls Try.prog 14 #[] w fun r w' => r = .returned (.bool true) ∧ Below w.heap.size w w' := by
  have C1 := Lib.hid (iNew w (fun _ => False) (fun k hk => hk.elim))
  go_enter Try.func14, Try.ntmps14
  go_upto_region 5 with (go_at_call 15; go_fit C1.out; rintro r w1 ⟨B, rfl, h1, hb1, hB⟩; have H1 := Lib.hid h1; have HB1 := Lib.hid hb1; have HBB := Lib.hid hB; clear h1 hb1 hB)
  obtain ⟨W2, hW2⟩ : ∃ W2, W2 = w1.alloc (.cells #[.string ⟨#[115]⟩, .string ⟨#[116]⟩, .slice none 0 0, .slice none 0 0] 25) := ⟨_, rfl⟩
  have HA2 := Lib.hid (show Below w1.heap.size w1 W2 by rw [hW2]; exact (Below.refl _ _).alloc (Nat.le_refl _) _)
  have x2 : Bx W2 w1.heap.size 25 [.string ⟨#[115]⟩, .string ⟨#[116]⟩, .slice none 0 0, .slice none 0 0] := by rw [hW2]; exact Bx.new w1 _ _
  have HX2 := Lib.hid x2
  have HW2 := Lib.hid hW2
  rw [← HW2.out]
  have j0 := x2.cell 0
  have j1 := x2.cell 1
  have j2 := x2.cell 2
  have j3 := x2.cell 3
  simp only [List.getElem?_cons_succ, List.getElem?_cons_zero] at j0 j1 j2 j3
  have HE1 := Lib.hid (Sl.litK (d := kEvent) (ok := fun _ => False) (w := W2) 25 exB1 [[.string sbS, .string sbT, .slice none 0 0, .slice none 0 0], [.string sbS, .string sbT, .slice none 0 0, .slice none 0 0]] rfl (by decide) (fun j x c hx hc => by
    match j, hx, hc with
    | 0, hx, hc => simp [exB1] at hx; simp at hc; subst hx; subst hc; exact evOf_K _ _ _ _
    | 1, hx, hc => simp [exB1] at hx; simp at hc; subst hx; subst hc; exact evOf_K _ _ _ _
    | j + 2, hx, hc => simp [exB1] at hx))
  have HA3 := Lib.hid (show Below W2.heap.size W2 (W2.alloc (.cells #[.string ⟨#[115]⟩, .string ⟨#[116]⟩, .slice none 0 0, .slice none 0 0, .string ⟨#[115]⟩, .string ⟨#[116]⟩, .slice none 0 0, .slice none 0 0] 25)) from (Below.refl _ _).alloc (Nat.le_refl _) _)
  have C2 : Hid (Calls Try.prog 18 #[.pointer (some ⟨B.b, 0, none⟩), .agg #[.int .i64 0, .slice (some ⟨W2.heap.size, 0, none⟩) 2 2]] (W2.alloc (.cells #[.string ⟨#[115]⟩, .string ⟨#[116]⟩, .slice none 0 0, .slice none 0 0, .string ⟨#[115]⟩, .string ⟨#[116]⟩, .slice none 0 0, .slice none 0 0] 25)) fun r w' => ∃ (A' : Option Addr) (c' : Nat), r = .returned (.tuple #[.slice A' 2 c', .int .i64 0]) ∧ Sl kRec (fun k => ¬ B.has k) w' A' c' [⟨1, 1, evOf sbS sbT⟩, ⟨2, 2, evOf sbS sbT⟩] ∧ Ix w' B ([] ++ exB1) (fun _ => False) ∧ Below w.heap.size w w') := Lib.hid (by
    have hI := (H1.out.below HA2.out).below HA3.out
    refine (iAddOk hI (E := some ⟨W2.heap.size, 0, none⟩) (ce := 2) (bs := exB1) (after := 0) ?_ ex1_in (by decide) ex1_ok).mono ?_
    · exact HE1.out.mono (fun k hk hB => hk.elim False.elim (fun h => by have := H1.out.lt k hB; have := HA2.out.size; omega))
    · rintro r w' ⟨A', c', K, rfl, h1, h2, h3, h4⟩
      rw [ex1_recs] at h1
      have hbb := bthen (bthen HB1.out HA2.out) HA3.out
      exact ⟨A', c', rfl, h1.mono (fun k hk hB => by have := hI.lt k hB; omega), h3.less (fun k hk => hk.elim), h4.below hbb hbb.size HBB.out⟩)
  clear hW2 HE1 x2
  go_upto_region 6 with (go_at_call 18; go_fit C2.out; rintro r w4 ⟨A4, c4, rfl, h4, h5, hb4⟩; have H4 := Lib.hid h4; have H5 := Lib.hid h5; have HB4 := Lib.hid hb4; clear h4 h5 hb4)
  have HE2 := Lib.hid (Sl.litK (d := kEvent) (ok := fun _ => False) (w := w4) 25 exB2 [[.string sbT, .string sbT, .slice none 0 0, .slice none 0 0]] rfl (by decide) (fun j x c hx hc => by
    match j, hx, hc with
    | 0, hx, hc => simp [exB2] at hx; simp at hc; subst hx; subst hc; exact evOf_K _ _ _ _
    | j + 1, hx, hc => simp [exB2] at hx))
  have HA5 := Lib.hid (show Below w4.heap.size w4 (w4.alloc (.cells #[.string ⟨#[116]⟩, .string ⟨#[116]⟩, .slice none 0 0, .slice none 0 0] 25)) from (Below.refl _ _).alloc (Nat.le_refl _) _)
  have C3 : Hid (Calls Try.prog 18 #[.pointer (some ⟨B.b, 0, none⟩), .agg #[.int .i64 2, .slice (some ⟨w4.heap.size, 0, none⟩) 1 1]] (w4.alloc (.cells #[.string ⟨#[116]⟩, .string ⟨#[116]⟩, .slice none 0 0, .slice none 0 0] 25)) fun r w' => ∃ (A' : Option Addr) (c' : Nat), r = .returned (.tuple #[.slice A' 1 c', .int .i64 0]) ∧ SlR w' A' c' [⟨3, 1, evOf sbT sbT⟩] ∧ Ix w' B (([] ++ exB1) ++ exB2) (fun _ => False) ∧ Below w.heap.size w w' ∧ SlR w' A4 c4 [⟨1, 1, evOf sbS sbT⟩, ⟨2, 2, evOf sbS sbT⟩]) := Lib.hid (by
    have hI := H5.out.below HA5.out
    refine (iAddOk hI (E := some ⟨w4.heap.size, 0, none⟩) (ce := 1) (bs := exB2) (after := 2) ?_ ex2_in (by decide) ex2_ok).mono ?_
    · exact HE2.out.mono (fun k hk hB => hk.elim False.elim (fun h => by have := H5.out.lt k hB; omega))
    · rintro r w' ⟨A', c', K, rfl, h1, h2, h3, h4⟩
      rw [ex2_recs] at h1
      have hbb := bthen HB4.out HA5.out
      exact ⟨A', c', rfl, h1.any, h3.less (fun k hk => hk.elim), h4.below hbb hbb.size HBB.out, ((H4.out.below HA5.out).stay h4.size (fun k hk hl => h4.block k hl hk)).any⟩)
  clear HE2
  go_upto_region 7 with (go_at_call 18; go_fit C3.out; rintro r w5 ⟨A5, c5, rfl, h5, h6, hb5, h7⟩; have H6 := Lib.hid h6; have HB5 := Lib.hid hb5)
  obtain ⟨ad4, _, _, _, _, rfl, _, y1, _⟩ := row_rec_at h7.2.2 (j := 1) (by decide)
  obtain ⟨ad5, _, _, _, _, rfl, z0, z1, _⟩ := row_rec_at h5.2.2 (j := 0) (by decide)
  have C4 := Lib.hid (iVersion H6.out (s := sbS) sbS_le 1)
  rw [ex_ver] at C4
  simp only [List.getElem_cons_succ, List.getElem_cons_zero] at y1 z0 z1
  have y1' : w5.cell? ⟨ad4.block, ad4.off + 6 + 1, none⟩ = some (.int .i64 2) := y1
  have z0' : w5.cell? ad5 = some (.int .i64 3) := z0
  have z1' : w5.cell? ⟨ad5.block, ad5.off + 1, none⟩ = some (.int .i64 1) := z1
  clear y1 z0 z1
  go_wp2_with (go_at_call 42; go_fit C4.out; rintro r w7 ⟨rfl, rfl⟩)
  go_ret
  exact ⟨rfl, HB5.out⟩
end Go.Proofs.Ytfoghahidofegaa

namespace Go.Proofs.Ytfoghahidofegaa
open Go.RowKit

theorem infoEv : (Try.prog.info? 25).map (fun i => (i.zero, i.size, i.bytes)) = some (some (.agg #[.string ByteArray.empty, .string ByteArray.empty, .slice none 0 0, .slice none 0 0]), 4, 80) := by kernel_rfl
def cut10 (e : Event) : Event := ⟨e.stream, e.type, e.tags.take 10, e.fields.take 10⟩
def few8 (es : List Event) : List Event := (es.take 8).map cut10
theorem few8_succ (q : List Event) (k : Nat) (h : k < q.length) : (q.take (k + 1)).map cut10 = (q.take k).map cut10 ++ [cut10 q[k]] := by
  rw [List.take_succ_eq_append_getElem h, List.map_append]; rfl
theorem few8_len (es : List Event) : (few8 es).length ≤ 8 := by simp [few8]; omega
theorem cut10_in {e : Event} (h : goodEvent e) : EvIn (cut10 e) :=
  ⟨h.1, h.2.1, fun x hx => h.2.2.1 x (List.mem_of_mem_take hx), fun x hx => (h.2.2.2 x (List.mem_of_mem_take hx)).1, by simp [cut10]; omega, by simp [cut10]; omega⟩
theorem few8_in {es : List Event} (h : ∀ e ∈ es, goodEvent e) : ∀ e ∈ few8 es, EvIn e := fun e he => by
  obtain ⟨x, hx, rfl⟩ := List.mem_map.1 he
  exact cut10_in (h x (List.mem_of_mem_take hx))
theorem kEvent_mk' {ok : Nat → Prop} {w : World} {c : Event} {A B : Option Addr} {n m ca cb : Nat} (h1 : Sl Kn.str ok w A ca c.tags) (h2 : Sl kField ok w B cb c.fields) (e1 : c.tags.length = n) (e2 : c.fields.length = m) : kEvent.K ok w c [.string c.stream, .string c.type, .slice A n ca, .slice B m cb] := by
  subst e1; subst e2; exact kEvent_mk h1 h2

/-- few's state at a round's head. -/
structure FewB (ok : Nat → Prop) (a : Int) (q : List Event) (Q : Option Addr) (cq : Nat) (w : World) (k : Nat) (v : Value) (wr : World) : Prop where
  b1 : Bx wr w.heap.size 43 [.int .i64 a, .slice Q q.length cq]
  b2 : Bx wr (w.heap.size + 1) 43 [.int .i64 0, .slice none 0 0]
  b3 : Bx wr (w.heap.size + 1 + 1) 43 [.int .i64 a, v]
  own : Own kEvent 25 (w.heap.size + 3) (fun k => ok k ∧ k < w.heap.size) wr v ((q.take k).map cut10)
  sl : Sl kEvent (fun k => ok k ∧ k < w.heap.size) wr Q cq q
  size : w.heap.size + 3 ≤ wr.heap.size
  bel : Below w.heap.size w wr
theorem FewB.box {ok : Nat → Prop} {a : Int} {q : List Event} {Q : Option Addr} {cq : Nat} {w : World} {k : Nat} {v : Value} {wr W w1 : World} (h : FewB ok a q Q cq w k v wr) (hb : Below wr.heap.size wr W) (hg : W.grownBy w1 v.ownBlock) : Bx w1 (w.heap.size + 1 + 1) 43 [.int .i64 a, v] :=
  (h.b3.under hb).grown hg (fun e => by have := h.own.base_le _ e.symm; omega)
theorem FewB.step {ok : Nat → Prop} {a : Int} {q : List Event} {Q : Option Addr} {cq : Nat} {w : World} {k : Nat} {v v1 : Value} {wr W w1 : World} (h : FewB ok a q Q cq w k v wr) (hb : Below wr.heap.size wr W)
    (hg : W.grownBy w1 v.ownBlock) (x : Event) (hxe : q[k]? = some x) (hown : Own kEvent 25 (w.heap.size + 3) (fun k => ok k ∧ k < w.heap.size) w1 v1 ((q.take k).map cut10 ++ [cut10 x])) :
    FewB ok a q Q cq w (k + 1) v1 (w1.setCell ⟨w.heap.size + 1 + 1, 1, none⟩ v1) := by
  have hs := h.size
  obtain ⟨hk, hxe⟩ := List.getElem?_eq_some_iff.1 hxe
  subst hxe
  have hv : ∀ j, v.ownBlock = some j → w.heap.size + 3 ≤ j := h.own.base_le
  have hne : ∀ j, j < w.heap.size + 3 → some j ≠ v.ownBlock := fun j hj e => by have := hv j e.symm; omega
  have hbl : ∀ j, j < w.heap.size + 3 → w1.heap[j]? = wr.heap[j]? := fun j hj => (hg.block j (by have := hb.size; omega) (hne j hj)).trans (hb.block j (by omega))
  have hsz : wr.heap.size ≤ w1.heap.size := Nat.le_trans hb.size hg.size
  refine ⟨?_, ?_, ?_, ?_, ?_, ?_, ?_⟩
  · exact (h.b1.stay (fun _ => hbl _ (by omega))).far (by simp; omega) _
  · exact (h.b2.stay (fun _ => hbl _ (by omega))).far (by simp) _
  · exact (h.b3.stay (fun _ => hbl _ (by omega))).set 1 v1
  · rw [few8_succ q k hk]
    exact hown.setCell (fun j hj => by simp; omega) (fun j hj => by have := hown.base_le j hj; simp; omega) _
  · exact ((h.sl.stay hsz (fun j hj _ => hbl j (by omega)))).setCell (fun j hj => by simp; omega) _
  · simp [World.setCell]; omega
  · refine Below.setCell ?_ (by simp; omega) _
    exact ⟨hg.os.trans (hb.os.trans h.bel.os), hg.tape.trans (hb.tape.trans h.bel.tape), hg.output.trans (hb.output.trans h.bel.output), Nat.le_trans h.bel.size hsz, fun j hj => (hbl j (by omega)).trans (h.bel.block j hj)⟩

set_option maxHeartbeats 8000000 in
set_option maxRecDepth 100000 in
theorem few14_any (ok : Nat → Prop) {a : Int} {q : List Event} {Q : Option Addr} {cq : Nat} {w : World} (hq : Sl kEvent ok w Q cq q) :
    Calls Try.prog 16 #[.agg #[.int .i64 a, .slice Q q.length cq]] w fun r w' => ∃ A c, r = .returned (.agg #[.int .i64 a, .slice A (few8 q).length c]) ∧ Sl kEvent (fun k => ok k ∨ w.heap.size ≤ k) w' A c (few8 q) ∧ Below w.heap.size w w' := by
  have hq2 := hq.2.1
  unfold maxLen at hq2
  have hq1 := hq.1
  have h0 : FewB ok a q Q cq w 0 (.slice none 0 0) (((w.alloc (.cells #[.int .i64 a, .slice Q q.length cq] 43)).alloc (.cells #[.int .i64 0, .slice none 0 0] 43)).alloc (.cells #[.int .i64 a, .slice none 0 0] 43)) := by
    refine ⟨?_, ?_, ?_, Own.nil_ _ _ _ _ _, ((hq.bound.alloc _).alloc _).alloc _, by simp, (((Below.refl _ _).alloc (Nat.le_refl _) _).alloc (by simp) _).alloc (by simp; omega) _⟩
    · exact ((Bx.new w _ [.int .i64 a, .slice Q q.length cq]).alloc _).alloc _
    · exact (by simpa using Bx.new (w.alloc (.cells #[.int .i64 a, .slice Q q.length cq] 43)) 43 [.int .i64 0, .slice none 0 0] : Bx _ (w.heap.size + 1) _ _).alloc _
    · simpa using Bx.new ((w.alloc (.cells #[.int .i64 a, .slice Q q.length cq] 43)).alloc (.cells #[.int .i64 0, .slice none 0 0] 43)) 43 [.int .i64 a, .slice none 0 0]
  have H0 := Lib.hid h0
  clear h0
  go_enter Try.func16, Try.ntmps16
  go_wp2
  go_loopw [4, 5] (fun i _ wr => ∃ (k : Nat) (v : Value), k ≤ 8 ∧ k ≤ q.length ∧ i = .int .i64 k ∧ FewB ok a q Q cq w k v wr) (fun i _ _ => q.length - (intOf i).toNat)
  case atStart => exact ⟨0, _, Nat.zero_le _, Nat.zero_le _, rfl, H0.out⟩
  case round =>
    clear H0
    obtain ⟨k, v, hk8, hk, rfl, hf⟩ := hrel
    have c1 := hf.b1.cell 0
    have c1' := hf.b1.cell 1
    have c2 := hf.b2.cell 0
    have c2' := hf.b2.cell 1
    have c3 := hf.b3.cell 0
    have c3' := hf.b3.cell 1
    simp only [List.getElem?_cons_succ, List.getElem?_cons_zero] at c1 c1' c2 c2' c3 c3'
    have f3 := hf.b3.free 1
    have hsz := hf.size
    have l1 : w.heap.size < wr.heap.size := by omega
    have l2 : w.heap.size + 1 < wr.heap.size := by omega
    have l3 : w.heap.size + 1 + 1 < wr.heap.size := by omega
    by_cases hlt : k < q.length ∧ k < 8
    · obtain ⟨hlt, h8⟩ := hlt
      obtain ⟨ad, S, sa, T, ta, rfl, hx, hy, hz, hu, hS, hT⟩ := row_ev_at hf.sl.2.2 hlt
      have hst := Lib.hid (fun (W w1 : World) (v1 : Value) => FewB.step (W := W) (w1 := w1) (v1 := v1) hf)
      have hown := Lib.hid hf.own
      have hbx := Lib.hid (fun (W w1 : World) => FewB.box (W := W) (w1 := w1) hf)
      have hkk : ∀ n m, (cut10 q[k]).tags.length = n → (cut10 q[k]).fields.length = m → kEvent.K (fun j => (ok j ∧ j < w.heap.size) ∧ some j ≠ v.ownBlock) wr (cut10 q[k]) [.string q[k].stream, .string q[k].type, .slice S n sa, .slice T m ta] := fun n m e1 e2 =>
        kEvent.mono (fun j hj => ⟨hj, fun e => by have := hf.own.base_le j e.symm; omega⟩) (kEvent_mk' (c := cut10 q[k]) (hS.take 10) (hT.take 10) e1 e2)
      have hxe : q[k]? = some q[k] := List.getElem?_eq_getElem hlt
      have hlen : ∀ y, ((q.take k).map cut10 ++ [cut10 y]).length = k + 1 := by intro y; simp; omega
      have HX := Lib.hid hxe
      generalize q[k] = x at hx hy hz hu hS hT hkk HX
      clear hf hxe
      have hsa := hS.1
      have hta := hT.1
      by_cases ht : 10 < x.tags.length <;> by_cases hty : 10 < x.fields.length
      · have HK := Lib.hid (fun o => kEvent.below (hkk 10 10 (by simp [cut10]; omega) (by simp [cut10]; omega)) ((Below.refl _ wr).alloc (Nat.le_refl _) o))
        clear hkk
        go_wp2_with (at_builtin; refine wpList_pushH rfl _ _ _ rfl 25 _ 4 80 Try.underlying41 infoEv rfl (by decide) (by decide) rfl (w.heap.size + 3) (fun k => ok k ∧ k < w.heap.size) _ ((q.take k).map cut10) rfl (hown.out.alloc _) (cut10 x) _ (HK.out _) (wr.heap.size + 1) (by simp) rfl (by simp; omega) (by simp; omega) ?_; intro v1 w1 hown1 hg1 hat1 hbel1; obtain ⟨A1, cc1, rfl, hsl1⟩ := hown1.sl; rw [hlen] at hown1; have k3 := (hbx.out _ w1 ((Below.refl _ wr).alloc (Nat.le_refl _) _) hg1).cell 1; simp only [List.getElem?_cons_succ, List.getElem?_cons_zero] at k3; have kf := (hbx.out _ w1 ((Below.refl _ wr).alloc (Nat.le_refl _) _) hg1).free 1)
        go_roundw
        case rel => exact ⟨k + 1, _, by omega, by omega, by go_num, hst.out _ w1 _ ((Below.refl _ wr).alloc (Nat.le_refl _) _) hg1 x HX.out hown1⟩
        case measure => simp [intOf]; omega
      · have HK := Lib.hid (fun o => kEvent.below (hkk 10 x.fields.length (by simp [cut10]; omega) (by simp [cut10]; omega)) ((Below.refl _ wr).alloc (Nat.le_refl _) o))
        clear hkk
        go_wp2_with (at_builtin; refine wpList_pushH rfl _ _ _ rfl 25 _ 4 80 Try.underlying41 infoEv rfl (by decide) (by decide) rfl (w.heap.size + 3) (fun k => ok k ∧ k < w.heap.size) _ ((q.take k).map cut10) rfl (hown.out.alloc _) (cut10 x) _ (HK.out _) (wr.heap.size + 1) (by simp) rfl (by simp; omega) (by simp; omega) ?_; intro v1 w1 hown1 hg1 hat1 hbel1; obtain ⟨A1, cc1, rfl, hsl1⟩ := hown1.sl; rw [hlen] at hown1; have k3 := (hbx.out _ w1 ((Below.refl _ wr).alloc (Nat.le_refl _) _) hg1).cell 1; simp only [List.getElem?_cons_succ, List.getElem?_cons_zero] at k3; have kf := (hbx.out _ w1 ((Below.refl _ wr).alloc (Nat.le_refl _) _) hg1).free 1)
        go_roundw
        case rel => exact ⟨k + 1, _, by omega, by omega, by go_num, hst.out _ w1 _ ((Below.refl _ wr).alloc (Nat.le_refl _) _) hg1 x HX.out hown1⟩
        case measure => simp [intOf]; omega
      · have HK := Lib.hid (fun o => kEvent.below (hkk x.tags.length 10 (by simp [cut10]; omega) (by simp [cut10]; omega)) ((Below.refl _ wr).alloc (Nat.le_refl _) o))
        clear hkk
        go_wp2_with (at_builtin; refine wpList_pushH rfl _ _ _ rfl 25 _ 4 80 Try.underlying41 infoEv rfl (by decide) (by decide) rfl (w.heap.size + 3) (fun k => ok k ∧ k < w.heap.size) _ ((q.take k).map cut10) rfl (hown.out.alloc _) (cut10 x) _ (HK.out _) (wr.heap.size + 1) (by simp) rfl (by simp; omega) (by simp; omega) ?_; intro v1 w1 hown1 hg1 hat1 hbel1; obtain ⟨A1, cc1, rfl, hsl1⟩ := hown1.sl; rw [hlen] at hown1; have k3 := (hbx.out _ w1 ((Below.refl _ wr).alloc (Nat.le_refl _) _) hg1).cell 1; simp only [List.getElem?_cons_succ, List.getElem?_cons_zero] at k3; have kf := (hbx.out _ w1 ((Below.refl _ wr).alloc (Nat.le_refl _) _) hg1).free 1)
        go_roundw
        case rel => exact ⟨k + 1, _, by omega, by omega, by go_num, hst.out _ w1 _ ((Below.refl _ wr).alloc (Nat.le_refl _) _) hg1 x HX.out hown1⟩
        case measure => simp [intOf]; omega
      · have HK := Lib.hid (fun o => kEvent.below (hkk x.tags.length x.fields.length (by simp [cut10]; omega) (by simp [cut10]; omega)) ((Below.refl _ wr).alloc (Nat.le_refl _) o))
        clear hkk
        go_wp2_with (at_builtin; refine wpList_pushH rfl _ _ _ rfl 25 _ 4 80 Try.underlying41 infoEv rfl (by decide) (by decide) rfl (w.heap.size + 3) (fun k => ok k ∧ k < w.heap.size) _ ((q.take k).map cut10) rfl (hown.out.alloc _) (cut10 x) _ (HK.out _) (wr.heap.size + 1) (by simp) rfl (by simp; omega) (by simp; omega) ?_; intro v1 w1 hown1 hg1 hat1 hbel1; obtain ⟨A1, cc1, rfl, hsl1⟩ := hown1.sl; rw [hlen] at hown1; have k3 := (hbx.out _ w1 ((Below.refl _ wr).alloc (Nat.le_refl _) _) hg1).cell 1; simp only [List.getElem?_cons_succ, List.getElem?_cons_zero] at k3; have kf := (hbx.out _ w1 ((Below.refl _ wr).alloc (Nat.le_refl _) _) hg1).free 1)
        go_roundw
        case rel => exact ⟨k + 1, _, by omega, by omega, by go_num, hst.out _ w1 _ ((Below.refl _ wr).alloc (Nat.le_refl _) _) hg1 x HX.out hown1⟩
        case measure => simp [intOf]; omega
    · have hown := hf.own
      have hfin : (q.take k).map cut10 = few8 q := by
        unfold few8
        congr 1
        rcases Nat.lt_or_ge k 8 with h | h
        · rw [List.take_of_length_le (by omega), List.take_of_length_le (by omega)]
        · rw [show k = 8 by omega]
      rw [hfin] at hown
      obtain ⟨A1, cc1, rfl, hsl1⟩ := hown.sl
      have hb := hf.bel
      have hR := Lib.hid (show Bx ((wr.setCell ⟨w.heap.size + 1, 0, none⟩ (.int .i64 a)).setCell ⟨w.heap.size + 1, 1, none⟩ (.slice A1 (few8 q).length cc1)) (w.heap.size + 1) 43 [.int .i64 a, .slice A1 (few8 q).length cc1] from (hf.b2.set 0 _).set 1 _)
      have r0 := hR.out.cell 0
      have r1 := hR.out.cell 1
      simp only [List.getElem?_cons_succ, List.getElem?_cons_zero] at r0 r1
      have f2 := hf.b2.free 0
      have f2' := hf.b2.free 1
      have HS := Lib.hid hsl1
      clear hf hfin hsl1 hown
      rcases Nat.lt_or_ge k q.length with hc | hc
      · have h8 : ¬ k < 8 := fun h => hlt ⟨hc, h⟩
        go_wp2_with fail
        exact bodyPost_ret (v := .agg #[.int .i64 a, .slice A1 (few8 q).length cc1]) (by simp [results, Try.results16, go_sem, r0, r1]) rfl ⟨A1, cc1, rfl, ((HS.out.setCell (fun j hj => by simp; omega) _).setCell (fun j hj => by simp; omega) _).mono (fun k hk => hk.imp And.left (fun h => by omega)), (hb.setCell (by simp) _).setCell (by simp) _⟩
      · go_wp2_with fail
        exact bodyPost_ret (v := .agg #[.int .i64 a, .slice A1 (few8 q).length cc1]) (by simp [results, Try.results16, go_sem, r0, r1]) rfl ⟨A1, cc1, rfl, ((HS.out.setCell (fun j hj => by simp; omega) _).setCell (fun j hj => by simp; omega) _).mono (fun k hk => hk.imp And.left (fun h => by omega)), (hb.setCell (by simp) _).setCell (by simp) _⟩
end Go.Proofs.Ytfoghahidofegaa

namespace Go.Proofs.Ytfoghahidofegaa
open Go.RowKit Go.Maps

abbrev Bt := Int × List Event
abbrev kBatch : Kn Bt := Kn.pair (Kn.int .i64) (Kn.slice kEvent)
theorem kBatch_sz : kBatch.sz = 2 := rfl
theorem kBatch_out {ok : Nat → Prop} {w : World} {b : Bt} {cs : List Value} (h : kBatch.K ok w b cs) : ∃ A c, cs = [.int .i64 b.1, .slice A b.2.length c] ∧ Sl kEvent ok w A c b.2 := by
  obtain ⟨c0, c1, rfl, h0, ⟨A, c, h1, h2⟩⟩ := h
  have e0 : c0 = [.int .i64 b.1] := h0
  subst e0; subst h1
  exact ⟨A, c, rfl, h2⟩
theorem row_batch_at {ok : Nat → Prop} {w : World} {A : Option Addr} {xs : List Bt} (h : Row kBatch ok w A xs) {j : Nat} (hj : j < xs.length) :
    ∃ ad E ce, A = some ad ∧ w.cell? (ad.add (j * 2)) = some (.int .i64 xs[j].1) ∧ w.cell? ⟨(ad.add (j * 2)).block, (ad.add (j * 2)).off + 1, none⟩ = some (.slice E xs[j].2.length ce) ∧ Sl kEvent ok w E ce xs[j].2 := by
  obtain ⟨ad, cs, e, _, _, _, hk, hc⟩ := h.at_ hj
  obtain ⟨E, ce, rfl, h1⟩ := kBatch_out hk
  rw [kBatch_sz] at hc
  refine ⟨ad, E, ce, e, hc 0 _ rfl, ?_, h1⟩
  have := hc 1 _ rfl
  rwa [add_field _ _ _ (by omega)] at this
def goodBatch (b : Bt) : Prop := (Lit.int .i64 b.1).wf = true ∧ ∀ e ∈ b.2, goodEvent e
theorem opEvs : Opens Try.prog 41 (Kn.slice kEvent) (fun q => ∀ e ∈ q, goodEvent e) := Opens.slice Try.underlying41 (by kernel_rfl) (by decide) opEvent
theorem opBatch : Opens Try.prog 43 kBatch goodBatch :=
  Opens.struct (d := kBatch) (good := fun (y : Bt) => gN y.1 ∧ ∀ e ∈ y.2, goodEvent e) Try.underlying43 (by kernel_rfl) (OpensFs.cons (good := gN) (good' := fun (y : List Event) => ∀ e ∈ y, goodEvent e) (d := Kn.int .i64) opInt (by kernel_rfl) (OpensFs.last opEvs (by kernel_rfl)))
theorem opBatches : Opens Try.prog 37 (Kn.slice kBatch) (fun q => ∀ b ∈ q, goodBatch b) := Opens.slice Try.underlying37 (by kernel_rfl) (by decide) opBatch

/-- What a batch makes of an index. -/
def addTo (es : List Event) (after : Int) (bs : List Event) : List Event := if addErr es after bs = 0 then es ++ bs else es
def addRs (es : List Event) (after : Int) (bs : List Event) : List Rec := if addErr es after bs = 0 then recsFrom es bs else []
theorem addTo_len (es : List Event) (after : Int) (bs : List Event) : (addTo es after bs).length ≤ es.length + bs.length := by unfold addTo; split <;> simp
theorem addRs_len (es : List Event) (after : Int) (bs : List Event) : (addRs es after bs).length = if addErr es after bs = 0 then bs.length else 0 := by unfold addRs; split; exact recsFrom_len _ _; rfl
section
variable {w : World} {B : Six} {es : List Event} {X : Nat → Prop}
/-- Add: any batch. -/
theorem iAdd_any (h : Ix w B es X) {E : Option Addr} {ce : Nat} {bs : List Event} {after : Int} (hE : Sl kEvent (fun k => ¬ B.has k) w E ce bs) (hg : ∀ e ∈ bs, EvIn e) (hl : es.length + bs.length ≤ 880) :
    Calls Try.prog 18 #[.pointer (some ⟨B.b, 0, none⟩), .agg #[.int .i64 after, .slice E bs.length ce]] w fun r w' => ∃ (A' : Option Addr) (c' : Nat), r = .returned (.tuple #[.slice A' (addRs es after bs).length c', .int .i64 (addErr es after bs)]) ∧ Sl kRec (fun k => w.heap.size ≤ k) w' A' c' (addRs es after bs) ∧
      Ix w' B (addTo es after bs) X ∧ But B.has w w' := by
  by_cases hz : addErr es after bs = 0
  · refine (iAddOk h hE hg (by rw [List.length_append]; omega) hz).mono fun r w' hr => ?_
    obtain ⟨A', c', K, h1, h2, h3, h4, h5⟩ := hr
    have e1 : addRs es after bs = recsFrom es bs := if_pos hz
    have e2 : addTo es after bs = es ++ bs := if_pos hz
    rw [e1, e2, hz, recsFrom_len]
    exact ⟨A', c', h1, h2.mono (fun k hk => by omega), h4.less (fun k hk => .inl hk), h5⟩
  · refine (iAddNo h hE.any hg hz).mono fun r w' hr => ?_
    obtain ⟨h1, h2⟩ := hr
    have e1 : addRs es after bs = [] := if_neg hz
    have e2 : addTo es after bs = es := if_neg hz
    rw [e1, e2]
    exact ⟨none, 0, h1, Sl.nil_, h.below h2, But.of_below h2⟩
end
/-- An index of the law's own, made behind the world w; what lay there it hangs on nowhere. -/
structure Li (w wr : World) (B : Six) (es : List Event) : Prop where
  ix : Ix wr B es (fun k => k < w.heap.size)
  lo : ∀ k, B.has k → w.heap.size ≤ k
  size : w.heap.size ≤ wr.heap.size
section
variable {w wr w' : World} {B : Six} {es : List Event}
theorem Li.below (h : Li w wr B es) (hb : Below wr.heap.size wr w') : Li w w' B es := ⟨h.ix.below hb, h.lo, Nat.le_trans h.size hb.size⟩
/-- A block that lay there is written. -/
theorem Li.set (h : Li w wr B es) {p : Addr} (hp : p.block < w.heap.size) (u : Value) : Li w (wr.setCell p u) B es := ⟨h.ix.far (But.setCell (S := fun k => k < w.heap.size) wr hp u), h.lo, by simpa [World.setCell] using h.size⟩
/-- What lay there, and what the index has not, stays. -/
theorem Li.off (h : Li w wr B es) {k : Nat} (hk : k < w.heap.size ∨ wr.heap.size ≤ k) : ¬ B.has k := fun hB => by
  have h1 := h.lo k hB
  have h2 := h.ix.lt k hB
  omega
theorem lNew (w : World) {wr : World} (hs : w.heap.size ≤ wr.heap.size) : Calls Try.prog 15 #[] wr fun r w' => ∃ B : Six, r = .returned (.pointer (some ⟨B.b, 0, none⟩)) ∧ Li w w' B [] ∧ Below wr.heap.size wr w' :=
  (iNew wr (fun k => k < w.heap.size) (fun k hk => by omega)).mono fun r w' ⟨B, e, h1, h2, h3⟩ => ⟨B, e, ⟨h1, fun k hk => Nat.le_trans hs (h3 k hk), Nat.le_trans hs h2.size⟩, h2⟩
theorem lAdd (h : Li w wr B es) {E : Option Addr} {ce : Nat} {bs : List Event} {after : Int} (hE : Sl kEvent (fun k => ¬ B.has k) wr E ce bs) (hg : ∀ e ∈ bs, EvIn e) (hl : es.length + bs.length ≤ 880) :
    Calls Try.prog 18 #[.pointer (some ⟨B.b, 0, none⟩), .agg #[.int .i64 after, .slice E bs.length ce]] wr fun r w' => ∃ (A' : Option Addr) (c' : Nat), r = .returned (.tuple #[.slice A' (addRs es after bs).length c', .int .i64 (addErr es after bs)]) ∧ Sl kRec (fun k => wr.heap.size ≤ k) w' A' c' (addRs es after bs) ∧
      Li w w' B (addTo es after bs) ∧ But B.has wr w' :=
  (iAdd_any h.ix hE hg hl).mono fun r w' ⟨A', c', e, h1, h2, h3⟩ => ⟨A', c', e, h1, ⟨h2, h.lo, Nat.le_trans h.size h3.size⟩, h3⟩
end
theorem But.box {w wr w' : World} {B : Six} {es : List Event} (h : Li w wr B es) (hb : But B.has wr w') {g : Nat} {t : TypeId} {cs : List Value} (hx : Bx wr g t cs) (hg : g < w.heap.size) : Bx w' g t cs := hx.stay (fun hk => hb.block g hk (h.off (.inl hg)))
theorem But.rows {α : Type} {d : Kn α} {A : Option Addr} {c : Nat} {xs : List α} {w0 w wr w' : World} {B : Six} {es : List Event} (h : Li w wr B es) (hb : But B.has wr w') (hw : w0.heap.size ≤ w.heap.size) (hs : Sl d (fun k => k < w0.heap.size) wr A c xs) : Sl d (fun k => k < w0.heap.size) w' A c xs := hs.stay hb.size (fun k hk hl => hb.block k hl (h.off (.inl (by omega))))
theorem But.bel {w0 w wr w' : World} {B : Six} {es : List Event} (h : Li w wr B es) (hb : But B.has wr w') (hw : w0.heap.size ≤ w.heap.size) (hb0 : Below w0.heap.size w0 wr) : Below w0.heap.size w0 w' := hb.below hb0 hb0.size (fun k hk => Nat.le_trans hw (h.lo k hk))
/-- An index filled by batches, each behind the last record. -/
def growB (es : List Event) (bs : List Bt) : List Event := bs.foldl (fun es b => addTo es es.length (few8 b.2)) es
theorem growB_snoc (es : List Event) (bs : List Bt) (b : Bt) : growB es (bs ++ [b]) = addTo (growB es bs) (growB es bs).length (few8 b.2) := by unfold growB; rw [List.foldl_append]; rfl
theorem growB_len (es : List Event) (bs : List Bt) : (growB es bs).length ≤ es.length + 8 * bs.length := by
  induction bs generalizing es with
  | nil => exact Nat.le_refl _
  | cons b bs ih =>
    have h1 := ih (addTo es es.length (few8 b.2))
    have h2 := addTo_len es es.length (few8 b.2)
    have h3 := few8_len b.2
    show (growB (addTo es es.length (few8 b.2)) bs).length ≤ _
    simp only [List.length_cons]
    omega
end Go.Proofs.Ytfoghahidofegaa
