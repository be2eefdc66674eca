/- (*posting.Lists).Add. -/
import Derived.Test.YtfoghahidofegaaBundP
import Derived.Test.YtfoghahidofegaaBundA
import Derived.Deep.DeepFit
set_option linter.unusedVariables false
set_option linter.unusedSimpArgs false
namespace Go.Proofs.Ytfoghahidofegaa
open Go.RowKit Go.Maps

/-- A position put behind the rows of some tags. -/
def addT (pos : Int) (ts : List ByteArray) (f : ByteArray → List Int) : ByteArray → List Int := ts.foldl (fun f s => upd f s (addP (f s) pos)) f
theorem addT_snoc (pos : Int) (ts : List ByteArray) (f : ByteArray → List Int) (s : ByteArray) : addT pos (ts ++ [s]) f = upd (addT pos ts f) s (addP (addT pos ts f s) pos) := by simp [addT, List.foldl_append]
theorem addT_len (pos : Int) (s : ByteArray) : ∀ (ts : List ByteArray) (f : ByteArray → List Int), (addT pos ts f s).length ≤ (f s).length + ts.length
  | [], f => by simp [addT]
  | t :: ts, f => by
    have ih := addT_len pos s ts (upd f t (addP (f t) pos))
    have h1 : (upd f t (addP (f t) pos) s).length ≤ (f s).length + 1 := by
      by_cases e : s = t
      · subst e
        rw [upd_same]
        unfold addP
        split <;> simp
      · rw [upd_other _ _ e]; omega
    have e : addT pos (t :: ts) f = addT pos ts (upd f t (addP (f t) pos)) := rfl
    rw [e, List.length_cons]
    omega

set_option maxHeartbeats 4000000 in
set_option maxRecDepth 8000 in
theorem PAdd_any {w : World} {p mt my M : Nat} {Dt Dy : DataW Value} {A : Option Addr} {c : Nat} {all : List Int} {ft fy : ByteArray → List Int} {X : Nat → Prop} (h : Ps w p mt my M Dt Dy A c all ft fy X) (hM : M ≤ 100000) (hl : all.length ≤ 100000) (hlt : ∀ s, (ft s).length ≤ 100000) (hly : ∀ s, (fy s).length ≤ 100000)
    {e : Event} {T F : Option Addr} {ct cf fl : Nat} (hT : Sl Kn.str (fun k => k ≠ p ∧ k ≠ mt ∧ k ≠ my) w T ct e.tags) (hts : e.tags.length ≤ 1000) (hgt : ∀ x ∈ e.tags, x.size ≤ maxLen) (hgy : e.type.size ≤ maxLen) {pos : Int} (h1 : 1 ≤ pos) (h2 : ∀ q ∈ all, q < pos) :
    Calls Try.prog 47 #[.pointer (some ⟨p, 0, none⟩), .agg #[.string e.stream, .string e.type, .slice T e.tags.length ct, .slice F fl cf], .int .i64 pos] w fun r w' =>
      r = .returned (.int .i64 0) ∧ ∃ Dt' Dy' A' c', Ps w' p mt my (M + 1 + e.tags.length) Dt' Dy' A' c' (all ++ [pos]) (addT pos e.tags ft) (upd fy e.type (addP (fy e.type) pos)) X ∧ But (fun k => k = p ∨ k = mt ∨ k = my) w w' := by
  have HP := Lib.hid h
  have HT := Lib.hid hT
  have hp0 := h.bx.cell 0
  have hpl := h.bx.lt
  simp only [List.getElem?_cons_zero] at hp0
  have hc1 := h.sl.1
  have hc2 := h.sl.2.1
  unfold maxLen at hc2
  have HG := Lib.hid hgt
  have HLT := Lib.hid hlt
  have HLY := Lib.hid hly
  have H2 := Lib.hid h2
  clear h hT hgt h2 hlt hly
  obtain ⟨W0, hW0⟩ : ∃ W0, W0 = w.alloc (.cells #[.string e.stream, .string e.type, .slice T e.tags.length ct, .slice F fl cf] 25) := ⟨_, rfl⟩
  have HW0 := Lib.hid hW0
  have HB0 := Lib.hid (show Below w.heap.size w W0 by rw [hW0]; exact (Below.refl _ _).alloc (Nat.le_refl _) _)
  have HBX := Lib.hid (show Bx W0 w.heap.size 25 [.string e.stream, .string e.type, .slice T e.tags.length ct, .slice F fl cf] by rw [hW0]; exact Bx.new w _ _)
  go_enter Try.func47, Try.ntmps47
  go_upto_region 1 with fail
  rw [← HW0.out]
  clear hW0
  have hp0 : W0.cell? ⟨p, 0, none⟩ = some (.slice A all.length c) := (HP.out.bx.under HB0.out).c0
  go_upto_region 2 with fail
  go_cut [32] (fun v wx => v = .bool false ∧ Below W0.heap.size W0 wx)
  case first =>
    have d0 : decide (pos < 1) = false := decide_eq_false (by omega)
    by_cases hz : all.length = 0
    · have d1 : decide (0 < all.length) = false := decide_eq_false (by omega)
      have HZ := Lib.hid hz
      clear hz
      go_wp2_with fail
      go_meet
      case rel => exact ⟨rfl, Below.refl _ _⟩
    · obtain ⟨k, hk⟩ : ∃ k, all.length = k + 1 := ⟨all.length - 1, by omega⟩
      have hkl : k < all.length := by omega
      obtain ⟨ad, rfl, hx⟩ := row_int_at (HP.out.sl.below HB0.out).2.2 hkl
      have hy := H2.out _ (List.getElem_mem hkl)
      generalize all[k] = y at hx hy
      have ew : IntKind.i64.wrap ((all.length : Int) - 1) = (k : Int) := by rw [IntWalk.i64_in _ (by omega)]; omega
      have b1 : (0 : Int) ≤ (k : Int) := Int.natCast_nonneg _
      have b2 : (k : Int) < (all.length : Int) := by omega
      have d1 : decide (0 < all.length) = true := decide_eq_true (by omega)
      have d2 : decide (pos ≤ y) = false := decide_eq_false (by omega)
      have hz' : 0 < all.length := by omega
      have HK := Lib.hid hk
      clear hk hz
      go_wp2_with fail
      go_meet
      case rel => exact ⟨rfl, Below.refl _ _⟩
  case rest =>
    obtain ⟨rfl, hbx⟩ := hcut
    have HB1 := Lib.hid hbx
    have HB2 := Lib.hid (bthen HB0.out hbx)
    clear hbx hp0
    have HPC := Lib.hid (HP.out.below HB2.out)
    have hp0 : wc.cell? ⟨p, 0, none⟩ = some (.slice A all.length c) := HPC.out.bx.c0
    have hpl : p < wc.heap.size := HPC.out.bx.lt
    obtain ⟨X4, hX4⟩ : ∃ X4, X4 = wc := ⟨wc, rfl⟩
    subst hX4
    go_upto_region 4 with fail
    go_cut [51] (fun _ wx => (∃ A' c', Ps wx p mt my M Dt Dy A' c' (all ++ [pos]) ft fy X) ∧ But (fun k => k = p) X4 wx)
    case first =>
      have hf0 := HPC.out.bx.free 0
      have hW : Below X4.heap.size X4 (X4.alloc (.cells #[.int .i64 pos] 3)).drew := below_drawn ((Below.refl _ _).alloc (Nat.le_refl _) _)
      have HC := Lib.hid (show World.cell? (X4.alloc (.cells #[.int .i64 pos] 3)).drew ⟨X4.heap.size, 0, none⟩ = some (.int .i64 pos) from (Bx.new X4 3 [.int .i64 pos]).c0)
      have HSL := Lib.hid (HPC.out.sl.below hW)
      have HW := Lib.hid hW
      clear hW
      go_region_law (refine step_full (W := (X4.alloc (.cells #[.int .i64 pos] 3)).drew) rfl _ _ _ rfl 3 Try.underlying97 infoInt HSL.out HP.out.nil_ pos X4.heap.size 1 rfl rfl HC.out (by omega) ?_; intro A' c' w1 hs1 hb1; have HBB := Lib.hid (show Below X4.heap.size X4 w1 from bthen HW.out hb1); have HS := Lib.hid (hs1.mono (fun k hk => show X4.heap.size ≤ k by simp at hk; omega)); clear hs1 hb1; have hx0 := HPC.out.bx.under HBB.out; have hq0 := hx0.c0; have hq1 := hx0.free 0)
      all_goals
        go_wp2_with fail
        go_meet
        case rel =>
          obtain ⟨h3, h4⟩ := HPC.out.row (n := all.length + 1) (by simp) (by simp) HBB.out HS.out
          exact ⟨⟨A', c', h3⟩, h4⟩
    case rest =>
      obtain ⟨⟨A', c', hps⟩, hbut⟩ := hcut
      have HPD := Lib.hid hps
      have hgX : w.heap.size < X4.heap.size := Nat.lt_of_lt_of_le HBX.out.lt HB1.out.size
      have hpw : p < w.heap.size := HP.out.bx.lt
      have htw : mt < w.heap.size := HP.out.mpt.om.lt
      have hyw : my < w.heap.size := HP.out.mpy.om.lt
      have HE := Lib.hid (show Bx wc w.heap.size 25 [.string e.stream, .string e.type, .slice T e.tags.length ct, .slice F fl cf] from (HBX.out.below (g := w.heap.size) HB1.out HBX.out.lt).stay (fun hk => hbut.block _ hk (by omega)))
      have HBU := Lib.hid (show But (fun k => k = p ∨ k = mt ∨ k = my) w wc from (But.of_below HB2.out).trans ⟨hbut.os, hbut.tape, hbut.output, hbut.size, fun k hk hn => hbut.block k hk (fun e => hn (.inl e))⟩)
      clear hps hbut
      have hyc : my < wc.heap.size := HPD.out.mpy.om.lt
      have HK : Hid (∀ W, But (fun k => k = my) wc W → But (fun k => k = my) wc W ∧ W.cell? ⟨p, 2, none⟩ = some (.map (some my)) ∧ W.cell? ⟨w.heap.size, 1, none⟩ = some (.string e.type)) := Lib.hid (fun W hW =>
        ⟨hW, (show Bx W p _ _ from HPD.out.bx.stay (fun hk => hW.block _ hk HPD.out.d2)).cell 2, (show Bx W w.heap.size _ _ from HE.out.stay (fun hk => hW.block _ hk (by omega))).cell 1⟩)
      have HD0 := Lib.hid (show But (fun k => k = my) wc wc.drew from But.of_below (below_drawn (Below.refl _ _)))
      have C1 := Lib.hid (addL_any (HPD.out.below (below_drawn (Below.refl _ _))).mpy (fun k hk => ⟨by have := HPD.out.bx.lt; simp at hk; omega, by have := HPD.out.mpt.om.lt; simp at hk; omega, fun hx => by have := HPD.out.xs k hx; simp at hk; omega⟩) (by omega) hgy (by have := HLY.out e.type; omega) pos)
      go_wp2_with fail
      go_region_held3 (fun W => But (fun k => k = my) wc W ∧ W.cell? ⟨p, 2, none⟩ = some (.map (some my)) ∧ W.cell? ⟨w.heap.size, 1, none⟩ = some (.string e.type)) (first | (assumption) | exact HK.out _ HD0.out | exact HK.out _ (HD0.out.trans (And.right (Exists.choose_spec (by assumption))))) (first | (go_at_call 66; go_fit C1.out; rintro r w6 ⟨rfl, h6⟩))
      all_goals
        obtain ⟨Dy', h7, h8⟩ := h6
        have HP6 := Lib.hid ((HPD.out.below (below_drawn (Below.refl _ _))).typ (by omega) h7 h8)
        have HBU6 := Lib.hid (show But (fun k => k = p ∨ k = mt ∨ k = my) w w6 from HBU.out.trans (HD0.out.trans h8 |> fun h => ⟨h.os, h.tape, h.output, h.size, fun k hk hn => h.block k hk (fun e => hn (.inr (.inr e)))⟩))
        have HE6 := Lib.hid (show Bx w6 w.heap.size 25 [.string e.stream, .string e.type, .slice T e.tags.length ct, .slice F fl cf] from HE.out.stay (fun hk => (HD0.out.trans h8).block _ hk (by omega)))
        have hg2 := HE6.out.cell 2
        simp only [List.getElem?_cons_succ, List.getElem?_cons_zero] at hg2
        clear h7 h8
        go_wp2_with fail
        go_loopw [65] (fun i wr => ∃ (k : Nat) (Dt' : DataW Value), k ≤ e.tags.length ∧ i = .int .i64 k ∧ Ps wr p mt my (M + 1 + k) Dt' Dy' A' c' (all ++ [pos]) (addT pos (e.tags.take k) ft) (upd fy e.type (addP (fy e.type) pos)) X ∧ But (fun k => k = p ∨ k = mt ∨ k = my) w wr) (fun i _ => e.tags.length - (intOf i).toNat)
        case atStart => exact ⟨0, Dt, Nat.zero_le _, rfl, HP6.out, HBU6.out⟩
        case round =>
          obtain ⟨k, Dt', hk, rfl, hp7, hb7⟩ := hrel
          have HP7 := Lib.hid hp7
          have HB7 := Lib.hid hb7
          clear hp7 hb7
          by_cases hlt : k < e.tags.length
          · have htl := HT.out.1
            have htm := HT.out.2.1
            unfold maxLen at htm
            obtain ⟨ad, rfl, hx⟩ := row_str_at (HT.out.stay HB7.out.size (fun k hk hl => HB7.out.block k hl (fun h => h.elim hk.1 (fun h => h.elim hk.2.1 hk.2.2)))).2.2 hlt
            have hsz : e.tags[k].size ≤ maxLen := HG.out _ (List.getElem_mem hlt)
            have hsn := addT_snoc pos (e.tags.take k) ft e.tags[k]
            rw [← List.take_succ_eq_append_getElem hlt] at hsn
            generalize e.tags[k] = s at hx hsz hsn
            have HSN := Lib.hid hsn
            have hp1 : wr.cell? ⟨p, 1, none⟩ = some (.map (some mt)) := HP7.out.bx.cell 1
            have hal := addT_len pos s (e.tags.take k) ft
            rw [List.length_take] at hal
            have C2 := Lib.hid (addL_any HP7.out.mpt (fun k hk => ⟨by have := HP7.out.bx.lt; omega, by have := HP7.out.mpy.om.lt; omega, fun hx => by have := HP7.out.xs k hx; omega⟩) (by omega) hsz (by have := HLT.out s; omega) pos)
            clear hsn
            go_wp2_with (first | (go_at_call 66; go_fit C2.out; rintro r w8 ⟨rfl, Dt8, h8, h9⟩; have HP8 := Lib.hid (HP7.out.tag (by omega) h8 h9); have HB8 := Lib.hid (show But (fun k => k = p ∨ k = mt ∨ k = my) w w8 from HB7.out.trans ⟨h9.os, h9.tape, h9.output, h9.size, fun k hk hn => h9.block k hk (fun e => hn (.inr (.inl e)))⟩); clear h8 h9))
            go_roundw
            case rel => exact ⟨k + 1, Dt8, by omega, by go_num, by rw [HSN.out]; exact HP8.out, HB8.out⟩
            case measure => simp [intOf]; omega
          · obtain rfl : k = e.tags.length := by omega
            rw [List.take_length] at HP7
            go_wp2_with fail
            go_ret
            exact ⟨rfl, Dt', Dy', A', c', HP7.out, HB7.out⟩
end Go.Proofs.Ytfoghahidofegaa
