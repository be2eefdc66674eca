/- EventSame: the law's walk. -/
import Derived.Test.YthinieokpgmfoaaHead04
import Derived.Test.YthinieokpgmfoaaSpread
import Derived.Deep.RegionHeld3
set_option linter.unusedVariables false
set_option linter.unusedSimpArgs false
namespace Go.Proofs.Ythinieokpgmfoaa
open Go.RowKit

/-- An event in a box. -/
structure B04 (b : Nat) (e : Event) (T F : Option Addr) (ct cf : Nat) (X : World) : Prop where
  bx : Bx X b 28 [.string e.stream, .string e.type, .slice T e.tags.length ct, .slice F e.fields.length cf]
  ts : SlS X T ct e.tags
  fs : SlF X F cf e.fields
section
variable {w : World} {b : Nat} {e : Event} {T F : Option Addr} {ct cf : Nat} {X X' : World}
theorem A04.box (h : A04 w b e T F ct cf X) : B04 b e T F ct cf X := ⟨h.bx, h.ts.any, h.fs.any⟩
theorem B04.below (h : B04 b e T F ct cf X) (hb : Below X.heap.size X X') : B04 b e T F ct cf X' := ⟨h.bx.under hb, h.ts.below hb, h.fs.below hb⟩
theorem B04.c0 (h : B04 b e T F ct cf X) : X.cell? ⟨b, 0, none⟩ = some (.string e.stream) := h.bx.cell 0
theorem B04.c1 (h : B04 b e T F ct cf X) : X.cell? ⟨b, 1, none⟩ = some (.string e.type) := h.bx.cell 1
theorem B04.c2 (h : B04 b e T F ct cf X) : X.cell? ⟨b, 2, none⟩ = some (.slice T e.tags.length ct) := h.bx.cell 2
theorem B04.c3 (h : B04 b e T F ct cf X) : X.cell? ⟨b, 3, none⟩ = some (.slice F e.fields.length cf) := h.bx.cell 3
end
theorem sameE_stream (a : Event) (s : ByteArray) : sameE a { a with stream := s } = decide (a.stream = s) := by simp [sameE]
theorem sameE_type (a : Event) (s : ByteArray) : sameE a { a with type := s } = decide (a.type = s) := by simp [sameE]
theorem sameE_tag (a : Event) (s : ByteArray) : sameE a { a with tags := a.tags ++ [s] } = false := by simp [sameE]
theorem sameE_field (a : Event) (x : ByteArray × Int) : sameE a { a with fields := a.fields ++ [x] } = false := by simp [sameE]

set_option maxHeartbeats 4000000 in
set_option maxRecDepth 100000 in
theorem eventSame_walk (w : World) (c0 : Array Value) (a : Event) (ha : kEvent.K (fun _ => True) w a c0.toList) (ga : goodEvent a) (c1 : Array Value) (b : Event) (hb : kEvent.K (fun _ => True) w b c1.toList) (gb : goodEvent b)
    (s : ByteArray) (hs : s.size ≤ maxLen) :
    Calls Try.prog 5 #[.agg c0, .agg c1, .string s] w fun r w' => r = .returned (.bool true) ∧ Below w.heap.size w w' := by
  obtain ⟨T, ct, F, cf, rfl, hT, hF⟩ := event_in4 ha
  obtain ⟨T', ct', F', cf', rfl, hT', hF'⟩ := event_in4 hb
  have hta := few12_tags a
  have hfa := few12_fields a
  clear ha hb ga gb
  obtain ⟨W0, hW0⟩ : ∃ W0, W0 = ((w.alloc (.cells #[.string a.stream, .string a.type, .slice T a.tags.length ct, .slice F a.fields.length cf] 28)).alloc (.cells #[.string b.stream, .string b.type, .slice T' b.tags.length ct', .slice F' b.fields.length cf'] 28)) := ⟨_, rfl⟩
  have HW0 := Lib.hid hW0
  have HB0 := Lib.hid (show Below w.heap.size w W0 by rw [hW0]; exact ((Below.refl _ _).alloc (Nat.le_refl _) _).alloc (by simp) _)
  have HA := Lib.hid (show A04 w w.heap.size a T F ct cf W0 from ⟨by rw [hW0]; exact (Bx.new w _ _).alloc _, hT.below HB0.out, hF.below HB0.out, Nat.le_refl _⟩)
  have HB := Lib.hid (show A04 w (w.heap.size + 1) b T' F' ct' cf' W0 from ⟨by
    rw [hW0]
    have := Bx.new (w.alloc (.cells #[.string a.stream, .string a.type, .slice T a.tags.length ct, .slice F a.fields.length cf] 28)) 28 [.string b.stream, .string b.type, .slice T' b.tags.length ct', .slice F' b.fields.length cf']
    simpa using this, hT'.below HB0.out, hF'.below HB0.out, by omega⟩)
  have HS := Lib.hid (shown04 W0)
  clear hT hF hT' hF'
  go_enter Try.func5, Try.ntmps5
  go_upto_region 1 with fail
  rw [← HW0.out]
  clear hW0
  go_upto_region 2 with (go_at_call 18; go_fit HS.out; rintro r w1 ⟨rfl, hb1⟩; have HA1 := Lib.hid (HA.out.below hb1); have HB1 := Lib.hid (HB.out.below hb1); have HBW := Lib.hid (bthen HB0.out hb1); clear hb1)
  clear HA HB HB0 HS HW0
  have k0 := HA1.out.c0
  have k1 := HA1.out.c1
  have k2 := HA1.out.c2
  have k3 := HA1.out.c3
  have CF := Lib.hid (few04_any (w := w1) (e := a) (T := T) (F := F) (ct := ct) (cf := cf) HA1.out.ts.1 HA1.out.fs.1)
  go_upto_region 3 with (go_at_call 19; go_fit CF.out; rintro r w2 ⟨rfl, hb2⟩; have HA2 := Lib.hid (HA1.out.below hb2); have HB2 := Lib.hid (HB1.out.below hb2); have HBV := Lib.hid (bthen HBW.out hb2); have j0 := HA2.out.c0; have j1 := HA2.out.c1; have j2 := HA2.out.c2; have j3 := HA2.out.c3; have f0 := HA2.out.bx.free 0; have f1 := HA2.out.bx.free 1; have f2 := HA2.out.bx.free 2; have f3 := HA2.out.bx.free 3; clear hb2)
  have HA3 := Lib.hid HA2.out.few
  have HB3 := Lib.hid (HB2.out.far4 (g := w.heap.size) (by omega) (Nat.le_refl _) (.string (few12 a).stream) (.string (few12 a).type) (.slice T (few12 a).tags.length ct) (.slice F (few12 a).fields.length cf))
  have HBW3 := Lib.hid (below4 HBV.out (Nat.le_refl _) (.string (few12 a).stream) (.string (few12 a).type) (.slice T (few12 a).tags.length ct) (.slice F (few12 a).fields.length cf))
  clear HA2 HB2 HBV j0 j1 j2 j3 f0 f1 f2 f3 k0 k1 k2 k3 CF HA1 HB1 HBW
  generalize ((((w2.setCell ⟨w.heap.size, 0, none⟩ (.string (few12 a).stream)).setCell ⟨w.heap.size, 1, none⟩ (.string (few12 a).type)).setCell ⟨w.heap.size, 2, none⟩ (.slice T (few12 a).tags.length ct)).setCell ⟨w.heap.size, 3, none⟩ (.slice F (few12 a).fields.length cf)) = w3 at HA3 HB3 HBW3 ⊢
  generalize few12 a = a at HA3 HB3 HBW3 hta hfa ⊢
  have k0 := HB3.out.c0
  have k1 := HB3.out.c1
  have k2 := HB3.out.c2
  have k3 := HB3.out.c3
  have CF := Lib.hid (few04_any (w := w3) (e := b) (T := T') (F := F') (ct := ct') (cf := cf') HB3.out.ts.1 HB3.out.fs.1)
  go_upto_region 4 with (go_at_call 19; go_fit CF.out; rintro r w4 ⟨rfl, hb2⟩; have HA2 := Lib.hid (HA3.out.below hb2); have HB2 := Lib.hid (HB3.out.below hb2); have HBV := Lib.hid (bthen HBW3.out hb2); have j0 := HB2.out.c0; have j1 := HB2.out.c1; have j2 := HB2.out.c2; have j3 := HB2.out.c3; have f0 := HB2.out.bx.free 0; have f1 := HB2.out.bx.free 1; have f2 := HB2.out.bx.free 2; have f3 := HB2.out.bx.free 3; clear hb2)
  have HB5 := Lib.hid HB2.out.few
  have HA5 := Lib.hid (HA2.out.far4 (g := w.heap.size + 1) (by omega) (by omega) (.string (few12 b).stream) (.string (few12 b).type) (.slice T' (few12 b).tags.length ct') (.slice F' (few12 b).fields.length cf'))
  have HBW5 := Lib.hid (below4 HBV.out (g := w.heap.size + 1) (by omega) (.string (few12 b).stream) (.string (few12 b).type) (.slice T' (few12 b).tags.length ct') (.slice F' (few12 b).fields.length cf'))
  clear HA2 HB2 HBV j0 j1 j2 j3 f0 f1 f2 f3 k0 k1 k2 k3 CF HA3 HB3 HBW3
  generalize ((((w4.setCell ⟨w.heap.size + 1, 0, none⟩ (.string (few12 b).stream)).setCell ⟨w.heap.size + 1, 1, none⟩ (.string (few12 b).type)).setCell ⟨w.heap.size + 1, 2, none⟩ (.slice T' (few12 b).tags.length ct')).setCell ⟨w.heap.size + 1, 3, none⟩ (.slice F' (few12 b).fields.length cf')) = w5 at HA5 HB5 HBW5 ⊢
  generalize few12 b = b at HA5 HB5 HBW5 ⊢
  have PA := HA5
  have PB := HB5
  clear HA5 HB5
  have k0 := PA.out.c0
  have k1 := PA.out.c1
  have k2 := PA.out.c2
  have k3 := PA.out.c3
  go_upto_region 6 with fail
  clear k0 k1 k2 k3
  have hbY := (show Below w5.heap.size w5 (w5.alloc (.cells #[.string s, .string a.type, .slice T a.tags.length ct, .slice F a.fields.length cf] 28)) from (Below.refl _ _).alloc (Nat.le_refl _) _)
  have PC := Lib.hid (show A04 w w5.heap.size { a with stream := s } T F ct cf (w5.alloc (.cells #[.string s, .string a.type, .slice T a.tags.length ct, .slice F a.fields.length cf] 28)) from ⟨Bx.new _ _ _, PA.out.ts.below hbY, PA.out.fs.below hbY, HBW5.out.size⟩)
  have PA1 := Lib.hid (PA.out.below hbY)
  have PB1 := Lib.hid (PB.out.below hbY)
  have HBY := Lib.hid (bthen HBW5.out hbY)
  clear PA PB HBW5 hbY
  obtain ⟨gc, hgc⟩ : ∃ gc, gc = w5.heap.size := ⟨_, rfl⟩
  generalize w5.alloc (.cells #[.string s, .string a.type, .slice T a.tags.length ct, .slice F a.fields.length cf] 28) = Y at PC PA1 PB1 HBY ⊢
  rw [← hgc] at PC ⊢
  clear hgc
  have k0 := PA1.out.c0
  have k1 := PA1.out.c1
  have k2 := PA1.out.c2
  have k3 := PA1.out.c3
  go_upto_region 8 with fail
  clear k0 k1 k2 k3
  have hbZ := (show Below Y.heap.size Y (Y.alloc (.cells #[.string a.stream, .string s, .slice T a.tags.length ct, .slice F a.fields.length cf] 28)) from (Below.refl _ _).alloc (Nat.le_refl _) _)
  have PD := Lib.hid (show A04 w Y.heap.size { a with type := s } T F ct cf (Y.alloc (.cells #[.string a.stream, .string s, .slice T a.tags.length ct, .slice F a.fields.length cf] 28)) from ⟨Bx.new _ _ _, PA1.out.ts.below hbZ, PA1.out.fs.below hbZ, HBY.out.size⟩)
  have PA2 := Lib.hid (PA1.out.below hbZ)
  have PB2 := Lib.hid (PB1.out.below hbZ)
  have PC2 := Lib.hid (PC.out.below hbZ)
  have HBZ := Lib.hid (bthen HBY.out hbZ)
  clear PA1 PB1 PC HBY hbZ
  obtain ⟨gd, hgd⟩ : ∃ gd, gd = Y.heap.size := ⟨_, rfl⟩
  generalize Y.alloc (.cells #[.string a.stream, .string s, .slice T a.tags.length ct, .slice F a.fields.length cf] 28) = Z at PD PA2 PB2 PC2 HBZ ⊢
  rw [← hgd] at PD ⊢
  clear hgd
  have k0 := PA2.out.c0
  have k1 := PA2.out.c1
  have k2 := PA2.out.c2
  have k3 := PA2.out.c3
  go_upto_region 9 with fail
  clear k0 k1 k2 k3
  have hbU := (show Below Z.heap.size Z (Z.alloc (.cells #[.string a.stream, .string a.type, .slice T a.tags.length ct, .slice F a.fields.length cf] 28)) from (Below.refl _ _).alloc (Nat.le_refl _) _)
  have XF := Lib.hid (show Bx (Z.alloc (.cells #[.string a.stream, .string a.type, .slice T a.tags.length ct, .slice F a.fields.length cf] 28)) Z.heap.size 28 [.string a.stream, .string a.type, .slice T a.tags.length ct, .slice F a.fields.length cf] from Bx.new _ _ _)
  have PA3 := Lib.hid (PA2.out.below hbU)
  have HBU := Lib.hid (bthen HBZ.out hbU)
  have HZU := Lib.hid hbU
  clear hbU
  obtain ⟨gf, hgf⟩ : ∃ gf, gf = Z.heap.size := ⟨_, rfl⟩
  generalize Z.alloc (.cells #[.string a.stream, .string a.type, .slice T a.tags.length ct, .slice F a.fields.length cf] 28) = U at XF PA3 HBU HZU ⊢
  rw [← hgf] at XF ⊢
  have HGF := Lib.hid hgf
  clear hgf
  have hgu := XF.out.lt
  have hwu := HBU.out.size
  have hau := PA3.out.bx.lt
  have k2 := (PA3.out.below ((Below.refl _ _).alloc (Nat.le_refl _) (.cells #[] 9))).c2
  have HOs := Lib.hid (Own.lit0 Kn.str 9 U.heap.size (fun k => k < U.heap.size) U (Nat.le_refl _))
  have HRs := Lib.hid (show Row Kn.str (fun k => k < U.heap.size ∧ some k ≠ (Value.slice (some ⟨U.heap.size, 0, none⟩) 0 0).ownBlock) (U.alloc (.cells #[] 9)) T a.tags from
    (PA3.out.ts.2.2.bound.below ((Below.refl _ _).alloc (Nat.le_refl _) _)).mono (fun k hk => ⟨hk.2, fun e1 => by have h2 := hk.2; simp [Value.ownBlock] at e1; omega⟩))
  have HLT := Lib.hid (show (a.tags ++ [s]).length = a.tags.length + 1 by simp)
  have HLF := Lib.hid (show (a.fields ++ [(s, (0 : Int))]).length = a.fields.length + 1 by simp)
  go_upto_region 10 with (at_builtin; first
    | (refine wpList_spread rfl _ _ _ rfl 9 _ 1 16 Try.underlying25 infoS2 rfl (by decide) (by decide) rfl U.heap.size (fun k => k < U.heap.size) _ [] rfl HOs.out a.tags T ct HRs.out rfl (by simp) (by simp; omega) ?_; intro v6 w6 hown6 hg6 hat6 hbel6; have HO6 := Lib.hid hown6; have HB6 := Lib.hid (hbel6 U ((Below.refl _ _).alloc (Nat.le_refl _) _)); clear hown6 hg6 hat6 hbel6)
    | (refine wpList_pushH rfl _ _ _ rfl 9 _ 1 16 Try.underlying25 infoS2 rfl (by decide) (by decide) rfl U.heap.size (fun k => k < U.heap.size) _ a.tags rfl HO6.out s [.string s] rfl w6.heap.size rfl rfl (by have := HB6.out.size; omega) (by omega) ?_; intro v7 w7 hown7 hg7 hat7 hbel7; obtain ⟨A7, c7, hv7, hsl7⟩ := (show Own Kn.str 9 U.heap.size (fun _ => False) w7 v7 (a.tags ++ [s]) from hown7).sl; rw [HLT.out] at hv7; subst hv7; have HO7 := Lib.hid hsl7; have HO7' := Lib.hid hown7; have HB7 := Lib.hid (hbel7 U HB6.out); have kf := (XF.out.under HB7.out).cell 2; have ff := (XF.out.under HB7.out).free 2; simp only [List.getElem?_cons_succ, List.getElem?_cons_zero] at kf; clear hown7 hg7 hat7 hbel7 hsl7))
  clear kf ff HO7' HB6 HO6 HRs HOs k2
  have HV := Lib.hid (show Below Z.heap.size Z (w7.setCell ⟨gf, 2, none⟩ (.slice A7 (a.tags.length + 1) c7)) from (bthen HZU.out HB7.out).setCell (by rw [HGF.out]; exact Nat.le_refl _) _)
  have PF := Lib.hid (show B04 gf { a with tags := a.tags ++ [s] } A7 F c7 cf (w7.setCell ⟨gf, 2, none⟩ (.slice A7 (a.tags.length + 1) c7)) from ⟨by
    show Bx _ _ _ [.string a.stream, .string a.type, .slice A7 (a.tags ++ [s]).length c7, .slice F a.fields.length cf]
    rw [HLT.out]
    exact (XF.out.under HB7.out).set 2 _, (HO7.out.setCell (fun k hk => by have := hk.elim False.elim id; simp; omega) _).any, PA2.out.fs.any.below HV.out⟩)
  have PA4 := Lib.hid (PA2.out.below HV.out)
  have PB4 := Lib.hid (PB2.out.below HV.out)
  have PC4 := Lib.hid (PC2.out.below HV.out)
  have PD4 := Lib.hid (PD.out.below HV.out)
  have HBV := Lib.hid (bthen HBZ.out HV.out)
  clear PA2 PB2 PC2 PD HV PA3 HBU HZU XF HGF HB7 HO7 hgu hwu hau HBZ
  generalize w7.setCell ⟨gf, 2, none⟩ (.slice A7 (a.tags.length + 1) c7) = Z2 at PF PA4 PB4 PC4 PD4 HBV ⊢
  have k0 := PA4.out.c0
  have k1 := PA4.out.c1
  have k2 := PA4.out.c2
  have k3 := PA4.out.c3
  go_upto_region 11 with fail
  clear k0 k1 k2 k3
  have hbU := (show Below Z2.heap.size Z2 (Z2.alloc (.cells #[.string a.stream, .string a.type, .slice T a.tags.length ct, .slice F a.fields.length cf] 28)) from (Below.refl _ _).alloc (Nat.le_refl _) _)
  have XG := Lib.hid (show Bx (Z2.alloc (.cells #[.string a.stream, .string a.type, .slice T a.tags.length ct, .slice F a.fields.length cf] 28)) Z2.heap.size 28 [.string a.stream, .string a.type, .slice T a.tags.length ct, .slice F a.fields.length cf] from Bx.new _ _ _)
  have PA5 := Lib.hid (PA4.out.below hbU)
  have HZU := Lib.hid hbU
  clear hbU
  obtain ⟨gg, hgg⟩ : ∃ gg, gg = Z2.heap.size := ⟨_, rfl⟩
  generalize Z2.alloc (.cells #[.string a.stream, .string a.type, .slice T a.tags.length ct, .slice F a.fields.length cf] 28) = U at XG PA5 HZU ⊢
  rw [← hgg] at XG ⊢
  have HGG := Lib.hid hgg
  clear hgg
  have hgu := XG.out.lt
  have hau := PA5.out.bx.lt
  have k3 := (PA5.out.below ((Below.refl _ _).alloc (Nat.le_refl _) (.cells #[] 41))).c3
  have HOs := Lib.hid (Own.lit0 kField 41 U.heap.size (fun k => k < U.heap.size) U (Nat.le_refl _))
  have HRs := Lib.hid (show Row kField (fun k => k < U.heap.size ∧ some k ≠ (Value.slice (some ⟨U.heap.size, 0, none⟩) 0 0).ownBlock) (U.alloc (.cells #[] 41)) F a.fields from
    (PA5.out.fs.2.2.bound.below ((Below.refl _ _).alloc (Nat.le_refl _) _)).mono (fun k hk => ⟨hk.2, fun e1 => by have h2 := hk.2; simp [Value.ownBlock] at e1; omega⟩))
  go_upto_region 12 with (at_builtin; go_loud (first
    | (refine wpList_spread rfl _ _ _ rfl 41 _ 2 24 Try.underlying26 infoField rfl (by decide) (by decide) rfl U.heap.size (fun k => k < U.heap.size) _ [] rfl HOs.out a.fields F cf HRs.out rfl (by simp) (by simp; omega) ?_; intro v6 w6 hown6 hg6 hat6 hbel6; have HO6 := Lib.hid hown6; have HB6 := Lib.hid (hbel6 U ((Below.refl _ _).alloc (Nat.le_refl _) _)); clear hown6 hg6 hat6 hbel6)
    | (refine wpList_pushH (d := kField) rfl _ _ _ rfl 41 _ 2 24 Try.underlying26 infoField rfl (by decide) (by decide) rfl U.heap.size (fun k => k < U.heap.size) _ a.fields rfl HO6.out (s, (0 : Int)) [.string s, .int .i64 0] ⟨[.string s], [.int .i64 0], rfl, rfl, rfl⟩ w6.heap.size rfl rfl (by have := HB6.out.size; omega) (by omega) ?_; intro v7 w7 hown7 hg7 hat7 hbel7; obtain ⟨A9, c9, hv7, hsl7⟩ := (show Own kField 41 U.heap.size (fun _ => False) w7 v7 (a.fields ++ [(s, (0 : Int))]) from hown7).sl; rw [HLF.out] at hv7; subst hv7; have HO7 := Lib.hid hsl7; have HB7 := Lib.hid (hbel7 U HB6.out); have kf := (XG.out.under HB7.out).cell 3; have ff := (XG.out.under HB7.out).free 3; simp only [List.getElem?_cons_succ, List.getElem?_cons_zero] at kf; clear hown7 hg7 hat7 hbel7 hsl7)))
  clear kf ff HB6 HO6 HRs HOs k3
  have HV := Lib.hid (show Below Z2.heap.size Z2 (w7.setCell ⟨gg, 3, none⟩ (.slice A9 (a.fields.length + 1) c9)) from (bthen HZU.out HB7.out).setCell (by rw [HGG.out]; exact Nat.le_refl _) _)
  have PG := Lib.hid (show B04 gg { a with fields := a.fields ++ [(s, 0)] } T A9 ct c9 (w7.setCell ⟨gg, 3, none⟩ (.slice A9 (a.fields.length + 1) c9)) from ⟨by
    show Bx _ _ _ [.string a.stream, .string a.type, .slice T a.tags.length ct, .slice A9 (a.fields ++ [(s, (0 : Int))]).length c9]
    rw [HLF.out]
    exact (XG.out.under HB7.out).set 3 _, PA4.out.ts.any.below HV.out, (HO7.out.setCell (fun k hk => by have := hk.elim False.elim id; simp; omega) _).any⟩)
  have PA := Lib.hid (PA4.out.below HV.out).box
  have PB := Lib.hid (PB4.out.below HV.out).box
  have PC := Lib.hid (PC4.out.below HV.out).box
  have PD := Lib.hid (PD4.out.below HV.out).box
  have PF := Lib.hid (PF.out.below HV.out)
  have HBW := Lib.hid (bthen HBV.out HV.out)
  clear PA4 PB4 PC4 PD4 HV PA5 HZU XG HGG HB7 HO7 hgu hau HBV
  generalize w7.setCell ⟨gg, 3, none⟩ (.slice A9 (a.fields.length + 1) c9) = X at PG PF PA PB PC PD HBW ⊢
  have pf2 : ∀ W, Below X.heap.size X W → W.cell? ⟨gf, 2, none⟩ = some (.slice A7 (a.tags.length + 1) c7) := fun W hb => by
    have : W.cell? ⟨gf, 2, none⟩ = some (.slice A7 (a.tags ++ [s]).length c7) := (PF.out.below hb).c2
    rwa [HLT.out] at this
  have pg3 : ∀ W, Below X.heap.size X W → W.cell? ⟨gg, 3, none⟩ = some (.slice A9 (a.fields.length + 1) c9) := fun W hb => by
    have : W.cell? ⟨gg, 3, none⟩ = some (.slice A9 (a.fields ++ [(s, (0 : Int))]).length c9) := (PG.out.below hb).c3
    rwa [HLF.out] at this
  have HK := Lib.hid (fun W (hb : Below X.heap.size X W) => show Below X.heap.size X W ∧ W.cell? ⟨w.heap.size, 0, none⟩ = some (.string a.stream) ∧ W.cell? ⟨w.heap.size, 1, none⟩ = some (.string a.type) ∧ W.cell? ⟨w.heap.size, 2, none⟩ = some (.slice T a.tags.length ct) ∧ W.cell? ⟨w.heap.size, 3, none⟩ = some (.slice F a.fields.length cf) ∧ W.cell? ⟨w.heap.size + 1, 0, none⟩ = some (.string b.stream) ∧ W.cell? ⟨w.heap.size + 1, 1, none⟩ = some (.string b.type) ∧ W.cell? ⟨w.heap.size + 1, 2, none⟩ = some (.slice T' b.tags.length ct') ∧ W.cell? ⟨w.heap.size + 1, 3, none⟩ = some (.slice F' b.fields.length cf') ∧ W.cell? ⟨gc, 0, none⟩ = some (.string s) ∧ W.cell? ⟨gc, 1, none⟩ = some (.string a.type) ∧ W.cell? ⟨gc, 2, none⟩ = some (.slice T a.tags.length ct) ∧ W.cell? ⟨gc, 3, none⟩ = some (.slice F a.fields.length cf) ∧ W.cell? ⟨gd, 0, none⟩ = some (.string a.stream) ∧ W.cell? ⟨gd, 1, none⟩ = some (.string s) ∧ W.cell? ⟨gd, 2, none⟩ = some (.slice T a.tags.length ct) ∧ W.cell? ⟨gd, 3, none⟩ = some (.slice F a.fields.length cf) ∧ W.cell? ⟨gf, 0, none⟩ = some (.string a.stream) ∧ W.cell? ⟨gf, 1, none⟩ = some (.string a.type) ∧ W.cell? ⟨gf, 2, none⟩ = some (.slice A7 (a.tags.length + 1) c7) ∧ W.cell? ⟨gf, 3, none⟩ = some (.slice F a.fields.length cf) ∧ W.cell? ⟨gg, 0, none⟩ = some (.string a.stream) ∧ W.cell? ⟨gg, 1, none⟩ = some (.string a.type) ∧ W.cell? ⟨gg, 2, none⟩ = some (.slice T a.tags.length ct) ∧ W.cell? ⟨gg, 3, none⟩ = some (.slice A9 (a.fields.length + 1) c9) from
    ⟨hb, (PA.out.below hb).c0, (PA.out.below hb).c1, (PA.out.below hb).c2, (PA.out.below hb).c3, (PB.out.below hb).c0, (PB.out.below hb).c1, (PB.out.below hb).c2, (PB.out.below hb).c3, (PC.out.below hb).c0, (PC.out.below hb).c1, (PC.out.below hb).c2, (PC.out.below hb).c3, (PD.out.below hb).c0, (PD.out.below hb).c1, (PD.out.below hb).c2, (PD.out.below hb).c3, (PF.out.below hb).c0, (PF.out.below hb).c1, pf2 W hb, (PF.out.below hb).c3, (PG.out.below hb).c0, (PG.out.below hb).c1, (PG.out.below hb).c2, pg3 W hb⟩)
  clear pf2 pg3
  have q1 := strEqL a.stream s
  have q2 := strEqL a.type s
  have D1 := Lib.hid (fun W (R : Prop) (hb : Below X.heap.size X W ∧ R) => show Calls Try.prog 25 #[vEvent a T ct F cf, vEvent a T ct F cf] W fun r w' => r = .returned (.bool true) ∧ Below W.heap.size W w' from by
    have := sameE_any (PA.out.below hb.1).ts (PA.out.below hb.1).fs (PA.out.below hb.1).ts (PA.out.below hb.1).fs
    rwa [sameE_refl] at this)
  obtain ⟨p, hp⟩ : ∃ p, sameE a b = p := ⟨_, rfl⟩
  have D2 := Lib.hid (fun W (R : Prop) (hb : Below X.heap.size X W ∧ R) => show Calls Try.prog 25 #[vEvent a T ct F cf, vEvent b T' ct' F' cf'] W fun r w' => r = .returned (.bool p) ∧ Below W.heap.size W w' from by
    have := sameE_any (PA.out.below hb.1).ts (PA.out.below hb.1).fs (PB.out.below hb.1).ts (PB.out.below hb.1).fs
    rwa [hp] at this)
  have D3 := Lib.hid (fun W (R : Prop) (hb : Below X.heap.size X W ∧ R) => show Calls Try.prog 25 #[vEvent b T' ct' F' cf', vEvent a T ct F cf] W fun r w' => r = .returned (.bool p) ∧ Below W.heap.size W w' from by
    have := sameE_any (PB.out.below hb.1).ts (PB.out.below hb.1).fs (PA.out.below hb.1).ts (PA.out.below hb.1).fs
    rwa [sameE_comm, hp] at this)
  have D4 := Lib.hid (fun W (R : Prop) (hb : Below X.heap.size X W ∧ R) => show Calls Try.prog 25 #[vEvent a T ct F cf, .agg #[.string s, .string a.type, .slice T a.tags.length ct, .slice F a.fields.length cf]] W fun r w' => r = .returned (.bool (decide (a.stream = s))) ∧ Below W.heap.size W w' from by
    have := sameE_any (PA.out.below hb.1).ts (PA.out.below hb.1).fs (PC.out.below hb.1).ts (PC.out.below hb.1).fs
    rwa [sameE_stream] at this)
  have D5 := Lib.hid (fun W (R : Prop) (hb : Below X.heap.size X W ∧ R) => show Calls Try.prog 25 #[vEvent a T ct F cf, .agg #[.string a.stream, .string s, .slice T a.tags.length ct, .slice F a.fields.length cf]] W fun r w' => r = .returned (.bool (decide (a.type = s))) ∧ Below W.heap.size W w' from by
    have := sameE_any (PA.out.below hb.1).ts (PA.out.below hb.1).fs (PD.out.below hb.1).ts (PD.out.below hb.1).fs
    rwa [sameE_type] at this)
  have D6 := Lib.hid (fun W (R : Prop) (hb : Below X.heap.size X W ∧ R) => show Calls Try.prog 25 #[vEvent a T ct F cf, .agg #[.string a.stream, .string a.type, .slice A7 (a.tags.length + 1) c7, .slice F a.fields.length cf]] W fun r w' => r = .returned (.bool false) ∧ Below W.heap.size W w' from by
    have := sameE_any (PA.out.below hb.1).ts (PA.out.below hb.1).fs (PF.out.below hb.1).ts (PF.out.below hb.1).fs
    rw [sameE_tag] at this
    rw [← HLT.out]
    exact this)
  have D7 := Lib.hid (fun W (R : Prop) (hb : Below X.heap.size X W ∧ R) => show Calls Try.prog 25 #[vEvent a T ct F cf, .agg #[.string a.stream, .string a.type, .slice T a.tags.length ct, .slice A9 (a.fields.length + 1) c9]] W fun r w' => r = .returned (.bool false) ∧ Below W.heap.size W w' from by
    have := sameE_any (PA.out.below hb.1).ts (PA.out.below hb.1).fs (PG.out.below hb.1).ts (PG.out.below hb.1).fs
    rw [sameE_field] at this
    rw [← HLF.out]
    exact this)
  clear hp PA PB PC PD PF PG HLT HLF hta hfa
  generalize decide (a.stream = s) = x1 at q1 D4
  generalize decide (a.type = s) = x2 at q2 D5
  go_region_held3 (fun W => Below X.heap.size X W ∧ W.cell? ⟨w.heap.size, 0, none⟩ = some (.string a.stream) ∧ W.cell? ⟨w.heap.size, 1, none⟩ = some (.string a.type) ∧ W.cell? ⟨w.heap.size, 2, none⟩ = some (.slice T a.tags.length ct) ∧ W.cell? ⟨w.heap.size, 3, none⟩ = some (.slice F a.fields.length cf) ∧ W.cell? ⟨w.heap.size + 1, 0, none⟩ = some (.string b.stream) ∧ W.cell? ⟨w.heap.size + 1, 1, none⟩ = some (.string b.type) ∧ W.cell? ⟨w.heap.size + 1, 2, none⟩ = some (.slice T' b.tags.length ct') ∧ W.cell? ⟨w.heap.size + 1, 3, none⟩ = some (.slice F' b.fields.length cf') ∧ W.cell? ⟨gc, 0, none⟩ = some (.string s) ∧ W.cell? ⟨gc, 1, none⟩ = some (.string a.type) ∧ W.cell? ⟨gc, 2, none⟩ = some (.slice T a.tags.length ct) ∧ W.cell? ⟨gc, 3, none⟩ = some (.slice F a.fields.length cf) ∧ W.cell? ⟨gd, 0, none⟩ = some (.string a.stream) ∧ W.cell? ⟨gd, 1, none⟩ = some (.string s) ∧ W.cell? ⟨gd, 2, none⟩ = some (.slice T a.tags.length ct) ∧ W.cell? ⟨gd, 3, none⟩ = some (.slice F a.fields.length cf) ∧ W.cell? ⟨gf, 0, none⟩ = some (.string a.stream) ∧ W.cell? ⟨gf, 1, none⟩ = some (.string a.type) ∧ W.cell? ⟨gf, 2, none⟩ = some (.slice A7 (a.tags.length + 1) c7) ∧ W.cell? ⟨gf, 3, none⟩ = some (.slice F a.fields.length cf) ∧ W.cell? ⟨gg, 0, none⟩ = some (.string a.stream) ∧ W.cell? ⟨gg, 1, none⟩ = some (.string a.type) ∧ W.cell? ⟨gg, 2, none⟩ = some (.slice T a.tags.length ct) ∧ W.cell? ⟨gg, 3, none⟩ = some (.slice A9 (a.fields.length + 1) c9))
    (first | exact HK.out _ (below_drawn (Below.refl _ _)) | exact HK.out _ (bthen (And.left (by assumption : Below X.heap.size X _ ∧ _)) (by assumption)))
    (first
      | (go_at_call 25; with_reducible (refine (D1.out _ _ (by assumption)).mono ?_); rintro r w' ⟨rfl, hb⟩)
      | (go_at_call 25; with_reducible (refine (D2.out _ _ (by assumption)).mono ?_); rintro r w' ⟨rfl, hb⟩)
      | (go_at_call 25; with_reducible (refine (D3.out _ _ (by assumption)).mono ?_); rintro r w' ⟨rfl, hb⟩)
      | (go_at_call 25; with_reducible (refine (D4.out _ _ (by assumption)).mono ?_); rintro r w' ⟨rfl, hb⟩)
      | (go_at_call 25; with_reducible (refine (D5.out _ _ (by assumption)).mono ?_); rintro r w' ⟨rfl, hb⟩)
      | (go_at_call 25; with_reducible (refine (D6.out _ _ (by assumption)).mono ?_); rintro r w' ⟨rfl, hb⟩)
      | (go_at_call 25; with_reducible (refine (D7.out _ _ (by assumption)).mono ?_); rintro r w' ⟨rfl, hb⟩))
  all_goals go_wp2_with fail
  all_goals go_ret
  all_goals exact ⟨rfl, bthen HBW.out (And.left (by assumption : Below X.heap.size X _ ∧ _))⟩
end Go.Proofs.Ythinieokpgmfoaa
