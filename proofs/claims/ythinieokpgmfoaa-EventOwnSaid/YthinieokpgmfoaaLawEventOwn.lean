/- EventOwn: the law's walk. -/
import Derived.Test.YthinieokpgmfoaaHead04
import Derived.Test.YthinieokpgmfoaaNorm04
import Derived.Test.YthinieokpgmfoaaSpread
import Derived.Test.YthinieokpgmfoaaStep
import Derived.Deep.RegionHeld3
set_option linter.unusedVariables false
set_option linter.unusedSimpArgs false
namespace Go.Proofs.Ythinieokpgmfoaa
open Go.RowKit

/-- A row of texts of the call's own: where it lies. -/
theorem own_texts {w : World} {B : Nat} {v : Value} {xs : List ByteArray} (h : Own Kn.str 9 B (fun _ => False) w v xs) :
    ∃ (A : Option Addr) (c g : Nat), v = .slice A xs.length c ∧ xs.length ≤ c ∧ c ≤ maxLen ∧ (0 < xs.length → A = some ⟨g, 0, none⟩ ∧ B ≤ g ∧ g < w.heap.size ∧ v.ownBlock = some g ∧ ∃ cs, Bx w g 9 cs ∧ xs.length ≤ cs.length) := by
  obtain ⟨css, h1, _⟩ := h
  obtain ⟨A, c, hv, hl, hc, _⟩ := Own.reads ⟨css, h1, ‹_›⟩
  obtain ⟨h2, h3 | ⟨g, cap, cur, rfl, hg, hh, hn, hcap, hsz, ht⟩⟩ := h1
  · exact ⟨A, c, 0, hv, hl, hc, fun h => by omega⟩
  · injection hv with e1 e2 e3
    subst e1; subst e3
    refine ⟨_, cap, g, rfl, hl, hc, fun _ => ⟨rfl, hg, (Array.getElem?_eq_some_iff.1 hh).1, rfl, cur.toList, by simpa [Bx] using hh, ?_⟩⟩
    have : cur.size = cap * 1 := hsz
    simp; omega
/-- A row of fields of the call's own. -/
theorem own_fields {w : World} {B : Nat} {v : Value} {xs : List (ByteArray × Int)} (h : Own kField 41 B (fun _ => False) w v xs) :
    ∃ (A : Option Addr) (c g : Nat), v = .slice A xs.length c ∧ xs.length ≤ c ∧ c ≤ maxLen ∧ (0 < xs.length → A = some ⟨g, 0, none⟩ ∧ B ≤ g ∧ g < w.heap.size ∧ ∃ cs, Bx w g 41 cs ∧ ∀ j, j < xs.length → ∃ x : Int, cs[j * 2 + 1]? = some (.int .i64 x)) := by
  obtain ⟨css, h1, h6, h7, h8, h9⟩ := h
  obtain ⟨A, c, hv, hl, hc, _⟩ := Own.reads ⟨css, h1, h6, h7, h8, h9⟩
  obtain ⟨h2, h3 | ⟨g, cap, cur, rfl, hg, hh, hn, hcap, hsz, ht⟩⟩ := h1
  · exact ⟨A, c, 0, hv, hl, hc, fun h => by omega⟩
  · injection hv with e1 e2 e3
    subst e1; subst e3
    refine ⟨_, cap, g, rfl, hl, hc, fun _ => ⟨rfl, hg, (Array.getElem?_eq_some_iff.1 hh).1, cur.toList, by simpa [Bx] using hh, fun j hj => ?_⟩⟩
    obtain ⟨cs, hcs, ⟨c0, c1, e4, e5, e6⟩⟩ := h9 j _ (List.getElem?_eq_getElem hj)
    have e5' : c0 = [.string xs[j].1] := e5
    have e6' : c1 = [.int .i64 xs[j].2] := e6
    subst e5'; subst e6'; subst e4
    have hf := flat_at css h7 j 1 _ (.int .i64 xs[j].2) hcs rfl
    have hf' : css.flatten[j * 2 + 1]? = some (.int .i64 xs[j].2) := hf
    rw [← ht, List.getElem?_take] at hf'
    split at hf'
    · exact ⟨_, hf'⟩
    · cases hf'
theorem hs_any {α : Type} {d : Kn α} {ok : Nat → Prop} {w : World} {A : Option Addr} {c : Nat} {xs : List α} (h : Sl d ok w A c ([] ++ xs)) : Sl d (fun _ => True) w A c xs := h.any
/-- What the law writes, and what it leaves. -/
structure Ow (X : World) (gb : Nat) (e : Event) (A : Option Addr) (nt ct gt : Nat) (B : Option Addr) (nf cf gf : Nat) (wr : World) : Prop where
  box : Bx wr gb 28 [.string e.stream, .string e.type, .slice A nt ct, .slice B nf cf]
  hgb : X.heap.size ≤ gb
  t : 0 < nt → A = some ⟨gt, 0, none⟩ ∧ X.heap.size ≤ gt ∧ gb ≠ gt ∧ (0 < nf → gf ≠ gt) ∧ ∃ cs, Bx wr gt 9 cs ∧ nt ≤ cs.length
  f : 0 < nf → B = some ⟨gf, 0, none⟩ ∧ X.heap.size ≤ gf ∧ gb ≠ gf ∧ ∃ cs, Bx wr gf 41 cs ∧ ∀ j, j < nf → ∃ x : Int, cs[j * 2 + 1]? = some (.int .i64 x)
  bel : Below X.heap.size X wr
section
variable {X : World} {gb : Nat} {e : Event} {A B : Option Addr} {nt ct gt nf cf gf : Nat} {wr : World}
theorem Ow.drew (h : Ow X gb e A nt ct gt B nf cf gf wr) : Ow X gb e A nt ct gt B nf cf gf wr.drew := ⟨h.box, h.hgb, h.t, h.f, below_drawn h.bel⟩
theorem Ow.tag (h : Ow X gb e A nt ct gt B nf cf gf wr) {k : Nat} (hk : k < nt) (u : Value) : Ow X gb e A nt ct gt B nf cf gf (wr.setCell ⟨gt, k, none⟩ u) := by
  obtain ⟨h1, h2, h3, h4, cs, h5, h6⟩ := h.t (by omega)
  refine ⟨h.box.far h3 _, h.hgb, fun _ => ⟨h1, h2, h3, h4, cs.set k u, h5.set k u, by simpa using h6⟩, fun hn => ?_, h.bel.setCell h2 _⟩
  obtain ⟨a1, a2, a3, cs2, a4, a5⟩ := h.f hn
  exact ⟨a1, a2, a3, cs2, a4.far (h4 hn) _, a5⟩
theorem Ow.field (h : Ow X gb e A nt ct gt B nf cf gf wr) {k : Nat} (hk : k < nf) (y : Int) : Ow X gb e A nt ct gt B nf cf gf (wr.setCell ⟨gf, k * 2 + 1, none⟩ (.int .i64 y)) := by
  obtain ⟨a1, a2, a3, cs2, a4, a5⟩ := h.f (by omega)
  refine ⟨h.box.far a3 _, h.hgb, fun hn => ?_, fun _ => ⟨a1, a2, a3, cs2.set (k * 2 + 1) (.int .i64 y), a4.set _ _, fun j hj => ?_⟩, h.bel.setCell a2 _⟩
  · obtain ⟨h1, h2, h3, h4, cs, h5, h6⟩ := h.t hn
    exact ⟨h1, h2, h3, h4, cs, h5.far (fun e1 => h4 (by omega) e1.symm) _, h6⟩
  · obtain ⟨x, hx⟩ := a5 j hj
    by_cases hjk : j = k
    · subst hjk
      exact ⟨y, by rw [List.getElem?_set_self (List.getElem?_eq_some_iff.1 hx).1]⟩
    · exact ⟨x, by rw [List.getElem?_set_ne (by omega)]; exact hx⟩
end
theorem add0 (g k : Nat) : (⟨g, 0, none⟩ : Addr).add k = ⟨g, k, none⟩ := by
  unfold Addr.add
  split
  · rename_i h0; rw [h0]
  · simp

set_option maxHeartbeats 4000000 in
set_option maxRecDepth 100000 in
theorem eventOwn_walk (w : World) (c0 : Array Value) (a : Event) (ha : kEvent.K (fun _ => True) w a c0.toList) (ga : goodEvent a) :
    Calls Try.prog 6 #[.agg c0] w fun r w' => r = .returned (.bool true) ∧ Below w.heap.size w w' := by
  obtain ⟨T, ct, F, cf, rfl, hT, hF⟩ := event_in4 ha
  have hta := few12_tags a
  have hfa := few12_fields a
  have HG := Lib.hid (good_few12 a ga)
  clear ha ga
  obtain ⟨W0, hW0⟩ : ∃ W0, W0 = (w.alloc (.cells #[.string a.stream, .string a.type, .slice T a.tags.length ct, .slice F a.fields.length cf] 28)) := ⟨_, rfl⟩
  have HW0 := Lib.hid hW0
  have HB0 := Lib.hid (show Below w.heap.size w W0 by rw [hW0]; exact (Below.refl _ _).alloc (Nat.le_refl _) _)
  have HA := Lib.hid (show A04 w w.heap.size a T F ct cf W0 from ⟨by rw [hW0]; exact Bx.new w _ _, hT.below HB0.out, hF.below HB0.out, Nat.le_refl _⟩)
  have HS := Lib.hid (shown04 W0)
  clear hT hF
  go_enter Try.func6, Try.ntmps6
  go_upto_region 1 with fail
  rw [← HW0.out]
  clear hW0
  go_upto_region 2 with (go_at_call 18; go_fit HS.out; rintro r w1 ⟨rfl, hb1⟩; have HA1 := Lib.hid (HA.out.below hb1); have HBW := Lib.hid (bthen HB0.out hb1); clear hb1)
  clear HA HB0 HS HW0
  have k0 := HA1.out.c0
  have k1 := HA1.out.c1
  have k2 := HA1.out.c2
  have k3 := HA1.out.c3
  have CF := Lib.hid (few04_any (w := w1) (e := a) (T := T) (F := F) (ct := ct) (cf := cf) HA1.out.ts.1 HA1.out.fs.1)
  go_upto_region 3 with (go_at_call 19; go_fit CF.out; rintro r w2 ⟨rfl, hb2⟩; have HA2 := Lib.hid (HA1.out.below hb2); have HBV := Lib.hid (bthen HBW.out hb2); have j0 := HA2.out.c0; have j1 := HA2.out.c1; have j2 := HA2.out.c2; have j3 := HA2.out.c3; have f0 := HA2.out.bx.free 0; have f1 := HA2.out.bx.free 1; have f2 := HA2.out.bx.free 2; have f3 := HA2.out.bx.free 3; clear hb2)
  have HA3 := Lib.hid HA2.out.few
  have HBW3 := Lib.hid (below4 HBV.out (Nat.le_refl _) (.string (few12 a).stream) (.string (few12 a).type) (.slice T (few12 a).tags.length ct) (.slice F (few12 a).fields.length cf))
  clear HA2 HBV j0 j1 j2 j3 f0 f1 f2 f3 k0 k1 k2 k3 CF HA1 HBW
  generalize ((((w2.setCell ⟨w.heap.size, 0, none⟩ (.string (few12 a).stream)).setCell ⟨w.heap.size, 1, none⟩ (.string (few12 a).type)).setCell ⟨w.heap.size, 2, none⟩ (.slice T (few12 a).tags.length ct)).setCell ⟨w.heap.size, 3, none⟩ (.slice F (few12 a).fields.length cf)) = X at HA3 HBW3 ⊢
  generalize few12 a = a at HA3 HBW3 hta hfa HG ⊢
  have k2 := (HA3.out.below ((Below.refl _ _).alloc (Nat.le_refl _) (.cells #[] 9))).c2
  have HOs := Lib.hid (Own.lit0 Kn.str 9 X.heap.size (fun k => k < X.heap.size) X (Nat.le_refl _))
  have HRs := Lib.hid (show Row Kn.str (fun k => k < X.heap.size ∧ some k ≠ (Value.slice (some ⟨X.heap.size, 0, none⟩) 0 0).ownBlock) (X.alloc (.cells #[] 9)) T a.tags from
    (HA3.out.ts.any.2.2.bound.below ((Below.refl _ _).alloc (Nat.le_refl _) _)).mono (fun k hk => ⟨hk.2, fun e1 => by have h2 := hk.2; simp [Value.ownBlock] at e1; omega⟩))
  go_upto_region 4 with (at_builtin; refine wpList_spread rfl _ _ _ rfl 9 _ 1 16 Try.underlying25 infoS2 rfl (by decide) (by decide) rfl X.heap.size (fun k => k < X.heap.size) _ [] rfl HOs.out a.tags T ct HRs.out rfl (by simp) (by simp; omega) ?_; intro v6 w6 hown6 hg6 hat6 hbel6; obtain ⟨A4, c4, hv6, hs4⟩ := (show Own Kn.str 9 X.heap.size (fun _ => False) w6 v6 ([] ++ a.tags) from hown6).sl; subst hv6; have HS4 := Lib.hid hs4; have HB6 := Lib.hid (hbel6 X ((Below.refl _ _).alloc (Nat.le_refl _) _)); clear hown6 hg6 hat6 hbel6 hs4)
  clear HOs HRs k2
  have HA4 := Lib.hid (HA3.out.below HB6.out)
  have HBW4 := Lib.hid (bthen HBW3.out HB6.out)
  clear HA3 HBW3 HB6
  have k3 := (HA4.out.below ((Below.refl _ _).alloc (Nat.le_refl _) (.cells #[] 41))).c3
  have HOs := Lib.hid (Own.lit0 kField 41 w6.heap.size (fun k => k < w6.heap.size) w6 (Nat.le_refl _))
  have HRs := Lib.hid (show Row kField (fun k => k < w6.heap.size ∧ some k ≠ (Value.slice (some ⟨w6.heap.size, 0, none⟩) 0 0).ownBlock) (w6.alloc (.cells #[] 41)) F a.fields from
    (HA4.out.fs.any.2.2.bound.below ((Below.refl _ _).alloc (Nat.le_refl _) _)).mono (fun k hk => ⟨hk.2, fun e1 => by have h2 := hk.2; simp [Value.ownBlock] at e1; omega⟩))
  go_upto_region 5 with (at_builtin; refine wpList_spread rfl _ _ _ rfl 41 _ 2 24 Try.underlying26 infoField rfl (by decide) (by decide) rfl w6.heap.size (fun k => k < w6.heap.size) _ [] rfl HOs.out a.fields F cf HRs.out rfl (by simp) (by simp; omega) ?_; intro v7 w7 hown7 hg7 hat7 hbel7; obtain ⟨A5, c5, hv7, hs5⟩ := (show Own kField 41 w6.heap.size (fun _ => False) w7 v7 ([] ++ a.fields) from hown7).sl; subst hv7; have HS5 := Lib.hid hs5; have HB7 := Lib.hid (hbel7 w6 ((Below.refl _ _).alloc (Nat.le_refl _) _)); clear hown7 hg7 hat7 hbel7 hs5)
  clear HOs HRs k3
  have HA := Lib.hid (HA4.out.below HB7.out)
  have HBW := Lib.hid (bthen HBW4.out HB7.out)
  have HT4 := Lib.hid (show SlS w7 A4 c4 a.tags from hs_any (HS4.out.below HB7.out))
  have HF5 := Lib.hid (show SlF w7 A5 c5 a.fields from hs_any HS5.out)
  clear HA4 HBW4 HB7 HS4 HS5
  obtain ⟨Y, hY⟩ : ∃ Y, Y = w7 := ⟨_, rfl⟩
  subst hY
  have CN := Lib.hid (normE_any (e := a) HT4.out HF5.out (by omega) (by omega) (fun x hx => (HG.out.2.2.2 x hx).1))
  have k0 := HA.out.c0
  have k1 := HA.out.c1
  go_upto_region 6 with (go_at_call 21; go_fit CN.out; rintro r w8 ⟨vt, vf, M, rfl, ho1, ho2, hm1, hm2, hb8⟩; obtain ⟨At, ctt, gt, hvt, hlt, hct, hpt⟩ := own_texts ho1; obtain ⟨Bf, cff, gf, hvf, hlf, hcf, hpf⟩ := own_fields ho2; have HPT := Lib.hid hpt; have HPF := Lib.hid hpf; have HMM := Lib.hid hm2; subst hvt; subst hvf; have HB8 := Lib.hid hb8; have HM1 := Lib.hid hm1; clear ho1 ho2 hm1 hm2 hb8 hpt hpf)
  clear k0 k1 CN HG
  have h9 : Ow Y w8.heap.size a At (uniq a.tags).length ctt gt Bf (normF a.fields).length cff gf (w8.alloc (.cells #[.string a.stream, .string a.type, .slice At (uniq a.tags).length ctt, .slice Bf (normF a.fields).length cff] 28)) := by
    refine ⟨Bx.new _ _ _, HB8.out.size, fun hn => ?_, fun hn => ?_, HB8.out.alloc HB8.out.size _⟩
    · obtain ⟨e1, e2, e3, e4, cs, e5, e6⟩ := HPT.out hn
      refine ⟨e1, e2, by omega, fun hn2 => ?_, cs, e5.alloc _, e6⟩
      have h1 := HMM.out gt e4
      obtain ⟨_, f2, _⟩ := HPF.out hn2
      omega
    · obtain ⟨f1, f2, f3, cs, f4, f5⟩ := HPF.out hn
      exact ⟨f1, Nat.le_trans HM1.out f2, by omega, cs, f4.alloc _, f5⟩
  have H9 := Lib.hid h9
  clear h9 HPT HPF HMM HB8 HM1
  generalize w8.alloc (.cells #[.string a.stream, .string a.type, .slice At (uniq a.tags).length ctt, .slice Bf (normF a.fields).length cff] 28) = W9 at H9 ⊢
  generalize w8.heap.size = gb at H9 ⊢
  generalize (uniq a.tags).length = nt at H9 hlt ⊢
  generalize (normF a.fields).length = nf at H9 hlf ⊢
  unfold maxLen at hct hcf
  go_wp2_with fail
  go_loopw [7] (fun i wr => ∃ k : Nat, k ≤ nt ∧ i = .int .i64 k ∧ Ow Y gb a At nt ctt gt Bf nf cff gf wr) (fun i _ => nt - (intOf i).toNat)
  case atStart => exact ⟨0, Nat.zero_le _, rfl, H9.out⟩
  case round =>
    clear H9
    obtain ⟨k, hk, rfl, hf⟩ := hrel
    have k2 := hf.box.cell 2
    simp only [List.getElem?_cons_succ, List.getElem?_cons_zero] at k2
    have HN := Lib.hid hf
    by_cases hkl : k < nt
    · obtain ⟨ad, had⟩ : ∃ ad : Addr, ad = ⟨gt, 0, none⟩ := ⟨_, rfl⟩
      obtain ⟨e1, e2, e3, e4, cs, e5, e6⟩ := hf.t (by omega)
      rw [← had] at e1
      subst e1
      have HAK := Lib.hid (show ad.add k = ⟨gt, k, none⟩ by rw [had, add0])
      have x0 : wr.cell? (ad.add k) = some cs[k] := by rw [HAK.out, e5.cell]; exact List.getElem?_eq_getElem (by omega)
      have xf : wr.frozen? (ad.add k) = false := by rw [HAK.out]; exact e5.free k
      have j1 : (0 : Int) ≤ (k : Int) := Int.natCast_nonneg _
      have j2 : (k : Int) < (nt : Int) := by omega
      generalize cs[k] = u at x0
      clear e2 e3 e4 e5 e6 had hf
      go_wp2_with fail
      go_roundw
      case rel => exact ⟨k + 1, by omega, by go_num, by rw [HAK.out]; exact HN.out.tag hkl _⟩
      case measure => simp [intOf]; omega
    · clear hf
      go_wp2_with fail
      clear k2
      go_loopw [8] (fun i wr => ∃ k : Nat, k ≤ nf ∧ i = .int .i64 k ∧ Ow Y gb a At nt ctt gt Bf nf cff gf wr) (fun i _ => nf - (intOf i).toNat)
      case atStart => exact ⟨0, Nat.zero_le _, rfl, HN.out⟩
      case round =>
        clear HN
        obtain ⟨j, hj, rfl, hf⟩ := hrel
        have k3 := hf.box.cell 3
        simp only [List.getElem?_cons_succ, List.getElem?_cons_zero] at k3
        have HN := Lib.hid hf
        by_cases hjl : j < nf
        · obtain ⟨ad, had⟩ : ∃ ad : Addr, ad = ⟨gf, 0, none⟩ := ⟨_, rfl⟩
          obtain ⟨e1, e2, e3, cs, e5, e6⟩ := hf.f (by omega)
          rw [← had] at e1
          subst e1
          have HAK := Lib.hid (show (⟨(ad.add (j * 2)).block, (ad.add (j * 2)).off + 1, none⟩ : Addr) = ⟨gf, j * 2 + 1, none⟩ by rw [had, add0])
          obtain ⟨x, hx⟩ := e6 j hjl
          have x0 : wr.cell? ⟨(ad.add (j * 2)).block, (ad.add (j * 2)).off + 1, none⟩ = some (.int .i64 x) := by rw [HAK.out, e5.cell]; exact hx
          have xf : wr.frozen? ⟨(ad.add (j * 2)).block, (ad.add (j * 2)).off + 1, none⟩ = false := by rw [HAK.out]; exact e5.free _
          have j1 : (0 : Int) ≤ (j : Int) := Int.natCast_nonneg _
          have j2 : (j : Int) < (nf : Int) := by omega
          clear e2 e3 e5 e6 had hf hx
          go_upto_region 13 with fail
          go_region_law (fail)
          all_goals go_wp2_with fail
          all_goals
            refine ⟨⟨j + 1, by omega, by go_num, ?_⟩, by simp [intOf]; omega⟩
            rw [HAK.out]
            exact (HN.out.field hjl _).drew
        · clear hf
          have HA9 := Lib.hid (HA.out.below HN.out.bel)
          have CS := Lib.hid (sameE_any (x := a) (y := a) HA9.out.ts.any HA9.out.fs.any (HT4.out.below HN.out.bel) (HF5.out.below HN.out.bel))
          rw [sameE_refl] at CS
          have k0 := HA9.out.c0
          have k1 := HA9.out.c1
          have k2 := HA9.out.c2
          have k3' := HA9.out.c3
          go_wp2_with (go_at_call 25; go_fit CS.out; rintro r w11 ⟨rfl, hb11⟩; have HB11 := Lib.hid hb11; clear hb11)
          go_ret
          exact ⟨rfl, bthen HBW.out (bthen HN.out.bel HB11.out)⟩
end Go.Proofs.Ythinieokpgmfoaa
