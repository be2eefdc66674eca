/- EventNorm: the law's state at its first loop. EventNorm: what is in order is small where the event was. EventNorm: the law's walk. The closed facts that every row of this seat leans on, each proved for itself: the order's text is long, so it is read once as a list of signs. The row of the law EventNorm, over its walk: for every input the call returns true and each argument reads afterwards as it read before. No conditions. -/
import Derived.Test.YtfoghahidofegaaBundE
import Derived.Test.YtfoghahidofegaaBundN
import Derived.Deep.RegionHeld3
import Derived.Deep.CutBlock
import Derived.Test.YtfoghahidofegaaRows
import Derived.JoinedOf
import Derived.KernelRfl
import Derived.Test.YtfoghahidofegaaBundA
import Derived.WalkKit
import Derived.ProofKit
import Derived.OpenShut
import Derived.ShutString
import Derived.ChangeOld
import Derived.Below
import Derived.SizedLaws
set_option linter.unusedVariables false
set_option linter.unusedSimpArgs false
namespace Go.Proofs.Ytfoghahidofegaa
open Go.RowKit

/-- e in b0, n in bn, e with m of its tags still to be laid (last first) in bb. -/
structure Bk (w : World) (b0 bn bb : Nat) (e n : Event) (T F : Option Addr) (ct cf : Nat) (T1 F1 : Option Addr) (c1 f1 : Nat) (m : Nat) (v : Value) (wr : World) : Prop where
  xe : Bx wr b0 25 [.string e.stream, .string e.type, .slice T e.tags.length ct, .slice F e.fields.length cf]
  te : Sl Kn.str (fun k => k < bb) wr T ct e.tags
  fe : Sl kField (fun k => k < bb) wr F cf e.fields
  xn : Bx wr bn 25 [.string n.stream, .string n.type, .slice T1 n.tags.length c1, .slice F1 n.fields.length f1]
  tn : Sl Kn.str (fun k => k < bb) wr T1 c1 n.tags
  fn : Sl kField (fun k => k < bb) wr F1 f1 n.fields
  xb : Bx wr bb 25 [.string e.stream, .string e.type, v, .slice F e.fields.length cf]
  own : Own Kn.str 9 (bb + 1) (fun _ => False) wr v (e.tags.drop m).reverse
  bel : Below w.heap.size w wr
  l0 : b0 < bb
  ln : bn < bb
  lb : w.heap.size ≤ bb
  size : bb + 1 ≤ wr.heap.size
section
variable {w : World} {b0 bn bb : Nat} {e n : Event} {T F T1 F1 : Option Addr} {ct cf c1 f1 m j : Nat} {v v1 : Value} {wr W w1 : World}
theorem Bk.step (h : Bk w b0 bn bb e n T F ct cf T1 F1 c1 f1 (j + 1) v wr) (hb : Below wr.heap.size wr W)
    (hg : W.grownBy w1 v.ownBlock) (y : ByteArray) (hy : e.tags[j]? = some y) (hown : Own Kn.str 9 (bb + 1) (fun _ => False) w1 v1 ((e.tags.drop (j + 1)).reverse ++ [y])) :
    Bk w b0 bn bb e n T F ct cf T1 F1 c1 f1 j v1 (w1.setCell ⟨bb, 2, none⟩ v1) := by
  have hs := h.size
  have l0 := h.l0
  have ln := h.ln
  have lb := h.lb
  have hv : ∀ j, v.ownBlock = some j → bb + 1 ≤ j := h.own.base_le
  have hne : ∀ j, j < bb + 1 → some j ≠ v.ownBlock := fun j hj e => by have := hv j e.symm; omega
  have hbl : ∀ j, j < bb + 1 → w1.heap[j]? = wr.heap[j]? := fun j hj => (hg.block j (by have := hb.size; omega) (hne j hj)).trans (hb.block j (by omega))
  have hsz : wr.heap.size ≤ w1.heap.size := Nat.le_trans hb.size hg.size
  obtain ⟨hj, hy⟩ := List.getElem?_eq_some_iff.1 hy
  subst hy
  refine ⟨?_, ?_, ?_, ?_, ?_, ?_, ?_, ?_, ?_, l0, ln, lb, ?_⟩
  · exact (h.xe.stay (fun _ => hbl _ (by omega))).far (by simp; omega) _
  · exact (h.te.stay hsz (fun j hj _ => hbl j (by omega))).setCell (fun j hj => by simp; omega) _
  · exact (h.fe.stay hsz (fun j hj _ => hbl j (by omega))).setCell (fun j hj => by simp; omega) _
  · exact (h.xn.stay (fun _ => hbl _ (by omega))).far (by simp; omega) _
  · exact (h.tn.stay hsz (fun j hj _ => hbl j (by omega))).setCell (fun j hj => by simp; omega) _
  · exact (h.fn.stay hsz (fun j hj _ => hbl j (by omega))).setCell (fun j hj => by simp; omega) _
  · exact (h.xb.stay (fun _ => hbl _ (by omega))).set 2 v1
  · have : (e.tags.drop j).reverse = (e.tags.drop (j + 1)).reverse ++ [e.tags[j]] := by rw [List.drop_eq_getElem_cons hj, List.reverse_cons]
    rw [this]
    exact hown.setCell (fun j hj => hj.elim) (fun j hj => by have := hown.base_le j hj; simp; omega) _
  · refine Below.setCell ?_ (by simp; omega) _
    exact ⟨hg.os.trans (hb.os.trans h.bel.os), hg.tape.trans (hb.tape.trans h.bel.tape), hg.output.trans (hb.output.trans h.bel.output), Nat.le_trans h.bel.size hsz, fun j hj => (hbl j (by omega)).trans (h.bel.block j hj)⟩
  · simp [World.setCell]; omega
theorem Bk.box (h : Bk w b0 bn bb e n T F ct cf T1 F1 c1 f1 m v wr) (hb : Below wr.heap.size wr W) (hg : W.grownBy w1 v.ownBlock) : Bx w1 bb 25 [.string e.stream, .string e.type, v, .slice F e.fields.length cf] :=
  (h.xb.under hb).grown hg (fun e => by have := h.own.base_le _ e.symm; omega)
end
/-- Three events in boxes, wherever their rows lie. -/
structure B3 (b0 bn bb : Nat) (e n b : Event) (T F : Option Addr) (ct cf : Nat) (T1 F1 : Option Addr) (c1 f1 : Nat) (V : Option Addr) (cv : Nat) (X : World) : Prop where
  e : E4 b0 e T F ct cf X
  n : E4 bn n T1 F1 c1 f1 X
  b : E4 bb b V F cv cf X
theorem B3.below {b0 bn bb : Nat} {e n b : Event} {T F T1 F1 V : Option Addr} {ct cf c1 f1 cv : Nat} {X W : World} (h : B3 b0 bn bb e n b T F ct cf T1 F1 c1 f1 V cv X) (hb : Below X.heap.size X W) : B3 b0 bn bb e n b T F ct cf T1 F1 c1 f1 V cv W := ⟨h.e.below hb, h.n.below hb, h.b.below hb⟩
theorem Bk.done {w : World} {b0 bn bb : Nat} {e n : Event} {T F T1 F1 V : Option Addr} {ct cf c1 f1 cv k : Nat} {wr : World} (h : Bk w b0 bn bb e n T F ct cf T1 F1 c1 f1 0 (.slice V k cv) wr) : B3 b0 bn bb e n { e with tags := e.tags.reverse } T F ct cf T1 F1 c1 f1 V cv wr := by
  obtain ⟨V', cv', hv, hs⟩ := h.own.sl
  simp only [List.drop_zero, List.length_reverse, Value.slice.injEq] at hv
  obtain ⟨rfl, rfl, rfl⟩ := hv
  refine ⟨⟨h.xe, h.te.any, h.fe.any⟩, ⟨h.xn, h.tn.any, h.fn.any⟩, ?_, ?_, h.fe.any⟩
  · have := h.xb
    simpa using this
  · have := hs.any
    simpa using this
end Go.Proofs.Ytfoghahidofegaa

namespace Go.Proofs.Ytfoghahidofegaa
open Go.RowKit

theorem normE_good {e : Event} (h : goodEvent e) (ht : e.tags.length ≤ 12) (hf : e.fields.length ≤ 12) : (normE e).tags.length ≤ 12 ∧ (normE e).fields.length ≤ 12 ∧ (∀ s ∈ (normE e).tags, s.size ≤ maxLen) ∧ (∀ x ∈ (normE e).fields, x.1.size ≤ maxLen) := by
  have a := uniq_len e.tags
  have b := uniq_len (fnames e.fields)
  have c : (normE e).fields.length = (uniq (fnames e.fields)).length := by show (normF e.fields).length = _; unfold normF; rw [List.length_map]
  have d : (fnames e.fields).length = e.fields.length := by simp [fnames]
  have f : (normE e).tags = uniq e.tags := rfl
  refine ⟨by rw [f]; omega, by omega, fun s hs => h.2.2.1 s (mem_uniq.1 (by rw [f] at hs; exact hs)), fun x hx => ?_⟩
  have hx1 : x.1 ∈ fnames (normE e).fields := List.mem_map.2 ⟨x, hx, rfl⟩
  rw [show fnames (normE e).fields = uniq (fnames e.fields) from fnames_normF _] at hx1
  obtain ⟨y, hy, hyx⟩ := List.mem_map.1 (mem_uniq.1 hx1)
  rw [← hyx]
  exact (h.2.2.2 y hy).1
end Go.Proofs.Ytfoghahidofegaa

namespace Go.Proofs.Ytfoghahidofegaa
open Go.RowKit

theorem infoStr5 : (Try.prog.info? 9).map (fun i => (i.zero, i.size, i.bytes)) = some (some (.string ByteArray.empty), 1, 16) := by kernel_rfl
theorem normE_sl5 {w : World} {e : Event} {T F : Option Addr} {ct cf : Nat} (hT : SlS w T ct e.tags) (hF : SlF w F cf e.fields) (hlt : e.tags.length ≤ 1000000) (hl : e.fields.length ≤ 1000000) (hg : ∀ x ∈ e.fields, x.1.size ≤ maxLen) :
    Calls Try.prog 12 #[vEvent e T ct F cf] w fun r w' => ∃ (T' F' : Option Addr) (ct' cf' : Nat), r = .returned (.agg #[.string e.stream, .string e.type, .slice T' (normE e).tags.length ct', .slice F' (normE e).fields.length cf']) ∧ SlS w' T' ct' (normE e).tags ∧ SlF w' F' cf' (normE e).fields ∧ Below w.heap.size w w' := by
  refine (normE_any hT hF hlt hl hg).mono ?_
  rintro r w' ⟨vt, vf, M, rfl, h1, h2, _, _, hb⟩
  obtain ⟨T', ct', rfl, h3⟩ := h1.sl
  obtain ⟨F', cf', rfl, h4⟩ := h2.sl
  exact ⟨T', F', ct', cf', rfl, h3.any, h4.any, hb⟩

set_option maxHeartbeats 8000000 in
set_option maxRecDepth 100000 in
theorem eventNorm_walk (w : World) (c0 : Array Value) (a : Event) (ha : kEvent.K (fun _ => True) w a c0.toList) (ga : goodEvent a) (s : ByteArray) (hs : s.size ≤ maxLen) :
    Calls Try.prog 4 #[.agg c0, .string s] w fun r w' => r = .returned (.bool true) ∧ Below w.heap.size w w' := by
  obtain ⟨T, ct, F, cf, rfl, hT, hF⟩ := event_in4 ha
  have hta := few12_tags a
  have hfa := few12_fields a
  have HG := Lib.hid (good_few12 a ga)
  clear ha ga hs
  obtain ⟨W0, hW0⟩ : ∃ W0, W0 = (w.alloc (.cells #[.string a.stream, .string a.type, .slice T a.tags.length ct, .slice F a.fields.length cf] 25)) := ⟨_, rfl⟩
  have HW0 := Lib.hid hW0
  have HB0 := Lib.hid (show Below w.heap.size w W0 by rw [hW0]; exact (Below.refl _ _).alloc (Nat.le_refl _) _)
  have HA := Lib.hid (show A04 w w.heap.size a T F ct cf W0 from ⟨by rw [hW0]; exact Bx.new w _ _, hT.below HB0.out, hF.below HB0.out, Nat.le_refl _⟩)
  have HS := Lib.hid (shown04 W0)
  clear hT hF
  go_enter Try.func4, Try.ntmps4
  go_upto_region 1 with fail
  rw [← HW0.out]
  clear hW0
  go_upto_region 2 with (go_at_call 7; go_fit HS.out; rintro r w1 ⟨rfl, hb1⟩; have HA1 := Lib.hid (HA.out.below hb1); have HBW := Lib.hid (bthen HB0.out hb1); clear hb1)
  clear HA HB0 HS HW0
  have k0 := HA1.out.c0
  have k1 := HA1.out.c1
  have k2 := HA1.out.c2
  have k3 := HA1.out.c3
  have CF := Lib.hid (few04_any (w := w1) (e := a) (T := T) (F := F) (ct := ct) (cf := cf) HA1.out.ts.1 HA1.out.fs.1)
  go_upto_region 3 with (go_at_call 8; go_fit CF.out; rintro r w2 ⟨rfl, hb2⟩; have HA2 := Lib.hid (HA1.out.below hb2); have HBV := Lib.hid (bthen HBW.out hb2); have j0 := HA2.out.c0; have j1 := HA2.out.c1; have j2 := HA2.out.c2; have j3 := HA2.out.c3; have f0 := HA2.out.bx.free 0; have f1 := HA2.out.bx.free 1; have f2 := HA2.out.bx.free 2; have f3 := HA2.out.bx.free 3; clear hb2)
  have HA3 := Lib.hid HA2.out.few
  have HBW3 := Lib.hid (below4 HBV.out (Nat.le_refl _) (.string (few12 a).stream) (.string (few12 a).type) (.slice T (few12 a).tags.length ct) (.slice F (few12 a).fields.length cf))
  clear HA2 HBV j0 j1 j2 j3 f0 f1 f2 f3 k0 k1 k2 k3 CF HA1 HBW
  generalize ((((w2.setCell ⟨w.heap.size, 0, none⟩ (.string (few12 a).stream)).setCell ⟨w.heap.size, 1, none⟩ (.string (few12 a).type)).setCell ⟨w.heap.size, 2, none⟩ (.slice T (few12 a).tags.length ct)).setCell ⟨w.heap.size, 3, none⟩ (.slice F (few12 a).fields.length cf)) = X at HA3 HBW3 ⊢
  generalize few12 a = a at HA3 HBW3 hta hfa HG ⊢
  have k0 := HA3.out.c0
  have k1 := HA3.out.c1
  have k2 := HA3.out.c2
  have k3 := HA3.out.c3
  have CN := Lib.hid (normE_sl5 (w := X) HA3.out.ts.any HA3.out.fs.any (by omega) (by omega) (fun x hx => (HG.out.2.2.2 x hx).1))
  go_upto_region 4 with (go_at_call 12; go_fit CN.out; rintro r w3 ⟨T1, F1, c1, f1, rfl, ht3, hf3, hb3⟩; have HT3 := Lib.hid ht3; have HF3 := Lib.hid hf3; have HB3 := Lib.hid hb3; clear ht3 hf3 hb3)
  have HA4 := Lib.hid (HA3.out.below HB3.out)
  obtain ⟨w4, hw4⟩ : ∃ w4, w4 = w3.alloc (.cells #[.string a.stream, .string a.type, .slice T1 (normE a).tags.length c1, .slice F1 (normE a).fields.length f1] 25) := ⟨_, rfl⟩
  rw [← hw4]
  have HB4 := Lib.hid (show Below w3.heap.size w3 w4 by rw [hw4]; exact (Below.refl _ _).alloc (Nat.le_refl _) _)
  have HN4 := Lib.hid (show Bx w4 w3.heap.size 25 [.string (normE a).stream, .string (normE a).type, .slice T1 (normE a).tags.length c1, .slice F1 (normE a).fields.length f1] by rw [hw4]; exact Bx.new w3 _ _)
  have HA5 := Lib.hid (HA4.out.below HB4.out)
  have j0 := HA5.out.c0
  have j1 := HA5.out.c1
  have j2 := HA5.out.c2
  have j3 := HA5.out.c3
  clear k0 k1 k2 k3 CN hw4
  go_upto_region 5 with fail
  obtain ⟨w5, hw5⟩ : ∃ w5, w5 = w4.alloc (.cells #[.string a.stream, .string a.type, .slice T a.tags.length ct, .slice F a.fields.length cf] 25) := ⟨_, rfl⟩
  rw [← hw5]
  have HB5 := Lib.hid (show Below w4.heap.size w4 w5 by rw [hw5]; exact (Below.refl _ _).alloc (Nat.le_refl _) _)
  have HX5 := Lib.hid (show Bx w5 w4.heap.size 25 [.string a.stream, .string a.type, .slice T a.tags.length ct, .slice F a.fields.length cf] by rw [hw5]; exact Bx.new w4 _ _)
  have HL6 := Lib.hid (fun (o : Obj) => show Below w5.heap.size w5 (w5.alloc o) from (Below.refl _ _).alloc (Nat.le_refl _) o)
  have hs5 : w5.heap.size = w4.heap.size + 1 := by rw [hw5]; simp
  have HO := Lib.hid (Own.lit0 Kn.str 9 (w4.heap.size + 1) (fun _ => False) w5 (by omega))
  have q2 := (HX5.out.under (HL6.out (.cells #[] 9))).cell 2
  have qf := (HX5.out.under (HL6.out (.cells #[] 9))).free 2
  simp only [List.getElem?_cons_succ, List.getElem?_cons_zero] at q2
  have hl0 := HA4.out.bx.lt
  have hl1 := HN4.out.lt
  have hlb := (bthen HBW3.out HB3.out).size
  have hs34 := HB4.out.size
  have H0 := Lib.hid (show Bk w w.heap.size w3.heap.size w4.heap.size a (normE a) T F ct cf T1 F1 c1 f1 a.tags.length (.slice (some ⟨w4.heap.size + 1, 0, none⟩) 0 0) ((w5.setCell ⟨w4.heap.size, 2, none⟩ (.slice (some ⟨w4.heap.size + 1, 0, none⟩) 0 0)).alloc (.cells #[] 9)) from by
    rw [← World.setCell_alloc_past _ _ _ _ (by omega : w4.heap.size < w5.heap.size), ← hs5]
    have hb6 := HL6.out (.cells #[] 9)
    have hbb : Below w4.heap.size w4 (w5.alloc (.cells #[] 9)) := bthen HB5.out hb6
    refine ⟨?_, ?_, ?_, ?_, ?_, ?_, ?_, ?_, ?_, by omega, by omega, by omega, ?_⟩
    · exact (HA5.out.bx.under hbb).far (by simp; omega) _
    · exact ((HA5.out.ts.below hbb).mono (fun k hk => (by omega : k < w4.heap.size))).setCell (fun k hk => by simp; omega) _
    · exact ((HA5.out.fs.below hbb).mono (fun k hk => (by omega : k < w4.heap.size))).setCell (fun k hk => by simp; omega) _
    · exact (HN4.out.under hbb).far (by simp; omega) _
    · exact (((HT3.out.below HB4.out).bound.below hbb).mono (fun k hk => hk.2)).setCell (fun k hk => by simp; omega) _
    · exact (((HF3.out.below HB4.out).bound.below hbb).mono (fun k hk => hk.2)).setCell (fun k hk => by simp; omega) _
    · exact (HX5.out.under hb6).set 2 _
    · rw [List.drop_length]
      exact HO.out.setCell (fun k hk => hk.elim) (fun k hk => by have := HO.out.base_le k hk; simp; omega) _
    · exact Below.setCell (bthen (bthen (bthen HBW3.out HB3.out) HB4.out) hbb) (by simp; omega) _
    · simp [World.setCell]; omega)
  have hbig : a.tags.length ≤ 12 := hta
  clear j0 j1 j2 j3 hw5
  go_upto_region 6 with fail
  clear hs5 hs34 q2 qf HO HL6 HX5 HB5 HA5 HN4 HB4 HA4 HB3 HF3 HT3 HA3 HBW3
  generalize (w5.setCell ⟨w4.heap.size, 2, none⟩ (.slice (some ⟨w4.heap.size + 1, 0, none⟩) 0 0)).alloc (.cells #[] 9) = X6 at H0 ⊢
  generalize w4.heap.size = bb at *
  generalize w3.heap.size = bn at *
  have k2 := H0.out.xe.cell 2
  simp only [List.getElem?_cons_succ, List.getElem?_cons_zero] at k2
  go_upto_block 0 with fail
  go_cut [8] (fun _ wx => ∃ (V : Option Addr) (cv : Nat), B3 w.heap.size bn bb a (normE a) { a with tags := a.tags.reverse } T F ct cf T1 F1 c1 f1 V cv wx ∧ Below w.heap.size w wx)
  case first =>
    have hlT := H0.out.te.1
    have hlT2 := H0.out.te.2.1
    unfold maxLen at hlT2
    go_wp2_with fail
    go_loopw [8] (fun i wr => ∃ (m : Nat) (v : Value), m ≤ a.tags.length ∧ i = .int .i64 ((m : Int) - 1) ∧ Bk w w.heap.size bn bb a (normE a) T F ct cf T1 F1 c1 f1 m v wr) (fun i _ => (intOf i + 1).toNat)
    case atStart => exact ⟨a.tags.length, _, Nat.le_refl _, rfl, H0.out⟩
    case round =>
      clear H0 k2
      obtain ⟨m, v, hm, rfl, hf⟩ := hrel
      have e2 := hf.xe.cell 2
      have b2 := hf.xb.cell 2
      have f2 := hf.xb.free 2
      simp only [List.getElem?_cons_succ, List.getElem?_cons_zero] at e2 b2
      have hsz := hf.size
      have hl0 := hf.l0
      cases m with
      | succ j =>
        have ej : ((j + 1 : Nat) : Int) - 1 = (j : Int) := by omega
        rw [ej]
        obtain ⟨ad, rfl, hx⟩ := row_str_at hf.te.2.2 (j := j) (by omega)
        have hxe : a.tags[j]? = some a.tags[j] := List.getElem?_eq_getElem (by omega)
        generalize a.tags[j] = y at hx hxe
        have HX := Lib.hid hxe
        have hst := Lib.hid (fun (W w1 : World) (v1 : Value) hb hg hown => Bk.step (W := W) (w1 := w1) (v1 := v1) hf hb hg y HX.out hown)
        have hlen : Hid ((a.tags.drop (j + 1)).reverse.length = a.tags.length - (j + 1)) := by show _ = _; simp
        obtain ⟨V, cv, hv, _⟩ := hf.own.sl
        rw [hlen.out] at hv
        subst hv
        have hown := Lib.hid (hf.own)
        have hbx := Lib.hid (fun (W w1 : World) => Bk.box (W := W) (w1 := w1) hf)
        have hlen1 : ((a.tags.drop (j + 1)).reverse ++ [y]).length = a.tags.length - (j + 1) + 1 := by simp
        have HL1 := Lib.hid hlen1
        clear hlen1
        have hd := Lib.hid (below_drewN (Below.refl wr.heap.size wr) 1)
        have l3 : bb < wr.heap.size := by omega
        have l4 : w.heap.size < wr.heap.size := by omega
        have l5 : ad.block < wr.heap.size := World.block_lt_of_cell? wr (ad.add j) hx |> fun h => by rwa [block_add] at h
        have p1 : (0 : Int) ≤ (j : Int) := by omega
        have p2 : (j : Int) < (a.tags.length : Int) := by omega
        clear hf hxe
        go_wp2_with fail
        go_region_law (first | (refine step_push (W := wr.drew) rfl _ _ _ rfl 9 _ 1 16 Try.underlying22 infoStr5 rfl (by decide) (by decide) rfl (bb + 1) (fun _ => False) _ _ rfl (hown.out.drewN 1) y [.string y] rfl _ rfl rfl (by simpa using hsz) (by rw [hlen.out]; omega) ?_; intro v1 w1 hown1 hg1 hat1 hbel1; obtain ⟨V1, cv1, hv1, _⟩ := hown1.sl; rw [HL1.out] at hv1; subst hv1; have k2 := (hbx.out _ w1 hd.out hg1).cell 2; have kf := (hbx.out _ w1 hd.out hg1).free 2; simp only [List.getElem?_cons_succ, List.getElem?_cons_zero] at k2))
        go_wp2_with fail
        all_goals go_roundw
        all_goals first | exact ⟨j, _, by omega, by go_num, hst.out _ w1 _ hd.out hg1 hown1⟩ | (simp [intOf]; done) | (simp [intOf]; omega)
      | zero =>
        obtain ⟨V, cv, hv, _⟩ := hf.own.sl
        rw [show (a.tags.drop 0).reverse.length = a.tags.length by simp] at hv
        subst hv
        have HF := Lib.hid (show ∃ (V : Option Addr) (cv : Nat), B3 w.heap.size bn bb a (normE a) { a with tags := a.tags.reverse } T F ct cf T1 F1 c1 f1 V cv wr ∧ Below w.heap.size w wr from ⟨_, _, hf.done, hf.bel⟩)
        clear hf
        go_wp2_with fail
        go_meet
        case rel => exact HF.out
  case rest =>
    obtain ⟨V, cv, hB3, hbw⟩ := hcut
    obtain ⟨Y, hY⟩ : ∃ Y, Y = wc := ⟨_, rfl⟩
    subst hY
    have HB3 := Lib.hid hB3
    have HBW := Lib.hid hbw
    obtain ⟨g1, g2, g3, g4⟩ := normE_good HG.out hta hfa
    have HVAL := Lib.hid (fun k (hk : k < (normE a).fields.length) => valF_norm a hk)
    have HNN := Lib.hid (normE_norm a)
    have HBN := Lib.hid (normE_back a)
    have HHS := Lib.hid (show hasS s (normE a).tags = hasS s a.tags from hasS_uniq s a.tags)
    have HOK := Lib.hid (fun h : mayE a = 0 => show normE a = a from normE_of_ok ((mayE_iff a).1 h))
    have HMN := Lib.hid (fun h : mayE a = 1 => mayE_norm h)
    have HST := Lib.hid (show (normE a).stream = a.stream ∧ (normE a).type = a.type from ⟨rfl, rfl⟩)
    clear hB3 hbw H0 k2
    generalize normE a = n at HB3 g1 g2 g3 g4 HVAL HNN HBN HHS HOK HMN HST
    have y3 := HB3.out.n.c3
    go_upto_block 2 with fail
    go_cut [9] (fun _ wx => Below Y.heap.size Y wx)
    case first =>
      have hlF := HB3.out.n.fs.1
      go_wp2_with fail
      go_loopw [9] (fun i wr => ∃ k : Nat, k ≤ n.fields.length ∧ i = .int .i64 k ∧ Below Y.heap.size Y wr) (fun i _ => n.fields.length - (intOf i).toNat)
      case atStart => exact ⟨0, Nat.zero_le _, rfl, Below.refl _ _⟩
      case round =>
        clear y3
        obtain ⟨k, hk, rfl, hb⟩ := hrel
        have H := Lib.hid (HB3.out.below hb)
        have HBR := Lib.hid hb
        have n0 := H.out.n.c0
        have n1 := H.out.n.c1
        have n2 := H.out.n.c2
        have n3 := H.out.n.c3
        clear hb
        by_cases hlt : k < n.fields.length
        · obtain ⟨ad, rfl, x0, x1⟩ := row_field_at H.out.n.fs.2.2 hlt
          have HV := Lib.hid (HVAL.out k hlt)
          generalize n.fields[k] = f at x0 x1 HV
          obtain ⟨fs, fv⟩ := f
          simp only at x0 x1
          have e1 : (0 : Int) ≤ (k : Int) := Int.natCast_nonneg _
          have e2 : (k : Int) < (n.fields.length : Int) := by omega
          have HK := Lib.hid (fun W (hw : Below wr.heap.size wr W) => show Below wr.heap.size wr W ∧ W.cell? ⟨bn, 0, none⟩ = some (.string n.stream) ∧ W.cell? ⟨bn, 1, none⟩ = some (.string n.type) ∧ W.cell? ⟨bn, 2, none⟩ = some (.slice T1 n.tags.length c1) ∧ W.cell? ⟨bn, 3, none⟩ = some (.slice (some ad) n.fields.length f1) ∧ W.cell? (ad.add (k * 2)) = some (.string fs) ∧ W.cell? ⟨(ad.add (k * 2)).block, (ad.add (k * 2)).off + 1, none⟩ = some (.int .i64 fv) from
            ⟨hw, (H.out.below hw).n.c0, (H.out.below hw).n.c1, (H.out.below hw).n.c2, (H.out.below hw).n.c3, (hw.cell (World.block_lt_of_cell? wr _ x0)).trans x0, (hw.cell (World.block_lt_of_cell? wr _ x1)).trans x1⟩)
          have CV := Lib.hid (fun W (R : Prop) (hW : Below wr.heap.size wr W ∧ R) => show Calls Try.prog 11 #[.agg #[.string n.stream, .string n.type, .slice T1 n.tags.length c1, .slice (some ad) n.fields.length f1], .string fs] W fun r w' => r = .returned (.tuple #[.int .i64 fv, .bool true]) ∧ Below W.heap.size W w' from by
            have := valueE_any (T := T1) (ct := c1) (H.out.below hW.1).n.fs fs
            rw [HV.out] at this
            exact this)
          go_upto_region 13 with fail
          go_cut [10, 11] (fun v o wx => v = .int .i64 fv ∧ o = .bool true ∧ Below wr.heap.size wr wx)
          case first =>
            go_region_held3 (fun W => Below wr.heap.size wr W ∧ W.cell? ⟨bn, 0, none⟩ = some (.string n.stream) ∧ W.cell? ⟨bn, 1, none⟩ = some (.string n.type) ∧ W.cell? ⟨bn, 2, none⟩ = some (.slice T1 n.tags.length c1) ∧ W.cell? ⟨bn, 3, none⟩ = some (.slice (some ad) n.fields.length f1) ∧ W.cell? (ad.add (k * 2)) = some (.string fs) ∧ W.cell? ⟨(ad.add (k * 2)).block, (ad.add (k * 2)).off + 1, none⟩ = some (.int .i64 fv))
              (first | exact HK.out _ (below_drawn (Below.refl _ _)) | (assumption) | exact HK.out _ (bthen (And.left (by assumption : Below wr.heap.size wr _ ∧ _)) (by assumption)))
              (first | (go_at_call 11; go_fit (CV.out _ _ (by assumption)); rintro r w7 ⟨rfl, hb7⟩))
            all_goals go_wp2_with fail
            all_goals go_meet
            all_goals exact ⟨rfl, rfl, And.left (by assumption : Below wr.heap.size wr _ ∧ _)⟩
          case rest =>
            obtain ⟨rfl, rfl, hbc⟩ := hcut
            obtain ⟨_, z0, z1, z2, z3, z4, z5⟩ := HK.out _ hbc
            have HBC := Lib.hid (bthen HBR.out hbc)
            clear hbc n0 n1 n2 n3 x0 x1
            go_wp2_with fail
            go_roundw
            case rel => exact ⟨k + 1, by omega, by go_num, HBC.out⟩
            case measure => simp [intOf]; omega
        · obtain rfl : k = n.fields.length := by omega
          go_wp2_with fail
          go_meet
          case rel => exact HBR.out
    case rest =>
    obtain ⟨Z, hZ⟩ : ∃ Z, Z = wc := ⟨_, rfl⟩
    subst hZ
    have H := Lib.hid (HB3.out.below hcut)
    have HBZ := Lib.hid (bthen HBW.out hcut)
    clear hcut y3 HB3 HBW HVAL
    go_upto_region 16 with fail
    have HK := Lib.hid (fun W (hw : Below Z.heap.size Z W) => show Below Z.heap.size Z W ∧ W.cell? ⟨w.heap.size, 0, none⟩ = some (.string a.stream) ∧ W.cell? ⟨w.heap.size, 1, none⟩ = some (.string a.type) ∧ W.cell? ⟨w.heap.size, 2, none⟩ = some (.slice T a.tags.length ct) ∧ W.cell? ⟨w.heap.size, 3, none⟩ = some (.slice F a.fields.length cf) ∧ W.cell? ⟨bn, 0, none⟩ = some (.string n.stream) ∧ W.cell? ⟨bn, 1, none⟩ = some (.string n.type) ∧ W.cell? ⟨bn, 2, none⟩ = some (.slice T1 n.tags.length c1) ∧ W.cell? ⟨bn, 3, none⟩ = some (.slice F1 n.fields.length f1) ∧ W.cell? ⟨bb, 0, none⟩ = some (.string a.stream) ∧ W.cell? ⟨bb, 1, none⟩ = some (.string a.type) ∧ W.cell? ⟨bb, 2, none⟩ = some (.slice V a.tags.length cv) ∧ W.cell? ⟨bb, 3, none⟩ = some (.slice F a.fields.length cf) from
      ⟨hw, (H.out.below hw).e.c0, (H.out.below hw).e.c1, (H.out.below hw).e.c2, (H.out.below hw).e.c3, (H.out.below hw).n.c0, (H.out.below hw).n.c1, (H.out.below hw).n.c2, (H.out.below hw).n.c3, (H.out.below hw).b.c0, (H.out.below hw).b.c1, by have := (H.out.below hw).b.c2; rw [List.length_reverse] at this; exact this, (H.out.below hw).b.c3⟩)
    have CN1 := Lib.hid (fun W (hw : Below Z.heap.size Z W) => show Calls Try.prog 12 #[.agg #[.string n.stream, .string n.type, .slice T1 n.tags.length c1, .slice F1 n.fields.length f1]] W fun r w' => ∃ (T' F' : Option Addr) (ct' cf' : Nat), r = .returned (.agg #[.string n.stream, .string n.type, .slice T' n.tags.length ct', .slice F' n.fields.length cf']) ∧ SlS w' T' ct' n.tags ∧ SlF w' F' cf' n.fields ∧ Below W.heap.size W w' from by
      have := normE_sl5 (H.out.below hw).n.ts (H.out.below hw).n.fs (by omega) (by omega) g4
      rw [HNN.out] at this
      exact this)
    have CN2 := Lib.hid (fun W (hw : Below Z.heap.size Z W) => show Calls Try.prog 12 #[.agg #[.string a.stream, .string a.type, .slice V a.tags.length cv, .slice F a.fields.length cf]] W fun r w' => ∃ (T' F' : Option Addr) (ct' cf' : Nat), r = .returned (.agg #[.string a.stream, .string a.type, .slice T' n.tags.length ct', .slice F' n.fields.length cf']) ∧ SlS w' T' ct' n.tags ∧ SlF w' F' cf' n.fields ∧ Below W.heap.size W w' from by
      have := normE_sl5 (H.out.below hw).b.ts (H.out.below hw).b.fs (by simp; omega) (by simp; omega) (fun x hx => (HG.out.2.2.2 x hx).1)
      rw [HBN.out] at this
      simp only [vEvent, List.length_reverse] at this
      exact this)
    have CS1 := Lib.hid (fun W (T2 F2 : Option Addr) (c2 f2 : Nat) (hw : Below Z.heap.size Z W) (h1 : SlS W T2 c2 n.tags) (h2 : SlF W F2 f2 n.fields) => show Calls Try.prog 13 #[.agg #[.string n.stream, .string n.type, .slice T2 n.tags.length c2, .slice F2 n.fields.length f2], .agg #[.string n.stream, .string n.type, .slice T1 n.tags.length c1, .slice F1 n.fields.length f1]] W fun r w' => r = .returned (.bool true) ∧ Below W.heap.size W w' from by
      have := sameE_any (x := n) (y := n) h1 h2 (H.out.below hw).n.ts (H.out.below hw).n.fs
      rw [sameE_refl] at this
      exact this)
    have CS2 := Lib.hid (fun W (T2 F2 : Option Addr) (c2 f2 : Nat) (hw : Below Z.heap.size Z W) (h1 : SlS W T2 c2 n.tags) (h2 : SlF W F2 f2 n.fields) => show Calls Try.prog 13 #[.agg #[.string a.stream, .string a.type, .slice T2 n.tags.length c2, .slice F2 n.fields.length f2], .agg #[.string n.stream, .string n.type, .slice T1 n.tags.length c1, .slice F1 n.fields.length f1]] W fun r w' => r = .returned (.bool true) ∧ Below W.heap.size W w' from by
      have := sameE_any (x := n) (y := n) h1 h2 (H.out.below hw).n.ts (H.out.below hw).n.fs
      rw [sameE_refl] at this
      simp only [vEvent] at this
      rw [← HST.out.1, ← HST.out.2]
      exact this)
    obtain ⟨t, ht⟩ : ∃ t, hasS s a.tags = t := ⟨_, rfl⟩
    have CH1 := Lib.hid (fun W (hw : Below Z.heap.size Z W) => show Calls Try.prog 10 #[.agg #[.string n.stream, .string n.type, .slice T1 n.tags.length c1, .slice F1 n.fields.length f1], .string s] W fun r w' => r = .returned (.bool t) ∧ Below W.heap.size W w' from by
      rw [← ht, ← HHS.out]; exact Has_any (H.out.below hw).n.ts s)
    have CH2 := Lib.hid (fun W (hw : Below Z.heap.size Z W) => show Calls Try.prog 10 #[.agg #[.string a.stream, .string a.type, .slice T a.tags.length ct, .slice F a.fields.length cf], .string s] W fun r w' => r = .returned (.bool t) ∧ Below W.heap.size W w' from by
      rw [← ht]; exact Has_any (H.out.below hw).e.ts s)
    obtain ⟨m, hm⟩ : ∃ m, mayE a = m := ⟨_, rfl⟩
    have CM1 := Lib.hid (fun W (hw : Below Z.heap.size Z W) => show Calls Try.prog 9 #[.agg #[.string a.stream, .string a.type, .slice T a.tags.length ct, .slice F a.fields.length cf]] W fun r w' => r = .returned (.int .i64 m) ∧ Below W.heap.size W w' from by
      rw [← hm]; exact mayE_any (H.out.below hw).e.ts (H.out.below hw).e.fs (by omega) HG.out.2.2.1)
    obtain ⟨mn, hmn⟩ : ∃ mn, mayE n = mn := ⟨_, rfl⟩
    have CM2 := Lib.hid (fun W (hw : Below Z.heap.size Z W) => show Calls Try.prog 9 #[.agg #[.string n.stream, .string n.type, .slice T1 n.tags.length c1, .slice F1 n.fields.length f1]] W fun r w' => r = .returned (.int .i64 mn) ∧ Below W.heap.size W w' from by
      rw [← hmn]; exact mayE_any (H.out.below hw).n.ts (H.out.below hw).n.fs (by omega) g3)
    have CSE := Lib.hid (fun W (hw : Below Z.heap.size Z W) => show Calls Try.prog 13 #[.agg #[.string n.stream, .string n.type, .slice T1 n.tags.length c1, .slice F1 n.fields.length f1], .agg #[.string a.stream, .string a.type, .slice T a.tags.length ct, .slice F a.fields.length cf]] W fun r w' => r = .returned (.bool (sameE n a)) ∧ Below W.heap.size W w' from
      sameE_any (x := n) (y := a) (H.out.below hw).n.ts (H.out.below hw).n.fs (H.out.below hw).e.ts (H.out.below hw).e.fs)
    have hcase : m = 0 ∨ (m = 1 ∧ mn = 0) ∨ (m = 1 ∧ mn = 1) ∨ (m ≠ 0 ∧ m ≠ 1) := by
      by_cases h0 : m = 0
      · exact .inl h0
      · by_cases h1 : m = 1
        · rcases HMN.out (by rw [hm]; exact h1) with h | h
          · exact .inr (.inl ⟨h1, by rw [← hmn]; exact h⟩)
          · exact .inr (.inr (.inl ⟨h1, by rw [← hmn]; exact h⟩))
        · exact .inr (.inr (.inr ⟨h0, h1⟩))
    have HMA := Lib.hid hm
    clear hm hmn ht
    rcases hcase with h0 | ⟨h0, h1⟩ | ⟨h0, h1⟩ | ⟨h0, h1⟩
    · subst h0
      have hsame : sameE n a = true := by rw [HOK.out HMA.out]; exact sameE_refl a
      rw [hsame] at CSE
      clear hsame
      refine wp_region_held_drew (S := (fun W => Below Z.heap.size Z W ∧ W.cell? ⟨w.heap.size, 0, none⟩ = some (.string a.stream) ∧ W.cell? ⟨w.heap.size, 1, none⟩ = some (.string a.type) ∧ W.cell? ⟨w.heap.size, 2, none⟩ = some (.slice T a.tags.length ct) ∧ W.cell? ⟨w.heap.size, 3, none⟩ = some (.slice F a.fields.length cf) ∧ W.cell? ⟨bn, 0, none⟩ = some (.string n.stream) ∧ W.cell? ⟨bn, 1, none⟩ = some (.string n.type) ∧ W.cell? ⟨bn, 2, none⟩ = some (.slice T1 n.tags.length c1) ∧ W.cell? ⟨bn, 3, none⟩ = some (.slice F1 n.fields.length f1) ∧ W.cell? ⟨bb, 0, none⟩ = some (.string a.stream) ∧ W.cell? ⟨bb, 1, none⟩ = some (.string a.type) ∧ W.cell? ⟨bb, 2, none⟩ = some (.slice V a.tags.length cv) ∧ W.cell? ⟨bb, 3, none⟩ = some (.slice F a.fields.length cf))) (by kernel_rfl) (HK.out _ (below_drawn (Below.refl _ _))) (fun hHeld => ?_)
      have HB0 := Lib.hid (show Below Z.heap.size Z Z.drew from below_drawn (Below.refl _ _))
      -- WALK a
      refine wpAnyH_take (i := 0) (oi := { dst := some 68, op := Op.move (Operand.tmp 5), type := 4, pos := "law.go:61", after := #[], guard := none }) (v := ?_) rfl (by kernel_rfl) (by kernel_rfl) (by kernel_rfl) (fun _ _ _ h => h) (Or.inl ⟨by rfl, ?_⟩) (by assumption) ?_
      rotate_left
      · (intro W hSw; (try dsimp only at hSw); go_simp) <;> with_reducible rfl
      try simp only [Act.put, List.setIfInBounds_toArray, List.set_cons_zero, List.set_cons_succ]
      refine wpAnyH_take (i := 1) (oi := { dst := some 69, op := Op.move (Operand.tmp 68), type := 4, pos := "law.go:61", after := #[{ on := 0, ground := Ground.data }], guard := none }) (v := ?_) rfl (by kernel_rfl) (by kernel_rfl) (by kernel_rfl) (fun _ _ _ h => h) (Or.inl ⟨by rfl, ?_⟩) (by assumption) ?_
      rotate_left
      · (intro W hSw; (try dsimp only at hSw); go_simp) <;> with_reducible rfl
      try simp only [Act.put, List.setIfInBounds_toArray, List.set_cons_zero, List.set_cons_succ]
      refine wpAnyH_take (i := 2) (oi := { dst := some 70, op := Op.load 25 (Operand.tmp 6), type := 25, pos := "law.go:61", after := #[{ on := 1, ground := Ground.guard }], guard := some (1, true) }) (v := ?_) rfl (by kernel_rfl) (by kernel_rfl) (by kernel_rfl) (fun _ _ _ h => h) (Or.inl ⟨by rfl, ?_⟩) (by assumption) ?_
      rotate_left
      · (intro W hSw; (try dsimp only at hSw); go_simp) <;> with_reducible rfl
      try simp only [Act.put, List.setIfInBounds_toArray, List.set_cons_zero, List.set_cons_succ]
      refine wpAnyH_take (i := 4) (oi := { dst := some 72, op := Op.load 25 (Operand.tmp 6), type := 25, pos := "law.go:61", after := #[{ on := 1, ground := Ground.guard }], guard := some (1, true) }) (v := ?_) rfl (by kernel_rfl) (by kernel_rfl) (by kernel_rfl) (fun _ _ _ h => h) (Or.inl ⟨by rfl, ?_⟩) (by assumption) ?_
      rotate_left
      · (intro W hSw; (try dsimp only at hSw); go_simp) <;> with_reducible rfl
      try simp only [Act.put, List.setIfInBounds_toArray, List.set_cons_zero, List.set_cons_succ]
      refine wpAnyH_ready (rs := [3]) (by kernel_rfl) (by simp) ?_
      refine AllReadyH.cons (o := { dst := some 71, op := Op.call { callee := Callee.value (Operand.func 12), args := #[Operand.tmp 70], argTypes := #[25] }, type := 25, pos := "law.go:61", after := #[{ on := 2, ground := Ground.data }, { on := 1, ground := Ground.chain }, { on := 1, ground := Ground.guard }], guard := some (1, true) }) rfl (fun K hK => ?_) AllReadyH.nil
      go_simp
      go_at_call 12
      go_fit (CN1.out _ HB0.out)
      rintro r w1' ⟨T2, F2, c2, f2, rfl, ht2, hf2, hb2⟩
      have HT2 := Lib.hid ht2
      have HF2 := Lib.hid hf2
      have HB1 := Lib.hid (bthen HB0.out hb2)
      clear ht2 hf2 hb2
      go_wp2_with fail
      refine hK.out _ _ (HK.out _ HB1.out) (fun hHeld3 => ?_)
      clear hK K
      try simp only [Act.put, List.setIfInBounds_toArray, List.set_cons_zero, List.set_cons_succ]
      refine wpAnyH_ready (rs := [5]) (by kernel_rfl) (by simp) ?_
      refine AllReadyH.cons (o := { dst := some 73, op := Op.call { callee := Callee.value (Operand.func 13), args := #[Operand.tmp 71, Operand.tmp 72], argTypes := #[25, 25] }, type := 4, pos := "law.go:61", after := #[{ on := 3, ground := Ground.data }, { on := 4, ground := Ground.data }, { on := 3, ground := Ground.chain }, { on := 1, ground := Ground.guard }], guard := some (1, true) }) rfl (fun K hK => ?_) AllReadyH.nil
      go_simp
      go_at_call 13
      go_fit (CS1.out _ _ _ _ _ HB1.out HT2.out HF2.out)
      rintro r w2' ⟨rfl, hb2⟩
      have HB2 := Lib.hid (bthen HB1.out hb2)
      clear hb2
      go_wp2_with fail
      refine hK.out _ _ (HK.out _ HB2.out) (fun hHeld5 => ?_)
      clear hK K
      try simp only [Act.put, List.setIfInBounds_toArray, List.set_cons_zero, List.set_cons_succ]
      refine wpAnyH_take (i := 6) (oi := { dst := some 74, op := Op.pick (Operand.tmp 69) (Operand.tmp 73) (Operand.const (Value.bool false)), type := 4, pos := "law.go:61", after := #[{ on := 1, ground := Ground.data }, { on := 5, ground := Ground.data }], guard := none }) (v := ?_) rfl (by kernel_rfl) (by kernel_rfl) (by kernel_rfl) (fun _ _ _ h => h) (Or.inl ⟨by rfl, ?_⟩) (by assumption) ?_
      rotate_left
      · (intro W hSw; (try dsimp only at hSw); go_simp) <;> with_reducible rfl
      try simp only [Act.put, List.setIfInBounds_toArray, List.set_cons_zero, List.set_cons_succ]
      refine wpAnyH_take (i := 7) (oi := { dst := some 75, op := Op.move (Operand.tmp 74), type := 4, pos := "law.go:61", after := #[{ on := 6, ground := Ground.data }, { on := 5, ground := Ground.chain }], guard := none }) (v := ?_) rfl (by kernel_rfl) (by kernel_rfl) (by kernel_rfl) (fun _ _ _ h => h) (Or.inl ⟨by rfl, ?_⟩) (by assumption) ?_
      rotate_left
      · (intro W hSw; (try dsimp only at hSw); go_simp) <;> with_reducible rfl
      try simp only [Act.put, List.setIfInBounds_toArray, List.set_cons_zero, List.set_cons_succ]
      refine wpAnyH_take (i := 8) (oi := { dst := some 76, op := Op.load 25 (Operand.tmp 7), type := 25, pos := "law.go:61", after := #[{ on := 7, ground := Ground.guard }], guard := some (7, true) }) (v := ?_) rfl (by kernel_rfl) (by kernel_rfl) (by kernel_rfl) (fun _ _ _ h => h) (Or.inl ⟨by rfl, ?_⟩) (by assumption) ?_
      rotate_left
      · (intro W hSw; (try dsimp only at hSw); go_simp) <;> with_reducible rfl
      try simp only [Act.put, List.setIfInBounds_toArray, List.set_cons_zero, List.set_cons_succ]
      refine wpAnyH_take (i := 10) (oi := { dst := some 78, op := Op.load 25 (Operand.tmp 6), type := 25, pos := "law.go:61", after := #[{ on := 7, ground := Ground.guard }], guard := some (7, true) }) (v := ?_) rfl (by kernel_rfl) (by kernel_rfl) (by kernel_rfl) (fun _ _ _ h => h) (Or.inl ⟨by rfl, ?_⟩) (by assumption) ?_
      rotate_left
      · (intro W hSw; (try dsimp only at hSw); go_simp) <;> with_reducible rfl
      try simp only [Act.put, List.setIfInBounds_toArray, List.set_cons_zero, List.set_cons_succ]
      refine wpAnyH_ready (rs := [9]) (by kernel_rfl) (by simp) ?_
      refine AllReadyH.cons (o := { dst := some 77, op := Op.call { callee := Callee.value (Operand.func 12), args := #[Operand.tmp 76], argTypes := #[25] }, type := 25, pos := "law.go:61", after := #[{ on := 8, ground := Ground.data }, { on := 7, ground := Ground.chain }, { on := 7, ground := Ground.guard }], guard := some (7, true) }) rfl (fun K hK => ?_) AllReadyH.nil
      go_simp
      go_at_call 12
      go_fit (CN2.out _ HB2.out)
      rintro r w3' ⟨T3, F3, c3, f3, rfl, ht3, hf3, hb2⟩
      have HT3 := Lib.hid ht3
      have HF3 := Lib.hid hf3
      have HB3 := Lib.hid (bthen HB2.out hb2)
      clear ht3 hf3 hb2
      go_wp2_with fail
      refine hK.out _ _ (HK.out _ HB3.out) (fun hHeld9 => ?_)
      clear hK K
      try simp only [Act.put, List.setIfInBounds_toArray, List.set_cons_zero, List.set_cons_succ]
      refine wpAnyH_ready (rs := [11]) (by kernel_rfl) (by simp) ?_
      refine AllReadyH.cons (o := { dst := some 79, op := Op.call { callee := Callee.value (Operand.func 13), args := #[Operand.tmp 77, Operand.tmp 78], argTypes := #[25, 25] }, type := 4, pos := "law.go:61", after := #[{ on := 9, ground := Ground.data }, { on := 10, ground := Ground.data }, { on := 9, ground := Ground.chain }, { on := 7, ground := Ground.guard }], guard := some (7, true) }) rfl (fun K hK => ?_) AllReadyH.nil
      go_simp
      go_at_call 13
      go_fit (CS2.out _ _ _ _ _ HB3.out HT3.out HF3.out)
      rintro r w4' ⟨rfl, hb2⟩
      have HB4 := Lib.hid (bthen HB3.out hb2)
      clear hb2
      go_wp2_with fail
      refine hK.out _ _ (HK.out _ HB4.out) (fun hHeld11 => ?_)
      clear hK K
      try simp only [Act.put, List.setIfInBounds_toArray, List.set_cons_zero, List.set_cons_succ]
      refine wpAnyH_take (i := 12) (oi := { dst := some 80, op := Op.pick (Operand.tmp 75) (Operand.tmp 79) (Operand.const (Value.bool false)), type := 4, pos := "law.go:61", after := #[{ on := 7, ground := Ground.data }, { on := 11, ground := Ground.data }], guard := none }) (v := ?_) rfl (by kernel_rfl) (by kernel_rfl) (by kernel_rfl) (fun _ _ _ h => h) (Or.inl ⟨by rfl, ?_⟩) (by assumption) ?_
      rotate_left
      · (intro W hSw; (try dsimp only at hSw); go_simp) <;> with_reducible rfl
      try simp only [Act.put, List.setIfInBounds_toArray, List.set_cons_zero, List.set_cons_succ]
      refine wpAnyH_take (i := 13) (oi := { dst := some 81, op := Op.move (Operand.tmp 80), type := 4, pos := "law.go:61", after := #[{ on := 12, ground := Ground.data }, { on := 11, ground := Ground.chain }], guard := none }) (v := ?_) rfl (by kernel_rfl) (by kernel_rfl) (by kernel_rfl) (fun _ _ _ h => h) (Or.inl ⟨by rfl, ?_⟩) (by assumption) ?_
      rotate_left
      · (intro W hSw; (try dsimp only at hSw); go_simp) <;> with_reducible rfl
      try simp only [Act.put, List.setIfInBounds_toArray, List.set_cons_zero, List.set_cons_succ]
      refine wpAnyH_take (i := 14) (oi := { dst := some 82, op := Op.load 25 (Operand.tmp 6), type := 25, pos := "law.go:61", after := #[{ on := 13, ground := Ground.guard }], guard := some (13, true) }) (v := ?_) rfl (by kernel_rfl) (by kernel_rfl) (by kernel_rfl) (fun _ _ _ h => h) (Or.inl ⟨by rfl, ?_⟩) (by assumption) ?_
      rotate_left
      · (intro W hSw; (try dsimp only at hSw); go_simp) <;> with_reducible rfl
      try simp only [Act.put, List.setIfInBounds_toArray, List.set_cons_zero, List.set_cons_succ]
      refine wpAnyH_take (i := 15) (oi := { dst := some 83, op := Op.move (Operand.tmp 1), type := 9, pos := "law.go:61", after := #[{ on := 13, ground := Ground.guard }], guard := some (13, true) }) (v := ?_) rfl (by kernel_rfl) (by kernel_rfl) (by kernel_rfl) (fun _ _ _ h => h) (Or.inl ⟨by rfl, ?_⟩) (by assumption) ?_
      rotate_left
      · (intro W hSw; (try dsimp only at hSw); go_simp) <;> with_reducible rfl
      try simp only [Act.put, List.setIfInBounds_toArray, List.set_cons_zero, List.set_cons_succ]
      refine wpAnyH_take (i := 17) (oi := { dst := some 85, op := Op.load 25 (Operand.tmp 2), type := 25, pos := "law.go:61", after := #[{ on := 13, ground := Ground.guard }], guard := some (13, true) }) (v := ?_) rfl (by kernel_rfl) (by kernel_rfl) (by kernel_rfl) (fun _ _ _ h => h) (Or.inl ⟨by rfl, ?_⟩) (by assumption) ?_
      rotate_left
      · (intro W hSw; (try dsimp only at hSw); go_simp) <;> with_reducible rfl
      try simp only [Act.put, List.setIfInBounds_toArray, List.set_cons_zero, List.set_cons_succ]
      refine wpAnyH_take (i := 18) (oi := { dst := some 86, op := Op.move (Operand.tmp 1), type := 9, pos := "law.go:61", after := #[{ on := 13, ground := Ground.guard }], guard := some (13, true) }) (v := ?_) rfl (by kernel_rfl) (by kernel_rfl) (by kernel_rfl) (fun _ _ _ h => h) (Or.inl ⟨by rfl, ?_⟩) (by assumption) ?_
      rotate_left
      · (intro W hSw; (try dsimp only at hSw); go_simp) <;> with_reducible rfl
      try simp only [Act.put, List.setIfInBounds_toArray, List.set_cons_zero, List.set_cons_succ]
      refine wpAnyH_ready (rs := [16]) (by kernel_rfl) (by simp) ?_
      refine AllReadyH.cons (o := { dst := some 84, op := Op.call { callee := Callee.value (Operand.func 10), args := #[Operand.tmp 82, Operand.tmp 83], argTypes := #[25, 9] }, type := 4, pos := "law.go:61", after := #[{ on := 14, ground := Ground.data }, { on := 15, ground := Ground.data }, { on := 13, ground := Ground.chain }, { on := 13, ground := Ground.guard }], guard := some (13, true) }) rfl (fun K hK => ?_) AllReadyH.nil
      go_simp
      go_at_call 10
      go_fit (CH1.out _ HB4.out)
      rintro r w5' ⟨rfl, hb2⟩
      have HB5 := Lib.hid (bthen HB4.out hb2)
      clear hb2
      go_wp2_with fail
      refine hK.out _ _ (HK.out _ HB5.out) (fun hHeld16 => ?_)
      clear hK K
      try simp only [Act.put, List.setIfInBounds_toArray, List.set_cons_zero, List.set_cons_succ]
      refine wpAnyH_ready (rs := [19]) (by kernel_rfl) (by simp) ?_
      refine AllReadyH.cons (o := { dst := some 87, op := Op.call { callee := Callee.value (Operand.func 10), args := #[Operand.tmp 85, Operand.tmp 86], argTypes := #[25, 9] }, type := 4, pos := "law.go:61", after := #[{ on := 17, ground := Ground.data }, { on := 18, ground := Ground.data }, { on := 16, ground := Ground.chain }, { on := 13, ground := Ground.guard }], guard := some (13, true) }) rfl (fun K hK => ?_) AllReadyH.nil
      go_simp
      go_at_call 10
      go_fit (CH2.out _ HB5.out)
      rintro r w6' ⟨rfl, hb2⟩
      have HB6 := Lib.hid (bthen HB5.out hb2)
      clear hb2
      go_wp2_with fail
      refine hK.out _ _ (HK.out _ HB6.out) (fun hHeld19 => ?_)
      clear hK K
      try simp only [Act.put, List.setIfInBounds_toArray, List.set_cons_zero, List.set_cons_succ]
      refine wpAnyH_take (i := 20) (oi := { dst := some 88, op := Op.binOp BinOp.eql 4 (Operand.tmp 84) (Operand.tmp 87) 4, type := 4, pos := "law.go:61", after := #[{ on := 16, ground := Ground.data }, { on := 19, ground := Ground.data }, { on := 13, ground := Ground.guard }], guard := some (13, true) }) (v := ?_) rfl (by kernel_rfl) (by kernel_rfl) (by kernel_rfl) (fun _ _ _ h => h) (Or.inl ⟨by rfl, ?_⟩) (by assumption) ?_
      rotate_left
      · (intro W hSw; (try dsimp only at hSw); go_simp) <;> with_reducible rfl
      try simp only [Act.put, List.setIfInBounds_toArray, List.set_cons_zero, List.set_cons_succ]
      refine wpAnyH_take (i := 21) (oi := { dst := some 89, op := Op.pick (Operand.tmp 81) (Operand.tmp 88) (Operand.const (Value.bool false)), type := 4, pos := "law.go:61", after := #[{ on := 13, ground := Ground.data }, { on := 20, ground := Ground.data }], guard := none }) (v := ?_) rfl (by kernel_rfl) (by kernel_rfl) (by kernel_rfl) (fun _ _ _ h => h) (Or.inl ⟨by rfl, ?_⟩) (by assumption) ?_
      rotate_left
      · (intro W hSw; (try dsimp only at hSw); go_simp) <;> with_reducible rfl
      try simp only [Act.put, List.setIfInBounds_toArray, List.set_cons_zero, List.set_cons_succ]
      refine wpAnyH_take (i := 22) (oi := { dst := some 90, op := Op.move (Operand.tmp 89), type := 4, pos := "law.go:61", after := #[{ on := 21, ground := Ground.data }, { on := 19, ground := Ground.chain }], guard := none }) (v := ?_) rfl (by kernel_rfl) (by kernel_rfl) (by kernel_rfl) (fun _ _ _ h => h) (Or.inl ⟨by rfl, ?_⟩) (by assumption) ?_
      rotate_left
      · (intro W hSw; (try dsimp only at hSw); go_simp) <;> with_reducible rfl
      try simp only [Act.put, List.setIfInBounds_toArray, List.set_cons_zero, List.set_cons_succ]
      refine wpAnyH_take (i := 23) (oi := { dst := some 91, op := Op.load 25 (Operand.tmp 2), type := 25, pos := "law.go:61", after := #[{ on := 22, ground := Ground.guard }], guard := some (22, true) }) (v := ?_) rfl (by kernel_rfl) (by kernel_rfl) (by kernel_rfl) (fun _ _ _ h => h) (Or.inl ⟨by rfl, ?_⟩) (by assumption) ?_
      rotate_left
      · (intro W hSw; (try dsimp only at hSw); go_simp) <;> with_reducible rfl
      try simp only [Act.put, List.setIfInBounds_toArray, List.set_cons_zero, List.set_cons_succ]
      refine wpAnyH_ready (rs := [24]) (by kernel_rfl) (by simp) ?_
      refine AllReadyH.cons (o := { dst := some 92, op := Op.call { callee := Callee.value (Operand.func 9), args := #[Operand.tmp 91], argTypes := #[25] }, type := 28, pos := "law.go:61", after := #[{ on := 23, ground := Ground.data }, { on := 22, ground := Ground.chain }, { on := 22, ground := Ground.guard }], guard := some (22, true) }) rfl (fun K hK => ?_) AllReadyH.nil
      go_simp
      go_at_call 9
      go_fit (CM1.out _ HB6.out)
      rintro r w7' ⟨rfl, hb2⟩
      have HB7 := Lib.hid (bthen HB6.out hb2)
      clear hb2
      go_wp2_with fail
      refine hK.out _ _ (HK.out _ HB7.out) (fun hHeld24 => ?_)
      clear hK K
      try simp only [Act.put, List.setIfInBounds_toArray, List.set_cons_zero, List.set_cons_succ]
      refine wpAnyH_take (i := 25) (oi := { dst := some 93, op := Op.binOp BinOp.neq 28 (Operand.tmp 92) (Operand.const (Value.int IntKind.i64 0)) 28, type := 4, pos := "law.go:61", after := #[{ on := 24, ground := Ground.data }, { on := 22, ground := Ground.guard }], guard := some (22, true) }) (v := ?_) rfl (by kernel_rfl) (by kernel_rfl) (by kernel_rfl) (fun _ _ _ h => h) (Or.inl ⟨by rfl, ?_⟩) (by assumption) ?_
      rotate_left
      · (intro W hSw; (try dsimp only at hSw); go_simp) <;> with_reducible rfl
      try simp only [Act.put, List.setIfInBounds_toArray, List.set_cons_zero, List.set_cons_succ]
      refine wpAnyH_take (i := 26) (oi := { dst := some 94, op := Op.move (Operand.tmp 93), type := 4, pos := "law.go:61", after := #[{ on := 25, ground := Ground.data }, { on := 24, ground := Ground.chain }, { on := 22, ground := Ground.guard }], guard := some (22, true) }) (v := ?_) rfl (by kernel_rfl) (by kernel_rfl) (by kernel_rfl) (fun _ _ _ h => h) (Or.inl ⟨by rfl, ?_⟩) (by assumption) ?_
      rotate_left
      · (intro W hSw; (try dsimp only at hSw); go_simp) <;> with_reducible rfl
      try simp only [Act.put, List.setIfInBounds_toArray, List.set_cons_zero, List.set_cons_succ]
      refine wpAnyH_take (i := 27) (oi := { dst := some 95, op := Op.load 25 (Operand.tmp 6), type := 25, pos := "law.go:61", after := #[{ on := 26, ground := Ground.guard }], guard := some (26, false) }) (v := ?_) rfl (by kernel_rfl) (by kernel_rfl) (by kernel_rfl) (fun _ _ _ h => h) (Or.inl ⟨by rfl, ?_⟩) (by assumption) ?_
      rotate_left
      · (intro W hSw; (try dsimp only at hSw); go_simp) <;> with_reducible rfl
      try simp only [Act.put, List.setIfInBounds_toArray, List.set_cons_zero, List.set_cons_succ]
      refine wpAnyH_take (i := 28) (oi := { dst := some 96, op := Op.load 25 (Operand.tmp 2), type := 25, pos := "law.go:61", after := #[{ on := 26, ground := Ground.guard }], guard := some (26, false) }) (v := ?_) rfl (by kernel_rfl) (by kernel_rfl) (by kernel_rfl) (fun _ _ _ h => h) (Or.inl ⟨by rfl, ?_⟩) (by assumption) ?_
      rotate_left
      · (intro W hSw; (try dsimp only at hSw); go_simp) <;> with_reducible rfl
      try simp only [Act.put, List.setIfInBounds_toArray, List.set_cons_zero, List.set_cons_succ]
      refine wpAnyH_ready (rs := [29]) (by kernel_rfl) (by simp) ?_
      refine AllReadyH.cons (o := { dst := some 97, op := Op.call { callee := Callee.value (Operand.func 13), args := #[Operand.tmp 95, Operand.tmp 96], argTypes := #[25, 25] }, type := 4, pos := "law.go:61", after := #[{ on := 27, ground := Ground.data }, { on := 28, ground := Ground.data }, { on := 26, ground := Ground.chain }, { on := 26, ground := Ground.guard }], guard := some (26, false) }) rfl (fun K hK => ?_) AllReadyH.nil
      go_simp
      go_at_call 13
      go_fit (CSE.out _ HB7.out)
      rintro r w8' ⟨rfl, hb2⟩
      have HB8 := Lib.hid (bthen HB7.out hb2)
      clear hb2
      go_wp2_with fail
      refine hK.out _ _ (HK.out _ HB8.out) (fun hHeld29 => ?_)
      clear hK K
      try simp only [Act.put, List.setIfInBounds_toArray, List.set_cons_zero, List.set_cons_succ]
      refine wpAnyH_take (i := 30) (oi := { dst := some 98, op := Op.pick (Operand.tmp 94) (Operand.const (Value.bool true)) (Operand.tmp 97), type := 4, pos := "law.go:61", after := #[{ on := 26, ground := Ground.data }, { on := 29, ground := Ground.data }, { on := 22, ground := Ground.guard }], guard := some (22, true) }) (v := ?_) rfl (by kernel_rfl) (by kernel_rfl) (by kernel_rfl) (fun _ _ _ h => h) (Or.inl ⟨by rfl, ?_⟩) (by assumption) ?_
      rotate_left
      · (intro W hSw; (try dsimp only at hSw); go_simp) <;> with_reducible rfl
      try simp only [Act.put, List.setIfInBounds_toArray, List.set_cons_zero, List.set_cons_succ]
      refine wpAnyH_take (i := 31) (oi := { dst := some 99, op := Op.pick (Operand.tmp 90) (Operand.tmp 98) (Operand.const (Value.bool false)), type := 4, pos := "law.go:61", after := #[{ on := 22, ground := Ground.data }, { on := 30, ground := Ground.data }], guard := none }) (v := ?_) rfl (by kernel_rfl) (by kernel_rfl) (by kernel_rfl) (fun _ _ _ h => h) (Or.inl ⟨by rfl, ?_⟩) (by assumption) ?_
      rotate_left
      · (intro W hSw; (try dsimp only at hSw); go_simp) <;> with_reducible rfl
      try simp only [Act.put, List.setIfInBounds_toArray, List.set_cons_zero, List.set_cons_succ]
      refine wpAnyH_take (i := 32) (oi := { dst := some 100, op := Op.move (Operand.tmp 99), type := 4, pos := "law.go:61", after := #[{ on := 31, ground := Ground.data }, { on := 29, ground := Ground.chain }], guard := none }) (v := ?_) rfl (by kernel_rfl) (by kernel_rfl) (by kernel_rfl) (fun _ _ _ h => h) (Or.inl ⟨by rfl, ?_⟩) (by assumption) ?_
      rotate_left
      · (intro W hSw; (try dsimp only at hSw); go_simp) <;> with_reducible rfl
      try simp only [Act.put, List.setIfInBounds_toArray, List.set_cons_zero, List.set_cons_succ]
      refine wpAnyH_take (i := 33) (oi := { dst := some 101, op := Op.load 25 (Operand.tmp 2), type := 25, pos := "law.go:61", after := #[{ on := 32, ground := Ground.guard }], guard := some (32, true) }) (v := ?_) rfl (by kernel_rfl) (by kernel_rfl) (by kernel_rfl) (fun _ _ _ h => h) (Or.inl ⟨by rfl, ?_⟩) (by assumption) ?_
      rotate_left
      · (intro W hSw; (try dsimp only at hSw); go_simp) <;> with_reducible rfl
      try simp only [Act.put, List.setIfInBounds_toArray, List.set_cons_zero, List.set_cons_succ]
      refine wpAnyH_ready (rs := [34]) (by kernel_rfl) (by simp) ?_
      refine AllReadyH.cons (o := { dst := some 102, op := Op.call { callee := Callee.value (Operand.func 9), args := #[Operand.tmp 101], argTypes := #[25] }, type := 28, pos := "law.go:61", after := #[{ on := 33, ground := Ground.data }, { on := 32, ground := Ground.chain }, { on := 32, ground := Ground.guard }], guard := some (32, true) }) rfl (fun K hK => ?_) AllReadyH.nil
      go_simp
      go_at_call 9
      go_fit (CM1.out _ HB8.out)
      rintro r w9' ⟨rfl, hb2⟩
      have HB9 := Lib.hid (bthen HB8.out hb2)
      clear hb2
      go_wp2_with fail
      refine hK.out _ _ (HK.out _ HB9.out) (fun hHeld34 => ?_)
      clear hK K
      try simp only [Act.put, List.setIfInBounds_toArray, List.set_cons_zero, List.set_cons_succ]
      refine wpAnyH_take (i := 35) (oi := { dst := some 103, op := Op.binOp BinOp.neq 28 (Operand.tmp 102) (Operand.const (Value.int IntKind.i64 1)) 28, type := 4, pos := "law.go:61", after := #[{ on := 34, ground := Ground.data }, { on := 32, ground := Ground.guard }], guard := some (32, true) }) (v := ?_) rfl (by kernel_rfl) (by kernel_rfl) (by kernel_rfl) (fun _ _ _ h => h) (Or.inl ⟨by rfl, ?_⟩) (by assumption) ?_
      rotate_left
      · (intro W hSw; (try dsimp only at hSw); go_simp) <;> with_reducible rfl
      try simp only [Act.put, List.setIfInBounds_toArray, List.set_cons_zero, List.set_cons_succ]
      refine wpAnyH_take (i := 36) (oi := { dst := some 104, op := Op.move (Operand.tmp 103), type := 4, pos := "law.go:61", after := #[{ on := 35, ground := Ground.data }, { on := 34, ground := Ground.chain }, { on := 32, ground := Ground.guard }], guard := some (32, true) }) (v := ?_) rfl (by kernel_rfl) (by kernel_rfl) (by kernel_rfl) (fun _ _ _ h => h) (Or.inl ⟨by rfl, ?_⟩) (by assumption) ?_
      rotate_left
      · (intro W hSw; (try dsimp only at hSw); go_simp) <;> with_reducible rfl
      try simp only [Act.put, List.setIfInBounds_toArray, List.set_cons_zero, List.set_cons_succ]
      refine wpAnyH_take (i := 37) (oi := { dst := some 105, op := Op.load 25 (Operand.tmp 6), type := 25, pos := "law.go:61", after := #[{ on := 36, ground := Ground.guard }], guard := some (36, false) }) (v := undef) rfl (by kernel_rfl) (by kernel_rfl) (by kernel_rfl) (fun _ _ _ h => h) (Or.inr ⟨by rfl, rfl⟩) (by assumption) ?_
      try simp only [Act.put, List.setIfInBounds_toArray, List.set_cons_zero, List.set_cons_succ]
      refine wpAnyH_take (i := 38) (oi := { dst := some 106, op := Op.call { callee := Callee.value (Operand.func 9), args := #[Operand.tmp 105], argTypes := #[25] }, type := 28, pos := "law.go:61", after := #[{ on := 37, ground := Ground.data }, { on := 36, ground := Ground.chain }, { on := 36, ground := Ground.guard }], guard := some (36, false) }) (v := undef) rfl (by kernel_rfl) (by kernel_rfl) (by kernel_rfl) (fun _ _ _ h => h) (Or.inr ⟨by rfl, rfl⟩) (by assumption) ?_
      try simp only [Act.put, List.setIfInBounds_toArray, List.set_cons_zero, List.set_cons_succ]
      refine wpAnyH_take (i := 39) (oi := { dst := some 107, op := Op.binOp BinOp.eql 28 (Operand.tmp 106) (Operand.const (Value.int IntKind.i64 0)) 28, type := 4, pos := "law.go:61", after := #[{ on := 38, ground := Ground.data }, { on := 36, ground := Ground.guard }], guard := some (36, false) }) (v := undef) rfl (by kernel_rfl) (by kernel_rfl) (by kernel_rfl) (fun _ _ _ h => h) (Or.inr ⟨by rfl, rfl⟩) (by assumption) ?_
      try simp only [Act.put, List.setIfInBounds_toArray, List.set_cons_zero, List.set_cons_succ]
      refine wpAnyH_take (i := 40) (oi := { dst := some 108, op := Op.pick (Operand.tmp 104) (Operand.const (Value.bool true)) (Operand.tmp 107), type := 4, pos := "law.go:61", after := #[{ on := 36, ground := Ground.data }, { on := 39, ground := Ground.data }, { on := 32, ground := Ground.guard }], guard := some (32, true) }) (v := ?_) rfl (by kernel_rfl) (by kernel_rfl) (by kernel_rfl) (fun _ _ _ h => h) (Or.inl ⟨by rfl, ?_⟩) (by assumption) ?_
      rotate_left
      · (intro W hSw; (try dsimp only at hSw); go_simp) <;> with_reducible rfl
      try simp only [Act.put, List.setIfInBounds_toArray, List.set_cons_zero, List.set_cons_succ]
      refine wpAnyH_take (i := 41) (oi := { dst := some 109, op := Op.move (Operand.tmp 108), type := 4, pos := "law.go:61", after := #[{ on := 40, ground := Ground.data }, { on := 38, ground := Ground.chain }, { on := 32, ground := Ground.guard }], guard := some (32, true) }) (v := ?_) rfl (by kernel_rfl) (by kernel_rfl) (by kernel_rfl) (fun _ _ _ h => h) (Or.inl ⟨by rfl, ?_⟩) (by assumption) ?_
      rotate_left
      · (intro W hSw; (try dsimp only at hSw); go_simp) <;> with_reducible rfl
      try simp only [Act.put, List.setIfInBounds_toArray, List.set_cons_zero, List.set_cons_succ]
      refine wpAnyH_take (i := 42) (oi := { dst := some 110, op := Op.load 25 (Operand.tmp 6), type := 25, pos := "law.go:61", after := #[{ on := 41, ground := Ground.guard }], guard := some (41, false) }) (v := undef) rfl (by kernel_rfl) (by kernel_rfl) (by kernel_rfl) (fun _ _ _ h => h) (Or.inr ⟨by rfl, rfl⟩) (by assumption) ?_
      try simp only [Act.put, List.setIfInBounds_toArray, List.set_cons_zero, List.set_cons_succ]
      refine wpAnyH_take (i := 43) (oi := { dst := some 111, op := Op.call { callee := Callee.value (Operand.func 9), args := #[Operand.tmp 110], argTypes := #[25] }, type := 28, pos := "law.go:61", after := #[{ on := 42, ground := Ground.data }, { on := 41, ground := Ground.chain }, { on := 41, ground := Ground.guard }], guard := some (41, false) }) (v := undef) rfl (by kernel_rfl) (by kernel_rfl) (by kernel_rfl) (fun _ _ _ h => h) (Or.inr ⟨by rfl, rfl⟩) (by assumption) ?_
      try simp only [Act.put, List.setIfInBounds_toArray, List.set_cons_zero, List.set_cons_succ]
      refine wpAnyH_take (i := 44) (oi := { dst := some 112, op := Op.binOp BinOp.eql 28 (Operand.tmp 111) (Operand.const (Value.int IntKind.i64 1)) 28, type := 4, pos := "law.go:61", after := #[{ on := 43, ground := Ground.data }, { on := 41, ground := Ground.guard }], guard := some (41, false) }) (v := undef) rfl (by kernel_rfl) (by kernel_rfl) (by kernel_rfl) (fun _ _ _ h => h) (Or.inr ⟨by rfl, rfl⟩) (by assumption) ?_
      try simp only [Act.put, List.setIfInBounds_toArray, List.set_cons_zero, List.set_cons_succ]
      refine wpAnyH_take (i := 45) (oi := { dst := some 113, op := Op.pick (Operand.tmp 109) (Operand.const (Value.bool true)) (Operand.tmp 112), type := 4, pos := "law.go:61", after := #[{ on := 41, ground := Ground.data }, { on := 44, ground := Ground.data }, { on := 32, ground := Ground.guard }], guard := some (32, true) }) (v := ?_) rfl (by kernel_rfl) (by kernel_rfl) (by kernel_rfl) (fun _ _ _ h => h) (Or.inl ⟨by rfl, ?_⟩) (by assumption) ?_
      rotate_left
      · (intro W hSw; (try dsimp only at hSw); go_simp) <;> with_reducible rfl
      try simp only [Act.put, List.setIfInBounds_toArray, List.set_cons_zero, List.set_cons_succ]
      refine wpAnyH_take (i := 46) (oi := { dst := some 114, op := Op.pick (Operand.tmp 100) (Operand.tmp 113) (Operand.const (Value.bool false)), type := 4, pos := "law.go:61", after := #[{ on := 32, ground := Ground.data }, { on := 45, ground := Ground.data }], guard := none }) (v := ?_) rfl (by kernel_rfl) (by kernel_rfl) (by kernel_rfl) (fun _ _ _ h => h) (Or.inl ⟨by rfl, ?_⟩) (by assumption) ?_
      rotate_left
      · (intro W hSw; (try dsimp only at hSw); go_simp) <;> with_reducible rfl
      try simp only [Act.put, List.setIfInBounds_toArray, List.set_cons_zero, List.set_cons_succ]
      refine wpAnyH_take (i := 47) (oi := { dst := some 4, op := Op.assign (Operand.tmp 114), type := 4, pos := "law.go:61", after := #[{ on := 46, ground := Ground.data }, { on := 43, ground := Ground.chain }, { on := 0, ground := Ground.phase }, { on := 1, ground := Ground.phase }, { on := 2, ground := Ground.phase }, { on := 3, ground := Ground.phase }, { on := 4, ground := Ground.phase }, { on := 5, ground := Ground.phase }, { on := 6, ground := Ground.phase }, { on := 7, ground := Ground.phase }, { on := 8, ground := Ground.phase }, { on := 9, ground := Ground.phase }, { on := 10, ground := Ground.phase }, { on := 11, ground := Ground.phase }, { on := 12, ground := Ground.phase }, { on := 13, ground := Ground.phase }, { on := 14, ground := Ground.phase }, { on := 15, ground := Ground.phase }, { on := 16, ground := Ground.phase }, { on := 17, ground := Ground.phase }, { on := 18, ground := Ground.phase }, { on := 19, ground := Ground.phase }, { on := 20, ground := Ground.phase }, { on := 21, ground := Ground.phase }, { on := 22, ground := Ground.phase }, { on := 23, ground := Ground.phase }, { on := 24, ground := Ground.phase }, { on := 25, ground := Ground.phase }, { on := 26, ground := Ground.phase }, { on := 27, ground := Ground.phase }, { on := 28, ground := Ground.phase }, { on := 29, ground := Ground.phase }, { on := 30, ground := Ground.phase }, { on := 31, ground := Ground.phase }, { on := 32, ground := Ground.phase }, { on := 33, ground := Ground.phase }, { on := 34, ground := Ground.phase }, { on := 35, ground := Ground.phase }, { on := 36, ground := Ground.phase }, { on := 37, ground := Ground.phase }, { on := 38, ground := Ground.phase }, { on := 39, ground := Ground.phase }, { on := 40, ground := Ground.phase }, { on := 41, ground := Ground.phase }, { on := 42, ground := Ground.phase }, { on := 43, ground := Ground.phase }, { on := 44, ground := Ground.phase }, { on := 45, ground := Ground.phase }, { on := 46, ground := Ground.phase }], guard := none }) (v := ?_) rfl (by kernel_rfl) (by kernel_rfl) (by kernel_rfl) (fun _ _ _ h => h) (Or.inl ⟨by rfl, ?_⟩) (by assumption) ?_
      rotate_left
      · (intro W hSw; (try dsimp only at hSw); go_simp) <;> with_reducible rfl
      try simp only [Act.put, List.setIfInBounds_toArray, List.set_cons_zero, List.set_cons_succ]
      refine wpAnyH_done (by kernel_rfl) ?_ _
      -- END a
      go_wp2_with fail
      go_ret
      exact ⟨rfl, bthen HBZ.out (And.left (by assumption : Below Z.heap.size Z _ ∧ _))⟩
    · subst h0
      subst h1
      refine wp_region_held_drew (S := (fun W => Below Z.heap.size Z W ∧ W.cell? ⟨w.heap.size, 0, none⟩ = some (.string a.stream) ∧ W.cell? ⟨w.heap.size, 1, none⟩ = some (.string a.type) ∧ W.cell? ⟨w.heap.size, 2, none⟩ = some (.slice T a.tags.length ct) ∧ W.cell? ⟨w.heap.size, 3, none⟩ = some (.slice F a.fields.length cf) ∧ W.cell? ⟨bn, 0, none⟩ = some (.string n.stream) ∧ W.cell? ⟨bn, 1, none⟩ = some (.string n.type) ∧ W.cell? ⟨bn, 2, none⟩ = some (.slice T1 n.tags.length c1) ∧ W.cell? ⟨bn, 3, none⟩ = some (.slice F1 n.fields.length f1) ∧ W.cell? ⟨bb, 0, none⟩ = some (.string a.stream) ∧ W.cell? ⟨bb, 1, none⟩ = some (.string a.type) ∧ W.cell? ⟨bb, 2, none⟩ = some (.slice V a.tags.length cv) ∧ W.cell? ⟨bb, 3, none⟩ = some (.slice F a.fields.length cf))) (by kernel_rfl) (HK.out _ (below_drawn (Below.refl _ _))) (fun hHeld => ?_)
      have HB0 := Lib.hid (show Below Z.heap.size Z Z.drew from below_drawn (Below.refl _ _))
      -- WALK b
      refine wpAnyH_take (i := 0) (oi := { dst := some 68, op := Op.move (Operand.tmp 5), type := 4, pos := "law.go:61", after := #[], guard := none }) (v := ?_) rfl (by kernel_rfl) (by kernel_rfl) (by kernel_rfl) (fun _ _ _ h => h) (Or.inl ⟨by rfl, ?_⟩) (by assumption) ?_
      rotate_left
      · (intro W hSw; (try dsimp only at hSw); go_simp) <;> with_reducible rfl
      try simp only [Act.put, List.setIfInBounds_toArray, List.set_cons_zero, List.set_cons_succ]
      refine wpAnyH_take (i := 1) (oi := { dst := some 69, op := Op.move (Operand.tmp 68), type := 4, pos := "law.go:61", after := #[{ on := 0, ground := Ground.data }], guard := none }) (v := ?_) rfl (by kernel_rfl) (by kernel_rfl) (by kernel_rfl) (fun _ _ _ h => h) (Or.inl ⟨by rfl, ?_⟩) (by assumption) ?_
      rotate_left
      · (intro W hSw; (try dsimp only at hSw); go_simp) <;> with_reducible rfl
      try simp only [Act.put, List.setIfInBounds_toArray, List.set_cons_zero, List.set_cons_succ]
      refine wpAnyH_take (i := 2) (oi := { dst := some 70, op := Op.load 25 (Operand.tmp 6), type := 25, pos := "law.go:61", after := #[{ on := 1, ground := Ground.guard }], guard := some (1, true) }) (v := ?_) rfl (by kernel_rfl) (by kernel_rfl) (by kernel_rfl) (fun _ _ _ h => h) (Or.inl ⟨by rfl, ?_⟩) (by assumption) ?_
      rotate_left
      · (intro W hSw; (try dsimp only at hSw); go_simp) <;> with_reducible rfl
      try simp only [Act.put, List.setIfInBounds_toArray, List.set_cons_zero, List.set_cons_succ]
      refine wpAnyH_take (i := 4) (oi := { dst := some 72, op := Op.load 25 (Operand.tmp 6), type := 25, pos := "law.go:61", after := #[{ on := 1, ground := Ground.guard }], guard := some (1, true) }) (v := ?_) rfl (by kernel_rfl) (by kernel_rfl) (by kernel_rfl) (fun _ _ _ h => h) (Or.inl ⟨by rfl, ?_⟩) (by assumption) ?_
      rotate_left
      · (intro W hSw; (try dsimp only at hSw); go_simp) <;> with_reducible rfl
      try simp only [Act.put, List.setIfInBounds_toArray, List.set_cons_zero, List.set_cons_succ]
      refine wpAnyH_ready (rs := [3]) (by kernel_rfl) (by simp) ?_
      refine AllReadyH.cons (o := { dst := some 71, op := Op.call { callee := Callee.value (Operand.func 12), args := #[Operand.tmp 70], argTypes := #[25] }, type := 25, pos := "law.go:61", after := #[{ on := 2, ground := Ground.data }, { on := 1, ground := Ground.chain }, { on := 1, ground := Ground.guard }], guard := some (1, true) }) rfl (fun K hK => ?_) AllReadyH.nil
      go_simp
      go_at_call 12
      go_fit (CN1.out _ HB0.out)
      rintro r w1' ⟨T2, F2, c2, f2, rfl, ht2, hf2, hb2⟩
      have HT2 := Lib.hid ht2
      have HF2 := Lib.hid hf2
      have HB1 := Lib.hid (bthen HB0.out hb2)
      clear ht2 hf2 hb2
      go_wp2_with fail
      refine hK.out _ _ (HK.out _ HB1.out) (fun hHeld3 => ?_)
      clear hK K
      try simp only [Act.put, List.setIfInBounds_toArray, List.set_cons_zero, List.set_cons_succ]
      refine wpAnyH_ready (rs := [5]) (by kernel_rfl) (by simp) ?_
      refine AllReadyH.cons (o := { dst := some 73, op := Op.call { callee := Callee.value (Operand.func 13), args := #[Operand.tmp 71, Operand.tmp 72], argTypes := #[25, 25] }, type := 4, pos := "law.go:61", after := #[{ on := 3, ground := Ground.data }, { on := 4, ground := Ground.data }, { on := 3, ground := Ground.chain }, { on := 1, ground := Ground.guard }], guard := some (1, true) }) rfl (fun K hK => ?_) AllReadyH.nil
      go_simp
      go_at_call 13
      go_fit (CS1.out _ _ _ _ _ HB1.out HT2.out HF2.out)
      rintro r w2' ⟨rfl, hb2⟩
      have HB2 := Lib.hid (bthen HB1.out hb2)
      clear hb2
      go_wp2_with fail
      refine hK.out _ _ (HK.out _ HB2.out) (fun hHeld5 => ?_)
      clear hK K
      try simp only [Act.put, List.setIfInBounds_toArray, List.set_cons_zero, List.set_cons_succ]
      refine wpAnyH_take (i := 6) (oi := { dst := some 74, op := Op.pick (Operand.tmp 69) (Operand.tmp 73) (Operand.const (Value.bool false)), type := 4, pos := "law.go:61", after := #[{ on := 1, ground := Ground.data }, { on := 5, ground := Ground.data }], guard := none }) (v := ?_) rfl (by kernel_rfl) (by kernel_rfl) (by kernel_rfl) (fun _ _ _ h => h) (Or.inl ⟨by rfl, ?_⟩) (by assumption) ?_
      rotate_left
      · (intro W hSw; (try dsimp only at hSw); go_simp) <;> with_reducible rfl
      try simp only [Act.put, List.setIfInBounds_toArray, List.set_cons_zero, List.set_cons_succ]
      refine wpAnyH_take (i := 7) (oi := { dst := some 75, op := Op.move (Operand.tmp 74), type := 4, pos := "law.go:61", after := #[{ on := 6, ground := Ground.data }, { on := 5, ground := Ground.chain }], guard := none }) (v := ?_) rfl (by kernel_rfl) (by kernel_rfl) (by kernel_rfl) (fun _ _ _ h => h) (Or.inl ⟨by rfl, ?_⟩) (by assumption) ?_
      rotate_left
      · (intro W hSw; (try dsimp only at hSw); go_simp) <;> with_reducible rfl
      try simp only [Act.put, List.setIfInBounds_toArray, List.set_cons_zero, List.set_cons_succ]
      refine wpAnyH_take (i := 8) (oi := { dst := some 76, op := Op.load 25 (Operand.tmp 7), type := 25, pos := "law.go:61", after := #[{ on := 7, ground := Ground.guard }], guard := some (7, true) }) (v := ?_) rfl (by kernel_rfl) (by kernel_rfl) (by kernel_rfl) (fun _ _ _ h => h) (Or.inl ⟨by rfl, ?_⟩) (by assumption) ?_
      rotate_left
      · (intro W hSw; (try dsimp only at hSw); go_simp) <;> with_reducible rfl
      try simp only [Act.put, List.setIfInBounds_toArray, List.set_cons_zero, List.set_cons_succ]
      refine wpAnyH_take (i := 10) (oi := { dst := some 78, op := Op.load 25 (Operand.tmp 6), type := 25, pos := "law.go:61", after := #[{ on := 7, ground := Ground.guard }], guard := some (7, true) }) (v := ?_) rfl (by kernel_rfl) (by kernel_rfl) (by kernel_rfl) (fun _ _ _ h => h) (Or.inl ⟨by rfl, ?_⟩) (by assumption) ?_
      rotate_left
      · (intro W hSw; (try dsimp only at hSw); go_simp) <;> with_reducible rfl
      try simp only [Act.put, List.setIfInBounds_toArray, List.set_cons_zero, List.set_cons_succ]
      refine wpAnyH_ready (rs := [9]) (by kernel_rfl) (by simp) ?_
      refine AllReadyH.cons (o := { dst := some 77, op := Op.call { callee := Callee.value (Operand.func 12), args := #[Operand.tmp 76], argTypes := #[25] }, type := 25, pos := "law.go:61", after := #[{ on := 8, ground := Ground.data }, { on := 7, ground := Ground.chain }, { on := 7, ground := Ground.guard }], guard := some (7, true) }) rfl (fun K hK => ?_) AllReadyH.nil
      go_simp
      go_at_call 12
      go_fit (CN2.out _ HB2.out)
      rintro r w3' ⟨T3, F3, c3, f3, rfl, ht3, hf3, hb2⟩
      have HT3 := Lib.hid ht3
      have HF3 := Lib.hid hf3
      have HB3 := Lib.hid (bthen HB2.out hb2)
      clear ht3 hf3 hb2
      go_wp2_with fail
      refine hK.out _ _ (HK.out _ HB3.out) (fun hHeld9 => ?_)
      clear hK K
      try simp only [Act.put, List.setIfInBounds_toArray, List.set_cons_zero, List.set_cons_succ]
      refine wpAnyH_ready (rs := [11]) (by kernel_rfl) (by simp) ?_
      refine AllReadyH.cons (o := { dst := some 79, op := Op.call { callee := Callee.value (Operand.func 13), args := #[Operand.tmp 77, Operand.tmp 78], argTypes := #[25, 25] }, type := 4, pos := "law.go:61", after := #[{ on := 9, ground := Ground.data }, { on := 10, ground := Ground.data }, { on := 9, ground := Ground.chain }, { on := 7, ground := Ground.guard }], guard := some (7, true) }) rfl (fun K hK => ?_) AllReadyH.nil
      go_simp
      go_at_call 13
      go_fit (CS2.out _ _ _ _ _ HB3.out HT3.out HF3.out)
      rintro r w4' ⟨rfl, hb2⟩
      have HB4 := Lib.hid (bthen HB3.out hb2)
      clear hb2
      go_wp2_with fail
      refine hK.out _ _ (HK.out _ HB4.out) (fun hHeld11 => ?_)
      clear hK K
      try simp only [Act.put, List.setIfInBounds_toArray, List.set_cons_zero, List.set_cons_succ]
      refine wpAnyH_take (i := 12) (oi := { dst := some 80, op := Op.pick (Operand.tmp 75) (Operand.tmp 79) (Operand.const (Value.bool false)), type := 4, pos := "law.go:61", after := #[{ on := 7, ground := Ground.data }, { on := 11, ground := Ground.data }], guard := none }) (v := ?_) rfl (by kernel_rfl) (by kernel_rfl) (by kernel_rfl) (fun _ _ _ h => h) (Or.inl ⟨by rfl, ?_⟩) (by assumption) ?_
      rotate_left
      · (intro W hSw; (try dsimp only at hSw); go_simp) <;> with_reducible rfl
      try simp only [Act.put, List.setIfInBounds_toArray, List.set_cons_zero, List.set_cons_succ]
      refine wpAnyH_take (i := 13) (oi := { dst := some 81, op := Op.move (Operand.tmp 80), type := 4, pos := "law.go:61", after := #[{ on := 12, ground := Ground.data }, { on := 11, ground := Ground.chain }], guard := none }) (v := ?_) rfl (by kernel_rfl) (by kernel_rfl) (by kernel_rfl) (fun _ _ _ h => h) (Or.inl ⟨by rfl, ?_⟩) (by assumption) ?_
      rotate_left
      · (intro W hSw; (try dsimp only at hSw); go_simp) <;> with_reducible rfl
      try simp only [Act.put, List.setIfInBounds_toArray, List.set_cons_zero, List.set_cons_succ]
      refine wpAnyH_take (i := 14) (oi := { dst := some 82, op := Op.load 25 (Operand.tmp 6), type := 25, pos := "law.go:61", after := #[{ on := 13, ground := Ground.guard }], guard := some (13, true) }) (v := ?_) rfl (by kernel_rfl) (by kernel_rfl) (by kernel_rfl) (fun _ _ _ h => h) (Or.inl ⟨by rfl, ?_⟩) (by assumption) ?_
      rotate_left
      · (intro W hSw; (try dsimp only at hSw); go_simp) <;> with_reducible rfl
      try simp only [Act.put, List.setIfInBounds_toArray, List.set_cons_zero, List.set_cons_succ]
      refine wpAnyH_take (i := 15) (oi := { dst := some 83, op := Op.move (Operand.tmp 1), type := 9, pos := "law.go:61", after := #[{ on := 13, ground := Ground.guard }], guard := some (13, true) }) (v := ?_) rfl (by kernel_rfl) (by kernel_rfl) (by kernel_rfl) (fun _ _ _ h => h) (Or.inl ⟨by rfl, ?_⟩) (by assumption) ?_
      rotate_left
      · (intro W hSw; (try dsimp only at hSw); go_simp) <;> with_reducible rfl
      try simp only [Act.put, List.setIfInBounds_toArray, List.set_cons_zero, List.set_cons_succ]
      refine wpAnyH_take (i := 17) (oi := { dst := some 85, op := Op.load 25 (Operand.tmp 2), type := 25, pos := "law.go:61", after := #[{ on := 13, ground := Ground.guard }], guard := some (13, true) }) (v := ?_) rfl (by kernel_rfl) (by kernel_rfl) (by kernel_rfl) (fun _ _ _ h => h) (Or.inl ⟨by rfl, ?_⟩) (by assumption) ?_
      rotate_left
      · (intro W hSw; (try dsimp only at hSw); go_simp) <;> with_reducible rfl
      try simp only [Act.put, List.setIfInBounds_toArray, List.set_cons_zero, List.set_cons_succ]
      refine wpAnyH_take (i := 18) (oi := { dst := some 86, op := Op.move (Operand.tmp 1), type := 9, pos := "law.go:61", after := #[{ on := 13, ground := Ground.guard }], guard := some (13, true) }) (v := ?_) rfl (by kernel_rfl) (by kernel_rfl) (by kernel_rfl) (fun _ _ _ h => h) (Or.inl ⟨by rfl, ?_⟩) (by assumption) ?_
      rotate_left
      · (intro W hSw; (try dsimp only at hSw); go_simp) <;> with_reducible rfl
      try simp only [Act.put, List.setIfInBounds_toArray, List.set_cons_zero, List.set_cons_succ]
      refine wpAnyH_ready (rs := [16]) (by kernel_rfl) (by simp) ?_
      refine AllReadyH.cons (o := { dst := some 84, op := Op.call { callee := Callee.value (Operand.func 10), args := #[Operand.tmp 82, Operand.tmp 83], argTypes := #[25, 9] }, type := 4, pos := "law.go:61", after := #[{ on := 14, ground := Ground.data }, { on := 15, ground := Ground.data }, { on := 13, ground := Ground.chain }, { on := 13, ground := Ground.guard }], guard := some (13, true) }) rfl (fun K hK => ?_) AllReadyH.nil
      go_simp
      go_at_call 10
      go_fit (CH1.out _ HB4.out)
      rintro r w5' ⟨rfl, hb2⟩
      have HB5 := Lib.hid (bthen HB4.out hb2)
      clear hb2
      go_wp2_with fail
      refine hK.out _ _ (HK.out _ HB5.out) (fun hHeld16 => ?_)
      clear hK K
      try simp only [Act.put, List.setIfInBounds_toArray, List.set_cons_zero, List.set_cons_succ]
      refine wpAnyH_ready (rs := [19]) (by kernel_rfl) (by simp) ?_
      refine AllReadyH.cons (o := { dst := some 87, op := Op.call { callee := Callee.value (Operand.func 10), args := #[Operand.tmp 85, Operand.tmp 86], argTypes := #[25, 9] }, type := 4, pos := "law.go:61", after := #[{ on := 17, ground := Ground.data }, { on := 18, ground := Ground.data }, { on := 16, ground := Ground.chain }, { on := 13, ground := Ground.guard }], guard := some (13, true) }) rfl (fun K hK => ?_) AllReadyH.nil
      go_simp
      go_at_call 10
      go_fit (CH2.out _ HB5.out)
      rintro r w6' ⟨rfl, hb2⟩
      have HB6 := Lib.hid (bthen HB5.out hb2)
      clear hb2
      go_wp2_with fail
      refine hK.out _ _ (HK.out _ HB6.out) (fun hHeld19 => ?_)
      clear hK K
      try simp only [Act.put, List.setIfInBounds_toArray, List.set_cons_zero, List.set_cons_succ]
      refine wpAnyH_take (i := 20) (oi := { dst := some 88, op := Op.binOp BinOp.eql 4 (Operand.tmp 84) (Operand.tmp 87) 4, type := 4, pos := "law.go:61", after := #[{ on := 16, ground := Ground.data }, { on := 19, ground := Ground.data }, { on := 13, ground := Ground.guard }], guard := some (13, true) }) (v := ?_) rfl (by kernel_rfl) (by kernel_rfl) (by kernel_rfl) (fun _ _ _ h => h) (Or.inl ⟨by rfl, ?_⟩) (by assumption) ?_
      rotate_left
      · (intro W hSw; (try dsimp only at hSw); go_simp) <;> with_reducible rfl
      try simp only [Act.put, List.setIfInBounds_toArray, List.set_cons_zero, List.set_cons_succ]
      refine wpAnyH_take (i := 21) (oi := { dst := some 89, op := Op.pick (Operand.tmp 81) (Operand.tmp 88) (Operand.const (Value.bool false)), type := 4, pos := "law.go:61", after := #[{ on := 13, ground := Ground.data }, { on := 20, ground := Ground.data }], guard := none }) (v := ?_) rfl (by kernel_rfl) (by kernel_rfl) (by kernel_rfl) (fun _ _ _ h => h) (Or.inl ⟨by rfl, ?_⟩) (by assumption) ?_
      rotate_left
      · (intro W hSw; (try dsimp only at hSw); go_simp) <;> with_reducible rfl
      try simp only [Act.put, List.setIfInBounds_toArray, List.set_cons_zero, List.set_cons_succ]
      refine wpAnyH_take (i := 22) (oi := { dst := some 90, op := Op.move (Operand.tmp 89), type := 4, pos := "law.go:61", after := #[{ on := 21, ground := Ground.data }, { on := 19, ground := Ground.chain }], guard := none }) (v := ?_) rfl (by kernel_rfl) (by kernel_rfl) (by kernel_rfl) (fun _ _ _ h => h) (Or.inl ⟨by rfl, ?_⟩) (by assumption) ?_
      rotate_left
      · (intro W hSw; (try dsimp only at hSw); go_simp) <;> with_reducible rfl
      try simp only [Act.put, List.setIfInBounds_toArray, List.set_cons_zero, List.set_cons_succ]
      refine wpAnyH_take (i := 23) (oi := { dst := some 91, op := Op.load 25 (Operand.tmp 2), type := 25, pos := "law.go:61", after := #[{ on := 22, ground := Ground.guard }], guard := some (22, true) }) (v := ?_) rfl (by kernel_rfl) (by kernel_rfl) (by kernel_rfl) (fun _ _ _ h => h) (Or.inl ⟨by rfl, ?_⟩) (by assumption) ?_
      rotate_left
      · (intro W hSw; (try dsimp only at hSw); go_simp) <;> with_reducible rfl
      try simp only [Act.put, List.setIfInBounds_toArray, List.set_cons_zero, List.set_cons_succ]
      refine wpAnyH_ready (rs := [24]) (by kernel_rfl) (by simp) ?_
      refine AllReadyH.cons (o := { dst := some 92, op := Op.call { callee := Callee.value (Operand.func 9), args := #[Operand.tmp 91], argTypes := #[25] }, type := 28, pos := "law.go:61", after := #[{ on := 23, ground := Ground.data }, { on := 22, ground := Ground.chain }, { on := 22, ground := Ground.guard }], guard := some (22, true) }) rfl (fun K hK => ?_) AllReadyH.nil
      go_simp
      go_at_call 9
      go_fit (CM1.out _ HB6.out)
      rintro r w7' ⟨rfl, hb2⟩
      have HB7 := Lib.hid (bthen HB6.out hb2)
      clear hb2
      go_wp2_with fail
      refine hK.out _ _ (HK.out _ HB7.out) (fun hHeld24 => ?_)
      clear hK K
      try simp only [Act.put, List.setIfInBounds_toArray, List.set_cons_zero, List.set_cons_succ]
      refine wpAnyH_take (i := 25) (oi := { dst := some 93, op := Op.binOp BinOp.neq 28 (Operand.tmp 92) (Operand.const (Value.int IntKind.i64 0)) 28, type := 4, pos := "law.go:61", after := #[{ on := 24, ground := Ground.data }, { on := 22, ground := Ground.guard }], guard := some (22, true) }) (v := ?_) rfl (by kernel_rfl) (by kernel_rfl) (by kernel_rfl) (fun _ _ _ h => h) (Or.inl ⟨by rfl, ?_⟩) (by assumption) ?_
      rotate_left
      · (intro W hSw; (try dsimp only at hSw); go_simp) <;> with_reducible rfl
      try simp only [Act.put, List.setIfInBounds_toArray, List.set_cons_zero, List.set_cons_succ]
      refine wpAnyH_take (i := 26) (oi := { dst := some 94, op := Op.move (Operand.tmp 93), type := 4, pos := "law.go:61", after := #[{ on := 25, ground := Ground.data }, { on := 24, ground := Ground.chain }, { on := 22, ground := Ground.guard }], guard := some (22, true) }) (v := ?_) rfl (by kernel_rfl) (by kernel_rfl) (by kernel_rfl) (fun _ _ _ h => h) (Or.inl ⟨by rfl, ?_⟩) (by assumption) ?_
      rotate_left
      · (intro W hSw; (try dsimp only at hSw); go_simp) <;> with_reducible rfl
      try simp only [Act.put, List.setIfInBounds_toArray, List.set_cons_zero, List.set_cons_succ]
      refine wpAnyH_take (i := 27) (oi := { dst := some 95, op := Op.load 25 (Operand.tmp 6), type := 25, pos := "law.go:61", after := #[{ on := 26, ground := Ground.guard }], guard := some (26, false) }) (v := undef) rfl (by kernel_rfl) (by kernel_rfl) (by kernel_rfl) (fun _ _ _ h => h) (Or.inr ⟨by rfl, rfl⟩) (by assumption) ?_
      try simp only [Act.put, List.setIfInBounds_toArray, List.set_cons_zero, List.set_cons_succ]
      refine wpAnyH_take (i := 28) (oi := { dst := some 96, op := Op.load 25 (Operand.tmp 2), type := 25, pos := "law.go:61", after := #[{ on := 26, ground := Ground.guard }], guard := some (26, false) }) (v := undef) rfl (by kernel_rfl) (by kernel_rfl) (by kernel_rfl) (fun _ _ _ h => h) (Or.inr ⟨by rfl, rfl⟩) (by assumption) ?_
      try simp only [Act.put, List.setIfInBounds_toArray, List.set_cons_zero, List.set_cons_succ]
      refine wpAnyH_take (i := 29) (oi := { dst := some 97, op := Op.call { callee := Callee.value (Operand.func 13), args := #[Operand.tmp 95, Operand.tmp 96], argTypes := #[25, 25] }, type := 4, pos := "law.go:61", after := #[{ on := 27, ground := Ground.data }, { on := 28, ground := Ground.data }, { on := 26, ground := Ground.chain }, { on := 26, ground := Ground.guard }], guard := some (26, false) }) (v := undef) rfl (by kernel_rfl) (by kernel_rfl) (by kernel_rfl) (fun _ _ _ h => h) (Or.inr ⟨by rfl, rfl⟩) (by assumption) ?_
      try simp only [Act.put, List.setIfInBounds_toArray, List.set_cons_zero, List.set_cons_succ]
      refine wpAnyH_take (i := 30) (oi := { dst := some 98, op := Op.pick (Operand.tmp 94) (Operand.const (Value.bool true)) (Operand.tmp 97), type := 4, pos := "law.go:61", after := #[{ on := 26, ground := Ground.data }, { on := 29, ground := Ground.data }, { on := 22, ground := Ground.guard }], guard := some (22, true) }) (v := ?_) rfl (by kernel_rfl) (by kernel_rfl) (by kernel_rfl) (fun _ _ _ h => h) (Or.inl ⟨by rfl, ?_⟩) (by assumption) ?_
      rotate_left
      · (intro W hSw; (try dsimp only at hSw); go_simp) <;> with_reducible rfl
      try simp only [Act.put, List.setIfInBounds_toArray, List.set_cons_zero, List.set_cons_succ]
      refine wpAnyH_take (i := 31) (oi := { dst := some 99, op := Op.pick (Operand.tmp 90) (Operand.tmp 98) (Operand.const (Value.bool false)), type := 4, pos := "law.go:61", after := #[{ on := 22, ground := Ground.data }, { on := 30, ground := Ground.data }], guard := none }) (v := ?_) rfl (by kernel_rfl) (by kernel_rfl) (by kernel_rfl) (fun _ _ _ h => h) (Or.inl ⟨by rfl, ?_⟩) (by assumption) ?_
      rotate_left
      · (intro W hSw; (try dsimp only at hSw); go_simp) <;> with_reducible rfl
      try simp only [Act.put, List.setIfInBounds_toArray, List.set_cons_zero, List.set_cons_succ]
      refine wpAnyH_take (i := 32) (oi := { dst := some 100, op := Op.move (Operand.tmp 99), type := 4, pos := "law.go:61", after := #[{ on := 31, ground := Ground.data }, { on := 29, ground := Ground.chain }], guard := none }) (v := ?_) rfl (by kernel_rfl) (by kernel_rfl) (by kernel_rfl) (fun _ _ _ h => h) (Or.inl ⟨by rfl, ?_⟩) (by assumption) ?_
      rotate_left
      · (intro W hSw; (try dsimp only at hSw); go_simp) <;> with_reducible rfl
      try simp only [Act.put, List.setIfInBounds_toArray, List.set_cons_zero, List.set_cons_succ]
      refine wpAnyH_take (i := 33) (oi := { dst := some 101, op := Op.load 25 (Operand.tmp 2), type := 25, pos := "law.go:61", after := #[{ on := 32, ground := Ground.guard }], guard := some (32, true) }) (v := ?_) rfl (by kernel_rfl) (by kernel_rfl) (by kernel_rfl) (fun _ _ _ h => h) (Or.inl ⟨by rfl, ?_⟩) (by assumption) ?_
      rotate_left
      · (intro W hSw; (try dsimp only at hSw); go_simp) <;> with_reducible rfl
      try simp only [Act.put, List.setIfInBounds_toArray, List.set_cons_zero, List.set_cons_succ]
      refine wpAnyH_ready (rs := [34]) (by kernel_rfl) (by simp) ?_
      refine AllReadyH.cons (o := { dst := some 102, op := Op.call { callee := Callee.value (Operand.func 9), args := #[Operand.tmp 101], argTypes := #[25] }, type := 28, pos := "law.go:61", after := #[{ on := 33, ground := Ground.data }, { on := 32, ground := Ground.chain }, { on := 32, ground := Ground.guard }], guard := some (32, true) }) rfl (fun K hK => ?_) AllReadyH.nil
      go_simp
      go_at_call 9
      go_fit (CM1.out _ HB7.out)
      rintro r w8' ⟨rfl, hb2⟩
      have HB8 := Lib.hid (bthen HB7.out hb2)
      clear hb2
      go_wp2_with fail
      refine hK.out _ _ (HK.out _ HB8.out) (fun hHeld34 => ?_)
      clear hK K
      try simp only [Act.put, List.setIfInBounds_toArray, List.set_cons_zero, List.set_cons_succ]
      refine wpAnyH_take (i := 35) (oi := { dst := some 103, op := Op.binOp BinOp.neq 28 (Operand.tmp 102) (Operand.const (Value.int IntKind.i64 1)) 28, type := 4, pos := "law.go:61", after := #[{ on := 34, ground := Ground.data }, { on := 32, ground := Ground.guard }], guard := some (32, true) }) (v := ?_) rfl (by kernel_rfl) (by kernel_rfl) (by kernel_rfl) (fun _ _ _ h => h) (Or.inl ⟨by rfl, ?_⟩) (by assumption) ?_
      rotate_left
      · (intro W hSw; (try dsimp only at hSw); go_simp) <;> with_reducible rfl
      try simp only [Act.put, List.setIfInBounds_toArray, List.set_cons_zero, List.set_cons_succ]
      refine wpAnyH_take (i := 36) (oi := { dst := some 104, op := Op.move (Operand.tmp 103), type := 4, pos := "law.go:61", after := #[{ on := 35, ground := Ground.data }, { on := 34, ground := Ground.chain }, { on := 32, ground := Ground.guard }], guard := some (32, true) }) (v := ?_) rfl (by kernel_rfl) (by kernel_rfl) (by kernel_rfl) (fun _ _ _ h => h) (Or.inl ⟨by rfl, ?_⟩) (by assumption) ?_
      rotate_left
      · (intro W hSw; (try dsimp only at hSw); go_simp) <;> with_reducible rfl
      try simp only [Act.put, List.setIfInBounds_toArray, List.set_cons_zero, List.set_cons_succ]
      refine wpAnyH_take (i := 37) (oi := { dst := some 105, op := Op.load 25 (Operand.tmp 6), type := 25, pos := "law.go:61", after := #[{ on := 36, ground := Ground.guard }], guard := some (36, false) }) (v := ?_) rfl (by kernel_rfl) (by kernel_rfl) (by kernel_rfl) (fun _ _ _ h => h) (Or.inl ⟨by rfl, ?_⟩) (by assumption) ?_
      rotate_left
      · (intro W hSw; (try dsimp only at hSw); go_simp) <;> with_reducible rfl
      try simp only [Act.put, List.setIfInBounds_toArray, List.set_cons_zero, List.set_cons_succ]
      refine wpAnyH_ready (rs := [38]) (by kernel_rfl) (by simp) ?_
      refine AllReadyH.cons (o := { dst := some 106, op := Op.call { callee := Callee.value (Operand.func 9), args := #[Operand.tmp 105], argTypes := #[25] }, type := 28, pos := "law.go:61", after := #[{ on := 37, ground := Ground.data }, { on := 36, ground := Ground.chain }, { on := 36, ground := Ground.guard }], guard := some (36, false) }) rfl (fun K hK => ?_) AllReadyH.nil
      go_simp
      go_at_call 9
      go_fit (CM2.out _ HB8.out)
      rintro r w9' ⟨rfl, hb2⟩
      have HB9 := Lib.hid (bthen HB8.out hb2)
      clear hb2
      go_wp2_with fail
      refine hK.out _ _ (HK.out _ HB9.out) (fun hHeld38 => ?_)
      clear hK K
      try simp only [Act.put, List.setIfInBounds_toArray, List.set_cons_zero, List.set_cons_succ]
      refine wpAnyH_take (i := 39) (oi := { dst := some 107, op := Op.binOp BinOp.eql 28 (Operand.tmp 106) (Operand.const (Value.int IntKind.i64 0)) 28, type := 4, pos := "law.go:61", after := #[{ on := 38, ground := Ground.data }, { on := 36, ground := Ground.guard }], guard := some (36, false) }) (v := ?_) rfl (by kernel_rfl) (by kernel_rfl) (by kernel_rfl) (fun _ _ _ h => h) (Or.inl ⟨by rfl, ?_⟩) (by assumption) ?_
      rotate_left
      · (intro W hSw; (try dsimp only at hSw); go_simp) <;> with_reducible rfl
      try simp only [Act.put, List.setIfInBounds_toArray, List.set_cons_zero, List.set_cons_succ]
      refine wpAnyH_take (i := 40) (oi := { dst := some 108, op := Op.pick (Operand.tmp 104) (Operand.const (Value.bool true)) (Operand.tmp 107), type := 4, pos := "law.go:61", after := #[{ on := 36, ground := Ground.data }, { on := 39, ground := Ground.data }, { on := 32, ground := Ground.guard }], guard := some (32, true) }) (v := ?_) rfl (by kernel_rfl) (by kernel_rfl) (by kernel_rfl) (fun _ _ _ h => h) (Or.inl ⟨by rfl, ?_⟩) (by assumption) ?_
      rotate_left
      · (intro W hSw; (try dsimp only at hSw); go_simp) <;> with_reducible rfl
      try simp only [Act.put, List.setIfInBounds_toArray, List.set_cons_zero, List.set_cons_succ]
      refine wpAnyH_take (i := 41) (oi := { dst := some 109, op := Op.move (Operand.tmp 108), type := 4, pos := "law.go:61", after := #[{ on := 40, ground := Ground.data }, { on := 38, ground := Ground.chain }, { on := 32, ground := Ground.guard }], guard := some (32, true) }) (v := ?_) rfl (by kernel_rfl) (by kernel_rfl) (by kernel_rfl) (fun _ _ _ h => h) (Or.inl ⟨by rfl, ?_⟩) (by assumption) ?_
      rotate_left
      · (intro W hSw; (try dsimp only at hSw); go_simp) <;> with_reducible rfl
      try simp only [Act.put, List.setIfInBounds_toArray, List.set_cons_zero, List.set_cons_succ]
      refine wpAnyH_take (i := 42) (oi := { dst := some 110, op := Op.load 25 (Operand.tmp 6), type := 25, pos := "law.go:61", after := #[{ on := 41, ground := Ground.guard }], guard := some (41, false) }) (v := undef) rfl (by kernel_rfl) (by kernel_rfl) (by kernel_rfl) (fun _ _ _ h => h) (Or.inr ⟨by rfl, rfl⟩) (by assumption) ?_
      try simp only [Act.put, List.setIfInBounds_toArray, List.set_cons_zero, List.set_cons_succ]
      refine wpAnyH_take (i := 43) (oi := { dst := some 111, op := Op.call { callee := Callee.value (Operand.func 9), args := #[Operand.tmp 110], argTypes := #[25] }, type := 28, pos := "law.go:61", after := #[{ on := 42, ground := Ground.data }, { on := 41, ground := Ground.chain }, { on := 41, ground := Ground.guard }], guard := some (41, false) }) (v := undef) rfl (by kernel_rfl) (by kernel_rfl) (by kernel_rfl) (fun _ _ _ h => h) (Or.inr ⟨by rfl, rfl⟩) (by assumption) ?_
      try simp only [Act.put, List.setIfInBounds_toArray, List.set_cons_zero, List.set_cons_succ]
      refine wpAnyH_take (i := 44) (oi := { dst := some 112, op := Op.binOp BinOp.eql 28 (Operand.tmp 111) (Operand.const (Value.int IntKind.i64 1)) 28, type := 4, pos := "law.go:61", after := #[{ on := 43, ground := Ground.data }, { on := 41, ground := Ground.guard }], guard := some (41, false) }) (v := undef) rfl (by kernel_rfl) (by kernel_rfl) (by kernel_rfl) (fun _ _ _ h => h) (Or.inr ⟨by rfl, rfl⟩) (by assumption) ?_
      try simp only [Act.put, List.setIfInBounds_toArray, List.set_cons_zero, List.set_cons_succ]
      refine wpAnyH_take (i := 45) (oi := { dst := some 113, op := Op.pick (Operand.tmp 109) (Operand.const (Value.bool true)) (Operand.tmp 112), type := 4, pos := "law.go:61", after := #[{ on := 41, ground := Ground.data }, { on := 44, ground := Ground.data }, { on := 32, ground := Ground.guard }], guard := some (32, true) }) (v := ?_) rfl (by kernel_rfl) (by kernel_rfl) (by kernel_rfl) (fun _ _ _ h => h) (Or.inl ⟨by rfl, ?_⟩) (by assumption) ?_
      rotate_left
      · (intro W hSw; (try dsimp only at hSw); go_simp) <;> with_reducible rfl
      try simp only [Act.put, List.setIfInBounds_toArray, List.set_cons_zero, List.set_cons_succ]
      refine wpAnyH_take (i := 46) (oi := { dst := some 114, op := Op.pick (Operand.tmp 100) (Operand.tmp 113) (Operand.const (Value.bool false)), type := 4, pos := "law.go:61", after := #[{ on := 32, ground := Ground.data }, { on := 45, ground := Ground.data }], guard := none }) (v := ?_) rfl (by kernel_rfl) (by kernel_rfl) (by kernel_rfl) (fun _ _ _ h => h) (Or.inl ⟨by rfl, ?_⟩) (by assumption) ?_
      rotate_left
      · (intro W hSw; (try dsimp only at hSw); go_simp) <;> with_reducible rfl
      try simp only [Act.put, List.setIfInBounds_toArray, List.set_cons_zero, List.set_cons_succ]
      refine wpAnyH_take (i := 47) (oi := { dst := some 4, op := Op.assign (Operand.tmp 114), type := 4, pos := "law.go:61", after := #[{ on := 46, ground := Ground.data }, { on := 43, ground := Ground.chain }, { on := 0, ground := Ground.phase }, { on := 1, ground := Ground.phase }, { on := 2, ground := Ground.phase }, { on := 3, ground := Ground.phase }, { on := 4, ground := Ground.phase }, { on := 5, ground := Ground.phase }, { on := 6, ground := Ground.phase }, { on := 7, ground := Ground.phase }, { on := 8, ground := Ground.phase }, { on := 9, ground := Ground.phase }, { on := 10, ground := Ground.phase }, { on := 11, ground := Ground.phase }, { on := 12, ground := Ground.phase }, { on := 13, ground := Ground.phase }, { on := 14, ground := Ground.phase }, { on := 15, ground := Ground.phase }, { on := 16, ground := Ground.phase }, { on := 17, ground := Ground.phase }, { on := 18, ground := Ground.phase }, { on := 19, ground := Ground.phase }, { on := 20, ground := Ground.phase }, { on := 21, ground := Ground.phase }, { on := 22, ground := Ground.phase }, { on := 23, ground := Ground.phase }, { on := 24, ground := Ground.phase }, { on := 25, ground := Ground.phase }, { on := 26, ground := Ground.phase }, { on := 27, ground := Ground.phase }, { on := 28, ground := Ground.phase }, { on := 29, ground := Ground.phase }, { on := 30, ground := Ground.phase }, { on := 31, ground := Ground.phase }, { on := 32, ground := Ground.phase }, { on := 33, ground := Ground.phase }, { on := 34, ground := Ground.phase }, { on := 35, ground := Ground.phase }, { on := 36, ground := Ground.phase }, { on := 37, ground := Ground.phase }, { on := 38, ground := Ground.phase }, { on := 39, ground := Ground.phase }, { on := 40, ground := Ground.phase }, { on := 41, ground := Ground.phase }, { on := 42, ground := Ground.phase }, { on := 43, ground := Ground.phase }, { on := 44, ground := Ground.phase }, { on := 45, ground := Ground.phase }, { on := 46, ground := Ground.phase }], guard := none }) (v := ?_) rfl (by kernel_rfl) (by kernel_rfl) (by kernel_rfl) (fun _ _ _ h => h) (Or.inl ⟨by rfl, ?_⟩) (by assumption) ?_
      rotate_left
      · (intro W hSw; (try dsimp only at hSw); go_simp) <;> with_reducible rfl
      try simp only [Act.put, List.setIfInBounds_toArray, List.set_cons_zero, List.set_cons_succ]
      refine wpAnyH_done (by kernel_rfl) ?_ _
      -- END b
      go_wp2_with fail
      go_ret
      exact ⟨rfl, bthen HBZ.out (And.left (by assumption : Below Z.heap.size Z _ ∧ _))⟩
    · subst h0
      subst h1
      refine wp_region_held_drew (S := (fun W => Below Z.heap.size Z W ∧ W.cell? ⟨w.heap.size, 0, none⟩ = some (.string a.stream) ∧ W.cell? ⟨w.heap.size, 1, none⟩ = some (.string a.type) ∧ W.cell? ⟨w.heap.size, 2, none⟩ = some (.slice T a.tags.length ct) ∧ W.cell? ⟨w.heap.size, 3, none⟩ = some (.slice F a.fields.length cf) ∧ W.cell? ⟨bn, 0, none⟩ = some (.string n.stream) ∧ W.cell? ⟨bn, 1, none⟩ = some (.string n.type) ∧ W.cell? ⟨bn, 2, none⟩ = some (.slice T1 n.tags.length c1) ∧ W.cell? ⟨bn, 3, none⟩ = some (.slice F1 n.fields.length f1) ∧ W.cell? ⟨bb, 0, none⟩ = some (.string a.stream) ∧ W.cell? ⟨bb, 1, none⟩ = some (.string a.type) ∧ W.cell? ⟨bb, 2, none⟩ = some (.slice V a.tags.length cv) ∧ W.cell? ⟨bb, 3, none⟩ = some (.slice F a.fields.length cf))) (by kernel_rfl) (HK.out _ (below_drawn (Below.refl _ _))) (fun hHeld => ?_)
      have HB0 := Lib.hid (show Below Z.heap.size Z Z.drew from below_drawn (Below.refl _ _))
      -- WALK c
      refine wpAnyH_take (i := 0) (oi := { dst := some 68, op := Op.move (Operand.tmp 5), type := 4, pos := "law.go:61", after := #[], guard := none }) (v := ?_) rfl (by kernel_rfl) (by kernel_rfl) (by kernel_rfl) (fun _ _ _ h => h) (Or.inl ⟨by rfl, ?_⟩) (by assumption) ?_
      rotate_left
      · (intro W hSw; (try dsimp only at hSw); go_simp) <;> with_reducible rfl
      try simp only [Act.put, List.setIfInBounds_toArray, List.set_cons_zero, List.set_cons_succ]
      refine wpAnyH_take (i := 1) (oi := { dst := some 69, op := Op.move (Operand.tmp 68), type := 4, pos := "law.go:61", after := #[{ on := 0, ground := Ground.data }], guard := none }) (v := ?_) rfl (by kernel_rfl) (by kernel_rfl) (by kernel_rfl) (fun _ _ _ h => h) (Or.inl ⟨by rfl, ?_⟩) (by assumption) ?_
      rotate_left
      · (intro W hSw; (try dsimp only at hSw); go_simp) <;> with_reducible rfl
      try simp only [Act.put, List.setIfInBounds_toArray, List.set_cons_zero, List.set_cons_succ]
      refine wpAnyH_take (i := 2) (oi := { dst := some 70, op := Op.load 25 (Operand.tmp 6), type := 25, pos := "law.go:61", after := #[{ on := 1, ground := Ground.guard }], guard := some (1, true) }) (v := ?_) rfl (by kernel_rfl) (by kernel_rfl) (by kernel_rfl) (fun _ _ _ h => h) (Or.inl ⟨by rfl, ?_⟩) (by assumption) ?_
      rotate_left
      · (intro W hSw; (try dsimp only at hSw); go_simp) <;> with_reducible rfl
      try simp only [Act.put, List.setIfInBounds_toArray, List.set_cons_zero, List.set_cons_succ]
      refine wpAnyH_take (i := 4) (oi := { dst := some 72, op := Op.load 25 (Operand.tmp 6), type := 25, pos := "law.go:61", after := #[{ on := 1, ground := Ground.guard }], guard := some (1, true) }) (v := ?_) rfl (by kernel_rfl) (by kernel_rfl) (by kernel_rfl) (fun _ _ _ h => h) (Or.inl ⟨by rfl, ?_⟩) (by assumption) ?_
      rotate_left
      · (intro W hSw; (try dsimp only at hSw); go_simp) <;> with_reducible rfl
      try simp only [Act.put, List.setIfInBounds_toArray, List.set_cons_zero, List.set_cons_succ]
      refine wpAnyH_ready (rs := [3]) (by kernel_rfl) (by simp) ?_
      refine AllReadyH.cons (o := { dst := some 71, op := Op.call { callee := Callee.value (Operand.func 12), args := #[Operand.tmp 70], argTypes := #[25] }, type := 25, pos := "law.go:61", after := #[{ on := 2, ground := Ground.data }, { on := 1, ground := Ground.chain }, { on := 1, ground := Ground.guard }], guard := some (1, true) }) rfl (fun K hK => ?_) AllReadyH.nil
      go_simp
      go_at_call 12
      go_fit (CN1.out _ HB0.out)
      rintro r w1' ⟨T2, F2, c2, f2, rfl, ht2, hf2, hb2⟩
      have HT2 := Lib.hid ht2
      have HF2 := Lib.hid hf2
      have HB1 := Lib.hid (bthen HB0.out hb2)
      clear ht2 hf2 hb2
      go_wp2_with fail
      refine hK.out _ _ (HK.out _ HB1.out) (fun hHeld3 => ?_)
      clear hK K
      try simp only [Act.put, List.setIfInBounds_toArray, List.set_cons_zero, List.set_cons_succ]
      refine wpAnyH_ready (rs := [5]) (by kernel_rfl) (by simp) ?_
      refine AllReadyH.cons (o := { dst := some 73, op := Op.call { callee := Callee.value (Operand.func 13), args := #[Operand.tmp 71, Operand.tmp 72], argTypes := #[25, 25] }, type := 4, pos := "law.go:61", after := #[{ on := 3, ground := Ground.data }, { on := 4, ground := Ground.data }, { on := 3, ground := Ground.chain }, { on := 1, ground := Ground.guard }], guard := some (1, true) }) rfl (fun K hK => ?_) AllReadyH.nil
      go_simp
      go_at_call 13
      go_fit (CS1.out _ _ _ _ _ HB1.out HT2.out HF2.out)
      rintro r w2' ⟨rfl, hb2⟩
      have HB2 := Lib.hid (bthen HB1.out hb2)
      clear hb2
      go_wp2_with fail
      refine hK.out _ _ (HK.out _ HB2.out) (fun hHeld5 => ?_)
      clear hK K
      try simp only [Act.put, List.setIfInBounds_toArray, List.set_cons_zero, List.set_cons_succ]
      refine wpAnyH_take (i := 6) (oi := { dst := some 74, op := Op.pick (Operand.tmp 69) (Operand.tmp 73) (Operand.const (Value.bool false)), type := 4, pos := "law.go:61", after := #[{ on := 1, ground := Ground.data }, { on := 5, ground := Ground.data }], guard := none }) (v := ?_) rfl (by kernel_rfl) (by kernel_rfl) (by kernel_rfl) (fun _ _ _ h => h) (Or.inl ⟨by rfl, ?_⟩) (by assumption) ?_
      rotate_left
      · (intro W hSw; (try dsimp only at hSw); go_simp) <;> with_reducible rfl
      try simp only [Act.put, List.setIfInBounds_toArray, List.set_cons_zero, List.set_cons_succ]
      refine wpAnyH_take (i := 7) (oi := { dst := some 75, op := Op.move (Operand.tmp 74), type := 4, pos := "law.go:61", after := #[{ on := 6, ground := Ground.data }, { on := 5, ground := Ground.chain }], guard := none }) (v := ?_) rfl (by kernel_rfl) (by kernel_rfl) (by kernel_rfl) (fun _ _ _ h => h) (Or.inl ⟨by rfl, ?_⟩) (by assumption) ?_
      rotate_left
      · (intro W hSw; (try dsimp only at hSw); go_simp) <;> with_reducible rfl
      try simp only [Act.put, List.setIfInBounds_toArray, List.set_cons_zero, List.set_cons_succ]
      refine wpAnyH_take (i := 8) (oi := { dst := some 76, op := Op.load 25 (Operand.tmp 7), type := 25, pos := "law.go:61", after := #[{ on := 7, ground := Ground.guard }], guard := some (7, true) }) (v := ?_) rfl (by kernel_rfl) (by kernel_rfl) (by kernel_rfl) (fun _ _ _ h => h) (Or.inl ⟨by rfl, ?_⟩) (by assumption) ?_
      rotate_left
      · (intro W hSw; (try dsimp only at hSw); go_simp) <;> with_reducible rfl
      try simp only [Act.put, List.setIfInBounds_toArray, List.set_cons_zero, List.set_cons_succ]
      refine wpAnyH_take (i := 10) (oi := { dst := some 78, op := Op.load 25 (Operand.tmp 6), type := 25, pos := "law.go:61", after := #[{ on := 7, ground := Ground.guard }], guard := some (7, true) }) (v := ?_) rfl (by kernel_rfl) (by kernel_rfl) (by kernel_rfl) (fun _ _ _ h => h) (Or.inl ⟨by rfl, ?_⟩) (by assumption) ?_
      rotate_left
      · (intro W hSw; (try dsimp only at hSw); go_simp) <;> with_reducible rfl
      try simp only [Act.put, List.setIfInBounds_toArray, List.set_cons_zero, List.set_cons_succ]
      refine wpAnyH_ready (rs := [9]) (by kernel_rfl) (by simp) ?_
      refine AllReadyH.cons (o := { dst := some 77, op := Op.call { callee := Callee.value (Operand.func 12), args := #[Operand.tmp 76], argTypes := #[25] }, type := 25, pos := "law.go:61", after := #[{ on := 8, ground := Ground.data }, { on := 7, ground := Ground.chain }, { on := 7, ground := Ground.guard }], guard := some (7, true) }) rfl (fun K hK => ?_) AllReadyH.nil
      go_simp
      go_at_call 12
      go_fit (CN2.out _ HB2.out)
      rintro r w3' ⟨T3, F3, c3, f3, rfl, ht3, hf3, hb2⟩
      have HT3 := Lib.hid ht3
      have HF3 := Lib.hid hf3
      have HB3 := Lib.hid (bthen HB2.out hb2)
      clear ht3 hf3 hb2
      go_wp2_with fail
      refine hK.out _ _ (HK.out _ HB3.out) (fun hHeld9 => ?_)
      clear hK K
      try simp only [Act.put, List.setIfInBounds_toArray, List.set_cons_zero, List.set_cons_succ]
      refine wpAnyH_ready (rs := [11]) (by kernel_rfl) (by simp) ?_
      refine AllReadyH.cons (o := { dst := some 79, op := Op.call { callee := Callee.value (Operand.func 13), args := #[Operand.tmp 77, Operand.tmp 78], argTypes := #[25, 25] }, type := 4, pos := "law.go:61", after := #[{ on := 9, ground := Ground.data }, { on := 10, ground := Ground.data }, { on := 9, ground := Ground.chain }, { on := 7, ground := Ground.guard }], guard := some (7, true) }) rfl (fun K hK => ?_) AllReadyH.nil
      go_simp
      go_at_call 13
      go_fit (CS2.out _ _ _ _ _ HB3.out HT3.out HF3.out)
      rintro r w4' ⟨rfl, hb2⟩
      have HB4 := Lib.hid (bthen HB3.out hb2)
      clear hb2
      go_wp2_with fail
      refine hK.out _ _ (HK.out _ HB4.out) (fun hHeld11 => ?_)
      clear hK K
      try simp only [Act.put, List.setIfInBounds_toArray, List.set_cons_zero, List.set_cons_succ]
      refine wpAnyH_take (i := 12) (oi := { dst := some 80, op := Op.pick (Operand.tmp 75) (Operand.tmp 79) (Operand.const (Value.bool false)), type := 4, pos := "law.go:61", after := #[{ on := 7, ground := Ground.data }, { on := 11, ground := Ground.data }], guard := none }) (v := ?_) rfl (by kernel_rfl) (by kernel_rfl) (by kernel_rfl) (fun _ _ _ h => h) (Or.inl ⟨by rfl, ?_⟩) (by assumption) ?_
      rotate_left
      · (intro W hSw; (try dsimp only at hSw); go_simp) <;> with_reducible rfl
      try simp only [Act.put, List.setIfInBounds_toArray, List.set_cons_zero, List.set_cons_succ]
      refine wpAnyH_take (i := 13) (oi := { dst := some 81, op := Op.move (Operand.tmp 80), type := 4, pos := "law.go:61", after := #[{ on := 12, ground := Ground.data }, { on := 11, ground := Ground.chain }], guard := none }) (v := ?_) rfl (by kernel_rfl) (by kernel_rfl) (by kernel_rfl) (fun _ _ _ h => h) (Or.inl ⟨by rfl, ?_⟩) (by assumption) ?_
      rotate_left
      · (intro W hSw; (try dsimp only at hSw); go_simp) <;> with_reducible rfl
      try simp only [Act.put, List.setIfInBounds_toArray, List.set_cons_zero, List.set_cons_succ]
      refine wpAnyH_take (i := 14) (oi := { dst := some 82, op := Op.load 25 (Operand.tmp 6), type := 25, pos := "law.go:61", after := #[{ on := 13, ground := Ground.guard }], guard := some (13, true) }) (v := ?_) rfl (by kernel_rfl) (by kernel_rfl) (by kernel_rfl) (fun _ _ _ h => h) (Or.inl ⟨by rfl, ?_⟩) (by assumption) ?_
      rotate_left
      · (intro W hSw; (try dsimp only at hSw); go_simp) <;> with_reducible rfl
      try simp only [Act.put, List.setIfInBounds_toArray, List.set_cons_zero, List.set_cons_succ]
      refine wpAnyH_take (i := 15) (oi := { dst := some 83, op := Op.move (Operand.tmp 1), type := 9, pos := "law.go:61", after := #[{ on := 13, ground := Ground.guard }], guard := some (13, true) }) (v := ?_) rfl (by kernel_rfl) (by kernel_rfl) (by kernel_rfl) (fun _ _ _ h => h) (Or.inl ⟨by rfl, ?_⟩) (by assumption) ?_
      rotate_left
      · (intro W hSw; (try dsimp only at hSw); go_simp) <;> with_reducible rfl
      try simp only [Act.put, List.setIfInBounds_toArray, List.set_cons_zero, List.set_cons_succ]
      refine wpAnyH_take (i := 17) (oi := { dst := some 85, op := Op.load 25 (Operand.tmp 2), type := 25, pos := "law.go:61", after := #[{ on := 13, ground := Ground.guard }], guard := some (13, true) }) (v := ?_) rfl (by kernel_rfl) (by kernel_rfl) (by kernel_rfl) (fun _ _ _ h => h) (Or.inl ⟨by rfl, ?_⟩) (by assumption) ?_
      rotate_left
      · (intro W hSw; (try dsimp only at hSw); go_simp) <;> with_reducible rfl
      try simp only [Act.put, List.setIfInBounds_toArray, List.set_cons_zero, List.set_cons_succ]
      refine wpAnyH_take (i := 18) (oi := { dst := some 86, op := Op.move (Operand.tmp 1), type := 9, pos := "law.go:61", after := #[{ on := 13, ground := Ground.guard }], guard := some (13, true) }) (v := ?_) rfl (by kernel_rfl) (by kernel_rfl) (by kernel_rfl) (fun _ _ _ h => h) (Or.inl ⟨by rfl, ?_⟩) (by assumption) ?_
      rotate_left
      · (intro W hSw; (try dsimp only at hSw); go_simp) <;> with_reducible rfl
      try simp only [Act.put, List.setIfInBounds_toArray, List.set_cons_zero, List.set_cons_succ]
      refine wpAnyH_ready (rs := [16]) (by kernel_rfl) (by simp) ?_
      refine AllReadyH.cons (o := { dst := some 84, op := Op.call { callee := Callee.value (Operand.func 10), args := #[Operand.tmp 82, Operand.tmp 83], argTypes := #[25, 9] }, type := 4, pos := "law.go:61", after := #[{ on := 14, ground := Ground.data }, { on := 15, ground := Ground.data }, { on := 13, ground := Ground.chain }, { on := 13, ground := Ground.guard }], guard := some (13, true) }) rfl (fun K hK => ?_) AllReadyH.nil
      go_simp
      go_at_call 10
      go_fit (CH1.out _ HB4.out)
      rintro r w5' ⟨rfl, hb2⟩
      have HB5 := Lib.hid (bthen HB4.out hb2)
      clear hb2
      go_wp2_with fail
      refine hK.out _ _ (HK.out _ HB5.out) (fun hHeld16 => ?_)
      clear hK K
      try simp only [Act.put, List.setIfInBounds_toArray, List.set_cons_zero, List.set_cons_succ]
      refine wpAnyH_ready (rs := [19]) (by kernel_rfl) (by simp) ?_
      refine AllReadyH.cons (o := { dst := some 87, op := Op.call { callee := Callee.value (Operand.func 10), args := #[Operand.tmp 85, Operand.tmp 86], argTypes := #[25, 9] }, type := 4, pos := "law.go:61", after := #[{ on := 17, ground := Ground.data }, { on := 18, ground := Ground.data }, { on := 16, ground := Ground.chain }, { on := 13, ground := Ground.guard }], guard := some (13, true) }) rfl (fun K hK => ?_) AllReadyH.nil
      go_simp
      go_at_call 10
      go_fit (CH2.out _ HB5.out)
      rintro r w6' ⟨rfl, hb2⟩
      have HB6 := Lib.hid (bthen HB5.out hb2)
      clear hb2
      go_wp2_with fail
      refine hK.out _ _ (HK.out _ HB6.out) (fun hHeld19 => ?_)
      clear hK K
      try simp only [Act.put, List.setIfInBounds_toArray, List.set_cons_zero, List.set_cons_succ]
      refine wpAnyH_take (i := 20) (oi := { dst := some 88, op := Op.binOp BinOp.eql 4 (Operand.tmp 84) (Operand.tmp 87) 4, type := 4, pos := "law.go:61", after := #[{ on := 16, ground := Ground.data }, { on := 19, ground := Ground.data }, { on := 13, ground := Ground.guard }], guard := some (13, true) }) (v := ?_) rfl (by kernel_rfl) (by kernel_rfl) (by kernel_rfl) (fun _ _ _ h => h) (Or.inl ⟨by rfl, ?_⟩) (by assumption) ?_
      rotate_left
      · (intro W hSw; (try dsimp only at hSw); go_simp) <;> with_reducible rfl
      try simp only [Act.put, List.setIfInBounds_toArray, List.set_cons_zero, List.set_cons_succ]
      refine wpAnyH_take (i := 21) (oi := { dst := some 89, op := Op.pick (Operand.tmp 81) (Operand.tmp 88) (Operand.const (Value.bool false)), type := 4, pos := "law.go:61", after := #[{ on := 13, ground := Ground.data }, { on := 20, ground := Ground.data }], guard := none }) (v := ?_) rfl (by kernel_rfl) (by kernel_rfl) (by kernel_rfl) (fun _ _ _ h => h) (Or.inl ⟨by rfl, ?_⟩) (by assumption) ?_
      rotate_left
      · (intro W hSw; (try dsimp only at hSw); go_simp) <;> with_reducible rfl
      try simp only [Act.put, List.setIfInBounds_toArray, List.set_cons_zero, List.set_cons_succ]
      refine wpAnyH_take (i := 22) (oi := { dst := some 90, op := Op.move (Operand.tmp 89), type := 4, pos := "law.go:61", after := #[{ on := 21, ground := Ground.data }, { on := 19, ground := Ground.chain }], guard := none }) (v := ?_) rfl (by kernel_rfl) (by kernel_rfl) (by kernel_rfl) (fun _ _ _ h => h) (Or.inl ⟨by rfl, ?_⟩) (by assumption) ?_
      rotate_left
      · (intro W hSw; (try dsimp only at hSw); go_simp) <;> with_reducible rfl
      try simp only [Act.put, List.setIfInBounds_toArray, List.set_cons_zero, List.set_cons_succ]
      refine wpAnyH_take (i := 23) (oi := { dst := some 91, op := Op.load 25 (Operand.tmp 2), type := 25, pos := "law.go:61", after := #[{ on := 22, ground := Ground.guard }], guard := some (22, true) }) (v := ?_) rfl (by kernel_rfl) (by kernel_rfl) (by kernel_rfl) (fun _ _ _ h => h) (Or.inl ⟨by rfl, ?_⟩) (by assumption) ?_
      rotate_left
      · (intro W hSw; (try dsimp only at hSw); go_simp) <;> with_reducible rfl
      try simp only [Act.put, List.setIfInBounds_toArray, List.set_cons_zero, List.set_cons_succ]
      refine wpAnyH_ready (rs := [24]) (by kernel_rfl) (by simp) ?_
      refine AllReadyH.cons (o := { dst := some 92, op := Op.call { callee := Callee.value (Operand.func 9), args := #[Operand.tmp 91], argTypes := #[25] }, type := 28, pos := "law.go:61", after := #[{ on := 23, ground := Ground.data }, { on := 22, ground := Ground.chain }, { on := 22, ground := Ground.guard }], guard := some (22, true) }) rfl (fun K hK => ?_) AllReadyH.nil
      go_simp
      go_at_call 9
      go_fit (CM1.out _ HB6.out)
      rintro r w7' ⟨rfl, hb2⟩
      have HB7 := Lib.hid (bthen HB6.out hb2)
      clear hb2
      go_wp2_with fail
      refine hK.out _ _ (HK.out _ HB7.out) (fun hHeld24 => ?_)
      clear hK K
      try simp only [Act.put, List.setIfInBounds_toArray, List.set_cons_zero, List.set_cons_succ]
      refine wpAnyH_take (i := 25) (oi := { dst := some 93, op := Op.binOp BinOp.neq 28 (Operand.tmp 92) (Operand.const (Value.int IntKind.i64 0)) 28, type := 4, pos := "law.go:61", after := #[{ on := 24, ground := Ground.data }, { on := 22, ground := Ground.guard }], guard := some (22, true) }) (v := ?_) rfl (by kernel_rfl) (by kernel_rfl) (by kernel_rfl) (fun _ _ _ h => h) (Or.inl ⟨by rfl, ?_⟩) (by assumption) ?_
      rotate_left
      · (intro W hSw; (try dsimp only at hSw); go_simp) <;> with_reducible rfl
      try simp only [Act.put, List.setIfInBounds_toArray, List.set_cons_zero, List.set_cons_succ]
      refine wpAnyH_take (i := 26) (oi := { dst := some 94, op := Op.move (Operand.tmp 93), type := 4, pos := "law.go:61", after := #[{ on := 25, ground := Ground.data }, { on := 24, ground := Ground.chain }, { on := 22, ground := Ground.guard }], guard := some (22, true) }) (v := ?_) rfl (by kernel_rfl) (by kernel_rfl) (by kernel_rfl) (fun _ _ _ h => h) (Or.inl ⟨by rfl, ?_⟩) (by assumption) ?_
      rotate_left
      · (intro W hSw; (try dsimp only at hSw); go_simp) <;> with_reducible rfl
      try simp only [Act.put, List.setIfInBounds_toArray, List.set_cons_zero, List.set_cons_succ]
      refine wpAnyH_take (i := 27) (oi := { dst := some 95, op := Op.load 25 (Operand.tmp 6), type := 25, pos := "law.go:61", after := #[{ on := 26, ground := Ground.guard }], guard := some (26, false) }) (v := undef) rfl (by kernel_rfl) (by kernel_rfl) (by kernel_rfl) (fun _ _ _ h => h) (Or.inr ⟨by rfl, rfl⟩) (by assumption) ?_
      try simp only [Act.put, List.setIfInBounds_toArray, List.set_cons_zero, List.set_cons_succ]
      refine wpAnyH_take (i := 28) (oi := { dst := some 96, op := Op.load 25 (Operand.tmp 2), type := 25, pos := "law.go:61", after := #[{ on := 26, ground := Ground.guard }], guard := some (26, false) }) (v := undef) rfl (by kernel_rfl) (by kernel_rfl) (by kernel_rfl) (fun _ _ _ h => h) (Or.inr ⟨by rfl, rfl⟩) (by assumption) ?_
      try simp only [Act.put, List.setIfInBounds_toArray, List.set_cons_zero, List.set_cons_succ]
      refine wpAnyH_take (i := 29) (oi := { dst := some 97, op := Op.call { callee := Callee.value (Operand.func 13), args := #[Operand.tmp 95, Operand.tmp 96], argTypes := #[25, 25] }, type := 4, pos := "law.go:61", after := #[{ on := 27, ground := Ground.data }, { on := 28, ground := Ground.data }, { on := 26, ground := Ground.chain }, { on := 26, ground := Ground.guard }], guard := some (26, false) }) (v := undef) rfl (by kernel_rfl) (by kernel_rfl) (by kernel_rfl) (fun _ _ _ h => h) (Or.inr ⟨by rfl, rfl⟩) (by assumption) ?_
      try simp only [Act.put, List.setIfInBounds_toArray, List.set_cons_zero, List.set_cons_succ]
      refine wpAnyH_take (i := 30) (oi := { dst := some 98, op := Op.pick (Operand.tmp 94) (Operand.const (Value.bool true)) (Operand.tmp 97), type := 4, pos := "law.go:61", after := #[{ on := 26, ground := Ground.data }, { on := 29, ground := Ground.data }, { on := 22, ground := Ground.guard }], guard := some (22, true) }) (v := ?_) rfl (by kernel_rfl) (by kernel_rfl) (by kernel_rfl) (fun _ _ _ h => h) (Or.inl ⟨by rfl, ?_⟩) (by assumption) ?_
      rotate_left
      · (intro W hSw; (try dsimp only at hSw); go_simp) <;> with_reducible rfl
      try simp only [Act.put, List.setIfInBounds_toArray, List.set_cons_zero, List.set_cons_succ]
      refine wpAnyH_take (i := 31) (oi := { dst := some 99, op := Op.pick (Operand.tmp 90) (Operand.tmp 98) (Operand.const (Value.bool false)), type := 4, pos := "law.go:61", after := #[{ on := 22, ground := Ground.data }, { on := 30, ground := Ground.data }], guard := none }) (v := ?_) rfl (by kernel_rfl) (by kernel_rfl) (by kernel_rfl) (fun _ _ _ h => h) (Or.inl ⟨by rfl, ?_⟩) (by assumption) ?_
      rotate_left
      · (intro W hSw; (try dsimp only at hSw); go_simp) <;> with_reducible rfl
      try simp only [Act.put, List.setIfInBounds_toArray, List.set_cons_zero, List.set_cons_succ]
      refine wpAnyH_take (i := 32) (oi := { dst := some 100, op := Op.move (Operand.tmp 99), type := 4, pos := "law.go:61", after := #[{ on := 31, ground := Ground.data }, { on := 29, ground := Ground.chain }], guard := none }) (v := ?_) rfl (by kernel_rfl) (by kernel_rfl) (by kernel_rfl) (fun _ _ _ h => h) (Or.inl ⟨by rfl, ?_⟩) (by assumption) ?_
      rotate_left
      · (intro W hSw; (try dsimp only at hSw); go_simp) <;> with_reducible rfl
      try simp only [Act.put, List.setIfInBounds_toArray, List.set_cons_zero, List.set_cons_succ]
      refine wpAnyH_take (i := 33) (oi := { dst := some 101, op := Op.load 25 (Operand.tmp 2), type := 25, pos := "law.go:61", after := #[{ on := 32, ground := Ground.guard }], guard := some (32, true) }) (v := ?_) rfl (by kernel_rfl) (by kernel_rfl) (by kernel_rfl) (fun _ _ _ h => h) (Or.inl ⟨by rfl, ?_⟩) (by assumption) ?_
      rotate_left
      · (intro W hSw; (try dsimp only at hSw); go_simp) <;> with_reducible rfl
      try simp only [Act.put, List.setIfInBounds_toArray, List.set_cons_zero, List.set_cons_succ]
      refine wpAnyH_ready (rs := [34]) (by kernel_rfl) (by simp) ?_
      refine AllReadyH.cons (o := { dst := some 102, op := Op.call { callee := Callee.value (Operand.func 9), args := #[Operand.tmp 101], argTypes := #[25] }, type := 28, pos := "law.go:61", after := #[{ on := 33, ground := Ground.data }, { on := 32, ground := Ground.chain }, { on := 32, ground := Ground.guard }], guard := some (32, true) }) rfl (fun K hK => ?_) AllReadyH.nil
      go_simp
      go_at_call 9
      go_fit (CM1.out _ HB7.out)
      rintro r w8' ⟨rfl, hb2⟩
      have HB8 := Lib.hid (bthen HB7.out hb2)
      clear hb2
      go_wp2_with fail
      refine hK.out _ _ (HK.out _ HB8.out) (fun hHeld34 => ?_)
      clear hK K
      try simp only [Act.put, List.setIfInBounds_toArray, List.set_cons_zero, List.set_cons_succ]
      refine wpAnyH_take (i := 35) (oi := { dst := some 103, op := Op.binOp BinOp.neq 28 (Operand.tmp 102) (Operand.const (Value.int IntKind.i64 1)) 28, type := 4, pos := "law.go:61", after := #[{ on := 34, ground := Ground.data }, { on := 32, ground := Ground.guard }], guard := some (32, true) }) (v := ?_) rfl (by kernel_rfl) (by kernel_rfl) (by kernel_rfl) (fun _ _ _ h => h) (Or.inl ⟨by rfl, ?_⟩) (by assumption) ?_
      rotate_left
      · (intro W hSw; (try dsimp only at hSw); go_simp) <;> with_reducible rfl
      try simp only [Act.put, List.setIfInBounds_toArray, List.set_cons_zero, List.set_cons_succ]
      refine wpAnyH_take (i := 36) (oi := { dst := some 104, op := Op.move (Operand.tmp 103), type := 4, pos := "law.go:61", after := #[{ on := 35, ground := Ground.data }, { on := 34, ground := Ground.chain }, { on := 32, ground := Ground.guard }], guard := some (32, true) }) (v := ?_) rfl (by kernel_rfl) (by kernel_rfl) (by kernel_rfl) (fun _ _ _ h => h) (Or.inl ⟨by rfl, ?_⟩) (by assumption) ?_
      rotate_left
      · (intro W hSw; (try dsimp only at hSw); go_simp) <;> with_reducible rfl
      try simp only [Act.put, List.setIfInBounds_toArray, List.set_cons_zero, List.set_cons_succ]
      refine wpAnyH_take (i := 37) (oi := { dst := some 105, op := Op.load 25 (Operand.tmp 6), type := 25, pos := "law.go:61", after := #[{ on := 36, ground := Ground.guard }], guard := some (36, false) }) (v := ?_) rfl (by kernel_rfl) (by kernel_rfl) (by kernel_rfl) (fun _ _ _ h => h) (Or.inl ⟨by rfl, ?_⟩) (by assumption) ?_
      rotate_left
      · (intro W hSw; (try dsimp only at hSw); go_simp) <;> with_reducible rfl
      try simp only [Act.put, List.setIfInBounds_toArray, List.set_cons_zero, List.set_cons_succ]
      refine wpAnyH_ready (rs := [38]) (by kernel_rfl) (by simp) ?_
      refine AllReadyH.cons (o := { dst := some 106, op := Op.call { callee := Callee.value (Operand.func 9), args := #[Operand.tmp 105], argTypes := #[25] }, type := 28, pos := "law.go:61", after := #[{ on := 37, ground := Ground.data }, { on := 36, ground := Ground.chain }, { on := 36, ground := Ground.guard }], guard := some (36, false) }) rfl (fun K hK => ?_) AllReadyH.nil
      go_simp
      go_at_call 9
      go_fit (CM2.out _ HB8.out)
      rintro r w9' ⟨rfl, hb2⟩
      have HB9 := Lib.hid (bthen HB8.out hb2)
      clear hb2
      go_wp2_with fail
      refine hK.out _ _ (HK.out _ HB9.out) (fun hHeld38 => ?_)
      clear hK K
      try simp only [Act.put, List.setIfInBounds_toArray, List.set_cons_zero, List.set_cons_succ]
      refine wpAnyH_take (i := 39) (oi := { dst := some 107, op := Op.binOp BinOp.eql 28 (Operand.tmp 106) (Operand.const (Value.int IntKind.i64 0)) 28, type := 4, pos := "law.go:61", after := #[{ on := 38, ground := Ground.data }, { on := 36, ground := Ground.guard }], guard := some (36, false) }) (v := ?_) rfl (by kernel_rfl) (by kernel_rfl) (by kernel_rfl) (fun _ _ _ h => h) (Or.inl ⟨by rfl, ?_⟩) (by assumption) ?_
      rotate_left
      · (intro W hSw; (try dsimp only at hSw); go_simp) <;> with_reducible rfl
      try simp only [Act.put, List.setIfInBounds_toArray, List.set_cons_zero, List.set_cons_succ]
      refine wpAnyH_take (i := 40) (oi := { dst := some 108, op := Op.pick (Operand.tmp 104) (Operand.const (Value.bool true)) (Operand.tmp 107), type := 4, pos := "law.go:61", after := #[{ on := 36, ground := Ground.data }, { on := 39, ground := Ground.data }, { on := 32, ground := Ground.guard }], guard := some (32, true) }) (v := ?_) rfl (by kernel_rfl) (by kernel_rfl) (by kernel_rfl) (fun _ _ _ h => h) (Or.inl ⟨by rfl, ?_⟩) (by assumption) ?_
      rotate_left
      · (intro W hSw; (try dsimp only at hSw); go_simp) <;> with_reducible rfl
      try simp only [Act.put, List.setIfInBounds_toArray, List.set_cons_zero, List.set_cons_succ]
      refine wpAnyH_take (i := 41) (oi := { dst := some 109, op := Op.move (Operand.tmp 108), type := 4, pos := "law.go:61", after := #[{ on := 40, ground := Ground.data }, { on := 38, ground := Ground.chain }, { on := 32, ground := Ground.guard }], guard := some (32, true) }) (v := ?_) rfl (by kernel_rfl) (by kernel_rfl) (by kernel_rfl) (fun _ _ _ h => h) (Or.inl ⟨by rfl, ?_⟩) (by assumption) ?_
      rotate_left
      · (intro W hSw; (try dsimp only at hSw); go_simp) <;> with_reducible rfl
      try simp only [Act.put, List.setIfInBounds_toArray, List.set_cons_zero, List.set_cons_succ]
      refine wpAnyH_take (i := 42) (oi := { dst := some 110, op := Op.load 25 (Operand.tmp 6), type := 25, pos := "law.go:61", after := #[{ on := 41, ground := Ground.guard }], guard := some (41, false) }) (v := ?_) rfl (by kernel_rfl) (by kernel_rfl) (by kernel_rfl) (fun _ _ _ h => h) (Or.inl ⟨by rfl, ?_⟩) (by assumption) ?_
      rotate_left
      · (intro W hSw; (try dsimp only at hSw); go_simp) <;> with_reducible rfl
      try simp only [Act.put, List.setIfInBounds_toArray, List.set_cons_zero, List.set_cons_succ]
      refine wpAnyH_ready (rs := [43]) (by kernel_rfl) (by simp) ?_
      refine AllReadyH.cons (o := { dst := some 111, op := Op.call { callee := Callee.value (Operand.func 9), args := #[Operand.tmp 110], argTypes := #[25] }, type := 28, pos := "law.go:61", after := #[{ on := 42, ground := Ground.data }, { on := 41, ground := Ground.chain }, { on := 41, ground := Ground.guard }], guard := some (41, false) }) rfl (fun K hK => ?_) AllReadyH.nil
      go_simp
      go_at_call 9
      go_fit (CM2.out _ HB9.out)
      rintro r w10' ⟨rfl, hb2⟩
      have HB10 := Lib.hid (bthen HB9.out hb2)
      clear hb2
      go_wp2_with fail
      refine hK.out _ _ (HK.out _ HB10.out) (fun hHeld43 => ?_)
      clear hK K
      try simp only [Act.put, List.setIfInBounds_toArray, List.set_cons_zero, List.set_cons_succ]
      refine wpAnyH_take (i := 44) (oi := { dst := some 112, op := Op.binOp BinOp.eql 28 (Operand.tmp 111) (Operand.const (Value.int IntKind.i64 1)) 28, type := 4, pos := "law.go:61", after := #[{ on := 43, ground := Ground.data }, { on := 41, ground := Ground.guard }], guard := some (41, false) }) (v := ?_) rfl (by kernel_rfl) (by kernel_rfl) (by kernel_rfl) (fun _ _ _ h => h) (Or.inl ⟨by rfl, ?_⟩) (by assumption) ?_
      rotate_left
      · (intro W hSw; (try dsimp only at hSw); go_simp) <;> with_reducible rfl
      try simp only [Act.put, List.setIfInBounds_toArray, List.set_cons_zero, List.set_cons_succ]
      refine wpAnyH_take (i := 45) (oi := { dst := some 113, op := Op.pick (Operand.tmp 109) (Operand.const (Value.bool true)) (Operand.tmp 112), type := 4, pos := "law.go:61", after := #[{ on := 41, ground := Ground.data }, { on := 44, ground := Ground.data }, { on := 32, ground := Ground.guard }], guard := some (32, true) }) (v := ?_) rfl (by kernel_rfl) (by kernel_rfl) (by kernel_rfl) (fun _ _ _ h => h) (Or.inl ⟨by rfl, ?_⟩) (by assumption) ?_
      rotate_left
      · (intro W hSw; (try dsimp only at hSw); go_simp) <;> with_reducible rfl
      try simp only [Act.put, List.setIfInBounds_toArray, List.set_cons_zero, List.set_cons_succ]
      refine wpAnyH_take (i := 46) (oi := { dst := some 114, op := Op.pick (Operand.tmp 100) (Operand.tmp 113) (Operand.const (Value.bool false)), type := 4, pos := "law.go:61", after := #[{ on := 32, ground := Ground.data }, { on := 45, ground := Ground.data }], guard := none }) (v := ?_) rfl (by kernel_rfl) (by kernel_rfl) (by kernel_rfl) (fun _ _ _ h => h) (Or.inl ⟨by rfl, ?_⟩) (by assumption) ?_
      rotate_left
      · (intro W hSw; (try dsimp only at hSw); go_simp) <;> with_reducible rfl
      try simp only [Act.put, List.setIfInBounds_toArray, List.set_cons_zero, List.set_cons_succ]
      refine wpAnyH_take (i := 47) (oi := { dst := some 4, op := Op.assign (Operand.tmp 114), type := 4, pos := "law.go:61", after := #[{ on := 46, ground := Ground.data }, { on := 43, ground := Ground.chain }, { on := 0, ground := Ground.phase }, { on := 1, ground := Ground.phase }, { on := 2, ground := Ground.phase }, { on := 3, ground := Ground.phase }, { on := 4, ground := Ground.phase }, { on := 5, ground := Ground.phase }, { on := 6, ground := Ground.phase }, { on := 7, ground := Ground.phase }, { on := 8, ground := Ground.phase }, { on := 9, ground := Ground.phase }, { on := 10, ground := Ground.phase }, { on := 11, ground := Ground.phase }, { on := 12, ground := Ground.phase }, { on := 13, ground := Ground.phase }, { on := 14, ground := Ground.phase }, { on := 15, ground := Ground.phase }, { on := 16, ground := Ground.phase }, { on := 17, ground := Ground.phase }, { on := 18, ground := Ground.phase }, { on := 19, ground := Ground.phase }, { on := 20, ground := Ground.phase }, { on := 21, ground := Ground.phase }, { on := 22, ground := Ground.phase }, { on := 23, ground := Ground.phase }, { on := 24, ground := Ground.phase }, { on := 25, ground := Ground.phase }, { on := 26, ground := Ground.phase }, { on := 27, ground := Ground.phase }, { on := 28, ground := Ground.phase }, { on := 29, ground := Ground.phase }, { on := 30, ground := Ground.phase }, { on := 31, ground := Ground.phase }, { on := 32, ground := Ground.phase }, { on := 33, ground := Ground.phase }, { on := 34, ground := Ground.phase }, { on := 35, ground := Ground.phase }, { on := 36, ground := Ground.phase }, { on := 37, ground := Ground.phase }, { on := 38, ground := Ground.phase }, { on := 39, ground := Ground.phase }, { on := 40, ground := Ground.phase }, { on := 41, ground := Ground.phase }, { on := 42, ground := Ground.phase }, { on := 43, ground := Ground.phase }, { on := 44, ground := Ground.phase }, { on := 45, ground := Ground.phase }, { on := 46, ground := Ground.phase }], guard := none }) (v := ?_) rfl (by kernel_rfl) (by kernel_rfl) (by kernel_rfl) (fun _ _ _ h => h) (Or.inl ⟨by rfl, ?_⟩) (by assumption) ?_
      rotate_left
      · (intro W hSw; (try dsimp only at hSw); go_simp) <;> with_reducible rfl
      try simp only [Act.put, List.setIfInBounds_toArray, List.set_cons_zero, List.set_cons_succ]
      refine wpAnyH_done (by kernel_rfl) ?_ _
      -- END c
      go_wp2_with fail
      go_ret
      exact ⟨rfl, bthen HBZ.out (And.left (by assumption : Below Z.heap.size Z _ ∧ _))⟩
    · have d0 : (m == 0) = false := by simp [h0]
      have d1 : (m != 0) = true := by simp [h0]
      have d2 : (m == 1) = false := by simp [h1]
      have d3 : (m != 1) = true := by simp [h1]
      clear h0 h1
      refine wp_region_held_drew (S := (fun W => Below Z.heap.size Z W ∧ W.cell? ⟨w.heap.size, 0, none⟩ = some (.string a.stream) ∧ W.cell? ⟨w.heap.size, 1, none⟩ = some (.string a.type) ∧ W.cell? ⟨w.heap.size, 2, none⟩ = some (.slice T a.tags.length ct) ∧ W.cell? ⟨w.heap.size, 3, none⟩ = some (.slice F a.fields.length cf) ∧ W.cell? ⟨bn, 0, none⟩ = some (.string n.stream) ∧ W.cell? ⟨bn, 1, none⟩ = some (.string n.type) ∧ W.cell? ⟨bn, 2, none⟩ = some (.slice T1 n.tags.length c1) ∧ W.cell? ⟨bn, 3, none⟩ = some (.slice F1 n.fields.length f1) ∧ W.cell? ⟨bb, 0, none⟩ = some (.string a.stream) ∧ W.cell? ⟨bb, 1, none⟩ = some (.string a.type) ∧ W.cell? ⟨bb, 2, none⟩ = some (.slice V a.tags.length cv) ∧ W.cell? ⟨bb, 3, none⟩ = some (.slice F a.fields.length cf))) (by kernel_rfl) (HK.out _ (below_drawn (Below.refl _ _))) (fun hHeld => ?_)
      have HB0 := Lib.hid (show Below Z.heap.size Z Z.drew from below_drawn (Below.refl _ _))
      -- WALK d
      refine wpAnyH_take (i := 0) (oi := { dst := some 68, op := Op.move (Operand.tmp 5), type := 4, pos := "law.go:61", after := #[], guard := none }) (v := ?_) rfl (by kernel_rfl) (by kernel_rfl) (by kernel_rfl) (fun _ _ _ h => h) (Or.inl ⟨by rfl, ?_⟩) (by assumption) ?_
      rotate_left
      · (intro W hSw; (try dsimp only at hSw); go_simp) <;> with_reducible rfl
      try simp only [Act.put, List.setIfInBounds_toArray, List.set_cons_zero, List.set_cons_succ]
      refine wpAnyH_take (i := 1) (oi := { dst := some 69, op := Op.move (Operand.tmp 68), type := 4, pos := "law.go:61", after := #[{ on := 0, ground := Ground.data }], guard := none }) (v := ?_) rfl (by kernel_rfl) (by kernel_rfl) (by kernel_rfl) (fun _ _ _ h => h) (Or.inl ⟨by rfl, ?_⟩) (by assumption) ?_
      rotate_left
      · (intro W hSw; (try dsimp only at hSw); go_simp) <;> with_reducible rfl
      try simp only [Act.put, List.setIfInBounds_toArray, List.set_cons_zero, List.set_cons_succ]
      refine wpAnyH_take (i := 2) (oi := { dst := some 70, op := Op.load 25 (Operand.tmp 6), type := 25, pos := "law.go:61", after := #[{ on := 1, ground := Ground.guard }], guard := some (1, true) }) (v := ?_) rfl (by kernel_rfl) (by kernel_rfl) (by kernel_rfl) (fun _ _ _ h => h) (Or.inl ⟨by rfl, ?_⟩) (by assumption) ?_
      rotate_left
      · (intro W hSw; (try dsimp only at hSw); go_simp) <;> with_reducible rfl
      try simp only [Act.put, List.setIfInBounds_toArray, List.set_cons_zero, List.set_cons_succ]
      refine wpAnyH_take (i := 4) (oi := { dst := some 72, op := Op.load 25 (Operand.tmp 6), type := 25, pos := "law.go:61", after := #[{ on := 1, ground := Ground.guard }], guard := some (1, true) }) (v := ?_) rfl (by kernel_rfl) (by kernel_rfl) (by kernel_rfl) (fun _ _ _ h => h) (Or.inl ⟨by rfl, ?_⟩) (by assumption) ?_
      rotate_left
      · (intro W hSw; (try dsimp only at hSw); go_simp) <;> with_reducible rfl
      try simp only [Act.put, List.setIfInBounds_toArray, List.set_cons_zero, List.set_cons_succ]
      refine wpAnyH_ready (rs := [3]) (by kernel_rfl) (by simp) ?_
      refine AllReadyH.cons (o := { dst := some 71, op := Op.call { callee := Callee.value (Operand.func 12), args := #[Operand.tmp 70], argTypes := #[25] }, type := 25, pos := "law.go:61", after := #[{ on := 2, ground := Ground.data }, { on := 1, ground := Ground.chain }, { on := 1, ground := Ground.guard }], guard := some (1, true) }) rfl (fun K hK => ?_) AllReadyH.nil
      go_simp
      go_at_call 12
      go_fit (CN1.out _ HB0.out)
      rintro r w1' ⟨T2, F2, c2, f2, rfl, ht2, hf2, hb2⟩
      have HT2 := Lib.hid ht2
      have HF2 := Lib.hid hf2
      have HB1 := Lib.hid (bthen HB0.out hb2)
      clear ht2 hf2 hb2
      go_wp2_with fail
      refine hK.out _ _ (HK.out _ HB1.out) (fun hHeld3 => ?_)
      clear hK K
      try simp only [Act.put, List.setIfInBounds_toArray, List.set_cons_zero, List.set_cons_succ]
      refine wpAnyH_ready (rs := [5]) (by kernel_rfl) (by simp) ?_
      refine AllReadyH.cons (o := { dst := some 73, op := Op.call { callee := Callee.value (Operand.func 13), args := #[Operand.tmp 71, Operand.tmp 72], argTypes := #[25, 25] }, type := 4, pos := "law.go:61", after := #[{ on := 3, ground := Ground.data }, { on := 4, ground := Ground.data }, { on := 3, ground := Ground.chain }, { on := 1, ground := Ground.guard }], guard := some (1, true) }) rfl (fun K hK => ?_) AllReadyH.nil
      go_simp
      go_at_call 13
      go_fit (CS1.out _ _ _ _ _ HB1.out HT2.out HF2.out)
      rintro r w2' ⟨rfl, hb2⟩
      have HB2 := Lib.hid (bthen HB1.out hb2)
      clear hb2
      go_wp2_with fail
      refine hK.out _ _ (HK.out _ HB2.out) (fun hHeld5 => ?_)
      clear hK K
      try simp only [Act.put, List.setIfInBounds_toArray, List.set_cons_zero, List.set_cons_succ]
      refine wpAnyH_take (i := 6) (oi := { dst := some 74, op := Op.pick (Operand.tmp 69) (Operand.tmp 73) (Operand.const (Value.bool false)), type := 4, pos := "law.go:61", after := #[{ on := 1, ground := Ground.data }, { on := 5, ground := Ground.data }], guard := none }) (v := ?_) rfl (by kernel_rfl) (by kernel_rfl) (by kernel_rfl) (fun _ _ _ h => h) (Or.inl ⟨by rfl, ?_⟩) (by assumption) ?_
      rotate_left
      · (intro W hSw; (try dsimp only at hSw); go_simp) <;> with_reducible rfl
      try simp only [Act.put, List.setIfInBounds_toArray, List.set_cons_zero, List.set_cons_succ]
      refine wpAnyH_take (i := 7) (oi := { dst := some 75, op := Op.move (Operand.tmp 74), type := 4, pos := "law.go:61", after := #[{ on := 6, ground := Ground.data }, { on := 5, ground := Ground.chain }], guard := none }) (v := ?_) rfl (by kernel_rfl) (by kernel_rfl) (by kernel_rfl) (fun _ _ _ h => h) (Or.inl ⟨by rfl, ?_⟩) (by assumption) ?_
      rotate_left
      · (intro W hSw; (try dsimp only at hSw); go_simp) <;> with_reducible rfl
      try simp only [Act.put, List.setIfInBounds_toArray, List.set_cons_zero, List.set_cons_succ]
      refine wpAnyH_take (i := 8) (oi := { dst := some 76, op := Op.load 25 (Operand.tmp 7), type := 25, pos := "law.go:61", after := #[{ on := 7, ground := Ground.guard }], guard := some (7, true) }) (v := ?_) rfl (by kernel_rfl) (by kernel_rfl) (by kernel_rfl) (fun _ _ _ h => h) (Or.inl ⟨by rfl, ?_⟩) (by assumption) ?_
      rotate_left
      · (intro W hSw; (try dsimp only at hSw); go_simp) <;> with_reducible rfl
      try simp only [Act.put, List.setIfInBounds_toArray, List.set_cons_zero, List.set_cons_succ]
      refine wpAnyH_take (i := 10) (oi := { dst := some 78, op := Op.load 25 (Operand.tmp 6), type := 25, pos := "law.go:61", after := #[{ on := 7, ground := Ground.guard }], guard := some (7, true) }) (v := ?_) rfl (by kernel_rfl) (by kernel_rfl) (by kernel_rfl) (fun _ _ _ h => h) (Or.inl ⟨by rfl, ?_⟩) (by assumption) ?_
      rotate_left
      · (intro W hSw; (try dsimp only at hSw); go_simp) <;> with_reducible rfl
      try simp only [Act.put, List.setIfInBounds_toArray, List.set_cons_zero, List.set_cons_succ]
      refine wpAnyH_ready (rs := [9]) (by kernel_rfl) (by simp) ?_
      refine AllReadyH.cons (o := { dst := some 77, op := Op.call { callee := Callee.value (Operand.func 12), args := #[Operand.tmp 76], argTypes := #[25] }, type := 25, pos := "law.go:61", after := #[{ on := 8, ground := Ground.data }, { on := 7, ground := Ground.chain }, { on := 7, ground := Ground.guard }], guard := some (7, true) }) rfl (fun K hK => ?_) AllReadyH.nil
      go_simp
      go_at_call 12
      go_fit (CN2.out _ HB2.out)
      rintro r w3' ⟨T3, F3, c3, f3, rfl, ht3, hf3, hb2⟩
      have HT3 := Lib.hid ht3
      have HF3 := Lib.hid hf3
      have HB3 := Lib.hid (bthen HB2.out hb2)
      clear ht3 hf3 hb2
      go_wp2_with fail
      refine hK.out _ _ (HK.out _ HB3.out) (fun hHeld9 => ?_)
      clear hK K
      try simp only [Act.put, List.setIfInBounds_toArray, List.set_cons_zero, List.set_cons_succ]
      refine wpAnyH_ready (rs := [11]) (by kernel_rfl) (by simp) ?_
      refine AllReadyH.cons (o := { dst := some 79, op := Op.call { callee := Callee.value (Operand.func 13), args := #[Operand.tmp 77, Operand.tmp 78], argTypes := #[25, 25] }, type := 4, pos := "law.go:61", after := #[{ on := 9, ground := Ground.data }, { on := 10, ground := Ground.data }, { on := 9, ground := Ground.chain }, { on := 7, ground := Ground.guard }], guard := some (7, true) }) rfl (fun K hK => ?_) AllReadyH.nil
      go_simp
      go_at_call 13
      go_fit (CS2.out _ _ _ _ _ HB3.out HT3.out HF3.out)
      rintro r w4' ⟨rfl, hb2⟩
      have HB4 := Lib.hid (bthen HB3.out hb2)
      clear hb2
      go_wp2_with fail
      refine hK.out _ _ (HK.out _ HB4.out) (fun hHeld11 => ?_)
      clear hK K
      try simp only [Act.put, List.setIfInBounds_toArray, List.set_cons_zero, List.set_cons_succ]
      refine wpAnyH_take (i := 12) (oi := { dst := some 80, op := Op.pick (Operand.tmp 75) (Operand.tmp 79) (Operand.const (Value.bool false)), type := 4, pos := "law.go:61", after := #[{ on := 7, ground := Ground.data }, { on := 11, ground := Ground.data }], guard := none }) (v := ?_) rfl (by kernel_rfl) (by kernel_rfl) (by kernel_rfl) (fun _ _ _ h => h) (Or.inl ⟨by rfl, ?_⟩) (by assumption) ?_
      rotate_left
      · (intro W hSw; (try dsimp only at hSw); go_simp) <;> with_reducible rfl
      try simp only [Act.put, List.setIfInBounds_toArray, List.set_cons_zero, List.set_cons_succ]
      refine wpAnyH_take (i := 13) (oi := { dst := some 81, op := Op.move (Operand.tmp 80), type := 4, pos := "law.go:61", after := #[{ on := 12, ground := Ground.data }, { on := 11, ground := Ground.chain }], guard := none }) (v := ?_) rfl (by kernel_rfl) (by kernel_rfl) (by kernel_rfl) (fun _ _ _ h => h) (Or.inl ⟨by rfl, ?_⟩) (by assumption) ?_
      rotate_left
      · (intro W hSw; (try dsimp only at hSw); go_simp) <;> with_reducible rfl
      try simp only [Act.put, List.setIfInBounds_toArray, List.set_cons_zero, List.set_cons_succ]
      refine wpAnyH_take (i := 14) (oi := { dst := some 82, op := Op.load 25 (Operand.tmp 6), type := 25, pos := "law.go:61", after := #[{ on := 13, ground := Ground.guard }], guard := some (13, true) }) (v := ?_) rfl (by kernel_rfl) (by kernel_rfl) (by kernel_rfl) (fun _ _ _ h => h) (Or.inl ⟨by rfl, ?_⟩) (by assumption) ?_
      rotate_left
      · (intro W hSw; (try dsimp only at hSw); go_simp) <;> with_reducible rfl
      try simp only [Act.put, List.setIfInBounds_toArray, List.set_cons_zero, List.set_cons_succ]
      refine wpAnyH_take (i := 15) (oi := { dst := some 83, op := Op.move (Operand.tmp 1), type := 9, pos := "law.go:61", after := #[{ on := 13, ground := Ground.guard }], guard := some (13, true) }) (v := ?_) rfl (by kernel_rfl) (by kernel_rfl) (by kernel_rfl) (fun _ _ _ h => h) (Or.inl ⟨by rfl, ?_⟩) (by assumption) ?_
      rotate_left
      · (intro W hSw; (try dsimp only at hSw); go_simp) <;> with_reducible rfl
      try simp only [Act.put, List.setIfInBounds_toArray, List.set_cons_zero, List.set_cons_succ]
      refine wpAnyH_take (i := 17) (oi := { dst := some 85, op := Op.load 25 (Operand.tmp 2), type := 25, pos := "law.go:61", after := #[{ on := 13, ground := Ground.guard }], guard := some (13, true) }) (v := ?_) rfl (by kernel_rfl) (by kernel_rfl) (by kernel_rfl) (fun _ _ _ h => h) (Or.inl ⟨by rfl, ?_⟩) (by assumption) ?_
      rotate_left
      · (intro W hSw; (try dsimp only at hSw); go_simp) <;> with_reducible rfl
      try simp only [Act.put, List.setIfInBounds_toArray, List.set_cons_zero, List.set_cons_succ]
      refine wpAnyH_take (i := 18) (oi := { dst := some 86, op := Op.move (Operand.tmp 1), type := 9, pos := "law.go:61", after := #[{ on := 13, ground := Ground.guard }], guard := some (13, true) }) (v := ?_) rfl (by kernel_rfl) (by kernel_rfl) (by kernel_rfl) (fun _ _ _ h => h) (Or.inl ⟨by rfl, ?_⟩) (by assumption) ?_
      rotate_left
      · (intro W hSw; (try dsimp only at hSw); go_simp) <;> with_reducible rfl
      try simp only [Act.put, List.setIfInBounds_toArray, List.set_cons_zero, List.set_cons_succ]
      refine wpAnyH_ready (rs := [16]) (by kernel_rfl) (by simp) ?_
      refine AllReadyH.cons (o := { dst := some 84, op := Op.call { callee := Callee.value (Operand.func 10), args := #[Operand.tmp 82, Operand.tmp 83], argTypes := #[25, 9] }, type := 4, pos := "law.go:61", after := #[{ on := 14, ground := Ground.data }, { on := 15, ground := Ground.data }, { on := 13, ground := Ground.chain }, { on := 13, ground := Ground.guard }], guard := some (13, true) }) rfl (fun K hK => ?_) AllReadyH.nil
      go_simp
      go_at_call 10
      go_fit (CH1.out _ HB4.out)
      rintro r w5' ⟨rfl, hb2⟩
      have HB5 := Lib.hid (bthen HB4.out hb2)
      clear hb2
      go_wp2_with fail
      refine hK.out _ _ (HK.out _ HB5.out) (fun hHeld16 => ?_)
      clear hK K
      try simp only [Act.put, List.setIfInBounds_toArray, List.set_cons_zero, List.set_cons_succ]
      refine wpAnyH_ready (rs := [19]) (by kernel_rfl) (by simp) ?_
      refine AllReadyH.cons (o := { dst := some 87, op := Op.call { callee := Callee.value (Operand.func 10), args := #[Operand.tmp 85, Operand.tmp 86], argTypes := #[25, 9] }, type := 4, pos := "law.go:61", after := #[{ on := 17, ground := Ground.data }, { on := 18, ground := Ground.data }, { on := 16, ground := Ground.chain }, { on := 13, ground := Ground.guard }], guard := some (13, true) }) rfl (fun K hK => ?_) AllReadyH.nil
      go_simp
      go_at_call 10
      go_fit (CH2.out _ HB5.out)
      rintro r w6' ⟨rfl, hb2⟩
      have HB6 := Lib.hid (bthen HB5.out hb2)
      clear hb2
      go_wp2_with fail
      refine hK.out _ _ (HK.out _ HB6.out) (fun hHeld19 => ?_)
      clear hK K
      try simp only [Act.put, List.setIfInBounds_toArray, List.set_cons_zero, List.set_cons_succ]
      refine wpAnyH_take (i := 20) (oi := { dst := some 88, op := Op.binOp BinOp.eql 4 (Operand.tmp 84) (Operand.tmp 87) 4, type := 4, pos := "law.go:61", after := #[{ on := 16, ground := Ground.data }, { on := 19, ground := Ground.data }, { on := 13, ground := Ground.guard }], guard := some (13, true) }) (v := ?_) rfl (by kernel_rfl) (by kernel_rfl) (by kernel_rfl) (fun _ _ _ h => h) (Or.inl ⟨by rfl, ?_⟩) (by assumption) ?_
      rotate_left
      · (intro W hSw; (try dsimp only at hSw); go_simp) <;> with_reducible rfl
      try simp only [Act.put, List.setIfInBounds_toArray, List.set_cons_zero, List.set_cons_succ]
      refine wpAnyH_take (i := 21) (oi := { dst := some 89, op := Op.pick (Operand.tmp 81) (Operand.tmp 88) (Operand.const (Value.bool false)), type := 4, pos := "law.go:61", after := #[{ on := 13, ground := Ground.data }, { on := 20, ground := Ground.data }], guard := none }) (v := ?_) rfl (by kernel_rfl) (by kernel_rfl) (by kernel_rfl) (fun _ _ _ h => h) (Or.inl ⟨by rfl, ?_⟩) (by assumption) ?_
      rotate_left
      · (intro W hSw; (try dsimp only at hSw); go_simp) <;> with_reducible rfl
      try simp only [Act.put, List.setIfInBounds_toArray, List.set_cons_zero, List.set_cons_succ]
      refine wpAnyH_take (i := 22) (oi := { dst := some 90, op := Op.move (Operand.tmp 89), type := 4, pos := "law.go:61", after := #[{ on := 21, ground := Ground.data }, { on := 19, ground := Ground.chain }], guard := none }) (v := ?_) rfl (by kernel_rfl) (by kernel_rfl) (by kernel_rfl) (fun _ _ _ h => h) (Or.inl ⟨by rfl, ?_⟩) (by assumption) ?_
      rotate_left
      · (intro W hSw; (try dsimp only at hSw); go_simp) <;> with_reducible rfl
      try simp only [Act.put, List.setIfInBounds_toArray, List.set_cons_zero, List.set_cons_succ]
      refine wpAnyH_take (i := 23) (oi := { dst := some 91, op := Op.load 25 (Operand.tmp 2), type := 25, pos := "law.go:61", after := #[{ on := 22, ground := Ground.guard }], guard := some (22, true) }) (v := ?_) rfl (by kernel_rfl) (by kernel_rfl) (by kernel_rfl) (fun _ _ _ h => h) (Or.inl ⟨by rfl, ?_⟩) (by assumption) ?_
      rotate_left
      · (intro W hSw; (try dsimp only at hSw); go_simp) <;> with_reducible rfl
      try simp only [Act.put, List.setIfInBounds_toArray, List.set_cons_zero, List.set_cons_succ]
      refine wpAnyH_ready (rs := [24]) (by kernel_rfl) (by simp) ?_
      refine AllReadyH.cons (o := { dst := some 92, op := Op.call { callee := Callee.value (Operand.func 9), args := #[Operand.tmp 91], argTypes := #[25] }, type := 28, pos := "law.go:61", after := #[{ on := 23, ground := Ground.data }, { on := 22, ground := Ground.chain }, { on := 22, ground := Ground.guard }], guard := some (22, true) }) rfl (fun K hK => ?_) AllReadyH.nil
      go_simp
      go_at_call 9
      go_fit (CM1.out _ HB6.out)
      rintro r w7' ⟨rfl, hb2⟩
      have HB7 := Lib.hid (bthen HB6.out hb2)
      clear hb2
      go_wp2_with fail
      refine hK.out _ _ (HK.out _ HB7.out) (fun hHeld24 => ?_)
      clear hK K
      try simp only [Act.put, List.setIfInBounds_toArray, List.set_cons_zero, List.set_cons_succ]
      refine wpAnyH_take (i := 25) (oi := { dst := some 93, op := Op.binOp BinOp.neq 28 (Operand.tmp 92) (Operand.const (Value.int IntKind.i64 0)) 28, type := 4, pos := "law.go:61", after := #[{ on := 24, ground := Ground.data }, { on := 22, ground := Ground.guard }], guard := some (22, true) }) (v := ?_) rfl (by kernel_rfl) (by kernel_rfl) (by kernel_rfl) (fun _ _ _ h => h) (Or.inl ⟨by rfl, ?_⟩) (by assumption) ?_
      rotate_left
      · (intro W hSw; (try dsimp only at hSw); go_simp) <;> with_reducible rfl
      try simp only [Act.put, List.setIfInBounds_toArray, List.set_cons_zero, List.set_cons_succ]
      refine wpAnyH_take (i := 26) (oi := { dst := some 94, op := Op.move (Operand.tmp 93), type := 4, pos := "law.go:61", after := #[{ on := 25, ground := Ground.data }, { on := 24, ground := Ground.chain }, { on := 22, ground := Ground.guard }], guard := some (22, true) }) (v := ?_) rfl (by kernel_rfl) (by kernel_rfl) (by kernel_rfl) (fun _ _ _ h => h) (Or.inl ⟨by rfl, ?_⟩) (by assumption) ?_
      rotate_left
      · (intro W hSw; (try dsimp only at hSw); go_simp) <;> with_reducible rfl
      try simp only [Act.put, List.setIfInBounds_toArray, List.set_cons_zero, List.set_cons_succ]
      refine wpAnyH_take (i := 27) (oi := { dst := some 95, op := Op.load 25 (Operand.tmp 6), type := 25, pos := "law.go:61", after := #[{ on := 26, ground := Ground.guard }], guard := some (26, false) }) (v := undef) rfl (by kernel_rfl) (by kernel_rfl) (by kernel_rfl) (fun _ _ _ h => h) (Or.inr ⟨by rfl, rfl⟩) (by assumption) ?_
      try simp only [Act.put, List.setIfInBounds_toArray, List.set_cons_zero, List.set_cons_succ]
      refine wpAnyH_take (i := 28) (oi := { dst := some 96, op := Op.load 25 (Operand.tmp 2), type := 25, pos := "law.go:61", after := #[{ on := 26, ground := Ground.guard }], guard := some (26, false) }) (v := undef) rfl (by kernel_rfl) (by kernel_rfl) (by kernel_rfl) (fun _ _ _ h => h) (Or.inr ⟨by rfl, rfl⟩) (by assumption) ?_
      try simp only [Act.put, List.setIfInBounds_toArray, List.set_cons_zero, List.set_cons_succ]
      refine wpAnyH_take (i := 29) (oi := { dst := some 97, op := Op.call { callee := Callee.value (Operand.func 13), args := #[Operand.tmp 95, Operand.tmp 96], argTypes := #[25, 25] }, type := 4, pos := "law.go:61", after := #[{ on := 27, ground := Ground.data }, { on := 28, ground := Ground.data }, { on := 26, ground := Ground.chain }, { on := 26, ground := Ground.guard }], guard := some (26, false) }) (v := undef) rfl (by kernel_rfl) (by kernel_rfl) (by kernel_rfl) (fun _ _ _ h => h) (Or.inr ⟨by rfl, rfl⟩) (by assumption) ?_
      try simp only [Act.put, List.setIfInBounds_toArray, List.set_cons_zero, List.set_cons_succ]
      refine wpAnyH_take (i := 30) (oi := { dst := some 98, op := Op.pick (Operand.tmp 94) (Operand.const (Value.bool true)) (Operand.tmp 97), type := 4, pos := "law.go:61", after := #[{ on := 26, ground := Ground.data }, { on := 29, ground := Ground.data }, { on := 22, ground := Ground.guard }], guard := some (22, true) }) (v := ?_) rfl (by kernel_rfl) (by kernel_rfl) (by kernel_rfl) (fun _ _ _ h => h) (Or.inl ⟨by rfl, ?_⟩) (by assumption) ?_
      rotate_left
      · (intro W hSw; (try dsimp only at hSw); go_simp) <;> with_reducible rfl
      try simp only [Act.put, List.setIfInBounds_toArray, List.set_cons_zero, List.set_cons_succ]
      refine wpAnyH_take (i := 31) (oi := { dst := some 99, op := Op.pick (Operand.tmp 90) (Operand.tmp 98) (Operand.const (Value.bool false)), type := 4, pos := "law.go:61", after := #[{ on := 22, ground := Ground.data }, { on := 30, ground := Ground.data }], guard := none }) (v := ?_) rfl (by kernel_rfl) (by kernel_rfl) (by kernel_rfl) (fun _ _ _ h => h) (Or.inl ⟨by rfl, ?_⟩) (by assumption) ?_
      rotate_left
      · (intro W hSw; (try dsimp only at hSw); go_simp) <;> with_reducible rfl
      try simp only [Act.put, List.setIfInBounds_toArray, List.set_cons_zero, List.set_cons_succ]
      refine wpAnyH_take (i := 32) (oi := { dst := some 100, op := Op.move (Operand.tmp 99), type := 4, pos := "law.go:61", after := #[{ on := 31, ground := Ground.data }, { on := 29, ground := Ground.chain }], guard := none }) (v := ?_) rfl (by kernel_rfl) (by kernel_rfl) (by kernel_rfl) (fun _ _ _ h => h) (Or.inl ⟨by rfl, ?_⟩) (by assumption) ?_
      rotate_left
      · (intro W hSw; (try dsimp only at hSw); go_simp) <;> with_reducible rfl
      try simp only [Act.put, List.setIfInBounds_toArray, List.set_cons_zero, List.set_cons_succ]
      refine wpAnyH_take (i := 33) (oi := { dst := some 101, op := Op.load 25 (Operand.tmp 2), type := 25, pos := "law.go:61", after := #[{ on := 32, ground := Ground.guard }], guard := some (32, true) }) (v := ?_) rfl (by kernel_rfl) (by kernel_rfl) (by kernel_rfl) (fun _ _ _ h => h) (Or.inl ⟨by rfl, ?_⟩) (by assumption) ?_
      rotate_left
      · (intro W hSw; (try dsimp only at hSw); go_simp) <;> with_reducible rfl
      try simp only [Act.put, List.setIfInBounds_toArray, List.set_cons_zero, List.set_cons_succ]
      refine wpAnyH_ready (rs := [34]) (by kernel_rfl) (by simp) ?_
      refine AllReadyH.cons (o := { dst := some 102, op := Op.call { callee := Callee.value (Operand.func 9), args := #[Operand.tmp 101], argTypes := #[25] }, type := 28, pos := "law.go:61", after := #[{ on := 33, ground := Ground.data }, { on := 32, ground := Ground.chain }, { on := 32, ground := Ground.guard }], guard := some (32, true) }) rfl (fun K hK => ?_) AllReadyH.nil
      go_simp
      go_at_call 9
      go_fit (CM1.out _ HB7.out)
      rintro r w8' ⟨rfl, hb2⟩
      have HB8 := Lib.hid (bthen HB7.out hb2)
      clear hb2
      go_wp2_with fail
      refine hK.out _ _ (HK.out _ HB8.out) (fun hHeld34 => ?_)
      clear hK K
      try simp only [Act.put, List.setIfInBounds_toArray, List.set_cons_zero, List.set_cons_succ]
      refine wpAnyH_take (i := 35) (oi := { dst := some 103, op := Op.binOp BinOp.neq 28 (Operand.tmp 102) (Operand.const (Value.int IntKind.i64 1)) 28, type := 4, pos := "law.go:61", after := #[{ on := 34, ground := Ground.data }, { on := 32, ground := Ground.guard }], guard := some (32, true) }) (v := ?_) rfl (by kernel_rfl) (by kernel_rfl) (by kernel_rfl) (fun _ _ _ h => h) (Or.inl ⟨by rfl, ?_⟩) (by assumption) ?_
      rotate_left
      · (intro W hSw; (try dsimp only at hSw); go_simp) <;> with_reducible rfl
      try simp only [Act.put, List.setIfInBounds_toArray, List.set_cons_zero, List.set_cons_succ]
      refine wpAnyH_take (i := 36) (oi := { dst := some 104, op := Op.move (Operand.tmp 103), type := 4, pos := "law.go:61", after := #[{ on := 35, ground := Ground.data }, { on := 34, ground := Ground.chain }, { on := 32, ground := Ground.guard }], guard := some (32, true) }) (v := ?_) rfl (by kernel_rfl) (by kernel_rfl) (by kernel_rfl) (fun _ _ _ h => h) (Or.inl ⟨by rfl, ?_⟩) (by assumption) ?_
      rotate_left
      · (intro W hSw; (try dsimp only at hSw); go_simp) <;> with_reducible rfl
      try simp only [Act.put, List.setIfInBounds_toArray, List.set_cons_zero, List.set_cons_succ]
      refine wpAnyH_take (i := 37) (oi := { dst := some 105, op := Op.load 25 (Operand.tmp 6), type := 25, pos := "law.go:61", after := #[{ on := 36, ground := Ground.guard }], guard := some (36, false) }) (v := undef) rfl (by kernel_rfl) (by kernel_rfl) (by kernel_rfl) (fun _ _ _ h => h) (Or.inr ⟨by rfl, rfl⟩) (by assumption) ?_
      try simp only [Act.put, List.setIfInBounds_toArray, List.set_cons_zero, List.set_cons_succ]
      refine wpAnyH_take (i := 38) (oi := { dst := some 106, op := Op.call { callee := Callee.value (Operand.func 9), args := #[Operand.tmp 105], argTypes := #[25] }, type := 28, pos := "law.go:61", after := #[{ on := 37, ground := Ground.data }, { on := 36, ground := Ground.chain }, { on := 36, ground := Ground.guard }], guard := some (36, false) }) (v := undef) rfl (by kernel_rfl) (by kernel_rfl) (by kernel_rfl) (fun _ _ _ h => h) (Or.inr ⟨by rfl, rfl⟩) (by assumption) ?_
      try simp only [Act.put, List.setIfInBounds_toArray, List.set_cons_zero, List.set_cons_succ]
      refine wpAnyH_take (i := 39) (oi := { dst := some 107, op := Op.binOp BinOp.eql 28 (Operand.tmp 106) (Operand.const (Value.int IntKind.i64 0)) 28, type := 4, pos := "law.go:61", after := #[{ on := 38, ground := Ground.data }, { on := 36, ground := Ground.guard }], guard := some (36, false) }) (v := undef) rfl (by kernel_rfl) (by kernel_rfl) (by kernel_rfl) (fun _ _ _ h => h) (Or.inr ⟨by rfl, rfl⟩) (by assumption) ?_
      try simp only [Act.put, List.setIfInBounds_toArray, List.set_cons_zero, List.set_cons_succ]
      refine wpAnyH_take (i := 40) (oi := { dst := some 108, op := Op.pick (Operand.tmp 104) (Operand.const (Value.bool true)) (Operand.tmp 107), type := 4, pos := "law.go:61", after := #[{ on := 36, ground := Ground.data }, { on := 39, ground := Ground.data }, { on := 32, ground := Ground.guard }], guard := some (32, true) }) (v := ?_) rfl (by kernel_rfl) (by kernel_rfl) (by kernel_rfl) (fun _ _ _ h => h) (Or.inl ⟨by rfl, ?_⟩) (by assumption) ?_
      rotate_left
      · (intro W hSw; (try dsimp only at hSw); go_simp) <;> with_reducible rfl
      try simp only [Act.put, List.setIfInBounds_toArray, List.set_cons_zero, List.set_cons_succ]
      refine wpAnyH_take (i := 41) (oi := { dst := some 109, op := Op.move (Operand.tmp 108), type := 4, pos := "law.go:61", after := #[{ on := 40, ground := Ground.data }, { on := 38, ground := Ground.chain }, { on := 32, ground := Ground.guard }], guard := some (32, true) }) (v := ?_) rfl (by kernel_rfl) (by kernel_rfl) (by kernel_rfl) (fun _ _ _ h => h) (Or.inl ⟨by rfl, ?_⟩) (by assumption) ?_
      rotate_left
      · (intro W hSw; (try dsimp only at hSw); go_simp) <;> with_reducible rfl
      try simp only [Act.put, List.setIfInBounds_toArray, List.set_cons_zero, List.set_cons_succ]
      refine wpAnyH_take (i := 42) (oi := { dst := some 110, op := Op.load 25 (Operand.tmp 6), type := 25, pos := "law.go:61", after := #[{ on := 41, ground := Ground.guard }], guard := some (41, false) }) (v := undef) rfl (by kernel_rfl) (by kernel_rfl) (by kernel_rfl) (fun _ _ _ h => h) (Or.inr ⟨by rfl, rfl⟩) (by assumption) ?_
      try simp only [Act.put, List.setIfInBounds_toArray, List.set_cons_zero, List.set_cons_succ]
      refine wpAnyH_take (i := 43) (oi := { dst := some 111, op := Op.call { callee := Callee.value (Operand.func 9), args := #[Operand.tmp 110], argTypes := #[25] }, type := 28, pos := "law.go:61", after := #[{ on := 42, ground := Ground.data }, { on := 41, ground := Ground.chain }, { on := 41, ground := Ground.guard }], guard := some (41, false) }) (v := undef) rfl (by kernel_rfl) (by kernel_rfl) (by kernel_rfl) (fun _ _ _ h => h) (Or.inr ⟨by rfl, rfl⟩) (by assumption) ?_
      try simp only [Act.put, List.setIfInBounds_toArray, List.set_cons_zero, List.set_cons_succ]
      refine wpAnyH_take (i := 44) (oi := { dst := some 112, op := Op.binOp BinOp.eql 28 (Operand.tmp 111) (Operand.const (Value.int IntKind.i64 1)) 28, type := 4, pos := "law.go:61", after := #[{ on := 43, ground := Ground.data }, { on := 41, ground := Ground.guard }], guard := some (41, false) }) (v := undef) rfl (by kernel_rfl) (by kernel_rfl) (by kernel_rfl) (fun _ _ _ h => h) (Or.inr ⟨by rfl, rfl⟩) (by assumption) ?_
      try simp only [Act.put, List.setIfInBounds_toArray, List.set_cons_zero, List.set_cons_succ]
      refine wpAnyH_take (i := 45) (oi := { dst := some 113, op := Op.pick (Operand.tmp 109) (Operand.const (Value.bool true)) (Operand.tmp 112), type := 4, pos := "law.go:61", after := #[{ on := 41, ground := Ground.data }, { on := 44, ground := Ground.data }, { on := 32, ground := Ground.guard }], guard := some (32, true) }) (v := ?_) rfl (by kernel_rfl) (by kernel_rfl) (by kernel_rfl) (fun _ _ _ h => h) (Or.inl ⟨by rfl, ?_⟩) (by assumption) ?_
      rotate_left
      · (intro W hSw; (try dsimp only at hSw); go_simp) <;> with_reducible rfl
      try simp only [Act.put, List.setIfInBounds_toArray, List.set_cons_zero, List.set_cons_succ]
      refine wpAnyH_take (i := 46) (oi := { dst := some 114, op := Op.pick (Operand.tmp 100) (Operand.tmp 113) (Operand.const (Value.bool false)), type := 4, pos := "law.go:61", after := #[{ on := 32, ground := Ground.data }, { on := 45, ground := Ground.data }], guard := none }) (v := ?_) rfl (by kernel_rfl) (by kernel_rfl) (by kernel_rfl) (fun _ _ _ h => h) (Or.inl ⟨by rfl, ?_⟩) (by assumption) ?_
      rotate_left
      · (intro W hSw; (try dsimp only at hSw); go_simp) <;> with_reducible rfl
      try simp only [Act.put, List.setIfInBounds_toArray, List.set_cons_zero, List.set_cons_succ]
      refine wpAnyH_take (i := 47) (oi := { dst := some 4, op := Op.assign (Operand.tmp 114), type := 4, pos := "law.go:61", after := #[{ on := 46, ground := Ground.data }, { on := 43, ground := Ground.chain }, { on := 0, ground := Ground.phase }, { on := 1, ground := Ground.phase }, { on := 2, ground := Ground.phase }, { on := 3, ground := Ground.phase }, { on := 4, ground := Ground.phase }, { on := 5, ground := Ground.phase }, { on := 6, ground := Ground.phase }, { on := 7, ground := Ground.phase }, { on := 8, ground := Ground.phase }, { on := 9, ground := Ground.phase }, { on := 10, ground := Ground.phase }, { on := 11, ground := Ground.phase }, { on := 12, ground := Ground.phase }, { on := 13, ground := Ground.phase }, { on := 14, ground := Ground.phase }, { on := 15, ground := Ground.phase }, { on := 16, ground := Ground.phase }, { on := 17, ground := Ground.phase }, { on := 18, ground := Ground.phase }, { on := 19, ground := Ground.phase }, { on := 20, ground := Ground.phase }, { on := 21, ground := Ground.phase }, { on := 22, ground := Ground.phase }, { on := 23, ground := Ground.phase }, { on := 24, ground := Ground.phase }, { on := 25, ground := Ground.phase }, { on := 26, ground := Ground.phase }, { on := 27, ground := Ground.phase }, { on := 28, ground := Ground.phase }, { on := 29, ground := Ground.phase }, { on := 30, ground := Ground.phase }, { on := 31, ground := Ground.phase }, { on := 32, ground := Ground.phase }, { on := 33, ground := Ground.phase }, { on := 34, ground := Ground.phase }, { on := 35, ground := Ground.phase }, { on := 36, ground := Ground.phase }, { on := 37, ground := Ground.phase }, { on := 38, ground := Ground.phase }, { on := 39, ground := Ground.phase }, { on := 40, ground := Ground.phase }, { on := 41, ground := Ground.phase }, { on := 42, ground := Ground.phase }, { on := 43, ground := Ground.phase }, { on := 44, ground := Ground.phase }, { on := 45, ground := Ground.phase }, { on := 46, ground := Ground.phase }], guard := none }) (v := ?_) rfl (by kernel_rfl) (by kernel_rfl) (by kernel_rfl) (fun _ _ _ h => h) (Or.inl ⟨by rfl, ?_⟩) (by assumption) ?_
      rotate_left
      · (intro W hSw; (try dsimp only at hSw); go_simp) <;> with_reducible rfl
      try simp only [Act.put, List.setIfInBounds_toArray, List.set_cons_zero, List.set_cons_succ]
      refine wpAnyH_done (by kernel_rfl) ?_ _
      -- END d
      go_wp2_with fail
      go_ret
      exact ⟨rfl, bthen HBZ.out (And.left (by assumption : Below Z.heap.size Z _ ∧ _))⟩
end Go.Proofs.Ytfoghahidofegaa

namespace Go.Proofs.Ytfoghahidofegaa

set_option maxRecDepth 100000 in
def ordN : List Nat := [104, 97, 114, 110, 101, 115, 115, 32, 51, 53, 102, 101, 54, 49, 53, 55, 98, 97, 100, 49, 55, 49, 56, 102, 100, 54, 51, 57, 51, 102, 48, 57, 48, 52, 49, 53, 54, 101, 56, 48, 49, 53, 48, 51, 49, 51, 55, 50, 54, 98, 54, 102, 52, 50, 101, 100, 56, 56, 98, 54, 51, 102, 57, 102, 52, 57, 97, 49, 101, 98, 57, 50, 32, 99, 117, 116, 32, 97, 116, 32, 114, 101, 103, 105, 115, 116, 114, 97, 114, 47, 114, 101, 103, 105, 115, 116, 114, 97, 114, 108, 97, 119, 48, 52, 46, 69, 118, 101, 110, 116, 80, 97, 114, 116, 115, 32, 114, 101, 103, 105, 115, 116, 114, 97, 114, 47, 114, 101, 103, 105, 115, 116, 114, 97, 114, 108, 97, 119, 48, 52, 46, 69, 118, 101, 110, 116, 78, 111, 114, 109, 32, 114, 101, 103, 105, 115, 116, 114, 97, 114, 47, 114, 101, 103, 105, 115, 116, 114, 97, 114, 108, 97, 119, 49, 52, 46, 73, 110, 100, 101, 120, 79, 119, 110, 32, 114, 101, 103, 105, 115, 116, 114, 97, 114, 47, 114, 101, 103, 105, 115, 116, 114, 97, 114, 108, 97, 119, 49, 52, 46, 73, 110, 100, 101, 120, 83, 116, 97, 121, 115]
def ordL : List Char := ordN.map Char.ofNat
theorem order_eq : Try.prog.initOrder = String.ofList ordL := by kernel_rfl
theorem signs_eq : Try.prog.initOrder.toList = ordL := by rw [order_eq, String.toList_ofList]
def ordRest : List (List Char) := (behindMainWord (wordsSigns ordL)).tail
theorem words_eq : behindMainWord (wordsSigns ordL) = "cut".toList :: ordRest := by kernel_rfl
theorem strip_cut (r : List (List Char)) : stripLifts liftWords ("cut".toList :: r) = ([], "cut".toList :: r) := by kernel_rfl
theorem mayEnter_of (P : Program) (rest : List (List Char)) (h : behindMainWord (wordsSigns P.initOrder.toList) = "cut".toList :: rest) (h1 : P.laysLater = false) (h2 : P.bearsReflect = false) (h3 : P.doorFits [] = true) : P.mayEnter = true := by
  unfold Program.mayEnter
  rw [h]
  dsimp only
  rw [strip_cut, h1, h2, h3]
  simp
theorem lifts_of (P : Program) (rest : List (List Char)) (h : behindMainWord (wordsSigns P.initOrder.toList) = "cut".toList :: rest) : P.liftsFinal = false := by
  unfold Program.liftsFinal Program.headLifts
  rw [h, strip_cut]
  simp
theorem make_of (P : Program) (rest : List (List Char)) (h : behindMainWord (wordsSigns P.initOrder.toList) = "cut".toList :: rest) : P.make = some .cut := by
  unfold Program.make
  rw [h]
  dsimp only
  rw [if_neg (by decide), if_pos (by simp)]
theorem door_of (P : Program) (h : P.doorRows = []) : P.doorFits [] = true := by
  unfold Program.doorFits
  rw [h]
  simp
theorem head_eq : behindMainWord (wordsSigns Try.prog.initOrder.toList) = "cut".toList :: ordRest := by rw [signs_eq]; exact words_eq
theorem h_later : Try.prog.laysLater = false := by kernel_rfl
theorem h_refl : Try.prog.bearsReflect = false := by kernel_rfl
theorem h_rows : Try.prog.doorRows = [] := by kernel_rfl
theorem mayEnter_eq : Try.prog.mayEnter = true := mayEnter_of _ _ head_eq h_later h_refl (door_of _ h_rows)
theorem lifts_eq : Try.prog.liftsFinal = false := lifts_of _ _ head_eq
theorem make_eq : Try.prog.make = some .cut := make_of _ _ head_eq
theorem laidOut_eq : laidOutB Try.prog = true := by kernel_rfl
theorem mapsRowed_eq : mapsRowed Try.prog = true := by kernel_rfl
theorem stops_eq : (Try.prog.stops == []) = true := by kernel_rfl
theorem stopKnobs_eq : (Try.prog.stopKnobs == []) = true := by kernel_rfl
theorem heard_eq : Try.prog.stopsHeard = true := by kernel_rfl
theorem own_eq : ownKnob Try.prog.godebug = none := by kernel_rfl

/-- The rows' one great closed fact, out of its parts. -/
theorem joined_of {P : Program} {f : FuncId} {fn : Func} {s : ChangeSpec} {c : OpenClaim}
    (k1 : c.wf (OpenSpec.ofChange s) = true) (k2 : laidOutB P = true) (k3 : mapsRowed P = true) (k4 : fn.params.all (P.readableRec ·) = true) (k5 : namedTie P c.named s.vars = true)
    (k6 : (c.stops == []) = true) (k7 : (P.stops == []) = true) (k8 : (c.knobs == []) = true) (k9 : (P.stopKnobs == []) = true)
    (k10 : (c.inPlace == P.inPlace f) = true) (k11 : (c.unfollowed == P.unfollowed f) = true) (k12 : (c.recurses == P.recurses f) = true) (k13 : (c.named == P.varsNamed f) = true)
    (k14 : (c.maps == (fn.params.toList ++ s.plain.varTypes P).any (P.mapsRec ·)) = true) (k15 : (c.ifaces == (fn.params.toList ++ s.plain.varTypes P).any (P.ifacesRec ·)) = true) (k16 : (c.mapsOut == P.mapsAmong fn.resultTypes.toList) = true)
    (k17 : (c.loops == (fn.params.toList ++ s.plain.varTypes P).any (P.loopsFrom ·)) = true) (k18 : (c.wideKeys == (fn.params.toList ++ s.plain.varTypes P ++ fn.resultTypes.toList).any (P.wideKeysFrom ·)) = true)
    (k19 : s.vars.all (P.varReadable ·) = true) (k20 : fn.resultTypes.all (fun t => P.readableRec t && decide (t < P.types.size)) = true) (k21 : (c.ifacesOut == fn.resultTypes.toList.any (P.ifacesRec ·)) = true) (k22 : (c.loopsOut == fn.resultTypes.toList.any (P.loopsFrom ·)) = true)
    (k23 : (c.plainKeys == P.plainKeys) = true) (k24 : c.shortTexts.isNone = true) (k25 : P.stopsHeard = true) (k26 : P.mayEnter = true) (k27 : (c.lifted == P.liftsFinal) = true) (k28 : (P.make == some c.make) = true)
    (k29 : c.kinds = [] ∧ c.domain = []) (k30 : (c.pinned == c.pinnedBy) = true)
    (k31 : (c.veiled == (fn.params.toList ++ s.plain.varTypes P ++ fn.resultTypes.toList).any (P.veiledRec ·)) = true) (k32 : c.veiledFits P fn.params.toList (fn.params.toList ++ s.plain.varTypes P ++ fn.resultTypes.toList) = true) :
    joinedFacts P f fn s c = true := by
  unfold joinedFacts
  rw [k1, k2, k3, k4, k5, k6, k7, k8, k9, k10, k11, k12, k13, k14, k15, k16, k17, k18, k19, k20, k21, k22, k23, k24, k25, k26, k27, k28, k29.1, k29.2, k30, k31, k32]
  rfl
end Go.Proofs.Ytfoghahidofegaa

namespace Go.Proofs.Ytfoghahidofegaa.eventNorm
open Go.ChangeShapes Go.WideShapes Go.ChangeAt Go.RowKit
open Go.ChangeMaps (open_string shut_string)
set_option maxRecDepth 100000 in
theorem lifted (os : Os) (started : os.Started) (H : Type) (enc : TypeId × Value → H) :
    ReturnsInHanded {} Try.checked os 4 .any (Rows.eventNormSpec.pre6 enc Try.prog Try.f4 Rows.eventNormRow.domain false) (Rows.eventNormSpec.post enc Try.prog Try.f4 false true false false) := by
  refine returnsInHanded_of_change_sized (C := Try.checked) own_eq started (by kernel_rfl) Try.func4
    (ChangeSpec.witness6 (enc := enc) (C := Try.checked) false ⟨#[], #[.agg #[.string ByteArray.empty, .string ByteArray.empty, .slice none 0 0, .slice none 0 0], .string ByteArray.empty], []⟩ 8 (by kernel_rfl) (by kernel_rfl) (by kernel_rfl) (by kernel_rfl)) ?_
  intro W base args ds gs before hval0 hW hcnd hsz0 _
  have hval : ∀ (j : Nat) t v, Try.f4.params[j]? = some t → args[j]? = some v → Value.okWide Try.prog W .any base t v := hval0
  have hW' := hW
  obtain ⟨p, q, hA0, hV, rfl, hfz, hnd⟩ := hW
  have hA : DataW.TrodAll enc Try.prog W 0 (fun _ => true) true Try.f4.params.toList args.toList ds p := hA0
  rw [Try.params4] at hA hval
  obtain ⟨v0, vs0, d0, ds0, p0, q0, hargs, rfl, rfl, h0, r0⟩ := trodAll_cons hA
  obtain ⟨v1, vs1, d1, ds1, p1, q1, rfl, rfl, rfl, h1, r1⟩ := trodAll_cons r0
  obtain ⟨rfl, rfl, rfl⟩ := trodAll_nil r1
  obtain rfl : args = #[v0, v1] := by cases args; simp_all
  obtain ⟨rfl, rfl⟩ := trodVars_none hV
  have k0 := h0
  have lt0 : ∀ x ∈ p0, x.block < W.heap.size := by obtain ⟨m, hm⟩ := k0; exact DataW.trod_lt m _ _ _ hm
  obtain ⟨cs0, rfl, _⟩ := okWide_struct Try.underlying25 (hval 0 25 v0 rfl rfl)
  obtain ⟨x0, w0, g0⟩ := (opEvent).arg h0
  have k1 := h1
  have lt1 : ∀ x ∈ p1, x.block < W.heap.size := by obtain ⟨m, hm⟩ := k1; exact DataW.trod_lt m _ _ _ hm
  obtain ⟨a1, rfl, _, _, w1⟩ := open_string Try.underlying9 (hval 1 9 v1 rfl rfl) h1
  clear hA0 hval0
  refine (eventNorm_walk W cs0 x0 w0 g0 a1 w1).mono fun e W' ⟨he, bel⟩ => ?_
  subst he
  exact ⟨_, rfl, _, _, _, [], _, [], hW', trodAll_mk1 (shut_bool Try.underlying4 _), (trodAll_cons_mk (Below.trod laidOut_eq (by kernel_rfl) (of_decide_eq_true (by kernel_rfl)) k0 bel lt0) (trodAll_cons_mk (Below.trod laidOut_eq (by kernel_rfl) (of_decide_eq_true (by kernel_rfl)) k1 bel lt1) trodAll_mk0)), rfl, bel.frame _, fun h => by cases h⟩
theorem k10 : (Rows.eventNormRow.inPlace == Try.prog.inPlace 4) = true := by kernel_rfl
theorem k11 : (Rows.eventNormRow.unfollowed == Try.prog.unfollowed 4) = true := by kernel_rfl
theorem k12 : (Rows.eventNormRow.recurses == Try.prog.recurses 4) = true := by kernel_rfl
theorem k13 : (Rows.eventNormRow.named == Try.prog.varsNamed 4) = true := by kernel_rfl
theorem k23 : (Rows.eventNormRow.plainKeys == Try.prog.plainKeys) = true := by kernel_rfl
theorem kfn : Try.pinned.checked.prog.funcNamed Rows.eventNormRow.func = some 4 := by kernel_rfl
theorem closed : joinedFacts Try.prog 4 Try.f4 Rows.eventNormSpec Rows.eventNormRow = true :=
  joined_of (by kernel_rfl) laidOut_eq mapsRowed_eq (by kernel_rfl) (by kernel_rfl) rfl stops_eq rfl stopKnobs_eq k10 k11 k12 k13 (by kernel_rfl) (by kernel_rfl) (by kernel_rfl) (by kernel_rfl) (by kernel_rfl) (by kernel_rfl) (by kernel_rfl) (by kernel_rfl) (by kernel_rfl) k23 rfl heard_eq mayEnter_eq (by rw [lifts_eq]; rfl) (by rw [make_eq]; rfl) ⟨rfl, rfl⟩ (by kernel_rfl) (by kernel_rfl) (by kernel_rfl)
theorem over : Rows.eventNormRow.holds Try.pinned (OpenSpec.ofChange Rows.eventNormSpec) :=
  OpenClaim.holds_of_wide 4 Try.f4 rfl rfl rfl rfl rfl rfl rfl ⟨rfl, rfl, rfl, rfl, rfl⟩ rfl rfl rfl rfl rfl kfn Try.func4 closed
    (of_decide_eq_true (by kernel_rfl)) (by unfold Func.isWrapper; first | (rw [if_pos (by decide +kernel)]; kernel_rfl) | (rw [if_neg (by decide +kernel)]; exact ⟨rfl, rfl⟩))
    (fun os started H enc _ => lifted os started H enc)
theorem proved : Rows.EventNormSaid := over
#print axioms proved
end Go.Proofs.Ytfoghahidofegaa.eventNorm
