/- SessionSees: the law's walk. The closed facts that every row of this seat leans on, each proved for itself: the order's text is long, so it is read once as a list of signs. The row of the law SessionSees, over its walk: for every input the call returns true and each argument reads afterwards as it read before. No conditions. -/
import Derived.Test.YtfoghahidofegaaGreatBundM
import Derived.Test.YtfoghahidofegaaGreatRows
import Derived.JoinedOf
import Derived.KernelRfl
import Derived.Test.YtfoghahidofegaaGreatBundA
import Derived.WalkKit
import Derived.ProofKit
import Derived.OpenShut
import Derived.ShutString
import Derived.ChangeOld
import Derived.Below
import Derived.SizedLaws
set_option linter.unusedVariables false
set_option linter.unusedSimpArgs false
namespace Go.Proofs.YtfoghahidofegaaGreat
open Go.RowKit Go.Maps

def sbZ : ByteArray := ⟨#[122]⟩
abbrev zzE : Event := evOf sbZ sbZ
theorem zz_may : mayE zzE = 0 := by decide +kernel
theorem zz_in : EvIn zzE := evOf_in (by decide) (by decide)
/-- A session and its copy, and what was told. -/
structure Sg (w wr : World) (B : Six) (y : Nat) (es : List Event) (n b1 b2 : Nat) (g1 g2 : List Grd) (v2 : List Event) (ra rb : List Rec) (P : Option Addr) (p : Nat) (R : Option Addr) (r : Nat) : Prop where
  f : F2 w wr B y es (fun k => k = b1 ∨ k = b2)
  b : Ss wr 127 b2 n g2 v2 (fun k => B.has k ∨ k = y ∨ k = b1)
  a : Sl kRec (fun k => ¬ B.has k ∧ k ≠ y ∧ k ≠ b2) wr P p ra
  c : Sl kRec (fun k => ¬ B.has k ∧ k ≠ y ∧ k ≠ b2) wr R r rb
section
variable {w wr w' : World} {B : Six} {y n b1 b2 : Nat} {es es' : List Event} {g1 g2 g' : List Grd} {v2 v' : List Event} {ra rb : List Rec} {P R : Option Addr} {p r : Nat}
theorem Sg.below (h : Sg w wr B y es n b1 b2 g1 g2 v2 ra rb P p R r) (hb : Below wr.heap.size wr w') : Sg w w' B y es n b1 b2 g1 g2 v2 ra rb P p R r := ⟨h.f.below hb, h.b.below hb, h.a.below hb, h.c.below hb⟩
theorem Sg.stepB (h : Sg w wr B y es n b1 b2 g1 g2 v2 ra rb P p R r) (ha : Ss w' 127 b2 n g' v' (fun k => B.has k ∨ k = y ∨ k = b1)) (hb : But (fun k => k = b2) wr w') : Sg w w' B y es n b1 b2 g1 g' v' ra rb P p R r :=
  ⟨h.f.far (hb.mono (fun k hk => .inr hk)), ha, h.a.stay hb.size (fun k hk hl => hb.block k hl hk.2.2), h.c.stay hb.size (fun k hk hl => hb.block k hl hk.2.2)⟩
theorem Sg.stepF (h : Sg w wr B y es n b1 b2 g1 g2 v2 ra rb P p R r) (hf : F2 w w' B y es' (fun k => k = b1 ∨ k = b2)) (hb : But (fun k => B.has k ∨ k = y) wr w') : Sg w w' B y es' n b1 b2 g1 g2 v2 ra rb P p R r :=
  ⟨hf, h.b.far (hb.mono (fun k hk => hk.imp id .inl)), h.a.stay hb.size (fun k hk hl => hb.block k hl (fun h => h.elim hk.1 hk.2.1)), h.c.stay hb.size (fun k hk hl => hb.block k hl (fun h => h.elim hk.1 hk.2.1))⟩
end
set_option maxHeartbeats 32000000 in
set_option maxRecDepth 100000 in
theorem sessionSees_walk (w : World) (A : Option Addr) (c : Nat) (l : List Event) (h : Sl kEvent (fun _ => True) w A c l) (hg : ∀ x ∈ l, goodEvent x) (A' : Option Addr) (c' : Nat) (l' : List Event) (h' : Sl kEvent (fun _ => True) w A' c' l') (hg' : ∀ x ∈ l', goodEvent x)
    (c2 : Array Value) (o : Op19) (ho : kOp19.K (fun _ => True) w o c2.toList) (go : goodOp19 o) :
    Calls Tryz.prog 7 #[.slice A l.length c, .slice A' l'.length c', .agg c2] w fun r w' => r = .returned (.bool true) ∧ Below w.heap.size w w' := by
  have HL0 := Lib.hid (show Sl kEvent (fun k => k < w.heap.size) w A c l from h.bound.mono (fun _ h => h.2))
  have HM0 := Lib.hid (show Sl kEvent (fun k => k < w.heap.size) w A' c' l' from h'.bound.mono (fun _ h => h.2))
  have HG := Lib.hid (ev_in hg)
  have HG' := Lib.hid (ev_in hg')
  obtain ⟨T, ct, F, cf, Q, cq, rfl, hT, hF, hQ⟩ := op_in ho
  obtain ⟨oa, ob, s, v, q⟩ := o
  have HS := Lib.hid (show s.size ≤ maxLen from go.2.2.1)
  have HQG := Lib.hid (show ∀ c ∈ q.take 8, goodClause c from fun c hc => go.2.2.2.2 c (List.mem_of_mem_take hc))
  simp only at hT hF hQ ⊢
  have CF := Lib.hid (fun W => few19_any (w := W) oa ob s v.stream v.type (T := T) (F := F) (Q := Q) hT.1 hT.2.1 hF.1 hF.2.1 hQ.1 hQ.2.1)
  have HQ := Lib.hid hQ
  obtain ⟨m1, hm1⟩ : ∃ m1, min 10 v.tags.length = m1 := ⟨_, rfl⟩
  obtain ⟨m2, hm2⟩ : ∃ m2, min 10 v.fields.length = m2 := ⟨_, rfl⟩
  obtain ⟨m, hm⟩ : ∃ m, min 8 q.length = m := ⟨_, rfl⟩
  rw [hm1, hm2, hm] at CF
  have HM := Lib.hid (show (q.take 8).length = m by rw [List.length_take]; exact hm)
  obtain ⟨W1, hW1⟩ : ∃ W1, W1 = w.alloc (.cells #[.int .i64 oa, .int .i64 ob, .string s, .string v.stream, .string v.type, .slice T v.tags.length ct, .slice F v.fields.length cf, .slice Q q.length cq] 77) := ⟨_, rfl⟩
  have HW1 := Lib.hid hW1
  have hb1 : Below w.heap.size w W1 := by rw [hW1]; exact (Below.refl _ _).alloc (Nat.le_refl _) _
  have hx1 : Bx W1 w.heap.size 77 [.int .i64 oa, .int .i64 ob, .string s, .string v.stream, .string v.type, .slice T v.tags.length ct, .slice F v.fields.length cf, .slice Q q.length cq] := by rw [hW1]; exact Bx.new w _ _
  have HB1 := Lib.hid hb1
  have HX1 := Lib.hid hx1
  have C1 := Lib.hid (shown19_any W1)
  have HXX := Lib.hid (fun W (hW : Below W1.heap.size W1 W) => hx1.under hW)
  clear h hg h' hg' ho go hT hF hQ hb1 hx1 hm hm1 hm2
  go_enter Tryz.func7, Tryz.ntmps7
  go_upto_region 1 with fail
  rw [← HW1.out]
  clear hW1 HW1
  go_upto_region 3 with (first
    | (go_at_call 39; go_fit (CF.out _); rintro r w3 ⟨rfl, hb3⟩; have HB3 := Lib.hid (bthen HB2.out hb3); have hx3 := HXX.out _ (bthen HB2.out hb3); have l0 := hx3.cell 0; have l1 := hx3.cell 1; have l2 := hx3.cell 2; have l3 := hx3.cell 3; have l4 := hx3.cell 4; have l5 := hx3.cell 5; have l6 := hx3.cell 6; have l7 := hx3.cell 7; simp only [List.getElem?_cons_succ, List.getElem?_cons_zero] at l0 l1 l2 l3 l4 l5 l6 l7; have f0 := hx3.free 0; have f1 := hx3.free 1; have f2 := hx3.free 2; have f3 := hx3.free 3; have f4 := hx3.free 4; have f5 := hx3.free 5; have f6 := hx3.free 6; have f7 := hx3.free 7; clear hb3)
    | (go_at_call 27; go_fit C1.out; rintro r w2 ⟨rfl, hb2⟩; have HB2 := Lib.hid hb2; have hx2 := HXX.out _ hb2; have k0 := hx2.cell 0; have k1 := hx2.cell 1; have k2 := hx2.cell 2; have k3 := hx2.cell 3; have k4 := hx2.cell 4; have k5 := hx2.cell 5; have k6 := hx2.cell 6; have k7 := hx2.cell 7; simp only [List.getElem?_cons_succ, List.getElem?_cons_zero] at k0 k1 k2 k3 k4 k5 k6 k7; clear hb2))
  clear l0 l1 l2 l3 l4 l5 l6 l7 f0 f1 f2 f3 f4 f5 f6 f7 k0 k1 k2 k3 k4 k5 k6 k7 CF C1 hx3 hx2
  obtain ⟨X4, hX4⟩ : ∃ X4, X4 = (((((((w3.setCell ⟨w.heap.size, 0, none⟩ (.int .i64 oa)).setCell ⟨w.heap.size, 1, none⟩ (.int .i64 ob)).setCell ⟨w.heap.size, 2, none⟩ (.string s)).setCell ⟨w.heap.size, 3, none⟩ (.string v.stream)).setCell ⟨w.heap.size, 4, none⟩ (.string v.type)).setCell ⟨w.heap.size, 5, none⟩ (.slice T m1 ct)).setCell ⟨w.heap.size, 6, none⟩ (.slice F m2 cf)).setCell ⟨w.heap.size, 7, none⟩ (.slice Q m cq) := ⟨_, rfl⟩
  rw [← hX4]
  have hset : ∀ (W : World) (n : Nat) (u : Value), But (fun k => k = w.heap.size) W (W.setCell ⟨w.heap.size, n, none⟩ u) := fun W n u => But.setCell (S := fun k => k = w.heap.size) W (p := ⟨w.heap.size, n, none⟩) rfl _
  have hbut : But (fun k => k = w.heap.size) w3 X4 := by rw [hX4]; exact (((((((hset _ _ _).trans (hset _ _ _)).trans (hset _ _ _)).trans (hset _ _ _)).trans (hset _ _ _)).trans (hset _ _ _)).trans (hset _ _ _)).trans (hset _ _ _)
  have hx4 : Bx X4 w.heap.size 77 [.int .i64 oa, .int .i64 ob, .string s, .string v.stream, .string v.type, .slice T m1 ct, .slice F m2 cf, .slice Q m cq] := by rw [hX4]; exact ((((((((HXX.out _ HB3.out).set 0 _).set 1 _).set 2 _).set 3 _).set 4 _).set 5 _).set 6 _).set 7 _
  have hbw : Below w.heap.size w X4 := hbut.below (bthen HB1.out HB3.out) (bthen HB1.out HB3.out).size (fun k hk => by omega)
  have hsz := hbw.size
  have HBW := Lib.hid hbw
  have HC := Lib.hid (fun W (hW : Below X4.heap.size X4 W) => show W.cell? ⟨w.heap.size, 2, none⟩ = some (.string s) ∧ W.cell? ⟨w.heap.size, 7, none⟩ = some (.slice Q m cq) from ⟨(hx4.under hW).cell 2, (hx4.under hW).cell 7⟩)
  have HL1 := Lib.hid (show Sl kEvent (fun k => k < X4.heap.size) X4 A c l from (HL0.out.stay hbw.size (fun k hk _ => hbw.block k hk)).mono (fun k hk => by omega))
  have HM1 := Lib.hid (show Sl kEvent (fun k => k < X4.heap.size) X4 A' c' l' from (HM0.out.stay hbw.size (fun k hk _ => hbw.block k hk)).mono (fun k hk => by omega))
  have hqx : Sl kClause (fun k => k < X4.heap.size) X4 Q cq (q.take 8) := ((HQ.out.stay hbw.size (fun k hk _ => hbw.block k hk)).mono (fun k hk => by omega)).take 8
  have HQX := Lib.hid (fun W (hW : Below X4.heap.size X4 W) => show Sl kClause (fun k => k < X4.heap.size) W Q cq (q.take 8) from hqx.stay hW.size (fun k hk _ => hW.block k hk))
  have C2 := Lib.hid (lNew X4 (Nat.le_refl _))
  clear hX4 hset hbut hx4 hbw hsz hqx HXX HX1 HB1 HB2 HB3 HL0 HM0 HQ
  obtain ⟨k, hk⟩ : ∃ k, q.take 8 = k := ⟨_, rfl⟩
  rw [hk] at HQG HM HQX
  clear hk
  go_upto_region 5 with (go_at_call 12; go_fit C2.out; rintro r w5 ⟨B, rfl, h5, hb5⟩; have H5 := Lib.hid h5; have HB5 := Lib.hid hb5; clear h5 hb5)
  have HF6 := Lib.hid (f2_new H5.out HB5.out)
  generalize w5.heap.size = y at HF6 ⊢
  generalize (w5.alloc (.cells #[.slice none 0 0] 34)) = w6 at HF6 ⊢
  clear H5 HB5 C2
  obtain ⟨es, hes⟩ : ∃ es, (l.take 20).filter okE = es := ⟨_, rfl⟩
  have hel : es.length ≤ 20 := by rw [← hes]; exact filE20 l
  obtain ⟨fs, hfs⟩ : ∃ fs, (l'.take 20).filter okE = fs := ⟨_, rfl⟩
  have hfl : fs.length ≤ 20 := by rw [← hfs]; exact filE20 l'
  obtain ⟨n, hn⟩ : ∃ n, es.length = n := ⟨_, rfl⟩
  have CA1 := Lib.hid (show Calls Tryz.prog 36 #[.pointer (some ⟨B.b, 0, none⟩), .pointer (some ⟨y, 0, none⟩), .slice A l.length c] w6 fun r w' => r = .returned (.tuple #[]) ∧ F2 X4 w' B y es (fun _ => False) from by
    have := add19_any HF6.out HL1.out HG.out (by simp)
    rw [hes, List.nil_append] at this
    exact this.mono (fun r w' h => ⟨h.1, h.2.1⟩))
  have HN := Lib.hid hn
  clear hes
  go_upto_region 11 with (first
    | (go_at_call 28; go_fit C8.out; rintro r w8 ⟨b1, rfl, h8, hb8, hl8⟩; have H8 := Lib.hid h8; have HF8 := Lib.hid (H7.out.fence hb8 (Y := fun k => k = b1) (fun k hk => .inr (by rw [hk]; exact ⟨hl8, h8.lt⟩))); clear h8 hb8 hl8)
    | (go_at_call 36; go_fit CA1.out; rintro r w7 ⟨rfl, h7⟩; have H7 := Lib.hid h7; have C8 := Lib.hid (sNew h7.ix (X := fun k => B.has k ∨ k = y) h7.xs0); clear h7))
  have H8 := Lib.hid (show Ss w8 127 b1 n [] [] (fun k => B.has k ∨ k = y) by rw [← HN.out]; exact H8.out)
  clear CA1 C8 H7 HF6
  have hyb := HF8.out.offZ b1 rfl
  have hyx : y < w8.heap.size := by obtain ⟨A0, c0, h0⟩ := HF8.out.rx; exact h0.bx.lt
  have C9 := Lib.hid (sAt H8.out)
  have C10 := Lib.hid (sRead H8.out HF8.out.ix (.inr (.inr rfl)) HS.out)
  have C11 := Lib.hid (fun W (hs : Ss W 127 b1 n (keepL [] (gRead es n s)) [] (fun k => B.has k ∨ k = y)) (hb : But (fun k => k = b1) w8 W) => show Calls Tryz.prog 41 #[.pointer (some ⟨b1, 0, none⟩), .pointer (some ⟨B.b, 0, none⟩), .agg #[.slice Q m cq]] W _ from by
    have hF := HF8.out.far hb
    have := sQuery hs hF.ix (.inr (.inr rfl)) (q := k) (Q := Q) (cq := cq) ((HQX.out _ hF.bel).mono (fun j hj => ⟨fun e => by have := hF.zl b1 rfl; omega, fun h => h.elim (fun h => by have := hF.lo j h; omega) (fun h => by have := hF.yl; omega)⟩)) HQG.out
    rw [HM.out] at this
    exact this)
  obtain ⟨e, he⟩ : ∃ e, addE [] (gRead es n s) = e := ⟨_, rfl⟩
  obtain ⟨f, hf⟩ : ∃ f, addE (keepL [] (gRead es n s)) (gAsk n k) = f := ⟨_, rfl⟩
  obtain ⟨ra, hra⟩ : ∃ ra, rdR es n [] s = ra := ⟨_, rfl⟩
  obtain ⟨rb, hrb⟩ : ∃ rb, akR es n (keepL [] (gRead es n s)) k = rb := ⟨_, rfl⟩
  rw [he, hra] at C10
  rw [hf, hrb] at C11
  have HCX := Lib.hid (fun W (hb : But (fun k => k = b1) w8 W) => HC.out W ((HF8.out.far hb).bel))
  obtain ⟨k2, k7⟩ := HC.out _ HF8.out.bel
  have HE := Lib.hid he
  have HFE := Lib.hid hf
  have HRA := Lib.hid hra
  have HRB := Lib.hid hrb
  clear he hf hra hrb
  go_upto_region 14 with (first
    | (go_at_call 41; go_fit (C11.out _ H9.out HB9.out); rintro r w10 ⟨R, r0, rfl, hr10, h10, hb10⟩; have HR10 := Lib.hid hr10; have H10 := Lib.hid h10; have HB910 := Lib.hid hb10; have HB10 := Lib.hid (show But (fun k => k = b1) w8 w10 from HB9.out.trans hb10); clear hr10 h10 hb10)
    | (go_at_call 31; go_fit C10.out; rintro r w9 ⟨P, p0, rfl, hr9, h9, hb9⟩; have HR9 := Lib.hid hr9; have H9 := Lib.hid h9; have HB9 := Lib.hid hb9; obtain ⟨j2, j7⟩ := HCX.out _ hb9; clear hr9 h9 hb9)
    | (go_at_call 40; go_fit C9.out; rintro r w9 ⟨rfl, rfl⟩))
  have C12 := Lib.hid (sClone H10.out)
  clear C9 C10 C11 k2 k7 j2 j7
  go_upto_region 17 with (go_at_call 42; go_fit C12.out; rintro r w11 ⟨b2, rfl, h11, hb11, hl11⟩; have H11 := Lib.hid h11; have HB11 := Lib.hid hb11; have HL11 := Lib.hid hl11; clear h11 hb11 hl11)
  have HSG := Lib.hid (show Sg X4 w11 B y es n b1 b2 [] (seesG es n s k) [] ra rb P p0 R r0 from by
    have s9 := HB9.out.size
    have s10 := HB910.out.size
    have hl := HL11.out
    have hB : ∀ j, B.has j → j < w8.heap.size := fun j hj => HF8.out.ix.lt j hj
    refine ⟨(HF8.out.far HB10.out).fence HB11.out (fun j hj => hj.elim .inl (fun e => .inr (by rw [e]; exact ⟨hl, H11.out.lt⟩))), H11.out.less (fun j hj => hj.elim (fun h => .inl (.inl h)) (fun h => h.elim (fun h => .inl (.inr h)) .inr)), ?_, ?_⟩
    · exact ((((HR9.out.bound.mono (ok' := fun j => w8.heap.size ≤ j ∧ j < w9.heap.size) (fun j hj => hj)).stay HB910.out.size (fun j hj hl => HB910.out.block j hl (fun e => by have := hyb.2.2; omega))).below HB11.out).mono (fun j hj => ⟨fun h => by have := hB j h; omega, by omega, by omega⟩))
    · exact (HR10.out.bound.below HB11.out).mono (fun j hj => ⟨fun h => by have := hB j h; omega, by omega, by omega⟩))
  clear H8 HF8 hyb hyx C12 H9 HB9 HR9 HR10 H10 HB910 HB10 H11 HB11 HL11 HCX
  have hnl : n ≤ es.length := by rw [HN.out]; exact Nat.le_refl _
  have CD := Lib.hid (show Calls Tryz.prog 36 #[.pointer (some ⟨B.b, 0, none⟩), .pointer (some ⟨y, 0, none⟩), .slice A' l'.length c'] w11 fun r w' => r = .returned (.tuple #[]) ∧ Sg X4 w' B y (es ++ fs) n b1 b2 [] (seesG es n s k) [] ra rb P p0 R r0 from by
    have := add19_any HSG.out.f HM1.out HG'.out (by omega)
    rw [hfs] at this
    exact this.mono (fun r w' h => ⟨h.1, HSG.out.stepF h.2.1 h.2.2⟩))
  have CR := Lib.hid (fun W (hS : Sg X4 W B y (es ++ fs) n b1 b2 [] (seesG es n s k) [] ra rb P p0 R r0) => show Calls Tryz.prog 31 #[.pointer (some ⟨b2, 0, none⟩), .pointer (some ⟨B.b, 0, none⟩), .string s] W fun r w' => ∃ (A : Option Addr) (c : Nat), r = .returned (.tuple #[.slice A ra.length c, .int .i64 e]) ∧ Sl kRec (fun j => j ≠ b2) w' A c ra ∧ Sg X4 w' B y (es ++ fs) n b1 b2 [] (seesG es n s k) [] ra rb P p0 R r0 from by
    have := sRead hS.b hS.f.ix (.inr (.inr (.inr rfl))) HS.out
    rw [(sees_e2 hnl).1, (sees_e2 hnl).2, sees_rd hnl, HE.out, HRA.out] at this
    exact this.mono (fun r w' ⟨A, c, e, h1, h2, h3⟩ => ⟨A, c, e, h1.mono (fun j hj => by have := hS.b.lt; omega), hS.stepB h2 h3⟩))
  have CQ := Lib.hid (fun W (hS : Sg X4 W B y (es ++ fs) n b1 b2 [] (seesG es n s k) [] ra rb P p0 R r0) => show Calls Tryz.prog 41 #[.pointer (some ⟨b2, 0, none⟩), .pointer (some ⟨B.b, 0, none⟩), .agg #[.slice Q m cq]] W fun r w' => ∃ (A : Option Addr) (c : Nat), r = .returned (.tuple #[.slice A rb.length c, .int .i64 f]) ∧ Sl kRec (fun _ => True) w' A c rb ∧ Sg X4 w' B y (es ++ fs) n b1 b2 [] (seesG es n s k) [] ra rb P p0 R r0 ∧ But (fun j => j = b2) W w' from by
    have hF := hS.f
    have := sQuery hS.b hF.ix (.inr (.inr (.inr rfl))) (q := k) (Q := Q) (cq := cq) ((HQX.out _ hF.bel).mono (fun j hj => ⟨fun e => by have := hF.zl b2 (.inr rfl); omega, fun h => h.elim (fun h => by have := hF.lo j h; omega) (fun h => h.elim (fun h => by have := hF.yl; omega) (fun h => by have := hF.zl b1 (.inl rfl); omega))⟩)) HQG.out
    rw [HM.out, sees_f2.1, sees_f2.2, sees_ak hnl, HFE.out, HRB.out] at this
    exact this.mono (fun r w' ⟨A, c, e, h1, h2, h3⟩ => ⟨A, c, e, h1.any, hS.stepB h2 h3, h3⟩))
  have CS := Lib.hid (fun W (rs : List Rec) (P P' : Option Addr) (p p' : Nat) (h1 : SlR W P p rs) (h2 : SlR W P' p' rs) => show Calls Tryz.prog 18 #[.slice P rs.length p, .slice P' rs.length p'] W fun r w' => r = .returned (.bool true) ∧ Below W.heap.size W w' from by
    have := ref14Same_any h1 h2
    rw [sameRs_refl] at this
    exact this)
  have CT := Lib.hid (fun W (hS : Sg X4 W B y (es ++ fs) n b1 b2 [] (seesG es n s k) [] ra rb P p0 R r0) => sAt hS.b)
  have CZ := Lib.hid (fun W (hS : Sg X4 W B y (es ++ fs) n b1 b2 [] (seesG es n s k) [] ra rb P p0 R r0) => show Calls Tryz.prog 34 #[.pointer (some ⟨b2, 0, none⟩), .pointer (some ⟨B.b, 0, none⟩), .agg #[.string ⟨#[122]⟩, .string ⟨#[122]⟩, .slice none 0 0, .slice none 0 0], .int .i64 (-1)] W fun r w' => r = .returned (.int .i64 0) ∧ Sg X4 w' B y (es ++ fs) n b1 b2 [] (seesG es n s k) [zzE] ra rb P p0 R r0 from by
    have := sAppend hS.b hS.f.ix (.inr (.inr (.inr rfl))) (v := zzE) (T := none) (F := none) (ct := 0) (cf := 0) Sl.nil_ Sl.nil_ (by simp [zzE, evOf]) (by simp [zzE, evOf]) (fun _ => zz_in) (-1)
    obtain ⟨e1, e2, e3⟩ := app_any (es := es ++ fs) (at_ := n) (gs := seesG es n s k) (vs := []) (v := zzE) zz_may (by simp)
    rw [e1, e2, e3] at this
    exact this.mono (fun r w' h => ⟨h.1, hS.stepB h.2.1 h.2.2⟩))
  have HCY := Lib.hid (fun W g1 g2 v2 es' (hS : Sg X4 W B y es' n b1 b2 g1 g2 v2 ra rb P p0 R r0) => HC.out W hS.f.bel)
  go_upto_region 24 with (first
    | (go_at_call 36; go_fit CD.out; rintro r w12 ⟨rfl, h12⟩; have H12 := Lib.hid h12; obtain ⟨k2, k7⟩ := HCY.out _ _ _ _ _ h12; clear h12)
    | (go_at_call 31; go_fit (CR.out _ H12.out); rintro r w13 ⟨P13, p13, rfl, hr13, h13⟩; have HR13 := Lib.hid hr13; have H13 := Lib.hid h13; obtain ⟨j2, j7⟩ := HCY.out _ _ _ _ _ h13; clear hr13 h13)
    | (go_at_call 41; go_fit (CQ.out _ H13.out); rintro r w14 ⟨P14, p14, rfl, hr14, h14, hb14⟩; have HR14 := Lib.hid hr14; have H14 := Lib.hid h14; have HR13' := Lib.hid (HR13.out.stay hb14.size (fun j hj hl => hb14.block j hl hj)).any; clear hr14 h14 hb14)
    | (go_at_call 18; go_fit (CS.out _ _ _ _ _ _ (H14.out.below HB15.out).c.any (HR14.out.below HB15.out)); rintro r w16 ⟨rfl, hb16⟩; have H16 := Lib.hid ((H14.out.below HB15.out).below hb16); clear hb16)
    | (go_at_call 18; go_fit (CS.out _ _ _ _ _ _ H14.out.a.any HR13'.out); rintro r w15 ⟨rfl, hb15⟩; have HB15 := Lib.hid hb15; clear hb15)
    | (go_at_call 40; go_fit (CT.out _ H16.out); rintro r w17 ⟨rfl, rfl⟩))
  clear CD CR CQ k2 k7 j2 j7 H12 H13 H14 HR13 HR14 HR13' HB15 HSG CT
  go_upto_region 26 with (go_at_call 34; go_fit (CZ.out _ H16.out); rintro r w18 ⟨rfl, h18⟩; have H18 := Lib.hid h18; clear h18)
  clear CZ H16
  obtain ⟨x1, hx1⟩ : ∃ x1, holdsR (es ++ fs) (gRead es n s) = x1 := ⟨_, rfl⟩
  obtain ⟨x2, hx2⟩ : ∃ x2, holdsR (es ++ fs) (gAsk n k) = x2 := ⟨_, rfl⟩
  obtain ⟨sa, hsa⟩ : ∃ sa, (decide (e ≠ 0) || x1) = sa := ⟨_, rfl⟩
  obtain ⟨sb, hsb⟩ : ∃ sb, (decide (f ≠ 0) || x2) = sb := ⟨_, rfl⟩
  have HCHK := Lib.hid (sees_chk (es := es) (s := s) (q := k) (n := n) (fs := es ++ fs) (z := zzE) (a := sa) (b := sb) (by rw [HE.out, hx1]; exact hsa.symm) (by rw [HFE.out, hx2]; exact hsb.symm))
  obtain ⟨N, hN⟩ : ∃ N, (es ++ fs).length = N := ⟨_, rfl⟩
  have hNl : N ≤ 40 := by rw [← hN, List.length_append]; omega
  obtain ⟨A3, c3, hrx⟩ := H18.out.f.rx
  have HRX := Lib.hid hrx
  have HNN := Lib.hid hN
  have hyl : y < w18.heap.size := hrx.bx.lt
  have HK := Lib.hid (fun W (hb : Below w18.heap.size w18 W) => show Below w18.heap.size w18 W ∧ W.cell? ⟨w.heap.size, 2, none⟩ = some (.string s) ∧ W.cell? ⟨w.heap.size, 7, none⟩ = some (.slice Q m cq) ∧ W.cell? ⟨y, 0, none⟩ = some (.slice A3 N c3) from
    ⟨hb, (HCY.out _ _ _ _ _ (H18.out.below hb)).1, (HCY.out _ _ _ _ _ (H18.out.below hb)).2, by have := (HRX.out.bx.under hb).cell 0; rw [recsOf_len, HNN.out] at this; exact this⟩)
  have D1 := Lib.hid (fun W (R : Prop) (hW : Below w18.heap.size w18 W ∧ R) => show Calls Tryz.prog 43 #[.pointer (some ⟨y, 0, none⟩), .string s, .int .i64 N] W fun r w' => (∃ A' c', r = .returned (.slice A' (strmR (es ++ fs) s N).length c') ∧ SlR w' A' c' (strmR (es ++ fs) s N)) ∧ Below W.heap.size W w' from
    (ref14Stream_any (HRX.out.below hW.1) (by rw [recsOf_len, HNN.out]; omega) s N).mono (fun r w' hr => by obtain ⟨A', c', e1, h1, h2⟩ := hr; exact ⟨⟨A', c', e1, h1.any⟩, h2⟩))
  have D2 := Lib.hid (fun W (R : Prop) (hW : Below w18.heap.size w18 W ∧ R) => show Calls Tryz.prog 44 #[.pointer (some ⟨y, 0, none⟩), .agg #[.slice Q m cq], .int .i64 N] W fun r w' => (∃ A' c', r = .returned (.slice A' (qryR (es ++ fs) k N).length c') ∧ SlR w' A' c' (qryR (es ++ fs) k N)) ∧ Below W.heap.size W w' from by
    have := ref14Query_any (HRX.out.below hW.1) (by rw [recsOf_len, HNN.out]; omega) ((HQX.out _ (H18.out.below hW.1).f.bel).any) (N : Int)
    rw [HM.out] at this
    exact this.mono (fun r w' hr => by obtain ⟨A', c', e1, h1, h2⟩ := hr; exact ⟨⟨A', c', e1, h1.any⟩, h2⟩))
  have HSX := Lib.hid (show e = 0 → sameRs ra (strmR (es ++ fs) s N) = sa from fun h0 => by
    rw [← hsa, ← hx1, sees_holds1 hnl, hN, ← HRA.out]
    unfold rdR
    rw [HE.out, if_neg (by simp [h0])]
    simp [h0])
  have HSY := Lib.hid (show f = 0 → sameRs rb (qryR (es ++ fs) k N) = sb from fun h0 => by
    rw [← hsb, ← hx2, sees_holds2 hnl, hN, ← HRB.out]
    unfold akR
    rw [HFE.out, if_neg (by simp [h0])]
    simp [h0])
  have HSA := Lib.hid (show e ≠ 0 → sa = true from fun h0 => by rw [← hsa]; simp [h0])
  have HSB := Lib.hid (show f ≠ 0 → sb = true from fun h0 => by rw [← hsb]; simp [h0])
  have DS := Lib.hid (fun W (a b : List Rec) (P P' : Option Addr) (p p' : Nat) (h1 : SlR W P p a) (h2 : SlR W P' p' b) => ref14Same_any h1 h2)
  clear hrx hN hx1 hx2 hsa hsb CS HE HFE HRA HRB
  obtain ⟨zs, hzs⟩ : ∃ zs, strmR (es ++ fs) s N = zs := ⟨_, rfl⟩
  obtain ⟨zq, hzq⟩ : ∃ zq, qryR (es ++ fs) k N = zq := ⟨_, rfl⟩
  rw [hzs] at D1 HSX
  rw [hzq] at D2 HSY
  clear hzs hzq
  go_cut [23] (fun x wx => x = .bool sa ∧ Below w18.heap.size w18 wx)
  case first =>
    by_cases h0 : e = 0
    · subst h0
      have HS0 := Lib.hid (HSX.out rfl)
      clear HSX HSA HSY HSB
      go_region_held3 (fun W => Below w18.heap.size w18 W ∧ W.cell? ⟨w.heap.size, 2, none⟩ = some (.string s) ∧ W.cell? ⟨w.heap.size, 7, none⟩ = some (.slice Q m cq) ∧ W.cell? ⟨y, 0, none⟩ = some (.slice A3 N c3))
        (first | exact HK.out _ (below_drawn (Below.refl _ _)) | (assumption) | exact HK.out _ HB19.out | exact HK.out _ HB20.out)
        (first
          | (go_at_call 43; go_fit (D1.out _ _ (by assumption)); rintro r w19 ⟨⟨A19, c19, rfl, h19⟩, hb19⟩; have H19 := Lib.hid h19; have HB19 := Lib.hid (bthen (below_drawn (Below.refl _ _)) hb19); clear h19 hb19)
          | (go_at_call 18; go_fit (DS.out _ _ _ _ _ _ _ (H18.out.below HB19.out).a.any H19.out); rintro r w20 ⟨rfl, hb20⟩; have HB20 := Lib.hid (bthen HB19.out hb20); clear hb20))
      all_goals go_wp2_with fail
      all_goals go_meet
      all_goals exact ⟨by rw [HS0.out], HB20.out⟩
    · have HS0 := Lib.hid (HSA.out h0)
      have d0 : (e != 0) = true := by simp [h0]
      have d1 : (e == 0) = false := by simp [h0]
      clear HSX HSA HSY HSB h0
      go_quiet (fail)
      go_wp2_with fail
      go_meet
      exact ⟨by rw [HS0.out], below_drewN (Below.refl _ _) _⟩
  case rest =>
    obtain ⟨rfl, hbc⟩ := hcut
    obtain ⟨v20, hv20⟩ : ∃ v20, v20 = wc := ⟨_, rfl⟩
    subst hv20
    have HB20 := Lib.hid hbc
    clear hbc
    go_upto_region 27 with fail
    go_cut [24] (fun x wx => x = .bool sb ∧ Below w18.heap.size w18 wx)
    case first =>
      by_cases h0 : f = 0
      · subst h0
        have HS0 := Lib.hid (HSY.out rfl)
        clear HSX HSA HSY HSB
        go_region_held3 (fun W => Below w18.heap.size w18 W ∧ W.cell? ⟨w.heap.size, 2, none⟩ = some (.string s) ∧ W.cell? ⟨w.heap.size, 7, none⟩ = some (.slice Q m cq) ∧ W.cell? ⟨y, 0, none⟩ = some (.slice A3 N c3))
          (first | exact HK.out _ (below_drawn HB20.out) | (assumption) | exact HK.out _ HB21.out | exact HK.out _ HB22.out)
          (first
            | (go_at_call 44; go_fit (D2.out _ _ (by assumption)); rintro r w21 ⟨⟨A21, c21, rfl, h21⟩, hb21⟩; have H21 := Lib.hid h21; have HB21 := Lib.hid (bthen (below_drawn HB20.out) hb21); clear h21 hb21)
            | (go_at_call 18; go_fit (DS.out _ _ _ _ _ _ _ (H18.out.below HB21.out).c.any H21.out); rintro r w22 ⟨rfl, hb22⟩; have HB22 := Lib.hid (bthen HB21.out hb22); clear hb22))
        all_goals go_wp2_with fail
        all_goals go_meet
        all_goals exact ⟨by rw [HS0.out], HB22.out⟩
      · have HS0 := Lib.hid (HSB.out h0)
        have d0 : (f != 0) = true := by simp [h0]
        have d1 : (f == 0) = false := by simp [h0]
        clear HSX HSA HSY HSB h0
        go_quiet (fail)
        go_wp2_with fail
        go_meet
        exact ⟨by rw [HS0.out], below_drewN HB20.out _⟩
    case rest =>
      obtain ⟨rfl, hbc⟩ := hcut
      obtain ⟨v22, hv22⟩ : ∃ v22, v22 = wc := ⟨_, rfl⟩
      subst hv22
      have H22 := Lib.hid (H18.out.below hbc)
      clear hbc D1 D2 DS HK HSX HSY HSA HSB
      have CC := Lib.hid (show Calls Tryz.prog 38 #[.pointer (some ⟨b2, 0, none⟩), .pointer (some ⟨B.b, 0, none⟩)] v22 fun r w' => r = .returned (.int .i64 (if (sa && sb) = true then 0 else 20)) ∧ Below v22.heap.size v22 w' from by
        have := sCheck H22.out.b H22.out.f.ix
        rw [HCHK.out] at this
        exact this)
      clear HCHK
      cases sa <;> cases sb
      all_goals
        go_wp2_with (go_at_call 38; go_fit CC.out; rintro r w23 ⟨rfl, hb23⟩; have HB23 := Lib.hid hb23; clear hb23)
        go_ret
        exact ⟨rfl, bthen HBW.out (bthen H22.out.f.bel HB23.out)⟩
end Go.Proofs.YtfoghahidofegaaGreat

namespace Go.Proofs.YtfoghahidofegaaGreat

set_option maxRecDepth 100000 in
def ordN : List Nat := [104, 97, 114, 110, 101, 115, 115, 32, 52, 51, 57, 99, 56, 54, 52, 48, 57, 53, 57, 98, 54, 102, 49, 100, 98, 52, 54, 57, 49, 55, 52, 101, 99, 98, 102, 48, 52, 98, 98, 55, 55, 51, 55, 102, 97, 97, 102, 100, 101, 56, 102, 54, 51, 52, 56, 50, 52, 101, 56, 97, 49, 101, 54, 49, 52, 53, 52, 50, 54, 55, 97, 101, 32, 99, 117, 116, 32, 97, 116, 32, 114, 101, 103, 105, 115, 116, 114, 97, 114, 47, 114, 101, 103, 105, 115, 116, 114, 97, 114, 108, 97, 119, 49, 52, 46, 73, 110, 100, 101, 120, 80, 108, 97, 121, 115, 32, 114, 101, 103, 105, 115, 116, 114, 97, 114, 47, 114, 101, 103, 105, 115, 116, 114, 97, 114, 108, 97, 119, 49, 56, 46, 71, 117, 97, 114, 100, 76, 105, 115, 116, 115, 32, 114, 101, 103, 105, 115, 116, 114, 97, 114, 47, 114, 101, 103, 105, 115, 116, 114, 97, 114, 108, 97, 119, 49, 57, 46, 83, 101, 115, 115, 105, 111, 110, 77, 97, 110, 121, 32, 114, 101, 103, 105, 115, 116, 114, 97, 114, 47, 114, 101, 103, 105, 115, 116, 114, 97, 114, 108, 97, 119, 49, 57, 46, 83, 101, 115, 115, 105, 111, 110, 70, 114, 101, 101, 32, 114, 101, 103, 105, 115, 116, 114, 97, 114, 47, 114, 101, 103, 105, 115, 116, 114, 97, 114, 108, 97, 119, 49, 57, 46, 83, 101, 115, 115, 105, 111, 110, 83, 101, 101, 115, 32, 114, 101, 103, 105, 115, 116, 114, 97, 114, 47, 114, 101, 103, 105, 115, 116, 114, 97, 114, 108, 97, 119, 49, 57, 46, 83, 101, 115, 115, 105, 111, 110, 65, 116, 32, 114, 101, 103, 105, 115, 116, 114, 97, 114, 47, 114, 101, 103, 105, 115, 116, 114, 97, 114, 108, 97, 119, 49, 57, 46, 83, 101, 115, 115, 105, 111, 110, 82, 101, 102, 117, 115, 101, 115, 32, 114, 101, 103, 105, 115, 116, 114, 97, 114, 47, 114, 101, 103, 105, 115, 116, 114, 97, 114, 108, 97, 119, 49, 57, 46, 83, 101, 115, 115, 105, 111, 110, 80, 108, 97, 121, 115]
def ordL : List Char := ordN.map Char.ofNat
theorem order_eq : Tryz.prog.initOrder = String.ofList ordL := by kernel_rfl
theorem signs_eq : Tryz.prog.initOrder.toList = ordL := by rw [order_eq, String.toList_ofList]
def ordRest : List (List Char) := (behindMainWord (wordsSigns ordL)).tail
theorem words_eq : behindMainWord (wordsSigns ordL) = "cut".toList :: ordRest := by kernel_rfl
theorem strip_cut (r : List (List Char)) : stripLifts liftWords ("cut".toList :: r) = ([], "cut".toList :: r) := by kernel_rfl
theorem mayEnter_of (P : Program) (rest : List (List Char)) (h : behindMainWord (wordsSigns P.initOrder.toList) = "cut".toList :: rest) (h1 : P.laysLater = false) (h2 : P.bearsReflect = false) (h3 : P.doorFits [] = true) : P.mayEnter = true := by
  unfold Program.mayEnter
  rw [h]
  dsimp only
  rw [strip_cut, h1, h2, h3]
  simp
theorem lifts_of (P : Program) (rest : List (List Char)) (h : behindMainWord (wordsSigns P.initOrder.toList) = "cut".toList :: rest) : P.liftsFinal = false := by
  unfold Program.liftsFinal Program.headLifts
  rw [h, strip_cut]
  simp
theorem make_of (P : Program) (rest : List (List Char)) (h : behindMainWord (wordsSigns P.initOrder.toList) = "cut".toList :: rest) : P.make = some .cut := by
  unfold Program.make
  rw [h]
  dsimp only
  rw [if_neg (by decide), if_pos (by simp)]
theorem door_of (P : Program) (h : P.doorRows = []) : P.doorFits [] = true := by
  unfold Program.doorFits
  rw [h]
  simp
theorem head_eq : behindMainWord (wordsSigns Tryz.prog.initOrder.toList) = "cut".toList :: ordRest := by rw [signs_eq]; exact words_eq
theorem h_later : Tryz.prog.laysLater = false := by kernel_rfl
theorem h_refl : Tryz.prog.bearsReflect = false := by kernel_rfl
theorem h_rows : Tryz.prog.doorRows = [] := by kernel_rfl
theorem mayEnter_eq : Tryz.prog.mayEnter = true := mayEnter_of _ _ head_eq h_later h_refl (door_of _ h_rows)
theorem lifts_eq : Tryz.prog.liftsFinal = false := lifts_of _ _ head_eq
theorem make_eq : Tryz.prog.make = some .cut := make_of _ _ head_eq
theorem laidOut_eq : laidOutB Tryz.prog = true := by kernel_rfl
theorem mapsRowed_eq : mapsRowed Tryz.prog = true := by kernel_rfl
theorem stops_eq : (Tryz.prog.stops == []) = true := by kernel_rfl
theorem stopKnobs_eq : (Tryz.prog.stopKnobs == []) = true := by kernel_rfl
theorem heard_eq : Tryz.prog.stopsHeard = true := by kernel_rfl
theorem own_eq : ownKnob Tryz.prog.godebug = none := by kernel_rfl

/-- The rows' one great closed fact, out of its parts. -/
theorem joined_of {P : Program} {f : FuncId} {fn : Func} {s : ChangeSpec} {c : OpenClaim}
    (k1 : c.wf (OpenSpec.ofChange s) = true) (k2 : laidOutB P = true) (k3 : mapsRowed P = true) (k4 : fn.params.all (P.readableRec ·) = true) (k5 : namedTie P c.named s.vars = true)
    (k6 : (c.stops == []) = true) (k7 : (P.stops == []) = true) (k8 : (c.knobs == []) = true) (k9 : (P.stopKnobs == []) = true)
    (k10 : (c.inPlace == P.inPlace f) = true) (k11 : (c.unfollowed == P.unfollowed f) = true) (k12 : (c.recurses == P.recurses f) = true) (k13 : (c.named == P.varsNamed f) = true)
    (k14 : (c.maps == (fn.params.toList ++ s.plain.varTypes P).any (P.mapsRec ·)) = true) (k15 : (c.ifaces == (fn.params.toList ++ s.plain.varTypes P).any (P.ifacesRec ·)) = true) (k16 : (c.mapsOut == P.mapsAmong fn.resultTypes.toList) = true)
    (k17 : (c.loops == (fn.params.toList ++ s.plain.varTypes P).any (P.loopsFrom ·)) = true) (k18 : (c.wideKeys == (fn.params.toList ++ s.plain.varTypes P ++ fn.resultTypes.toList).any (P.wideKeysFrom ·)) = true)
    (k19 : s.vars.all (P.varReadable ·) = true) (k20 : fn.resultTypes.all (fun t => P.readableRec t && decide (t < P.types.size)) = true) (k21 : (c.ifacesOut == fn.resultTypes.toList.any (P.ifacesRec ·)) = true) (k22 : (c.loopsOut == fn.resultTypes.toList.any (P.loopsFrom ·)) = true)
    (k23 : (c.plainKeys == P.plainKeys) = true) (k24 : c.shortTexts.isNone = true) (k25 : P.stopsHeard = true) (k26 : P.mayEnter = true) (k27 : (c.lifted == P.liftsFinal) = true) (k28 : (P.make == some c.make) = true)
    (k29 : c.kinds = [] ∧ c.domain = []) (k30 : (c.pinned == c.pinnedBy) = true)
    (k31 : (c.veiled == (fn.params.toList ++ s.plain.varTypes P ++ fn.resultTypes.toList).any (P.veiledRec ·)) = true) (k32 : c.veiledFits P fn.params.toList (fn.params.toList ++ s.plain.varTypes P ++ fn.resultTypes.toList) = true) :
    joinedFacts P f fn s c = true := by
  unfold joinedFacts
  rw [k1, k2, k3, k4, k5, k6, k7, k8, k9, k10, k11, k12, k13, k14, k15, k16, k17, k18, k19, k20, k21, k22, k23, k24, k25, k26, k27, k28, k29.1, k29.2, k30, k31, k32]
  rfl
end Go.Proofs.YtfoghahidofegaaGreat

namespace Go.Proofs.YtfoghahidofegaaGreat.sessionSees
open Go.ChangeShapes Go.WideShapes Go.ChangeAt Go.RowKit
open Go.ChangeMaps (open_string shut_string)
set_option maxRecDepth 100000 in
theorem lifted (os : Os) (started : os.Started) (H : Type) (enc : TypeId × Value → H) :
    ReturnsInHanded {} Tryz.checked os 7 .any (Rows.sessionSeesSpec.pre6 enc Tryz.prog Tryz.f7 Rows.sessionSeesRow.domain false) (Rows.sessionSeesSpec.post enc Tryz.prog Tryz.f7 false true false false) := by
  refine returnsInHanded_of_change_sized (C := Tryz.checked) own_eq started (by kernel_rfl) Tryz.func7
    (ChangeSpec.witness6 (enc := enc) (C := Tryz.checked) false ⟨#[], #[.slice none 0 0, .slice none 0 0, .agg #[.int .i64 0, .int .i64 0, .string ByteArray.empty, .string ByteArray.empty, .string ByteArray.empty, .slice none 0 0, .slice none 0 0, .slice none 0 0]], []⟩ 8 (by kernel_rfl) (by kernel_rfl) (by kernel_rfl) (by kernel_rfl)) ?_
  intro W base args ds gs before hval0 hW hcnd hsz0 _
  have hval : ∀ (j : Nat) t v, Tryz.f7.params[j]? = some t → args[j]? = some v → Value.okWide Tryz.prog W .any base t v := hval0
  have hW' := hW
  obtain ⟨p, q, hA0, hV, rfl, hfz, hnd⟩ := hW
  have hA : DataW.TrodAll enc Tryz.prog W 0 (fun _ => true) true Tryz.f7.params.toList args.toList ds p := hA0
  rw [Tryz.params7] at hA hval
  obtain ⟨v0, vs0, d0, ds0, p0, q0, hargs, rfl, rfl, h0, r0⟩ := trodAll_cons hA
  obtain ⟨v1, vs1, d1, ds1, p1, q1, rfl, rfl, rfl, h1, r1⟩ := trodAll_cons r0
  obtain ⟨v2, vs2, d2, ds2, p2, q2, rfl, rfl, rfl, h2, r2⟩ := trodAll_cons r1
  obtain ⟨rfl, rfl, rfl⟩ := trodAll_nil r2
  obtain rfl : args = #[v0, v1, v2] := by cases args; simp_all
  obtain ⟨rfl, rfl⟩ := trodVars_none hV
  have k0 := h0
  have lt0 : ∀ x ∈ p0, x.block < W.heap.size := by obtain ⟨m, hm⟩ := k0; exact DataW.trod_lt m _ _ _ hm
  obtain ⟨a0, len0, cap0, rfl⟩ := okWide_slice Tryz.underlying43 (hval 0 43 v0 rfl rfl)
  obtain ⟨x0, ⟨A0, c0, e0, l0, m0, w0⟩, g0⟩ := (opEvs).arg h0
  simp only [Value.cells, List.cons.injEq, Value.slice.injEq, and_true] at e0
  obtain ⟨rfl, rfl, rfl⟩ := e0
  have k1 := h1
  have lt1 : ∀ x ∈ p1, x.block < W.heap.size := by obtain ⟨m, hm⟩ := k1; exact DataW.trod_lt m _ _ _ hm
  obtain ⟨a1, len1, cap1, rfl⟩ := okWide_slice Tryz.underlying43 (hval 1 43 v1 rfl rfl)
  obtain ⟨x1, ⟨A1, c1, e1, l1, m1, w1⟩, g1⟩ := (opEvs).arg h1
  simp only [Value.cells, List.cons.injEq, Value.slice.injEq, and_true] at e1
  obtain ⟨rfl, rfl, rfl⟩ := e1
  have k2 := h2
  have lt2 : ∀ x ∈ p2, x.block < W.heap.size := by obtain ⟨m, hm⟩ := k2; exact DataW.trod_lt m _ _ _ hm
  obtain ⟨cs2, rfl, _⟩ := okWide_struct Tryz.underlying77 (hval 2 77 v2 rfl rfl)
  obtain ⟨x2, w2, g2⟩ := (opOp19).arg h2
  clear hA0 hval0
  refine (sessionSees_walk W _ _ x0 ⟨l0, m0, w0⟩ g0 _ _ x1 ⟨l1, m1, w1⟩ g1 cs2 x2 w2 g2).mono fun e W' ⟨he, bel⟩ => ?_
  subst he
  exact ⟨_, rfl, _, _, _, [], _, [], hW', trodAll_mk1 (shut_bool Tryz.underlying4 _), (trodAll_cons_mk (Below.trod laidOut_eq (by kernel_rfl) (of_decide_eq_true (by kernel_rfl)) k0 bel lt0) (trodAll_cons_mk (Below.trod laidOut_eq (by kernel_rfl) (of_decide_eq_true (by kernel_rfl)) k1 bel lt1) (trodAll_cons_mk (Below.trod laidOut_eq (by kernel_rfl) (of_decide_eq_true (by kernel_rfl)) k2 bel lt2) trodAll_mk0))), rfl, bel.frame _, fun h => by cases h⟩
theorem k10 : (Rows.sessionSeesRow.inPlace == Tryz.prog.inPlace 7) = true := by kernel_rfl
theorem k11 : (Rows.sessionSeesRow.unfollowed == Tryz.prog.unfollowed 7) = true := by kernel_rfl
theorem k12 : (Rows.sessionSeesRow.recurses == Tryz.prog.recurses 7) = true := by kernel_rfl
theorem k13 : (Rows.sessionSeesRow.named == Tryz.prog.varsNamed 7) = true := by kernel_rfl
theorem k23 : (Rows.sessionSeesRow.plainKeys == Tryz.prog.plainKeys) = true := by kernel_rfl
theorem kfn : Tryz.pinned.checked.prog.funcNamed Rows.sessionSeesRow.func = some 7 := by kernel_rfl
theorem closed : joinedFacts Tryz.prog 7 Tryz.f7 Rows.sessionSeesSpec Rows.sessionSeesRow = true :=
  joined_of (by kernel_rfl) laidOut_eq mapsRowed_eq (by kernel_rfl) (by kernel_rfl) rfl stops_eq rfl stopKnobs_eq k10 k11 k12 k13 (by kernel_rfl) (by kernel_rfl) (by kernel_rfl) (by kernel_rfl) (by kernel_rfl) (by kernel_rfl) (by kernel_rfl) (by kernel_rfl) (by kernel_rfl) k23 rfl heard_eq mayEnter_eq (by rw [lifts_eq]; rfl) (by rw [make_eq]; rfl) ⟨rfl, rfl⟩ (by kernel_rfl) (by kernel_rfl) (by kernel_rfl)
theorem over : Rows.sessionSeesRow.holds Tryz.pinned (OpenSpec.ofChange Rows.sessionSeesSpec) :=
  OpenClaim.holds_of_wide 7 Tryz.f7 rfl rfl rfl rfl rfl rfl rfl ⟨rfl, rfl, rfl, rfl, rfl⟩ rfl rfl rfl rfl rfl kfn Tryz.func7 closed
    (of_decide_eq_true (by kernel_rfl)) (by unfold Func.isWrapper; first | (rw [if_pos (by decide +kernel)]; kernel_rfl) | (rw [if_neg (by decide +kernel)]; exact ⟨rfl, rfl⟩))
    (fun os started H enc _ => lifted os started H enc)
theorem proved : Rows.SessionSeesSaid := over
#print axioms proved
end Go.Proofs.YtfoghahidofegaaGreat.sessionSees
