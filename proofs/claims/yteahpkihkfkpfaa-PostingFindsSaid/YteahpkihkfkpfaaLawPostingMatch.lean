/- PostingMatch: the law's walk. -/
import Derived.Test.YteahpkihkfkpfaaLaw13p
import Derived.Test.YteahpkihkfkpfaaTypes
import Derived.Deep.RegionHeld3
set_option linter.unusedVariables false
set_option linter.unusedSimpArgs false
namespace Go.Proofs.Yteahpkihkfkpfaa
open Go.RowKit Go.Maps

theorem row_event_at {ok : Nat → Prop} {w : World} {A : Option Addr} {xs : List Event} (h : Row kEvent ok w A xs) {j : Nat} (hj : j < xs.length) :
    ∃ ad T ct F cf, A = some ad ∧ w.cell? (ad.add (j * 4)) = some (.string xs[j].stream) ∧ w.cell? ⟨(ad.add (j * 4)).block, (ad.add (j * 4)).off + 1, none⟩ = some (.string xs[j].type) ∧ w.cell? ⟨(ad.add (j * 4)).block, (ad.add (j * 4)).off + 2, none⟩ = some (.slice T xs[j].tags.length ct) ∧
      w.cell? ⟨(ad.add (j * 4)).block, (ad.add (j * 4)).off + 3, none⟩ = some (.slice F xs[j].fields.length cf) ∧ Sl Kn.str ok w T ct xs[j].tags ∧ ad.block < w.heap.size := by
  obtain ⟨ad, cs, e, _, hlt, _, hk, hc⟩ := h.at_ hj
  obtain ⟨T, ct, F, cf, rfl, h1, h2⟩ := kEvent_out hk
  rw [kEvent_sz] at hc
  refine ⟨ad, T, ct, F, cf, e, hc 0 _ rfl, ?_, ?_, ?_, h1, hlt⟩
  · have := hc 1 _ rfl
    rwa [add_field _ _ _ (by omega)] at this
  · have := hc 2 _ rfl
    rwa [add_field _ _ _ (by omega)] at this
  · have := hc 3 _ rfl
    rwa [add_field _ _ _ (by omega)] at this

theorem findE_le (es : List EP) (q : List Clause) (x : Int) : (findE es q x).length ≤ es.length := by unfold findE; rw [List.length_map]; exact List.length_filter_le _ _
/-- The state of PostingMatch at a round's head. -/
structure PM (w wr : World) (p L B g0 base k : Nat) (es : List EP) (A2 : Option Addr) (c2 : Nat) (q : List Clause) (x : Int) (v : Value) : Prop where
  qs : Qs wr p es L B (fun j => j = g0 ∨ v.ownBlock = some j)
  bx : Bx wr g0 52 [.slice A2 q.length c2]
  sq : Sl kClause (fun j => (j < g0 ∨ B ≤ j) ∧ j < base) wr A2 c2 q
  own : Own (Kn.int .i64) 3 base (fun _ => False) wr v (findE es q x)
  bel : Below w.heap.size w wr
  len : es.length = k
  top : ∀ y ∈ posE es, y < 3 * (k : Int) + 1
  bs : base ≤ wr.heap.size
section
variable {w wr W w1 : World} {p L B g0 base k : Nat} {es : List EP} {A2 : Option Addr} {c2 : Nat} {q : List Clause} {x : Int} {v v1 : Value}
theorem PM.below (h : PM w wr p L B g0 base k es A2 c2 q x v) (hb : Below wr.heap.size wr W) : PM w W p L B g0 base k es A2 c2 q x v :=
  ⟨h.qs.below hb, h.bx.under hb, h.sq.below hb, h.own.below hb, bthen h.bel hb, h.len, h.top, Nat.le_trans h.bs hb.size⟩
/-- Behind an Add (at W). -/
structure PM1 (w wr : World) (p L B g0 base k : Nat) (es : List EP) (A2 : Option Addr) (c2 : Nat) (q : List Clause) (x : Int) (v : Value) (e : Event) : Prop where
  qs : Qs wr p (es ++ [(e, 3 * (k : Int) + 1)]) L B (fun j => j = g0 ∨ v.ownBlock = some j)
  bx : Bx wr g0 52 [.slice A2 q.length c2]
  sq : Sl kClause (fun j => (j < g0 ∨ B ≤ j) ∧ j < base) wr A2 c2 q
  own : Own (Kn.int .i64) 3 base (fun _ => False) wr v (findE es q x)
  bel : Below w.heap.size w wr
  len : es.length = k
  top : ∀ y ∈ posE es, y < 3 * (k : Int) + 1
  bs : base ≤ wr.heap.size
theorem PM1.below {e : Event} (h : PM1 w wr p L B g0 base k es A2 c2 q x v e) (hb : Below wr.heap.size wr W) : PM1 w W p L B g0 base k es A2 c2 q x v e :=
  ⟨h.qs.below hb, h.bx.under hb, h.sq.below hb, h.own.below hb, bthen h.bel hb, h.len, h.top, Nat.le_trans h.bs hb.size⟩
theorem PM.add (h : PM w wr p L B g0 base k es A2 c2 q x v) (hw : w.heap.size = g0) (hL : g0 < L) (hB : B ≤ base) (hk : k < 70) {e : Event} {T F : Option Addr} {ct cf : Nat} (hT : Sl Kn.str (fun j => j < g0) wr T ct e.tags) (hts : e.tags.length ≤ 50) (hge : goodEvent e) :
    Calls Try.prog 21 #[.pointer (some ⟨p, 0, none⟩), vEvent e T ct F cf, .int .i64 (3 * (k : Int) + 1)] wr fun r w' => r = .returned (.int .i64 0) ∧ PM1 w w' p L B g0 base k es A2 c2 q x v e := by
  refine (cPAdd h.qs (by rw [h.len]; exact hk) (hT.mono (fun j hj => by omega)) hts hge.2.2.1 hge.2.1 (by omega) h.top).mono fun r w' hr => ?_
  obtain ⟨e1, h1, h2⟩ := hr
  refine ⟨e1, h1, h.bx.stay (fun hk => h2.block _ hk (by omega)), h.sq.stay h2.size (fun j hj hl => h2.block j hl (by omega)), h.own.stay h2.size (fun j hj hl => h2.block j hl ?_), h2.below h.bel h.bel.size (fun j hj => by omega), h.len, h.top, Nat.le_trans h.bs h2.size⟩
  rcases hj with hj | hj
  · exact hj.elim
  · have := h.own.base_le j hj; omega
theorem PM1.skip {e : Event} (h : PM1 w wr p L B g0 base k es A2 c2 q x v e) (hm : (matchM q e && decide (3 * (k : Int) + 1 ≤ x)) = false) : PM w wr p L B g0 base (k + 1) (es ++ [(e, 3 * (k : Int) + 1)]) A2 c2 q x v :=
  ⟨h.qs, h.bx, h.sq, by rw [findE_snoc, hm]; simpa using h.own, h.bel, by simp [h.len], fun y hy => by
    rw [posE_snoc] at hy
    rcases List.mem_append.1 hy with hy | hy
    · have := h.top y hy; omega
    · simp at hy; omega, h.bs⟩
theorem PM1.push {e : Event} (h : PM1 w wr p L B g0 base k es A2 c2 q x v e) (hw : w.heap.size = g0) (hg0 : g0 < base) (hbs : base ≤ wr.heap.size) (hm : (matchM q e && decide (3 * (k : Int) + 1 ≤ x)) = true) (hown : Own (Kn.int .i64) 3 base (fun _ => False) w1 v1 (findE es q x ++ [3 * (k : Int) + 1])) (hg : wr.grownBy w1 v.ownBlock) (hat : v1.ownBlock = v.ownBlock ∨ v1.ownBlock = some (wr.heap.size + 1)) :
    PM w w1 p L B g0 base (k + 1) (es ++ [(e, 3 * (k : Int) + 1)]) A2 c2 q x v1 := by
  have hbut : But (fun j => j = g0 ∨ v.ownBlock = some j) wr w1 := But.grown hg (fun j hj => .inr hj)
  have hlt := hown.block_lt
  have hvb : ∀ j, v.ownBlock = some j → base ≤ j := h.own.base_le
  refine ⟨h.qs.move hbut (fun j hj => ?_), h.bx.stay (fun hk => hg.block _ hk (fun e => by have := hvb _ e.symm; omega)), h.sq.stay hg.size (fun j hj hl => hg.block j hl (fun e => by have := hvb _ e.symm; omega)), by rw [findE_snoc, hm]; simpa using hown,
    ⟨hg.os.trans h.bel.os, hg.tape.trans h.bel.tape, hg.output.trans h.bel.output, Nat.le_trans h.bel.size hg.size, fun j hj => (hg.block j (by have := h.bel.size; omega) (fun e => by have := hvb _ e.symm; omega)).trans (h.bel.block j hj)⟩, by simp [h.len], fun y hy => ?_, Nat.le_trans h.bs hg.size⟩
  · rcases hj with hj | hj
    · exact .inl (.inl hj)
    · rcases hat with e1 | e1
      · exact .inl (.inr (e1 ▸ hj))
      · have := hlt j hj
        rw [e1] at hj
        have := Option.some.inj hj
        exact .inr ⟨by omega, by omega⟩
  · rw [posE_snoc] at hy
    rcases List.mem_append.1 hy with hy | hy
    · have := h.top y hy; omega
    · simp at hy; omega
end

theorem opEvents : Opens Try.prog 33 (Kn.slice kEvent) (fun q => ∀ c ∈ q, goodEvent c) := Opens.slice Try.underlying33 (by kernel_rfl) (by decide) opEvent
theorem sl_event_below {w wr : World} {A : Option Addr} {c : Nat} {l : List Event} (h : Sl kEvent (fun j => j < w.heap.size) w A c l) (hb : Below w.heap.size w wr) : Sl kEvent (fun j => j < w.heap.size) wr A c l := h.below hb
set_option maxHeartbeats 2000000 in
set_option maxRecDepth 8000 in
theorem postingMatch_walk (w : World) (A : Option Addr) (c : Nat) (l : List Event) (h : Sl kEvent (fun _ => True) w A c l) (hg : ∀ e ∈ l, goodEvent e) (cs : Array Value) (q : List Clause) (hq : kQuery.K (fun _ => True) w q cs.toList) (gq : ∀ c ∈ q, goodClause c) (x : Int) (hx : (Lit.int .i64 x).wf = true) :
    Calls Try.prog 8 #[.slice A l.length c, .agg cs, .int .i64 x] w fun r w' => r = .returned (.bool true) ∧ Below w.heap.size w w' := by
  obtain ⟨Q, cq, ecs, hq1, hq2, hq3⟩ := hq
  obtain rfl : cs = #[.slice Q q.length cq] := by cases cs; simp_all
  have HL := Lib.hid (show Sl kEvent (fun j => j < w.heap.size) w A c l from h.bound.mono (fun j hj => hj.2))
  have HQ := Lib.hid (show Sl kClause (fun j => j < w.heap.size) w Q cq q from (show Sl kClause _ w Q cq q from ⟨hq1, hq2, hq3⟩).bound.mono (fun j hj => hj.2))
  have HG := Lib.hid hg
  have HGQ := Lib.hid (goodFewM q gq)
  have hc1 := h.1
  have hc2 := h.2.1
  unfold maxLen at hc2
  obtain ⟨W0, hW0⟩ : ∃ W0, W0 = w.alloc (.cells #[.slice Q q.length cq] 52) := ⟨_, rfl⟩
  have HW0 := Lib.hid hW0
  have HB0 := Lib.hid (show Below w.heap.size w W0 by rw [hW0]; exact (Below.refl _ _).alloc (Nat.le_refl _) _)
  have HX0 := Lib.hid (show Bx W0 w.heap.size 52 [.slice Q q.length cq] by rw [hW0]; exact Bx.new w _ _)
  have HS := Lib.hid (shown13 W0)
  clear h hg gq hx ecs hq1 hq2 hq3
  go_enter Try.func8, Try.ntmps8
  go_upto_region 1 with fail
  rw [← HW0.out]
  clear hW0
  go_upto_region 2 with (go_at_call 19; go_fit HS.out; rintro r w1 ⟨rfl, h1⟩; have H1 := Lib.hid h1; clear h1)
  have HX1 := Lib.hid (HX0.out.under H1.out)
  have hX : ∀ k, k = w.heap.size → k < w1.heap.size := fun k hk => by subst hk; exact HX1.out.lt
  have CN := Lib.hid (cPNew (w := w1) (fun k => k = w.heap.size) hX)
  clear hX
  go_upto_region 5 with (go_at_call 20; go_fit CN.out; rintro r w2 ⟨p, rfl, hqs, hb2⟩; have HQS := Lib.hid hqs; have HB2 := Lib.hid hb2; clear hqs hb2)
  have HX2 := Lib.hid (HX1.out.under HB2.out)
  have hc0 := HX2.out.c0
  have hf0 := HX2.out.free 0
  have HB02 := Lib.hid (show Below w.heap.size w w2 from bthen (bthen HB0.out H1.out) HB2.out)
  have CL := Lib.hid (pless_any (fun j => j < w.heap.size) (HQ.out.below HB02.out))
  have hgL : w.heap.size < w1.heap.size := HX1.out.lt
  go_upto_region 6 with (go_at_call 30; go_fit CL.out; rintro r w3 ⟨A2, c2, rfl, hsq, hb3⟩; have HSQ := Lib.hid hsq; have HB3 := Lib.hid hb3; have hX3 := HX2.out.under hb3; have hq0 := hX3.c0; have hqf := hX3.free 0; have HX3 := Lib.hid hX3; clear hsq hb3 hX3)
  clear hc0 hf0 hq0 hqf
  generalize hgen : fewM q = q2 at *
  have HGEN := Lib.hid hgen
  have HGQ2 := Lib.hid HGQ.out
  clear hgen HGQ
  obtain ⟨base, hbase⟩ : ∃ base, base = w3.heap.size := ⟨_, rfl⟩
  have hs2 := HB2.out.size
  have hs3 := HB3.out.size
  have HBX := Lib.hid (show Bx (w3.setCell ⟨w.heap.size, 0, none⟩ (.slice A2 q2.length c2)) w.heap.size 52 [.slice A2 q2.length c2] from HX3.out.set 0 _)
  have HSQ4 := Lib.hid (show Sl kClause (fun j => (j < w.heap.size ∨ w2.heap.size ≤ j) ∧ j < base) (w3.setCell ⟨w.heap.size, 0, none⟩ (.slice A2 q2.length c2)) A2 c2 q2 from
    (HSQ.out.bound.setCell (fun k hk e => by have h2 := HX2.out.lt; simp at e; omega) _).mono (fun k hk => by have h2 := hk.1; omega))
  have HQS4 := Lib.hid (show Qs (w3.setCell ⟨w.heap.size, 0, none⟩ (.slice A2 q2.length c2)) p [] w1.heap.size w2.heap.size (fun k => k = w.heap.size) from
    (HQS.out.below HB3.out).move (But.setCell (S := fun k => k = w.heap.size) (p := ⟨w.heap.size, 0, none⟩) w3 rfl _) (fun k hk => .inl hk))
  have HBE4 := Lib.hid (show Below w.heap.size w (w3.setCell ⟨w.heap.size, 0, none⟩ (.slice A2 q2.length c2)) from
    (bthen HB02.out HB3.out).setCell (by simp) _)
  have hz4 : (w3.setCell ⟨w.heap.size, 0, none⟩ (.slice A2 q2.length c2)).heap.size = base := by simp [World.setCell, hbase]
  generalize w3.setCell ⟨w.heap.size, 0, none⟩ (.slice A2 q2.length c2) = W4 at *
  have HB5 := Lib.hid (show Below W4.heap.size W4 (W4.alloc (.cells #[] 3)) from (Below.refl _ _).alloc (Nat.le_refl _) _)
  have H0 := Lib.hid (show PM w (W4.alloc (.cells #[] 3)) p w1.heap.size w2.heap.size w.heap.size base 0 [] A2 c2 q2 x (.slice (some ⟨W4.heap.size, 0, none⟩) 0 0) from
    ⟨HQS4.out.move ((But.of_below HB5.out)) (fun k hk => by
        rcases hk with hk | hk
        · exact .inl hk
        · simp [Value.ownBlock] at hk; exact .inr ⟨by omega, by simp; omega⟩), HBX.out.under HB5.out, HSQ4.out.below HB5.out, hz4 ▸ Own.lit0 (Kn.int .i64) 3 W4.heap.size (fun _ => False) W4 (Nat.le_refl _), bthen HBE4.out HB5.out, rfl, fun y hy => by simp [posE] at hy, by simp; omega⟩)
  have hbB : w2.heap.size ≤ base := by omega
  have hg0b : w.heap.size < base := by have := HB2.out.size; omega
  clear HBX HSQ4 HQS4 HBE4 HB5 HSQ HX3 HB3
  go_wp2_with fail
  go_loopw [9, 10] (fun v i wr => ∃ (k : Nat) (es : List EP), k ≤ l.length ∧ k ≤ 60 ∧ i = .int .i64 k ∧ PM w wr p w1.heap.size w2.heap.size w.heap.size base k es A2 c2 q2 x v) (fun _ i _ => l.length - (intOf i).toNat)
  case atStart => exact ⟨0, [], by omega, by omega, rfl, by have h0 := H0.out; rw [hz4] at h0; rw [← hbase]; exact h0⟩
  case round =>
    obtain ⟨k, es, hkl, hk6, rfl, hP⟩ := hrel
    have HP := Lib.hid hP
    clear hP
    by_cases hlt : k < l.length ∧ k < 60
    · obtain ⟨hlt, hlt6⟩ := hlt
      obtain ⟨ad, T, ct, F, cf, rfl, hx0, hx1, hx2, hx3, htg, hadl⟩ := row_event_at HL.out.2.2 hlt
      have hge := HG.out _ (List.getElem_mem hlt)
      generalize l[k] = e at *
      have HF := Lib.hid (fun W (hb : Below w.heap.size w W) => show W.cell? (ad.add (k * 4)) = some (.string e.stream) ∧ W.cell? ⟨(ad.add (k * 4)).block, (ad.add (k * 4)).off + 1, none⟩ = some (.string e.type) ∧ W.cell? ⟨(ad.add (k * 4)).block, (ad.add (k * 4)).off + 2, none⟩ = some (.slice T e.tags.length ct) ∧ W.cell? ⟨(ad.add (k * 4)).block, (ad.add (k * 4)).off + 3, none⟩ = some (.slice F e.fields.length cf) from by
        have hbl : ∀ o, W.cell? ⟨(ad.add (k * 4)).block, o, none⟩ = w.cell? ⟨(ad.add (k * 4)).block, o, none⟩ := fun o => World.cell?_of_block (hb.block _ (by rw [block_add]; exact hadl))
        have hbl0 : W.cell? (ad.add (k * 4)) = w.cell? (ad.add (k * 4)) := World.cell?_of_block (hb.block _ (by rw [block_add]; exact hadl))
        exact ⟨hbl0.trans hx0, (hbl _).trans hx1, (hbl _).trans hx2, (hbl _).trans hx3⟩)
      obtain ⟨y0, y1, y2, y3⟩ := HF.out wr HP.out.bel
      have htl := htg.1
      have HT := Lib.hid (show Sl Kn.str (fun j => j < w.heap.size) w T ct (few10 e).tags from htg.take 10)
      have HGE := Lib.hid (goodFew e hge)
      have hts : (few10 e).tags.length ≤ 50 := by simp [few10]; omega
      have C1 := Lib.hid (fun W (R : Prop) (_ : R) => few13_any (w := W) (e := e) (T := T) (F := F) (cf := cf) htl)
      clear hx0 hx1 hx2 hx3 htg hge
      generalize few10 e = e1 at *
      have ew : IntKind.i64.wrap (3 * (k : Int)) = 3 * (k : Int) := IntWalk.i64_in _ (by omega)
      have ew2 : IntKind.i64.wrap (3 * (k : Int) + 1) = 3 * (k : Int) + 1 := IntWalk.i64_in _ (by omega)
      have b1 : (0 : Int) ≤ (k : Int) := Int.natCast_nonneg _
      have b2 : (k : Int) < (l.length : Int) := by omega
      go_upto_region 12 with (first | (go_at_call 22; go_fit (C1.out _ True trivial); rintro r w6 ⟨rfl, h6⟩; have HP6 := Lib.hid (HP.out.below h6); clear h6) | (go_at_call 21; go_fit (HP6.out.add rfl hgL hbB (by omega) (HT.out.below HP6.out.bel) hts HGE.out); rintro r w7 ⟨rfl, h7⟩; have HP7 := Lib.hid h7; clear h7))
      obtain ⟨X, hX⟩ : ∃ X, X = w7 := ⟨w7, rfl⟩
      subst hX
      have HK : Hid (∀ W, Below X.heap.size X W → Below X.heap.size X W ∧ W.cell? ⟨w.heap.size, 0, none⟩ = some (.slice A2 q2.length c2) ∧ W.cell? (ad.add (k * 4)) = some (.string e.stream) ∧ W.cell? ⟨(ad.add (k * 4)).block, (ad.add (k * 4)).off + 1, none⟩ = some (.string e.type) ∧ W.cell? ⟨(ad.add (k * 4)).block, (ad.add (k * 4)).off + 2, none⟩ = some (.slice T e.tags.length ct) ∧ W.cell? ⟨(ad.add (k * 4)).block, (ad.add (k * 4)).off + 3, none⟩ = some (.slice F e.fields.length cf)) := Lib.hid (fun W hW => ⟨hW, (HP7.out.bx.under hW).c0, HF.out W (bthen HP7.out.bel hW)⟩)
      have C2 : Hid (∀ W (R : Prop), Below X.heap.size X W ∧ R → Calls Try.prog 36 #[.agg #[.slice A2 q2.length c2], vEvent e1 T ct F cf] W fun r w' => r = .returned (.bool (matchM q2 e1)) ∧ Below W.heap.size W w') := Lib.hid (fun W R hW => Match_any (HP7.out.sq.below hW.1).any ((HT.out.below (bthen HP7.out.bel hW.1)).any))
      have C1 : Hid (∀ W (R : Prop), R → Calls Try.prog 22 #[vEvent e T ct F cf] W fun r w' => r = .returned (vEvent e1 T ct F cf) ∧ Below W.heap.size W w') := C1
      clear y0 y1 y2 y3 HP6
      generalize hm : matchM q2 e1 = m at *
      have HM := Lib.hid hm
      clear hm
      go_cut [56] (fun b wx => b = .bool (m && decide (3 * (k : Int) + 1 ≤ x)) ∧ Below X.heap.size X wx)
      case first =>
        rcases m with _ | _
        · refine wp_region_held_drew (S := (fun W => Below X.heap.size X W ∧ W.cell? ⟨w.heap.size, 0, none⟩ = some (.slice A2 q2.length c2) ∧ W.cell? (ad.add (k * 4)) = some (.string e.stream) ∧ W.cell? ⟨(ad.add (k * 4)).block, (ad.add (k * 4)).off + 1, none⟩ = some (.string e.type) ∧ W.cell? ⟨(ad.add (k * 4)).block, (ad.add (k * 4)).off + 2, none⟩ = some (.slice T e.tags.length ct) ∧ W.cell? ⟨(ad.add (k * 4)).block, (ad.add (k * 4)).off + 3, none⟩ = some (.slice F e.fields.length cf))) (by kernel_rfl) (HK.out _ (below_drawn (Below.refl _ _))) (fun hHeld => ?_)
          refine wpAnyH_take (i := 0) (v := .agg #[.slice A2 q2.length c2]) rfl (by kernel_rfl) (by kernel_rfl) (by kernel_rfl) (fun _ _ _ h => h) (Or.inl ⟨by rfl, ?_⟩) (by assumption) ?_
          · intro w hSw
            (try dsimp only at hSw)
            go_simp
          (try simp only [Act.put, List.setIfInBounds_toArray, List.set_cons_zero, List.set_cons_succ])
          refine wpAnyH_take (i := 1) (v := .slice (some ad) l.length c) rfl (by kernel_rfl) (by kernel_rfl) (by kernel_rfl) (fun _ _ _ h => h) (Or.inl ⟨by rfl, ?_⟩) (by assumption) ?_
          · intro w hSw
            (try dsimp only at hSw)
            go_simp
          (try simp only [Act.put, List.setIfInBounds_toArray, List.set_cons_zero, List.set_cons_succ])
          refine wpAnyH_take (i := 2) (v := .int .i64 k) rfl (by kernel_rfl) (by kernel_rfl) (by kernel_rfl) (fun _ _ _ h => h) (Or.inl ⟨by rfl, ?_⟩) (by assumption) ?_
          · intro w hSw
            (try dsimp only at hSw)
            go_simp
          (try simp only [Act.put, List.setIfInBounds_toArray, List.set_cons_zero, List.set_cons_succ])
          refine wpAnyH_take (i := 3) (v := .pointer (some (ad.add (k * 4)))) rfl (by kernel_rfl) (by kernel_rfl) (by kernel_rfl) (fun _ _ _ h => h) (Or.inl ⟨by rfl, ?_⟩) (by assumption) ?_
          · intro w hSw
            (try dsimp only at hSw)
            go_simp
          (try simp only [Act.put, List.setIfInBounds_toArray, List.set_cons_zero, List.set_cons_succ])
          refine wpAnyH_take (i := 4) (v := vEvent e T ct F cf) rfl (by kernel_rfl) (by kernel_rfl) (by kernel_rfl) (fun _ _ _ h => h) (Or.inl ⟨by rfl, ?_⟩) (by assumption) ?_
          · intro w hSw
            (try dsimp only at hSw)
            go_simp
          (try simp only [Act.put, List.setIfInBounds_toArray, List.set_cons_zero, List.set_cons_succ])
          refine wpAnyH_ready (rs := [5]) (by kernel_rfl) (by simp) ?_
          refine AllReadyH.cons rfl (fun K hK => ?_) AllReadyH.nil
          go_simp
          go_at_call 22
          refine (C1.out _ _ (by assumption)).mono ?_
          rintro r a1 ⟨rfl, hb⟩
          (try go_wp2_with fail)
          refine hK.out _ _ (HK.out _ (bthen (And.left (by assumption : Below X.heap.size X _ ∧ _)) (by assumption))) (fun hHeld => ?_)
          clear hK K
          (try simp only [Act.put, List.setIfInBounds_toArray, List.set_cons_zero, List.set_cons_succ])
          refine wpAnyH_ready (rs := [6]) (by kernel_rfl) (by simp) ?_
          refine AllReadyH.cons rfl (fun K hK => ?_) AllReadyH.nil
          go_simp
          go_at_call 36
          refine (C2.out _ _ (by assumption)).mono ?_
          rintro r a2 ⟨rfl, hb⟩
          (try go_wp2_with fail)
          refine hK.out _ _ (HK.out _ (bthen (And.left (by assumption : Below X.heap.size X _ ∧ _)) (by assumption))) (fun hHeld => ?_)
          clear hK K
          (try simp only [Act.put, List.setIfInBounds_toArray, List.set_cons_zero, List.set_cons_succ])
          refine wpAnyH_take (i := 7) (v := .bool false) rfl (by kernel_rfl) (by kernel_rfl) (by kernel_rfl) (fun _ _ _ h => h) (Or.inl ⟨by rfl, ?_⟩) (by assumption) ?_
          · intro w hSw
            (try dsimp only at hSw)
            go_simp
          (try simp only [Act.put, List.setIfInBounds_toArray, List.set_cons_zero, List.set_cons_succ])
          refine wpAnyH_take (i := 8) (v := undef) rfl (by kernel_rfl) (by kernel_rfl) (by kernel_rfl) (fun _ _ _ h => h) (Or.inr ⟨by rfl, rfl⟩) (by assumption) ?_
          (try simp only [Act.put, List.setIfInBounds_toArray, List.set_cons_zero, List.set_cons_succ])
          refine wpAnyH_take (i := 9) (v := undef) rfl (by kernel_rfl) (by kernel_rfl) (by kernel_rfl) (fun _ _ _ h => h) (Or.inr ⟨by rfl, rfl⟩) (by assumption) ?_
          (try simp only [Act.put, List.setIfInBounds_toArray, List.set_cons_zero, List.set_cons_succ])
          refine wpAnyH_take (i := 10) (v := undef) rfl (by kernel_rfl) (by kernel_rfl) (by kernel_rfl) (fun _ _ _ h => h) (Or.inr ⟨by rfl, rfl⟩) (by assumption) ?_
          (try simp only [Act.put, List.setIfInBounds_toArray, List.set_cons_zero, List.set_cons_succ])
          refine wpAnyH_take (i := 11) (v := undef) rfl (by kernel_rfl) (by kernel_rfl) (by kernel_rfl) (fun _ _ _ h => h) (Or.inr ⟨by rfl, rfl⟩) (by assumption) ?_
          (try simp only [Act.put, List.setIfInBounds_toArray, List.set_cons_zero, List.set_cons_succ])
          refine wpAnyH_take (i := 12) (v := undef) rfl (by kernel_rfl) (by kernel_rfl) (by kernel_rfl) (fun _ _ _ h => h) (Or.inr ⟨by rfl, rfl⟩) (by assumption) ?_
          (try simp only [Act.put, List.setIfInBounds_toArray, List.set_cons_zero, List.set_cons_succ])
          refine wpAnyH_take (i := 13) (v := .bool false) rfl (by kernel_rfl) (by kernel_rfl) (by kernel_rfl) (fun _ _ _ h => h) (Or.inl ⟨by rfl, ?_⟩) (by assumption) ?_
          · intro w hSw
            (try dsimp only at hSw)
            go_simp
          (try simp only [Act.put, List.setIfInBounds_toArray, List.set_cons_zero, List.set_cons_succ])
          refine wpAnyH_done (by kernel_rfl) ?_ _
          simp only [List.getElem_toArray, List.getElem_cons_succ, List.getElem_cons_zero, Act.put, List.setIfInBounds_toArray, List.set_cons_zero, List.set_cons_succ]
          go_wp2_with fail
          go_meet
          exact ⟨by simp, And.left (by assumption : Below X.heap.size X _ ∧ _)⟩
        · by_cases hxx : 3 * (k : Int) + 1 ≤ x
          all_goals go_region_held3 (fun W => Below X.heap.size X W ∧ W.cell? ⟨w.heap.size, 0, none⟩ = some (.slice A2 q2.length c2) ∧ W.cell? (ad.add (k * 4)) = some (.string e.stream) ∧ W.cell? ⟨(ad.add (k * 4)).block, (ad.add (k * 4)).off + 1, none⟩ = some (.string e.type) ∧ W.cell? ⟨(ad.add (k * 4)).block, (ad.add (k * 4)).off + 2, none⟩ = some (.slice T e.tags.length ct) ∧ W.cell? ⟨(ad.add (k * 4)).block, (ad.add (k * 4)).off + 3, none⟩ = some (.slice F e.fields.length cf)) (first | exact HK.out _ (below_drawn (Below.refl _ _)) | exact HK.out _ (bthen (And.left (by assumption : Below X.heap.size X _ ∧ _)) (by assumption))) (first | (go_at_call 22; refine (C1.out _ _ (by assumption)).mono ?_; rintro r w' ⟨rfl, hb⟩) | (go_at_call 36; refine (C2.out _ _ (by assumption)).mono ?_; rintro r w' ⟨rfl, hb⟩))
          all_goals go_wp2_with fail
          all_goals go_meet
          all_goals exact ⟨by simp [hxx], And.left (by assumption : Below X.heap.size X _ ∧ _)⟩
      case rest =>
        obtain ⟨rfl, hbx⟩ := hcut
        have HP8 := Lib.hid (HP7.out.below hbx)
        have hbs : base ≤ wc.heap.size := HP8.out.bs
        clear hbx C1 C2 HK
        generalize hmm : (m && decide (3 * (k : Int) + 1 ≤ x)) = mm at *
        have HMM := Lib.hid (show (matchM q2 e1 && decide (3 * (k : Int) + 1 ≤ x)) = mm by rw [HM.out]; exact hmm)
        clear hmm
        rcases mm with _ | _
        · go_wp2_with fail
          go_roundw
          case rel => exact ⟨k + 1, _, by omega, by omega, by go_num, HP8.out.skip HMM.out⟩
          case measure => simp [intOf]; omega
        · have hfl := findE_le es q2 x
          have hel := HP8.out.len
          go_wp2_with (at_builtin; refine wpList_pushH (W := wc) rfl _ _ _ rfl 3 _ 1 8 Try.underlying30 infoInt rfl (by decide) (by decide) rfl base (fun _ => False) _ _ rfl HP8.out.own (3 * (k : Int) + 1) [.int .i64 (3 * (k : Int) + 1)] rfl wc.heap.size rfl rfl hbs (by omega) ?_; intro v1 w9 hown9 hg9 hat9 hbel9; have HP9 := Lib.hid (HP8.out.push rfl hg0b hbs HMM.out hown9 hg9 hat9); clear hown9 hg9 hat9 hbel9)
          go_roundw
          case rel => exact ⟨k + 1, _, by omega, by omega, by go_num, HP9.out⟩
          case measure => simp [intOf]; omega
    · obtain ⟨V, cv, rfl, hsv⟩ := HP.out.own.sl
      have hbox := HP.out.bx.c0
      have HSV := Lib.hid hsv.any
      have CF := Lib.hid (cPFind HP.out.qs HP.out.sq.any HGQ2.out x)
      clear hsv
      by_cases hk1 : k < l.length
      · obtain rfl : k = 60 := by omega
        go_wp2_with (first | (go_at_call 31; go_fit CF.out; rintro r w6 ⟨A6, c6, rfl, h6, hb6⟩; have H6 := Lib.hid h6.any; have HV6 := Lib.hid (HSV.out.below hb6); have HB6 := Lib.hid (bthen HP.out.bel hb6); clear h6 hb6) | (go_at_call 28; go_fit (cIntsEq H6.out HV6.out); rintro r w7 ⟨rfl, hb7⟩))
        go_ret
        exact ⟨rfl, bthen HB6.out hb7⟩
      · obtain rfl : k = l.length := by omega
        go_wp2_with (first | (go_at_call 31; go_fit CF.out; rintro r w6 ⟨A6, c6, rfl, h6, hb6⟩; have H6 := Lib.hid h6.any; have HV6 := Lib.hid (HSV.out.below hb6); have HB6 := Lib.hid (bthen HP.out.bel hb6); clear h6 hb6) | (go_at_call 28; go_fit (cIntsEq H6.out HV6.out); rintro r w7 ⟨rfl, hb7⟩))
        go_ret
        exact ⟨rfl, bthen HB6.out hb7⟩
end Go.Proofs.Yteahpkihkfkpfaa
