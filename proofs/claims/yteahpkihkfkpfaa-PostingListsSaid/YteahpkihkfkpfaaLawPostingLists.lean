/- PostingLists: the law's walk. -/
import Derived.Test.YteahpkihkfkpfaaPstClone
import Derived.Test.YteahpkihkfkpfaaLawPostingMatch
import Derived.Test.YteahpkihkfkpfaaPut04
set_option linter.unusedVariables false
set_option linter.unusedSimpArgs false
namespace Go.Proofs.Yteahpkihkfkpfaa
open Go.RowKit Go.Maps

/-- The state of PostingLists in its first loop. -/
structure PL (w wr : World) (p L B k : Nat) (es : List EP) (V : Option Addr) (cv : Nat) (ts : List ByteArray) : Prop where
  qs : Qs wr p es L B (fun _ => False)
  sl : Sl Kn.str (fun j => B ≤ j) wr V cv ts
  rise : ts.Pairwise ltB
  mem : ∀ s, s ∈ ts ↔ ∃ a ∈ es, a.1.type = s
  tl : ts.length ≤ k
  gs : ∀ s ∈ ts, s.size ≤ maxLen
  bel : Below w.heap.size w wr
  len : es.length = k
  top : ∀ y ∈ posE es, y < (k : Int) + 1
  bs : B ≤ wr.heap.size
/-- Behind an Add. -/
structure PL1 (w wr : World) (p L B k : Nat) (es : List EP) (V : Option Addr) (cv : Nat) (ts : List ByteArray) (e : Event) : Prop where
  qs : Qs wr p (es ++ [(e, (k : Int) + 1)]) L B (fun _ => False)
  sl : Sl Kn.str (fun j => B ≤ j) wr V cv ts
  rise : ts.Pairwise ltB
  mem : ∀ s, s ∈ ts ↔ ∃ a ∈ es, a.1.type = s
  tl : ts.length ≤ k
  gs : ∀ s ∈ ts, s.size ≤ maxLen
  bel : Below w.heap.size w wr
  len : es.length = k
  top : ∀ y ∈ posE es, y < (k : Int) + 1
  bs : B ≤ wr.heap.size
section
variable {w wr W : World} {p L B k : Nat} {es : List EP} {V : Option Addr} {cv : Nat} {ts : List ByteArray}
theorem PL.below (h : PL w wr p L B k es V cv ts) (hb : Below wr.heap.size wr W) : PL w W p L B k es V cv ts :=
  ⟨h.qs.below hb, h.sl.below hb, h.rise, h.mem, h.tl, h.gs, bthen h.bel hb, h.len, h.top, Nat.le_trans h.bs hb.size⟩
theorem PL.add (h : PL w wr p L B k es V cv ts) (hL : w.heap.size ≤ L) (hk : k < 70) {e : Event} {T F : Option Addr} {ct cf : Nat} (hT : Sl Kn.str (fun j => j < w.heap.size) wr T ct e.tags) (hts : e.tags.length ≤ 50) (hge : goodEvent e) :
    Calls Try.prog 21 #[.pointer (some ⟨p, 0, none⟩), vEvent e T ct F cf, .int .i64 ((k : Int) + 1)] wr fun r w' => r = .returned (.int .i64 0) ∧ PL1 w w' p L B k es V cv ts e := by
  refine (cPAdd h.qs (by rw [h.len]; exact hk) (hT.mono (fun j hj => by omega)) hts hge.2.2.1 hge.2.1 (by omega) h.top).mono fun r w' hr => ?_
  obtain ⟨e1, h1, h2⟩ := hr
  exact ⟨e1, h1, h.sl.stay h2.size (fun j hj hl => h2.block j hl (by omega)), h.rise, h.mem, h.tl, h.gs, h2.below h.bel h.bel.size (fun j hj => by omega), h.len, h.top, Nat.le_trans h.bs h2.size⟩
theorem PL1.put {e : Event} (h : PL1 w wr p L B k es V cv ts e) {V' : Option Addr} {cv' : Nat} {ts' : List ByteArray} (hb : Below wr.heap.size wr W) (hs : Sl Kn.str (fun j => B ≤ j ∨ wr.heap.size ≤ j) W V' cv' ts') (hp : PutR ts e.type ts') (hgs : e.type.size ≤ maxLen) : PL w W p L B (k + 1) (es ++ [(e, (k : Int) + 1)]) V' cv' ts' := by
  have hbs := h.bs
  refine ⟨h.qs.below hb, hs.mono (fun j hj => by omega), hp.rise, fun s => ?_, by have := hp.len; have := h.tl; omega, fun s hs => ((hp.mem s).1 hs).elim (h.gs s) (fun e1 => e1 ▸ hgs), bthen h.bel hb, by simp [h.len], fun y hy => ?_, Nat.le_trans hbs hb.size⟩
  · rw [hp.mem, h.mem]
    constructor
    · rintro (⟨a, ha, e1⟩ | e1)
      · exact ⟨a, List.mem_append.2 (.inl ha), e1⟩
      · exact ⟨(e, (k : Int) + 1), by simp, e1.symm⟩
    · rintro ⟨a, ha, e1⟩
      rcases List.mem_append.1 ha with ha | ha
      · exact .inl ⟨a, ha, e1⟩
      · simp at ha; subst ha; exact .inr e1.symm
  · rw [posE_snoc] at hy
    rcases List.mem_append.1 hy with hy | hy
    · have := h.top y hy; omega
    · simp at hy; omega
end
theorem types_all {es : List EP} (h : EsOK es) {ts : List ByteArray} (hm : ∀ s, s ∈ ts ↔ ∃ a ∈ es, a.1.type = s) : typesL (typeE es) ts = posE es := by
  obtain ⟨h1, h2⟩ := typesL_rm h.pf.ry ts
  refine rise_ext h1 h.rise (fun x => ?_)
  rw [h2]
  constructor
  · rintro ⟨s, _, hx⟩; exact h.pf.sy s x hx
  · intro hx
    obtain ⟨a, ha, e⟩ := List.mem_map.1 hx
    exact ⟨a.1.type, (hm _).2 ⟨a, ha, rfl⟩, (mem_filt _ x).2 ⟨a, ha, by simp, e⟩⟩
theorem cTypeLen {w : World} {p L B : Nat} {es : List EP} {X : Nat → Prop} (h : Qs w p es L B X) {s : ByteArray} (hs : s.size ≤ maxLen) {n : Nat} (hn : (typeE es s).length = n) : Calls Try.prog 25 #[.pointer (some ⟨p, 0, none⟩), .string s] w fun r w' => ∃ A c, r = .returned (.slice A n c) ∧ Below w.heap.size w w' := by
  refine (cPType h hs).mono fun r w' ⟨A, c, e, _, hb⟩ => ⟨A, c, by rw [e, hn], hb⟩
theorem cTagLen {w : World} {p L B : Nat} {es : List EP} {X : Nat → Prop} (h : Qs w p es L B X) {s : ByteArray} (hs : s.size ≤ maxLen) {n : Nat} (hn : (tagE es s).length = n) : Calls Try.prog 26 #[.pointer (some ⟨p, 0, none⟩), .string s] w fun r w' => ∃ A c, r = .returned (.slice A n c) ∧ Below w.heap.size w w' := by
  refine (cPTag h hs).mono fun r w' ⟨A, c, e, _, hb⟩ => ⟨A, c, by rw [e, hn], hb⟩
theorem cTagIs {w : World} {p L B : Nat} {es : List EP} {X : Nat → Prop} (h : Qs w p es L B X) {s : ByteArray} (hs : s.size ≤ maxLen) {t : List Int} (hn : tagE es s = t) : Calls Try.prog 26 #[.pointer (some ⟨p, 0, none⟩), .string s] w fun r w' => ∃ A c, r = .returned (.slice A t.length c) ∧ Sl (Kn.int .i64) (fun _ => True) w' A c t ∧ Below w.heap.size w w' := by
  refine (cPTag h hs).mono fun r w' ⟨A, c, e, h1, hb⟩ => ⟨A, c, by rw [e, hn], hn ▸ h1.any, hb⟩
def evZ (tag : ByteArray) : Event := ⟨ByteArray.empty, ⟨#[122, 122]⟩, [tag], []⟩

set_option maxHeartbeats 2000000 in
set_option maxRecDepth 8000 in
theorem postingLists_walk (w : World) (A : Option Addr) (c : Nat) (l : List Event) (h : Sl kEvent (fun _ => True) w A c l) (hg : ∀ e ∈ l, goodEvent e) (tag : ByteArray) (htag : tag.size ≤ maxLen) :
    Calls Try.prog 4 #[.slice A l.length c, .string tag] w fun r w' => r = .returned (.bool true) ∧ Below w.heap.size w w' := by
  have HL := Lib.hid (show Sl kEvent (fun j => j < w.heap.size) w A c l from h.bound.mono (fun j hj => hj.2))
  have HG := Lib.hid hg
  have HTAG := Lib.hid htag
  have hc1 := h.1
  have hc2 := h.2.1
  unfold maxLen at hc2
  have HS := Lib.hid (shown13 w)
  clear h hg htag
  obtain ⟨n, e9, hn1, hn2⟩ : ∃ n : Nat, (if (60 : Int) < (l.length : Int) then (60 : Int) else (l.length : Int)) = (n : Int) ∧ n ≤ l.length ∧ n ≤ 60 := ⟨min l.length 60, by split <;> omega, by omega, by omega⟩
  have e8 : min (l.length : Int) 60 = (n : Int) := by split at e9 <;> omega
  go_enter Try.func4, Try.ntmps4
  go_upto_region 2 with (go_at_call 19; go_fit HS.out; rintro r w1 ⟨rfl, h1⟩; have H1 := Lib.hid h1; clear h1)
  have CN := Lib.hid (cPNew (w := w1) (fun _ => False) (fun _ h => h.elim))
  go_wp2_with (go_at_call 20; go_fit CN.out; rintro r w2 ⟨p, rfl, hqs, hb2⟩; have HQS := Lib.hid hqs; have HB2 := Lib.hid hb2; clear hqs hb2)
  have hL : w.heap.size ≤ w1.heap.size := H1.out.size
  have H0 := Lib.hid (show PL w (w2.alloc (.cells #[] 9)) p w1.heap.size w2.heap.size 0 [] (some ⟨w2.heap.size, 0, none⟩) 0 [] from
    (⟨HQS.out.below ((Below.refl _ _).alloc (Nat.le_refl _) _), Sl.lit Value.string (fun _ => rfl) w2 9 [] (by simp [maxLen]), List.Pairwise.nil, fun s => by simp, Nat.le_refl _, fun s hs => (by cases hs), bthen (bthen H1.out HB2.out) ((Below.refl _ _).alloc (Nat.le_refl _) _), rfl, fun y hy => (by simp [posE] at hy), by simp⟩))
  clear e9 e8
  go_loopw [8, 9] (fun v i wr => ∃ (k : Nat) (es : List EP) (V : Option Addr) (cv : Nat) (ts : List ByteArray), k ≤ n ∧ i = .int .i64 k ∧ v = .slice V ts.length cv ∧ PL w wr p w1.heap.size w2.heap.size k es V cv ts) (fun _ i _ => n - (intOf i).toNat)
  case atStart => exact ⟨0, [], _, _, [], by omega, rfl, rfl, H0.out⟩
  case round =>
    obtain ⟨k, es, V, cv, ts, hkn, rfl, rfl, hP⟩ := hrel
    have HP := Lib.hid hP
    clear hP
    by_cases hlt : k < n
    · have hkl : k < l.length := by omega
      obtain ⟨ad, T, ct, F, cf, rfl, hx0, hx1, hx2, hx3, htg, hadl⟩ := row_event_at HL.out.2.2 hkl
      have hge := HG.out _ (List.getElem_mem hkl)
      generalize l[k] = e at *
      have HF := Lib.hid (fun W (hb : Below w.heap.size w W) => show W.cell? (ad.add (k * 4)) = some (.string e.stream) ∧ W.cell? ⟨(ad.add (k * 4)).block, (ad.add (k * 4)).off + 1, none⟩ = some (.string e.type) ∧ W.cell? ⟨(ad.add (k * 4)).block, (ad.add (k * 4)).off + 2, none⟩ = some (.slice T e.tags.length ct) ∧ W.cell? ⟨(ad.add (k * 4)).block, (ad.add (k * 4)).off + 3, none⟩ = some (.slice F e.fields.length cf) from by
        have hbl : ∀ o, W.cell? ⟨(ad.add (k * 4)).block, o, none⟩ = w.cell? ⟨(ad.add (k * 4)).block, o, none⟩ := fun o => World.cell?_of_block (hb.block _ (by rw [block_add]; exact hadl))
        have hbl0 : W.cell? (ad.add (k * 4)) = w.cell? (ad.add (k * 4)) := World.cell?_of_block (hb.block _ (by rw [block_add]; exact hadl))
        exact ⟨hbl0.trans hx0, (hbl _).trans hx1, (hbl _).trans hx2, (hbl _).trans hx3⟩)
      obtain ⟨y0, y1, y2, y3⟩ := HF.out wr HP.out.bel
      have htl := htg.1
      have HT := Lib.hid (show Sl Kn.str (fun j => j < w.heap.size) w T ct (few10 e).tags from htg.take 10)
      have HGE := Lib.hid (goodFew e hge)
      have hts : (few10 e).tags.length ≤ 50 := by simp [few10]; omega
      have htys : e.type = (few10 e).type := rfl
      have C1 := Lib.hid (fun W => few13_any (w := W) (e := e) (T := T) (F := F) (cf := cf) htl)
      clear hx0 hx1 hx2 hx3 htg hge
      generalize few10 e = e1 at *
      have HTY := Lib.hid htys
      have hput : ∀ W, PL1 w W p w1.heap.size w2.heap.size k es V cv ts e1 → Calls Try.prog 23 #[.slice V ts.length cv, .string e.type] W fun r w' => ∃ A' c' l', r = .returned (.slice A' l'.length c') ∧ PL w w' p w1.heap.size w2.heap.size (k + 1) (es ++ [(e1, (k : Int) + 1)]) A' c' l' := fun W hW =>
        (Put_any hW.sl (by have := hW.tl; omega) hW.rise e.type).mono fun r w' ⟨A', c', l', e2, h1, h2, h3⟩ => ⟨A', c', l', e2, hW.put h3 h1 (by rw [← HTY.out]; exact h2) HGE.out.2.1⟩
      have CP := Lib.hid hput
      have b1 : (0 : Int) ≤ (k : Int) := Int.natCast_nonneg _
      have b2 : (k : Int) < (l.length : Int) := by omega
      clear htys hput
      go_wp2_with (first | (go_at_call 23; go_fit (CP.out _ HP7.out); rintro r w8 ⟨A8, c8, l8, rfl, h8⟩; have HP8 := Lib.hid h8; clear h8) | (go_at_call 22; go_fit (C1.out _); rintro r w6 ⟨rfl, h6⟩; have HP6 := Lib.hid (HP.out.below h6); clear h6) | (go_at_call 21; go_fit (HP6.out.add hL (by omega) (HT.out.below HP6.out.bel) hts HGE.out); rintro r w7 ⟨rfl, h7⟩; have HP7 := Lib.hid h7; have hz1 := (HF.out w7 h7.bel).2.1; clear h7))
      go_roundw
      case rel => exact ⟨k + 1, _, A8, c8, l8, by omega, by go_num, rfl, HP8.out⟩
      case measure => simp [intOf]; omega
    · obtain rfl : k = n := by omega
      have HB3 := Lib.hid (show Below wr.heap.size wr (wr.alloc (.cells #[] 3)) from (Below.refl _ _).alloc (Nat.le_refl _) _)
      go_wp2_with fail
      go_loopw [10, 11] (fun v i wq => ∃ (j : Nat) (E : Option Addr) (ce : Nat), j ≤ ts.length ∧ i = .int .i64 j ∧ v = .slice E (typesL (typeE es) (ts.take j)).length ce ∧ SlI wq E ce (typesL (typeE es) (ts.take j)) ∧ PL w wq p w1.heap.size w2.heap.size k es V cv ts) (fun _ i _ => ts.length - (intOf i).toNat)
      case atStart => exact ⟨0, some ⟨wr.heap.size, 0, none⟩, 0, by omega, rfl, rfl, (Sl.lit (Value.int .i64) (fun _ => rfl) wr 3 [] (by simp [maxLen])).any, HP.out.below HB3.out⟩
      case round =>
        obtain ⟨j, E, ce, hj, rfl, rfl, hs, hP4⟩ := hrel
        have HS4 := Lib.hid hs
        have HP4 := Lib.hid hP4
        have htc := hP4.sl.1
        have htm := hP4.sl.2.1
        unfold maxLen at htm
        clear hs hP4
        by_cases hlt2 : j < ts.length
        · obtain ⟨ad, rfl, hld⟩ := row_str_at HP4.out.sl.2.2 hlt2
          have hsz := HP4.out.gs _ (List.getElem_mem hlt2)
          have hsn := typesL_snoc (typeE es) (ts.take j) ts[j]
          rw [← List.take_succ_eq_append_getElem hlt2] at hsn
          generalize ts[j] = s at *
          have HSN := Lib.hid hsn
          have hl1 : (typesL (typeE es) (ts.take j)).length ≤ 70 := Nat.le_trans (sub_len (typesL_rm HP4.out.qs.ok.pf.ry _).1 HP4.out.qs.ok.rise (fun x hx => by obtain ⟨s, _, h2⟩ := ((typesL_rm HP4.out.qs.ok.pf.ry _).2 x).1 hx; exact HP4.out.qs.ok.pf.sy s x h2)) HP4.out.qs.plen
          have hl2 := HP4.out.qs.ylen s
          clear hsn
          go_wp2_with (first | (go_at_call 24; go_fit (cEither HS5.out HY5.out (by omega)); rintro r w6 ⟨A6, c6, rfl, h6, hb6⟩; have H6 := Lib.hid h6.any; have HP6 := Lib.hid (HP5.out.below hb6); clear h6 hb6) | (go_at_call 25; go_fit (cPType HP4.out.qs hsz); rintro r w5 ⟨A5, c5, rfl, h5, hb5⟩; have HY5 := Lib.hid h5.any; have HS5 := Lib.hid (HS4.out.below hb5); have HP5 := Lib.hid (HP4.out.below hb5); clear h5 hb5))
          go_roundw
          case rel => exact ⟨j + 1, A6, c6, by omega, by go_num, by rw [HSN.out], by rw [HSN.out]; exact H6.out, HP6.out⟩
          case measure => simp [intOf]; omega
        · obtain rfl : j = ts.length := by omega
          have hall : typesL (typeE es) (ts.take ts.length) = posE es := by rw [List.take_length]; exact types_all HP4.out.qs.ok HP4.out.mem
          have hlen : (posE es).length = k := by have := HP4.out.len; simpa [posE] using this
          rw [hall, hlen]
          have CT := Lib.hid (cPTag HP4.out.qs HTAG.out)
          have HRT := Lib.hid (HP4.out.qs.ok.pf.rt tag)
          have htl70 := HP4.out.qs.tlen tag
          clear hall hlen HS4
          go_wp2_with (go_at_call 26; go_fit CT.out; rintro r w5 ⟨T5, c5, rfl, h5, hb5⟩; have HT5 := Lib.hid h5.any; have HP5 := Lib.hid (HP4.out.below hb5); have hcp := h5.1; have hmp := h5.2.1; clear h5 hb5)
          unfold maxLen at hmp
          generalize hte : tagE es tag = te at *
          have HTE := Lib.hid hte
          clear hte
          go_loopw [13] (fun i wq => ∃ (i2 jj : Nat), 1 ≤ i2 ∧ i2 ≤ te.length + 1 ∧ i = .int .i64 i2 ∧ wq = w5.drewN jj) (fun i _ => te.length + 1 - (intOf i).toNat)
          case atStart => exact ⟨1, 0, by omega, by omega, rfl, rfl⟩
          case round =>
            obtain ⟨i2, jj, h1i, hi2, rfl, rfl⟩ := hrel
            by_cases hlt3 : i2 < te.length
            · obtain ⟨i3, hi3⟩ : ∃ i3, i2 = i3 + 1 := ⟨i2 - 1, by omega⟩
              have hlt4 : i3 < te.length := by omega
              obtain ⟨pd, rfl, hx1⟩ := row_int_at HT5.out.2.2 hlt3
              obtain ⟨pd', e1, hx2⟩ := row_int_at HT5.out.2.2 hlt4
              have : pd = pd' := Option.some.inj e1
              subst this
              have hyy := rise_at HRT.out (List.getElem?_eq_getElem hlt4) (List.getElem?_eq_getElem hlt3) (by omega)
              generalize te[i2] = z1 at *
              generalize te[i3] = z2 at *
              have ew : IntKind.i64.wrap ((i2 : Int) - 1) = (i3 : Int) := by rw [IntWalk.i64_in _ (by omega)]; omega
              have b1 : (0 : Int) ≤ (i2 : Int) := Int.natCast_nonneg _
              have b2 : (i2 : Int) < (te.length : Int) := by omega
              have b3 : (0 : Int) ≤ (i3 : Int) := Int.natCast_nonneg _
              have b4 : (i3 : Int) < (te.length : Int) := by omega
              have d1 : decide (z1 ≤ z2) = false := decide_eq_false (by omega)
              clear hi3
              go_wp2_with fail
              go_quiet (fail)
              go_wp2
              go_roundw
              case rel => exact ⟨i2 + 1, _, by omega, by omega, by go_num, rfl⟩
              case measure => simp [intOf]; omega
            · have HP6 := Lib.hid (HP5.out.below (below_drewN (Below.refl _ _) jj))
              have HT6 := Lib.hid (HT5.out.below (below_drewN (Below.refl _ _) jj)).bound
              generalize w5.drewN jj = w6 at *
              have CC := Lib.hid (cPClone HP6.out.qs)
              go_upto_region 27 with (go_at_call 27; go_fit CC.out; rintro r w7 ⟨c2, rfl, hq1, hq2, hb7⟩; have HQ1 := Lib.hid hq1; have HQ2 := Lib.hid hq2; have HB7 := Lib.hid hb7; clear hq1 hq2 hb7)
              have hs7 := HB7.out.size
              have HBA := Lib.hid (show Below w7.heap.size w7 (w7.alloc (.cells #[.string tag] 9)) from (Below.refl _ _).alloc (Nat.le_refl _) _)
              have hes : es.length < 70 := by have := HP4.out.len; omega
              have htop : ∀ q ∈ posE es, q < 99 := fun q hq => by have := HP4.out.top q hq; omega
              have CA := Lib.hid (cPAdd (HQ1.out.below HBA.out) hes (e := evZ tag) (T := some ⟨w7.heap.size, 0, none⟩) (F := none) (ct := 1) (cf := 0) ((Sl.lit (α := ByteArray) Value.string (fun _ => rfl) w7 9 [tag] (by simp [maxLen])).mono (fun k hk => by omega)) (by simp [evZ]) (fun x hx => by simp [evZ] at hx; subst hx; exact HTAG.out) (show (2 : Nat) ≤ maxLen by decide) (pos := 99) (by omega) htop)
              go_wp2_with (first | (go_at_call 21; go_fit CA.out; rintro r w8 ⟨rfl, hq8, hb8⟩; have HQ8 := Lib.hid hq8; have HB8 := Lib.hid hb8; clear hq8 hb8))
              have hBA := HBA.out.size
              have h6 := HP6.out.bel.size
              have HPQ := Lib.hid ((HQ2.out.below HBA.out).move HB8.out (Y := fun _ => False) (fun k h => h.elim))
              have HT7 := Lib.hid ((HT6.out.below HB7.out).below HBA.out)
              have HT8 := Lib.hid (HT7.out.stay HB8.out.size (fun j hj hl => HB8.out.block j hl (by omega))).any
              have H8 := Lib.hid (HB8.out.below (bthen (bthen HP6.out.bel HB7.out) HBA.out) (by omega) (fun j hj => by omega))
              have hz : (⟨#[122, 122]⟩ : ByteArray).size ≤ maxLen := show (2 : Nat) ≤ maxLen by decide
              obtain ⟨m, hm⟩ : ∃ m, m = te.length + 1 := ⟨_, rfl⟩
              have htc : (tagE (es ++ [(evZ tag, 99)]) tag).length = m := by rw [tagE_snoc, HTE.out]; simp [evZ, hasS, hm]
              obtain ⟨y, hy⟩ : ∃ y, (typeE es ⟨#[122, 122]⟩).length = y := ⟨_, rfl⟩
              have hy70 := HPQ.out.ylen ⟨#[122, 122]⟩
              obtain ⟨y1, hy1⟩ : ∃ y1, y1 = y + 1 := ⟨_, rfl⟩
              have hyc : (typeE (es ++ [(evZ tag, 99)]) ⟨#[122, 122]⟩).length = y1 := by rw [typeE_snoc, if_pos (show (evZ tag).type = ⟨#[122, 122]⟩ from rfl)]; simp [hy, hy1]
              have HTC := Lib.hid htc
              have HY := Lib.hid hy
              have HYC := Lib.hid hyc
              have e1 : IntKind.i64.wrap ((te.length : Int) + 1) = (m : Int) := by rw [IntWalk.i64_in _ (by omega)]; omega
              have e2 : IntKind.i64.wrap ((y1 : Int) - 1) = (y : Int) := by rw [IntWalk.i64_in _ (by omega)]; omega
              clear htc hy hyc hy70 hm hy1
              go_wp2_with (first
                | (go_at_call 25; go_fit (cTypeLen (HQ8.out.below HB12.out) hz HYC.out); rintro r w13 ⟨A13, c13, rfl, h13⟩; have HB13 := Lib.hid (bthen HB12.out h13); clear h13)
                | (go_at_call 25; go_fit (cTypeLen (HPQ.out.below HB11.out) hz HY.out); rintro r w12 ⟨A12, c12, rfl, h12⟩; have HB12 := Lib.hid (bthen HB11.out h12); clear h12)
                | (go_at_call 26; go_fit (cTagLen (HQ8.out.below HB10.out) HTAG.out HTC.out); rintro r w11 ⟨A11, c11, rfl, h11⟩; have HB11 := Lib.hid (bthen HB10.out h11); clear h11)
                | (go_at_call 28; go_fit (cIntsEq HT9.out (HT8.out.below HB9.out)); rintro r w10 ⟨rfl, h10⟩; have HB10 := Lib.hid (bthen HB9.out h10); clear h10)
                | (go_at_call 26; go_fit (cTagIs HPQ.out HTAG.out HTE.out); rintro r w9 ⟨A9, c9, rfl, h9, hb9⟩; have HT9 := Lib.hid h9; have HB9 := Lib.hid hb9; clear h9 hb9))
              go_ret
              exact ⟨by simp, bthen H8.out HB13.out⟩
end Go.Proofs.Yteahpkihkfkpfaa
