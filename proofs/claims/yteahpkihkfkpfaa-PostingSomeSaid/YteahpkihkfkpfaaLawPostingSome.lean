/- PostingSome: the law's walk. -/
import Derived.Test.YteahpkihkfkpfaaLawPostingMatch
import Derived.Deep.DeepFit
set_option linter.unusedVariables false
set_option linter.unusedSimpArgs false
namespace Go.Proofs.Yteahpkihkfkpfaa
open Go.RowKit Go.Maps

theorem Opens.array2 {α : Type} {P : Program} {t e : TypeId} {d : Kn α} {good : α → Prop} (ht : P.underlying t = some (.array 2 e)) (hCt : P.cellsOf t = d.sz + d.sz) (hC : P.cellsOf e = d.sz) (he : Opens P e d good) : Opens P t (Kn.pair d d) (fun y => good y.1 ∧ good y.2) := by
  intro H enc w base spare held fuel cs x hx
  obtain ⟨xs, m, rfl, _, hl, hxl, hf⟩ := DataW.trod_array ht hx
  rw [hC] at hf
  have h0 := hf 0 (by omega)
  have h1 := hf 1 (by omega)
  rw [List.getElem?_eq_getElem (by omega)] at h0 h1
  obtain ⟨y0, k0, g0⟩ := he _ _ _ _ _ _ _ _ _ h0
  obtain ⟨y1, k1, g1⟩ := he _ _ _ _ _ _ _ _ _ h1
  refine ⟨(y0, y1), ⟨_, _, ?_, k0, k1⟩, g0, g1⟩
  rw [Nat.zero_mul, Nat.one_mul, List.drop_zero, List.take_of_length_le (l := cs.drop d.sz) (by rw [List.length_drop, hl, hCt]; omega)]
  exact (List.take_append_drop _ _).symm
theorem okWide_array {P : Program} {w : World} {r : Reach} {base n : Nat} {t e : TypeId} {v : Value} (ht : P.underlying t = some (.array n e)) (h : Value.okWide P w r base t v) : ∃ cs, v = .agg cs ∧ cs.size = P.cellsOf t := by
  simp only [Value.okWide, ht] at h
  obtain ⟨cs, h1, h2, _⟩ := h
  exact ⟨cs, h1, h2⟩
theorem opTwo : Opens Try.prog 49 (Kn.pair kClause kClause) (fun y => goodClause y.1 ∧ goodClause y.2) := Opens.array2 Try.underlying49 (by kernel_rfl) (by kernel_rfl) opClause

theorem find_two {es : List EP} (h : EsOK es) (a b : Clause) (x : Int) : findE es [a, b] x = either (findE es [a] x) (findE es [b] x) := by
  have r : ∀ q, Rise (findE es q x) := fun q => filt_rise h.rise _
  refine rise_ext (r _) (either_rise (r _) (r _)) (fun y => ?_)
  rw [mem_either (r _) (r _), show (y ∈ findE es [a, b] x ↔ _) from mem_filt _ y, show (y ∈ findE es [a] x ↔ _) from mem_filt _ y, show (y ∈ findE es [b] x ↔ _) from mem_filt _ y]
  simp only [matchM, List.any_cons, List.any_nil, Bool.or_false, Bool.and_eq_true, Bool.or_eq_true, decide_eq_true_eq]
  constructor
  · rintro ⟨c, hc, ⟨h1 | h1, h2⟩, h3⟩
    · exact .inl ⟨c, hc, ⟨h1, h2⟩, h3⟩
    · exact .inr ⟨c, hc, ⟨h1, h2⟩, h3⟩
  · rintro (⟨c, hc, ⟨h1, h2⟩, h3⟩ | ⟨c, hc, ⟨h1, h2⟩, h3⟩)
    · exact ⟨c, hc, ⟨.inl h1, h2⟩, h3⟩
    · exact ⟨c, hc, ⟨.inr h1, h2⟩, h3⟩
theorem find_tag {es : List EP} {x : Int} (h : ∀ y ∈ posE es, y ≤ x) (tag : ByteArray) : findE es [⟨[tag], []⟩] x = tagE es tag := by
  unfold findE tagE
  congr 1
  refine List.filter_congr (fun a ha => ?_)
  have := h a.2 (List.mem_map.2 ⟨a, ha, rfl⟩)
  simp [matchM, clauseM, this]
theorem find_type {es : List EP} {x : Int} (h : ∀ y ∈ posE es, y ≤ x) (tag : ByteArray) : findE es [⟨[], [tag]⟩] x = typeE es tag := by
  unfold findE typeE
  congr 1
  refine List.filter_congr (fun a ha => ?_)
  have := h a.2 (List.mem_map.2 ⟨a, ha, rfl⟩)
  simp [matchM, clauseM, hasS, this]
theorem find_none (es : List EP) (x : Int) : findE es [] x = [] := by simp [findE, matchM]

section
variable {α : Type} {d : Kn α}
theorem Sl.two {ok : Nat → Prop} {w : World} {y z : α} {cs ds : List Value} (e : TypeId) (hk : d.K ok w y cs) (hk' : d.K ok w z ds) : Sl d (fun k => ok k ∨ w.heap.size ≤ k) (w.alloc (.cells (cs ++ ds).toArray e)) (some ⟨w.heap.size, 0, none⟩) 2 [y, z] := by
  refine ⟨Nat.le_refl _, by simp [maxLen], fun _ => ⟨_, rfl, .inr (Nat.le_refl _), by simp, fun j x hj => ?_⟩⟩
  have hb := (Below.refl w.heap.size w).alloc (Nat.le_refl _) (.cells (cs ++ ds).toArray e)
  have hl := d.len hk
  match j, hj with
  | 0, hj =>
    simp at hj
    subst hj
    refine ⟨cs, d.len hk, d.mono (fun _ h => .inl h) (d.below hk hb), fun i u hu => ?_⟩
    rw [Nat.zero_mul, Nat.zero_add]
    have hi := (List.getElem?_eq_some_iff.1 hu).1
    have := World.news_of_block (cs := (cs ++ ds).toArray) (t := e) (fr := (0, 0)) (heap_alloc_new w (.cells (cs ++ ds).toArray e)) i u (by simp only [List.getElem?_toArray]; rw [List.getElem?_append_left hi]; exact hu)
    exact this
  | 1, hj =>
    simp at hj
    subst hj
    refine ⟨ds, d.len hk', d.mono (fun _ h => .inl h) (d.below hk' hb), fun i u hu => ?_⟩
    rw [Nat.one_mul]
    have := World.news_of_block (cs := (cs ++ ds).toArray) (t := e) (fr := (0, 0)) (heap_alloc_new w (.cells (cs ++ ds).toArray e)) (d.sz + i) u (by simp only [List.getElem?_toArray]; rw [List.getElem?_append_right (by omega), hl, Nat.add_sub_cancel_left]; exact hu)
    exact this
end
theorem less2 {W : World} {Q : Option Addr} {cq : Nat} {a b : Clause} (h : SlC W Q cq [a, b]) : Calls Try.prog 30 #[.agg #[.slice Q 2 cq]] W fun r w' => ∃ A c, r = .returned (.agg #[.slice A 2 c]) ∧ SlC w' A c [cutC a, cutC b] ∧ Below W.heap.size W w' :=
  (pless_any (fun _ => True) h).mono fun r w' ⟨A, c, e, h1, hb⟩ => ⟨A, c, e, h1.any, hb⟩

theorem findE_len (es : List EP) (q : List Clause) (x : Int) : (findE es q x).length ≤ es.length := by unfold findE; rw [List.length_map]; exact List.length_filter_le _ _
theorem cFindIs {W : World} {p L B : Nat} {es : List EP} {X : Nat → Prop} (h : Qs W p es L B X) {q : List Clause} {Q : Option Addr} {cq n : Nat} (hn : q.length = n) (hq : SlC W Q cq q) (hg : ∀ c ∈ q, goodClause c) {l : List Int} (hl : findE es q 99 = l) :
    Calls Try.prog 31 #[.pointer (some ⟨p, 0, none⟩), .agg #[.slice Q n cq], .int .i64 99] W fun r w' => ∃ A c, r = .returned (.slice A l.length c) ∧ SlI w' A c l ∧ Below W.heap.size W w' := by
  subst hn
  exact (cPFind h hq hg 99).mono fun r w' ⟨A, c, e, h1, hb⟩ => ⟨A, c, by rw [e, hl], hl ▸ h1.any, hb⟩
theorem cTypeIs {w : World} {p L B : Nat} {es : List EP} {X : Nat → Prop} (h : Qs w p es L B X) {s : ByteArray} (hs : s.size ≤ maxLen) {t : List Int} (hn : typeE es s = t) : Calls Try.prog 25 #[.pointer (some ⟨p, 0, none⟩), .string s] w fun r w' => ∃ A c, r = .returned (.slice A t.length c) ∧ SlI w' A c t ∧ Below w.heap.size w w' := by
  refine (cPType h hs).mono fun r w' ⟨A, c, e, h1, hb⟩ => ⟨A, c, by rw [e, hn], hn ▸ h1.any, hb⟩
theorem cTagIs' {w : World} {p L B : Nat} {es : List EP} {X : Nat → Prop} (h : Qs w p es L B X) {s : ByteArray} (hs : s.size ≤ maxLen) {t : List Int} (hn : tagE es s = t) : Calls Try.prog 26 #[.pointer (some ⟨p, 0, none⟩), .string s] w fun r w' => ∃ A c, r = .returned (.slice A t.length c) ∧ SlI w' A c t ∧ Below w.heap.size w w' := by
  refine (cPTag h hs).mono fun r w' ⟨A, c, e, h1, hb⟩ => ⟨A, c, by rw [e, hn], hn ▸ h1.any, hb⟩
/-- Find of one clause of one text, its rows just made. -/
theorem cFindTag {W : World} {p L B : Nat} {es : List EP} {X : Nat → Prop} (h : Qs W p es L B X) {tag : ByteArray} (ht : tag.size ≤ maxLen) {l : List Int} (hl : findE es [⟨[tag], []⟩] 99 = l) :
    Calls Try.prog 31 #[.pointer (some ⟨p, 0, none⟩), .agg #[.slice (some ⟨W.heap.size + 1, 0, none⟩) 1 1], .int .i64 99] ((W.alloc (.cells #[.string tag] 9)).alloc (.cells #[.slice (some ⟨W.heap.size, 0, none⟩) 1 1, .slice none 0 0] 48)) fun r w' => ∃ A c, r = .returned (.slice A l.length c) ∧ SlI w' A c l ∧ Below W.heap.size W w' := by
  have ha : Below W.heap.size W (W.alloc (.cells #[.string tag] 9)) := (Below.refl _ _).alloc (Nat.le_refl _) _
  have hs := (Sl.lit (α := ByteArray) Value.string (fun _ => rfl) W 9 [tag] (by simp [maxLen])).any
  have h1 := (Sl.one 48 (kClause_mk' (c := ⟨[tag], []⟩) (n := 1) (m := 0) hs Sl.nil_ rfl rfl) (W.heap.size + 1) (by simp)).any
  have hb : Below W.heap.size W ((W.alloc (.cells #[.string tag] 9)).alloc (.cells #[.slice (some ⟨W.heap.size, 0, none⟩) 1 1, .slice none 0 0] 48)) := ha.alloc (by simp) _
  exact (cFindIs (h.below hb) rfl h1 (fun c hc => by simp at hc; subst hc; exact ⟨fun x hx => by simp at hx; subst hx; exact ht, fun x hx => by simp at hx⟩) hl).mono fun r w' ⟨A, c, e, h2, hb2⟩ => ⟨A, c, e, h2, bthen hb hb2⟩
theorem cFindType {W : World} {p L B : Nat} {es : List EP} {X : Nat → Prop} (h : Qs W p es L B X) {tag : ByteArray} (ht : tag.size ≤ maxLen) {l : List Int} (hl : findE es [⟨[], [tag]⟩] 99 = l) :
    Calls Try.prog 31 #[.pointer (some ⟨p, 0, none⟩), .agg #[.slice (some ⟨W.heap.size + 1, 0, none⟩) 1 1], .int .i64 99] ((W.alloc (.cells #[.string tag] 9)).alloc (.cells #[.slice none 0 0, .slice (some ⟨W.heap.size, 0, none⟩) 1 1] 48)) fun r w' => ∃ A c, r = .returned (.slice A l.length c) ∧ SlI w' A c l ∧ Below W.heap.size W w' := by
  have ha : Below W.heap.size W (W.alloc (.cells #[.string tag] 9)) := (Below.refl _ _).alloc (Nat.le_refl _) _
  have hs := (Sl.lit (α := ByteArray) Value.string (fun _ => rfl) W 9 [tag] (by simp [maxLen])).any
  have h1 := (Sl.one 48 (kClause_mk' (c := ⟨[], [tag]⟩) (n := 0) (m := 1) Sl.nil_ hs rfl rfl) (W.heap.size + 1) (by simp)).any
  have hb : Below W.heap.size W ((W.alloc (.cells #[.string tag] 9)).alloc (.cells #[.slice none 0 0, .slice (some ⟨W.heap.size, 0, none⟩) 1 1] 48)) := ha.alloc (by simp) _
  exact (cFindIs (h.below hb) rfl h1 (fun c hc => by simp at hc; subst hc; exact ⟨fun x hx => by simp at hx, fun x hx => by simp at hx; subst hx; exact ht⟩) hl).mono fun r w' ⟨A, c, e, h2, hb2⟩ => ⟨A, c, e, h2, bthen hb hb2⟩
theorem good_cut {c : Clause} (h : goodClause c) : goodClause (cutC c) := ⟨fun x hx => h.1 x (List.mem_of_mem_take hx), fun x hx => h.2 x (List.mem_of_mem_take hx)⟩

/-- The state of PostingSome in its loop. -/
structure PSm (w wr : World) (p L B k : Nat) (es : List EP) (cs : List Value) : Prop where
  qs : Qs wr p es L B (fun _ => False)
  bx : Bx wr w.heap.size 49 cs
  bel : Below w.heap.size w wr
  len : es.length = k
  top : ∀ y ∈ posE es, y < (k : Int) + 1
theorem PSm.below {w wr W : World} {p L B k : Nat} {es : List EP} {cs : List Value} (h : PSm w wr p L B k es cs) (hb : Below wr.heap.size wr W) : PSm w W p L B k es cs := ⟨h.qs.below hb, h.bx.under hb, bthen h.bel hb, h.len, h.top⟩
theorem PSm.add {w wr : World} {p L B k : Nat} {es : List EP} {cs : List Value} (h : PSm w wr p L B k es cs) (hL : w.heap.size < L) (hk : k < 70) {e : Event} {T F : Option Addr} {ct cf : Nat} (hT : Sl Kn.str (fun j => j < w.heap.size) wr T ct e.tags) (hts : e.tags.length ≤ 50) (hge : goodEvent e) :
    Calls Try.prog 21 #[.pointer (some ⟨p, 0, none⟩), vEvent e T ct F cf, .int .i64 ((k : Int) + 1)] wr fun r w' => r = .returned (.int .i64 0) ∧ PSm w w' p L B (k + 1) (es ++ [(e, (k : Int) + 1)]) cs := by
  refine (cPAdd h.qs (by rw [h.len]; exact hk) (hT.mono (fun j hj => by omega)) hts hge.2.2.1 hge.2.1 (by omega) h.top).mono fun r w' hr => ?_
  obtain ⟨e1, h1, h2⟩ := hr
  refine ⟨e1, h1, h.bx.stay (fun hk => h2.block _ hk (by omega)), h2.below h.bel h.bel.size (fun j hj => by omega), by simp [h.len], fun y hy => ?_⟩
  rw [posE_snoc] at hy
  rcases List.mem_append.1 hy with hy | hy
  · have := h.top y hy; omega
  · simp at hy; omega

set_option maxHeartbeats 2000000 in
set_option maxRecDepth 8000 in
theorem postingSome_walk (w : World) (A : Option Addr) (c : Nat) (l : List Event) (h : Sl kEvent (fun _ => True) w A c l) (hg : ∀ e ∈ l, goodEvent e) (cs : Array Value) (q : Clause × Clause) (hq : (Kn.pair kClause kClause).K (fun _ => True) w q cs.toList) (gq : goodClause q.1 ∧ goodClause q.2) (tag : ByteArray) (htag : tag.size ≤ maxLen) :
    Calls Try.prog 6 #[.slice A l.length c, .agg cs, .string tag] w fun r w' => r = .returned (.bool true) ∧ Below w.heap.size w w' := by
  obtain ⟨d0, d1, ecs, hk0, hk1⟩ := hq
  obtain ⟨S1, s1, T1, t1, rfl, hS1, hT1⟩ := kClause_out hk0
  obtain ⟨S2, s2, T2, t2, rfl, hS2, hT2⟩ := kClause_out hk1
  obtain ⟨x1, x2⟩ := q
  obtain rfl : cs = #[.slice S1 x1.tags.length s1, .slice T1 x1.types.length t1, .slice S2 x2.tags.length s2, .slice T2 x2.types.length t2] := by cases cs; simp_all
  have HL := Lib.hid (show Sl kEvent (fun j => j < w.heap.size) w A c l from h.bound.mono (fun j hj => hj.2))
  have HS1 := Lib.hid (show Sl Kn.str (fun j => j < w.heap.size) w S1 s1 x1.tags from hS1.bound.mono (fun j hj => hj.2))
  have HT1 := Lib.hid (show Sl Kn.str (fun j => j < w.heap.size) w T1 t1 x1.types from hT1.bound.mono (fun j hj => hj.2))
  have HS2 := Lib.hid (show Sl Kn.str (fun j => j < w.heap.size) w S2 s2 x2.tags from hS2.bound.mono (fun j hj => hj.2))
  have HT2 := Lib.hid (show Sl Kn.str (fun j => j < w.heap.size) w T2 t2 x2.types from hT2.bound.mono (fun j hj => hj.2))
  have HG := Lib.hid hg
  have HGQ := Lib.hid gq
  have HTAG := Lib.hid htag
  have hc1 := h.1
  have hc2 := h.2.1
  unfold maxLen at hc2
  obtain ⟨W0, hW0⟩ : ∃ W0, W0 = w.alloc (.cells #[.slice S1 x1.tags.length s1, .slice T1 x1.types.length t1, .slice S2 x2.tags.length s2, .slice T2 x2.types.length t2] 49) := ⟨_, rfl⟩
  have HW0 := Lib.hid hW0
  have HB0 := Lib.hid (show Below w.heap.size w W0 by rw [hW0]; exact (Below.refl _ _).alloc (Nat.le_refl _) _)
  have HX0 := Lib.hid (show Bx W0 w.heap.size 49 [.slice S1 x1.tags.length s1, .slice T1 x1.types.length t1, .slice S2 x2.tags.length s2, .slice T2 x2.types.length t2] by rw [hW0]; exact Bx.new w _ _)
  have HS := Lib.hid (shown13 W0)
  clear h hg gq htag ecs hk0 hk1 hS1 hT1 hS2 hT2
  go_enter Try.func6, Try.ntmps6
  go_upto_region 1 with fail
  rw [← HW0.out]
  clear hW0
  go_upto_region 2 with (go_at_call 19; go_fit HS.out; rintro r w1 ⟨rfl, h1⟩; have H1 := Lib.hid h1; clear h1)
  have HX1 := Lib.hid (HX0.out.under H1.out)
  have CN := Lib.hid (cPNew (w := w1) (fun _ => False) (fun _ h => h.elim))
  have hgL : w.heap.size < w1.heap.size := HX1.out.lt
  go_wp2_with (go_at_call 20; go_fit CN.out; rintro r w2 ⟨p, rfl, hqs, hb2⟩; have HQS := Lib.hid hqs; have HB2 := Lib.hid hb2; clear hqs hb2)
  have H0 := Lib.hid (show PSm w w2 p w1.heap.size w2.heap.size 0 [] [.slice S1 x1.tags.length s1, .slice T1 x1.types.length t1, .slice S2 x2.tags.length s2, .slice T2 x2.types.length t2] from ⟨HQS.out, HX1.out.under HB2.out, bthen (bthen HB0.out H1.out) HB2.out, rfl, fun y hy => by simp [posE] at hy⟩)
  go_loopw [9] (fun i wr => ∃ (k : Nat) (es : List EP), k ≤ l.length ∧ k ≤ 60 ∧ i = .int .i64 k ∧ PSm w wr p w1.heap.size w2.heap.size k es [.slice S1 x1.tags.length s1, .slice T1 x1.types.length t1, .slice S2 x2.tags.length s2, .slice T2 x2.types.length t2]) (fun i _ => l.length - (intOf i).toNat)
  case atStart => exact ⟨0, [], by omega, by omega, rfl, H0.out⟩
  case round =>
    obtain ⟨k, es, hkl, hk6, rfl, hP⟩ := hrel
    have HP := Lib.hid hP
    clear hP
    by_cases hlt : k < l.length ∧ k < 60
    · obtain ⟨hlt, hlt6⟩ := hlt
      obtain ⟨ad, T, ct, F, cf, rfl, hx0, hx1, hx2, hx3, htg, hadl⟩ := row_event_at HL.out.2.2 hlt
      have hge := HG.out _ (List.getElem_mem hlt)
      generalize l[k] = e at *
      have HF := Lib.hid (fun W (hb : Below w.heap.size w W) => show W.cell? (ad.add (k * 4)) = some (.string e.stream) ∧ W.cell? ⟨(ad.add (k * 4)).block, (ad.add (k * 4)).off + 1, none⟩ = some (.string e.type) ∧ W.cell? ⟨(ad.add (k * 4)).block, (ad.add (k * 4)).off + 2, none⟩ = some (.slice T e.tags.length ct) ∧ W.cell? ⟨(ad.add (k * 4)).block, (ad.add (k * 4)).off + 3, none⟩ = some (.slice F e.fields.length cf) from by
        have hbl : ∀ o, W.cell? ⟨(ad.add (k * 4)).block, o, none⟩ = w.cell? ⟨(ad.add (k * 4)).block, o, none⟩ := fun o => World.cell?_of_block (hb.block _ (by rw [block_add]; exact hadl))
        have hbl0 : W.cell? (ad.add (k * 4)) = w.cell? (ad.add (k * 4)) := World.cell?_of_block (hb.block _ (by rw [block_add]; exact hadl))
        exact ⟨hbl0.trans hx0, (hbl _).trans hx1, (hbl _).trans hx2, (hbl _).trans hx3⟩)
      obtain ⟨y0, y1, y2, y3⟩ := HF.out wr HP.out.bel
      have htl := htg.1
      have HT := Lib.hid (show Sl Kn.str (fun j => j < w.heap.size) w T ct (few10 e).tags from htg.take 10)
      have HGE := Lib.hid (goodFew e hge)
      have hts : (few10 e).tags.length ≤ 50 := by simp [few10]; omega
      have C1 := Lib.hid (fun W => few13_any (w := W) (e := e) (T := T) (F := F) (cf := cf) htl)
      clear hx0 hx1 hx2 hx3 htg hge
      generalize few10 e = e1 at *
      have b1 : (0 : Int) ≤ (k : Int) := Int.natCast_nonneg _
      have b2 : (k : Int) < (l.length : Int) := by omega
      go_wp2_with (first | (go_at_call 22; go_fit (C1.out _); rintro r w6 ⟨rfl, h6⟩; have HP6 := Lib.hid (HP.out.below h6); clear h6) | (go_at_call 21; go_fit (HP6.out.add hgL (by omega) (HT.out.below HP6.out.bel) hts HGE.out); rintro r w7 ⟨rfl, h7⟩; have HP7 := Lib.hid h7; clear h7))
      go_roundw
      case rel => exact ⟨k + 1, _, by omega, by omega, by go_num, HP7.out⟩
      case measure => simp [intOf]; omega
    · have HK := Lib.hid (fun W (hb : Below wr.heap.size wr W) => show Below wr.heap.size wr W ∧ W.cell? ⟨w.heap.size, 0, none⟩ = some (.slice S1 x1.tags.length s1) ∧ W.cell? ⟨w.heap.size, 1, none⟩ = some (.slice T1 x1.types.length t1) ∧ W.cell? ⟨w.heap.size, 2, none⟩ = some (.slice S2 x2.tags.length s2) ∧ W.cell? ⟨w.heap.size, 3, none⟩ = some (.slice T2 x2.types.length t2) from
        ⟨hb, (HP.out.bx.under hb).cell 0, (HP.out.bx.under hb).cell 1, (HP.out.bx.under hb).cell 2, (HP.out.bx.under hb).cell 3⟩)
      have HW := Lib.hid (show ∀ W, Below wr.heap.size wr W → SlC (W.alloc (.cells #[.slice S1 x1.tags.length s1, .slice T1 x1.types.length t1, .slice S2 x2.tags.length s2, .slice T2 x2.types.length t2] 48)) (some ⟨W.heap.size, 0, none⟩) 2 [x1, x2] from fun W hb => by
        have hbw := bthen HP.out.bel hb
        have hu : ∀ {A : Option Addr} {c : Nat} {xs : List ByteArray}, Sl Kn.str (fun j => j < w.heap.size) w A c xs → Sl Kn.str (fun _ => True) W A c xs := fun h => (h.below hbw).any
        exact (Sl.two 48 (kClause_mk (hu HS1.out) (hu HT1.out)) (kClause_mk (hu HS2.out) (hu HT2.out))).any)
      have C9 : Hid (Calls Try.prog 30 #[.agg #[.slice (some ⟨wr.heap.size, 0, none⟩) 2 2]] (wr.alloc (.cells #[.slice S1 x1.tags.length s1, .slice T1 x1.types.length t1, .slice S2 x2.tags.length s2, .slice T2 x2.types.length t2] 48)) fun r w' => ∃ A c, r = .returned (.agg #[.slice A 2 c]) ∧ SlC w' A c [cutC x1, cutC x2] ∧ Below (wr.heap.size + 1) (wr.alloc (.cells #[.slice S1 x1.tags.length s1, .slice T1 x1.types.length t1, .slice S2 x2.tags.length s2, .slice T2 x2.types.length t2] 48)) w') :=
        Lib.hid ((less2 (HW.out wr (Below.refl _ _))).mono fun r w' ⟨A, c, e, h1, h2⟩ => ⟨A, c, e, h1, by simpa using h2⟩)
      obtain ⟨_, q0, q1, q2, q3⟩ := HK.out wr (Below.refl _ _)
      clear HW HK
      have hsp : ¬ k < l.length ∨ (k < l.length ∧ ¬ k < 60) := by omega
      rcases hsp with hlt1 | ⟨hlt1, hlt2⟩
      all_goals
        go_upto_region 10 with (go_at_call 30; go_fit C9.out; rintro r w3 ⟨A2, c2, rfl, hs3, hb3⟩; have HS3 := Lib.hid hs3; have HB3 := Lib.hid hb3; clear hs3 hb3)
        have hA2 := HS3.out.2.2 (by simp)
        obtain ⟨ad, rfl, hadl⟩ := hA2
        clear hadl
        have hc22 : 2 ≤ c2 := HS3.out.1
        have hc2m := HS3.out.2.1
        unfold maxLen at hc2m
        have HBw := Lib.hid (show Below wr.heap.size wr w3 from bthen ((Below.refl wr.heap.size wr).alloc (Nat.le_refl _) (.cells #[.slice S1 x1.tags.length s1, .slice T1 x1.types.length t1, .slice S2 x2.tags.length s2, .slice T2 x2.types.length t2] 48)) (by simpa using HB3.out))
        have HQX := Lib.hid ((HP.out.qs.below HBw.out).below ((Below.refl w3.heap.size w3).alloc (Nat.le_refl _) (.cells #[.slice (some ad) 2 c2] 52)))
        have HBX := Lib.hid (Bx.new w3 52 [.slice (some ad) 2 c2])
        have HCX := Lib.hid (HS3.out.alloc (.cells #[.slice (some ad) 2 c2] 52))
        have HWX := Lib.hid (bthen (bthen HP.out.bel HBw.out) ((Below.refl w3.heap.size w3).alloc (Nat.le_refl _) (.cells #[.slice (some ad) 2 c2] 52)))
        have g1 := good_cut HGQ.out.1
        have g2 := good_cut HGQ.out.2
        generalize cutC x1 = y1 at *
        generalize cutC x2 = y2 at *
        have HC1 := Lib.hid (show SlC (w3.alloc (.cells #[.slice (some ad) 2 c2] 52)) (some ad) c2 [y1] from HCX.out.take 1)
        have HC2 := Lib.hid (show SlC (w3.alloc (.cells #[.slice (some ad) 2 c2] 52)) (some (ad.add 2)) (c2 - 1) [y2] from by
          have h1 := Row.cut (k := 1) (cap := c2) HCX.out.2.2 HCX.out.1
          rw [if_neg (by omega)] at h1
          exact ⟨by simp; omega, by have := HCX.out.2.1; omega, h1⟩)
        have htop : ∀ y ∈ posE es, y ≤ 99 := fun y hy => by have := HP.out.top y hy; omega
        have f12 := find_two HP.out.qs.ok y1 y2 99
        have HFT := Lib.hid (find_tag htop tag)
        have HFY := Lib.hid (find_type htop tag)
        have hl1 := findE_len es [y1] 99
        have hl2 := findE_len es [y2] 99
        have hes := HP.out.qs.len
        obtain ⟨l1, hl1'⟩ : ∃ l1, findE es [y1] 99 = l1 := ⟨_, rfl⟩
        obtain ⟨l2, hl2'⟩ : ∃ l2, findE es [y2] 99 = l2 := ⟨_, rfl⟩
        rw [hl1', hl2'] at f12
        rw [hl1'] at hl1
        rw [hl2'] at hl2
        have HF12 := Lib.hid f12
        have HF1 := Lib.hid hl1'
        have HF2 := Lib.hid hl2'
        have HG1 := Lib.hid (show ∀ c ∈ [y1], goodClause c from fun c hc => by simp at hc; subst hc; exact g1)
        have HG2 := Lib.hid (show ∀ c ∈ [y2], goodClause c from fun c hc => by simp at hc; subst hc; exact g2)
        have HG12 := Lib.hid (show ∀ c ∈ [y1, y2], goodClause c from fun c hc => by simp at hc; rcases hc with rfl | rfl <;> assumption)
        have hbw0 := HBX.out.cell 0
        clear f12 hl1' hl2' g1 g2 HB3 HS3
        generalize w3.alloc (.cells #[.slice (some ad) 2 c2] 52) = X at *
        generalize w3.heap.size = g at *
        simp only [List.getElem?_cons_zero] at hbw0
        go_upto_region 13 with (first
          | (go_at_call 28; go_fit (cIntsEq H6.out H7.out); rintro r w8 ⟨rfl, h8⟩; have HB8 := Lib.hid (bthen HB7.out h8); clear h8)
          | (go_at_call 24; go_fit (cEither (H4.out.below HB46.out) (H5.out.below HB56.out) (by omega)); rintro r w7 ⟨A7, c7, rfl, h7, hb7⟩; have H7 := Lib.hid h7.any; have H6 := Lib.hid (H6'.out.below hb7); have HB7 := Lib.hid (bthen HB6.out hb7); clear h7 hb7)
          | (go_at_call 31; go_fit (cFindIs (HQX.out.below HB5.out) rfl (HCX.out.below HB5.out) HG12.out HF12.out); rintro r w6 ⟨A6, c6, rfl, h6, hb6⟩; have H6' := Lib.hid h6; have HB6 := Lib.hid (bthen HB5.out hb6); have HB56 := Lib.hid hb6; have HB46 := Lib.hid (bthen HB45.out hb6); clear h6 hb6)
          | (go_at_call 31; go_fit (cFindIs (HQX.out.below HB4.out) rfl (HC2.out.below HB4.out) HG2.out HF2.out); rintro r w5 ⟨A5, c5, rfl, h5, hb5⟩; have H5 := Lib.hid h5; have HB5 := Lib.hid (bthen HB4.out hb5); have HB45 := Lib.hid hb5; have hbw5 := (HBX.out.under HB5.out).cell 0; simp only [List.getElem?_cons_zero] at hbw5; clear h5 hb5)
          | (go_at_call 31; go_fit (cFindIs HQX.out rfl HC1.out HG1.out HF1.out); rintro r w4 ⟨A4, c4, rfl, h4, hb4⟩; have H4 := Lib.hid h4; have HB4 := Lib.hid hb4; have hbw4 := (HBX.out.under HB4.out).cell 0; simp only [List.getElem?_cons_zero] at hbw4; clear h4 hb4))
        have CT := Lib.hid (fun (W : World) (hb : Below X.heap.size X W) => cFindTag (HQX.out.below hb) HTAG.out HFT.out)
        have CY := Lib.hid (fun (W : World) (hb : Below X.heap.size X W) => cFindType (HQX.out.below hb) HTAG.out HFY.out)
        have CN := Lib.hid (fun (W : World) (hb : Below X.heap.size X W) => cFindIs (HQX.out.below hb) (q := []) rfl (Sl.nil_ : SlC W none 0 []) (fun c hc => by cases hc) (find_none es 99))
        go_wp2_with (first
          | (go_at_call 31; go_fit (CN.out _ HB14.out); rintro r w15 ⟨A15, c15, rfl, h15, hb15⟩; have HB15 := Lib.hid (bthen HB14.out hb15); clear h15 hb15)
          | (go_at_call 28; go_fit (cIntsEq H12.out H13.out); rintro r w14 ⟨rfl, h14⟩; have HB14 := Lib.hid (bthen HB13.out h14); clear h14)
          | (go_at_call 25; go_fit (cTypeIs (HQX.out.below HB12.out) HTAG.out rfl); rintro r w13 ⟨A13, c13, rfl, h13, hb13⟩; have H13 := Lib.hid h13; have H12 := Lib.hid (H12'.out.below hb13); have HB13 := Lib.hid (bthen HB12.out hb13); clear h13 hb13)
          | (go_at_call 31; go_fit (CY.out _ HB11.out); rintro r w12 ⟨A12, c12, rfl, h12, hb12⟩; have H12' := Lib.hid h12; have HB12 := Lib.hid (bthen HB11.out hb12); clear h12 hb12)
          | (go_at_call 28; go_fit (cIntsEq H9.out H10.out); rintro r w11 ⟨rfl, h11⟩; have HB11 := Lib.hid (bthen HB10.out h11); clear h11)
          | (go_at_call 26; go_fit (cTagIs' (HQX.out.below HB9.out) HTAG.out rfl); rintro r w10 ⟨A10, c10, rfl, h10, hb10⟩; have H10 := Lib.hid h10; have H9 := Lib.hid (H9'.out.below hb10); have HB10 := Lib.hid (bthen HB9.out hb10); clear h10 hb10)
          | (go_at_call 31; go_fit (CT.out _ HB8.out); rintro r w9 ⟨A9, c9, rfl, h9, hb9⟩; have H9' := Lib.hid h9; have HB9 := Lib.hid (bthen HB8.out hb9); clear h9 hb9))
        go_ret
        exact ⟨by simp, bthen HWX.out HB15.out⟩
end Go.Proofs.Yteahpkihkfkpfaa
