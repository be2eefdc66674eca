/- Events at positions: what posting's rows are, as plain lists. posting.Lists in a law, its box and maps by name; Add that refuses. The log in memory: records, as plain lists. Records as kinds of cells; an element of a row of the call's own written in place. index.Index: its state as Lean data. batch.May (walk). index.own; slices.Clone at []api.Rec; (*index.Index).told (walks). (*index.Index).told, at (walks). index.Index: Last, Version, at, All, Stream, Query, Since (walks). index.Index: All, Stream, Query, Since (walks). index.Index: Since, New, Clone (walks). append(v, y) where v is a row of the call's own, or another's cut to its length. Own work. index.Index: Add, its state on the way. -/
import Derived.Test.YtfoghahidofegaaBundP
import Derived.Test.YtfoghahidofegaaBundQ
import Derived.Test.YtfoghahidofegaaBundS
import Derived.Test.YtfoghahidofegaaBundB
import Derived.Test.YtfoghahidofegaaBundN
import Derived.Test.YtfoghahidofegaaBundA
import Derived.Deep.DeepFit
import Derived.WalkMore
import Derived.Deep.LoopGhost
import Derived.Deep.RegionHeld3
import Derived.Lib.SliceRun
import Derived.ArgAppend
set_option linter.unusedVariables false
set_option linter.unusedSimpArgs false
namespace Go.Proofs.Ytfoghahidofegaa

abbrev EP := Event × Int
def posE (es : List EP) : List Int := es.map (·.2)
def tagE (es : List EP) (s : ByteArray) : List Int := (es.filter (fun a => hasS s a.1.tags)).map (·.2)
def typeE (es : List EP) (s : ByteArray) : List Int := (es.filter (fun a => decide (a.1.type = s))).map (·.2)
def findE (es : List EP) (q : List Clause) (x : Int) : List Int := (es.filter (fun a => matchM q a.1 && decide (a.2 ≤ x))).map (·.2)
/-- Positions that rise, from 1 on. -/
structure EsOK (es : List EP) : Prop where
  rise : Rise (posE es)
  pos : ∀ a ∈ es, 1 ≤ a.2
theorem filt_rise {es : List EP} (h : Rise (posE es)) (f : EP → Bool) : Rise ((es.filter f).map (·.2)) := by
  unfold posE Rise at h
  unfold Rise
  rw [List.pairwise_map] at h ⊢
  exact h.filter _
theorem mem_filt {es : List EP} (f : EP → Bool) (x : Int) : x ∈ (es.filter f).map (·.2) ↔ ∃ a ∈ es, f a = true ∧ a.2 = x := by
  rw [List.mem_map]
  constructor
  · rintro ⟨a, ha, rfl⟩; obtain ⟨h1, h2⟩ := List.mem_filter.1 ha; exact ⟨a, h1, h2, rfl⟩
  · rintro ⟨a, h1, h2, rfl⟩; exact ⟨a, List.mem_filter.2 ⟨h1, h2⟩, rfl⟩
/-- A position has one event. -/
theorem ep_inj {es : List EP} (h : Rise (posE es)) {a b : EP} (ha : a ∈ es) (hb : b ∈ es) (e : a.2 = b.2) : a = b := by
  unfold posE Rise at h
  rw [List.pairwise_map] at h
  obtain ⟨i, hi⟩ := List.getElem?_of_mem ha
  obtain ⟨j, hj⟩ := List.getElem?_of_mem hb
  obtain ⟨h1, rfl⟩ := List.getElem?_eq_some_iff.1 hi
  obtain ⟨h2, rfl⟩ := List.getElem?_eq_some_iff.1 hj
  rw [List.pairwise_iff_getElem] at h
  rcases Nat.lt_trichotomy i j with hij | hij | hij
  · have := h i j h1 h2 hij; omega
  · subst hij; rfl
  · have := h j i h2 h1 hij; omega
theorem EsOK.pf {es : List EP} (h : EsOK es) : Pf (posE es) (tagE es) (typeE es) := by
  have sub : ∀ (f : EP → Bool), ∀ x ∈ (es.filter f).map (·.2), x ∈ posE es := fun f x hx => by
    obtain ⟨a, h1, _, rfl⟩ := (mem_filt f x).1 hx
    exact List.mem_map.2 ⟨a, h1, rfl⟩
  exact ⟨h.rise, fun s => filt_rise h.rise _, fun s => filt_rise h.rise _, fun s => sub _, fun s => sub _, fun s => sub_len (filt_rise h.rise _) h.rise (sub _), fun s => sub_len (filt_rise h.rise _) h.rise (sub _), fun x hx => by
    obtain ⟨a, h1, rfl⟩ := List.mem_map.1 hx
    exact h.pos a h1⟩
theorem EsOK.nil : EsOK [] := ⟨List.Pairwise.nil, fun a ha => by cases ha⟩
theorem EsOK.snoc {es : List EP} (h : EsOK es) (e : Event) {pos : Int} (h1 : 1 ≤ pos) (h2 : ∀ q ∈ posE es, q < pos) : EsOK (es ++ [(e, pos)]) := by
  refine ⟨?_, fun a ha => ?_⟩
  · unfold posE
    rw [List.map_append]
    refine List.pairwise_append.2 ⟨h.rise, by simp, fun x hx y hy => by simp at hy; subst hy; exact h2 x hx⟩
  · rcases List.mem_append.1 ha with ha | ha
    · exact h.pos a ha
    · simp at ha; subst ha; exact h1
theorem posE_snoc (es : List EP) (e : Event) (pos : Int) : posE (es ++ [(e, pos)]) = posE es ++ [pos] := by simp [posE]
theorem tagE_snoc (es : List EP) (e : Event) (pos : Int) (s : ByteArray) : tagE (es ++ [(e, pos)]) s = tagE es s ++ if hasS s e.tags = true then [pos] else [] := by
  unfold tagE
  rw [List.filter_append, List.map_append]
  congr 1
  by_cases h : hasS s e.tags = true <;> simp [h]
theorem typeE_snoc (es : List EP) (e : Event) (pos : Int) (s : ByteArray) : typeE (es ++ [(e, pos)]) s = typeE es s ++ if e.type = s then [pos] else [] := by
  unfold typeE
  rw [List.filter_append, List.map_append]
  congr 1
  by_cases h : e.type = s <;> simp [h]
theorem findE_snoc (es : List EP) (e : Event) (pos : Int) (q : List Clause) (x : Int) : findE (es ++ [(e, pos)]) q x = findE es q x ++ if (matchM q e && decide (pos ≤ x)) = true then [pos] else [] := by
  unfold findE
  rw [List.filter_append, List.map_append]
  congr 1
  by_cases h : (matchM q e && decide (pos ≤ x)) = true
  · rw [if_pos h, List.filter_cons, if_pos h]; rfl
  · rw [if_neg h, List.filter_cons, if_neg h]; rfl
theorem addP_new {l : List Int} {pos : Int} (h : ∀ q ∈ l, q < pos) : addP l pos = l ++ [pos] := by
  unfold addP
  rw [if_neg]
  intro e
  have := h _ (List.mem_of_getLast? e)
  omega
theorem addP_old (l : List Int) (pos : Int) : addP (l ++ [pos]) pos = l ++ [pos] := by simp [addP]
theorem addT_is {pos : Int} {f : ByteArray → List Int} (h : ∀ s, ∀ q ∈ f s, q < pos) (ts : List ByteArray) : ∀ k, k ≤ ts.length → ∀ s, addT pos (ts.take k) f s = f s ++ if hasS s (ts.take k) = true then [pos] else []
  | 0, _, s => by simp [addT, hasS]
  | k + 1, hk, s => by
    have hlt : k < ts.length := by omega
    rw [List.take_succ_eq_append_getElem hlt, addT_snoc]
    have ih := addT_is h ts k (by omega)
    have hh : hasS s (ts.take k ++ [ts[k]]) = true ↔ (hasS s (ts.take k) = true ∨ s = ts[k]) := by
      rw [hasS_iff, hasS_iff, List.mem_append, List.mem_singleton]
    by_cases e : s = ts[k]
    · rw [if_pos (hh.2 (.inr e))]
      subst e
      rw [upd_same, ih]
      by_cases h2 : hasS ts[k] (ts.take k) = true
      · rw [if_pos h2, addP_old]
      · rw [if_neg h2, List.append_nil, addP_new (h _)]
    · rw [upd_other _ _ e, ih]
      by_cases h2 : hasS s (ts.take k) = true
      · rw [if_pos h2, if_pos (hh.2 (.inl h2))]
      · rw [if_neg h2, if_neg (fun h3 => (hh.1 h3).elim h2 e)]
theorem tagE_add {es : List EP} (h : EsOK es) (e : Event) {pos : Int} (h2 : ∀ q ∈ posE es, q < pos) : addT pos e.tags (tagE es) = tagE (es ++ [(e, pos)]) := by
  funext s
  have := addT_is (f := tagE es) (fun s q hq => h2 q (h.pf.st s q hq)) e.tags e.tags.length (Nat.le_refl _) s
  rw [List.take_length] at this
  rw [this, tagE_snoc]
theorem typeE_add {es : List EP} (h : EsOK es) (e : Event) {pos : Int} (h2 : ∀ q ∈ posE es, q < pos) : upd (typeE es) e.type (addP (typeE es e.type) pos) = typeE (es ++ [(e, pos)]) := by
  funext s
  rw [typeE_snoc]
  by_cases hs : s = e.type
  · subst hs
    rw [upd_same, addP_new (fun q hq => h2 q (h.pf.sy _ q hq)), if_pos rfl]
  · rw [upd_other _ _ hs, if_neg (fun e => hs e.symm), List.append_nil]
theorem mem_clauseE {es : List EP} (h : EsOK es) (c : Clause) (y : Int) : y ∈ clauseL (posE es) (tagE es) (typeE es) c ↔ ∃ a ∈ es, clauseM a.1 c = true ∧ a.2 = y := by
  rw [(clauseL_rm h.pf c).2]
  have key : ∀ a ∈ es, a.2 = y → ((∀ s ∈ c.tags, y ∈ tagE es s) ↔ ∀ s ∈ c.tags, hasS s a.1.tags = true) := fun a ha hay => by
    constructor
    · intro hh s hs
      obtain ⟨b, hb, h1, h2⟩ := (mem_filt _ y).1 (hh s hs)
      obtain rfl := ep_inj h.rise ha hb (hay.trans h2.symm)
      exact h1
    · intro hh s hs
      exact (mem_filt _ y).2 ⟨a, ha, hh s hs, hay⟩
  have hcm : ∀ a : EP, clauseM a.1 c = true ↔ (∀ s ∈ c.tags, hasS s a.1.tags = true) ∧ (c.types.length = 0 ∨ a.1.type ∈ c.types) := fun a => by
    unfold clauseM
    rw [Bool.and_eq_true, List.all_eq_true, Bool.or_eq_true, hasS_iff, List.isEmpty_iff, List.length_eq_zero_iff]
  constructor
  · rintro ⟨h1, h2⟩
    by_cases hz : c.types.length = 0
    · rw [if_pos hz] at h1
      obtain ⟨a, ha, hay⟩ := List.mem_map.1 h1
      exact ⟨a, ha, (hcm a).2 ⟨(key a ha hay).1 h2, .inl hz⟩, hay⟩
    · rw [if_neg hz] at h1
      obtain ⟨s, hs, hy⟩ := h1
      obtain ⟨a, ha, h3, hay⟩ := (mem_filt _ y).1 hy
      exact ⟨a, ha, (hcm a).2 ⟨(key a ha hay).1 h2, .inr (by rw [of_decide_eq_true h3]; exact hs)⟩, hay⟩
  · rintro ⟨a, ha, h1, hay⟩
    obtain ⟨h3, h4⟩ := (hcm a).1 h1
    refine ⟨?_, (key a ha hay).2 h3⟩
    by_cases hz : c.types.length = 0
    · rw [if_pos hz]; exact List.mem_map.2 ⟨a, ha, hay⟩
    · rw [if_neg hz]
      exact ⟨a.1.type, h4.resolve_left hz, (mem_filt _ y).2 ⟨a, ha, by simp, hay⟩⟩
theorem findE_eq {es : List EP} (h : EsOK es) (q : List Clause) (x : Int) : findL (posE es) (tagE es) (typeE es) q x = findE es q x := by
  obtain ⟨h1, h2⟩ := queryL_rm h.pf q
  unfold findL
  rw [take_upTo h1]
  refine rise_ext (h1.filter _) (filt_rise h.rise _) (fun y => ?_)
  rw [List.mem_filter, h2, show (y ∈ findE es q x ↔ _) from mem_filt _ y]
  simp only [decide_eq_true_eq, Bool.and_eq_true]
  constructor
  · rintro ⟨⟨c, hc, hy⟩, hyx⟩
    obtain ⟨a, ha, hm, rfl⟩ := (mem_clauseE h c y).1 hy
    exact ⟨a, ha, ⟨List.any_eq_true.2 ⟨c, hc, hm⟩, hyx⟩, rfl⟩
  · rintro ⟨a, ha, ⟨hm, hyx⟩, rfl⟩
    obtain ⟨c, hc, hcm⟩ := List.any_eq_true.1 hm
    exact ⟨⟨c, hc, (mem_clauseE h c a.2).2 ⟨a, ha, hcm, rfl⟩⟩, hyx⟩
end Go.Proofs.Ytfoghahidofegaa

namespace Go.Proofs.Ytfoghahidofegaa
open Go.RowKit Go.Maps

theorem Mp.copy' {w w' : World} {ok ok' : Nat → Prop} {m m2 N : Nat} {D : DataW Value} {f : ByteArray → List Int} (h : Mp w ok m N D f) (hb : Below w.heap.size w w') (hm : w.heap.size ≤ m2) (hom : w'.ownsMap Try.prog 9 RV m2 N D) (hok : ∀ k, k < w.heap.size → ok k → k ≠ m → ok' k) : Mp w' ok' m2 N D f := by
  refine ⟨hom, fun s => ?_, h.has⟩
  obtain ⟨A, c, h1, h2⟩ := h.row s
  exact ⟨A, c, h1, (h2.below hb).mono (fun k hk => ⟨hok k hk.2.2 hk.1 hk.2.1, by omega, by have := hb.size; omega⟩)⟩
/-- The last position, or 0. -/
def lastI (l : List Int) : Int := l.getLast?.getD 0
set_option maxHeartbeats 1000000 in
set_option maxRecDepth 4000 in
theorem PAddNo_any {w : World} {p mt my M : Nat} {Dt Dy : DataW Value} {A : Option Addr} {c : Nat} {all : List Int} {ft fy : ByteArray → List Int} {X : Nat → Prop} (h : Ps w p mt my M Dt Dy A c all ft fy X) (hl : all.length ≤ 100000)
    {e : Event} {T F : Option Addr} {ct cf fl : Nat} {pos : Int} (hno : pos < 1 ∨ pos ≤ lastI all) :
    Calls Try.prog 47 #[.pointer (some ⟨p, 0, none⟩), .agg #[.string e.stream, .string e.type, .slice T e.tags.length ct, .slice F fl cf], .int .i64 pos] w fun r w' =>
      r = .returned (.int .i64 1) ∧ Below w.heap.size w w' := by
  have HP := Lib.hid h
  have hc1 := h.sl.1
  have hc2 := h.sl.2.1
  unfold maxLen at hc2
  clear h
  obtain ⟨W0, hW0⟩ : ∃ W0, W0 = w.alloc (.cells #[.string e.stream, .string e.type, .slice T e.tags.length ct, .slice F fl cf] 25) := ⟨_, rfl⟩
  have HW0 := Lib.hid hW0
  have HB0 := Lib.hid (show Below w.heap.size w W0 by rw [hW0]; exact (Below.refl _ _).alloc (Nat.le_refl _) _)
  go_enter Try.func47, Try.ntmps47
  go_upto_region 1 with fail
  rw [← HW0.out]
  clear hW0
  have hp0 : W0.cell? ⟨p, 0, none⟩ = some (.slice A all.length c) := (HP.out.bx.under HB0.out).c0
  go_upto_region 2 with fail
  go_cut [32] (fun v wx => v = .bool true ∧ Below W0.heap.size W0 wx)
  case first =>
    by_cases hp1 : pos < 1
    · have d0 : decide (pos < 1) = true := decide_eq_true hp1
      go_wp2_with fail
      go_meet
      case rel => exact ⟨rfl, Below.refl _ _⟩
    · have hlast : pos ≤ lastI all := hno.resolve_left hp1
      have hnn : all ≠ [] := fun e => by subst e; simp [lastI] at hlast; omega
      have hpos : 0 < all.length := List.length_pos_iff.2 hnn
      obtain ⟨k, hk⟩ : ∃ k, all.length = k + 1 := ⟨all.length - 1, by omega⟩
      have hkl : k < all.length := by omega
      obtain ⟨ad, rfl, hx⟩ := row_int_at (HP.out.sl.below HB0.out).2.2 hkl
      have hle : lastI all = all[k] := by
        unfold lastI
        rw [List.getLast?_eq_getElem?, show all.length - 1 = k by omega, List.getElem?_eq_getElem hkl]; rfl
      rw [hle] at hlast
      generalize all[k] = y at hx hlast
      have ew : IntKind.i64.wrap ((all.length : Int) - 1) = (k : Int) := by rw [IntWalk.i64_in _ (by omega)]; omega
      have b1 : (0 : Int) ≤ (k : Int) := Int.natCast_nonneg _
      have b2 : (k : Int) < (all.length : Int) := by omega
      have d0 : decide (pos < 1) = false := decide_eq_false hp1
      have d1 : decide (0 < all.length) = true := decide_eq_true (by omega)
      have d2 : decide (pos ≤ y) = true := decide_eq_true hlast
      have HK := Lib.hid hk
      clear hk hle hnn hno
      go_wp2_with fail
      go_meet
      case rel => exact ⟨rfl, Below.refl _ _⟩
  case rest =>
    obtain ⟨rfl, hbx⟩ := hcut
    go_wp2_with fail
    go_ret
    exact ⟨rfl, bthen HB0.out hbx⟩
theorem lastI_pos (es : List EP) : lastI (posE es) = ((es.getLast?.map (·.2)).getD 0) := by unfold lastI posE; rw [List.getLast?_map]

/-- A posting.Lists of the law's own, its blocks by name; its rows hang on no block of X, nor on its own three. -/
structure Q3 (w : World) (p mt my : Nat) (es : List EP) (X : Nat → Prop) : Prop where
  ps : ∃ M Dt Dy A c, Ps w p mt my M Dt Dy A c (posE es) (tagE es) (typeE es) X ∧ M ≤ 100 * es.length
  ok : EsOK es
  len : es.length ≤ 1000
section
variable {w w' : World} {p mt my : Nat} {es : List EP} {X Y : Nat → Prop}
theorem Q3.below (h : Q3 w p mt my es X) (hb : Below w.heap.size w w') : Q3 w' p mt my es X := by
  obtain ⟨M, Dt, Dy, A, c, h1, h2⟩ := h.ps
  exact ⟨⟨M, Dt, Dy, A, c, h1.below hb, h2⟩, h.ok, h.len⟩
theorem Q3.move (h : Q3 w p mt my es X) (hb : But X w w') (hY : ∀ k, Y k → X k ∨ (w.heap.size ≤ k ∧ k < w'.heap.size)) : Q3 w' p mt my es Y := by
  obtain ⟨M, Dt, Dy, A, c, h1, h2⟩ := h.ps
  exact ⟨⟨M, Dt, Dy, A, c, h1.move hb hY, h2⟩, h.ok, h.len⟩
theorem Q3.plen (h : Q3 w p mt my es X) : (posE es).length ≤ 1000 := by have := h.len; simpa [posE] using this
theorem Q3.tlen (h : Q3 w p mt my es X) (s : ByteArray) : (tagE es s).length ≤ 1000 := Nat.le_trans (h.ok.pf.lt s) h.plen
theorem Q3.ylen (h : Q3 w p mt my es X) (s : ByteArray) : (typeE es s).length ≤ 1000 := Nat.le_trans (h.ok.pf.ly s) h.plen
theorem Q3.lt (h : Q3 w p mt my es X) : p < w.heap.size ∧ mt < w.heap.size ∧ my < w.heap.size ∧ ¬ X p ∧ ¬ X mt ∧ ¬ X my := by
  obtain ⟨M, Dt, Dy, A, c, h1, h2⟩ := h.ps
  exact ⟨h1.bx.lt, h1.mpt.om.lt, h1.mpy.om.lt, h1.xp, h1.xt, h1.xy⟩
theorem c3New (w : World) (X : Nat → Prop) (hX : ∀ k, X k → k < w.heap.size) : Calls Try.prog 44 #[] w fun r w' => ∃ p mt my, r = .returned (.pointer (some ⟨p, 0, none⟩)) ∧ Q3 w' p mt my [] X ∧ Below w.heap.size w w' ∧ w.heap.size ≤ p ∧ w.heap.size ≤ mt ∧ w.heap.size ≤ my :=
  (PNew_any w X hX).mono fun r w' ⟨p, mt, my, Dt, Dy, e, h1, h2, h3, h4, h5⟩ =>
    ⟨p, mt, my, e, ⟨⟨0, Dt, Dy, none, 0, h1, by simp⟩, EsOK.nil, by simp⟩, h2, h3, h4, h5⟩
theorem c3Add (h : Q3 w p mt my es X) (hl : es.length < 1000) {e : Event} {T F : Option Addr} {ct cf : Nat} (hT : Sl Kn.str (fun k => k ≠ p ∧ k ≠ mt ∧ k ≠ my) w T ct e.tags) (hts : e.tags.length ≤ 50) (hgt : ∀ x ∈ e.tags, x.size ≤ maxLen) (hgy : e.type.size ≤ maxLen) {pos : Int} (h1 : 1 ≤ pos) (h2 : ∀ q ∈ posE es, q < pos) :
    Calls Try.prog 47 #[.pointer (some ⟨p, 0, none⟩), vEvent e T ct F cf, .int .i64 pos] w fun r w' => r = .returned (.int .i64 0) ∧ Q3 w' p mt my (es ++ [(e, pos)]) X ∧ But (fun k => k = p ∨ k = mt ∨ k = my) w w' := by
  obtain ⟨M, Dt, Dy, A, c, h3, h8⟩ := h.ps
  refine (PAdd_any h3 (by omega) (by have := h.plen; omega) (fun s => by have := h.tlen s; omega) (fun s => by have := h.ylen s; omega) hT (by omega) hgt hgy h1 h2).mono fun r w' hr => ?_
  obtain ⟨e1, Dt', Dy', A', c', h9, h10⟩ := hr
  rw [tagE_add h.ok e h2, typeE_add h.ok e h2, ← posE_snoc es e pos] at h9
  exact ⟨e1, ⟨⟨_, Dt', Dy', A', c', h9, by simp; omega⟩, h.ok.snoc e h1 h2, by simp; omega⟩, h10⟩
theorem c3AddNo (h : Q3 w p mt my es X) {e : Event} {T F : Option Addr} {ct cf : Nat} {pos : Int} (hno : pos < 1 ∨ pos ≤ lastI (posE es)) :
    Calls Try.prog 47 #[.pointer (some ⟨p, 0, none⟩), vEvent e T ct F cf, .int .i64 pos] w fun r w' => r = .returned (.int .i64 1) ∧ Below w.heap.size w w' := by
  obtain ⟨M, Dt, Dy, A, c, h3, h8⟩ := h.ps
  exact PAddNo_any h3 (by have := h.plen; omega) hno
theorem c3Find (h : Q3 w p mt my es X) {q : List Clause} {Q : Option Addr} {cq : Nat} (hq : SlC w Q cq q) (hg : ∀ c ∈ q, goodClause c) (x : Int) : Calls Try.prog 53 #[.pointer (some ⟨p, 0, none⟩), .agg #[.slice Q q.length cq], .int .i64 x] w (RetInts (findE es q x) w) := by
  obtain ⟨M, Dt, Dy, A, c, h3, _⟩ := h.ps
  have := Find_any h3 h.ok.pf (by have := h.plen; omega) hq hg x
  rw [findE_eq h.ok] at this
  exact this
end
end Go.Proofs.Ytfoghahidofegaa

namespace Go.Proofs.Ytfoghahidofegaa

structure Rec where
  pos : Int
  ver : Int
  ev : Event
/-- How many events are a stream's. -/
def cntS (es : List Event) (s : ByteArray) : Nat := (es.filter (fun e => decide (e.stream = s))).length
/-- The records of the events es behind the events pre. -/
def recsFrom (pre : List Event) : List Event → List Rec
  | [] => []
  | e :: es => ⟨(pre.length : Int) + 1, (cntS pre e.stream : Int) + 1, e⟩ :: recsFrom (pre ++ [e]) es
def recsOf (es : List Event) : List Rec := recsFrom [] es
theorem recsFrom_append (pre es fs : List Event) : recsFrom pre (es ++ fs) = recsFrom pre es ++ recsFrom (pre ++ es) fs := by
  induction es generalizing pre with
  | nil => simp [recsFrom]
  | cons e es ih => simp [recsFrom, ih]
theorem recsOf_append (es fs : List Event) : recsOf (es ++ fs) = recsOf es ++ recsFrom es fs := by
  unfold recsOf; rw [recsFrom_append]; rfl
theorem recsOf_snoc (es : List Event) (e : Event) : recsOf (es ++ [e]) = recsOf es ++ [⟨(es.length : Int) + 1, (cntS es e.stream : Int) + 1, e⟩] := by rw [recsOf_append]; rfl
theorem recsFrom_len (pre es : List Event) : (recsFrom pre es).length = es.length := by
  induction es generalizing pre with
  | nil => rfl
  | cons e es ih => simp [recsFrom, ih]
theorem recsOf_len (es : List Event) : (recsOf es).length = es.length := recsFrom_len _ _
theorem recsFrom_ev (pre es : List Event) : (recsFrom pre es).map (·.ev) = es := by
  induction es generalizing pre with
  | nil => rfl
  | cons e es ih => simp [recsFrom, ih]
theorem recsOf_ev (es : List Event) : (recsOf es).map (·.ev) = es := recsFrom_ev _ _
theorem recsFrom_lo {pre es : List Event} {r : Rec} (h : r ∈ recsFrom pre es) : (pre.length : Int) < r.pos ∧ r.pos ≤ pre.length + es.length ∧ r.ev ∈ es := by
  induction es generalizing pre with
  | nil => cases h
  | cons e es ih =>
    rcases List.mem_cons.1 h with rfl | h
    · exact ⟨by show (_ : Int) < _ + 1; omega, by show (_ : Int) + 1 ≤ _; simp; omega, List.mem_cons_self⟩
    · have := ih h
      simp at this ⊢
      exact ⟨by omega, by omega, .inr this.2.2⟩
theorem recsFrom_rise (pre es : List Event) : (recsFrom pre es).Pairwise (fun a b => a.pos < b.pos) := by
  induction es generalizing pre with
  | nil => exact List.Pairwise.nil
  | cons e es ih =>
    refine List.pairwise_cons.2 ⟨fun r hr => ?_, ih _⟩
    have := (recsFrom_lo hr).1
    simp at this
    show (pre.length : Int) + 1 < r.pos
    omega
theorem recsOf_rise (es : List Event) : (recsOf es).Pairwise (fun a b => a.pos < b.pos) := recsFrom_rise _ _
theorem recsFrom_at (pre es : List Event) {i : Nat} {r : Rec} (h : (recsFrom pre es)[i]? = some r) : r.pos = pre.length + i + 1 := by
  induction es generalizing pre i with
  | nil => simp [recsFrom] at h
  | cons e es ih =>
    cases i with
    | zero => simp [recsFrom] at h; subst h; simp
    | succ i =>
      have := ih (pre ++ [e]) (i := i) (by simpa [recsFrom] using h)
      simp at this
      omega
theorem recsOf_pos {es : List Event} {i : Nat} {r : Rec} (h : (recsOf es)[i]? = some r) : r.pos = i + 1 := by
  have := recsFrom_at [] es h
  simp at this
  omega
theorem recsOf_mem {es : List Event} {r : Rec} (h : r ∈ recsOf es) : 1 ≤ r.pos ∧ r.pos ≤ es.length ∧ (recsOf es)[(r.pos - 1).toNat]? = some r ∧ r.ev ∈ es := by
  have h1 := recsFrom_lo (pre := []) h
  obtain ⟨i, hi⟩ := List.getElem?_of_mem h
  have h2 := recsOf_pos hi
  simp at h1
  exact ⟨by omega, by omega, by rw [show (r.pos - 1).toNat = i by omega]; exact hi, h1.2.2⟩
/-- A filter of what rises, up to a bound, is a begin of it. -/
theorem recsFrom_upto (pre es : List Event) (x : Int) : (recsFrom pre es).filter (fun r => decide (r.pos ≤ x)) = (recsFrom pre es).take (x - pre.length).toNat := by
  induction es generalizing pre with
  | nil => simp [recsFrom]
  | cons e es ih =>
    simp only [recsFrom, List.filter_cons]
    by_cases h : (pre.length : Int) + 1 ≤ x
    · rw [if_pos (by simpa using h), ih, show (x - (pre.length : Int)).toNat = (x - ((pre ++ [e]).length : Int)).toNat + 1 by simp; omega, List.take_succ_cons]
    · rw [if_neg (by simpa using h), ih, show (x - ((pre ++ [e]).length : Int)).toNat = 0 by simp; omega, show (x - (pre.length : Int)).toNat = 0 by omega]
      simp

/-! ## What an index tells -/
def allR (es : List Event) (x : Int) : List Rec := (recsOf es).filter (fun r => decide (r.pos ≤ x))
def strmR (es : List Event) (s : ByteArray) (x : Int) : List Rec := (recsOf es).filter (fun r => decide (r.ev.stream = s) && decide (r.pos ≤ x))
def qryR (es : List Event) (q : List Clause) (x : Int) : List Rec := (recsOf es).filter (fun r => matchM q r.ev && decide (r.pos ≤ x))
def verR (es : List Event) (s : ByteArray) (x : Int) : Nat := (strmR es s x).length
def sinceR (es : List Event) (q : List Clause) (a : Int) : Bool := (recsOf es).any (fun r => matchM q r.ev && decide (a < r.pos))
theorem allR_take (es : List Event) (x : Int) : allR es x = (recsOf es).take x.toNat := by
  unfold allR recsOf
  rw [recsFrom_upto]
  simp
theorem allR_clip (es : List Event) (x : Int) : allR es x = (recsOf es).take (min (max x 0) es.length).toNat := by
  rw [allR_take]
  by_cases h : x ≤ 0
  · rw [show x.toNat = 0 by omega, show (min (max x 0) (es.length : Int)).toNat = 0 by omega]
  · by_cases h2 : x ≤ es.length
    · rw [show (min (max x 0) (es.length : Int)).toNat = x.toNat by omega]
    · rw [show (min (max x 0) (es.length : Int)).toNat = es.length by omega, List.take_of_length_le (by rw [recsOf_len]; omega), List.take_of_length_le (by rw [recsOf_len]; omega)]
theorem allR_all (es : List Event) {x : Int} (h : (es.length : Int) ≤ x) : allR es x = recsOf es := by
  rw [allR_take, List.take_of_length_le (by rw [recsOf_len]; omega)]

/-! ## The rows of positions below it -/
def posS (es : List Event) (s : ByteArray) : List Int := ((recsOf es).filter (fun r => decide (r.ev.stream = s))).map (·.pos)
def zipP (es : List Event) : List EP := (recsOf es).map (fun r => (r.ev, r.pos))
theorem cnt_filter (pre es : List Event) (s : ByteArray) : ((recsFrom pre es).filter (fun r => decide (r.ev.stream = s))).length = cntS es s := by
  unfold cntS
  conv => rhs; rw [← recsFrom_ev pre es]
  rw [List.filter_map, List.length_map]
  rfl
theorem posS_len (es : List Event) (s : ByteArray) : (posS es s).length = cntS es s := by unfold posS; rw [List.length_map]; exact cnt_filter [] es s
theorem cntS_le (es : List Event) (s : ByteArray) : cntS es s ≤ es.length := List.length_filter_le _ _
theorem posS_nil : posS [] = fun _ => [] := rfl
theorem posS_snoc (es : List Event) (e : Event) : posS (es ++ [e]) = upd (posS es) e.stream (posS es e.stream ++ [(es.length : Int) + 1]) := by
  funext s
  unfold posS
  rw [recsOf_snoc, List.filter_append, List.map_append]
  by_cases h : s = e.stream
  · subst h
    rw [upd_same]
    simp
  · rw [upd_other _ _ h]
    have : decide (e.stream = s) = false := decide_eq_false (fun e => h e.symm)
    simp [this]
theorem zipP_nil : zipP [] = [] := rfl
theorem zipP_len (es : List Event) : (zipP es).length = es.length := by unfold zipP; rw [List.length_map, recsOf_len]
theorem zipP_snoc (es : List Event) (e : Event) : zipP (es ++ [e]) = zipP es ++ [(e, (es.length : Int) + 1)] := by
  unfold zipP; rw [recsOf_snoc, List.map_append]; rfl
theorem zipP_lt (es : List Event) : ∀ q ∈ posE (zipP es), q < (es.length : Int) + 1 := by
  intro q hq
  obtain ⟨a, ha, rfl⟩ := List.mem_map.1 hq
  obtain ⟨r, hr, rfl⟩ := List.mem_map.1 ha
  have := (recsOf_mem hr).2.1
  show r.pos < _
  omega
theorem posS_rise (es : List Event) (s : ByteArray) : (posS es s).Pairwise (· < ·) := by
  unfold posS
  rw [List.pairwise_map]
  exact (recsOf_rise es).filter _
theorem strm_pos (es : List Event) (s : ByteArray) (x : Int) : (posS es s).take (upTo (posS es s) x) = (strmR es s x).map (·.pos) := by
  rw [take_upTo (posS_rise es s)]
  unfold posS strmR
  rw [List.filter_map, List.filter_filter]
  congr 1
  refine List.filter_congr (fun r _ => ?_)
  simp [Bool.and_comm]
theorem upTo_posS (es : List Event) (s : ByteArray) (x : Int) : upTo (posS es s) x = verR es s x := by
  unfold verR
  have h := congrArg List.length (strm_pos es s x)
  rw [List.length_take, List.length_map] at h
  have h2 : upTo (posS es s) x ≤ (posS es s).length := List.length_filter_le _ _
  omega
theorem find_pos (es : List Event) (q : List Clause) (x : Int) : findE (zipP es) q x = (qryR es q x).map (·.pos) := by
  unfold findE zipP qryR
  rw [List.filter_map, List.map_map]
  rfl
/-- What lies at the positions of some records. -/
theorem recs_at {es : List Event} {f : Rec → Bool} {k : Nat} {p : Int} (h : (((recsOf es).filter f).map (·.pos))[k]? = some p) : 1 ≤ p ∧ p ≤ es.length ∧ (recsOf es)[(p - 1).toNat]? = ((recsOf es).filter f)[k]? := by
  rw [List.getElem?_map] at h
  obtain ⟨r, hr, rfl⟩ := Option.map_eq_some_iff.1 h
  have hm := (List.mem_filter.1 (List.mem_of_getElem? hr)).1
  obtain ⟨h1, h2, h3, _⟩ := recsOf_mem hm
  exact ⟨h1, h2, by rw [h3, hr]⟩
theorem filter_take_len {α : Type} (f : α → Bool) (l : List α) : (l.filter f).length ≤ l.length := List.length_filter_le _ _
theorem strmR_len (es : List Event) (s : ByteArray) (x : Int) : (strmR es s x).length ≤ es.length := by have := List.length_filter_le (fun r : Rec => decide (r.ev.stream = s) && decide (r.pos ≤ x)) (recsOf es); rw [recsOf_len] at this; exact this
theorem qryR_len (es : List Event) (q : List Clause) (x : Int) : (qryR es q x).length ≤ es.length := by have := List.length_filter_le (fun r : Rec => matchM q r.ev && decide (r.pos ≤ x)) (recsOf es); rw [recsOf_len] at this; exact this
theorem allR_len (es : List Event) (x : Int) : (allR es x).length ≤ es.length := by have := List.length_filter_le (fun r : Rec => decide (r.pos ≤ x)) (recsOf es); rw [recsOf_len] at this; exact this
theorem qryR_all (es : List Event) (q : List Clause) {x : Int} (h : (es.length : Int) ≤ x) : qryR es q x = (recsOf es).filter (fun r => matchM q r.ev) := by
  unfold qryR
  refine List.filter_congr (fun r hr => ?_)
  have := (recsOf_mem hr).2.1
  rw [decide_eq_true (by omega), Bool.and_true]
theorem strmR_all (es : List Event) (s : ByteArray) {x : Int} (h : (es.length : Int) ≤ x) : strmR es s x = (recsOf es).filter (fun r => decide (r.ev.stream = s)) := by
  unfold strmR
  refine List.filter_congr (fun r hr => ?_)
  have := (recsOf_mem hr).2.1
  have hx : decide (r.pos ≤ x) = true := decide_eq_true (by omega)
  rw [hx, Bool.and_true]
theorem verR_all (es : List Event) (s : ByteArray) {x : Int} (h : (es.length : Int) ≤ x) : verR es s x = cntS es s := by
  unfold verR; rw [strmR_all es s h]; exact cnt_filter [] es s
/-- A rising row has something above a bound just if its last is. -/
theorem since_last (es : List Event) (q : List Clause) (a : Int) : sinceR es q a = match (qryR es q es.length).getLast? with | none => false | some r => decide (a < r.pos) := by
  rw [qryR_all es q (Int.le_refl _)]
  have hs : sinceR es q a = ((recsOf es).filter (fun r => matchM q r.ev)).any (fun r => decide (a < r.pos)) := by
    unfold sinceR
    rw [List.any_filter]
  rw [hs]
  have hp : ((recsOf es).filter (fun r => matchM q r.ev)).Pairwise (fun a b => a.pos < b.pos) := (recsOf_rise es).filter _
  generalize (recsOf es).filter (fun r => matchM q r.ev) = l at hp
  cases hl : l.getLast? with
  | none => rw [List.getLast?_eq_none_iff.1 hl]; rfl
  | some r =>
    obtain ⟨m, rfl⟩ := List.getLast?_eq_some_iff.1 hl
    have h2 := (List.pairwise_append.1 hp).2.2
    rw [List.any_append]
    by_cases h : a < r.pos
    · simp [h]
    · have : m.any (fun r => decide (a < r.pos)) = false := by
        rw [List.any_eq_false]
        intro x hx
        have := h2 x hx r (List.mem_singleton.2 rfl)
        simp; omega
      simp [this, h]

/-! ## What a batch may be -/
/-- What is wrong with the first event that may not be; 0: none. -/
def badE : List Event → Int
  | [] => 0
  | e :: es => if mayE e = 0 then badE es else mayE e
theorem badE_snoc (es : List Event) (e : Event) (h : badE es = 0) : badE (es ++ [e]) = mayE e := by
  induction es with
  | nil => simp only [List.nil_append, badE]; split <;> simp_all
  | cons x es ih =>
    simp only [List.cons_append, badE] at h ⊢
    split at h
    · rename_i hx; rw [if_pos hx]; exact ih h
    · rename_i hx; exact absurd h hx
theorem badE_first (es fs : List Event) (e : Event) (h : badE es = 0) (hm : mayE e ≠ 0) : badE (es ++ e :: fs) = mayE e := by
  induction es with
  | nil => simp only [List.nil_append, badE]; rw [if_neg hm]
  | cons x es ih =>
    simp only [List.cons_append, badE] at h ⊢
    split at h
    · rename_i hx; rw [if_pos hx]; exact ih h
    · rename_i hx; exact absurd h hx
theorem badE_ok {es : List Event} : badE es = 0 ↔ ∀ e ∈ es, OkE e := by
  induction es with
  | nil => simp [badE]
  | cons e es ih =>
    simp only [badE]
    constructor
    · intro h
      split at h
      · rename_i hx
        intro x hx2
        rcases List.mem_cons.1 hx2 with rfl | hx2
        · exact (mayE_iff _).1 hx
        · exact ih.1 h x hx2
      · rename_i hx; exact absurd h hx
    · intro h
      rw [if_pos ((mayE_iff e).2 (h e List.mem_cons_self))]
      exact ih.2 (fun x hx => h x (List.mem_cons_of_mem _ hx))
def mayB (after : Int) (es : List Event) : Int := if es.length = 0 then 22 else if 16 < es.length then 3 else if badE es ≠ 0 then badE es else if after < 0 ∨ 1048576 - (es.length : Int) < after then 1 else 0
theorem mayB_ok {after : Int} {es : List Event} (h : mayB after es = 0) : 0 < es.length ∧ es.length ≤ 16 ∧ (∀ e ∈ es, OkE e) ∧ 0 ≤ after ∧ after ≤ 1048576 - (es.length : Int) := by
  unfold mayB at h
  by_cases h1 : es.length = 0
  · rw [if_pos h1] at h; exact absurd h (by decide)
  rw [if_neg h1] at h
  by_cases h2 : 16 < es.length
  · rw [if_pos h2] at h; exact absurd h (by decide)
  rw [if_neg h2] at h
  by_cases h3 : badE es ≠ 0
  · rw [if_pos h3] at h; exact absurd h h3
  rw [if_neg h3] at h
  by_cases h4 : after < 0 ∨ 1048576 - (es.length : Int) < after
  · rw [if_pos h4] at h; exact absurd h (by decide)
  exact ⟨by omega, by omega, badE_ok.1 (Decidable.not_not.1 h3), by omega, by omega⟩
/-- What a batch comes to at an index. -/
def addErr (es : List Event) (after : Int) (bs : List Event) : Int := if mayB after bs ≠ 0 then mayB after bs else if after ≠ es.length then 1 else 0
theorem addErr_ok {es bs : List Event} {after : Int} (h : addErr es after bs = 0) : mayB after bs = 0 ∧ after = es.length := by
  unfold addErr at h
  by_cases h1 : mayB after bs ≠ 0
  · rw [if_pos h1] at h; exact absurd h h1
  rw [if_neg h1] at h
  by_cases h2 : after ≠ es.length
  · rw [if_pos h2] at h; exact absurd h (by decide)
  exact ⟨Decidable.not_not.1 h1, Decidable.not_not.1 h2⟩
end Go.Proofs.Ytfoghahidofegaa

namespace Go.Proofs.Ytfoghahidofegaa
open Go.RowKit

def kRec : Kn Rec := Kn.iso (Kn.pair (Kn.int .i64) (Kn.pair (Kn.int .i64) kEvent)) (fun r => (r.pos, r.ver, r.ev))
theorem kRec_sz : kRec.sz = 6 := rfl
theorem kRec_out {ok : Nat → Prop} {w : World} {r : Rec} {cs : List Value} (h : kRec.K ok w r cs) :
    ∃ A ca B cb, cs = [.int .i64 r.pos, .int .i64 r.ver, .string r.ev.stream, .string r.ev.type, .slice A r.ev.tags.length ca, .slice B r.ev.fields.length cb] ∧ Sl Kn.str ok w A ca r.ev.tags ∧ Sl kField ok w B cb r.ev.fields := by
  obtain ⟨c0, c1, rfl, h0, c2, c3, rfl, h1, h2⟩ := h
  have e0 : c0 = [.int .i64 r.pos] := h0
  have e1 : c2 = [.int .i64 r.ver] := h1
  subst e0; subst e1
  obtain ⟨A, ca, B, cb, rfl, h3, h4⟩ := kEvent_out h2
  exact ⟨A, ca, B, cb, rfl, h3, h4⟩
theorem kRec_mk {ok : Nat → Prop} {w : World} {r : Rec} {A B : Option Addr} {ca cb : Nat} (h1 : Sl Kn.str ok w A ca r.ev.tags) (h2 : Sl kField ok w B cb r.ev.fields) :
    kRec.K ok w r [.int .i64 r.pos, .int .i64 r.ver, .string r.ev.stream, .string r.ev.type, .slice A r.ev.tags.length ca, .slice B r.ev.fields.length cb] :=
  ⟨[_], _, rfl, rfl, [_], _, rfl, rfl, kEvent_mk h1 h2⟩
theorem row_rec_at {ok : Nat → Prop} {w : World} {A : Option Addr} {xs : List Rec} (h : Row kRec ok w A xs) {j : Nat} (hj : j < xs.length) :
    ∃ ad S sa T ta, A = some ad ∧ w.cell? (ad.add (j * 6)) = some (.int .i64 xs[j].pos) ∧ w.cell? ⟨(ad.add (j * 6)).block, (ad.add (j * 6)).off + 1, none⟩ = some (.int .i64 xs[j].ver) ∧
      w.cell? ⟨(ad.add (j * 6)).block, (ad.add (j * 6)).off + 2, none⟩ = some (.string xs[j].ev.stream) ∧ w.cell? ⟨(ad.add (j * 6)).block, (ad.add (j * 6)).off + 3, none⟩ = some (.string xs[j].ev.type) ∧
      w.cell? ⟨(ad.add (j * 6)).block, (ad.add (j * 6)).off + 4, none⟩ = some (.slice S xs[j].ev.tags.length sa) ∧ w.cell? ⟨(ad.add (j * 6)).block, (ad.add (j * 6)).off + 5, none⟩ = some (.slice T xs[j].ev.fields.length ta) ∧
      Sl Kn.str ok w S sa xs[j].ev.tags ∧ Sl kField ok w T ta xs[j].ev.fields := by
  obtain ⟨ad, cs, e, _, _, _, hk, hc⟩ := h.at_ hj
  obtain ⟨S, sa, T, ta, rfl, h1, h2⟩ := kRec_out hk
  rw [kRec_sz] at hc
  have g : ∀ i u, 0 < i → [Value.int .i64 xs[j].pos, .int .i64 xs[j].ver, .string xs[j].ev.stream, .string xs[j].ev.type, .slice S xs[j].ev.tags.length sa, .slice T xs[j].ev.fields.length ta][i]? = some u → w.cell? ⟨(ad.add (j * 6)).block, (ad.add (j * 6)).off + i, none⟩ = some u := fun i u hi hu => by
    have := hc i u hu
    rwa [add_field _ _ _ hi] at this
  exact ⟨ad, S, sa, T, ta, e, hc 0 _ rfl, g 1 _ (by omega) rfl, g 2 _ (by omega) rfl, g 3 _ (by omega) rfl, g 4 _ (by omega) rfl, g 5 _ (by omega) rfl, h1, h2⟩

theorem row_ev_at {ok : Nat → Prop} {w : World} {A : Option Addr} {xs : List Event} (h : Row kEvent ok w A xs) {j : Nat} (hj : j < xs.length) :
    ∃ ad S sa T ta, A = some ad ∧ w.cell? (ad.add (j * 4)) = some (.string xs[j].stream) ∧ w.cell? ⟨(ad.add (j * 4)).block, (ad.add (j * 4)).off + 1, none⟩ = some (.string xs[j].type) ∧
      w.cell? ⟨(ad.add (j * 4)).block, (ad.add (j * 4)).off + 2, none⟩ = some (.slice S xs[j].tags.length sa) ∧ w.cell? ⟨(ad.add (j * 4)).block, (ad.add (j * 4)).off + 3, none⟩ = some (.slice T xs[j].fields.length ta) ∧
      Sl Kn.str ok w S sa xs[j].tags ∧ Sl kField ok w T ta xs[j].fields := by
  obtain ⟨ad, cs, e, _, _, _, hk, hc⟩ := h.at_ hj
  obtain ⟨S, sa, T, ta, rfl, h1, h2⟩ := kEvent_out hk
  rw [kEvent_sz] at hc
  have g : ∀ i u, 0 < i → [Value.string xs[j].stream, .string xs[j].type, .slice S xs[j].tags.length sa, .slice T xs[j].fields.length ta][i]? = some u → w.cell? ⟨(ad.add (j * 4)).block, (ad.add (j * 4)).off + i, none⟩ = some u := fun i u hi hu => by
    have := hc i u hu
    rwa [add_field _ _ _ hi] at this
  exact ⟨ad, S, sa, T, ta, e, hc 0 _ rfl, g 1 _ (by omega) rfl, g 2 _ (by omega) rfl, g 3 _ (by omega) rfl, h1, h2⟩
/-- An event whose texts and rows are no greater than a machine's. -/
structure EvIn (e : Event) : Prop where
  st : e.stream.size ≤ maxLen
  ty : e.type.size ≤ maxLen
  ts : ∀ x ∈ e.tags, x.size ≤ maxLen
  fs : ∀ x ∈ e.fields, x.1.size ≤ maxLen
  tl : e.tags.length ≤ 1000000
  fl : e.fields.length ≤ 1000000

theorem Sl.none_nil' {α : Type} {d : Kn α} {ok : Nat → Prop} {w : World} {c : Nat} {xs : List α} (h : Sl d ok w none c xs) : xs = [] := by
  cases xs with
  | nil => rfl
  | cons y ys => obtain ⟨ad, e1, _⟩ := h.2.2 (by simp); cases e1
/-- A kind whose footprint is narrower where a sign is set. -/
def Kn.when {α : Type} (d : Kn α) (F : Nat → Prop) : Kn (α × Bool) where
  sz := d.sz
  K := fun ok w x cs => d.K (fun k => ok k ∧ (x.2 = true → F k)) w x.1 cs
  len := fun h => d.len h
  one := fun h => d.one h
  mono := fun hm h => d.mono (fun k hk => ⟨hm k hk.1, hk.2⟩) h
  bound := fun h => d.mono (fun k hk => ⟨⟨hk.1.1, hk.2⟩, hk.1.2⟩) (d.bound h)
  move := fun hs hm h => d.move hs (fun k hk => hm k hk.1) h
section
variable {α : Type} {d : Kn α} {F : Nat → Prop} {e : TypeId} {base : Nat} {ok : Nat → Prop} {w w' : World} {v : Value} {xs : List α}
theorem Own.when_no (h : Own d e base ok w v xs) : Own (d.when F) e base ok w v (xs.map (fun x => (x, false))) := by
  obtain ⟨css, h1, h2, h3, h4, h5⟩ := h
  refine ⟨css, by rw [List.length_map]; exact h1, by rw [List.length_map]; exact h2, h3, h4, fun j x hj => ?_⟩
  rw [List.getElem?_map] at hj
  obtain ⟨y, hy, rfl⟩ := Option.map_eq_some_iff.1 hj
  obtain ⟨cs, h6, h7⟩ := h5 j y hy
  exact ⟨cs, h6, d.mono (fun k hk => ⟨hk, fun h => by cases h⟩) h7⟩
theorem Own.when_yes (h : Own (d.when F) e base ok w v (xs.map (fun x => (x, true)))) : Own d e base (fun k => ok k ∧ F k) w v xs := by
  obtain ⟨css, h1, h2, h3, h4, h5⟩ := h
  rw [List.length_map] at h1 h2
  refine ⟨css, h1, h2, h3, h4, fun j x hj => ?_⟩
  obtain ⟨cs, h6, h7⟩ := h5 j (x, true) (by rw [List.getElem?_map, hj]; rfl)
  exact ⟨cs, h6, d.mono (fun k hk => ⟨⟨hk.1.1, hk.2 rfl⟩, hk.1.2⟩) h7⟩
end

theorem flat_set {sz : Nat} : ∀ (css : List (List Value)) (_ : ∀ c ∈ css, c.length = sz) (j i : Nat) (c : List Value), css[j]? = some c → i < sz → ∀ u, css.flatten.set (j * sz + i) u = (css.set j (c.set i u)).flatten
  | [], _, j, i, c, hc, _, u => by simp at hc
  | c0 :: css, hs, 0, i, c, hc, hi, u => by
    simp at hc
    subst hc
    have h0 : c0.length = sz := hs c0 List.mem_cons_self
    rw [List.flatten_cons, Nat.zero_mul, Nat.zero_add, List.set_append_left _ _ (by omega), List.set_cons_zero, List.flatten_cons]
  | c0 :: css, hs, j + 1, i, c, hc, hi, u => by
    have h0 : c0.length = sz := hs c0 List.mem_cons_self
    rw [List.flatten_cons, List.set_append_right _ _ (by rw [h0, Nat.add_mul]; omega), h0, show (j + 1) * sz + i - sz = j * sz + i by rw [Nat.add_mul]; omega, flat_set css (fun c hc => hs c (List.mem_cons_of_mem _ hc)) j i c (by simpa using hc) hi u, List.set_cons_succ, List.flatten_cons]
/-- A cell of a row of the call's own is written. -/
theorem ownsRow_set {w : World} {base : Nat} {e : TypeId} {size n : Nat} {v : Value} {cs : List Value} (h : w.ownsRow base e size v n cs) {g : Nat} (hg : v.ownBlock = some g) {i : Nat} (hi : i < cs.length) (u : Value) : (w.setCell ⟨g, i, none⟩ u).ownsRow base e size v n (cs.set i u) := by
  obtain ⟨h1, h2⟩ := h
  refine ⟨by rw [List.length_set]; exact h1, ?_⟩
  rcases h2 with ⟨rfl, _⟩ | ⟨g', cap, cur, rfl, hb, hh, hn, hcap, hsz, ht⟩
  · simp [Value.ownBlock] at hg
  · have e1 : g' = g := by simpa [Value.ownBlock] using hg
    subst e1
    refine .inr ⟨g', cap, cur.setIfInBounds i u, rfl, hb, ?_, hn, hcap, by rw [Array.size_setIfInBounds]; exact hsz, ?_⟩
    · exact heap_setCell_same w g' i _ e u hh
    · rw [← ht, Array.toList_setIfInBounds, List.take_set]
theorem Own.setAt {α : Type} {d : Kn α} {e : TypeId} {base : Nat} {w : World} {v : Value} {xs : List α} {css : List (List Value)} (h1 : w.ownsRow base e d.sz v xs.length css.flatten) (h3 : ∀ c ∈ css, c.length = d.sz) {g : Nat} (hg : v.ownBlock = some g) {j i : Nat} {c : List Value} (hc : css[j]? = some c) (hi : i < d.sz) (u : Value) :
    (w.setCell ⟨g, j * d.sz + i, none⟩ u).ownsRow base e d.sz v xs.length (css.set j (c.set i u)).flatten := by
  have hfl : css.flatten.length = css.length * d.sz := by
    clear h1 hc
    induction css with
    | nil => simp
    | cons c css ih => rw [List.flatten_cons, List.length_append, h3 c List.mem_cons_self, ih (fun c hc => h3 c (List.mem_cons_of_mem _ hc)), List.length_cons, Nat.add_mul]; omega
  have hj := (List.getElem?_eq_some_iff.1 hc).1
  have hlt : j * d.sz + i < css.flatten.length := by
    rw [hfl]
    calc j * d.sz + i < j * d.sz + d.sz := by omega
      _ = (j + 1) * d.sz := by rw [Nat.add_mul]; omega
      _ ≤ css.length * d.sz := Nat.mul_le_mul_right _ hj
  have := ownsRow_set h1 hg hlt u
  rwa [flat_set css h3 j i c hc hi u] at this
end Go.Proofs.Ytfoghahidofegaa

namespace Go.Proofs.Ytfoghahidofegaa
open Go.RowKit Go.Maps

theorem But.mono {S T : Nat → Prop} {w w' : World} (h : But S w w') (hm : ∀ k, S k → T k) : But T w w' := ⟨h.os, h.tape, h.output, h.size, fun k hk hn => h.block k hk (fun hs => hn (hm k hs))⟩
theorem But.drewN {S : Nat → Prop} {w w' : World} (h : But S w w') (n : Nat) : But S w (w'.drewN n) := ⟨h.os, h.tape, h.output, h.size, h.block⟩
theorem Tb.empty {w : World} {b m N : Nat} {D : DataW Value} {last : Int} {X Y : Nat → Prop} (h : Tb w b m N D last (fun _ => []) X) (hb : ¬ Y b) (hm : ¬ Y m) (hY : ∀ k, Y k → k < w.heap.size) : Tb w b m N D last (fun _ => []) Y := by
  refine ⟨h.bx, ⟨h.mp.om, fun s => ?_, h.mp.has⟩, h.ne, h.rise, h.top, h.len, hb, hm, hY⟩
  obtain ⟨A, c, h1, h2⟩ := h.mp.row s
  exact ⟨A, c, h1, h2.1, h2.2.1, Row.nil_⟩

/-- An index's six blocks. -/
structure Six where
  b : Nat
  bt : Nat
  m : Nat
  p : Nat
  mt : Nat
  my : Nat
def Six.has (B : Six) (k : Nat) : Prop := k = B.b ∨ k = B.bt ∨ k = B.m ∨ k = B.p ∨ k = B.mt ∨ k = B.my
/-- An index of the events es in the blocks B; what it has hangs on no block of X, nor on its own six. -/
structure Ix (w : World) (B : Six) (es : List Event) (X : Nat → Prop) : Prop where
  rs : ∃ A c, Bx w B.b 88 [.slice A es.length c, .pointer (some ⟨B.bt, 0, none⟩), .pointer (some ⟨B.p, 0, none⟩)] ∧ Sl kRec (fun k => ¬ B.has k ∧ ¬ X k) w A c (recsOf es) ∧ (es = [] → A = none)
  tb : ∃ N D, N ≤ es.length ∧ Tb w B.bt B.m N D es.length (posS es) (fun k => X k ∨ k = B.b ∨ k = B.p ∨ k = B.mt ∨ k = B.my)
  ps : Q3 w B.p B.mt B.my (zipP es) (fun k => X k ∨ k = B.b ∨ k = B.bt ∨ k = B.m)
  ok : ∀ e ∈ es, OkE e
  inn : ∀ e ∈ es, EvIn e
  len : es.length ≤ 900
  xb : ¬ X B.b
section
variable {w w' : World} {B : Six} {es : List Event} {X Y : Nat → Prop}
theorem Ix.lt (h : Ix w B es X) : ∀ k, B.has k → k < w.heap.size := by
  obtain ⟨A, c, h1, _⟩ := h.rs
  obtain ⟨N, D, _, h2⟩ := h.tb
  obtain ⟨h3, h4, h5, _⟩ := h.ps.lt
  have a := h1.lt
  have b := h2.bx.lt
  have c := h2.mp.om.lt
  intro k hk
  unfold Six.has at hk
  omega
theorem Ix.xs (h : Ix w B es X) : ∀ k, X k → k < w.heap.size := by
  obtain ⟨N, D, _, h2⟩ := h.tb
  exact fun k hk => h2.xs k (.inl hk)
theorem Ix.off (h : Ix w B es X) : ∀ k, B.has k → ¬ X k := by
  obtain ⟨N, D, _, h2⟩ := h.tb
  obtain ⟨_, _, _, h3, h4, h5⟩ := h.ps.lt
  have hb := h.xb
  have h6 := h2.xb
  have h7 := h2.xm
  rintro k (rfl | rfl | rfl | rfl | rfl | rfl) hx
  · exact hb hx
  · exact h6 (.inl hx)
  · exact h7 (.inl hx)
  · exact h3 (.inl hx)
  · exact h4 (.inl hx)
  · exact h5 (.inl hx)
/-- The six are six. -/
theorem Ix.six (h : Ix w B es X) : B.b ≠ B.bt ∧ B.b ≠ B.m ∧ B.b ≠ B.p ∧ B.b ≠ B.mt ∧ B.b ≠ B.my ∧ B.bt ≠ B.m ∧ B.bt ≠ B.p ∧ B.bt ≠ B.mt ∧ B.bt ≠ B.my ∧ B.m ≠ B.p ∧ B.m ≠ B.mt ∧ B.m ≠ B.my := by
  obtain ⟨N, D, _, h2⟩ := h.tb
  obtain ⟨_, _, _, h3, h4, h5⟩ := h.ps.lt
  have h6 := h2.xb
  have h7 := h2.xm
  have h8 := h2.ne
  refine ⟨fun e => ?_, fun e => ?_, fun e => ?_, fun e => ?_, fun e => ?_, h8, fun e => ?_, fun e => ?_, fun e => ?_, fun e => ?_, fun e => ?_, fun e => ?_⟩
  · exact h6 (.inr (.inl e.symm))
  · exact h7 (.inr (.inl e.symm))
  · exact h3 (.inr (.inl e.symm))
  · exact h4 (.inr (.inl e.symm))
  · exact h5 (.inr (.inl e.symm))
  · exact h6 (.inr (.inr (.inl e)))
  · exact h6 (.inr (.inr (.inr (.inl e))))
  · exact h6 (.inr (.inr (.inr (.inr e))))
  · exact h7 (.inr (.inr (.inl e)))
  · exact h7 (.inr (.inr (.inr (.inl e))))
  · exact h7 (.inr (.inr (.inr (.inr e))))
/-- Blocks of X alone turn. -/
theorem Ix.far (h : Ix w B es X) (hb : But X w w') : Ix w' B es X := by
  obtain ⟨A, c, h1, h2, h3⟩ := h.rs
  obtain ⟨N, D, h4, h5⟩ := h.tb
  exact ⟨⟨A, c, h1.stay (fun hk => hb.block _ hk h.xb), h2.stay hb.size (fun k hk hl => hb.block k hl hk.2), h3⟩, ⟨N, D, h4, h5.far (hb.mono (fun k hk => .inl hk))⟩, h.ps.move (hb.mono (fun k hk => .inl hk)) (fun k hk => .inl hk), h.ok, h.inn, h.len, h.xb⟩
theorem Ix.below (h : Ix w B es X) (hb : Below w.heap.size w w') : Ix w' B es X := h.far (But.of_below hb)
/-- New blocks are fenced off. -/
theorem Ix.fence (h : Ix w B es X) (hb : Below w.heap.size w w') (hY : ∀ k, Y k → X k ∨ (w.heap.size ≤ k ∧ k < w'.heap.size)) : Ix w' B es Y := by
  have hlt := h.lt
  obtain ⟨A, c, h1, h2, h3⟩ := h.rs
  obtain ⟨N, D, h4, h5⟩ := h.tb
  refine ⟨⟨A, c, h1.under hb, (h2.bound.below hb).mono (fun k hk => ⟨hk.1.1, fun hy => (hY k hy).elim hk.1.2 (fun h => by omega)⟩), h3⟩, ⟨N, D, h4, h5.fence hb (fun k hk => ?_)⟩, h.ps.move (But.of_below hb) (fun k hk => ?_), h.ok, h.inn, h.len, fun hy => (hY _ hy).elim h.xb (fun h => by have := hlt B.b (.inl rfl); omega)⟩
  · rcases hk with hk | hk
    · exact (hY k hk).imp .inl id
    · exact .inl (.inr hk)
  · rcases hk with hk | hk
    · exact (hY k hk).imp .inl id
    · exact .inl (.inr hk)
theorem Ix.less (h : Ix w B es X) (hY : ∀ k, Y k → X k) : Ix w B es Y := h.fence (Below.refl _ _) (fun k hk => .inl (hY k hk))
/-- Blocks of X turn, and new ones are fenced off. -/
theorem Ix.move (h : Ix w B es X) (hb : But X w w') (hY : ∀ k, Y k → X k ∨ (w.heap.size ≤ k ∧ k < w'.heap.size)) : Ix w' B es Y := by
  have hlt := h.lt
  obtain ⟨A, c, h1, h2, h3⟩ := h.rs
  obtain ⟨N, D, h4, h5⟩ := h.tb
  have h5' := h5.far (hb.mono (fun k hk => .inl hk))
  have hsz := hb.size
  have h6 : Tb w' B.bt B.m N D es.length (posS es) (fun k => Y k ∨ k = B.b ∨ k = B.p ∨ k = B.mt ∨ k = B.my) := by
    have hbl := h5.bx.lt
    have hml := h5.mp.om.lt
    refine ⟨h5'.bx, ⟨h5'.mp.om, fun s => ?_, h5'.mp.has⟩, h5.ne, h5.rise, h5.top, h5.len, fun hx => ?_, fun hx => ?_, fun k hk => ?_⟩
    · obtain ⟨A, c, h7, h8⟩ := h5.mp.row s
      exact ⟨A, c, h7, (h8.stay hsz (fun k hk hl => hb.block k hl (fun hx => hk.1.2 (.inl hx)))).mono (fun k hk => ⟨⟨hk.1.1, fun hx => hx.elim (fun hy => (hY k hy).elim (fun hx => hk.1.2 (.inl hx)) (fun h => by omega)) (fun hx => hk.1.2 (.inr hx))⟩, hk.2.1, by omega⟩)⟩
    · exact hx.elim (fun hy => (hY _ hy).elim (fun hx => h5.xb (.inl hx)) (fun h => by omega)) (fun hx => h5.xb (.inr hx))
    · exact hx.elim (fun hy => (hY _ hy).elim (fun hx => h5.xm (.inl hx)) (fun h => by omega)) (fun hx => h5.xm (.inr hx))
    · exact hk.elim (fun hy => (hY k hy).elim (fun hx => by have := h5.xs k (.inl hx); omega) (fun h => h.2)) (fun hx => by have := h5.xs k (.inr hx); omega)
  refine ⟨⟨A, c, h1.stay (fun hk => hb.block _ hk h.xb), (h2.bound.stay hsz (fun k hk hl => hb.block k hl hk.1.2)).mono (fun k hk => ⟨hk.1.1, fun hy => (hY k hy).elim hk.1.2 (fun h => by omega)⟩), h3⟩, ⟨N, D, h4, h6⟩, h.ps.move (hb.mono (fun k hk => .inl hk)) (fun k hk => ?_), h.ok, h.inn, h.len, fun hy => (hY _ hy).elim h.xb (fun h => by have := hlt B.b (.inl rfl); omega)⟩
  rcases hk with hk | hk
  · exact (hY k hk).imp .inl id
  · exact .inl (.inr hk)
end
end Go.Proofs.Ytfoghahidofegaa

namespace Go.Proofs.Ytfoghahidofegaa
open Go.RowKit

abbrev SlE (w : World) (A : Option Addr) (c : Nat) (xs : List Event) : Prop := Sl kEvent (fun _ => True) w A c xs
theorem badE_take {es : List Event} {k : Nat} (hk : k < es.length) (h : badE (es.take k) = 0) (hm : mayE es[k] = 0) : badE (es.take (k + 1)) = 0 := by
  rw [List.take_succ_eq_append_getElem hk, badE_snoc _ _ h, hm]
theorem badE_at {es : List Event} {k : Nat} (hk : k < es.length) (h : badE (es.take k) = 0) (hm : mayE es[k] ≠ 0) : badE es = mayE es[k] := by
  have := badE_first (es.take k) (es.drop (k + 1)) es[k] h hm
  rwa [← List.drop_eq_getElem_cons hk, List.take_append_drop] at this
set_option maxHeartbeats 4000000 in
set_option maxRecDepth 8000 in
theorem batchMay_any {w : World} {E : Option Addr} {ce : Nat} {es : List Event} {after : Int} (hE : SlE w E ce es) (hg : ∀ e ∈ es, EvIn e) :
    Calls Try.prog 45 #[.agg #[.int .i64 after, .slice E es.length ce]] w fun r w' => r = .returned (.int .i64 (mayB after es)) ∧ Below w.heap.size w w' := by
  obtain ⟨h1, h2, h3⟩ := hE
  unfold maxLen at h2
  have HB0 := Lib.hid (show Below w.heap.size w (w.alloc (.cells #[.int .i64 after, .slice E es.length ce] 43)) from (Below.refl _ _).alloc (Nat.le_refl _) _)
  have HX0 := Lib.hid (Bx.new w 43 [.int .i64 after, .slice E es.length ce])
  have HG := Lib.hid hg
  clear hg
  go_enter Try.func45, Try.ntmps45
  by_cases hz : es.length = 0
  · have HZ := Lib.hid hz
    have d0 : ((es.length : Int) == 0) = true := by simp [hz]
    clear hz
    go_wp2_with fail
    go_step3
    go_wp2_with fail
    rw [Exit.noGoto_ret]
    go_ret
    exact ⟨ret_int (by unfold mayB; rw [if_pos HZ.out]), HB0.out⟩
  have d0 : ((es.length : Int) == 0) = false := by simp [hz]
  by_cases h16 : 16 < es.length
  · go_wp2_with fail
    go_step3
    go_wp2_with fail
    rw [Exit.noGoto_ret]
    go_ret
    exact ⟨ret_int (by unfold mayB; rw [if_neg hz, if_pos h16]), HB0.out⟩
  go_wp2_with fail
  go_step3
  go_wp2_with fail
  go_step3
  go_wp2_with fail
  go_loopw [4, 19] (fun v i wr => ∃ k : Nat, k ≤ es.length ∧ i = .int .i64 k ∧ v = .int .i64 0 ∧ Hid (badE (es.take k) = 0) ∧ Hid (Bx wr w.heap.size 43 [.int .i64 after, .slice E es.length ce]) ∧ Below w.heap.size w wr) (fun _ i _ => es.length - (intOf i).toNat)
  case atStart => exact ⟨0, Nat.zero_le _, rfl, rfl, by exact rfl, HX0, HB0.out⟩
  case round =>
    obtain ⟨k, hk, rfl, rfl, hbad, hx, hb⟩ := hrel
    by_cases hlt : k < es.length
    · obtain ⟨ad, S, sa, T, ta, rfl, c0, c1, c2, c3, hS, hT⟩ := row_ev_at (h3.below hb) hlt
      have hin := HG.out _ (List.getElem_mem hlt)
      have HT1 := Lib.hid (badE_take hlt hbad.out)
      have HT2 := Lib.hid (badE_at hlt hbad.out)
      generalize es[k] = e at c0 c1 c2 c3 hS hT hin HT1 HT2
      obtain ⟨m, hm⟩ : ∃ m, mayE e = m := ⟨_, rfl⟩
      have HA := Lib.hid (show Below wr.heap.size wr (wr.alloc (.cells #[.string e.stream, .string e.type, .slice S e.tags.length sa, .slice T e.fields.length ta] 25)) from (Below.refl _ _).alloc (Nat.le_refl _) _)
      have C := Lib.hid (mayE_any (hS.any.below HA.out) (hT.any.below HA.out) hin.fl hin.ts)
      rw [hm] at C HT1 HT2
      have HM := Lib.hid hm
      have e1 : (0 : Int) ≤ (k : Int) := Int.natCast_nonneg _
      have e2 : (k : Int) < (es.length : Int) := by omega
      have HB := Lib.hid hb
      clear hm hS hT hbad hb
      by_cases hm0 : m = 0
      · subst hm0
        go_wp2_with (go_at_call 9; go_fit C.out; rintro r w4 ⟨rfl, hb4⟩; have HB4 := Lib.hid hb4; clear hb4)
        go_roundw
        case rel => exact ⟨k + 1, by omega, by go_num, by first | rfl | trivial, Lib.hid (HT1.out (by first | rfl | trivial)), Lib.hid ((hx.out.under HA.out).under HB4.out), bthen HB.out (bthen HA.out HB4.out)⟩
        case measure => simp [intOf]; omega
      · have d1 : (m == 0) = false := by simp [hm0]
        have d2 : (m != 0) = true := by simp [hm0]
        have HM0 := Lib.hid hm0
        clear hm0
        go_wp2_with (go_at_call 9; go_fit C.out; rintro r w4 ⟨rfl, hb4⟩; have HB4 := Lib.hid hb4; clear hb4)
        (first | go_ret | (rw [Exit.noGoto_ret]; go_ret))
        exact ⟨ret_int (by unfold mayB; rw [if_neg hz, if_neg h16, HT2.out HM0.out, if_pos HM0.out]), bthen HB.out (bthen HA.out HB4.out)⟩
    · obtain rfl : k = es.length := by omega
      have hbd := hbad.out
      rw [List.take_length] at hbd
      have HBD := Lib.hid hbd
      clear hbad hbd
      have ew : IntKind.i64.wrap (1048576 - (es.length : Int)) = 1048576 - (es.length : Int) := IntWalk.i64_in _ (by omega)
      have x0 := hx.out.cell 0
      simp only [List.getElem?_cons_zero] at x0
      have HNZ := Lib.hid hz
      clear hz
      by_cases ha : after < 0
      · go_wp2_with fail
        (first | go_ret | (rw [Exit.noGoto_ret]; go_ret))
        exact ⟨ret_int (by unfold mayB; rw [if_neg HNZ.out, if_neg h16, HBD.out, if_neg (by simp), if_pos (.inl ha)]), hb⟩
      · by_cases ha2 : 1048576 - (es.length : Int) < after
        · go_wp2_with fail
          (first | go_ret | (rw [Exit.noGoto_ret]; go_ret))
          exact ⟨ret_int (by unfold mayB; rw [if_neg HNZ.out, if_neg h16, HBD.out, if_neg (by simp), if_pos (.inr ha2)]), hb⟩
        · go_wp2_with fail
          (first | go_ret | (rw [Exit.noGoto_ret]; go_ret))
          exact ⟨ret_int (by unfold mayB; rw [if_neg HNZ.out, if_neg h16, HBD.out, if_neg (by simp), if_neg (by omega)]), hb⟩
end Go.Proofs.Ytfoghahidofegaa

namespace Go.Proofs.Ytfoghahidofegaa
open Go.RowKit

abbrev SlR (w : World) (A : Option Addr) (c : Nat) (xs : List Rec) : Prop := Sl kRec (fun _ => True) w A c xs
theorem infoRec : (Try.prog.info? 49).map (fun i => (i.zero, i.size, i.bytes)) = some (some (.agg #[.int .i64 0, .int .i64 0, .string ByteArray.empty, .string ByteArray.empty, .slice none 0 0, .slice none 0 0]), 6, 96) := by kernel_rfl
theorem Sl.none_nil {α : Type} {d : Kn α} {ok : Nat → Prop} {w : World} {c : Nat} {xs : List α} (h : Sl d ok w none c xs) : xs = [] := by
  cases xs with
  | nil => rfl
  | cons y ys => obtain ⟨ad, e1, _⟩ := h.2.2 (by simp); cases e1
/-- Four cells are written. -/
abbrev set4 (W : World) (g o : Nat) (u0 u1 u2 u3 : Value) : World := (((W.setCell ⟨g, o, none⟩ u0).setCell ⟨g, o + 1, none⟩ u1).setCell ⟨g, o + 2, none⟩ u2).setCell ⟨g, o + 3, none⟩ u3
theorem set4_save (W : World) (g o : Nat) (u0 u1 u2 u3 : Value) : Save g W (set4 W g o u0 u1 u2 u3) :=
  ⟨rfl, rfl, rfl, by simp [World.setCell], fun k _ hne => by
    rw [heap_setCell_other _ _ k _ (by exact hne), heap_setCell_other _ _ k _ (by exact hne), heap_setCell_other _ _ k _ (by exact hne), heap_setCell_other _ _ k _ (by exact hne)]⟩
/-- An event is written into a record of a row of the call's own. -/
theorem Own.setEv {F : Nat → Prop} {e : TypeId} {base : Nat} {w : World} {v : Value} {xs : List (Rec × Bool)} (h : Own (kRec.when F) e base (fun _ => True) w v xs) {g : Nat} (hg : v.ownBlock = some g) {k : Nat} {r : Rec} {b : Bool} (hk : xs[k]? = some (r, b))
    {S T : Option Addr} {sa ta : Nat} (hS : Sl Kn.str (fun j => F j ∧ j ≠ g) w S sa r.ev.tags) (hT : Sl kField (fun j => F j ∧ j ≠ g) w T ta r.ev.fields) :
    Own (kRec.when F) e base (fun _ => True) (set4 w g (k * 6 + 2) (.string r.ev.stream) (.string r.ev.type) (.slice S r.ev.tags.length sa) (.slice T r.ev.fields.length ta)) v (xs.set k (r, true)) := by
  obtain ⟨css, h1, h2, h3, h4, h5⟩ := h
  obtain ⟨cs, h6, h7⟩ := h5 k _ hk
  obtain ⟨S0, sa0, T0, ta0, hcs, _, _⟩ := kRec_out (show kRec.K _ w r cs from h7)
  have hsv := set4_save w g (k * 6 + 2) (.string r.ev.stream) (.string r.ev.type) (.slice S r.ev.tags.length sa) (.slice T r.ev.fields.length ta)
  have hkl := (List.getElem?_eq_some_iff.1 h6).1
  have hall : ∀ (c : List Value), c.length = 6 → ∀ (css : List (List Value)), (∀ c ∈ css, c.length = (kRec.when F).sz) → ∀ c' ∈ css.set k c, c'.length = (kRec.when F).sz := fun c hc css hcss c' hc' => by
    rcases List.mem_or_eq_of_mem_set hc' with h | h
    · exact hcss _ h
    · rw [h]; exact hc
  have hl6 : cs.length = 6 := h3 _ (List.mem_of_getElem? h6)
  have a0 := Own.setAt (d := kRec.when F) h1 h3 hg (i := 2) h6 (by show 2 < 6; omega) (.string r.ev.stream)
  have b0 := hall (cs.set 2 (.string r.ev.stream)) (by simpa using hl6) css h3
  have a1 := Own.setAt (d := kRec.when F) a0 b0 hg (j := k) (i := 3) (c := cs.set 2 (.string r.ev.stream)) (by rw [List.getElem?_set_self hkl]) (by show 3 < 6; omega) (.string r.ev.type)
  rw [List.set_set] at a1
  have b1 := hall ((cs.set 2 (.string r.ev.stream)).set 3 (.string r.ev.type)) (by simpa using hl6) css h3
  have a2 := Own.setAt (d := kRec.when F) a1 b1 hg (j := k) (i := 4) (c := (cs.set 2 (.string r.ev.stream)).set 3 (.string r.ev.type)) (by rw [List.getElem?_set_self hkl]) (by show 4 < 6; omega) (.slice S r.ev.tags.length sa)
  rw [List.set_set] at a2
  have b2 := hall (((cs.set 2 (.string r.ev.stream)).set 3 (.string r.ev.type)).set 4 (.slice S r.ev.tags.length sa)) (by simpa using hl6) css h3
  have a3 := Own.setAt (d := kRec.when F) a2 b2 hg (j := k) (i := 5) (c := ((cs.set 2 (.string r.ev.stream)).set 3 (.string r.ev.type)).set 4 (.slice S r.ev.tags.length sa)) (by rw [List.getElem?_set_self hkl]) (by show 5 < 6; omega) (.slice T r.ev.fields.length ta)
  rw [List.set_set] at a3
  have hnew : (((cs.set 2 (.string r.ev.stream)).set 3 (.string r.ev.type)).set 4 (.slice S r.ev.tags.length sa)).set 5 (.slice T r.ev.fields.length ta) = [.int .i64 r.pos, .int .i64 r.ver, .string r.ev.stream, .string r.ev.type, .slice S r.ev.tags.length sa, .slice T r.ev.fields.length ta] := by rw [hcs]; rfl
  rw [hnew] at a3
  refine ⟨css.set k [.int .i64 r.pos, .int .i64 r.ver, .string r.ev.stream, .string r.ev.type, .slice S r.ev.tags.length sa, .slice T r.ev.fields.length ta], by rw [List.length_set]; exact a3, by simp [h2], hall _ rfl css h3, fun c hc => ?_, fun j x hj => ?_⟩
  · rcases List.mem_or_eq_of_mem_set hc with h | h
    · exact h4 _ h
    · rw [h]; simp [Value.oneCell']
  · have mv : ∀ {ok : Nat → Prop} {x : Rec × Bool} {c : List Value}, (∀ i, ok i → i ≠ g) → (kRec.when F).K ok w x c → (kRec.when F).K ok (set4 w g (k * 6 + 2) (.string r.ev.stream) (.string r.ev.type) (.slice S r.ev.tags.length sa) (.slice T r.ev.fields.length ta)) x c :=
      fun hn hx => Kn.stay hx hsv.size (fun i hi hlt => hsv.block i hlt (hn i hi))
    by_cases hjk : j = k
    · subst hjk
      have hx : (r, true) = x := by
        rw [List.getElem?_set_self (List.getElem?_eq_some_iff.1 hk).1] at hj
        exact Option.some.inj hj
      subst hx
      refine ⟨_, List.getElem?_set_self hkl, mv (fun i hi e => hi.2 (by rw [e, hg])) ?_⟩
      exact kRec_mk (hS.mono (fun i hi => ⟨⟨trivial, fun e => hi.2 (by rw [hg] at e; exact Option.some.inj e)⟩, fun _ => hi.1⟩)) (hT.mono (fun i hi => ⟨⟨trivial, fun e => hi.2 (by rw [hg] at e; exact Option.some.inj e)⟩, fun _ => hi.1⟩))
    · rw [List.getElem?_set_ne (fun e => hjk e.symm)] at hj
      obtain ⟨c, h8, h9⟩ := h5 j x hj
      exact ⟨c, by rw [List.getElem?_set_ne (fun e => hjk e.symm)]; exact h8, mv (fun i hi e => hi.2 (by rw [e, hg])) h9⟩

set_option maxHeartbeats 2000000 in
theorem cloneRecs_any {ok : Nat → Prop} {A : Option Addr} {c : Nat} {l : List Rec} {w : World} (h : Sl kRec ok w A c l) (hl : l.length ≤ 1000000) :
    Calls Try.prog 67 #[.slice A l.length c] w fun r w' => ∃ v, r = .returned v ∧ Own kRec 49 w.heap.size (fun k => ok k ∧ k < w.heap.size) w' v l ∧ Below w.heap.size w w' := by
  have HO := Lib.hid (Own.lit0 kRec 49 w.heap.size (fun k => ok k ∧ k < w.heap.size) w (Nat.le_refl _))
  have HR := Lib.hid (show Row kRec (fun k => (ok k ∧ k < w.heap.size) ∧ some k ≠ (Value.slice (some ⟨w.heap.size, 0, none⟩) 0 0).ownBlock) (w.alloc (.cells #[] 49)) A l from
    (h.2.2.bound.below ((Below.refl _ _).alloc (Nat.le_refl _) _)).mono (fun k hk => ⟨hk, fun e1 => by have h2 := hk.2; simp [Value.ownBlock] at e1; omega⟩))
  cases A with
  | none =>
    obtain rfl := h.none_nil
    have hq := fun W => Lib.run_eql_slice_nil (P := Try.prog) W 40 _ none 0 c 0 0 Try.underlying40
    go_enter Try.func67, Try.ntmps67
    go_wp2_with fail
    go_ret
    exact ⟨_, rfl, Own.nil_ _ _ _ _ _, Below.refl _ _⟩
  | some ad =>
    clear h
    have hq := fun W => Lib.run_eql_slice_nil (P := Try.prog) W 40 _ (some ad) l.length c 0 0 Try.underlying40
    go_enter Try.func67, Try.ntmps67
    go_wp2_with (at_builtin; refine wpList_spread rfl _ _ _ rfl 49 _ 6 96 Try.underlying40 infoRec rfl (by decide) (by decide) rfl w.heap.size (fun k => ok k ∧ k < w.heap.size) _ [] rfl HO.out l (some ad) c HR.out rfl (by simp) (by simp; omega) ?_; intro v1 w1 hown1 hg1 hat1 hbel1; have HO1 := Lib.hid (show Own kRec 49 w.heap.size (fun k => ok k ∧ k < w.heap.size) w1 v1 l from hown1); have HB1 := Lib.hid (hbel1 w ((Below.refl _ _).alloc (Nat.le_refl _) _)); clear hown1 hg1 hat1 hbel1)
    go_ret
    exact ⟨v1, rfl, HO1.out, HB1.out⟩

theorem bx_set4 {w : World} {g : Nat} {t : TypeId} {a b c d u0 u1 u2 u3 : Value} (h : Bx w g t [a, b, c, d]) : Bx ((((w.setCell ⟨g, 0, none⟩ u0).setCell ⟨g, 1, none⟩ u1).setCell ⟨g, 2, none⟩ u2).setCell ⟨g, 3, none⟩ u3) g t [u0, u1, u2, u3] := (((h.set 0 u0).set 1 u1).set 2 u2).set 3 u3
set_option maxHeartbeats 2000000 in
theorem ownE_any {w : World} {e : Event} {T F : Option Addr} {ct cf : Nat} (hT : SlS w T ct e.tags) (hF : SlF w F cf e.fields) (hok : OkE e) (hin : EvIn e) :
    Calls Try.prog 48 #[vEvent e T ct F cf] w fun r w' => ∃ (T' F' : Option Addr) (ct' cf' : Nat), r = .returned (vEvent e T' ct' F' cf') ∧ Sl Kn.str (fun k => w.heap.size ≤ k) w' T' ct' e.tags ∧ Sl kField (fun k => w.heap.size ≤ k) w' F' cf' e.fields ∧ Below w.heap.size w w' := by
  obtain ⟨W2, hW2⟩ : ∃ W2, W2 = (w.alloc (.cells #[.string e.stream, .string e.type, .slice T e.tags.length ct, .slice F e.fields.length cf] 25)).alloc (.cells #[.string ⟨#[]⟩, .string ⟨#[]⟩, .slice none 0 0, .slice none 0 0] 25) := ⟨_, rfl⟩
  have HW2 := Lib.hid hW2
  have hb2 : Below w.heap.size w W2 := by rw [hW2]; exact ((Below.refl _ _).alloc (Nat.le_refl _) _).alloc (by simp) _
  have hs2 : W2.heap.size = w.heap.size + 2 := by rw [hW2]; simp
  have x1 : Bx W2 w.heap.size 25 [.string e.stream, .string e.type, .slice T e.tags.length ct, .slice F e.fields.length cf] := by rw [hW2]; exact (Bx.new w _ _).alloc _
  have x2 : Bx W2 (w.heap.size + 1) 25 [.string ⟨#[]⟩, .string ⟨#[]⟩, .slice none 0 0, .slice none 0 0] := by
    rw [hW2]
    simpa using Bx.new (w.alloc (.cells #[.string e.stream, .string e.type, .slice T e.tags.length ct, .slice F e.fields.length cf] 25)) 25 [.string ⟨#[]⟩, .string ⟨#[]⟩, .slice none 0 0, .slice none 0 0]
  have C : Hid (Calls Try.prog 12 #[vEvent e T ct F cf] W2 fun r w' => ∃ (T' F' : Option Addr) (ct' cf' : Nat), r = .returned (.agg #[.string e.stream, .string e.type, .slice T' e.tags.length ct', .slice F' e.fields.length cf']) ∧ Sl Kn.str (fun k => W2.heap.size ≤ k) w' T' ct' e.tags ∧ Sl kField (fun k => W2.heap.size ≤ k) w' F' cf' e.fields ∧ Below W2.heap.size W2 w') := Lib.hid (by
    refine (normE_any (hT.below hb2) (hF.below hb2) hin.tl hin.fl hin.fs).mono ?_
    rintro r w' ⟨vt, vf, M, rfl, h1, h2, h3, _, hb⟩
    rw [uniq_of_rise hok.rt] at h1
    rw [normF_of_rise hok.rf] at h2
    obtain ⟨T', ct', rfl, h4⟩ := h1.sl
    obtain ⟨F', cf', rfl, h5⟩ := h2.sl
    exact ⟨T', F', ct', cf', rfl, h4.mono (fun k hk => hk.elim False.elim id), h5.mono (fun k hk => hk.elim False.elim (fun h => by omega)), hb⟩)
  have k0 := x1.cell 0
  have k1 := x1.cell 1
  have k2 := x1.cell 2
  have k3 := x1.cell 3
  simp only [List.getElem?_cons_succ, List.getElem?_cons_zero] at k0 k1 k2 k3
  have HX2 := Lib.hid x2
  have HB2 := Lib.hid hb2
  have HS2 := Lib.hid hs2
  clear hb2 x1 x2 hs2
  go_enter Try.func48, Try.ntmps48
  go_upto_region 1 with fail
  rw [← HW2.out]
  clear hW2
  go_wp2_with (go_at_call 12; go_fit C.out; rintro r w4 ⟨T', F', ct', cf', rfl, h1, h2, hb4⟩; have H1 := Lib.hid h1; have H2 := Lib.hid h2; have HX4 := Lib.hid (HX2.out.under hb4); have HB4 := Lib.hid (bthen HB2.out hb4); clear h1 h2 hb4; have j0 := HX4.out.cell 0; have j1 := HX4.out.cell 1; have j2 := HX4.out.cell 2; have j3 := HX4.out.cell 3; simp only [List.getElem?_cons_succ, List.getElem?_cons_zero] at j0 j1 j2 j3; have f0 := HX4.out.free 0; have f1 := HX4.out.free 1; have f2 := HX4.out.free 2; have f3 := HX4.out.free 3)
  have HX5 := Lib.hid (bx_set4 (u0 := .string e.stream) (u1 := .string e.type) (u2 := .slice T' e.tags.length ct') (u3 := .slice F' e.fields.length cf') HX4.out)
  have q0 := HX5.out.cell 0
  have q1 := HX5.out.cell 1
  have q2 := HX5.out.cell 2
  have q3 := HX5.out.cell 3
  simp only [List.getElem?_cons_succ, List.getElem?_cons_zero] at q0 q1 q2 q3
  refine bodyPost_ret (v := .agg #[.string e.stream, .string e.type, .slice T' e.tags.length ct', .slice F' e.fields.length cf']) (by simp [results, Try.results48, go_sem, q0, q1, q2, q3]) rfl ⟨T', F', ct', cf', rfl, ?_, ?_, ?_⟩
  · exact ((((H1.out.setCell (fun k hk => by have := HS2.out; simp; omega) _).setCell (fun k hk => by have := HS2.out; simp; omega) _).setCell (fun k hk => by have := HS2.out; simp; omega) _).setCell (fun k hk => by have := HS2.out; simp; omega) _).mono (fun k hk => by have := HS2.out; omega)
  · exact ((((H2.out.setCell (fun k hk => by have := HS2.out; simp; omega) _).setCell (fun k hk => by have := HS2.out; simp; omega) _).setCell (fun k hk => by have := HS2.out; simp; omega) _).setCell (fun k hk => by have := HS2.out; simp; omega) _).mono (fun k hk => by have := HS2.out; omega)
  · exact (((HB4.out.setCell (by simp) _).setCell (by simp) _).setCell (by simp) _).setCell (by simp) _
end Go.Proofs.Ytfoghahidofegaa

namespace Go.Proofs.Ytfoghahidofegaa
open Go.RowKit

section
variable {α : Type} {d : Kn α} {e : TypeId} {base : Nat} {ok : Nat → Prop} {w : World} {v : Value} {xs : List α}
theorem own_slF {A : Option Addr} {n c : Nat} (h : Own d e base ok w (.slice A n c) xs) : Sl d (fun k => ok k ∨ base ≤ k) w A c xs := by
  obtain ⟨A', c', hv, hs⟩ := h.sl
  simp only [Value.slice.injEq] at hv
  obtain ⟨rfl, _, rfl⟩ := hv
  exact hs
/-- Where a row of the call's own lies. -/
theorem Own.where_ (h : Own d e base ok w v xs) : ∃ (A : Option Addr) (c : Nat), v = .slice A xs.length c ∧ xs.length ≤ c ∧ c ≤ maxLen ∧ (0 < xs.length → ∃ g, A = some ⟨g, 0, none⟩ ∧ v.ownBlock = some g ∧ base ≤ g ∧ g < w.heap.size ∧ ∃ cs, Bx w g e cs) := by
  obtain ⟨A, c, hv, hl, hc, _⟩ := h.reads
  obtain ⟨css, h1, _⟩ := h
  obtain ⟨_, h3 | ⟨g, cap, cur, rfl, hg, hh, _⟩⟩ := h1
  · exact ⟨A, c, hv, hl, hc, fun h => by omega⟩
  · injection hv with e1 e2 e3
    subst e1; subst e3
    exact ⟨_, cap, rfl, hl, hc, fun _ => ⟨g, rfl, rfl, hg, (Array.getElem?_eq_some_iff.1 hh).1, cur.toList, by simpa [Bx] using hh⟩⟩
/-- The first k elements bear the sign. -/
def flag (l : List α) (k : Nat) : List (α × Bool) := (l.take k).map (fun x => (x, true)) ++ (l.drop k).map (fun x => (x, false))
theorem flag_len (l : List α) (k : Nat) : (flag l k).length = l.length := by unfold flag; rw [List.length_append, List.length_map, List.length_map, List.length_take, List.length_drop]; omega
theorem flag_fst (l : List α) (k : Nat) : (flag l k).map (·.1) = l := by
  unfold flag
  rw [List.map_append, List.map_map, List.map_map]
  show (l.take k).map id ++ (l.drop k).map id = l
  rw [List.map_id, List.map_id, List.take_append_drop]
theorem flag_zero (l : List α) : flag l 0 = l.map (fun x => (x, false)) := by simp [flag]
theorem flag_all (l : List α) {k : Nat} (h : l.length ≤ k) : flag l k = l.map (fun x => (x, true)) := by simp [flag, List.take_of_length_le h, List.drop_of_length_le h]
theorem flag_at (l : List α) {k : Nat} (h : k < l.length) : (flag l k)[k]? = some (l[k], false) := by
  unfold flag
  rw [List.getElem?_append_right (by simp; omega)]
  simp [Nat.min_eq_left (Nat.le_of_lt h), h]
theorem flag_set (l : List α) {k : Nat} (h : k < l.length) : (flag l k).set k (l[k], true) = flag l (k + 1) := by
  unfold flag
  rw [List.set_append_right _ _ (by simp; omega), List.take_succ_eq_append_getElem h, List.map_append, List.drop_eq_getElem_cons h, List.map_cons, show k - ((l.take k).map (fun x => (x, true))).length = 0 by simp; omega, List.set_cons_zero]
  simp
theorem Row.unwhen {F : Nat → Prop} {A : Option Addr} {ys : List (α × Bool)} (h : Row (d.when F) ok w A ys) : Row d ok w A (ys.map (·.1)) := fun hn => by
  obtain ⟨ad, e1, h1, h2, h3⟩ := h (by simpa using hn)
  refine ⟨ad, e1, h1, h2, fun j x hj => ?_⟩
  rw [List.getElem?_map] at hj
  obtain ⟨y, hy, rfl⟩ := Option.map_eq_some_iff.1 hj
  obtain ⟨cs, h4, h5, h6⟩ := h3 j y hy
  exact ⟨cs, h4, d.mono (fun k hk => hk.1) h5, h6⟩
end
theorem add0' (g k : Nat) : (⟨g, 0, none⟩ : Addr).add k = ⟨g, k, none⟩ := by
  unfold Addr.add
  split
  · rename_i h0; rw [h0]
  · simp

set_option maxHeartbeats 4000000 in
set_option maxRecDepth 8000 in
theorem told_any {ok : Nat → Prop} {w : World} {x : Value} {A : Option Addr} {c : Nat} {l : List Rec} (h : Sl kRec ok w A c l) (hl : l.length ≤ 1000000) (hok : ∀ r ∈ l, OkE r.ev) (hin : ∀ r ∈ l, EvIn r.ev) :
    Calls Try.prog 49 #[x, .slice A l.length c] w fun r w' => ∃ A' c', r = .returned (.slice A' l.length c') ∧ Sl kRec (fun k => w.heap.size ≤ k) w' A' c' l ∧ Below w.heap.size w w' := by
  have C := Lib.hid (cloneRecs_any h hl)
  have HOK := Lib.hid hok
  have HIN := Lib.hid hin
  clear h hok hin
  go_enter Try.func49, Try.ntmps49
  go_wp2_with (go_at_call 67; go_fit C.out; rintro r w2 ⟨v, rfl, hown, hb⟩; have HO := Lib.hid hown; have HB := Lib.hid hb; obtain ⟨A1, c1, hv, hlc, hcm, hw⟩ := hown.where_; subst hv; have HW := Lib.hid hw; clear hown hb hw)
  unfold maxLen at hcm
  go_loopw [11] (fun i wr => ∃ k : Nat, k ≤ l.length ∧ i = .int .i64 k ∧ Own (kRec.when (fun j => w.heap.size ≤ j)) 49 w.heap.size (fun _ => True) wr (.slice A1 l.length c1) (flag l k) ∧ Below w.heap.size w wr ∧ w2.heap.size ≤ wr.heap.size) (fun i _ => l.length - (intOf i).toNat)
  case atStart => exact ⟨0, Nat.zero_le _, rfl, by rw [flag_zero]; exact (HO.out.mono (fun _ _ => trivial)).when_no, HB.out, Nat.le_refl _⟩
  case round =>
    obtain ⟨k, hk, rfl, ho, hb, hsz⟩ := hrel
    by_cases hlt : k < l.length
    · obtain ⟨g, rfl, hg, hbg, hgl, _⟩ := HW.out (by omega)
      obtain ⟨ad, had⟩ : ∃ ad : Addr, ad = ⟨g, 0, none⟩ := ⟨_, rfl⟩
      have hro : Row kRec (fun _ => True) wr (some ⟨g, 0, none⟩) l := by
        have := (own_slF ho).any.2.2.unwhen
        rwa [flag_fst] at this
      obtain ⟨_, _, _, _, _, hgw⟩ := ho.where_
      obtain ⟨g', hg1, hg2, _, hgl2, cs, hbx⟩ := hgw (by rw [flag_len]; omega)
      have hgg : g' = g := by rw [hg2] at hg; exact Option.some.inj hg
      subst hgg
      rw [← had] at hro
      obtain ⟨ad', S, sa, T, ta, e1, c0, c1', c2, c3, c4, c5, hS, hT⟩ := row_rec_at hro hlt
      injection e1 with e1
      subst e1
      have hA : ∀ i, (⟨(ad.add (k * 6)).block, (ad.add (k * 6)).off + i, none⟩ : Addr) = ⟨g', k * 6 + i, none⟩ := fun i => by rw [had, add0']
      have HA := Lib.hid hA
      have HA2 := Lib.hid (fun i => show (⟨(ad.add (k * 6)).block, (ad.add (k * 6)).off + 2 + i, none⟩ : Addr) = ⟨g', k * 6 + 2 + i, none⟩ by rw [had, add0'])
      have HADD := Lib.hid had
      have HOE := Lib.hid (HOK.out _ (List.getElem_mem hlt))
      have HIE := Lib.hid (HIN.out _ (List.getElem_mem hlt))
      have HFS := Lib.hid (flag_set l hlt)
      have HFA := Lib.hid (flag_at l hlt)
      have HO2 := Lib.hid ho
      have HBX := Lib.hid hbx
      have HB2 := Lib.hid hb
      have HG := Lib.hid hg2
      have HGL := Lib.hid hgl2
      clear c0 c1' hbx hg hg1 hg2 hro ho hb hA
      generalize l[k] = r at c2 c3 c4 c5 hS hT HOE HIE HFS HFA
      have C2 := Lib.hid (ownE_any hS.any hT.any HOE.out HIE.out)
      have HCF := Lib.hid (fun (W : World) (hW : Below wr.heap.size wr W) => show W.cell? ⟨(ad.add (k * 6)).block, (ad.add (k * 6)).off + 2, none⟩ = some (.string r.ev.stream) ∧ W.cell? ⟨(ad.add (k * 6)).block, (ad.add (k * 6)).off + 3, none⟩ = some (.string r.ev.type) ∧ W.cell? ⟨(ad.add (k * 6)).block, (ad.add (k * 6)).off + 4, none⟩ = some (.slice S r.ev.tags.length sa) ∧ W.cell? ⟨(ad.add (k * 6)).block, (ad.add (k * 6)).off + 5, none⟩ = some (.slice T r.ev.fields.length ta) ∧
          W.frozen? ⟨(ad.add (k * 6)).block, (ad.add (k * 6)).off + 2, none⟩ = false ∧ W.frozen? ⟨(ad.add (k * 6)).block, (ad.add (k * 6)).off + 3, none⟩ = false ∧ W.frozen? ⟨(ad.add (k * 6)).block, (ad.add (k * 6)).off + 4, none⟩ = false ∧ W.frozen? ⟨(ad.add (k * 6)).block, (ad.add (k * 6)).off + 5, none⟩ = false from by
        rw [HA.out, HA.out, HA.out, HA.out] at *
        have hB := HBX.out.under hW
        exact ⟨(hW.cell (p := ⟨g', k * 6 + 2, none⟩) HGL.out).trans c2, (hW.cell (p := ⟨g', k * 6 + 3, none⟩) HGL.out).trans c3, (hW.cell (p := ⟨g', k * 6 + 4, none⟩) HGL.out).trans c4, (hW.cell (p := ⟨g', k * 6 + 5, none⟩) HGL.out).trans c5, hB.free _, hB.free _, hB.free _, hB.free _⟩)
      have i1 : (0 : Int) ≤ (k : Int) := Int.natCast_nonneg _
      have i2 : (k : Int) < (l.length : Int) := by omega
      clear hS hT
      rw [← had]
      clear had
      go_wp2_with (go_at_call 48; go_fit C2.out; rintro r4 w4 ⟨T', F', ct', cf', rfl, h1, h2, hb4⟩; have H1 := Lib.hid h1; have H2 := Lib.hid h2; have HB4 := Lib.hid hb4; obtain ⟨j2, j3, j4, j5, f2, f3, f4, f5⟩ := HCF.out _ hb4; clear h1 h2 hb4)
      go_roundw
      case rel =>
        refine ⟨k + 1, by omega, by go_num, ?_, ?_, ?_⟩
        · have hsv := (HO2.out.below HB4.out).setEv (r := r) HG.out HFA.out (H1.out.mono (fun j hj => ⟨by have := HB2.out.size; omega, by have := HGL.out; omega⟩)) (H2.out.mono (fun j hj => ⟨by have := HB2.out.size; omega, by have := HGL.out; omega⟩))
          rw [HFS.out] at hsv
          rw [HA.out, HA2.out, HA2.out, HA2.out, HADD.out]
          exact hsv
        · rw [HA.out, HA2.out, HA2.out, HA2.out]
          exact ((((bthen HB2.out HB4.out).setCell (by exact hbg) _).setCell (by exact hbg) _).setCell (by exact hbg) _).setCell (by exact hbg) _
        · have := HB4.out.size
          simp [World.setCell]
          omega
      case measure => simp [intOf]; omega
    · obtain rfl : k = l.length := by omega
      rw [flag_all l (Nat.le_refl _)] at ho
      have hs := own_slF ho.when_yes
      have HS := Lib.hid hs
      have HB3 := Lib.hid hb
      clear hs ho hb
      go_wp2_with fail
      go_ret
      exact ⟨A1, c1, rfl, HS.out.mono (fun j hj => hj.elim (·.2) id), HB3.out⟩
end Go.Proofs.Ytfoghahidofegaa

namespace Go.Proofs.Ytfoghahidofegaa
open Go.RowKit Go.Maps

theorem mayN_size {s : ByteArray} (h : mayN s = true) : s.size ≤ maxLen := by
  unfold maxLen
  simp only [mayN, Bool.and_eq_true, decide_eq_true_eq] at h
  omega
theorem OkE.inn {e : Event} (h : OkE e) (ht : ∀ s ∈ e.tags, s.size ≤ maxLen) : EvIn e :=
  ⟨mayN_size h.st, mayN_size h.ty, ht, fun x hx => mayN_size (h.fs x.1 (List.mem_map.2 ⟨x, hx, rfl⟩)), by have := h.nt; omega, by have := h.nf; omega⟩
theorem own_far {α : Type} {d : Kn α} {e : TypeId} {base : Nat} {ok : Nat → Prop} {w : World} {v : Value} {xs : List α} (h : Own d e base ok w v xs) : ∀ i, i < base → some i ≠ v.ownBlock := fun i hi e => by have := h.base_le i e.symm; omega
section
variable {w : World} {B : Six} {es : List Event} {X : Nat → Prop}
theorem Ix.recOk (h : Ix w B es X) : ∀ r ∈ recsOf es, OkE r.ev := fun r hr => h.ok _ (recsOf_mem hr).2.2.2
theorem Ix.recIn (h : Ix w B es X) : ∀ r ∈ recsOf es, EvIn r.ev := fun r hr => h.inn _ (recsOf_mem hr).2.2.2

theorem iLast (h : Ix w B es X) : Calls Try.prog 17 #[.pointer (some ⟨B.b, 0, none⟩)] w fun r w' => r = .returned (.int .i64 es.length) ∧ w = w' := by
  obtain ⟨A, c, hx, _⟩ := h.rs
  have x0 := hx.cell 0
  simp only [List.getElem?_cons_zero] at x0
  clear h hx
  go_enter Try.func17, Try.ntmps17
  go_wp2_with fail
  go_ret
  exact ⟨rfl, rfl⟩
theorem iVersion (h : Ix w B es X) {s : ByteArray} (hs : s.size ≤ maxLen) (x : Int) : Calls Try.prog 42 #[.pointer (some ⟨B.b, 0, none⟩), .string s, .int .i64 x] w fun r w' => r = .returned (.int .i64 (verR es s x)) ∧ w = w' := by
  obtain ⟨A, c, hx, _⟩ := h.rs
  obtain ⟨N, D, hN, ht⟩ := h.tb
  have x1 := hx.cell 1
  simp only [List.getElem?_cons_succ, List.getElem?_cons_zero] at x1
  have hln := h.len
  have C := Lib.hid (Version_any ht (by omega) hs x)
  rw [upTo_posS] at C
  clear h hx ht
  go_enter Try.func42, Try.ntmps42
  go_wp2_with (go_at_call 65; go_fit C.out; rintro r w1 ⟨rfl, rfl⟩)
  go_ret
  exact ⟨rfl, rfl⟩

set_option maxHeartbeats 4000000 in
set_option maxRecDepth 8000 in
theorem at_any (h : Ix w B es X) {f : Rec → Bool} {n : Nat} (hn : n = ((recsOf es).filter f).length) {P : Option Addr} {cp : Nat} (hp : SlI w P cp (((recsOf es).filter f).map (·.pos))) :
    Calls Try.prog 51 #[.pointer (some ⟨B.b, 0, none⟩), .slice P n cp] w fun r w' => ∃ A' c', r = .returned (.slice A' n c') ∧ Sl kRec (fun k => w.heap.size ≤ k) w' A' c' ((recsOf es).filter f) ∧ Below w.heap.size w w' := by
  obtain ⟨A, c, hx, hrs, _⟩ := h.rs
  have hln := h.len
  have hnl : n ≤ es.length := by rw [hn]; have := List.length_filter_le f (recsOf es); rw [recsOf_len] at this; exact this
  have HOK := Lib.hid (fun r (hr : r ∈ (recsOf es).filter f) => h.recOk r (List.mem_filter.1 hr).1)
  have HIN := Lib.hid (fun r (hr : r ∈ (recsOf es).filter f) => h.recIn r (List.mem_filter.1 hr).1)
  have HAT := Lib.hid (fun k p (hk : (((recsOf es).filter f).map (·.pos))[k]? = some p) => recs_at (es := es) (f := f) hk)
  have HRS := Lib.hid (hrs.bound)
  have hrl := recsOf_len es
  have HRL := Lib.hid hrl
  have HX := Lib.hid hx
  have HP := Lib.hid hp
  have hpl : (((recsOf es).filter f).map (·.pos)).length = n := by rw [List.length_map]; exact hn.symm
  have HPL := Lib.hid hpl
  generalize (recsOf es).filter f = rs at *
  have HN := Lib.hid hn
  have hcp := hp.2.1
  unfold maxLen at hcp
  have hcp0 : n ≤ cp := by have := hp.1; omega
  clear h hx hp hrs hrl hn hpl
  go_enter Try.func51, Try.ntmps51
  go_wp2_with fail
  go_loopw [5, 10] (fun v i wr => ∃ k : Nat, k ≤ n ∧ i = .int .i64 k ∧ Own kRec 49 w.heap.size (fun j => j < w.heap.size) wr v (rs.take k) ∧ Below w.heap.size w wr) (fun _ i _ => n - (intOf i).toNat)
  case atStart => exact ⟨0, Nat.zero_le _, rfl, Own.nil_ _ _ _ _ _, Below.refl _ _⟩
  case round =>
    obtain ⟨k, hk, rfl, ho, hb⟩ := hrel
    by_cases hlt : k < n
    · have hkl : k < rs.length := by rw [← HN.out]; exact hlt
      have hkp : k < (rs.map (·.pos)).length := by rw [List.length_map]; exact hkl
      obtain ⟨ad, rfl, hy⟩ := row_int_at (HP.out.below hb).2.2 hkp
      obtain ⟨p1, p2, p3⟩ := HAT.out k _ (List.getElem?_eq_getElem hkp)
      have hpe : (rs.map (·.pos))[k] = rs[k].pos := by simp
      rw [hpe] at hy p1 p2 p3
      obtain ⟨j, hj⟩ : ∃ j : Nat, rs[k].pos = (j : Int) + 1 := ⟨(rs[k].pos - 1).toNat, by omega⟩
      rw [hj] at hy p2 p3
      rw [show ((j : Int) + 1 - 1).toNat = j by omega, List.getElem?_eq_getElem hkl] at p3
      obtain ⟨hjl, hje⟩ := List.getElem?_eq_some_iff.1 p3
      have hj2 : j < es.length := by rw [HRL.out] at hjl; exact hjl
      obtain ⟨rd, S, sa, T, ta, rfl, c0, c1, c2, c3, c4, c5, hS, hT⟩ := row_rec_at HRS.out.2.2 hjl
      rw [hje] at c0 c1 c2 c3 c4 c5 hS hT
      have HTK := Lib.hid (show rs.take (k + 1) = rs.take k ++ [rs[k]] from List.take_succ_eq_append_getElem hkl)
      have HTL := Lib.hid (show (rs.take k).length = k by rw [List.length_take]; omega)
      have hrd := HRS.out
      have x0 := (HX.out.under hb).cell 0
      simp only [List.getElem?_cons_zero] at x0
      have hbr : (rd.add (j * 6)).block < w.heap.size := World.block_lt_of_cell? w _ c0
      have mv : ∀ o u, w.cell? ⟨(rd.add (j * 6)).block, o, none⟩ = some u → wr.cell? ⟨(rd.add (j * 6)).block, o, none⟩ = some u := fun o u hu => (hb.cell (p := ⟨(rd.add (j * 6)).block, o, none⟩) hbr).trans hu
      have d0 : wr.cell? (rd.add (j * 6)) = some (.int .i64 rs[k].pos) := (hb.cell (p := rd.add (j * 6)) hbr).trans c0
      have d1 := mv _ _ c1
      have d2 := mv _ _ c2
      have d3 := mv _ _ c3
      have d4 := mv _ _ c4
      have d5 := mv _ _ c5
      have HS := Lib.hid (hS.below hb)
      have HT := Lib.hid (hT.below hb)
      have HO := Lib.hid ho
      have HB := Lib.hid hb
      clear c0 c1 c2 c3 c4 c5 hS hT ho hb mv hrd hje p3 hpe hbr hkp hj
      generalize rs[k] = r at d0 d1 d2 d3 d4 d5 HS HT HTK p1
      have e1 : (0 : Int) ≤ (k : Int) := Int.natCast_nonneg _
      have e2 : (k : Int) < (n : Int) := by omega
      have e3 : IntKind.i64.wrap ((j : Int) + 1 - 1) = (j : Int) := by rw [IntWalk.i64_in _ (by omega)]; omega
      have e4 : (0 : Int) ≤ (j : Int) := Int.natCast_nonneg _
      have e5 : (j : Int) < (es.length : Int) := by omega
      have hbs := HB.out.size
      clear p1 p2 hjl hj2 hkl
      go_wp2_with (at_builtin; refine wpList_pushH (W := wr) rfl _ _ _ rfl 49 _ 6 96 Try.underlying40 infoRec rfl (by decide) (by decide) rfl w.heap.size (fun i => i < w.heap.size) u5 _ rfl HO.out r [.int .i64 r.pos, .int .i64 r.ver, .string r.ev.stream, .string r.ev.type, .slice S r.ev.tags.length sa, .slice T r.ev.fields.length ta] (kRec_mk (HS.out.mono (fun i hi => ⟨hi.2, own_far HO.out i hi.2⟩)) (HT.out.mono (fun i hi => ⟨hi.2, own_far HO.out i hi.2⟩))) wr.heap.size rfl rfl hbs (by rw [HTL.out]; omega) ?_; intro v1 w5 hown1 hg1 hat1 hbel1; have HO5 := Lib.hid hown1; have HB5 := Lib.hid (hbel1 w HB.out); clear hown1 hg1 hat1 hbel1)
      go_roundw
      case rel => exact ⟨k + 1, by omega, by go_num, by rw [HTK.out]; exact HO5.out, HB5.out⟩
      case measure => simp [intOf]; omega
    · obtain rfl : k = n := by omega
      rw [List.take_of_length_le (by rw [← HN.out]; exact Nat.le_refl _)] at ho
      obtain ⟨A1, c1, rfl, hs⟩ := ho.sl
      have C := Lib.hid (told_any (x := .pointer (some ⟨B.b, 0, none⟩)) hs (by rw [← HN.out]; omega) HOK.out HIN.out)
      rw [← HN.out] at C ⊢
      have HB := Lib.hid hb
      clear ho hs hb
      go_wp2_with (go_at_call 49; go_fit C.out; rintro r w2 ⟨A2, c2, rfl, h2, hb2⟩; have H2 := Lib.hid h2; have HB2 := Lib.hid hb2; clear h2 hb2)
      go_ret
      exact ⟨A2, c2, rfl, H2.out.mono (fun i hi => by have := HB.out.size; omega), bthen HB.out HB2.out⟩
end
end Go.Proofs.Ytfoghahidofegaa

namespace Go.Proofs.Ytfoghahidofegaa
open Go.RowKit Go.Maps

/-- Records that are the caller's own. -/
def RetRecs (n : Nat) (rs : List Rec) (w : World) (r : Ending) (w' : World) : Prop := ∃ A' c', r = .returned (.slice A' n c') ∧ Sl kRec (fun k => w.heap.size ≤ k) w' A' c' rs ∧ Below w.heap.size w w'
section
variable {w : World} {B : Six} {es : List Event} {X : Nat → Prop}
set_option maxHeartbeats 2000000 in
theorem iAll (h : Ix w B es X) (x : Int) : Calls Try.prog 20 #[.pointer (some ⟨B.b, 0, none⟩), .int .i64 x] w (RetRecs (allR es x).length (allR es x) w) := by
  obtain ⟨A, c, hx, hrs, _⟩ := h.rs
  have hln := h.len
  obtain ⟨m, hm⟩ : ∃ m : Nat, (m : Int) = min (max x 0) (es.length : Int) := ⟨(min (max x 0) (es.length : Int)).toNat, by omega⟩
  have hal : allR es x = (recsOf es).take m := by rw [allR_clip, ← hm]; rfl
  have hml : m ≤ es.length := by omega
  have hlen : (allR es x).length = m := by rw [hal, List.length_take, recsOf_len]; omega
  have C : Hid (∀ W, Below w.heap.size w W ∧ W.cell? ⟨B.b, 0, none⟩ = some (.slice A es.length c) → Calls Try.prog 49 #[.pointer (some ⟨B.b, 0, none⟩), .slice A m c] W fun r w' => (∃ A' c', r = .returned (.slice A' m c') ∧ Sl kRec (fun k => W.heap.size ≤ k) w' A' c' (allR es x)) ∧ Below W.heap.size W w') := Lib.hid (fun W hW => by
    have := told_any (x := .pointer (some ⟨B.b, 0, none⟩)) ((hrs.below hW.1).take m) (by rw [← hal, hlen]; omega) (fun r hr => h.recOk r (List.mem_of_mem_take hr)) (fun r hr => h.recIn r (List.mem_of_mem_take hr))
    rw [← hal, hlen] at this
    exact this.mono fun r w' ⟨A', c', h1, h2, h3⟩ => ⟨⟨A', c', h1, h2⟩, h3⟩)
  rw [hlen]
  have HX := Lib.hid hx
  have HK : Hid (∀ W, Below w.heap.size w W → Below w.heap.size w W ∧ W.cell? ⟨B.b, 0, none⟩ = some (.slice A es.length c)) := Lib.hid (fun W hW => ⟨hW, (HX.out.under hW).cell 0⟩)
  have hc1 := hrs.1
  rw [recsOf_len] at hc1
  have hc2 := hrs.2.1
  unfold maxLen at hc2
  have b0 : (0 : Int) ≤ (m : Int) := Int.natCast_nonneg _
  have b1 : (m : Int) ≤ (c : Int) := by omega
  have b2 : m ≤ c := by omega
  have hm2 : min (max x 0) (es.length : Int) = (m : Int) := hm.symm
  clear h hx hrs hal hlen hm
  go_enter Try.func20, Try.ntmps20
  go_wp2_with fail
  go_region_held3 (fun W => Below w.heap.size w W ∧ W.cell? ⟨B.b, 0, none⟩ = some (.slice A es.length c)) (first | exact HK.out _ (below_drawn (Below.refl _ _)) | (assumption) | exact HK.out _ (bthen (And.left (by assumption : Below w.heap.size w _ ∧ _)) (by assumption))) (first | (go_at_call 49; go_fit (C.out _ (by assumption)); rintro r w' ⟨⟨A', c', rfl, hsl'⟩, hb⟩; have HSL := Lib.hid hsl'; clear hsl'))
  all_goals go_wp2
  all_goals go_ret
  all_goals exact ⟨A', c', rfl, HSL.out.mono (fun k hk => hk), And.left (by assumption : Below w.heap.size w w' ∧ _)⟩
theorem iStream (h : Ix w B es X) {s : ByteArray} (hs : s.size ≤ maxLen) (x : Int) : Calls Try.prog 23 #[.pointer (some ⟨B.b, 0, none⟩), .string s, .int .i64 x] w (RetRecs (strmR es s x).length (strmR es s x) w) := by
  obtain ⟨A, c, hx, _⟩ := h.rs
  obtain ⟨N, D, hN, ht⟩ := h.tb
  have x1 := hx.cell 1
  simp only [List.getElem?_cons_succ, List.getElem?_cons_zero] at x1
  have hln := h.len
  have C := Lib.hid (Positions_any ht (by omega) hs x)
  rw [strm_pos, List.length_map] at C
  have H := Lib.hid h
  clear h hx ht
  go_enter Try.func23, Try.ntmps23
  go_wp2_with (first
    | (go_at_call 52; go_fit C.out; rintro r w1 ⟨P, cp, rfl, h1, hb1⟩; have H1 := Lib.hid h1.any; have HB1 := Lib.hid hb1; have C2 := Lib.hid (at_any (H.out.below hb1) (f := fun r => decide (r.ev.stream = s) && decide (r.pos ≤ x)) (n := (strmR es s x).length) rfl h1.any); clear h1 hb1)
    | (go_at_call 51; go_fit C2.out; rintro r w2 ⟨A2, c2, rfl, h2, hb2⟩; have H2 := Lib.hid h2; have HB2 := Lib.hid hb2; clear h2 hb2))
  go_ret
  exact ⟨A2, c2, rfl, H2.out.mono (fun i hi => by have := HB1.out.size; omega), bthen HB1.out HB2.out⟩
set_option maxHeartbeats 2000000 in
theorem iQuery (h : Ix w B es X) {q : List Clause} {Q : Option Addr} {cq : Nat} (hq : SlC w Q cq q) (hg : ∀ c ∈ q, goodClause c) (x : Int) : Calls Try.prog 24 #[.pointer (some ⟨B.b, 0, none⟩), .agg #[.slice Q q.length cq], .int .i64 x] w (RetRecs (qryR es q x).length (qryR es q x) w) := by
  obtain ⟨W1, hW1⟩ : ∃ W1, W1 = w.alloc (.cells #[.slice Q q.length cq] 56) := ⟨_, rfl⟩
  have HW1 := Lib.hid hW1
  have hb0 : Below w.heap.size w W1 := by rw [hW1]; exact (Below.refl _ _).alloc (Nat.le_refl _) _
  have hxq : Bx W1 w.heap.size 56 [.slice Q q.length cq] := by rw [hW1]; exact Bx.new w _ _
  have h1 := h.below hb0
  have hq1 := hq.below hb0
  obtain ⟨A, c, hx, _⟩ := h1.rs
  have C1 : Hid (∀ W, Below W1.heap.size W1 W ∧ W.cell? ⟨B.b, 2, none⟩ = some (.pointer (some ⟨B.p, 0, none⟩)) ∧ W.cell? ⟨w.heap.size, 0, none⟩ = some (.slice Q q.length cq) → Calls Try.prog 53 #[.pointer (some ⟨B.p, 0, none⟩), .agg #[.slice Q q.length cq], .int .i64 x] W fun r w' => (∃ P cp, r = .returned (.slice P (qryR es q x).length cp) ∧ SlI w' P cp ((qryR es q x).map (·.pos))) ∧ Below W.heap.size W w') := Lib.hid (fun W hW => by
    have := c3Find (h1.below hW.1).ps (hq1.below hW.1) hg x
    rw [find_pos] at this
    exact this.mono fun r w' ⟨A', c', h1, h2, h3⟩ => ⟨⟨A', c', by rw [h1, List.length_map], h2.any⟩, h3⟩)
  have C2 : Hid (∀ W P cp, Below W1.heap.size W1 W ∧ W.cell? ⟨B.b, 2, none⟩ = some (.pointer (some ⟨B.p, 0, none⟩)) ∧ W.cell? ⟨w.heap.size, 0, none⟩ = some (.slice Q q.length cq) → SlI W P cp ((qryR es q x).map (·.pos)) → Calls Try.prog 51 #[.pointer (some ⟨B.b, 0, none⟩), .slice P (qryR es q x).length cp] W fun r w' => (∃ A' c', r = .returned (.slice A' (qryR es q x).length c') ∧ Sl kRec (fun k => W.heap.size ≤ k) w' A' c' (qryR es q x)) ∧ Below W.heap.size W w') := Lib.hid (fun W P cp hW hP => by
    exact (at_any (h1.below hW.1) (f := fun r => matchM q r.ev && decide (r.pos ≤ x)) (n := (qryR es q x).length) rfl hP).mono fun r w' ⟨A', c', h1, h2, h3⟩ => ⟨⟨A', c', h1, h2⟩, h3⟩)
  have HX := Lib.hid hx
  have HXQ := Lib.hid hxq
  have HB0 := Lib.hid hb0
  have HK : Hid (∀ W, Below W1.heap.size W1 W → Below W1.heap.size W1 W ∧ W.cell? ⟨B.b, 2, none⟩ = some (.pointer (some ⟨B.p, 0, none⟩)) ∧ W.cell? ⟨w.heap.size, 0, none⟩ = some (.slice Q q.length cq)) := Lib.hid (fun W hW => ⟨hW, (HX.out.under hW).cell 2, (HXQ.out.under hW).cell 0⟩)
  clear h h1 hq hq1 hx hxq hb0 hg
  go_enter Try.func24, Try.ntmps24
  go_upto_region 1 with fail
  rw [← HW1.out]
  clear hW1
  go_region_held3 (fun W => Below W1.heap.size W1 W ∧ W.cell? ⟨B.b, 2, none⟩ = some (.pointer (some ⟨B.p, 0, none⟩)) ∧ W.cell? ⟨w.heap.size, 0, none⟩ = some (.slice Q q.length cq)) (first | exact HK.out _ (below_drawn (Below.refl _ _)) | (assumption) | exact HK.out _ (bthen (And.left (by assumption : Below W1.heap.size W1 _ ∧ _)) (by assumption)))
    (first
      | (go_at_call 51; go_fit (C2.out _ _ _ (by assumption) HP2.out); rintro r w3 ⟨⟨A', c', rfl, hsl'⟩, hb⟩; have HSL := Lib.hid hsl'; have HB3 := Lib.hid hb; clear hsl')
      | (go_at_call 53; go_fit (C1.out _ (by assumption)); rintro r w2 ⟨⟨P, cp, rfl, hsl'⟩, hb⟩; have HP2 := Lib.hid hsl'; have HB2 := Lib.hid hb; clear hsl'))
  all_goals go_wp2
  all_goals go_ret
  all_goals
    have hfin : Below W1.heap.size W1 w3 := And.left (by assumption : Below W1.heap.size W1 w3 ∧ _)
    exact ⟨A', c', rfl, HSL.out.mono (fun k hk => by have := HB0.out.size; have := HB2.out.size; have h5 : W1.drew.heap.size = W1.heap.size := rfl; omega), bthen HB0.out hfin⟩
end
end Go.Proofs.Ytfoghahidofegaa

namespace Go.Proofs.Ytfoghahidofegaa
open Go.RowKit Go.Maps

section
variable {w : World} {B : Six} {es : List Event} {X : Nat → Prop}
set_option maxHeartbeats 2000000 in
theorem iSince (h : Ix w B es X) {q : List Clause} {Q : Option Addr} {cq : Nat} (hq : SlC w Q cq q) (hg : ∀ c ∈ q, goodClause c) (a : Int) : Calls Try.prog 26 #[.pointer (some ⟨B.b, 0, none⟩), .agg #[.slice Q q.length cq], .int .i64 a] w fun r w' => r = .returned (.bool (sinceR es q a)) ∧ Below w.heap.size w w' := by
  obtain ⟨W1, hW1⟩ : ∃ W1, W1 = w.alloc (.cells #[.slice Q q.length cq] 56) := ⟨_, rfl⟩
  have HW1 := Lib.hid hW1
  have hb0 : Below w.heap.size w W1 := by rw [hW1]; exact (Below.refl _ _).alloc (Nat.le_refl _) _
  have hxq : Bx W1 w.heap.size 56 [.slice Q q.length cq] := by rw [hW1]; exact Bx.new w _ _
  have h1 := h.below hb0
  have hq1 := hq.below hb0
  obtain ⟨A, c, hx, _⟩ := h1.rs
  have hqln := qryR_len es q es.length
  have hln := h.len
  have HSL0 := Lib.hid (since_last es q a)
  obtain ⟨rs, hrs⟩ : ∃ rs, rs = qryR es q es.length := ⟨_, rfl⟩
  rw [← hrs] at HSL0 hqln
  have C1 : Hid (∀ W, Below W1.heap.size W1 W ∧ W.cell? ⟨B.b, 2, none⟩ = some (.pointer (some ⟨B.p, 0, none⟩)) ∧ W.cell? ⟨w.heap.size, 0, none⟩ = some (.slice Q q.length cq) → Calls Try.prog 53 #[.pointer (some ⟨B.p, 0, none⟩), .agg #[.slice Q q.length cq], .int .i64 es.length] W fun r w' => (∃ P cp, r = .returned (.slice P rs.length cp) ∧ SlI w' P cp (rs.map (·.pos))) ∧ Below W.heap.size W w') := Lib.hid (fun W hW => by
    have := c3Find (h1.below hW.1).ps (hq1.below hW.1) hg es.length
    rw [find_pos, ← hrs] at this
    exact this.mono fun r w' ⟨A', c', h1, h2, h3⟩ => ⟨⟨A', c', by rw [h1, List.length_map], h2.any⟩, h3⟩)
  have C2 : Hid (∀ W, Below W1.heap.size W1 W ∧ W.cell? ⟨B.b, 2, none⟩ = some (.pointer (some ⟨B.p, 0, none⟩)) ∧ W.cell? ⟨w.heap.size, 0, none⟩ = some (.slice Q q.length cq) → Calls Try.prog 17 #[.pointer (some ⟨B.b, 0, none⟩)] W fun r w' => r = .returned (.int .i64 es.length) ∧ W = w') := Lib.hid (fun W hW => iLast (h1.below hW.1))
  have HX := Lib.hid hx
  have HXQ := Lib.hid hxq
  have HB0 := Lib.hid hb0
  have HK : Hid (∀ W, Below W1.heap.size W1 W → Below W1.heap.size W1 W ∧ W.cell? ⟨B.b, 2, none⟩ = some (.pointer (some ⟨B.p, 0, none⟩)) ∧ W.cell? ⟨w.heap.size, 0, none⟩ = some (.slice Q q.length cq)) := Lib.hid (fun W hW => ⟨hW, (HX.out.under hW).cell 2, (HXQ.out.under hW).cell 0⟩)
  generalize sinceR es q a = b at HSL0 ⊢
  clear h h1 hq hq1 hx hxq hb0 hg hrs
  go_enter Try.func26, Try.ntmps26
  go_upto_region 1 with fail
  rw [← HW1.out]
  clear hW1
  go_cut [7] (fun v wx => ∃ P cp, v = .slice P rs.length cp ∧ SlI wx P cp (rs.map (·.pos)) ∧ Below W1.heap.size W1 wx)
  case first =>
    go_region_held3 (fun W => Below W1.heap.size W1 W ∧ W.cell? ⟨B.b, 2, none⟩ = some (.pointer (some ⟨B.p, 0, none⟩)) ∧ W.cell? ⟨w.heap.size, 0, none⟩ = some (.slice Q q.length cq)) (first | exact HK.out _ (below_drawn (Below.refl _ _)) | (assumption) | exact HK.out _ (bthen (And.left (by assumption : Below W1.heap.size W1 _ ∧ _)) (by assumption)))
      (first
        | (go_at_call 17; go_fit (C2.out _ (by assumption)); rintro r w4 ⟨rfl, rfl⟩)
        | (go_at_call 53; go_fit (C1.out _ (by assumption)); rintro r w2 ⟨⟨P, cp, rfl, hsl'⟩, hb⟩; have HP2 := Lib.hid hsl'; have HB2 := Lib.hid hb; clear hsl'))
    all_goals go_wp2_with fail
    all_goals go_meet
    all_goals exact ⟨P, cp, rfl, HP2.out, And.left (by assumption : Below W1.heap.size W1 w2 ∧ _)⟩
  case rest =>
    obtain ⟨P, cp, rfl, hp, hbx⟩ := hcut
    have HBX := Lib.hid (bthen HB0.out hbx)
    clear hbx C1 C2 HK
    by_cases hn : rs.length = 0
    · have hd : decide (0 < rs.length) = false := by simp [hn]
      have HN := Lib.hid hn
      clear hn
      go_wp2_with fail
      go_ret
      refine ⟨ret_bool ?_, HBX.out⟩
      rw [HSL0.out, List.eq_nil_of_length_eq_zero HN.out]; rfl
    · obtain ⟨j, hj⟩ : ∃ j, rs.length = j + 1 := ⟨rs.length - 1, by omega⟩
      have hjl : j < rs.length := by omega
      have hjp : j < (rs.map (·.pos)).length := by rw [List.length_map]; exact hjl
      obtain ⟨ad, rfl, hy⟩ := row_int_at hp.2.2 hjp
      rw [show (rs.map (·.pos))[j] = rs[j].pos by simp] at hy
      have HL := Lib.hid (show rs.getLast? = some rs[j] by rw [List.getLast?_eq_getElem?, show rs.length - 1 = j by omega, List.getElem?_eq_getElem hjl])
      generalize rs[j] = r at hy HL
      have hd : decide (0 < rs.length) = true := decide_eq_true (by omega)
      have ew : IntKind.i64.wrap ((rs.length : Int) - 1) = (j : Int) := by rw [IntWalk.i64_in _ (by omega)]; omega
      have e1 : (0 : Int) ≤ (j : Int) := Int.natCast_nonneg _
      have e2 : (j : Int) < (rs.length : Int) := by omega
      have HB := Lib.hid (show b = decide (a < r.pos) by rw [HSL0.out, HL.out])
      have HJ := Lib.hid hj
      clear hn hj hjp
      go_wp2_with fail
      go_ret
      exact ⟨ret_bool HB.out.symm, HBX.out⟩
end

theorem new_lt {X : Nat → Prop} {a b c d : Nat} (hX : ∀ k, X k → k < a) (h : a ≤ b) (hc : c < b) (hd : d < b) : ∀ k, (X k ∨ k = c ∨ k = d) → k < b := fun k hk => hk.elim (fun h1 => by have := hX k h1; omega) (fun h1 => h1.elim (fun h1 => by omega) (fun h1 => by omega))
set_option maxHeartbeats 2000000 in
theorem iNew (w : World) (X : Nat → Prop) (hX : ∀ k, X k → k < w.heap.size) : Calls Try.prog 15 #[] w fun r w' => ∃ B : Six, r = .returned (.pointer (some ⟨B.b, 0, none⟩)) ∧ Ix w' B [] X ∧ Below w.heap.size w w' ∧ ∀ k, B.has k → w.heap.size ≤ k := by
  have C1 := Lib.hid (New_any w)
  go_enter Try.func15, Try.ntmps15
  go_wp2_with (first
    | (go_at_call 44; go_fit C2.out; rintro r w2 ⟨p, mt, my, rfl, h2, hb2, hp2, ht2, hy2⟩; have H2 := Lib.hid h2; have HB2 := Lib.hid hb2; have HP2 := Lib.hid (And.intro hp2 (And.intro ht2 hy2)); clear h2 hb2 hp2 ht2 hy2)
    | (go_at_call 43; go_fit C1.out; rintro r w1 ⟨bt, m, D, rfl, h1, hb1, hbt, hm⟩; have H1 := Lib.hid h1; have HB1 := Lib.hid hb1; have HP1 := Lib.hid (And.intro hbt hm); have C2 := Lib.hid (c3New w1 (fun k => X k ∨ k = bt ∨ k = m) (new_lt hX hb1.size h1.bx.lt h1.mp.om.lt)); clear h1 hb1 hbt hm))
  go_ret
  have hA : Below w2.heap.size w2 (w2.alloc (.cells #[.slice none 0 0, .pointer (some ⟨bt, 0, none⟩), .pointer (some ⟨p, 0, none⟩)] 88)) := (Below.refl _ _).alloc (Nat.le_refl _) _
  have s1 := HB1.out.size
  have s2 := HB2.out.size
  obtain ⟨p1, p2⟩ := HP1.out
  obtain ⟨p3, p4, p5⟩ := HP2.out
  obtain ⟨l1, l2, l3, l4, l5, l6⟩ := H2.out.lt
  have l7 := H1.out.bx.lt
  have l8 := H1.out.mp.om.lt
  have hz : (w2.alloc (.cells #[.slice none 0 0, .pointer (some ⟨bt, 0, none⟩), .pointer (some ⟨p, 0, none⟩)] 88)).heap.size = w2.heap.size + 1 := by simp
  refine ⟨⟨w2.heap.size, bt, m, p, mt, my⟩, rfl, ⟨⟨none, 0, Bx.new w2 _ [.slice none 0 0, .pointer (some ⟨bt, 0, none⟩), .pointer (some ⟨p, 0, none⟩)], Sl.nil_, fun _ => rfl⟩, ⟨0, D, Nat.le_refl _, ?_⟩, ?_, (fun e he => by cases he), (fun e he => by cases he), Nat.zero_le _, fun hx => by have h9 : w2.heap.size < w.heap.size := hX _ hx; omega⟩, (bthen HB1.out HB2.out).alloc (by omega) _, ?_⟩
  · refine ((H1.out.below HB2.out).below hA).empty (fun hx => ?_) (fun hx => ?_) (fun k hk => ?_)
    · rcases hx with hx | hx | hx | hx | hx
      · have := hX _ hx; omega
      · have : bt = w2.heap.size := hx; omega
      · have : bt = p := hx; omega
      · have : bt = mt := hx; omega
      · have : bt = my := hx; omega
    · rcases hx with hx | hx | hx | hx | hx
      · have := hX _ hx; omega
      · have : m = w2.heap.size := hx; omega
      · have : m = p := hx; omega
      · have : m = mt := hx; omega
      · have : m = my := hx; omega
    · rw [hz]
      rcases hk with hx | hx | hx | hx | hx
      · have := hX _ hx; omega
      · have : k = w2.heap.size := hx; omega
      · have : k = p := hx; omega
      · have : k = mt := hx; omega
      · have : k = my := hx; omega
  · refine H2.out.move (But.of_below hA) (fun k hk => ?_)
    rcases hk with hk | hk | hk | hk
    · exact .inl (.inl hk)
    · have : k = w2.heap.size := hk; exact .inr ⟨by omega, by omega⟩
    · exact .inl (.inr (.inl hk))
    · exact .inl (.inr (.inr hk))
  · rintro k (hk | hk | hk | hk | hk | hk)
    · have : k = w2.heap.size := hk; omega
    · have : k = bt := hk; omega
    · have : k = m := hk; omega
    · have : k = p := hk; omega
    · have : k = mt := hk; omega
    · have : k = my := hk; omega
end Go.Proofs.Ytfoghahidofegaa

namespace Go.Proofs.Ytfoghahidofegaa
open Go.RowKit

/-- A row of the call's own in the block g, or another's row with no room behind it. -/
def NxR {α : Type} (d : Kn α) (e : TypeId) (base : Nat) (ok : Nat → Prop) (w : World) (v : Value) (xs : List α) (g : Option Nat) : Prop :=
  (Own d e base ok w v xs ∧ v.ownBlock = g) ∨ (g = none ∧ ∃ A, v = .slice A xs.length xs.length ∧ Sl d ok w A xs.length xs ∧ (xs = [] → A = none))
section
variable {α : Type} {d : Kn α} {e : TypeId} {base : Nat} {ok : Nat → Prop} {w w' : World} {v : Value} {xs : List α} {g : Option Nat}
theorem NxR.stay (h : NxR d e base ok w v xs g) (hs : w.heap.size ≤ w'.heap.size) (hm : ∀ k, (ok k ∨ g = some k) → k < w.heap.size → w'.heap[k]? = w.heap[k]?) : NxR d e base ok w' v xs g := by
  rcases h with ⟨h, rfl⟩ | ⟨rfl, A, h1, h2, h3⟩
  · exact .inl ⟨h.stay hs hm, rfl⟩
  · exact .inr ⟨rfl, A, h1, h2.stay hs (fun k hk hl => hm k (.inl hk) hl), h3⟩
theorem NxR.below (h : NxR d e base ok w v xs g) (hb : Below w.heap.size w w') : NxR d e base ok w' v xs g := h.stay hb.size (fun k _ hk => hb.block k hk)
theorem NxR.slice (h : NxR d e base ok w v xs g) : ∃ A c, v = .slice A xs.length c ∧ Sl d (fun k => ok k ∨ base ≤ k) w A c xs := by
  rcases h with ⟨h, _⟩ | ⟨_, A, h1, h2, _⟩
  · exact h.sl
  · exact ⟨A, _, h1, h2.mono (fun _ h => .inl h)⟩
theorem NxR.lt (h : NxR d e base ok w v xs g) {k : Nat} (hk : g = some k) : base ≤ k ∧ k < w.heap.size := by
  rcases h with ⟨h, h2⟩ | ⟨h, _⟩
  · rw [← h2] at hk; exact ⟨h.base_le k hk, h.block_lt k hk⟩
  · rw [h] at hk; cases hk
end
section
variable {α : Type} {d : Kn α} {P : Program} {ops : Array Oper} {rest : List Oper} {o : Oper} {a : Act} {Q : Exit → Act → World → Prop}
theorem run_append_fullD {W : World} (t ty e : TypeId) (z : Value) (size bytes : Nat) (ht : P.underlying t = some (.slice e)) (hinfo : (P.info? e).map (fun i => (i.zero, i.size, i.bytes)) = some (some z, size, bytes)) (hz : z.cells.size = size) (hs0 : 0 < size)
    (hd : d.sz = size) {ok : Nat → Prop} {ad : Addr} {xs : List α} (h : Sl d ok W (some ad) xs.length xs) (y : α) {cs : List Value} (hk : d.K ok W y cs) {H : Nat} (hH : W.heap.size = H) (hl : (xs.length + 1) * bytes ≤ 140737488355328) (hb0 : 0 < bytes) :
    ∃ v' w', (Builtin.append_ #[t, t] ty #[.slice (some ad) xs.length xs.length, .slice (some ⟨H, 0, none⟩) 1 1]).run P (W.alloc (.cells cs.toArray e)) = .ok v' w' ∧ Own d e W.heap.size ok w' v' (xs ++ [y]) ∧ W.grownBy w' none ∧ (∃ b, v'.ownBlock = some b ∧ W.heap.size ≤ b) := by
  subst hH
  obtain ⟨i0, hi, hzz⟩ := Option.map_eq_some_iff.1 hinfo
  simp only [Prod.mk.injEq] at hzz
  obtain ⟨hz0, hz1, hz2⟩ := hzz
  subst hd
  have hlen : xs.length + 1 ≤ 140737488355328 := Nat.le_trans (Nat.le_mul_of_pos_right _ hb0) hl
  obtain ⟨css, h1, h2, h3, h4, h5⟩ := Row.flat hs0 h.2.2
  have hfl : css.flatten.length = xs.length * d.sz := by
    rw [← h1]
    clear h1 h3 h4 h5
    induction css with
    | nil => simp
    | cons c css ih => rw [List.flatten_cons, List.length_append, h2 c List.mem_cons_self, ih (fun c hc => h2 c (List.mem_cons_of_mem _ hc)), List.length_cons, Nat.add_mul]; omega
  have hold : ∀ j u, css.flatten[j]? = some u → (W.alloc (.cells cs.toArray e)).cell? (ad.add j) = some u := fun j u hu => by
    have hc := h5 j u hu
    exact (((Below.refl W.heap.size W).alloc (Nat.le_refl _) _).cell (World.block_lt_of_cell? W _ hc)).trans hc
  obtain ⟨v', w', hr, ho, hg⟩ := run_append_arg_grows (P := P) (W.alloc (.cells cs.toArray e)) t ty e i0 z d.sz bytes ht hi hz0 hz1 hz2 hz hs0 ad xs.length xs.length css.flatten hfl hold ⟨W.heap.size, 0, none⟩ 1 1 cs (by rw [d.len hk]; simp)
    (by simpa using World.news_of_block (cs := cs.toArray) (t := e) (fr := (0, 0)) (heap_alloc_new W (.cells cs.toArray e))) (by omega) (by simp only [maxLen]; omega) hl
  have hgw : W.grownBy w' none := ⟨hg.os, hg.tape, hg.output, by have := hg.size; simp at this; omega, fun k hk hne => (hg.block k (by simp; omega) hne).trans (((Below.refl W.heap.size W).alloc (Nat.le_refl _) _).block k hk)⟩
  have hob : ∃ b, v'.ownBlock = some b ∧ W.heap.size + 1 ≤ b := by
    obtain ⟨_, h6 | ⟨g, cap, cur, rfl, hgb, _⟩⟩ := ho
    · exact absurd h6.2 (by omega)
    · exact ⟨g, rfl, by simpa using hgb⟩
  obtain ⟨b, hb1, hb2⟩ := hob
  have mv : ∀ (x : α) (c : List Value), d.K ok W x c → d.K (fun k => ok k ∧ some k ≠ v'.ownBlock) w' x c := fun x c hx =>
    d.mono (fun k hk => ⟨hk.1, fun e1 => by rw [hb1] at e1; have := Option.some.inj e1; have := hk.2; omega⟩) (d.move (w' := w') hgw.size (fun k hk => hgw.block k hk.2 (by simp)) (d.bound hx))
  refine ⟨v', w', hr, ⟨css ++ [cs], ?_, by simp [h1], ?_, ?_, fun j x hj => ?_⟩, hgw, b, hb1, by omega⟩
  · rw [List.length_append, List.length_singleton, List.flatten_append]
    have : ([cs] : List (List Value)).flatten = cs := by simp
    rw [this]
    obtain ⟨a1, a2⟩ := ho
    refine ⟨a1, a2.imp id ?_⟩
    rintro ⟨g, cap, cur, rfl, hgb, r⟩
    exact ⟨g, cap, cur, rfl, by simp at hgb; omega, r⟩
  · intro c hc
    rcases List.mem_append.1 hc with hc | hc
    · exact h2 c hc
    · rw [List.mem_singleton.1 hc]; exact d.len hk
  · intro c hc
    rcases List.mem_append.1 hc with hc | hc
    · exact h3 c hc
    · rw [List.mem_singleton.1 hc]; exact d.one hk
  · rcases Nat.lt_or_ge j xs.length with hlt | hge
    · rw [List.getElem?_append_left hlt] at hj
      obtain ⟨c, hc, hx⟩ := h4 j x hj
      exact ⟨c, by rw [List.getElem?_append_left (by omega)]; exact hc, mv _ _ hx⟩
    · have hj' : j = xs.length := by
        have := (List.getElem?_eq_some_iff.1 hj).1
        rw [List.length_append, List.length_singleton] at this
        omega
      subst hj'
      have : y = x := by simpa using hj
      subst this
      exact ⟨cs, by rw [← h1]; simp, mv _ _ hk⟩
/-- 'append(v, y)'. -/
theorem wpList_pushN {W : World} (hgd : o.guard = none) (s x : Operand) (t : TypeId)
    (ho : o.op = .call { callee := .builtin .append, args := #[s, x], argTypes := #[t, t] })
    (e : TypeId) (z : Value) (size bytes : Nat) (ht : P.underlying t = some (.slice e)) (hinfo : (P.info? e).map (fun i => (i.zero, i.size, i.bytes)) = some (some z, size, bytes)) (hz : z.cells.size = size) (hs0 : 0 < size) (hb0 : 0 < bytes)
    (hd : d.sz = size) (base : Nat) (ok : Nat → Prop) (v : Value) (xs : List α) (g : Option Nat) (hs : a.eval s = v) (hnx : NxR d e base ok W v xs g) (y : α) (cs : List Value) (hk : d.K (fun k => ok k ∧ some k ≠ g) W y cs)
    (H : Nat) (hH : W.heap.size = H) (hx : a.eval x = .slice (some ⟨H, 0, none⟩) 1 1) (hbase : base ≤ W.heap.size) (hl : (xs.length + 1) * bytes ≤ 140737488355328)
    (h : ∀ v1 w1 g1, NxR d e base ok w1 v1 (xs ++ [y]) g1 → W.grownBy w1 g → (g1 = g ∨ ∃ b, g1 = some b ∧ W.heap.size ≤ b) → wpList P ops Q rest (a.put o.dst v1) w1) :
    wpList P ops Q (o :: rest) a (W.alloc (.cells cs.toArray e)) := by
  rcases hnx with ⟨hown, rfl⟩ | ⟨rfl, A, rfl, hsl, hnil⟩
  · exact wpList_pushH hgd s x t ho e z size bytes ht hinfo hz hs0 hb0 hd base ok v xs hs hown y cs hk H hH hx hbase hl (fun v1 w1 h1 h2 h3 _ => h v1 w1 _ (.inl ⟨h1, rfl⟩) h2 (h3.imp id (fun e1 => ⟨_, e1, by omega⟩)))
  · cases A with
    | none =>
      have hxs := hsl.none_nil'
      subst hxs
      exact wpList_pushH hgd s x t ho e z size bytes ht hinfo hz hs0 hb0 hd base ok (.slice none 0 0) [] hs (Own.nil_ _ _ _ _ _) y cs (d.mono (fun k hk => ⟨hk.1, by simp [Value.ownBlock]⟩) hk) H hH hx hbase hl (fun v1 w1 h1 h2 h3 _ => h v1 w1 _ (.inl ⟨h1, rfl⟩) h2 (h3.imp id (fun e1 => ⟨_, e1, by omega⟩)))
    | some ad =>
      obtain ⟨v', w', hr, h1, h2, b, h3, h4⟩ := run_append_fullD (P := P) t o.type e z size bytes ht hinfo hz hs0 hd hsl y (d.mono (fun k hk => hk.1) hk) hH hl hb0
      refine wpList_plain hgd fun K hK => ?_
      unfold Oper.wp
      simp only [execOp, ho, resolve, invoke, builtin, Sem.run_bind, Sem.run_pure, Result.andThen_ok, List.map_toArray, List.map_cons, List.map_nil, hs, hx, hr]
      exact hK _ _ (h v' w' _ (.inl ⟨h1.lower hbase, rfl⟩) h2 (.inr ⟨b, h3, h4⟩))
end
end Go.Proofs.Ytfoghahidofegaa

namespace Go.Proofs.Ytfoghahidofegaa
open Go.RowKit Go.Maps

theorem Tb.move {w w' : World} {b m N : Nat} {D : DataW Value} {last : Int} {f : ByteArray → List Int} {X Y : Nat → Prop} (h : Tb w b m N D last f X) (hb : But X w w') (hY : ∀ k, Y k → X k ∨ (w.heap.size ≤ k ∧ k < w'.heap.size)) : Tb w' b m N D last f Y := by
  have h5' := h.far hb
  have hsz := hb.size
  have hbl := h.bx.lt
  have hml := h.mp.om.lt
  refine ⟨h5'.bx, ⟨h5'.mp.om, fun s => ?_, h5'.mp.has⟩, h.ne, h.rise, h.top, h.len, fun hx => (hY _ hx).elim h.xb (fun h => by omega), fun hx => (hY _ hx).elim h.xm (fun h => by omega), fun k hk => (hY k hk).elim (fun hx => by have := h.xs k hx; omega) (fun h => h.2)⟩
  obtain ⟨A, c, h7, h8⟩ := h.mp.row s
  exact ⟨A, c, h7, (h8.stay hsz (fun k hk hl => hb.block k hl hk.1.2)).mono (fun k hk => ⟨⟨hk.1.1, fun hx => (hY k hx).elim hk.1.2 (fun h => by omega)⟩, hk.2.1, by omega⟩)⟩

/-- Add on its way: the tables hold ft, fp behind es, the records fn. -/
structure Im (w : World) (B : Six) (es : List Event) (X : Nat → Prop) (A0 : Option Addr) (c0 : Nat) (bc : List Value) (ft fp fn : List Event) (v : Value) (g : Option Nat) (wr : World) : Prop where
  bx : Bx wr B.b 88 [.slice A0 es.length c0, .pointer (some ⟨B.bt, 0, none⟩), .pointer (some ⟨B.p, 0, none⟩)]
  bb : Bx wr w.heap.size 43 bc
  nx : NxR kRec 49 (w.heap.size + 1) (fun k => ¬ B.has k ∧ ¬ X k) wr v (recsOf (es ++ fn)) g
  tb : ∃ N D, N ≤ (es ++ ft).length ∧ Tb wr B.bt B.m N D (es ++ ft).length (posS (es ++ ft)) (fun k => (X k ∨ k = B.b ∨ k = B.p ∨ k = B.mt ∨ k = B.my) ∨ g = some k)
  ps : Q3 wr B.p B.mt B.my (zipP (es ++ fp)) (fun k => (X k ∨ k = B.b ∨ k = B.bt ∨ k = B.m) ∨ g = some k)
  but : But B.has w wr
  lt : ∀ k, B.has k → k < w.heap.size
  xlt : ∀ k, X k → k < w.heap.size
section
variable {w wr w' : World} {B : Six} {es ft fp fn : List Event} {X : Nat → Prop} {A0 : Option Addr} {c0 : Nat} {bc : List Value} {v : Value} {g : Option Nat}
theorem Im.below (h : Im w B es X A0 c0 bc ft fp fn v g wr) (hb : Below wr.heap.size wr w') : Im w B es X A0 c0 bc ft fp fn v g w' := by
  obtain ⟨N, D, h1, h2⟩ := h.tb
  exact ⟨h.bx.under hb, h.bb.under hb, h.nx.below hb, ⟨N, D, h1, h2.below hb⟩, h.ps.below hb, h.but.trans (But.of_below hb), h.lt, h.xlt⟩
theorem Im.start (h : Ix w B es X) (hB : Below w.heap.size w wr) {A0 : Option Addr} {c0 : Nat} (hx : Bx w B.b 88 [.slice A0 es.length c0, .pointer (some ⟨B.bt, 0, none⟩), .pointer (some ⟨B.p, 0, none⟩)]) (hr : Sl kRec (fun k => ¬ B.has k ∧ ¬ X k) w A0 c0 (recsOf es)) (hn : es = [] → A0 = none) (hbb : Bx wr w.heap.size 43 bc) :
    Im w B es X A0 c0 bc [] [] [] (.slice A0 es.length es.length) none wr := by
  obtain ⟨N, D, h4, h5⟩ := h.tb
  have hl := recsOf_len es
  have hc := hr.1
  have hc2 := hr.2.1
  refine ⟨hx.under hB, hbb, .inr ⟨rfl, A0, by rw [List.append_nil, hl], ?_, fun e => hn ?_⟩, ⟨N, D, by rw [List.append_nil]; exact h4, ?_⟩, ?_, But.of_below hB, h.lt, h.xs⟩
  · rw [List.append_nil]
    exact ⟨Nat.le_refl _, by omega, (hr.2.2.below hB)⟩
  · rw [List.append_nil] at e
    exact List.eq_nil_of_length_eq_zero (by rw [← hl, e]; rfl)
  · rw [List.append_nil]
    exact (h5.below hB).less (fun k hk => hk.resolve_right (by simp))
  · rw [List.append_nil]
    exact h.ps.move (But.of_below hB) (fun k hk => .inl (hk.resolve_right (by simp)))
theorem Im.len (h : Im w B es X A0 c0 bc ft fp fn v g wr) : (es ++ fp).length ≤ 1000 := by
  have := h.ps.len
  rw [zipP_len] at this
  exact this
theorem Im.glt (h : Im w B es X A0 c0 bc ft fp fn v g wr) {k : Nat} (hk : g = some k) : ¬ B.has k := fun hB => by
  have h1 := (h.nx.lt hk).1
  have h2 := h.lt k hB
  omega
/-- streams.Add. -/
theorem Im.cAddT (h : Im w B es X A0 c0 bc ft fp fn v g wr) (hl : (es ++ ft).length ≤ 899) {f : Event} (hs : f.stream.size ≤ maxLen) {pos : Int} (hp : pos = ((es ++ ft).length : Int) + 1) :
    Calls Try.prog 46 #[.pointer (some ⟨B.bt, 0, none⟩), .string f.stream, .int .i64 pos] wr fun r w' => r = .returned (.tuple #[.int .i64 ((cntS (es ++ ft) f.stream : Int) + 1), .int .i64 0]) ∧ Im w B es X A0 c0 bc (ft ++ [f]) fp fn v g w' ∧ But B.has wr w' := by
  obtain ⟨N, D, h4, h5⟩ := h.tb
  have hsix := h.ps.lt
  have hlt := h.lt
  refine (Add_any h5 (by omega) hs pos).mono fun r w' hr => ?_
  obtain ⟨D', e, h6, h7⟩ := hr.2 (by omega)
  rw [posS_len] at e
  have hgn := fun k (hk : g = some k) => h.glt hk
  refine ⟨e, ⟨h.bx.stay (fun hk => h7.block _ hk (fun hh => ?_)), h.bb.stay (fun hk => h7.block _ hk (fun hh => ?_)), h.nx.stay h7.size (fun k hk hl => h7.block k hl (fun hh => ?_)), ⟨N + 1, D', ?_, ?_⟩, h.ps.move (h7.mono (fun k hk => .inl (.inr (.inr hk)))) (fun k hk => .inl hk), h.but.trans (h7.mono (fun k hk => hk.elim (fun e => .inr (.inl e)) (fun e => .inr (.inr (.inl e))))), h.lt, h.xlt⟩, h7.mono (fun k hk => hk.elim (fun e => .inr (.inl e)) (fun e => .inr (.inr (.inl e))))⟩
  · exact hh.elim (fun e => h5.xb (.inl (.inr (.inl e.symm)))) (fun e => h5.xm (.inl (.inr (.inl e.symm))))
  · have := hlt _ (hh.elim (fun e => .inr (.inl e)) (fun e => .inr (.inr (.inl e)))); omega
  · have hb : B.has k := hh.elim (fun e => .inr (.inl e)) (fun e => .inr (.inr (.inl e)))
    exact hk.elim (fun h => h.1 hb) (fun h => hgn k h hb)
  · rw [← List.append_assoc, List.length_append, List.length_singleton]; omega
  · rw [← List.append_assoc, posS_snoc, List.length_append, List.length_singleton]
    rw [hp] at h6
    exact_mod_cast h6
/-- lists.Add. -/
theorem Im.cAddP (h : Im w B es X A0 c0 bc ft fp fn v g wr) (hl : (es ++ fp).length ≤ 899) {f : Event} {T F : Option Addr} {ct cf : Nat} (hT : Sl Kn.str (fun k => ¬ B.has k) wr T ct f.tags) (hok : OkE f) (hin : EvIn f) {pos : Int} (hp : pos = ((es ++ fp).length : Int) + 1) :
    Calls Try.prog 47 #[.pointer (some ⟨B.p, 0, none⟩), vEvent f T ct F cf, .int .i64 pos] wr fun r w' => r = .returned (.int .i64 0) ∧ Im w B es X A0 c0 bc ft (fp ++ [f]) fn v g w' ∧ But B.has wr w' := by
  obtain ⟨N, D, h4, h5⟩ := h.tb
  have hlt := h.lt
  obtain ⟨_, _, _, hx1, hx2, hx3⟩ := h.ps.lt
  refine (c3Add h.ps (by rw [zipP_len]; omega) (hT.mono (fun k hk => ⟨fun e => hk (.inr (.inr (.inr (.inl e)))), fun e => hk (.inr (.inr (.inr (.inr (.inl e))))), fun e => hk (.inr (.inr (.inr (.inr (.inr e)))))⟩)) (by have := hok.nt; omega) hin.ts hin.ty (by omega) (fun q hq => by rw [hp]; exact zipP_lt _ q hq)).mono fun r w' hr => ?_
  obtain ⟨e, h6, h7⟩ := hr
  have hin3 : ∀ k, (k = B.p ∨ k = B.mt ∨ k = B.my) → B.has k := fun k hk => .inr (.inr (.inr hk))
  have hgn := fun k (hk : g = some k) => h.glt hk
  refine ⟨e, ⟨h.bx.stay (fun hk => h7.block _ hk (fun hh => ?_)), h.bb.stay (fun hk => h7.block _ hk (fun hh => ?_)), h.nx.stay h7.size (fun k hk hl => h7.block k hl (fun hh => hk.elim (fun h => h.1 (hin3 k hh)) (fun h => hgn k h (hin3 k hh)))), ⟨N, D, h4, h5.move (h7.mono (fun k hk => .inl (.inr (.inr hk)))) (fun k hk => .inl hk)⟩, ?_, h.but.trans (h7.mono hin3), h.lt, h.xlt⟩, h7.mono hin3⟩
  · rcases hh with hh | hh | hh
    · exact hx1 (.inl (.inr (.inl hh.symm)))
    · exact hx2 (.inl (.inr (.inl hh.symm)))
    · exact hx3 (.inl (.inr (.inl hh.symm)))
  · have := hlt _ (hin3 _ hh); omega
  · rw [← List.append_assoc, zipP_snoc, ← hp]
    exact h6
/-- next = append(next, ..). -/
theorem Im.push {fs : List Event} {f : Event} (h : Im w B es X A0 c0 bc (fs ++ [f]) (fs ++ [f]) fs v g wr) {v1 : Value} {w1 : World} {g1 : Option Nat}
    (hn : NxR kRec 49 (w.heap.size + 1) (fun k => ¬ B.has k ∧ ¬ X k) w1 v1 (recsOf (es ++ fs) ++ [⟨((es ++ fs).length : Int) + 1, (cntS (es ++ fs) f.stream : Int) + 1, f⟩]) g1) (hg : wr.grownBy w1 g) (hg1 : g1 = g ∨ ∃ b, g1 = some b ∧ wr.heap.size ≤ b) :
    Im w B es X A0 c0 bc (fs ++ [f]) (fs ++ [f]) (fs ++ [f]) v1 g1 w1 := by
  obtain ⟨N, D, h4, h5⟩ := h.tb
  have hlt := h.lt
  have hws := h.but.size
  have hgl := fun k (hk : g = some k) => h.nx.lt hk
  have hbut : But (fun k => g = some k) wr w1 := ⟨hg.os, hg.tape, hg.output, hg.size, fun k hk hn => hg.block k hk (fun e => hn e.symm)⟩
  have hY : ∀ k, g1 = some k → g = some k ∨ (wr.heap.size ≤ k ∧ k < w1.heap.size) := fun k hk => by
    rcases hg1 with e | ⟨b, e, hb⟩
    · rw [e] at hk; exact .inl hk
    · rw [e] at hk
      have hkb := Option.some.inj hk
      subst hkb
      exact .inr ⟨hb, (hn.lt e).2⟩
  refine ⟨h.bx.stay (fun hk => hbut.block _ hk (fun hh => ?_)), h.bb.stay (fun hk => hbut.block _ hk (fun hh => ?_)), ?_, ⟨N, D, h4, h5.move (hbut.mono (fun k hk => .inr hk)) (fun k hk => ?_)⟩, h.ps.move (hbut.mono (fun k hk => .inr hk)) (fun k hk => ?_), ⟨hg.os.trans h.but.os, hg.tape.trans h.but.tape, hg.output.trans h.but.output, Nat.le_trans h.but.size hg.size, fun k hk hnb => (hbut.block k (by omega) (fun hh => ?_)).trans (h.but.block k hk hnb)⟩, h.lt, h.xlt⟩
  · have := (hgl _ hh).1; have := hlt B.b (.inl rfl); omega
  · have := (hgl _ hh).1; omega
  · rw [← List.append_assoc, recsOf_snoc]; exact hn
  · rcases hk with hk | hk
    · exact .inl (.inl hk)
    · exact (hY k hk).imp .inr id
  · rcases hk with hk | hk
    · exact .inl (.inl hk)
    · exact (hY k hk).imp .inr id
  · have := (hgl _ hh).1; omega
/-- x.recs = next, behind told. -/
theorem Im.finish {bs : List Event} (h : Im w B es X A0 c0 bc bs bs bs v g wr) (hok : ∀ e ∈ es, OkE e) (hin : ∀ e ∈ es, EvIn e) (hok2 : ∀ e ∈ bs, OkE e) (hin2 : ∀ e ∈ bs, EvIn e) (hl : (es ++ bs).length ≤ 900) (hne : bs ≠ []) (hxb : ¬ X B.b) {w2 : World} (hb : Below wr.heap.size wr w2) :
    Ix (w2.setCell ⟨B.b, 0, none⟩ v) B (es ++ bs) (fun k => X k ∨ (wr.heap.size ≤ k ∧ k < w2.heap.size)) ∧ But B.has w (w2.setCell ⟨B.b, 0, none⟩ v) := by
  obtain ⟨N, D, h4, h5⟩ := h.tb
  have hlt := h.lt
  have hws := h.but.size
  have hxl := h.xlt
  have hgl := fun k (hk : g = some k) => h.nx.lt hk
  obtain ⟨A1, c1, rfl, hs⟩ := h.nx.slice
  have hbb := hlt B.b (.inl rfl)
  have hz : (w2.setCell ⟨B.b, 0, none⟩ (.slice A1 (recsOf (es ++ bs)).length c1)).heap.size = w2.heap.size := by simp [World.setCell]
  have hset : But (fun k => k = B.b) w2 (w2.setCell ⟨B.b, 0, none⟩ (.slice A1 (recsOf (es ++ bs)).length c1)) := But.setCell (S := fun k => k = B.b) w2 (p := ⟨B.b, 0, none⟩) rfl _
  have h5' := h5.fence (Y := fun k => (X k ∨ (wr.heap.size ≤ k ∧ k < w2.heap.size)) ∨ k = B.b ∨ k = B.p ∨ k = B.mt ∨ k = B.my) hb (fun k hk => ?_)
  have h6' := h.ps.move (Y := fun k => (X k ∨ (wr.heap.size ≤ k ∧ k < w2.heap.size)) ∨ k = B.b ∨ k = B.bt ∨ k = B.m) (But.of_below hb) (fun k hk => ?_)
  · refine ⟨⟨⟨A1, c1, ?_, ?_, fun e => ?_⟩, ⟨N, D, h4, h5'.far (hset.mono (fun k hk => .inr (.inl hk)))⟩, h6'.move (hset.mono (fun k hk => .inr (.inl hk))) (fun k hk => .inl hk), fun e he => ?_, fun e he => ?_, hl, fun hx => ?_⟩, (h.but.trans (But.of_below hb)).trans (hset.mono (fun k hk => .inl hk))⟩
    · rw [recsOf_len]
      exact (h.bx.under hb).set 0 _
    · refine (((hs.bound).below hb).mono (fun k hk => ?_) : Sl kRec (fun k => (¬ B.has k ∧ ¬ X k) ∧ k < wr.heap.size) w2 A1 c1 _) |>.stay (by rw [hz]; exact Nat.le_refl _) (fun k hk hl => hset.block k hl (fun e => hk.1.1 (.inl e))) |>.mono (fun k hk => ⟨hk.1.1, fun hx => hx.elim hk.1.2 (fun h => by have := hk.2; omega)⟩)
      obtain ⟨hk, hk2⟩ := hk
      rcases hk with hk | hk
      · exact ⟨hk, hk2⟩
      · exact ⟨⟨fun hB => by have := hlt k hB; omega, fun hX => by have := hxl k hX; omega⟩, hk2⟩
    · exact absurd (List.append_eq_nil_iff.1 e).2 hne
    · rcases List.mem_append.1 he with he | he
      · exact hok e he
      · exact hok2 e he
    · rcases List.mem_append.1 he with he | he
      · exact hin e he
      · exact hin2 e he
    · rcases hx with hx | hx
      · exact hxb hx
      · omega
  · rcases hk with (hk | hk) | hk
    · exact .inl (.inl (.inl hk))
    · exact .inr hk
    · exact .inl (.inl (.inr hk))
  · rcases hk with (hk | hk) | hk
    · exact .inl (.inl (.inl hk))
    · exact .inr hk
    · exact .inl (.inl (.inr hk))
end
end Go.Proofs.Ytfoghahidofegaa
