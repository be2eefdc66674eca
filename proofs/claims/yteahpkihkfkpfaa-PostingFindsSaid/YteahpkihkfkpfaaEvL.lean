/- Events at positions: what posting's rows are, as plain lists. -/
import Derived.Test.YteahpkihkfkpfaaPstFind2
import Derived.Test.YteahpkihkfkpfaaPstAdd2
import Derived.Test.YteahpkihkfkpfaaLawStreamsPlays
set_option linter.unusedVariables false
set_option linter.unusedSimpArgs false
namespace Go.Proofs.Yteahpkihkfkpfaa

abbrev EP := Event × Int
def posE (es : List EP) : List Int := es.map (·.2)
def tagE (es : List EP) (s : ByteArray) : List Int := (es.filter (fun a => hasS s a.1.tags)).map (·.2)
def typeE (es : List EP) (s : ByteArray) : List Int := (es.filter (fun a => decide (a.1.type = s))).map (·.2)
def findE (es : List EP) (q : List Clause) (x : Int) : List Int := (es.filter (fun a => matchM q a.1 && decide (a.2 ≤ x))).map (·.2)
/-- Positions that rise, from 1 on. -/
structure EsOK (es : List EP) : Prop where
  rise : Rise (posE es)
  pos : ∀ a ∈ es, 1 ≤ a.2
theorem filt_rise {es : List EP} (h : Rise (posE es)) (f : EP → Bool) : Rise ((es.filter f).map (·.2)) := by
  unfold posE Rise at h
  unfold Rise
  rw [List.pairwise_map] at h ⊢
  exact h.filter _
theorem mem_filt {es : List EP} (f : EP → Bool) (x : Int) : x ∈ (es.filter f).map (·.2) ↔ ∃ a ∈ es, f a = true ∧ a.2 = x := by
  rw [List.mem_map]
  constructor
  · rintro ⟨a, ha, rfl⟩; obtain ⟨h1, h2⟩ := List.mem_filter.1 ha; exact ⟨a, h1, h2, rfl⟩
  · rintro ⟨a, h1, h2, rfl⟩; exact ⟨a, List.mem_filter.2 ⟨h1, h2⟩, rfl⟩
/-- A position has one event. -/
theorem ep_inj {es : List EP} (h : Rise (posE es)) {a b : EP} (ha : a ∈ es) (hb : b ∈ es) (e : a.2 = b.2) : a = b := by
  unfold posE Rise at h
  rw [List.pairwise_map] at h
  obtain ⟨i, hi⟩ := List.getElem?_of_mem ha
  obtain ⟨j, hj⟩ := List.getElem?_of_mem hb
  obtain ⟨h1, rfl⟩ := List.getElem?_eq_some_iff.1 hi
  obtain ⟨h2, rfl⟩ := List.getElem?_eq_some_iff.1 hj
  rw [List.pairwise_iff_getElem] at h
  rcases Nat.lt_trichotomy i j with hij | hij | hij
  · have := h i j h1 h2 hij; omega
  · subst hij; rfl
  · have := h j i h2 h1 hij; omega
theorem EsOK.pf {es : List EP} (h : EsOK es) : Pf (posE es) (tagE es) (typeE es) := by
  have sub : ∀ (f : EP → Bool), ∀ x ∈ (es.filter f).map (·.2), x ∈ posE es := fun f x hx => by
    obtain ⟨a, h1, _, rfl⟩ := (mem_filt f x).1 hx
    exact List.mem_map.2 ⟨a, h1, rfl⟩
  exact ⟨h.rise, fun s => filt_rise h.rise _, fun s => filt_rise h.rise _, fun s => sub _, fun s => sub _, fun s => sub_len (filt_rise h.rise _) h.rise (sub _), fun s => sub_len (filt_rise h.rise _) h.rise (sub _), fun x hx => by
    obtain ⟨a, h1, rfl⟩ := List.mem_map.1 hx
    exact h.pos a h1⟩
theorem EsOK.nil : EsOK [] := ⟨List.Pairwise.nil, fun a ha => by cases ha⟩
theorem EsOK.snoc {es : List EP} (h : EsOK es) (e : Event) {pos : Int} (h1 : 1 ≤ pos) (h2 : ∀ q ∈ posE es, q < pos) : EsOK (es ++ [(e, pos)]) := by
  refine ⟨?_, fun a ha => ?_⟩
  · unfold posE
    rw [List.map_append]
    refine List.pairwise_append.2 ⟨h.rise, by simp, fun x hx y hy => by simp at hy; subst hy; exact h2 x hx⟩
  · rcases List.mem_append.1 ha with ha | ha
    · exact h.pos a ha
    · simp at ha; subst ha; exact h1
theorem posE_snoc (es : List EP) (e : Event) (pos : Int) : posE (es ++ [(e, pos)]) = posE es ++ [pos] := by simp [posE]
theorem tagE_snoc (es : List EP) (e : Event) (pos : Int) (s : ByteArray) : tagE (es ++ [(e, pos)]) s = tagE es s ++ if hasS s e.tags = true then [pos] else [] := by
  unfold tagE
  rw [List.filter_append, List.map_append]
  congr 1
  by_cases h : hasS s e.tags = true <;> simp [h]
theorem typeE_snoc (es : List EP) (e : Event) (pos : Int) (s : ByteArray) : typeE (es ++ [(e, pos)]) s = typeE es s ++ if e.type = s then [pos] else [] := by
  unfold typeE
  rw [List.filter_append, List.map_append]
  congr 1
  by_cases h : e.type = s <;> simp [h]
theorem findE_snoc (es : List EP) (e : Event) (pos : Int) (q : List Clause) (x : Int) : findE (es ++ [(e, pos)]) q x = findE es q x ++ if (matchM q e && decide (pos ≤ x)) = true then [pos] else [] := by
  unfold findE
  rw [List.filter_append, List.map_append]
  congr 1
  by_cases h : (matchM q e && decide (pos ≤ x)) = true
  · rw [if_pos h, List.filter_cons, if_pos h]; rfl
  · rw [if_neg h, List.filter_cons, if_neg h]; rfl
theorem addP_new {l : List Int} {pos : Int} (h : ∀ q ∈ l, q < pos) : addP l pos = l ++ [pos] := by
  unfold addP
  rw [if_neg]
  intro e
  have := h _ (List.mem_of_getLast? e)
  omega
theorem addP_old (l : List Int) (pos : Int) : addP (l ++ [pos]) pos = l ++ [pos] := by simp [addP]
theorem addT_is {pos : Int} {f : ByteArray → List Int} (h : ∀ s, ∀ q ∈ f s, q < pos) (ts : List ByteArray) : ∀ k, k ≤ ts.length → ∀ s, addT pos (ts.take k) f s = f s ++ if hasS s (ts.take k) = true then [pos] else []
  | 0, _, s => by simp [addT, hasS]
  | k + 1, hk, s => by
    have hlt : k < ts.length := by omega
    rw [List.take_succ_eq_append_getElem hlt, addT_snoc]
    have ih := addT_is h ts k (by omega)
    have hh : hasS s (ts.take k ++ [ts[k]]) = true ↔ (hasS s (ts.take k) = true ∨ s = ts[k]) := by
      rw [hasS_iff, hasS_iff, List.mem_append, List.mem_singleton]
    by_cases e : s = ts[k]
    · rw [if_pos (hh.2 (.inr e))]
      subst e
      rw [upd_same, ih]
      by_cases h2 : hasS ts[k] (ts.take k) = true
      · rw [if_pos h2, addP_old]
      · rw [if_neg h2, List.append_nil, addP_new (h _)]
    · rw [upd_other _ _ e, ih]
      by_cases h2 : hasS s (ts.take k) = true
      · rw [if_pos h2, if_pos (hh.2 (.inl h2))]
      · rw [if_neg h2, if_neg (fun h3 => (hh.1 h3).elim h2 e)]
theorem tagE_add {es : List EP} (h : EsOK es) (e : Event) {pos : Int} (h2 : ∀ q ∈ posE es, q < pos) : addT pos e.tags (tagE es) = tagE (es ++ [(e, pos)]) := by
  funext s
  have := addT_is (f := tagE es) (fun s q hq => h2 q (h.pf.st s q hq)) e.tags e.tags.length (Nat.le_refl _) s
  rw [List.take_length] at this
  rw [this, tagE_snoc]
theorem typeE_add {es : List EP} (h : EsOK es) (e : Event) {pos : Int} (h2 : ∀ q ∈ posE es, q < pos) : upd (typeE es) e.type (addP (typeE es e.type) pos) = typeE (es ++ [(e, pos)]) := by
  funext s
  rw [typeE_snoc]
  by_cases hs : s = e.type
  · subst hs
    rw [upd_same, addP_new (fun q hq => h2 q (h.pf.sy _ q hq)), if_pos rfl]
  · rw [upd_other _ _ hs, if_neg (fun e => hs e.symm), List.append_nil]
theorem mem_clauseE {es : List EP} (h : EsOK es) (c : Clause) (y : Int) : y ∈ clauseL (posE es) (tagE es) (typeE es) c ↔ ∃ a ∈ es, clauseM a.1 c = true ∧ a.2 = y := by
  rw [(clauseL_rm h.pf c).2]
  have key : ∀ a ∈ es, a.2 = y → ((∀ s ∈ c.tags, y ∈ tagE es s) ↔ ∀ s ∈ c.tags, hasS s a.1.tags = true) := fun a ha hay => by
    constructor
    · intro hh s hs
      obtain ⟨b, hb, h1, h2⟩ := (mem_filt _ y).1 (hh s hs)
      obtain rfl := ep_inj h.rise ha hb (hay.trans h2.symm)
      exact h1
    · intro hh s hs
      exact (mem_filt _ y).2 ⟨a, ha, hh s hs, hay⟩
  have hcm : ∀ a : EP, clauseM a.1 c = true ↔ (∀ s ∈ c.tags, hasS s a.1.tags = true) ∧ (c.types.length = 0 ∨ a.1.type ∈ c.types) := fun a => by
    unfold clauseM
    rw [Bool.and_eq_true, List.all_eq_true, Bool.or_eq_true, hasS_iff, List.isEmpty_iff, List.length_eq_zero_iff]
  constructor
  · rintro ⟨h1, h2⟩
    by_cases hz : c.types.length = 0
    · rw [if_pos hz] at h1
      obtain ⟨a, ha, hay⟩ := List.mem_map.1 h1
      exact ⟨a, ha, (hcm a).2 ⟨(key a ha hay).1 h2, .inl hz⟩, hay⟩
    · rw [if_neg hz] at h1
      obtain ⟨s, hs, hy⟩ := h1
      obtain ⟨a, ha, h3, hay⟩ := (mem_filt _ y).1 hy
      exact ⟨a, ha, (hcm a).2 ⟨(key a ha hay).1 h2, .inr (by rw [of_decide_eq_true h3]; exact hs)⟩, hay⟩
  · rintro ⟨a, ha, h1, hay⟩
    obtain ⟨h3, h4⟩ := (hcm a).1 h1
    refine ⟨?_, (key a ha hay).2 h3⟩
    by_cases hz : c.types.length = 0
    · rw [if_pos hz]; exact List.mem_map.2 ⟨a, ha, hay⟩
    · rw [if_neg hz]
      exact ⟨a.1.type, h4.resolve_left hz, (mem_filt _ y).2 ⟨a, ha, by simp, hay⟩⟩
theorem findE_eq {es : List EP} (h : EsOK es) (q : List Clause) (x : Int) : findL (posE es) (tagE es) (typeE es) q x = findE es q x := by
  obtain ⟨h1, h2⟩ := queryL_rm h.pf q
  unfold findL
  rw [take_upTo h1]
  refine rise_ext (h1.filter _) (filt_rise h.rise _) (fun y => ?_)
  rw [List.mem_filter, h2, show (y ∈ findE es q x ↔ _) from mem_filt _ y]
  simp only [decide_eq_true_eq, Bool.and_eq_true]
  constructor
  · rintro ⟨⟨c, hc, hy⟩, hyx⟩
    obtain ⟨a, ha, hm, rfl⟩ := (mem_clauseE h c y).1 hy
    exact ⟨a, ha, ⟨List.any_eq_true.2 ⟨c, hc, hm⟩, hyx⟩, rfl⟩
  · rintro ⟨a, ha, ⟨hm, hyx⟩, rfl⟩
    obtain ⟨c, hc, hcm⟩ := List.any_eq_true.1 hm
    exact ⟨⟨c, hc, (mem_clauseE h c a.2).2 ⟨a, ha, hcm, rfl⟩⟩, hyx⟩
end Go.Proofs.Yteahpkihkfkpfaa
