/- Plain lists: two rising rows put together. Own work. -/
set_option linter.unusedVariables false
set_option linter.unusedSimpArgs false
namespace Go.Proofs.Yteahpkihkfkpfaa
/-- strictly increasing lists -/
abbrev Rise (l : List Int) : Prop := l.Pairwise (· < ·)

theorem rise_ext : ∀ {a b : List Int}, Rise a → Rise b → (∀ x, x ∈ a ↔ x ∈ b) → a = b := by
  intro a
  induction a with
  | nil =>
    intro b _ _ h
    cases b with
    | nil => rfl
    | cons y ys => exact absurd ((h y).2 (List.mem_cons_self)) (by simp)
  | cons x xs ih =>
    intro b ha hb h
    cases b with
    | nil => exact absurd ((h x).1 (List.mem_cons_self)) (by simp)
    | cons y ys =>
      have ha' := List.pairwise_cons.1 ha
      have hb' := List.pairwise_cons.1 hb
      have hxy : x = y := by
        have h1 : x ∈ y :: ys := (h x).1 List.mem_cons_self
        have h2 : y ∈ x :: xs := (h y).2 List.mem_cons_self
        rcases List.mem_cons.1 h1 with e | e
        · exact e
        · rcases List.mem_cons.1 h2 with e2 | e2
          · exact e2.symm
          · have := hb'.1 x e; have := ha'.1 y e2; omega
      subst hxy
      congr 1
      refine ih ha'.2 hb'.2 fun z => ⟨fun hz => ?_, fun hz => ?_⟩
      · rcases List.mem_cons.1 ((h z).1 (List.mem_cons_of_mem _ hz)) with e | e
        · subst e; have := ha'.1 _ hz; omega
        · exact e
      · rcases List.mem_cons.1 ((h z).2 (List.mem_cons_of_mem _ hz)) with e | e
        · subst e; have := hb'.1 _ hz; omega
        · exact e

/-- the program's walk over two rows -/
def mergeW (keep : Bool → Bool → Bool) : List Int → List Int → List Int
  | [], [] => []
  | [], y :: b => if keep false true then y :: mergeW keep [] b else mergeW keep [] b
  | x :: a, [] => if keep true false then x :: mergeW keep a [] else mergeW keep a []
  | x :: a, y :: b =>
    if x < y then (if keep true false then x :: mergeW keep a (y :: b) else mergeW keep a (y :: b))
    else if y < x then (if keep false true then y :: mergeW keep (x :: a) b else mergeW keep (x :: a) b)
    else (if keep true true then y :: mergeW keep a b else mergeW keep a b)
termination_by a b => a.length + b.length

def both (a b : List Int) : List Int := mergeW (fun p q => p && q) a b
def either (a b : List Int) : List Int := mergeW (fun _ _ => true) a b

theorem mergeW_mem (keep : Bool → Bool → Bool) : ∀ (a b : List Int), Rise a → Rise b → ∀ z,
    (z ∈ mergeW keep a b ↔ (z ∈ a ∧ z ∈ b ∧ keep true true = true) ∨ (z ∈ a ∧ z ∉ b ∧ keep true false = true) ∨ (z ∉ a ∧ z ∈ b ∧ keep false true = true))
  | [], [], _, _, z => by simp [mergeW]
  | [], y :: b, _, hb, z => by
    have ih := mergeW_mem keep [] b List.Pairwise.nil (List.pairwise_cons.1 hb).2 z
    unfold mergeW
    cases hk : keep false true <;> simp [ih, hk]
  | x :: a, [], ha, _, z => by
    have ih := mergeW_mem keep a [] (List.pairwise_cons.1 ha).2 List.Pairwise.nil z
    unfold mergeW
    cases hk : keep true false <;> simp [ih, hk]
  | x :: a, y :: b, ha, hb, z => by
    have ha' := List.pairwise_cons.1 ha
    have hb' := List.pairwise_cons.1 hb
    unfold mergeW
    by_cases h1 : x < y
    · rw [if_pos h1]
      have ih := mergeW_mem keep a (y :: b) ha'.2 hb z
      have hx : x ∉ y :: b := by
        intro h
        rcases List.mem_cons.1 h with e | e
        · omega
        · have := hb'.1 _ e; omega
      by_cases hz : z = x
      · subst hz
        have hza : z ∉ a := fun h => by have := ha'.1 _ h; omega
        cases hk : keep true false <;> simp [ih, hk, hx, hza]
      · cases hk : keep true false <;> simp [ih, hk, hz]
    · rw [if_neg h1]
      by_cases h2 : y < x
      · rw [if_pos h2]
        have ih := mergeW_mem keep (x :: a) b ha hb'.2 z
        have hy : y ∉ x :: a := by
          intro h
          rcases List.mem_cons.1 h with e | e
          · omega
          · have := ha'.1 _ e; omega
        by_cases hz : z = y
        · subst hz
          have hzb : z ∉ b := fun h => by have := hb'.1 _ h; omega
          cases hk : keep false true <;> simp [ih, hk, hy, hzb]
        · cases hk : keep false true <;> simp [ih, hk, hz]
      · rw [if_neg h2]
        have e : x = y := by omega
        subst e
        have ih := mergeW_mem keep a b ha'.2 hb'.2 z
        by_cases hz : z = x
        · subst hz
          have hza : z ∉ a := fun h => by have := ha'.1 _ h; omega
          have hzb : z ∉ b := fun h => by have := hb'.1 _ h; omega
          cases hk : keep true true <;> simp [ih, hk, hza, hzb]
        · cases hk : keep true true <;> simp [ih, hk, hz]
termination_by a b => a.length + b.length

theorem mergeW_sub (keep : Bool → Bool → Bool) {a b : List Int} (ha : Rise a) (hb : Rise b) {z : Int} (h : z ∈ mergeW keep a b) : z ∈ a ∨ z ∈ b := by
  rcases (mergeW_mem keep a b ha hb z).1 h with h | h | h
  · exact .inl h.1
  · exact .inl h.1
  · exact .inr h.2.1

theorem mergeW_rise (keep : Bool → Bool → Bool) : ∀ (a b : List Int), Rise a → Rise b → Rise (mergeW keep a b)
  | [], [], _, _ => by simp [mergeW]
  | [], y :: b, _, hb => by
    have hb' := List.pairwise_cons.1 hb
    have ih := mergeW_rise keep [] b List.Pairwise.nil hb'.2
    unfold mergeW
    split
    · refine List.pairwise_cons.2 ⟨fun z hz => ?_, ih⟩
      rcases mergeW_sub keep List.Pairwise.nil hb'.2 hz with h | h
      · simp at h
      · exact hb'.1 _ h
    · exact ih
  | x :: a, [], ha, _ => by
    have ha' := List.pairwise_cons.1 ha
    have ih := mergeW_rise keep a [] ha'.2 List.Pairwise.nil
    unfold mergeW
    split
    · refine List.pairwise_cons.2 ⟨fun z hz => ?_, ih⟩
      rcases mergeW_sub keep ha'.2 List.Pairwise.nil hz with h | h
      · exact ha'.1 _ h
      · simp at h
    · exact ih
  | x :: a, y :: b, ha, hb => by
    have ha' := List.pairwise_cons.1 ha
    have hb' := List.pairwise_cons.1 hb
    unfold mergeW
    by_cases h1 : x < y
    · rw [if_pos h1]
      have ih := mergeW_rise keep a (y :: b) ha'.2 hb
      split
      · refine List.pairwise_cons.2 ⟨fun z hz => ?_, ih⟩
        rcases mergeW_sub keep ha'.2 hb hz with h | h
        · exact ha'.1 _ h
        · rcases List.mem_cons.1 h with e | e
          · omega
          · have := hb'.1 _ e; omega
      · exact ih
    · rw [if_neg h1]
      by_cases h2 : y < x
      · rw [if_pos h2]
        have ih := mergeW_rise keep (x :: a) b ha hb'.2
        split
        · refine List.pairwise_cons.2 ⟨fun z hz => ?_, ih⟩
          rcases mergeW_sub keep ha hb'.2 hz with h | h
          · rcases List.mem_cons.1 h with e | e
            · omega
            · have := ha'.1 _ e; omega
          · exact hb'.1 _ h
        · exact ih
      · rw [if_neg h2]
        have e : x = y := by omega
        subst e
        have ih := mergeW_rise keep a b ha'.2 hb'.2
        split
        · refine List.pairwise_cons.2 ⟨fun z hz => ?_, ih⟩
          rcases mergeW_sub keep ha'.2 hb'.2 hz with h | h
          · exact ha'.1 _ h
          · exact hb'.1 _ h
        · exact ih
termination_by a b => a.length + b.length

theorem mem_both {a b : List Int} (ha : Rise a) (hb : Rise b) (z : Int) : z ∈ both a b ↔ z ∈ a ∧ z ∈ b := by
  unfold both; rw [mergeW_mem _ a b ha hb]; simp
theorem mem_either {a b : List Int} (ha : Rise a) (hb : Rise b) (z : Int) : z ∈ either a b ↔ z ∈ a ∨ z ∈ b := by
  unfold either; rw [mergeW_mem _ a b ha hb]
  by_cases h1 : z ∈ a <;> by_cases h2 : z ∈ b <;> simp [h1, h2]
theorem both_rise {a b : List Int} (ha : Rise a) (hb : Rise b) : Rise (both a b) := mergeW_rise _ _ _ ha hb
theorem either_rise {a b : List Int} (ha : Rise a) (hb : Rise b) : Rise (either a b) := mergeW_rise _ _ _ ha hb
theorem both_comm {a b : List Int} (ha : Rise a) (hb : Rise b) : both b a = both a b :=
  rise_ext (both_rise hb ha) (both_rise ha hb) fun z => by rw [mem_both hb ha, mem_both ha hb, and_comm]
theorem either_comm {a b : List Int} (ha : Rise a) (hb : Rise b) : either b a = either a b :=
  rise_ext (either_rise hb ha) (either_rise ha hb) fun z => by rw [mem_either hb ha, mem_either ha hb, or_comm]
theorem both_self {a : List Int} (ha : Rise a) : both a a = a :=
  rise_ext (both_rise ha ha) ha fun z => by rw [mem_both ha ha, and_self]
theorem both_eq_filter {a b : List Int} (ha : Rise a) (hb : Rise b) : both a b = a.filter (fun x => decide (x ∈ b)) :=
  rise_ext (both_rise ha hb) (List.Pairwise.filter _ ha) fun z => by rw [mem_both ha hb]; simp
theorem both_assoc {a b c : List Int} (ha : Rise a) (hb : Rise b) (hc : Rise c) : both (both a b) c = both a (both b c) :=
  rise_ext (both_rise (both_rise ha hb) hc) (both_rise ha (both_rise hb hc)) fun z => by
    rw [mem_both (both_rise ha hb) hc, mem_both ha hb, mem_both ha (both_rise hb hc), mem_both hb hc, and_assoc]
theorem either_assoc {a b c : List Int} (ha : Rise a) (hb : Rise b) (hc : Rise c) : either (either a b) c = either a (either b c) :=
  rise_ext (either_rise (either_rise ha hb) hc) (either_rise ha (either_rise hb hc)) fun z => by
    rw [mem_either (either_rise ha hb) hc, mem_either ha hb, mem_either ha (either_rise hb hc), mem_either hb hc, or_assoc]
theorem both_either {a b c : List Int} (ha : Rise a) (hb : Rise b) (hc : Rise c) : both a (either b c) = either (both a b) (both a c) :=
  rise_ext (both_rise ha (either_rise hb hc)) (either_rise (both_rise ha hb) (both_rise ha hc)) fun z => by
    rw [mem_both ha (either_rise hb hc), mem_either hb hc, mem_either (both_rise ha hb) (both_rise ha hc), mem_both ha hb, mem_both ha hc, and_or_left]
theorem either_absorb {a b : List Int} (ha : Rise a) (hb : Rise b) : either a (both a b) = a :=
  rise_ext (either_rise ha (both_rise ha hb)) ha fun z => by
    rw [mem_either ha (both_rise ha hb), mem_both ha hb]
    exact ⟨fun h => h.elim id (fun h => h.1), .inl⟩

theorem mergeW_length : ∀ (a b : List Int), (mergeW (fun p q => p && q) a b).length + (mergeW (fun _ _ => true) a b).length = a.length + b.length
  | [], [] => by simp [mergeW]
  | [], y :: b => by
    have ih := mergeW_length [] b
    unfold mergeW
    simp at ih ⊢; omega
  | x :: a, [] => by
    have ih := mergeW_length a []
    unfold mergeW
    simp at ih ⊢; omega
  | x :: a, y :: b => by
    unfold mergeW
    by_cases h1 : x < y
    · have ih := mergeW_length a (y :: b)
      simp [h1] at ih ⊢; omega
    · by_cases h2 : y < x
      · have ih := mergeW_length (x :: a) b
        simp [h1, h2] at ih ⊢; omega
      · have ih := mergeW_length a b
        simp [h1, h2] at ih ⊢; omega
termination_by a b => a.length + b.length
theorem both_either_length (a b : List Int) : (both a b).length + (either a b).length = a.length + b.length := mergeW_length a b
theorem mergeW_len (keep : Bool → Bool → Bool) : ∀ (a b : List Int), (mergeW keep a b).length ≤ a.length + b.length
  | [], [] => by simp [mergeW]
  | [], y :: b => by
    have ih := mergeW_len keep [] b
    unfold mergeW
    split <;> simp at ih ⊢ <;> omega
  | x :: a, [] => by
    have ih := mergeW_len keep a []
    unfold mergeW
    split <;> simp at ih ⊢ <;> omega
  | x :: a, y :: b => by
    have ih1 := mergeW_len keep a (y :: b)
    have ih2 := mergeW_len keep (x :: a) b
    have ih3 := mergeW_len keep a b
    simp only [List.length_cons] at ih1 ih2 ih3
    unfold mergeW
    repeat' split
    all_goals simp only [List.length_cons]; omega
termination_by a b => a.length + b.length

def refE (a : List Int) : Option Int → List Int → List Int
  | lo, [] => a.filter (fun x => lo.all (fun l => decide (l < x)))
  | lo, y :: b => a.filter (fun x => decide (x < y) && lo.all (fun l => decide (l < x))) ++ y :: refE a (some y) b

theorem refE_mem (a : List Int) : ∀ (b : List Int) (lo : Option Int), Rise b → (∀ y ∈ b, ∀ l, lo = some l → l < y) → ∀ z, (z ∈ refE a lo b ↔ (z ∈ a ∧ ∀ l, lo = some l → l < z) ∨ z ∈ b)
  | [], lo, _, _, z => by cases lo <;> simp [refE]
  | y :: b, lo, hb, hl, z => by
    have hb' := List.pairwise_cons.1 hb
    have ih := refE_mem a b (some y) hb'.2 (fun w hw l e => by cases e; exact hb'.1 w hw) z
    have hly : ∀ l, lo = some l → l < y := hl y List.mem_cons_self
    simp only [refE, List.mem_append, List.mem_filter, List.mem_cons, ih]
    cases lo with
    | none =>
      simp
      constructor
      · rintro (⟨h1, h2⟩ | rfl | ⟨h1, h2⟩ | h)
        · exact .inl h1
        · exact .inr (.inl rfl)
        · exact .inl h1
        · exact .inr (.inr h)
      · rintro (h | rfl | h)
        · rcases Int.lt_trichotomy z y with h2 | h2 | h2
          · exact .inl ⟨h, h2⟩
          · exact .inr (.inl h2)
          · exact .inr (.inr (.inl ⟨h, h2⟩))
        · exact .inr (.inl rfl)
        · exact .inr (.inr (.inr h))
    | some l =>
      have hy := hly l rfl
      simp
      constructor
      · rintro (⟨h1, h2, h3⟩ | rfl | ⟨h1, h2⟩ | h)
        · exact .inl ⟨h1, h3⟩
        · exact .inr (.inl rfl)
        · exact .inl ⟨h1, by omega⟩
        · exact .inr (.inr h)
      · rintro (⟨h, h3⟩ | rfl | h)
        · rcases Int.lt_trichotomy z y with h2 | h2 | h2
          · exact .inl ⟨h, h2, h3⟩
          · exact .inr (.inl h2)
          · exact .inr (.inr (.inl ⟨h, h2⟩))
        · exact .inr (.inl rfl)
        · exact .inr (.inr (.inr h))

theorem refE_rise (a : List Int) (ha : Rise a) : ∀ (b : List Int) (lo : Option Int), Rise b → (∀ y ∈ b, ∀ l, lo = some l → l < y) → Rise (refE a lo b)
  | [], lo, _, _ => by unfold refE; exact List.Pairwise.filter _ ha
  | y :: b, lo, hb, hl => by
    have hb' := List.pairwise_cons.1 hb
    have hq : ∀ w ∈ b, ∀ l, some y = some l → l < w := fun w hw l e => by cases e; exact hb'.1 w hw
    have ih := refE_rise a ha b (some y) hb'.2 hq
    have hm := refE_mem a b (some y) hb'.2 hq
    unfold refE
    have h2 : Rise (y :: refE a (some y) b) := List.pairwise_cons.2 ⟨fun z hz => by
      rcases (hm z).1 hz with ⟨_, h⟩ | h
      · exact h y rfl
      · exact hb'.1 z h, ih⟩
    refine List.pairwise_append.2 ⟨List.Pairwise.filter _ ha, h2, fun x hx w hw => ?_⟩
    have hxy : x < y := by
      have := (List.mem_filter.1 hx).2
      simp at this
      exact this.1
    rcases List.mem_cons.1 hw with e | e
    · omega
    · rcases (hm w).1 e with ⟨_, h⟩ | h
      · have := h y rfl; omega
      · have := hb'.1 w h; omega
theorem either_eq_ref {a b : List Int} (ha : Rise a) (hb : Rise b) : either a b = refE a none b :=
  rise_ext (either_rise ha hb) (refE_rise a ha b none hb (by simp)) fun z => by
    rw [mem_either ha hb, refE_mem a b none hb (by simp)]; simp
end Go.Proofs.Yteahpkihkfkpfaa
