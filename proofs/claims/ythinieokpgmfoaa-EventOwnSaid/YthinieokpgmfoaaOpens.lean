/- An argument as the form reads it, as a kind's cells. Own work; nothing of a program in it. -/
import Derived.Test.YthinieokpgmfoaaKit
import Derived.ProofKit
import Derived.OpenShut
import Derived.Deep.Slices
set_option linter.unusedVariables false
set_option linter.unusedSimpArgs false
namespace Go.Proofs.Ythinieokpgmfoaa
open Go.RowKit Go.Deep

def Opens {α : Type} (P : Program) (t : TypeId) (d : Kn α) (good : α → Prop) : Prop :=
  ∀ (H : Type) (enc : TypeId × Value → H) (w : World) (base : Nat) (spare : Nat → Bool) (held : Bool) (fuel : Nat) (cs : List Value) (x : DataW H × List MemPlace),
    DataW.trod enc P w base spare held fuel t cs = some x → ∃ y : α, d.K (fun _ => True) w y cs ∧ good y

theorem list_of {α : Type} {R : Nat → α → Prop} : ∀ (n : Nat), (∀ j, j < n → ∃ x, R j x) → ∃ xs : List α, xs.length = n ∧ ∀ j x, xs[j]? = some x → R j x
  | 0, _ => ⟨[], rfl, fun j x h => by simp at h⟩
  | n + 1, h => by
    obtain ⟨xs, hl, hx⟩ := list_of n (fun j hj => h j (by omega))
    obtain ⟨x, hn⟩ := h n (by omega)
    refine ⟨xs ++ [x], by simp [hl], fun j y hj => ?_⟩
    rcases Nat.lt_or_ge j xs.length with hlt | hge
    · rw [List.getElem?_append_left hlt] at hj
      exact hx j y hj
    · have hj' : j = xs.length := by
        have := (List.getElem?_eq_some_iff.1 hj).1
        rw [List.length_append, List.length_singleton] at this
        omega
      subst hj'
      have : x = y := by simpa using hj
      subst this
      rw [hl]; exact hn

section
variable {P : Program} {t e : TypeId}
theorem Opens.int {k : IntKind} (ht : P.underlying t = some (.int k)) : Opens P t (Kn.int k) (fun n => (Lit.int k n).wf = true) := by
  intro H enc w base spare held fuel cs x h
  obtain ⟨n, rfl, _, hw⟩ := DataW.trod_int ht h
  exact ⟨n, rfl, hw⟩
theorem Opens.bool (ht : P.underlying t = some .bool) : Opens P t Kn.bool (fun _ => True) := by
  intro H enc w base spare held fuel cs x h
  obtain ⟨n, rfl, _⟩ := DataW.trod_bool ht h
  exact ⟨n, rfl, trivial⟩
theorem Opens.str (ht : P.underlying t = some .string) : Opens P t Kn.str (fun s => s.size ≤ maxLen) := by
  intro H enc w base spare held fuel cs x h
  obtain ⟨n, rfl, _, hw⟩ := DataW.trod_string ht h
  exact ⟨n, rfl, hw⟩
theorem Opens.slice {α : Type} {d : Kn α} {good : α → Prop} (ht : P.underlying t = some (.slice e)) (hC : P.cellsOf e = d.sz) (h0 : 0 < d.sz) (he : Opens P e d good) : Opens P t (Kn.slice d) (fun xs => ∀ x ∈ xs, good x) := by
  intro H enc w base spare held fuel cs x h
  rcases open_slice ht h with ⟨rfl, _⟩ | ⟨a, len, cap, m, n, D, Pl, rfl, hb, hl, hm, hmm, _, hi⟩
  · exact ⟨[], ⟨none, 0, rfl, Nat.le_refl _, by simp [maxLen], Row.nil_⟩, by simp⟩
  · rw [hC] at hi
    have hlm : len ≤ m := by rw [hmm]; split <;> omega
    obtain ⟨xs, hxl, hxs⟩ := list_of (R := fun j y => ∃ cs', cs'.length = d.sz ∧ d.K (fun _ => True) w y cs' ∧ good y ∧ ∀ i, i < d.sz → w.cell? (a.add (j * d.sz + i)) = cs'[i]?) len (fun j hj => by
      obtain ⟨cs', hc, ht'⟩ := hi j (by omega)
      obtain ⟨y, hk, hg⟩ := he _ _ _ _ _ _ _ _ _ ht'
      obtain ⟨_, hcl, hat⟩ := World.cells?_some hc
      exact ⟨y, cs', hcl, hk, hg, fun i hid => by rw [← Go.Deep.add_add]; exact hat i hid⟩)
    refine ⟨xs, ⟨some a, cap, by rw [hxl], by omega, hm, fun hn => ⟨a, rfl, trivial, ?_, fun j y hj => ?_⟩⟩, fun y hy => ?_⟩
    · obtain ⟨cs', hcl, hk, _, hat⟩ := hxs 0 _ (List.getElem?_eq_getElem hn)
      have := hat 0 h0
      rw [List.getElem?_eq_getElem (by omega)] at this
      have := World.block_lt_of_cell? w _ this
      rw [block_add] at this
      exact this
    · obtain ⟨cs', hcl, hk, _, hat⟩ := hxs j y hj
      exact ⟨cs', hcl, hk, fun i u hu => by rw [hat i (by have := (List.getElem?_eq_some_iff.1 hu).1; omega)]; exact hu⟩
    · obtain ⟨j, hj⟩ := List.getElem?_of_mem hy
      obtain ⟨_, _, _, hg, _⟩ := hxs j y hj
      exact hg

/-- The fields of a struct from one on. -/
def OpensFs {α : Type} (P : Program) (fs : List Field) (off : Nat) (d : Kn α) (good : α → Prop) : Prop :=
  ∀ (H : Type) (enc : TypeId × Value → H) (w : World) (base : Nat) (spare : Nat → Bool) (held : Bool) (fuel : Nat) (cs : List Value), cs.length = off + d.sz →
    (∀ f ∈ fs, ∃ x, DataW.trod enc P w base spare held fuel f.type ((cs.drop f.offset).take (P.cellsOf f.type)) = some x) → ∃ y : α, d.K (fun _ => True) w y (cs.drop off) ∧ good y
theorem OpensFs.last {α : Type} {d : Kn α} {good : α → Prop} {f : Field} (h : Opens P f.type d good) (hC : P.cellsOf f.type = d.sz) : OpensFs P [f] f.offset d good := by
  intro H enc w base spare held fuel cs hl hf
  obtain ⟨x, hx⟩ := hf f (by simp)
  obtain ⟨y, hk, hg⟩ := h _ _ _ _ _ _ _ _ _ hx
  rw [hC, List.take_of_length_le (by rw [List.length_drop]; omega)] at hk
  exact ⟨y, hk, hg⟩
theorem OpensFs.cons {α β : Type} {d : Kn α} {d' : Kn β} {good : α → Prop} {good' : β → Prop} {f : Field} {fs : List Field} (h : Opens P f.type d good) (hC : P.cellsOf f.type = d.sz) (hr : OpensFs P fs (f.offset + d.sz) d' good') :
    OpensFs P (f :: fs) f.offset (Kn.pair d d') (fun y => good y.1 ∧ good' y.2) := by
  intro H enc w base spare held fuel cs hl hf
  obtain ⟨x, hx⟩ := hf f (by simp)
  obtain ⟨y, hk, hg⟩ := h _ _ _ _ _ _ _ _ _ hx
  rw [hC] at hk
  obtain ⟨z, hk', hg'⟩ := hr H enc w base spare held fuel cs (by rw [hl]; simp [Kn.pair, Nat.add_assoc]) (fun f' hf' => hf f' (by simp [hf']))
  refine ⟨(y, z), ⟨_, _, ?_, hk, hk'⟩, hg, hg'⟩
  rw [← List.drop_drop]
  exact (List.take_append_drop _ _).symm
theorem Opens.struct {α : Type} {d : Kn α} {good : α → Prop} {fs : Array Field} (ht : P.underlying t = some (.struct fs)) (hC : P.cellsOf t = d.sz) (h : OpensFs P fs.toList 0 d good) : Opens P t d good := by
  intro H enc w base spare held fuel cs x hx
  obtain ⟨xs, n, rfl, _, hl, hxl, hf⟩ := DataW.trod_struct ht hx
  obtain ⟨y, hk, hg⟩ := h H enc w base spare held n cs (by rw [hl, hC]; omega) (fun f hfm => by
    obtain ⟨i, hi⟩ := List.getElem?_of_mem hfm
    have hi' : fs[i]? = some f := by simpa using hi
    have h1 := hf i f hi'
    have h2 : i < xs.length := by rw [hxl]; exact (Array.getElem?_eq_some_iff.1 hi').1
    exact ⟨xs[i], h1.trans (List.getElem?_eq_getElem h2)⟩)
  exact ⟨y, by simpa using hk, hg⟩
theorem Opens.iso {α β : Type} {d : Kn α} {good : α → Prop} (h : Opens P t d good) (f : β → α) (g : α → β) (hfg : ∀ x, f (g x) = x) : Opens P t (Kn.iso d f) (fun y => good (f y)) := by
  intro H enc w base spare held fuel cs x hx
  obtain ⟨y, hk, hg⟩ := h _ _ _ _ _ _ _ _ _ hx
  exact ⟨g y, by show d.K _ w (f (g y)) cs; rw [hfg]; exact hk, by show good (f (g y)); rw [hfg]; exact hg⟩
/-- A whole argument. -/
theorem Opens.arg {α : Type} {d : Kn α} {good : α → Prop} (h : Opens P t d good) {H : Type} {enc : TypeId × Value → H} {w : World} {base : Nat} {spare : Nat → Bool} {held : Bool} {v : Value} {dt : DataW H} {p : List MemPlace}
    (hx : DataW.Trod enc P w base spare held t v dt p) : ∃ y : α, d.K (fun _ => True) w y v.cells.toList ∧ good y := by
  obtain ⟨fuel, hf⟩ := hx
  exact h _ _ _ _ _ _ _ _ _ hf
end
end Go.Proofs.Ythinieokpgmfoaa
