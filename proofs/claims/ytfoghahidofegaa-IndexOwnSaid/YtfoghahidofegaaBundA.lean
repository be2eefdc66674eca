/- Kinds of values with their footprint: what a value's cells say in a world, and which blocks that hangs on. Own work; nothing of a program in it. Blocks that are known whole (boxes of variables); what stands beside them. Own work. append(v, ys...): an own row grown by a row that is read; a row of one element in a block of its own. Own work. append(v, y) at a step of a region that draws. Own work. Clauses, queries, fields, events as Lean data, and as kinds of cells. An argument as the form reads it, as a kind's cells. Own work; nothing of a program in it. The program's types as kinds, and that arguments of these types open to them. Rows of texts: slices.Index, Contains, IndexFunc, ContainsFunc at []string. What a query asks for, as plain data. The order of texts. registrarref04.Texts. registrarref04.Texts. -/
import Derived.Below
import Derived.Maps.AppendAt
import Derived.Deep.Draws
import Derived.OwnWalk
import Derived.Lib.Hide
import Derived.Deep.AppendLies
import Derived.Laws.AppendOwnNone
import Derived.Deep.RegionLaw
import Derived.ProofKit
import Derived.OpenShut
import Derived.Deep.Slices
import Derived.Test.YtfoghahidofegaaProg
import Derived.WalkKit
import Derived.WalkSpells
import Derived.WalkLawsBesides
import Derived.Deep.QuietTactic
import Derived.BigQuiet
import Derived.Deep.DeepCutAuto
import Derived.Shelf.Abstract
import Derived.Lib.Strings
import Derived.Laws.EntriesVeiled
set_option linter.unusedVariables false
set_option linter.unusedSimpArgs false
namespace Go.Proofs.Ytfoghahidofegaa
open Go.RowKit

theorem block_add (a : Addr) (n : Nat) : (a.add n).block = a.block := by unfold Addr.add; split <;> rfl
theorem add_add (a : Addr) (i j : Nat) : (a.add i).add j = a.add (i + j) := by
  unfold Addr.add
  by_cases hi : i = 0 <;> by_cases hj : j = 0 <;> simp [hi, hj, Nat.add_assoc]
theorem add_pos (a : Addr) (n : Nat) (h : 0 < n) : a.add n = ⟨a.block, a.off + n, none⟩ := by unfold Addr.add; rw [if_neg (by omega)]

theorem below_drewN {B : Nat} {a w : World} (h : Below B a w) (n : Nat) : Below B a (w.drewN n) := ⟨h.os, h.tape, h.output, h.size, h.block⟩

theorem bthen {w w1 w2 : World} (h : Below w.heap.size w w1) (k : Below w1.heap.size w1 w2) : Below w.heap.size w w2 := h.trans (k.mono h.size)

theorem alloc_old (w : World) (o : Obj) (k : Nat) (hk : k < w.heap.size) : (w.alloc o).heap[k]? = w.heap[k]? := ((Below.refl w.heap.size w).alloc (Nat.le_refl _) o).block k hk

/-- What a value's cells say (K): 'ok': the blocks that it may hang on. -/
structure Kn (α : Type) where
  sz : Nat
  K : (Nat → Prop) → World → α → List Value → Prop
  len : ∀ {ok : Nat → Prop} {w : World} {x : α} {cs : List Value}, K ok w x cs → cs.length = sz
  one : ∀ {ok : Nat → Prop} {w : World} {x : α} {cs : List Value}, K ok w x cs → ∀ u ∈ cs, u.oneCell' = true
  mono : ∀ {ok ok' : Nat → Prop} {w : World} {x : α} {cs : List Value}, (∀ k, ok k → ok' k) → K ok w x cs → K ok' w x cs
  bound : ∀ {ok : Nat → Prop} {w : World} {x : α} {cs : List Value}, K ok w x cs → K (fun k => ok k ∧ k < w.heap.size) w x cs
  move : ∀ {ok : Nat → Prop} {w w' : World} {x : α} {cs : List Value}, w.heap.size ≤ w'.heap.size → (∀ k, ok k → w'.heap[k]? = w.heap[k]?) → K ok w x cs → K ok w' x cs

/-- A row of elements at an address. -/
def Row {α : Type} (d : Kn α) (ok : Nat → Prop) (w : World) (A : Option Addr) (xs : List α) : Prop :=
  0 < xs.length → ∃ ad, A = some ad ∧ ok ad.block ∧ ad.block < w.heap.size ∧ ∀ j x, xs[j]? = some x → ∃ cs, cs.length = d.sz ∧ d.K ok w x cs ∧ ∀ i u, cs[i]? = some u → w.cell? (ad.add (j * d.sz + i)) = some u

section
variable {α : Type} {d : Kn α} {ok ok' : Nat → Prop} {w w' : World} {A : Option Addr} {xs : List α} {x : α} {cs : List Value}

/-- What it hangs on stays. -/
theorem Kn.stay (h : d.K ok w x cs) (hs : w.heap.size ≤ w'.heap.size) (hm : ∀ k, ok k → k < w.heap.size → w'.heap[k]? = w.heap[k]?) : d.K ok w' x cs :=
  d.mono (fun _ hk => hk.1) (d.move hs (fun k hk => hm k hk.1 hk.2) (d.bound h))
theorem Kn.below (h : d.K ok w x cs) (hb : Below w.heap.size w w') : d.K ok w' x cs := d.stay h hb.size (fun k _ hk => hb.block k hk)

theorem Row.nil_ : Row d ok w A [] := fun h => absurd h (by simp)
theorem Row.mono (h : Row d ok w A xs) (hm : ∀ k, ok k → ok' k) : Row d ok' w A xs := fun hn => by
  obtain ⟨ad, e, h1, h2, h3⟩ := h hn
  refine ⟨ad, e, hm _ h1, h2, fun j x hj => ?_⟩
  obtain ⟨cs, hl, hk, hc⟩ := h3 j x hj
  exact ⟨cs, hl, d.mono hm hk, hc⟩
theorem Row.bound (h : Row d ok w A xs) : Row d (fun k => ok k ∧ k < w.heap.size) w A xs := fun hn => by
  obtain ⟨ad, e, h1, h2, h3⟩ := h hn
  refine ⟨ad, e, ⟨h1, h2⟩, h2, fun j x hj => ?_⟩
  obtain ⟨cs, hl, hk, hc⟩ := h3 j x hj
  exact ⟨cs, hl, d.bound hk, hc⟩
theorem Row.move (h : Row d ok w A xs) (hs : w.heap.size ≤ w'.heap.size) (hm : ∀ k, ok k → w'.heap[k]? = w.heap[k]?) : Row d ok w' A xs := fun hn => by
  obtain ⟨ad, e, h1, h2, h3⟩ := h hn
  refine ⟨ad, e, h1, by omega, fun j x hj => ?_⟩
  obtain ⟨cs, hl, hk, hc⟩ := h3 j x hj
  exact ⟨cs, hl, d.move hs hm hk, fun i u hu => (World.cell?_of_block (w := w) (by rw [block_add]; exact hm _ h1)).trans (hc i u hu)⟩
theorem Row.stay (h : Row d ok w A xs) (hs : w.heap.size ≤ w'.heap.size) (hm : ∀ k, ok k → k < w.heap.size → w'.heap[k]? = w.heap[k]?) : Row d ok w' A xs :=
  Row.mono (Row.move (Row.bound h) hs (fun k hk => hm k hk.1 hk.2)) (fun _ hk => hk.1)
theorem Row.below (h : Row d ok w A xs) (hb : Below w.heap.size w w') : Row d ok w' A xs := h.stay hb.size (fun k _ hk => hb.block k hk)
theorem Row.at_ (h : Row d ok w A xs) {j : Nat} (hj : j < xs.length) :
    ∃ ad cs, A = some ad ∧ ok ad.block ∧ ad.block < w.heap.size ∧ cs.length = d.sz ∧ d.K ok w xs[j] cs ∧ ∀ i u, cs[i]? = some u → w.cell? (ad.add (j * d.sz + i)) = some u := by
  obtain ⟨ad, e, h1, h2, h3⟩ := h (by omega)
  obtain ⟨cs, hl, hk, hc⟩ := h3 j _ (List.getElem?_eq_getElem hj)
  exact ⟨ad, cs, e, h1, h2, hl, hk, hc⟩
theorem Row.under {B : Nat} (h : Row d (fun k => k < B) w A xs) (hb : Below B w w') : Row d (fun k => k < B) w' A xs := h.stay hb.size (fun k hk _ => hb.block k hk)
theorem Row.drewN (h : Row d ok w A xs) (n : Nat) : Row d ok (w.drewN n) A xs := h.stay (Nat.le_refl _) (fun _ _ _ => rfl)
/-- A cut at its begin: the address as the model's cut gives it. -/
theorem Row.cut (h : Row d ok w A xs) {k cap : Nat} (hc : xs.length ≤ cap) : Row d ok w (if cap = k then A else A.map (·.add (k * d.sz))) (xs.drop k) := fun hn => by
  rw [List.length_drop] at hn
  obtain ⟨ad, e, h1, h2, h3⟩ := h (by omega)
  subst e
  rw [if_neg (by omega)]
  refine ⟨ad.add (k * d.sz), rfl, by rw [block_add]; exact h1, by rw [block_add]; exact h2, fun j x hj => ?_⟩
  rw [List.getElem?_drop] at hj
  obtain ⟨cs, hl, hk, hcell⟩ := h3 _ x hj
  refine ⟨cs, hl, hk, fun i u hu => ?_⟩
  rw [add_add, show k * d.sz + (j * d.sz + i) = (k + j) * d.sz + i by rw [Nat.add_mul, Nat.add_assoc]]
  exact hcell i u hu
/-- A cut at its end. -/
theorem Row.take (h : Row d ok w A xs) (k : Nat) : Row d ok w A (xs.take k) := fun hn => by
  rw [List.length_take] at hn
  obtain ⟨ad, e, h1, h2, h3⟩ := h (by omega)
  refine ⟨ad, e, h1, h2, fun j x hj => h3 j x ?_⟩
  rw [List.getElem?_take] at hj
  split at hj
  · exact hj
  · cases hj
end

namespace Kn
/-- One cell. -/
def scalar {α : Type} (enc : α → Value) (h1 : ∀ x, (enc x).oneCell' = true) : Kn α where
  sz := 1
  K := fun _ _ x cs => cs = [enc x]
  len := fun h => by rw [h]; rfl
  one := fun h u hu => by
    rw [h] at hu
    rw [List.mem_singleton.1 hu]
    exact h1 _
  mono := fun _ h => h
  bound := fun h => h
  move := fun _ _ h => h
def int (k : IntKind) : Kn Int := scalar (Value.int k) (fun _ => rfl)
def bool : Kn Bool := scalar Value.bool (fun _ => rfl)
def str : Kn ByteArray := scalar Value.string (fun _ => rfl)
def slice {α : Type} (d : Kn α) : Kn (List α) where
  sz := 1
  K := fun ok w xs cs => ∃ A c, cs = [.slice A xs.length c] ∧ xs.length ≤ c ∧ c ≤ maxLen ∧ Row d ok w A xs
  len := by
    rintro ok w x cs ⟨A, c, rfl, _⟩
    rfl
  one := by
    rintro ok w x cs ⟨A, c, rfl, _⟩ u hu
    rw [List.mem_singleton.1 hu]
    rfl
  mono := by
    rintro ok ok' w x cs hm ⟨A, c, rfl, h1, h2, h3⟩
    exact ⟨A, c, rfl, h1, h2, h3.mono hm⟩
  bound := by
    rintro ok w x cs ⟨A, c, rfl, h1, h2, h3⟩
    exact ⟨A, c, rfl, h1, h2, h3.bound⟩
  move := by
    rintro ok w w' x cs hs hm ⟨A, c, rfl, h1, h2, h3⟩
    exact ⟨A, c, rfl, h1, h2, h3.move hs hm⟩
def pair {α β : Type} (a : Kn α) (b : Kn β) : Kn (α × β) where
  sz := a.sz + b.sz
  K := fun ok w x cs => ∃ c0 c1, cs = c0 ++ c1 ∧ a.K ok w x.1 c0 ∧ b.K ok w x.2 c1
  len := by
    rintro ok w x cs ⟨c0, c1, rfl, h0, h1⟩
    rw [List.length_append, a.len h0, b.len h1]
  one := by
    rintro ok w x cs ⟨c0, c1, rfl, h0, h1⟩ u hu
    rcases List.mem_append.1 hu with hu | hu
    · exact a.one h0 u hu
    · exact b.one h1 u hu
  mono := by
    rintro ok ok' w x cs hm ⟨c0, c1, rfl, h0, h1⟩
    exact ⟨c0, c1, rfl, a.mono hm h0, b.mono hm h1⟩
  bound := by
    rintro ok w x cs ⟨c0, c1, rfl, h0, h1⟩
    exact ⟨c0, c1, rfl, a.bound h0, b.bound h1⟩
  move := by
    rintro ok w w' x cs hs hm ⟨c0, c1, rfl, h0, h1⟩
    exact ⟨c0, c1, rfl, a.move hs hm h0, b.move hs hm h1⟩
def iso {α β : Type} (d : Kn α) (f : β → α) : Kn β where
  sz := d.sz
  K := fun ok w x cs => d.K ok w (f x) cs
  len := d.len
  one := d.one
  mono := d.mono
  bound := d.bound
  move := d.move
end Kn

/-! ## A row of the call's own, being built -/
theorem flat_at {sz : Nat} : ∀ (css : List (List Value)) (_ : ∀ c ∈ css, c.length = sz) (j i : Nat) (c : List Value) (u : Value), css[j]? = some c → c[i]? = some u → css.flatten[j * sz + i]? = some u
  | [], _, j, i, c, u, hc, _ => by simp at hc
  | c0 :: css, hs, 0, i, c, u, hc, hu => by
    simp at hc
    subst hc
    rw [List.flatten_cons, Nat.zero_mul, Nat.zero_add, List.getElem?_append_left (List.getElem?_eq_some_iff.1 hu).1]
    exact hu
  | c0 :: css, hs, j + 1, i, c, u, hc, hu => by
    have h0 : c0.length = sz := hs c0 List.mem_cons_self
    rw [List.flatten_cons, List.getElem?_append_right (by rw [h0, Nat.add_mul]; omega), h0, show (j + 1) * sz + i - sz = j * sz + i by rw [Nat.add_mul]; omega]
    exact flat_at css (fun c hc => hs c (List.mem_cons_of_mem _ hc)) j i c u (by simpa using hc) hu

/-- v is a row of elements (type e) of the call's own, from block 'base' on; what its elements hang on is ok, and none of it is the row itself. -/
def Own {α : Type} (d : Kn α) (e : TypeId) (base : Nat) (ok : Nat → Prop) (w : World) (v : Value) (xs : List α) : Prop :=
  ∃ css : List (List Value), w.ownsRow base e d.sz v xs.length css.flatten ∧ css.length = xs.length ∧ (∀ c ∈ css, c.length = d.sz) ∧ (∀ c ∈ css, ∀ u ∈ c, u.oneCell' = true) ∧
    ∀ (j : Nat) (x : α), xs[j]? = some x → ∃ cs : List Value, css[j]? = some cs ∧ d.K (fun k => ok k ∧ some k ≠ v.ownBlock) w x cs

section
variable {α : Type} {d : Kn α} {e : TypeId} {base : Nat} {ok ok' : Nat → Prop} {w w' : World} {v : Value} {xs : List α}

theorem own_base {n size : Nat} {cs : List Value} (h : w.ownsRow base e size v n cs) (k : Nat) (hk : v.ownBlock = some k) : base ≤ k := (h.lt k hk).1
theorem own_lt {n size : Nat} {cs : List Value} (h : w.ownsRow base e size v n cs) (k : Nat) (hk : v.ownBlock = some k) : k < w.heap.size := (h.lt k hk).2

theorem own_stay {n size : Nat} {cs : List Value} (h : w.ownsRow base e size v n cs) (hm : ∀ k, v.ownBlock = some k → w'.heap[k]? = w.heap[k]?) : w'.ownsRow base e size v n cs := by
  obtain ⟨h1, h2⟩ := h
  refine ⟨h1, ?_⟩
  rcases h2 with h2 | ⟨g, cap, cur, rfl, hg, hh, r⟩
  · exact .inl h2
  · exact .inr ⟨g, cap, cur, rfl, hg, (hm g (by simp [Value.ownBlock])).trans hh, r⟩

theorem Own.nil_ (d : Kn α) (e : TypeId) (base : Nat) (ok : Nat → Prop) (w : World) : Own d e base ok w (.slice none 0 0) [] :=
  ⟨[], World.ownsRow_nil _ _ _ _, rfl, by simp, by simp, by simp⟩
/-- What it hangs on, and its own row, stay. -/
theorem Own.stay (h : Own d e base ok w v xs) (hs : w.heap.size ≤ w'.heap.size) (hm : ∀ k, (ok k ∨ v.ownBlock = some k) → k < w.heap.size → w'.heap[k]? = w.heap[k]?) : Own d e base ok w' v xs := by
  obtain ⟨css, h1, h2, h3, h4, h5⟩ := h
  refine ⟨css, own_stay h1 (fun k hk => hm k (.inr hk) (own_lt h1 k hk)), h2, h3, h4, fun j x hj => ?_⟩
  obtain ⟨cs, h6, h7⟩ := h5 j x hj
  exact ⟨cs, h6, d.stay h7 hs (fun k hk hlt => hm k (.inl hk.1) hlt)⟩
theorem Own.below (h : Own d e base ok w v xs) (hb : Below w.heap.size w w') : Own d e base ok w' v xs := h.stay hb.size (fun k _ hk => hb.block k hk)
theorem Own.drewN (h : Own d e base ok w v xs) (n : Nat) : Own d e base ok (w.drewN n) v xs := h.stay (Nat.le_refl _) (fun _ _ _ => rfl)
theorem Own.mono (h : Own d e base ok w v xs) (hm : ∀ k, ok k → ok' k) : Own d e base ok' w v xs := by
  obtain ⟨css, h1, h2, h3, h4, h5⟩ := h
  refine ⟨css, h1, h2, h3, h4, fun j x hj => ?_⟩
  obtain ⟨cs, h6, h7⟩ := h5 j x hj
  exact ⟨cs, h6, d.mono (fun k hk => ⟨hm k hk.1, hk.2⟩) h7⟩
theorem Own.lower {base' : Nat} (h : Own d e base ok w v xs) (hb : base' ≤ base) : Own d e base' ok w v xs := by
  obtain ⟨css, h1, h2⟩ := h
  obtain ⟨h3, h4⟩ := h1
  refine ⟨css, ⟨h3, ?_⟩, h2⟩
  rcases h4 with h4 | ⟨g, cap, cur, rfl, hg, r⟩
  · exact .inl h4
  · exact .inr ⟨g, cap, cur, rfl, Nat.le_trans hb hg, r⟩
/-- '[]T{}'. -/
theorem Own.lit0 (d : Kn α) (e : TypeId) (base : Nat) (ok : Nat → Prop) (w : World) (hb : base ≤ w.heap.size) : Own d e base ok (w.alloc (.cells #[] e)) (.slice (some ⟨w.heap.size, 0, none⟩) 0 0) [] :=
  ⟨[], by simpa using World.ownsRow_made (e := e) (size := d.sz) w #[] 0 hb (by simp [maxLen]) (by simp), rfl, by simp, by simp, by simp⟩
/-- Read as a row. -/
theorem Own.reads (h : Own d e base ok w v xs) : ∃ A c, v = .slice A xs.length c ∧ xs.length ≤ c ∧ c ≤ maxLen ∧ Row d (fun k => ok k ∨ base ≤ k) w A xs := by
  obtain ⟨css, h1, h2, h3, h4, h5⟩ := h
  obtain ⟨hl, hc⟩ := h1
  rcases hc with ⟨rfl, hn⟩ | ⟨g, cap, cur, rfl, hg, hh, hncap, hcap, hcur, htake⟩
  · have : xs = [] := List.eq_nil_of_length_eq_zero hn
    subst this
    exact ⟨none, 0, rfl, Nat.le_refl _, by simp [maxLen], Row.nil_⟩
  · refine ⟨_, cap, rfl, hncap, hcap, fun _ => ⟨_, rfl, .inr hg, (Array.getElem?_eq_some_iff.1 hh).1, fun j x hj => ?_⟩⟩
    obtain ⟨cs, hcs, hk⟩ := h5 j x hj
    refine ⟨cs, h3 _ (List.mem_of_getElem? hcs), d.mono (fun k hk => .inl hk.1) hk, fun i u hu => ?_⟩
    have hf := flat_at css h3 j i cs u hcs hu
    have ho : w.ownsRow base e d.sz (.slice (some ⟨g, 0, none⟩) xs.length cap) xs.length css.flatten := ⟨hl, .inr ⟨g, cap, cur, rfl, hg, hh, hncap, hcap, hcur, htake⟩⟩
    exact ho.cells (g := g) rfl _ u hf
/-- Its value as a kind's cell. -/
theorem Own.kind (h : Own d e base ok w v xs) : (Kn.slice d).K (fun k => ok k ∨ base ≤ k) w xs [v] := by
  obtain ⟨A, c, rfl, h1, h2, h3⟩ := h.reads
  exact ⟨A, c, rfl, h1, h2, h3⟩
theorem Own.len_le (h : Own d e base ok w v xs) : xs.length ≤ maxLen := by
  obtain ⟨A, c, _, h1, h2, _⟩ := h.reads
  omega
end

/-! ## A slice value at hand: '.slice A xs.length c' -/
def Sl {α : Type} (d : Kn α) (ok : Nat → Prop) (w : World) (A : Option Addr) (c : Nat) (xs : List α) : Prop := xs.length ≤ c ∧ c ≤ maxLen ∧ Row d ok w A xs
section
variable {α : Type} {d : Kn α} {ok ok' : Nat → Prop} {w w' : World} {A : Option Addr} {c : Nat} {xs : List α}
theorem Sl.below (h : Sl d ok w A c xs) (hb : Below w.heap.size w w') : Sl d ok w' A c xs := ⟨h.1, h.2.1, h.2.2.below hb⟩
theorem Sl.stay (h : Sl d ok w A c xs) (hs : w.heap.size ≤ w'.heap.size) (hm : ∀ k, ok k → k < w.heap.size → w'.heap[k]? = w.heap[k]?) : Sl d ok w' A c xs := ⟨h.1, h.2.1, h.2.2.stay hs hm⟩
theorem Sl.mono (h : Sl d ok w A c xs) (hm : ∀ k, ok k → ok' k) : Sl d ok' w A c xs := ⟨h.1, h.2.1, h.2.2.mono hm⟩
theorem Sl.any (h : Sl d ok w A c xs) : Sl d (fun _ => True) w A c xs := h.mono (fun _ _ => trivial)
theorem Sl.drewN (h : Sl d ok w A c xs) (n : Nat) : Sl d ok (w.drewN n) A c xs := ⟨h.1, h.2.1, h.2.2.drewN n⟩
theorem Sl.alloc (h : Sl d ok w A c xs) (o : Obj) : Sl d ok (w.alloc o) A c xs := h.below ((Below.refl _ _).alloc (Nat.le_refl _) o)
theorem Sl.nil_ : Sl d ok w none 0 [] := ⟨Nat.le_refl _, by simp [maxLen], Row.nil_⟩
theorem Sl.kind (h : Sl d ok w A c xs) : (Kn.slice d).K ok w xs [.slice A xs.length c] := ⟨A, c, rfl, h.1, h.2.1, h.2.2⟩
theorem Own.sl {e : TypeId} {base : Nat} {v : Value} (h : Own d e base ok w v xs) : ∃ A c, v = .slice A xs.length c ∧ Sl d (fun k => ok k ∨ base ≤ k) w A c xs := by
  obtain ⟨A, c, h1, h2, h3, h4⟩ := h.reads
  exact ⟨A, c, h1, h2, h3, h4⟩
/-- '[]T{x, y, ..}' of one-cell elements. -/
theorem Sl.lit {α : Type} (enc : α → Value) (h1 : ∀ x, (enc x).oneCell' = true) (w : World) (e : TypeId) (xs : List α) (hl : xs.length ≤ maxLen) :
    Sl (Kn.scalar enc h1) (fun k => w.heap.size ≤ k) (w.alloc (.cells (xs.map enc).toArray e)) (some ⟨w.heap.size, 0, none⟩) xs.length xs := by
  refine ⟨Nat.le_refl _, hl, fun _ => ⟨_, rfl, Nat.le_refl _, by simp, fun j x hj => ⟨[enc x], rfl, rfl, fun i u hu => ?_⟩⟩⟩
  have hi : i = 0 := by
    have := (List.getElem?_eq_some_iff.1 hu).1
    simp at this; omega
  subst hi
  have : u = enc x := by simpa using hu.symm
  subst this
  rw [show (⟨w.heap.size, 0, none⟩ : Addr).add (j * (Kn.scalar enc h1).sz + 0) = ⟨w.heap.size, j, none⟩ by
    unfold Addr.add
    split
    · rename_i h0; simp [Kn.scalar] at h0; subst h0; rfl
    · simp [Kn.scalar]]
  have hb := heap_alloc_new w (.cells (xs.map enc).toArray e)
  rw [cell_of_row _ _ _ _ _ _ hb]
  simp [hj]
end

/-! ## append(v, y) at the operation -/
section
variable {α : Type} {d : Kn α} {P : Program} {ops : Array Oper} {rest : List Oper} {o : Oper} {a : Act} {Q : Exit → Act → World → Prop}
/-- The row's one more element, in the world behind an append. -/
theorem Own.pushed {e : TypeId} {base : Nat} {ok : Nat → Prop} {W w1 : World} {v v1 : Value} {xs : List α} {y : α} {cs : List Value} (h : Own d e base ok W v xs) (hk : d.K (fun k => ok k ∧ some k ≠ v.ownBlock) W y cs)
    (hrow : ∀ css : List (List Value), W.ownsRow base e d.sz v xs.length css.flatten → w1.ownsRow base e d.sz v1 (xs.length + 1) (css.flatten ++ cs)) (hg : W.grownBy w1 v.ownBlock) (hat : v1.ownBlock = v.ownBlock ∨ ∃ b, v1.ownBlock = some b ∧ W.heap.size ≤ b) :
    Own d e base ok w1 v1 (xs ++ [y]) := by
  obtain ⟨css, h1, h2, h3, h4, h5⟩ := h
  have mv : ∀ (x : α) (c : List Value), d.K (fun k => ok k ∧ some k ≠ v.ownBlock) W x c → d.K (fun k => ok k ∧ some k ≠ v1.ownBlock) w1 x c := by
    intro x c hx
    have hb := d.bound hx
    have hb' := d.move (w' := w1) hg.size (fun k hk => hg.block k hk.2 hk.1.2) hb
    refine d.mono (fun k hk => ⟨hk.1.1, ?_⟩) hb'
    rcases hat with e1 | ⟨b, e1, hlt⟩
    · rw [e1]; exact hk.1.2
    · rw [e1]
      intro e2
      have : k = b := by injection e2
      have := hk.2
      omega
  refine ⟨css ++ [cs], ?_, by simp [h2], ?_, ?_, ?_⟩
  · have := hrow css h1
    simpa using this
  · intro c hc
    rcases List.mem_append.1 hc with hc | hc
    · exact h3 c hc
    · rw [List.mem_singleton.1 hc]; exact d.len hk
  · intro c hc
    rcases List.mem_append.1 hc with hc | hc
    · exact h4 c hc
    · rw [List.mem_singleton.1 hc]; exact d.one hk
  · intro j x hj
    rcases Nat.lt_or_ge j xs.length with hlt | hge
    · rw [List.getElem?_append_left hlt] at hj
      obtain ⟨c, hc, hx⟩ := h5 j x hj
      exact ⟨c, by rw [List.getElem?_append_left (by omega)]; exact hc, mv _ _ hx⟩
    · have hj' : j = xs.length := by
        have := (List.getElem?_eq_some_iff.1 hj).1
        rw [List.length_append, List.length_singleton] at this
        omega
      subst hj'
      have : y = x := by simpa using hj
      subst this
      exact ⟨cs, by rw [← h2]; simp, mv _ _ hk⟩

/-- 'append(v, y)': behind 'at_builtin'; the goal's world bears the new element's own block. -/
theorem wpList_push {W : World} (hgd : o.guard = none) (s x : Operand) (t : TypeId)
    (ho : o.op = .call { callee := .builtin .append, args := #[s, x], argTypes := #[t, t] })
    (e : TypeId) (z : Value) (size bytes : Nat) (ht : P.underlying t = some (.slice e)) (hinfo : (P.info? e).map (fun i => (i.zero, i.size, i.bytes)) = some (some z, size, bytes)) (hz : z.cells.size = size) (hs0 : 0 < size) (hb0 : 0 < bytes)
    (hd : d.sz = size) (base : Nat) (ok : Nat → Prop) (v : Value) (xs : List α) (hs : a.eval s = v) (hown : Own d e base ok W v xs) (y : α) (cs : List Value) (hk : d.K (fun k => ok k ∧ some k ≠ v.ownBlock) W y cs)
    (hx : a.eval x = .slice (some ⟨W.heap.size, 0, none⟩) 1 1) (hbase : base ≤ W.heap.size) (hl : (xs.length + 1) * bytes ≤ 140737488355328)
    (h : ∀ v1 w1, Own d e base ok w1 v1 (xs ++ [y]) → W.grownBy w1 v.ownBlock → (v1.ownBlock = v.ownBlock ∨ v1.ownBlock = some (W.heap.size + 1)) → (∀ w0 : World, Below base w0 W → Below base w0 w1) → wpList P ops Q rest (a.put o.dst v1) w1) :
    wpList P ops Q (o :: rest) a (W.alloc (.cells cs.toArray e)) := by
  obtain ⟨i0, hi, hzz⟩ := Option.map_eq_some_iff.1 hinfo
  simp only [Prod.mk.injEq] at hzz
  obtain ⟨hz0, hz1, hz2⟩ := hzz
  subst hd
  have hlen : xs.length + 1 ≤ 140737488355328 := Nat.le_trans (Nat.le_mul_of_pos_right _ hb0) hl
  obtain ⟨css, h1, h2, h3, h4, h5⟩ := hown
  refine wpList_append_own_at (W.alloc (.cells cs.toArray e)) hgd s x t ho base e i0 z d.sz bytes ht hi hz0 hz1 hz2 hz hs0 v xs.length css.flatten hs (h1.alloc _) ⟨W.heap.size, 0, none⟩ 1 1 cs hx (by rw [d.len hk]; simp)
    (by simpa using World.news_of_block (cs := cs.toArray) (t := e) (fr := (0, 0)) (heap_alloc_new W (.cells cs.toArray e))) (d.one hk) (by simp only [maxLen]; omega) hl (by simp; omega) ?_
  intro v1 w1 hown' hg _ hat
  have hg' : W.grownBy w1 v.ownBlock := ⟨hg.os, hg.tape, hg.output, by have := hg.size; simp at this; omega, fun k hk hne => (hg.block k (by simp; omega) hne).trans (alloc_old W _ k hk)⟩
  refine h v1 w1 ?_ hg' (by simpa using hat) (fun w0 hb => ⟨hg'.os.trans hb.os, hg'.tape.trans hb.tape, hg'.output.trans hb.output, Nat.le_trans hb.size hg'.size, fun k hk => (hg'.block k (by omega) (fun e1 => by
    have := own_base h1 k e1.symm
    omega)).trans (hb.block k hk)⟩)
  refine Own.pushed ⟨css, h1, h2, h3, h4, h5⟩ hk (fun css' hcss' => ?_) hg' ?_
  · have : css'.flatten = css.flatten := by
      rcases h1.2 with ⟨_, hn⟩ | ⟨g, cap, cur, hv, _, hh, _, _, _, ht1⟩
      · have a1 := h1.1; have a2 := hcss'.1
        rw [hn, Nat.zero_mul] at a1 a2
        rw [List.eq_nil_of_length_eq_zero a1, List.eq_nil_of_length_eq_zero a2]
      · rcases hcss'.2 with ⟨hv', _⟩ | ⟨g', cap', cur', hv', _, hh', _, _, _, ht2⟩
        · rw [hv] at hv'; cases hv'
        · rw [hv] at hv'
          injection hv' with e1 e2 e3
          injection e1 with e1
          injection e1 with e1
          subst e1
          rw [hh] at hh'
          injection hh' with hh'
          injection hh' with e4
          subst e4
          rw [← ht1, ← ht2]
    rw [this]
    exact hown'
  · rcases hat with e1 | e1
    · exact .inl e1
    · exact .inr ⟨_, e1, by simp⟩
end
end Go.Proofs.Ytfoghahidofegaa

namespace Go.Proofs.Ytfoghahidofegaa
open Go.RowKit

/-- Block g is just the cells cs of type t, none frozen. -/
def Bx (w : World) (g : Nat) (t : TypeId) (cs : List Value) : Prop := w.heap[g]? = some (.cells cs.toArray t (0, 0))
section
variable {w w' : World} {g : Nat} {t : TypeId} {cs : List Value}
theorem Bx.lt (h : Bx w g t cs) : g < w.heap.size := (Array.getElem?_eq_some_iff.1 h).1
theorem Bx.cell (h : Bx w g t cs) (i : Nat) : w.cell? ⟨g, i, none⟩ = cs[i]? := by rw [cell_of_row _ _ _ _ _ _ h]; simp
theorem Bx.c0 {v : Value} {vs : List Value} (h : Bx w g t (v :: vs)) : w.cell? ⟨g, 0, none⟩ = some v := h.cell 0
theorem Bx.free (h : Bx w g t cs) (i : Nat) : w.frozen? ⟨g, i, none⟩ = false := frozen_of_row _ _ _ _ _ h
theorem Bx.new (w : World) (t : TypeId) (cs : List Value) : Bx (w.alloc (.cells cs.toArray t)) w.heap.size t cs := heap_alloc_new w _
theorem Bx.stay (h : Bx w g t cs) (hm : g < w.heap.size → w'.heap[g]? = w.heap[g]?) : Bx w' g t cs := (hm h.lt).trans h
theorem Bx.below {B : Nat} (h : Bx w g t cs) (hb : Below B w w') (hg : g < B) : Bx w' g t cs := (hb.block g hg).trans h
theorem Bx.under (h : Bx w g t cs) (hb : Below w.heap.size w w') : Bx w' g t cs := (hb.block g h.lt).trans h
theorem Bx.alloc (h : Bx w g t cs) (o : Obj) : Bx (w.alloc o) g t cs := (alloc_old w o g h.lt).trans h
theorem Bx.drewN (h : Bx w g t cs) (n : Nat) : Bx (w.drewN n) g t cs := h
theorem Bx.set (h : Bx w g t cs) (i : Nat) (u : Value) : Bx (w.setCell ⟨g, i, none⟩ u) g t (cs.set i u) := by
  unfold Bx at h ⊢
  rw [heap_setCell_same w g i _ t u h]
  simp [List.setIfInBounds_toArray]
theorem Bx.far (h : Bx w g t cs) {p : Addr} (hp : g ≠ p.block) (u : Value) : Bx (w.setCell p u) g t cs := (heap_setCell_other w p g u hp).trans h
theorem Bx.grown {row : Option Nat} (h : Bx w g t cs) (hb : w.grownBy w' row) (hg : some g ≠ row) : Bx w' g t cs := (hb.block g h.lt hg).trans h
end
section
variable {α : Type} {d : Kn α} {ok : Nat → Prop} {w w' : World} {A : Option Addr} {c : Nat} {xs : List α}
theorem Sl.setCell (h : Sl d ok w A c xs) {p : Addr} (hp : ∀ k, ok k → k ≠ p.block) (u : Value) : Sl d ok (w.setCell p u) A c xs :=
  h.stay (by simp [World.setCell]) (fun k hk _ => heap_setCell_other w p k u (hp k hk))
theorem Sl.grown {row : Option Nat} (h : Sl d ok w A c xs) (hg : w.grownBy w' row) (hr : ∀ k, ok k → some k ≠ row) : Sl d ok w' A c xs := h.stay hg.size (fun k hk hlt => hg.block k hlt (hr k hk))
theorem Sl.bound (h : Sl d ok w A c xs) : Sl d (fun k => ok k ∧ k < w.heap.size) w A c xs := ⟨h.1, h.2.1, h.2.2.bound⟩
theorem Sl.take (h : Sl d ok w A c xs) (k : Nat) : Sl d ok w A c (xs.take k) := ⟨by rw [List.length_take]; have := h.1; omega, h.2.1, h.2.2.take k⟩
theorem Own.setCell {e : TypeId} {base : Nat} {v : Value} (h : Own d e base ok w v xs) {p : Addr} (hp : ∀ k, ok k → k ≠ p.block) (hv : ∀ k, v.ownBlock = some k → k ≠ p.block) (u : Value) : Own d e base ok (w.setCell p u) v xs :=
  h.stay (by simp [World.setCell]) (fun k hk _ => heap_setCell_other w p k u (hk.elim (hp k) (hv k)))
theorem Own.base_le {e : TypeId} {base : Nat} {v : Value} (h : Own d e base ok w v xs) (k : Nat) (hk : v.ownBlock = some k) : base ≤ k := by
  obtain ⟨css, h1, _⟩ := h
  exact own_base h1 k hk
theorem Own.block_lt {e : TypeId} {base : Nat} {v : Value} (h : Own d e base ok w v xs) (k : Nat) (hk : v.ownBlock = some k) : k < w.heap.size := by
  obtain ⟨css, h1, _⟩ := h
  exact own_lt h1 k hk
theorem Own.alloc {e : TypeId} {base : Nat} {v : Value} (h : Own d e base ok w v xs) (o : Obj) : Own d e base ok (w.alloc o) v xs := h.below ((Below.refl _ _).alloc (Nat.le_refl _) o)
end

section
variable {α : Type} {d : Kn α} {P : Program} {ops : Array Oper} {rest : List Oper} {o : Oper} {a : Act} {Q : Exit → Act → World → Prop}
/-- 'append(v, y)' where the heap's size is spelled otherwise (H). -/
theorem wpList_pushH {W : World} (hgd : o.guard = none) (s x : Operand) (t : TypeId)
    (ho : o.op = .call { callee := .builtin .append, args := #[s, x], argTypes := #[t, t] })
    (e : TypeId) (z : Value) (size bytes : Nat) (ht : P.underlying t = some (.slice e)) (hinfo : (P.info? e).map (fun i => (i.zero, i.size, i.bytes)) = some (some z, size, bytes)) (hz : z.cells.size = size) (hs0 : 0 < size) (hb0 : 0 < bytes)
    (hd : d.sz = size) (base : Nat) (ok : Nat → Prop) (v : Value) (xs : List α) (hs : a.eval s = v) (hown : Own d e base ok W v xs) (y : α) (cs : List Value) (hk : d.K (fun k => ok k ∧ some k ≠ v.ownBlock) W y cs)
    (H : Nat) (hH : W.heap.size = H) (hx : a.eval x = .slice (some ⟨H, 0, none⟩) 1 1) (hbase : base ≤ W.heap.size) (hl : (xs.length + 1) * bytes ≤ 140737488355328)
    (h : ∀ v1 w1, Own d e base ok w1 v1 (xs ++ [y]) → W.grownBy w1 v.ownBlock → (v1.ownBlock = v.ownBlock ∨ v1.ownBlock = some (H + 1)) → (∀ w0 : World, Below base w0 W → Below base w0 w1) → wpList P ops Q rest (a.put o.dst v1) w1) :
    wpList P ops Q (o :: rest) a (W.alloc (.cells cs.toArray e)) := by
  subst hH
  exact wpList_push hgd s x t ho e z size bytes ht hinfo hz hs0 hb0 hd base ok v xs hs hown y cs hk hx hbase hl h
end
end Go.Proofs.Ytfoghahidofegaa

namespace Go.Proofs.Ytfoghahidofegaa
open Go.RowKit

theorem pick_list {α β : Type} {R : Nat → α → β → Prop} : ∀ (ys : List α) (k : Nat), (∀ j y, ys[j]? = some y → ∃ c, R (k + j) y c) → ∃ cs : List β, cs.length = ys.length ∧ ∀ j y, ys[j]? = some y → ∃ c, cs[j]? = some c ∧ R (k + j) y c
  | [], _, _ => ⟨[], rfl, by simp⟩
  | y :: ys, k, h => by
    obtain ⟨c, hc⟩ := h 0 y rfl
    obtain ⟨cs, hl, hcs⟩ := pick_list (R := R) ys (k + 1) (fun j z hz => by have := h (j + 1) z hz; rwa [show k + (j + 1) = k + 1 + j by omega] at this)
    refine ⟨c :: cs, by simp [hl], fun j z hz => ?_⟩
    match j, hz with
    | 0, hz => simp at hz; subst hz; exact ⟨c, rfl, hc⟩
    | j + 1, hz =>
      obtain ⟨c', h1, h2⟩ := hcs j z (by simpa using hz)
      exact ⟨c', by simpa using h1, by rwa [show k + (j + 1) = k + 1 + j by omega]⟩

section
variable {α : Type} {d : Kn α} {P : Program} {ops : Array Oper} {rest : List Oper} {o : Oper} {a : Act} {Q : Exit → Act → World → Prop}
/-- The cells of a row, flat. -/
theorem Row.flat {ok : Nat → Prop} {w : World} {ad : Addr} {ys : List α} (hsz : 0 < d.sz) (h : Row d ok w (some ad) ys) :
    ∃ css : List (List Value), css.length = ys.length ∧ (∀ c ∈ css, c.length = d.sz) ∧ (∀ c ∈ css, ∀ u ∈ c, u.oneCell' = true) ∧ (∀ (j : Nat) (y : α), ys[j]? = some y → ∃ cs : List Value, css[j]? = some cs ∧ d.K ok w y cs) ∧
      ∀ (j : Nat) (u : Value), css.flatten[j]? = some u → w.cell? (ad.add j) = some u := by
  obtain ⟨css, hl, hc⟩ := pick_list (R := fun j y cs => cs.length = d.sz ∧ d.K ok w y cs ∧ ∀ i u, cs[i]? = some u → w.cell? (ad.add (j * d.sz + i)) = some u) ys 0 (fun j y hj => by
    have hlt := (List.getElem?_eq_some_iff.1 hj).1
    obtain ⟨ad', e, _, _, h3⟩ := h (by omega)
    injection e with e
    subst e
    obtain ⟨cs, h4, h5, h6⟩ := h3 j y hj
    exact ⟨cs, h4, h5, by rw [Nat.zero_add]; exact h6⟩)
  have hx : ∀ (j : Nat) (c : List Value), css[j]? = some c → ∃ y, ys[j]? = some y ∧ c.length = d.sz ∧ d.K ok w y c ∧ ∀ i u, c[i]? = some u → w.cell? (ad.add (j * d.sz + i)) = some u := by
    intro j c hj
    have hlt := (List.getElem?_eq_some_iff.1 hj).1
    have hy : ys[j]? = some ys[j] := List.getElem?_eq_getElem (by omega)
    obtain ⟨c', h1, h2, h3, h4⟩ := hc j _ hy
    rw [hj] at h1
    injection h1 with h1
    subst h1
    exact ⟨_, hy, h2, h3, by rw [Nat.zero_add] at h4; exact h4⟩
  refine ⟨css, hl, ?_, ?_, ?_, ?_⟩
  · intro c hm
    obtain ⟨j, hj⟩ := List.getElem?_of_mem hm
    obtain ⟨y, _, h1, _⟩ := hx j c hj
    exact h1
  · intro c hm
    obtain ⟨j, hj⟩ := List.getElem?_of_mem hm
    obtain ⟨y, _, _, h1, _⟩ := hx j c hj
    exact d.one h1
  · intro j y hj
    obtain ⟨c, h1, h2, h3, _⟩ := hc j y hj
    exact ⟨c, h1, h3⟩
  · intro j u hu
    have hall : ∀ c ∈ css, c.length = d.sz := by
      intro c hm
      obtain ⟨j, hj⟩ := List.getElem?_of_mem hm
      obtain ⟨y, _, h1, _⟩ := hx j c hj
      exact h1
    have hlt := (List.getElem?_eq_some_iff.1 hu).1
    have hlen : css.flatten.length = css.length * d.sz := by
      clear hu hlt hx hc hl
      induction css with
      | nil => simp
      | cons c css ih => rw [List.flatten_cons, List.length_append, hall c List.mem_cons_self, ih (fun c hc => hall c (List.mem_cons_of_mem _ hc)), List.length_cons, Nat.add_mul]; omega
    have hj : j / d.sz < css.length := Nat.div_lt_of_lt_mul (by rw [Nat.mul_comm]; omega)
    have hcj : css[j / d.sz]? = some css[j / d.sz] := List.getElem?_eq_getElem hj
    obtain ⟨y, _, h1, _, h2⟩ := hx _ _ hcj
    have hm : j % d.sz < css[j / d.sz].length := by rw [h1]; exact Nat.mod_lt _ hsz
    have hf := flat_at css hall _ _ _ _ hcj (List.getElem?_eq_getElem hm)
    rw [show j / d.sz * d.sz + j % d.sz = j by rw [Nat.mul_comm]; exact Nat.div_add_mod _ _] at hf
    rw [hf] at hu
    injection hu with hu
    subst hu
    have := h2 _ _ (List.getElem?_eq_getElem hm)
    rwa [show j / d.sz * d.sz + j % d.sz = j by rw [Nat.mul_comm]; exact Nat.div_add_mod _ _] at this

theorem Own.pushedN {e : TypeId} {base : Nat} {ok : Nat → Prop} {W w1 : World} {v v1 : Value} {xs ys : List α} {css' : List (List Value)} (h : Own d e base ok W v xs) (hl : css'.length = ys.length)
    (hs : ∀ c ∈ css', c.length = d.sz) (h1c : ∀ c ∈ css', ∀ u ∈ c, u.oneCell' = true) (hk : ∀ (j : Nat) (y : α), ys[j]? = some y → ∃ cs : List Value, css'[j]? = some cs ∧ d.K (fun k => ok k ∧ some k ≠ v.ownBlock) W y cs)
    (hrow : ∀ css : List (List Value), W.ownsRow base e d.sz v xs.length css.flatten → w1.ownsRow base e d.sz v1 (xs.length + ys.length) (css.flatten ++ css'.flatten)) (hg : W.grownBy w1 v.ownBlock) (hat : v1.ownBlock = v.ownBlock ∨ ∃ b, v1.ownBlock = some b ∧ W.heap.size ≤ b) :
    Own d e base ok w1 v1 (xs ++ ys) := by
  obtain ⟨css, h1, h2, h3, h4, h5⟩ := h
  have mv : ∀ (x : α) (c : List Value), d.K (fun k => ok k ∧ some k ≠ v.ownBlock) W x c → d.K (fun k => ok k ∧ some k ≠ v1.ownBlock) w1 x c := by
    intro x c hx
    have hb' := d.move (w' := w1) hg.size (fun k hk => hg.block k hk.2 hk.1.2) (d.bound hx)
    refine d.mono (fun k hk => ⟨hk.1.1, ?_⟩) hb'
    rcases hat with e1 | ⟨b, e1, hlt⟩
    · rw [e1]; exact hk.1.2
    · rw [e1]
      intro e2
      have : k = b := by injection e2
      have := hk.2
      omega
  refine ⟨css ++ css', ?_, by simp [h2, hl], ?_, ?_, ?_⟩
  · have := hrow css h1
    simpa using this
  · intro c hc
    rcases List.mem_append.1 hc with hc | hc
    · exact h3 c hc
    · exact hs c hc
  · intro c hc
    rcases List.mem_append.1 hc with hc | hc
    · exact h4 c hc
    · exact h1c c hc
  · intro j x hj
    rcases Nat.lt_or_ge j xs.length with hlt | hge
    · rw [List.getElem?_append_left hlt] at hj
      obtain ⟨c, hc, hx⟩ := h5 j x hj
      exact ⟨c, by rw [List.getElem?_append_left (by omega)]; exact hc, mv _ _ hx⟩
    · rw [List.getElem?_append_right hge] at hj
      obtain ⟨c, hc, hx⟩ := hk _ x hj
      exact ⟨c, by rw [List.getElem?_append_right (by omega), h2]; exact hc, mv _ _ hx⟩

theorem run_append_owned_none' {w : World} (base : Nat) (t ty e : TypeId) (i : TypeInfo) (size : Nat) (ht : P.underlying t = some (.slice e)) (hi : P.info? e = some i)
    (v : Value) (n c : Nat) (xs : List Value) (hown : w.ownsRow base e size v n xs) :
    (Builtin.append_ #[t, t] ty #[v, .slice none 0 c]).run P w = .ok v w := by
  rcases hown.2 with ⟨rfl, rfl⟩ | ⟨g, cap, cur, rfl, _, _, hnc, _⟩
  · simp [Builtin.append_, run_underlying ht, sizeOf, typeInfo, hi, Builtin.lenOf, Builtin.firstCells]
  · simp [Builtin.append_, run_underlying ht, sizeOf, typeInfo, hi, Builtin.lenOf, Builtin.firstCells, hnc, storeCells]

/-- 'append(v, ys...)'. -/
theorem wpList_spread {W : World} (hgd : o.guard = none) (s x : Operand) (t : TypeId)
    (ho : o.op = .call { callee := .builtin .append, args := #[s, x], argTypes := #[t, t] })
    (e : TypeId) (z : Value) (size bytes : Nat) (ht : P.underlying t = some (.slice e)) (hinfo : (P.info? e).map (fun i => (i.zero, i.size, i.bytes)) = some (some z, size, bytes)) (hz : z.cells.size = size) (hs0 : 0 < size) (hb0 : 0 < bytes)
    (hd : d.sz = size) (base : Nat) (ok : Nat → Prop) (v : Value) (xs : List α) (hs : a.eval s = v) (hown : Own d e base ok W v xs) (ys : List α) (B : Option Addr) (c : Nat) (hk : Row d (fun k => ok k ∧ some k ≠ v.ownBlock) W B ys)
    (hx : a.eval x = .slice B ys.length c) (hbase : base ≤ W.heap.size) (hl : (xs.length + ys.length) * bytes ≤ 140737488355328)
    (h : ∀ v1 w1, Own d e base ok w1 v1 (xs ++ ys) → W.grownBy w1 v.ownBlock → (v1.ownBlock = v.ownBlock ∨ v1.ownBlock = some W.heap.size) → (∀ w0 : World, Below base w0 W → Below base w0 w1) → wpList P ops Q rest (a.put o.dst v1) w1) :
    wpList P ops Q (o :: rest) a W := by
  obtain ⟨i0, hi, hzz⟩ := Option.map_eq_some_iff.1 hinfo
  simp only [Prod.mk.injEq] at hzz
  obtain ⟨hz0, hz1, hz2⟩ := hzz
  subst hd
  cases B with
  | none =>
    have hy : ys = [] := by
      cases ys with
      | nil => rfl
      | cons y ys =>
        obtain ⟨ad, e1, _⟩ := hk (by simp)
        cases e1
    subst hy
    have hown' := hown
    obtain ⟨css, h1, h2, h3, h4, h5⟩ := hown'
    refine wpList_plain hgd fun K hK => ?_
    have hrun := run_append_owned_none' (P := P) (w := W) base t o.type e i0 d.sz ht hi v xs.length c css.flatten h1
    unfold Oper.wp
    simp only [execOp, ho, resolve, invoke, builtin, Sem.run_bind, Sem.run_pure, Result.andThen_ok, List.map_toArray, List.map_cons, List.map_nil, hs, hx, List.length_nil, hrun]
    exact hK _ _ (h v W (by simpa using hown) ⟨rfl, rfl, rfl, Nat.le_refl _, fun _ _ _ => rfl⟩ (.inl rfl) (fun _ hb => hb))
  | some ad =>
    have hlen : xs.length + ys.length ≤ 140737488355328 := Nat.le_trans (Nat.le_mul_of_pos_right _ hb0) hl
    obtain ⟨css', hl', hs', h1', hk', hn'⟩ := Row.flat hs0 hk
    have hfl : css'.flatten.length = ys.length * d.sz := by
      rw [← hl']
      clear hl' h1' hk' hn'
      induction css' with
      | nil => simp
      | cons c css ih => rw [List.flatten_cons, List.length_append, hs' c List.mem_cons_self, ih (fun c hc => hs' c (List.mem_cons_of_mem _ hc)), List.length_cons, Nat.add_mul]; omega
    obtain ⟨css, h1, h2, h3, h4, h5⟩ := hown
    refine wpList_append_own_at W hgd s x t ho base e i0 z d.sz bytes ht hi hz0 hz1 hz2 hz hs0 v xs.length css.flatten hs h1 ad ys.length c css'.flatten hx hfl hn'
      (fun u hu => by obtain ⟨c, hc, hu⟩ := List.mem_flatten.1 hu; exact h1' c hc u hu) (by simp only [maxLen]; omega) hl hbase ?_
    intro v1 w1 hown' hg _ hat
    refine h v1 w1 ?_ hg hat (fun w0 hb => ⟨hg.os.trans hb.os, hg.tape.trans hb.tape, hg.output.trans hb.output, Nat.le_trans hb.size hg.size, fun k hk => (hg.block k (by have := hb.size; omega) (fun e1 => by
      have := own_base h1 k e1.symm
      omega)).trans (hb.block k hk)⟩)
    refine Own.pushedN ⟨css, h1, h2, h3, h4, h5⟩ hl' hs' h1' hk' (fun css2 hcss2 => ?_) hg (hat.imp id (fun e1 => ⟨_, e1, Nat.le_refl _⟩))
    have : css2.flatten = css.flatten := by
      rcases h1.2 with ⟨_, hn⟩ | ⟨g, cap, cur, hv, _, hh, _, _, _, ht1⟩
      · have a1 := h1.1; have a2 := hcss2.1
        rw [hn, Nat.zero_mul] at a1 a2
        rw [List.eq_nil_of_length_eq_zero a1, List.eq_nil_of_length_eq_zero a2]
      · rcases hcss2.2 with ⟨hv', _⟩ | ⟨g', cap', cur', hv', _, hh', _, _, _, ht2⟩
        · rw [hv] at hv'; cases hv'
        · rw [hv] at hv'
          injection hv' with e1 e2 e3
          injection e1 with e1
          injection e1 with e1
          subst e1
          rw [hh] at hh'
          injection hh' with hh'
          injection hh' with e4
          subst e4
          rw [← ht1, ← ht2]
    rw [this]
    exact hown'

/-- The same, the length spelled otherwise. -/
theorem wpList_spreadN {W : World} (hgd : o.guard = none) (s x : Operand) (t : TypeId)
    (ho : o.op = .call { callee := .builtin .append, args := #[s, x], argTypes := #[t, t] })
    (e : TypeId) (z : Value) (size bytes : Nat) (ht : P.underlying t = some (.slice e)) (hinfo : (P.info? e).map (fun i => (i.zero, i.size, i.bytes)) = some (some z, size, bytes)) (hz : z.cells.size = size) (hs0 : 0 < size) (hb0 : 0 < bytes)
    (hd : d.sz = size) (base : Nat) (ok : Nat → Prop) (v : Value) (xs : List α) (hs : a.eval s = v) (hown : Own d e base ok W v xs) (ys : List α) (n : Nat) (hn : ys.length = n) (B : Option Addr) (c : Nat) (hk : Row d (fun k => ok k ∧ some k ≠ v.ownBlock) W B ys)
    (hx : a.eval x = .slice B n c) (hbase : base ≤ W.heap.size) (hl : (xs.length + ys.length) * bytes ≤ 140737488355328)
    (h : ∀ v1 w1, Own d e base ok w1 v1 (xs ++ ys) → W.grownBy w1 v.ownBlock → (v1.ownBlock = v.ownBlock ∨ v1.ownBlock = some W.heap.size) → (∀ w0 : World, Below base w0 W → Below base w0 w1) → wpList P ops Q rest (a.put o.dst v1) w1) :
    wpList P ops Q (o :: rest) a W := by
  subst hn
  exact wpList_spread hgd s x t ho e z size bytes ht hinfo hz hs0 hb0 hd base ok v xs hs hown ys B c hk hx hbase hl h
/-- '[]T{y}' of a many-celled element, in the block just made. -/
theorem Sl.one {ok : Nat → Prop} {w : World} {y : α} {cs : List Value} (e : TypeId) (hk : d.K ok w y cs) (H : Nat) (hH : w.heap.size = H) : Sl d (fun k => ok k ∨ H ≤ k) (w.alloc (.cells cs.toArray e)) (some ⟨H, 0, none⟩) 1 [y] := by
  subst hH
  refine ⟨Nat.le_refl _, by simp [maxLen], fun _ => ⟨_, rfl, .inr (Nat.le_refl _), by simp, fun j x hj => ?_⟩⟩
  match j, hj with
  | 0, hj =>
    simp at hj
    subst hj
    refine ⟨cs, d.len hk, d.mono (fun _ h => .inl h) (d.below hk ((Below.refl _ _).alloc (Nat.le_refl _) _)), fun i u hu => ?_⟩
    rw [Nat.zero_mul, Nat.zero_add]
    have := World.news_of_block (cs := cs.toArray) (t := e) (fr := (0, 0)) (heap_alloc_new w (.cells cs.toArray e)) i u (by simpa using hu)
    exact this
end
end Go.Proofs.Ytfoghahidofegaa

namespace Go.Proofs.Ytfoghahidofegaa
open Go.RowKit
theorem below_drawn {B : Nat} {a w : World} (h : Below B a w) : Below B a w.drew := ⟨h.os, h.tape, h.output, h.size, h.block⟩
section
variable {α : Type} {d : Kn α} {P : Program} {ops : Array Oper} {rest : List Oper} {o : Oper} {a : Act} {Q : Exit → Act → World → Prop}
/-- 'append(v, y)' at a step of a region that draws. -/
theorem step_push {W : World} {K : Act → World → Prop} {E : Prop} (hgd : o.guard = none) (s x : Operand) (t : TypeId)
    (ho : o.op = .call { callee := .builtin .append, args := #[s, x], argTypes := #[t, t] })
    (e : TypeId) (z : Value) (size bytes : Nat) (ht : P.underlying t = some (.slice e)) (hinfo : (P.info? e).map (fun i => (i.zero, i.size, i.bytes)) = some (some z, size, bytes)) (hz : z.cells.size = size) (hs0 : 0 < size) (hb0 : 0 < bytes)
    (hd : d.sz = size) (base : Nat) (ok : Nat → Prop) (v : Value) (xs : List α) (hs : a.eval s = v) (hown : Own d e base ok W v xs) (y : α) (cs : List Value) (hk : d.K (fun k => ok k ∧ some k ≠ v.ownBlock) W y cs)
    (H : Nat) (hH : W.heap.size = H) (hx : a.eval x = .slice (some ⟨H, 0, none⟩) 1 1) (hbase : base ≤ W.heap.size) (hl : (xs.length + 1) * bytes ≤ 140737488355328)
    (h : ∀ v1 w1, Own d e base ok w1 v1 (xs ++ [y]) → W.grownBy w1 v.ownBlock → (v1.ownBlock = v.ownBlock ∨ v1.ownBlock = some (H + 1)) → (∀ w0 : World, Below base w0 W → Below base w0 w1) → K (a.put o.dst v1) w1) :
    if Region.wanted o (yielded ops a.tmps) = true then Oper.wp P o a (W.alloc (.cells cs.toArray e)) K Q else E := by
  subst hH
  have hw : Region.wanted o (yielded ops a.tmps) = true := by simp [Region.wanted, hgd]
  rw [if_pos hw]
  obtain ⟨i0, hi, hzz⟩ := Option.map_eq_some_iff.1 hinfo
  simp only [Prod.mk.injEq] at hzz
  obtain ⟨hz0, hz1, hz2⟩ := hzz
  subst hd
  have hlen : xs.length + 1 ≤ 140737488355328 := Nat.le_trans (Nat.le_mul_of_pos_right _ hb0) hl
  obtain ⟨css, h1, h2, h3, h4, h5⟩ := hown
  obtain ⟨v1, w1, hr, hown', hg, _, hat⟩ := run_append_own_at (P := P) (W.alloc (.cells cs.toArray e)) base t o.type e i0 z d.sz bytes ht hi hz0 hz1 hz2 hz hs0 v xs.length css.flatten (h1.alloc _) ⟨W.heap.size, 0, none⟩ 1 1 cs (by rw [d.len hk]; simp)
    (by simpa using World.news_of_block (cs := cs.toArray) (t := e) (fr := (0, 0)) (heap_alloc_new W (.cells cs.toArray e))) (d.one hk) (by simp only [maxLen]; omega) hl (by simp; omega)
  have hg' : W.grownBy w1 v.ownBlock := ⟨hg.os, hg.tape, hg.output, by have := hg.size; simp at this; omega, fun k hk hne => (hg.block k (by simp; omega) hne).trans (alloc_old W _ k hk)⟩
  unfold Oper.wp execOp
  simp only [ho, resolve, invoke, builtin, Sem.run_bind, Sem.run_pure, Result.andThen_ok, List.map_toArray, List.map_cons, List.map_nil, hs, hx, hr]
  refine h v1 w1 ?_ hg' (by simpa using hat) (fun w0 hb => ⟨hg'.os.trans hb.os, hg'.tape.trans hb.tape, hg'.output.trans hb.output, Nat.le_trans hb.size hg'.size, fun k hk => (hg'.block k (by omega) (fun e1 => by
    have := own_base h1 k e1.symm
    omega)).trans (hb.block k hk)⟩)
  refine Own.pushed ⟨css, h1, h2, h3, h4, h5⟩ hk (fun css' hcss' => ?_) hg' ?_
  · have : css'.flatten = css.flatten := by
      rcases h1.2 with ⟨_, hn⟩ | ⟨g, cap, cur, hv, _, hh, _, _, _, ht1⟩
      · have a1 := h1.1; have a2 := hcss'.1
        rw [hn, Nat.zero_mul] at a1 a2
        rw [List.eq_nil_of_length_eq_zero a1, List.eq_nil_of_length_eq_zero a2]
      · rcases hcss'.2 with ⟨hv', _⟩ | ⟨g', cap', cur', hv', _, hh', _, _, _, ht2⟩
        · rw [hv] at hv'; cases hv'
        · rw [hv] at hv'
          injection hv' with e1 e2 e3
          injection e1 with e1
          injection e1 with e1
          subst e1
          rw [hh] at hh'
          injection hh' with hh'
          injection hh' with e4
          subst e4
          rw [← ht1, ← ht2]
    rw [this]
    exact hown'
  · rcases hat with e1 | e1
    · exact .inl e1
    · exact .inr ⟨_, e1, by simp⟩

end
end Go.Proofs.Ytfoghahidofegaa

namespace Go.Proofs.Ytfoghahidofegaa
open Go.RowKit

/-- A field's address as the walk spells it. -/
theorem add_field (ad : Addr) (m i : Nat) (hi : 0 < i) : ad.add (m + i) = ⟨(ad.add m).block, (ad.add m).off + i, none⟩ := by
  rw [← add_add, add_pos _ _ hi]
structure Clause where
  tags : List ByteArray
  types : List ByteArray
structure Event where
  stream : ByteArray
  type : ByteArray
  tags : List ByteArray
  fields : List (ByteArray × Int)
abbrev kStrs : Kn (List ByteArray) := Kn.slice Kn.str
abbrev kField : Kn (ByteArray × Int) := Kn.pair Kn.str (Kn.int .i64)
def kClause : Kn Clause := Kn.iso (Kn.pair kStrs kStrs) (fun c => (c.tags, c.types))
def kEvent : Kn Event := Kn.iso (Kn.pair Kn.str (Kn.pair Kn.str (Kn.pair kStrs (Kn.slice kField)))) (fun e => (e.stream, e.type, e.tags, e.fields))
abbrev kQuery : Kn (List Clause) := Kn.slice kClause

theorem kClause_out {ok : Nat → Prop} {w : World} {c : Clause} {cs : List Value} (h : kClause.K ok w c cs) :
    ∃ A ca B cb, cs = [.slice A c.tags.length ca, .slice B c.types.length cb] ∧ Sl Kn.str ok w A ca c.tags ∧ Sl Kn.str ok w B cb c.types := by
  obtain ⟨c0, c1, rfl, ⟨A, ca, h0, h1⟩, ⟨B, cb, h2, h3⟩⟩ := h
  subst h0; subst h2
  exact ⟨A, ca, B, cb, rfl, h1, h3⟩
theorem kClause_mk {ok : Nat → Prop} {w : World} {c : Clause} {A B : Option Addr} {ca cb : Nat} (h1 : Sl Kn.str ok w A ca c.tags) (h2 : Sl Kn.str ok w B cb c.types) : kClause.K ok w c [.slice A c.tags.length ca, .slice B c.types.length cb] :=
  ⟨[_], [_], rfl, h1.kind, h2.kind⟩
theorem kClause_mk' {ok : Nat → Prop} {w : World} {c : Clause} {A B : Option Addr} {n m ca cb : Nat} (h1 : Sl Kn.str ok w A ca c.tags) (h2 : Sl Kn.str ok w B cb c.types) (e1 : c.tags.length = n) (e2 : c.types.length = m) : kClause.K ok w c [.slice A n ca, .slice B m cb] := by
  subst e1; subst e2; exact kClause_mk h1 h2
theorem kEvent_out {ok : Nat → Prop} {w : World} {e : Event} {cs : List Value} (h : kEvent.K ok w e cs) :
    ∃ A ca B cb, cs = [.string e.stream, .string e.type, .slice A e.tags.length ca, .slice B e.fields.length cb] ∧ Sl Kn.str ok w A ca e.tags ∧ Sl kField ok w B cb e.fields := by
  obtain ⟨c0, c1, rfl, h0, c2, c3, rfl, h1, c4, c5, rfl, ⟨A, ca, h2, h3⟩, ⟨B, cb, h4, h5⟩⟩ := h
  have e0 : c0 = [.string e.stream] := h0
  have e1 : c2 = [.string e.type] := h1
  subst e0; subst e1; subst h2; subst h4
  exact ⟨A, ca, B, cb, rfl, h3, h5⟩
theorem kEvent_mk {ok : Nat → Prop} {w : World} {e : Event} {A B : Option Addr} {ca cb : Nat} (h1 : Sl Kn.str ok w A ca e.tags) (h2 : Sl kField ok w B cb e.fields) :
    kEvent.K ok w e [.string e.stream, .string e.type, .slice A e.tags.length ca, .slice B e.fields.length cb] :=
  ⟨[_], _, rfl, rfl, [_], _, rfl, rfl, [_], [_], rfl, h1.kind, h2.kind⟩
theorem kClause_sz : kClause.sz = 2 := rfl
theorem kEvent_sz : kEvent.sz = 4 := rfl
theorem kField_sz : kField.sz = 2 := rfl

theorem row_clause_at {ok : Nat → Prop} {w : World} {A : Option Addr} {xs : List Clause} (h : Row kClause ok w A xs) {j : Nat} (hj : j < xs.length) :
    ∃ ad S sa T ta, A = some ad ∧ w.cell? (ad.add (j * 2)) = some (.slice S xs[j].tags.length sa) ∧ w.cell? ⟨(ad.add (j * 2)).block, (ad.add (j * 2)).off + 1, none⟩ = some (.slice T xs[j].types.length ta) ∧ Sl Kn.str ok w S sa xs[j].tags ∧ Sl Kn.str ok w T ta xs[j].types := by
  obtain ⟨ad, cs, e, _, _, _, hk, hc⟩ := h.at_ hj
  obtain ⟨S, sa, T, ta, rfl, h1, h2⟩ := kClause_out hk
  rw [kClause_sz] at hc
  refine ⟨ad, S, sa, T, ta, e, hc 0 _ rfl, ?_, h1, h2⟩
  have := hc 1 _ rfl
  rw [add_field _ _ _ (by omega)] at this
  exact this
theorem row_field_at {ok : Nat → Prop} {w : World} {A : Option Addr} {xs : List (ByteArray × Int)} (h : Row kField ok w A xs) {j : Nat} (hj : j < xs.length) :
    ∃ ad, A = some ad ∧ w.cell? (ad.add (j * 2)) = some (.string xs[j].1) ∧ w.cell? ⟨(ad.add (j * 2)).block, (ad.add (j * 2)).off + 1, none⟩ = some (.int .i64 xs[j].2) := by
  obtain ⟨ad, cs, e, _, _, _, ⟨c0, c1, rfl, h0, h1⟩, hc⟩ := h.at_ hj
  have e0 : c0 = [.string xs[j].1] := h0
  have e1 : c1 = [.int .i64 xs[j].2] := h1
  subst e0; subst e1
  rw [kField_sz] at hc
  refine ⟨ad, e, hc 0 _ rfl, ?_⟩
  have := hc 1 _ rfl
  rw [add_field _ _ _ (by omega)] at this
  exact this
end Go.Proofs.Ytfoghahidofegaa

namespace Go.Proofs.Ytfoghahidofegaa
open Go.RowKit Go.Deep

def Opens {α : Type} (P : Program) (t : TypeId) (d : Kn α) (good : α → Prop) : Prop :=
  ∀ (H : Type) (enc : TypeId × Value → H) (w : World) (base : Nat) (spare : Nat → Bool) (held : Bool) (fuel : Nat) (cs : List Value) (x : DataW H × List MemPlace),
    DataW.trod enc P w base spare held fuel t cs = some x → ∃ y : α, d.K (fun _ => True) w y cs ∧ good y

theorem list_of {α : Type} {R : Nat → α → Prop} : ∀ (n : Nat), (∀ j, j < n → ∃ x, R j x) → ∃ xs : List α, xs.length = n ∧ ∀ j x, xs[j]? = some x → R j x
  | 0, _ => ⟨[], rfl, fun j x h => by simp at h⟩
  | n + 1, h => by
    obtain ⟨xs, hl, hx⟩ := list_of n (fun j hj => h j (by omega))
    obtain ⟨x, hn⟩ := h n (by omega)
    refine ⟨xs ++ [x], by simp [hl], fun j y hj => ?_⟩
    rcases Nat.lt_or_ge j xs.length with hlt | hge
    · rw [List.getElem?_append_left hlt] at hj
      exact hx j y hj
    · have hj' : j = xs.length := by
        have := (List.getElem?_eq_some_iff.1 hj).1
        rw [List.length_append, List.length_singleton] at this
        omega
      subst hj'
      have : x = y := by simpa using hj
      subst this
      rw [hl]; exact hn

section
variable {P : Program} {t e : TypeId}
theorem Opens.int {k : IntKind} (ht : P.underlying t = some (.int k)) : Opens P t (Kn.int k) (fun n => (Lit.int k n).wf = true) := by
  intro H enc w base spare held fuel cs x h
  obtain ⟨n, rfl, _, hw⟩ := DataW.trod_int ht h
  exact ⟨n, rfl, hw⟩
theorem Opens.bool (ht : P.underlying t = some .bool) : Opens P t Kn.bool (fun _ => True) := by
  intro H enc w base spare held fuel cs x h
  obtain ⟨n, rfl, _⟩ := DataW.trod_bool ht h
  exact ⟨n, rfl, trivial⟩
theorem Opens.str (ht : P.underlying t = some .string) : Opens P t Kn.str (fun s => s.size ≤ maxLen) := by
  intro H enc w base spare held fuel cs x h
  obtain ⟨n, rfl, _, hw⟩ := DataW.trod_string ht h
  exact ⟨n, rfl, hw⟩
theorem Opens.slice {α : Type} {d : Kn α} {good : α → Prop} (ht : P.underlying t = some (.slice e)) (hC : P.cellsOf e = d.sz) (h0 : 0 < d.sz) (he : Opens P e d good) : Opens P t (Kn.slice d) (fun xs => ∀ x ∈ xs, good x) := by
  intro H enc w base spare held fuel cs x h
  rcases open_slice ht h with ⟨rfl, _⟩ | ⟨a, len, cap, m, n, D, Pl, rfl, hb, hl, hm, hmm, _, hi⟩
  · exact ⟨[], ⟨none, 0, rfl, Nat.le_refl _, by simp [maxLen], Row.nil_⟩, by simp⟩
  · rw [hC] at hi
    have hlm : len ≤ m := by rw [hmm]; split <;> omega
    obtain ⟨xs, hxl, hxs⟩ := list_of (R := fun j y => ∃ cs', cs'.length = d.sz ∧ d.K (fun _ => True) w y cs' ∧ good y ∧ ∀ i, i < d.sz → w.cell? (a.add (j * d.sz + i)) = cs'[i]?) len (fun j hj => by
      obtain ⟨cs', hc, ht'⟩ := hi j (by omega)
      obtain ⟨y, hk, hg⟩ := he _ _ _ _ _ _ _ _ _ ht'
      obtain ⟨_, hcl, hat⟩ := World.cells?_some hc
      exact ⟨y, cs', hcl, hk, hg, fun i hid => by rw [← Go.Deep.add_add]; exact hat i hid⟩)
    refine ⟨xs, ⟨some a, cap, by rw [hxl], by omega, hm, fun hn => ⟨a, rfl, trivial, ?_, fun j y hj => ?_⟩⟩, fun y hy => ?_⟩
    · obtain ⟨cs', hcl, hk, _, hat⟩ := hxs 0 _ (List.getElem?_eq_getElem hn)
      have := hat 0 h0
      rw [List.getElem?_eq_getElem (by omega)] at this
      have := World.block_lt_of_cell? w _ this
      rw [block_add] at this
      exact this
    · obtain ⟨cs', hcl, hk, _, hat⟩ := hxs j y hj
      exact ⟨cs', hcl, hk, fun i u hu => by rw [hat i (by have := (List.getElem?_eq_some_iff.1 hu).1; omega)]; exact hu⟩
    · obtain ⟨j, hj⟩ := List.getElem?_of_mem hy
      obtain ⟨_, _, _, hg, _⟩ := hxs j y hj
      exact hg

/-- The fields of a struct from one on. -/
def OpensFs {α : Type} (P : Program) (fs : List Field) (off : Nat) (d : Kn α) (good : α → Prop) : Prop :=
  ∀ (H : Type) (enc : TypeId × Value → H) (w : World) (base : Nat) (spare : Nat → Bool) (held : Bool) (fuel : Nat) (cs : List Value), cs.length = off + d.sz →
    (∀ f ∈ fs, ∃ x, DataW.trod enc P w base spare held fuel f.type ((cs.drop f.offset).take (P.cellsOf f.type)) = some x) → ∃ y : α, d.K (fun _ => True) w y (cs.drop off) ∧ good y
theorem OpensFs.last {α : Type} {d : Kn α} {good : α → Prop} {f : Field} (h : Opens P f.type d good) (hC : P.cellsOf f.type = d.sz) : OpensFs P [f] f.offset d good := by
  intro H enc w base spare held fuel cs hl hf
  obtain ⟨x, hx⟩ := hf f (by simp)
  obtain ⟨y, hk, hg⟩ := h _ _ _ _ _ _ _ _ _ hx
  rw [hC, List.take_of_length_le (by rw [List.length_drop]; omega)] at hk
  exact ⟨y, hk, hg⟩
theorem OpensFs.cons {α β : Type} {d : Kn α} {d' : Kn β} {good : α → Prop} {good' : β → Prop} {f : Field} {fs : List Field} (h : Opens P f.type d good) (hC : P.cellsOf f.type = d.sz) (hr : OpensFs P fs (f.offset + d.sz) d' good') :
    OpensFs P (f :: fs) f.offset (Kn.pair d d') (fun y => good y.1 ∧ good' y.2) := by
  intro H enc w base spare held fuel cs hl hf
  obtain ⟨x, hx⟩ := hf f (by simp)
  obtain ⟨y, hk, hg⟩ := h _ _ _ _ _ _ _ _ _ hx
  rw [hC] at hk
  obtain ⟨z, hk', hg'⟩ := hr H enc w base spare held fuel cs (by rw [hl]; simp [Kn.pair, Nat.add_assoc]) (fun f' hf' => hf f' (by simp [hf']))
  refine ⟨(y, z), ⟨_, _, ?_, hk, hk'⟩, hg, hg'⟩
  rw [← List.drop_drop]
  exact (List.take_append_drop _ _).symm
theorem Opens.struct {α : Type} {d : Kn α} {good : α → Prop} {fs : Array Field} (ht : P.underlying t = some (.struct fs)) (hC : P.cellsOf t = d.sz) (h : OpensFs P fs.toList 0 d good) : Opens P t d good := by
  intro H enc w base spare held fuel cs x hx
  obtain ⟨xs, n, rfl, _, hl, hxl, hf⟩ := DataW.trod_struct ht hx
  obtain ⟨y, hk, hg⟩ := h H enc w base spare held n cs (by rw [hl, hC]; omega) (fun f hfm => by
    obtain ⟨i, hi⟩ := List.getElem?_of_mem hfm
    have hi' : fs[i]? = some f := by simpa using hi
    have h1 := hf i f hi'
    have h2 : i < xs.length := by rw [hxl]; exact (Array.getElem?_eq_some_iff.1 hi').1
    exact ⟨xs[i], h1.trans (List.getElem?_eq_getElem h2)⟩)
  exact ⟨y, by simpa using hk, hg⟩
theorem Opens.iso {α β : Type} {d : Kn α} {good : α → Prop} (h : Opens P t d good) (f : β → α) (g : α → β) (hfg : ∀ x, f (g x) = x) : Opens P t (Kn.iso d f) (fun y => good (f y)) := by
  intro H enc w base spare held fuel cs x hx
  obtain ⟨y, hk, hg⟩ := h _ _ _ _ _ _ _ _ _ hx
  exact ⟨g y, by show d.K _ w (f (g y)) cs; rw [hfg]; exact hk, by show good (f (g y)); rw [hfg]; exact hg⟩
/-- A whole argument. -/
theorem Opens.arg {α : Type} {d : Kn α} {good : α → Prop} (h : Opens P t d good) {H : Type} {enc : TypeId × Value → H} {w : World} {base : Nat} {spare : Nat → Bool} {held : Bool} {v : Value} {dt : DataW H} {p : List MemPlace}
    (hx : DataW.Trod enc P w base spare held t v dt p) : ∃ y : α, d.K (fun _ => True) w y v.cells.toList ∧ good y := by
  obtain ⟨fuel, hf⟩ := hx
  exact h _ _ _ _ _ _ _ _ _ hf
end
end Go.Proofs.Ytfoghahidofegaa

namespace Go.Proofs.Ytfoghahidofegaa
open Go.RowKit

theorem opInt : Opens Try.prog 3 (Kn.int .i64) (fun n => (Lit.int .i64 n).wf = true) := Opens.int Try.underlying3
theorem opStr : Opens Try.prog 9 Kn.str (fun s => s.size ≤ maxLen) := Opens.str Try.underlying9
theorem opStrs : Opens Try.prog 22 (Kn.slice Kn.str) (fun xs => ∀ x ∈ xs, x.size ≤ maxLen) := Opens.slice Try.underlying22 (by kernel_rfl) (by decide) opStr
def goodClause (c : Clause) : Prop := (∀ x ∈ c.tags, x.size ≤ maxLen) ∧ ∀ x ∈ c.types, x.size ≤ maxLen
def goodField (f : ByteArray × Int) : Prop := f.1.size ≤ maxLen ∧ (Lit.int .i64 f.2).wf = true
def goodEvent (e : Event) : Prop := e.stream.size ≤ maxLen ∧ e.type.size ≤ maxLen ∧ (∀ x ∈ e.tags, x.size ≤ maxLen) ∧ ∀ x ∈ e.fields, goodField x
abbrev gS : ByteArray → Prop := fun x => x.size ≤ maxLen
abbrev gSs : List ByteArray → Prop := fun xs => ∀ x ∈ xs, x.size ≤ maxLen
abbrev gN : Int → Prop := fun n => (Lit.int .i64 n).wf = true
theorem opClause : Opens Try.prog 95 kClause goodClause :=
  Opens.iso (f := fun c : Clause => (c.tags, c.types)) (g := fun p => ⟨p.1, p.2⟩) (good := fun (y : List ByteArray × List ByteArray) => gSs y.1 ∧ gSs y.2) (hfg := fun _ => rfl)
    (Opens.struct (d := Kn.pair kStrs kStrs) Try.underlying95 (by kernel_rfl) (OpensFs.cons (good := gSs) (good' := gSs) (d := kStrs) opStrs (by kernel_rfl) (OpensFs.last opStrs (by kernel_rfl))))
theorem opClauses : Opens Try.prog 54 kQuery (fun q => ∀ c ∈ q, goodClause c) := Opens.slice Try.underlying54 (by kernel_rfl) (by decide) opClause
theorem opQuery : Opens Try.prog 56 kQuery (fun q => ∀ c ∈ q, goodClause c) := Opens.struct Try.underlying56 (by kernel_rfl) (OpensFs.last opClauses (by kernel_rfl))
theorem opField : Opens Try.prog 34 kField goodField :=
  Opens.struct (d := kField) (good := fun (y : ByteArray × Int) => gS y.1 ∧ gN y.2) Try.underlying34 (by kernel_rfl) (OpensFs.cons (good := gS) (good' := gN) (d := Kn.str) opStr (by kernel_rfl) (OpensFs.last opInt (by kernel_rfl)))
theorem opFields : Opens Try.prog 23 (Kn.slice kField) (fun q => ∀ c ∈ q, goodField c) := Opens.slice Try.underlying23 (by kernel_rfl) (by decide) opField
theorem opEvent : Opens Try.prog 25 kEvent goodEvent :=
  Opens.iso (f := fun e : Event => (e.stream, e.type, e.tags, e.fields)) (g := fun p => ⟨p.1, p.2.1, p.2.2.1, p.2.2.2⟩) (good := fun (y : ByteArray × ByteArray × List ByteArray × List (ByteArray × Int)) => gS y.1 ∧ gS y.2.1 ∧ gSs y.2.2.1 ∧ ∀ x ∈ y.2.2.2, goodField x) (hfg := fun _ => rfl)
    (Opens.struct (d := Kn.pair Kn.str (Kn.pair Kn.str (Kn.pair kStrs (Kn.slice kField)))) Try.underlying25 (by kernel_rfl)
      (OpensFs.cons (good := gS) (good' := fun (y : ByteArray × List ByteArray × List (ByteArray × Int)) => gS y.1 ∧ gSs y.2.1 ∧ ∀ x ∈ y.2.2, goodField x) (d := Kn.str) opStr (by kernel_rfl)
        (OpensFs.cons (good := gS) (good' := fun (y : List ByteArray × List (ByteArray × Int)) => gSs y.1 ∧ ∀ x ∈ y.2, goodField x) (d := Kn.str) opStr (by kernel_rfl)
          (OpensFs.cons (good := gSs) (good' := fun (y : List (ByteArray × Int)) => ∀ x ∈ y, goodField x) (d := kStrs) opStrs (by kernel_rfl) (OpensFs.last opFields (by kernel_rfl))))))
end Go.Proofs.Ytfoghahidofegaa

namespace Go.Proofs.Ytfoghahidofegaa
open Go.RowKit

abbrev SlS (w : World) (A : Option Addr) (c : Nat) (xs : List ByteArray) : Prop := Sl Kn.str (fun _ => True) w A c xs
theorem row_str_at {ok : Nat → Prop} {w : World} {A : Option Addr} {xs : List ByteArray} (h : Row Kn.str ok w A xs) {j : Nat} (hj : j < xs.length) : ∃ ad, A = some ad ∧ w.cell? (ad.add j) = some (.string xs[j]) := by
  obtain ⟨ad, cs, e, _, _, _, hk, hc⟩ := h.at_ hj
  have hk' : cs = [.string xs[j]] := hk
  subst hk'
  exact ⟨ad, e, by simpa [Kn.str, Kn.scalar] using hc 0 _ rfl⟩
theorem any_take_succ {α : Type} (p : α → Bool) (xs : List α) (k : Nat) (h : k < xs.length) : (xs.take (k + 1)).any p = ((xs.take k).any p || p xs[k]) := by
  rw [List.take_succ_eq_append_getElem h, List.any_append]; simp
theorem any_of_at {α : Type} {p : α → Bool} {xs : List α} {k : Nat} (h : k < xs.length) (hp : p xs[k] = true) : xs.any p = true := List.any_eq_true.2 ⟨xs[k], List.getElem_mem h, hp⟩
theorem strEq (s t : ByteArray) : (s.data.toList == t.data.toList) = decide (s = t) := by
  by_cases h : s = t
  · subst h; simp
  · have : ¬ s.data.toList = t.data.toList := fun e => h (ByteArray.ext (Array.ext' e))
    rw [decide_eq_false h, beq_eq_false_iff_ne]; exact this

theorem strEqL (s t : ByteArray) : (s.toList == t.toList) = decide (s = t) := by rw [Lib.toList_data, Lib.toList_data]; exact strEq s t
theorem ret_bool {a b : Bool} (h : a = b) : Ending.returned (.bool a) = .returned (.bool b) := by rw [h]
theorem ret_int {k : IntKind} {a b : Int} (h : a = b) : Ending.returned (.int k a) = .returned (.int k b) := by rw [h]
def hasS (x : ByteArray) (xs : List ByteArray) : Bool := xs.any (fun y => decide (x = y))
theorem hasS_iff (x : ByteArray) (xs : List ByteArray) : hasS x xs = true ↔ x ∈ xs := by
  unfold hasS
  rw [List.any_eq_true]
  exact ⟨fun ⟨y, h1, h2⟩ => by have := of_decide_eq_true h2; subst this; exact h1, fun h => ⟨x, h, by simp⟩⟩

/-- A function value on texts: in every world in which what lay there lies unturned it answers p, and turns nothing. -/
def PredS (g : Nat) (lb : Array Value) (p : ByteArray → Bool) (w : World) : Prop := ∀ (s : ByteArray) (W : World), Below w.heap.size w W → Calls Try.prog g (#[.string s] ++ lb) W fun e w' => e = .returned (.bool (p s)) ∧ Below W.heap.size W w'

set_option maxHeartbeats 400000 in
theorem indexFuncS_any {A : Option Addr} {c : Nat} {xs : List ByteArray} {w : World} (h : SlS w A c xs) (g : Nat) (lb : Array Value) (p : ByteArray → Bool) (eg : ∀ (args : Array Value) (W : World), (callFunc g args).run Try.prog W = .ok (.enter g args) W) (hp : PredS g lb p w) :
    Calls Try.prog 56 #[.slice A xs.length c, .func (.func g) #[] lb] w fun e w' => ∃ i : Int, e = .returned (.int .i64 i) ∧ Below w.heap.size w w' ∧ -1 ≤ i ∧ decide (0 ≤ i) = xs.any p := by
  obtain ⟨h1, h2, h3⟩ := h
  unfold maxLen at h2
  have HP := Lib.hid hp
  clear hp
  go_enter Try.func56, Try.ntmps56
  go_wp2
  go_loopw [8] (fun i wr => ∃ k : Nat, k ≤ xs.length ∧ i = .int .i64 k ∧ Hid ((xs.take k).any p = false) ∧ Below w.heap.size w wr) (fun i _ => xs.length - (intOf i).toNat)
  case atStart => exact ⟨0, Nat.zero_le _, rfl, by exact rfl, Below.refl _ _⟩
  case round =>
    obtain ⟨k, hk, rfl, hn, hb⟩ := hrel
    by_cases hlt : k < xs.length
    · obtain ⟨ad, rfl, hx⟩ := row_str_at (h3.below hb) hlt
      generalize hye : xs[k] = y at hx
      have HY := Lib.hid hye
      clear hye
      go_wp2_with fail
      refine (HP.out y wr hb).mono ?_
      rintro e w1 ⟨rfl, hb1⟩
      cases hpy : p y
      · go_wp2
        go_roundw
        case rel => exact ⟨k + 1, by omega, by go_num, by show _ = false; rw [any_take_succ _ _ _ hlt, hn.out, HY.out, hpy]; rfl, bthen hb hb1⟩
        case measure => simp [intOf]; omega
      · go_wp2
        go_ret
        exact ⟨k, rfl, bthen hb hb1, by omega, by rw [any_of_at hlt (by rw [HY.out]; exact hpy)]; simp⟩
    · go_wp2
      go_ret
      obtain rfl : k = xs.length := by omega
      have h4 : (xs.take xs.length).any p = false := hn.out
      rw [List.take_length] at h4
      exact ⟨-1, rfl, hb, by omega, by rw [h4]; rfl⟩

theorem containsFuncS_any {A : Option Addr} {c : Nat} {xs : List ByteArray} {w : World} (h : SlS w A c xs) (g : Nat) (lb : Array Value) (p : ByteArray → Bool) (eg : ∀ (args : Array Value) (W : World), (callFunc g args).run Try.prog W = .ok (.enter g args) W) (hp : PredS g lb p w) :
    Calls Try.prog 30 #[.slice A xs.length c, .func (.func g) #[] lb] w fun e w' => e = .returned (.bool (xs.any p)) ∧ Below w.heap.size w w' := by
  have H := Lib.hid (indexFuncS_any h g lb p eg hp)
  clear hp
  go_enter Try.func30, Try.ntmps30
  go_wp2_with fail
  refine H.out.mono ?_
  rintro e w' ⟨i, rfl, hb, h1, h2⟩
  have H2 := Lib.hid h2
  clear h2
  go_wp2
  go_ret
  exact ⟨ret_bool H2.out, hb⟩
end Go.Proofs.Ytfoghahidofegaa

namespace Go.Proofs.Ytfoghahidofegaa
open Go.RowKit

abbrev SlC (w : World) (A : Option Addr) (c : Nat) (xs : List Clause) : Prop := Sl kClause (fun _ => True) w A c xs
/-- A function value on clauses. -/
def PredC (g : Nat) (lb : Array Value) (p : Clause → Bool) (w : World) : Prop := ∀ (x : Clause) (S T : Option Addr) (sa ta : Nat) (W : World), Below w.heap.size w W → SlS W S sa x.tags → SlS W T ta x.types →
  Calls Try.prog g (#[.agg #[.slice S x.tags.length sa, .slice T x.types.length ta]] ++ lb) W fun e w' => e = .returned (.bool (p x)) ∧ Below W.heap.size W w'

/-- An event as a value. -/
abbrev vEvent (e : Event) (A : Option Addr) (ca : Nat) (B : Option Addr) (cb : Nat) : Value := .agg #[.string e.stream, .string e.type, .slice A e.tags.length ca, .slice B e.fields.length cb]

/-- An event in a block of its own. -/
structure EvBox (W : World) (b : Nat) (e : Event) (A : Option Addr) (ca : Nat) (B : Option Addr) (cb : Nat) : Prop where
  blk : W.heap[b]? = some (.cells #[.string e.stream, .string e.type, .slice A e.tags.length ca, .slice B e.fields.length cb] 25 (0, 0))
  tags : SlS W A ca e.tags
theorem EvBox.lt {W : World} {b : Nat} {e : Event} {A B : Option Addr} {ca cb : Nat} (h : EvBox W b e A ca B cb) : b < W.heap.size := (Array.getElem?_eq_some_iff.1 h.blk).1
theorem EvBox.below {W W' : World} {b : Nat} {e : Event} {A B : Option Addr} {ca cb : Nat} (h : EvBox W b e A ca B cb) (hb : Below W.heap.size W W') : EvBox W' b e A ca B cb := ⟨(hb.block _ h.lt).trans h.blk, h.tags.below hb⟩
theorem EvBox.cells {W : World} {b : Nat} {e : Event} {A B : Option Addr} {ca cb : Nat} (h : EvBox W b e A ca B cb) : W.cell? ⟨b, 0, none⟩ = some (.string e.stream) ∧ W.cell? ⟨b, 1, none⟩ = some (.string e.type) ∧ W.cell? ⟨b, 2, none⟩ = some (.slice A e.tags.length ca) ∧ W.cell? ⟨b, 3, none⟩ = some (.slice B e.fields.length cb) :=
  ⟨cell_of_row _ _ _ _ _ _ h.blk, cell_of_row _ _ _ _ _ _ h.blk, cell_of_row _ _ _ _ _ _ h.blk, cell_of_row _ _ _ _ _ _ h.blk⟩

/-- A clause is true of an event. -/
def clauseM (e : Event) (c : Clause) : Bool := c.tags.all (fun s => hasS s e.tags) && (c.types.isEmpty || hasS e.type c.types)
def matchM (q : List Clause) (e : Event) : Bool := q.any (clauseM e)
theorem any_not_all (e : Event) (l : List ByteArray) : l.any (fun s => !hasS s e.tags) = !l.all (fun s => hasS s e.tags) := by
  induction l with
  | nil => rfl
  | cons x l ih => simp [ih]

end Go.Proofs.Ytfoghahidofegaa

namespace Go.Proofs.Ytfoghahidofegaa

/-- The order of strings. -/
def ltB (x y : ByteArray) : Prop := x.data.toList < y.data.toList
theorem ltB_irrefl (x : ByteArray) : ¬ ltB x x := fun h => List.lt_irrefl _ h
theorem ltB_trans {x y z : ByteArray} (h : ltB x y) (k : ltB y z) : ltB x z := List.lt_trans h k
theorem ltB_tri (x y : ByteArray) : ltB x y ∨ x = y ∨ ltB y x := by
  rcases List.le_total x.data.toList y.data.toList with h | h <;> rcases List.le_iff_lt_or_eq.1 h with h1 | h1
  · exact .inl h1
  · exact .inr (.inl (ByteArray.ext (Array.ext' h1)))
  · exact .inr (.inr h1)
  · exact .inr (.inl (ByteArray.ext (Array.ext' h1.symm)))
instance (x y : ByteArray) : Decidable (ltB x y) := inferInstanceAs (Decidable (x.data.toList < y.data.toList))
/-- Rising rows with the same texts are the same. -/
theorem riseB_eq {ns ms : List ByteArray} (h : ns.Pairwise ltB) (k : ms.Pairwise ltB) (e : ∀ x, x ∈ ns ↔ x ∈ ms) : ns = ms := by
  have nd : ∀ {l : List ByteArray}, l.Pairwise ltB → l.Nodup := fun h => h.imp (fun {a b} h => by rintro rfl; exact ltB_irrefl _ h)
  exact List.Perm.eq_of_pairwise (le := ltB) (fun a b _ _ h1 h2 => absurd (ltB_trans h1 h2) (ltB_irrefl _)) h k ((List.perm_ext_iff_of_nodup (nd h) (nd k)).2 e)
end Go.Proofs.Ytfoghahidofegaa

namespace Go.Proofs.Ytfoghahidofegaa
open Go.RowKit

/-- The rows are alike as far as they have been looked at. -/
def AlikeB (a b : List ByteArray) (k : Nat) : Prop := ∀ j, j < k → a[j]? = b[j]?
theorem alikeB_all {a b : List ByteArray} (hl : a.length = b.length) (h : AlikeB a b a.length) : a = b := by
  refine List.ext_getElem? fun j => ?_
  rcases Nat.lt_or_ge j a.length with hj | hj
  · exact h j hj
  · rw [List.getElem?_eq_none hj, List.getElem?_eq_none (by omega)]

set_option maxHeartbeats 400000 in
theorem Texts_any (A B : Option Addr) (ca cb : Nat) (a b : List ByteArray) (w : World) (hca : a.length ≤ ca) (hcb : b.length ≤ cb) (hma : ca ≤ maxLen) (hmb : cb ≤ maxLen)
    (ha : Row Kn.str (fun _ => True) w A a) (hb : Row Kn.str (fun _ => True) w B b) :
    Calls Try.prog 68 #[.slice A a.length ca, .slice B b.length cb] w fun e w' => e = .returned (.bool (decide (a = b))) ∧ ∃ n, w' = w.drewN n := by
  unfold maxLen at hma hmb
  by_cases hl : a.length = b.length
  · have H0 := Lib.hid hl
    have hl0 : ((a.length : Int) != (b.length : Int)) = false := by rw [hl]; simp
    have hl1 : a.length ≤ b.length := by omega
    have hl2 : b.length ≤ a.length := by omega
    clear hl
    go_enter Try.func68, Try.ntmps68
    go_wp2
    go_loopw [5] (fun i wr => ∃ k n : Nat, k ≤ a.length ∧ i = .int .i64 k ∧ AlikeB a b k ∧ wr = w.drewN n) (fun i _ => a.length - (intOf i).toNat)
    case atStart => exact ⟨0, 0, Nat.zero_le _, rfl, fun j hj => by omega, rfl⟩
    case round =>
      obtain ⟨k, n, hk, rfl, hal, rfl⟩ := hrel
      by_cases hlt : k < a.length
      · obtain ⟨ad, rfl, hx⟩ := row_str_at ha hlt
        obtain ⟨bd, rfl, hy⟩ := row_str_at hb (j := k) (by omega)
        have hltb : k < b.length := by omega
        generalize hxe : a[k] = x at hx
        generalize hye : b[k] = y at hy
        have HX := Lib.hid hxe
        have HY := Lib.hid hye
        clear hxe hye
        have hq := strEqL x y
        by_cases hxy : x = y
        · rw [decide_eq_true hxy] at hq
          have HXY := Lib.hid hxy
          clear hxy
          go_wp2
          go_quiet (fail)
          go_wp2
          go_roundw
          case rel =>
            refine ⟨k + 1, _, by omega, by go_num, fun j hj => ?_, rfl⟩
            rcases Nat.lt_or_ge j k with h | h
            · exact hal j h
            · obtain rfl : j = k := by omega
              rw [List.getElem?_eq_getElem hlt, List.getElem?_eq_getElem hltb, HX.out, HY.out, HXY.out]
          case measure => simp [intOf]; omega
        · rw [decide_eq_false hxy] at hq
          have HXY := Lib.hid hxy
          clear hxy
          go_wp2
          go_quiet (fail)
          go_wp2
          go_ret
          refine ⟨?_, _, World.drewN_drewN _ _ _⟩
          have : a ≠ b := fun e => by
            subst e
            exact HXY.out (HX.out.symm.trans HY.out)
          simp [this]
      · go_wp2
        go_ret
        refine ⟨?_, _, rfl⟩
        obtain rfl : k = a.length := by omega
        simp [alikeB_all H0.out hal]
  · have hl0 : ((a.length : Int) != (b.length : Int)) = true := by rw [bne_iff_ne]; omega
    go_enter Try.func68, Try.ntmps68
    go_wp2
    go_ret
    refine ⟨?_, 0, rfl⟩
    have : a ≠ b := fun e => hl (by rw [e])
    simp [this]
end Go.Proofs.Ytfoghahidofegaa

namespace Go.Proofs.Ytfoghahidofegaa
open Go.RowKit

theorem texts_any2 {A B : Option Addr} {ca cb : Nat} {a b : List ByteArray} {w : World} (ha : SlS w A ca a) (hb : SlS w B cb b) : Calls Try.prog 68 #[.slice A a.length ca, .slice B b.length cb] w fun e w' => e = .returned (.bool (decide (a = b))) ∧ Below w.heap.size w w' :=
  (Texts_any A B ca cb a b w ha.1 hb.1 ha.2.1 hb.2.1 ha.2.2 hb.2.2).mono fun r w' ⟨e, n, h⟩ => ⟨e, h ▸ below_drewN (Below.refl _ _) n⟩
end Go.Proofs.Ytfoghahidofegaa
