/- Kinds of values with their footprint: what a value's cells say in a world, and which blocks that hangs on. Own work; nothing of a program in it. -/
import Derived.Below
import Derived.Maps.AppendAt
import Derived.Deep.Draws
import Derived.OwnWalk
import Derived.Lib.Hide
import Derived.Deep.AppendLies
set_option linter.unusedVariables false
set_option linter.unusedSimpArgs false
namespace Go.Proofs.Ythinieokpgmfoaa
open Go.RowKit

theorem block_add (a : Addr) (n : Nat) : (a.add n).block = a.block := by unfold Addr.add; split <;> rfl
theorem add_add (a : Addr) (i j : Nat) : (a.add i).add j = a.add (i + j) := by
  unfold Addr.add
  by_cases hi : i = 0 <;> by_cases hj : j = 0 <;> simp [hi, hj, Nat.add_assoc]
theorem add_pos (a : Addr) (n : Nat) (h : 0 < n) : a.add n = ⟨a.block, a.off + n, none⟩ := by unfold Addr.add; rw [if_neg (by omega)]

theorem below_drewN {B : Nat} {a w : World} (h : Below B a w) (n : Nat) : Below B a (w.drewN n) := ⟨h.os, h.tape, h.output, h.size, h.block⟩

theorem bthen {w w1 w2 : World} (h : Below w.heap.size w w1) (k : Below w1.heap.size w1 w2) : Below w.heap.size w w2 := h.trans (k.mono h.size)

/-- What a value's cells say (K): 'ok': the blocks that it may hang on. -/
structure Kn (α : Type) where
  sz : Nat
  K : (Nat → Prop) → World → α → List Value → Prop
  len : ∀ {ok : Nat → Prop} {w : World} {x : α} {cs : List Value}, K ok w x cs → cs.length = sz
  one : ∀ {ok : Nat → Prop} {w : World} {x : α} {cs : List Value}, K ok w x cs → ∀ u ∈ cs, u.oneCell' = true
  mono : ∀ {ok ok' : Nat → Prop} {w : World} {x : α} {cs : List Value}, (∀ k, ok k → ok' k) → K ok w x cs → K ok' w x cs
  bound : ∀ {ok : Nat → Prop} {w : World} {x : α} {cs : List Value}, K ok w x cs → K (fun k => ok k ∧ k < w.heap.size) w x cs
  move : ∀ {ok : Nat → Prop} {w w' : World} {x : α} {cs : List Value}, w.heap.size ≤ w'.heap.size → (∀ k, ok k → w'.heap[k]? = w.heap[k]?) → K ok w x cs → K ok w' x cs

/-- A row of elements at an address. -/
def Row {α : Type} (d : Kn α) (ok : Nat → Prop) (w : World) (A : Option Addr) (xs : List α) : Prop :=
  0 < xs.length → ∃ ad, A = some ad ∧ ok ad.block ∧ ad.block < w.heap.size ∧ ∀ j x, xs[j]? = some x → ∃ cs, cs.length = d.sz ∧ d.K ok w x cs ∧ ∀ i u, cs[i]? = some u → w.cell? (ad.add (j * d.sz + i)) = some u

section
variable {α : Type} {d : Kn α} {ok ok' : Nat → Prop} {w w' : World} {A : Option Addr} {xs : List α} {x : α} {cs : List Value}

/-- What it hangs on stays. -/
theorem Kn.stay (h : d.K ok w x cs) (hs : w.heap.size ≤ w'.heap.size) (hm : ∀ k, ok k → k < w.heap.size → w'.heap[k]? = w.heap[k]?) : d.K ok w' x cs :=
  d.mono (fun _ hk => hk.1) (d.move hs (fun k hk => hm k hk.1 hk.2) (d.bound h))
theorem Kn.below (h : d.K ok w x cs) (hb : Below w.heap.size w w') : d.K ok w' x cs := d.stay h hb.size (fun k _ hk => hb.block k hk)

theorem Row.nil_ : Row d ok w A [] := fun h => absurd h (by simp)
theorem Row.mono (h : Row d ok w A xs) (hm : ∀ k, ok k → ok' k) : Row d ok' w A xs := fun hn => by
  obtain ⟨ad, e, h1, h2, h3⟩ := h hn
  refine ⟨ad, e, hm _ h1, h2, fun j x hj => ?_⟩
  obtain ⟨cs, hl, hk, hc⟩ := h3 j x hj
  exact ⟨cs, hl, d.mono hm hk, hc⟩
theorem Row.bound (h : Row d ok w A xs) : Row d (fun k => ok k ∧ k < w.heap.size) w A xs := fun hn => by
  obtain ⟨ad, e, h1, h2, h3⟩ := h hn
  refine ⟨ad, e, ⟨h1, h2⟩, h2, fun j x hj => ?_⟩
  obtain ⟨cs, hl, hk, hc⟩ := h3 j x hj
  exact ⟨cs, hl, d.bound hk, hc⟩
theorem Row.move (h : Row d ok w A xs) (hs : w.heap.size ≤ w'.heap.size) (hm : ∀ k, ok k → w'.heap[k]? = w.heap[k]?) : Row d ok w' A xs := fun hn => by
  obtain ⟨ad, e, h1, h2, h3⟩ := h hn
  refine ⟨ad, e, h1, by omega, fun j x hj => ?_⟩
  obtain ⟨cs, hl, hk, hc⟩ := h3 j x hj
  exact ⟨cs, hl, d.move hs hm hk, fun i u hu => (World.cell?_of_block (w := w) (by rw [block_add]; exact hm _ h1)).trans (hc i u hu)⟩
theorem Row.stay (h : Row d ok w A xs) (hs : w.heap.size ≤ w'.heap.size) (hm : ∀ k, ok k → k < w.heap.size → w'.heap[k]? = w.heap[k]?) : Row d ok w' A xs :=
  Row.mono (Row.move (Row.bound h) hs (fun k hk => hm k hk.1 hk.2)) (fun _ hk => hk.1)
theorem Row.below (h : Row d ok w A xs) (hb : Below w.heap.size w w') : Row d ok w' A xs := h.stay hb.size (fun k _ hk => hb.block k hk)
theorem Row.at_ (h : Row d ok w A xs) {j : Nat} (hj : j < xs.length) :
    ∃ ad cs, A = some ad ∧ ok ad.block ∧ ad.block < w.heap.size ∧ cs.length = d.sz ∧ d.K ok w xs[j] cs ∧ ∀ i u, cs[i]? = some u → w.cell? (ad.add (j * d.sz + i)) = some u := by
  obtain ⟨ad, e, h1, h2, h3⟩ := h (by omega)
  obtain ⟨cs, hl, hk, hc⟩ := h3 j _ (List.getElem?_eq_getElem hj)
  exact ⟨ad, cs, e, h1, h2, hl, hk, hc⟩
theorem Row.under {B : Nat} (h : Row d (fun k => k < B) w A xs) (hb : Below B w w') : Row d (fun k => k < B) w' A xs := h.stay hb.size (fun k hk _ => hb.block k hk)
theorem Row.drewN (h : Row d ok w A xs) (n : Nat) : Row d ok (w.drewN n) A xs := h.stay (Nat.le_refl _) (fun _ _ _ => rfl)
/-- A cut at its begin: the address as the model's cut gives it. -/
theorem Row.cut (h : Row d ok w A xs) {k cap : Nat} (hc : xs.length ≤ cap) : Row d ok w (if cap = k then A else A.map (·.add (k * d.sz))) (xs.drop k) := fun hn => by
  rw [List.length_drop] at hn
  obtain ⟨ad, e, h1, h2, h3⟩ := h (by omega)
  subst e
  rw [if_neg (by omega)]
  refine ⟨ad.add (k * d.sz), rfl, by rw [block_add]; exact h1, by rw [block_add]; exact h2, fun j x hj => ?_⟩
  rw [List.getElem?_drop] at hj
  obtain ⟨cs, hl, hk, hcell⟩ := h3 _ x hj
  refine ⟨cs, hl, hk, fun i u hu => ?_⟩
  rw [add_add, show k * d.sz + (j * d.sz + i) = (k + j) * d.sz + i by rw [Nat.add_mul, Nat.add_assoc]]
  exact hcell i u hu
/-- A cut at its end. -/
theorem Row.take (h : Row d ok w A xs) (k : Nat) : Row d ok w A (xs.take k) := fun hn => by
  rw [List.length_take] at hn
  obtain ⟨ad, e, h1, h2, h3⟩ := h (by omega)
  refine ⟨ad, e, h1, h2, fun j x hj => h3 j x ?_⟩
  rw [List.getElem?_take] at hj
  split at hj
  · exact hj
  · cases hj
end

namespace Kn
/-- One cell. -/
def scalar {α : Type} (enc : α → Value) (h1 : ∀ x, (enc x).oneCell' = true) : Kn α where
  sz := 1
  K := fun _ _ x cs => cs = [enc x]
  len := fun h => by rw [h]; rfl
  one := fun h u hu => by
    rw [h] at hu
    rw [List.mem_singleton.1 hu]
    exact h1 _
  mono := fun _ h => h
  bound := fun h => h
  move := fun _ _ h => h
def int (k : IntKind) : Kn Int := scalar (Value.int k) (fun _ => rfl)
def bool : Kn Bool := scalar Value.bool (fun _ => rfl)
def str : Kn ByteArray := scalar Value.string (fun _ => rfl)
def slice {α : Type} (d : Kn α) : Kn (List α) where
  sz := 1
  K := fun ok w xs cs => ∃ A c, cs = [.slice A xs.length c] ∧ xs.length ≤ c ∧ c ≤ maxLen ∧ Row d ok w A xs
  len := by
    rintro ok w x cs ⟨A, c, rfl, _⟩
    rfl
  one := by
    rintro ok w x cs ⟨A, c, rfl, _⟩ u hu
    rw [List.mem_singleton.1 hu]
    rfl
  mono := by
    rintro ok ok' w x cs hm ⟨A, c, rfl, h1, h2, h3⟩
    exact ⟨A, c, rfl, h1, h2, h3.mono hm⟩
  bound := by
    rintro ok w x cs ⟨A, c, rfl, h1, h2, h3⟩
    exact ⟨A, c, rfl, h1, h2, h3.bound⟩
  move := by
    rintro ok w w' x cs hs hm ⟨A, c, rfl, h1, h2, h3⟩
    exact ⟨A, c, rfl, h1, h2, h3.move hs hm⟩
def pair {α β : Type} (a : Kn α) (b : Kn β) : Kn (α × β) where
  sz := a.sz + b.sz
  K := fun ok w x cs => ∃ c0 c1, cs = c0 ++ c1 ∧ a.K ok w x.1 c0 ∧ b.K ok w x.2 c1
  len := by
    rintro ok w x cs ⟨c0, c1, rfl, h0, h1⟩
    rw [List.length_append, a.len h0, b.len h1]
  one := by
    rintro ok w x cs ⟨c0, c1, rfl, h0, h1⟩ u hu
    rcases List.mem_append.1 hu with hu | hu
    · exact a.one h0 u hu
    · exact b.one h1 u hu
  mono := by
    rintro ok ok' w x cs hm ⟨c0, c1, rfl, h0, h1⟩
    exact ⟨c0, c1, rfl, a.mono hm h0, b.mono hm h1⟩
  bound := by
    rintro ok w x cs ⟨c0, c1, rfl, h0, h1⟩
    exact ⟨c0, c1, rfl, a.bound h0, b.bound h1⟩
  move := by
    rintro ok w w' x cs hs hm ⟨c0, c1, rfl, h0, h1⟩
    exact ⟨c0, c1, rfl, a.move hs hm h0, b.move hs hm h1⟩
def iso {α β : Type} (d : Kn α) (f : β → α) : Kn β where
  sz := d.sz
  K := fun ok w x cs => d.K ok w (f x) cs
  len := d.len
  one := d.one
  mono := d.mono
  bound := d.bound
  move := d.move
end Kn

/-! ## A row of the call's own, being built -/
theorem flat_at {sz : Nat} : ∀ (css : List (List Value)) (_ : ∀ c ∈ css, c.length = sz) (j i : Nat) (c : List Value) (u : Value), css[j]? = some c → c[i]? = some u → css.flatten[j * sz + i]? = some u
  | [], _, j, i, c, u, hc, _ => by simp at hc
  | c0 :: css, hs, 0, i, c, u, hc, hu => by
    simp at hc
    subst hc
    rw [List.flatten_cons, Nat.zero_mul, Nat.zero_add, List.getElem?_append_left (List.getElem?_eq_some_iff.1 hu).1]
    exact hu
  | c0 :: css, hs, j + 1, i, c, u, hc, hu => by
    have h0 : c0.length = sz := hs c0 List.mem_cons_self
    rw [List.flatten_cons, List.getElem?_append_right (by rw [h0, Nat.add_mul]; omega), h0, show (j + 1) * sz + i - sz = j * sz + i by rw [Nat.add_mul]; omega]
    exact flat_at css (fun c hc => hs c (List.mem_cons_of_mem _ hc)) j i c u (by simpa using hc) hu

/-- v is a row of elements (type e) of the call's own, from block 'base' on; what its elements hang on is ok, and none of it is the row itself. -/
def Own {α : Type} (d : Kn α) (e : TypeId) (base : Nat) (ok : Nat → Prop) (w : World) (v : Value) (xs : List α) : Prop :=
  ∃ css : List (List Value), w.ownsRow base e d.sz v xs.length css.flatten ∧ css.length = xs.length ∧ (∀ c ∈ css, c.length = d.sz) ∧ (∀ c ∈ css, ∀ u ∈ c, u.oneCell' = true) ∧
    ∀ (j : Nat) (x : α), xs[j]? = some x → ∃ cs : List Value, css[j]? = some cs ∧ d.K (fun k => ok k ∧ some k ≠ v.ownBlock) w x cs

section
variable {α : Type} {d : Kn α} {e : TypeId} {base : Nat} {ok ok' : Nat → Prop} {w w' : World} {v : Value} {xs : List α}

theorem own_base {n size : Nat} {cs : List Value} (h : w.ownsRow base e size v n cs) (k : Nat) (hk : v.ownBlock = some k) : base ≤ k := (h.lt k hk).1
theorem own_lt {n size : Nat} {cs : List Value} (h : w.ownsRow base e size v n cs) (k : Nat) (hk : v.ownBlock = some k) : k < w.heap.size := (h.lt k hk).2

theorem own_stay {n size : Nat} {cs : List Value} (h : w.ownsRow base e size v n cs) (hm : ∀ k, v.ownBlock = some k → w'.heap[k]? = w.heap[k]?) : w'.ownsRow base e size v n cs := by
  obtain ⟨h1, h2⟩ := h
  refine ⟨h1, ?_⟩
  rcases h2 with h2 | ⟨g, cap, cur, rfl, hg, hh, r⟩
  · exact .inl h2
  · exact .inr ⟨g, cap, cur, rfl, hg, (hm g (by simp [Value.ownBlock])).trans hh, r⟩

theorem Own.nil_ (d : Kn α) (e : TypeId) (base : Nat) (ok : Nat → Prop) (w : World) : Own d e base ok w (.slice none 0 0) [] :=
  ⟨[], World.ownsRow_nil _ _ _ _, rfl, by simp, by simp, by simp⟩
/-- What it hangs on, and its own row, stay. -/
theorem Own.stay (h : Own d e base ok w v xs) (hs : w.heap.size ≤ w'.heap.size) (hm : ∀ k, (ok k ∨ v.ownBlock = some k) → k < w.heap.size → w'.heap[k]? = w.heap[k]?) : Own d e base ok w' v xs := by
  obtain ⟨css, h1, h2, h3, h4, h5⟩ := h
  refine ⟨css, own_stay h1 (fun k hk => hm k (.inr hk) (own_lt h1 k hk)), h2, h3, h4, fun j x hj => ?_⟩
  obtain ⟨cs, h6, h7⟩ := h5 j x hj
  exact ⟨cs, h6, d.stay h7 hs (fun k hk hlt => hm k (.inl hk.1) hlt)⟩
theorem Own.below (h : Own d e base ok w v xs) (hb : Below w.heap.size w w') : Own d e base ok w' v xs := h.stay hb.size (fun k _ hk => hb.block k hk)
theorem Own.drewN (h : Own d e base ok w v xs) (n : Nat) : Own d e base ok (w.drewN n) v xs := h.stay (Nat.le_refl _) (fun _ _ _ => rfl)
theorem Own.mono (h : Own d e base ok w v xs) (hm : ∀ k, ok k → ok' k) : Own d e base ok' w v xs := by
  obtain ⟨css, h1, h2, h3, h4, h5⟩ := h
  refine ⟨css, h1, h2, h3, h4, fun j x hj => ?_⟩
  obtain ⟨cs, h6, h7⟩ := h5 j x hj
  exact ⟨cs, h6, d.mono (fun k hk => ⟨hm k hk.1, hk.2⟩) h7⟩
theorem Own.lower {base' : Nat} (h : Own d e base ok w v xs) (hb : base' ≤ base) : Own d e base' ok w v xs := by
  obtain ⟨css, h1, h2⟩ := h
  obtain ⟨h3, h4⟩ := h1
  refine ⟨css, ⟨h3, ?_⟩, h2⟩
  rcases h4 with h4 | ⟨g, cap, cur, rfl, hg, r⟩
  · exact .inl h4
  · exact .inr ⟨g, cap, cur, rfl, Nat.le_trans hb hg, r⟩
/-- '[]T{}'. -/
theorem Own.lit0 (d : Kn α) (e : TypeId) (base : Nat) (ok : Nat → Prop) (w : World) (hb : base ≤ w.heap.size) : Own d e base ok (w.alloc (.cells #[] e)) (.slice (some ⟨w.heap.size, 0, none⟩) 0 0) [] :=
  ⟨[], by simpa using World.ownsRow_made (e := e) (size := d.sz) w #[] 0 hb (by simp [maxLen]) (by simp), rfl, by simp, by simp, by simp⟩
/-- Read as a row. -/
theorem Own.reads (h : Own d e base ok w v xs) : ∃ A c, v = .slice A xs.length c ∧ xs.length ≤ c ∧ c ≤ maxLen ∧ Row d (fun k => ok k ∨ base ≤ k) w A xs := by
  obtain ⟨css, h1, h2, h3, h4, h5⟩ := h
  obtain ⟨hl, hc⟩ := h1
  rcases hc with ⟨rfl, hn⟩ | ⟨g, cap, cur, rfl, hg, hh, hncap, hcap, hcur, htake⟩
  · have : xs = [] := List.eq_nil_of_length_eq_zero hn
    subst this
    exact ⟨none, 0, rfl, Nat.le_refl _, by simp [maxLen], Row.nil_⟩
  · refine ⟨_, cap, rfl, hncap, hcap, fun _ => ⟨_, rfl, .inr hg, (Array.getElem?_eq_some_iff.1 hh).1, fun j x hj => ?_⟩⟩
    obtain ⟨cs, hcs, hk⟩ := h5 j x hj
    refine ⟨cs, h3 _ (List.mem_of_getElem? hcs), d.mono (fun k hk => .inl hk.1) hk, fun i u hu => ?_⟩
    have hf := flat_at css h3 j i cs u hcs hu
    have ho : w.ownsRow base e d.sz (.slice (some ⟨g, 0, none⟩) xs.length cap) xs.length css.flatten := ⟨hl, .inr ⟨g, cap, cur, rfl, hg, hh, hncap, hcap, hcur, htake⟩⟩
    exact ho.cells (g := g) rfl _ u hf
/-- Its value as a kind's cell. -/
theorem Own.kind (h : Own d e base ok w v xs) : (Kn.slice d).K (fun k => ok k ∨ base ≤ k) w xs [v] := by
  obtain ⟨A, c, rfl, h1, h2, h3⟩ := h.reads
  exact ⟨A, c, rfl, h1, h2, h3⟩
theorem Own.len_le (h : Own d e base ok w v xs) : xs.length ≤ maxLen := by
  obtain ⟨A, c, _, h1, h2, _⟩ := h.reads
  omega
end

/-! ## A slice value at hand: '.slice A xs.length c' -/
def Sl {α : Type} (d : Kn α) (ok : Nat → Prop) (w : World) (A : Option Addr) (c : Nat) (xs : List α) : Prop := xs.length ≤ c ∧ c ≤ maxLen ∧ Row d ok w A xs
section
variable {α : Type} {d : Kn α} {ok ok' : Nat → Prop} {w w' : World} {A : Option Addr} {c : Nat} {xs : List α}
theorem Sl.below (h : Sl d ok w A c xs) (hb : Below w.heap.size w w') : Sl d ok w' A c xs := ⟨h.1, h.2.1, h.2.2.below hb⟩
theorem Sl.stay (h : Sl d ok w A c xs) (hs : w.heap.size ≤ w'.heap.size) (hm : ∀ k, ok k → k < w.heap.size → w'.heap[k]? = w.heap[k]?) : Sl d ok w' A c xs := ⟨h.1, h.2.1, h.2.2.stay hs hm⟩
theorem Sl.mono (h : Sl d ok w A c xs) (hm : ∀ k, ok k → ok' k) : Sl d ok' w A c xs := ⟨h.1, h.2.1, h.2.2.mono hm⟩
theorem Sl.any (h : Sl d ok w A c xs) : Sl d (fun _ => True) w A c xs := h.mono (fun _ _ => trivial)
theorem Sl.drewN (h : Sl d ok w A c xs) (n : Nat) : Sl d ok (w.drewN n) A c xs := ⟨h.1, h.2.1, h.2.2.drewN n⟩
theorem Sl.alloc (h : Sl d ok w A c xs) (o : Obj) : Sl d ok (w.alloc o) A c xs := h.below ((Below.refl _ _).alloc (Nat.le_refl _) o)
theorem Sl.nil_ : Sl d ok w none 0 [] := ⟨Nat.le_refl _, by simp [maxLen], Row.nil_⟩
theorem Sl.kind (h : Sl d ok w A c xs) : (Kn.slice d).K ok w xs [.slice A xs.length c] := ⟨A, c, rfl, h.1, h.2.1, h.2.2⟩
theorem Own.sl {e : TypeId} {base : Nat} {v : Value} (h : Own d e base ok w v xs) : ∃ A c, v = .slice A xs.length c ∧ Sl d (fun k => ok k ∨ base ≤ k) w A c xs := by
  obtain ⟨A, c, h1, h2, h3, h4⟩ := h.reads
  exact ⟨A, c, h1, h2, h3, h4⟩
/-- '[]T{x, y, ..}' of one-cell elements. -/
theorem Sl.lit {α : Type} (enc : α → Value) (h1 : ∀ x, (enc x).oneCell' = true) (w : World) (e : TypeId) (xs : List α) (hl : xs.length ≤ maxLen) :
    Sl (Kn.scalar enc h1) (fun k => w.heap.size ≤ k) (w.alloc (.cells (xs.map enc).toArray e)) (some ⟨w.heap.size, 0, none⟩) xs.length xs := by
  refine ⟨Nat.le_refl _, hl, fun _ => ⟨_, rfl, Nat.le_refl _, by simp, fun j x hj => ⟨[enc x], rfl, rfl, fun i u hu => ?_⟩⟩⟩
  have hi : i = 0 := by
    have := (List.getElem?_eq_some_iff.1 hu).1
    simp at this; omega
  subst hi
  have : u = enc x := by simpa using hu.symm
  subst this
  rw [show (⟨w.heap.size, 0, none⟩ : Addr).add (j * (Kn.scalar enc h1).sz + 0) = ⟨w.heap.size, j, none⟩ by
    unfold Addr.add
    split
    · rename_i h0; simp [Kn.scalar] at h0; subst h0; rfl
    · simp [Kn.scalar]]
  have hb := heap_alloc_new w (.cells (xs.map enc).toArray e)
  rw [cell_of_row _ _ _ _ _ _ hb]
  simp [hj]
end

/-! ## append(v, y) at the operation -/
section
variable {α : Type} {d : Kn α} {P : Program} {ops : Array Oper} {rest : List Oper} {o : Oper} {a : Act} {Q : Exit → Act → World → Prop}
/-- The row's one more element, in the world behind an append. -/
theorem Own.pushed {e : TypeId} {base : Nat} {ok : Nat → Prop} {W w1 : World} {v v1 : Value} {xs : List α} {y : α} {cs : List Value} (h : Own d e base ok W v xs) (hk : d.K (fun k => ok k ∧ some k ≠ v.ownBlock) W y cs)
    (hrow : ∀ css : List (List Value), W.ownsRow base e d.sz v xs.length css.flatten → w1.ownsRow base e d.sz v1 (xs.length + 1) (css.flatten ++ cs)) (hg : W.grownBy w1 v.ownBlock) (hat : v1.ownBlock = v.ownBlock ∨ ∃ b, v1.ownBlock = some b ∧ W.heap.size ≤ b) :
    Own d e base ok w1 v1 (xs ++ [y]) := by
  obtain ⟨css, h1, h2, h3, h4, h5⟩ := h
  have mv : ∀ (x : α) (c : List Value), d.K (fun k => ok k ∧ some k ≠ v.ownBlock) W x c → d.K (fun k => ok k ∧ some k ≠ v1.ownBlock) w1 x c := by
    intro x c hx
    have hb := d.bound hx
    have hb' := d.move (w' := w1) hg.size (fun k hk => hg.block k hk.2 hk.1.2) hb
    refine d.mono (fun k hk => ⟨hk.1.1, ?_⟩) hb'
    rcases hat with e1 | ⟨b, e1, hlt⟩
    · rw [e1]; exact hk.1.2
    · rw [e1]
      intro e2
      have : k = b := by injection e2
      have := hk.2
      omega
  refine ⟨css ++ [cs], ?_, by simp [h2], ?_, ?_, ?_⟩
  · have := hrow css h1
    simpa using this
  · intro c hc
    rcases List.mem_append.1 hc with hc | hc
    · exact h3 c hc
    · rw [List.mem_singleton.1 hc]; exact d.len hk
  · intro c hc
    rcases List.mem_append.1 hc with hc | hc
    · exact h4 c hc
    · rw [List.mem_singleton.1 hc]; exact d.one hk
  · intro j x hj
    rcases Nat.lt_or_ge j xs.length with hlt | hge
    · rw [List.getElem?_append_left hlt] at hj
      obtain ⟨c, hc, hx⟩ := h5 j x hj
      exact ⟨c, by rw [List.getElem?_append_left (by omega)]; exact hc, mv _ _ hx⟩
    · have hj' : j = xs.length := by
        have := (List.getElem?_eq_some_iff.1 hj).1
        rw [List.length_append, List.length_singleton] at this
        omega
      subst hj'
      have : y = x := by simpa using hj
      subst this
      exact ⟨cs, by rw [← h2]; simp, mv _ _ hk⟩

/-- 'append(v, y)': behind 'at_builtin'; the goal's world bears the new element's own block. -/
theorem wpList_push {W : World} (hgd : o.guard = none) (s x : Operand) (t : TypeId)
    (ho : o.op = .call { callee := .builtin .append, args := #[s, x], argTypes := #[t, t] })
    (e : TypeId) (z : Value) (size bytes : Nat) (ht : P.underlying t = some (.slice e)) (hinfo : (P.info? e).map (fun i => (i.zero, i.size, i.bytes)) = some (some z, size, bytes)) (hz : z.cells.size = size) (hs0 : 0 < size) (hb0 : 0 < bytes)
    (hd : d.sz = size) (base : Nat) (ok : Nat → Prop) (v : Value) (xs : List α) (hs : a.eval s = v) (hown : Own d e base ok W v xs) (y : α) (cs : List Value) (hk : d.K (fun k => ok k ∧ some k ≠ v.ownBlock) W y cs)
    (hx : a.eval x = .slice (some ⟨W.heap.size, 0, none⟩) 1 1) (hbase : base ≤ W.heap.size) (hl : (xs.length + 1) * bytes ≤ 140737488355328)
    (h : ∀ v1 w1, Own d e base ok w1 v1 (xs ++ [y]) → W.grownBy w1 v.ownBlock → (v1.ownBlock = v.ownBlock ∨ v1.ownBlock = some (W.heap.size + 1)) → (∀ w0 : World, Below base w0 W → Below base w0 w1) → wpList P ops Q rest (a.put o.dst v1) w1) :
    wpList P ops Q (o :: rest) a (W.alloc (.cells cs.toArray e)) := by
  obtain ⟨i0, hi, hzz⟩ := Option.map_eq_some_iff.1 hinfo
  simp only [Prod.mk.injEq] at hzz
  obtain ⟨hz0, hz1, hz2⟩ := hzz
  subst hd
  have hlen : xs.length + 1 ≤ 140737488355328 := Nat.le_trans (Nat.le_mul_of_pos_right _ hb0) hl
  obtain ⟨css, h1, h2, h3, h4, h5⟩ := hown
  refine wpList_append_own_at (W.alloc (.cells cs.toArray e)) hgd s x t ho base e i0 z d.sz bytes ht hi hz0 hz1 hz2 hz hs0 v xs.length css.flatten hs (h1.alloc _) ⟨W.heap.size, 0, none⟩ 1 1 cs hx (by rw [d.len hk]; simp)
    (by simpa using World.news_of_block (cs := cs.toArray) (t := e) (fr := (0, 0)) (heap_alloc_new W (.cells cs.toArray e))) (d.one hk) (by simp only [maxLen]; omega) hl (by simp; omega) ?_
  intro v1 w1 hown' hg _ hat
  have hg' : W.grownBy w1 v.ownBlock := ⟨hg.os, hg.tape, hg.output, by have := hg.size; simp at this; omega, fun k hk hne => (hg.block k (by simp; omega) hne).trans (heap_alloc_old W _ k hk)⟩
  refine h v1 w1 ?_ hg' (by simpa using hat) (fun w0 hb => ⟨hg'.os.trans hb.os, hg'.tape.trans hb.tape, hg'.output.trans hb.output, Nat.le_trans hb.size hg'.size, fun k hk => (hg'.block k (by omega) (fun e1 => by
    have := own_base h1 k e1.symm
    omega)).trans (hb.block k hk)⟩)
  refine Own.pushed ⟨css, h1, h2, h3, h4, h5⟩ hk (fun css' hcss' => ?_) hg' ?_
  · have : css'.flatten = css.flatten := by
      rcases h1.2 with ⟨_, hn⟩ | ⟨g, cap, cur, hv, _, hh, _, _, _, ht1⟩
      · have a1 := h1.1; have a2 := hcss'.1
        rw [hn, Nat.zero_mul] at a1 a2
        rw [List.eq_nil_of_length_eq_zero a1, List.eq_nil_of_length_eq_zero a2]
      · rcases hcss'.2 with ⟨hv', _⟩ | ⟨g', cap', cur', hv', _, hh', _, _, _, ht2⟩
        · rw [hv] at hv'; cases hv'
        · rw [hv] at hv'
          injection hv' with e1 e2 e3
          injection e1 with e1
          injection e1 with e1
          subst e1
          rw [hh] at hh'
          injection hh' with hh'
          injection hh' with e4
          subst e4
          rw [← ht1, ← ht2]
    rw [this]
    exact hown'
  · rcases hat with e1 | e1
    · exact .inl e1
    · exact .inr ⟨_, e1, by simp⟩
end
end Go.Proofs.Ythinieokpgmfoaa
