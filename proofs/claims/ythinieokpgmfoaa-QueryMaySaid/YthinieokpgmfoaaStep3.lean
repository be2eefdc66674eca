/- Small laws on steps of a region that draws (taken out of LawQueryGrows). -/
import Derived.Test.YthinieokpgmfoaaStep2
import Derived.Test.YthinieokpgmfoaaBox
set_option linter.unusedVariables false
set_option linter.unusedSimpArgs false
namespace Go.Proofs.Ythinieokpgmfoaa
open Go.RowKit

theorem below_made {B : Nat} {a w : World} (h : Below B a w) (hB : B ≤ a.heap.size) (o : Obj) : Below B a (w.alloc o) := h.alloc (Nat.le_trans hB h.size) o
theorem box_grown {t : TypeId} {cs : List Value} {W w1 : World} {b : Nat} {v v1 : Value} (hx : Bx W b t cs) (hn : v.ownBlock ≠ some b) (hg : W.grownBy w1 v.ownBlock) (hat : v1.ownBlock = v.ownBlock ∨ v1.ownBlock = some W.heap.size) : Bx w1 b t cs ∧ v1.ownBlock ≠ some b := by
  refine ⟨hx.grown hg (fun e => hn e.symm), ?_⟩
  rcases hat with h | h
  · rw [h]; exact hn
  · rw [h]
    intro e
    injection e with e
    have := hx.lt
    omega
theorem Own.lit_at {α : Type} {d : Kn α} {e : TypeId} {base : Nat} {ok : Nat → Prop} {W : World} {b : Nat} (h : W.heap[b]? = some (.cells #[] e (0, 0))) (hb : base ≤ b) : Own d e base ok W (.slice (some ⟨b, 0, none⟩) 0 0) [] :=
  ⟨[], ⟨by simp, .inr ⟨b, 0, #[], rfl, hb, h, by simp, by simp [maxLen], by simp, by simp⟩⟩, rfl, by simp, by simp, by simp⟩
section
variable {α : Type} {d : Kn α} {P : Program} {ops : Array Oper} {rest : List Oper} {o : Oper} {a : Act} {Q : Exit → Act → World → Prop}
/-- The same, in any world that stands above X. -/
theorem step_spreadX {W : World} {K : Act → World → Prop} {E : Prop} (hgd : o.guard = none) (s x : Operand) (t : TypeId)
    (ho : o.op = .call { callee := .builtin .append, args := #[s, x], argTypes := #[t, t] })
    (e : TypeId) (z : Value) (size bytes : Nat) (ht : P.underlying t = some (.slice e)) (hinfo : (P.info? e).map (fun i => (i.zero, i.size, i.bytes)) = some (some z, size, bytes)) (hz : z.cells.size = size) (hs0 : 0 < size) (hb0 : 0 < bytes)
    (hd : d.sz = size) (X : World) (v : Value) (xs : List α) (hs : a.eval s = v) (hown : Own d e X.heap.size (fun k => k < X.heap.size) W v xs) (ys : List α) (B : Option Addr) (c : Nat) (hrow : ∀ W, Below X.heap.size X W → Row d (fun k => k < X.heap.size) W B ys)
    (R : Prop) (hB : Below X.heap.size X W ∧ R) (hx : a.eval x = .slice B ys.length c) (hl : (xs.length + ys.length) * bytes ≤ 140737488355328)
    (h : ∀ v1 w1, Own d e X.heap.size (fun k => k < X.heap.size) w1 v1 (xs ++ ys) → W.grownBy w1 v.ownBlock → (v1.ownBlock = v.ownBlock ∨ v1.ownBlock = some W.heap.size) → Below X.heap.size X w1 → K (a.put o.dst v1) w1) :
    if Region.wanted o (yielded ops a.tmps) = true then Oper.wp P o a W K Q else E :=
  step_spread hgd s x t ho e z size bytes ht hinfo hz hs0 hb0 hd X.heap.size _ v xs hs hown ys B c ((hrow W hB.1).mono (fun k hk => ⟨hk, fun e1 => by have := hown.base_le k e1.symm; omega⟩)) hx hB.1.size hl (fun v1 w1 h1 h2 h3 h4 => h v1 w1 h1 h2 h3 (h4 X hB.1))
theorem step_spreadXn {W : World} {K : Act → World → Prop} {E : Prop} (hgd : o.guard = none) (s x : Operand) (t : TypeId)
    (ho : o.op = .call { callee := .builtin .append, args := #[s, x], argTypes := #[t, t] })
    (e : TypeId) (z : Value) (size bytes : Nat) (ht : P.underlying t = some (.slice e)) (hinfo : (P.info? e).map (fun i => (i.zero, i.size, i.bytes)) = some (some z, size, bytes)) (hz : z.cells.size = size) (hs0 : 0 < size) (hb0 : 0 < bytes)
    (hd : d.sz = size) (X : World) (v : Value) (xs : List α) (hs : a.eval s = v) (hown : Own d e X.heap.size (fun k => k < X.heap.size) W v xs) (ys : List α) (B : Option Addr) (c : Nat) (hrow : ∀ W, Below X.heap.size X W → Row d (fun k => k < X.heap.size) W B ys)
    (R : Prop) (hB : Below X.heap.size X W ∧ R) (n : Nat) (hn : ys.length = n) (hx : a.eval x = .slice B n c) (hl : (xs.length + n) * bytes ≤ 140737488355328)
    (h : ∀ v1 w1, Own d e X.heap.size (fun k => k < X.heap.size) w1 v1 (xs ++ ys) → W.grownBy w1 v.ownBlock → (v1.ownBlock = v.ownBlock ∨ v1.ownBlock = some W.heap.size) → Below X.heap.size X w1 → K (a.put o.dst v1) w1) :
    if Region.wanted o (yielded ops a.tmps) = true then Oper.wp P o a W K Q else E :=
  step_spreadX hgd s x t ho e z size bytes ht hinfo hz hs0 hb0 hd X v xs hs hown ys B c hrow R hB (by rw [hn]; exact hx) (by rw [hn]; exact hl) h
/-- append(v, ys...) at a step of a region that draws, in any world above X; the elements hang on OK. -/
theorem step_spreadO {W : World} {K : Act → World → Prop} {E : Prop} (hgd : o.guard = none) (s x : Operand) (t : TypeId)
    (ho : o.op = .call { callee := .builtin .append, args := #[s, x], argTypes := #[t, t] })
    (e : TypeId) (z : Value) (size bytes : Nat) (ht : P.underlying t = some (.slice e)) (hinfo : (P.info? e).map (fun i => (i.zero, i.size, i.bytes)) = some (some z, size, bytes)) (hz : z.cells.size = size) (hs0 : 0 < size) (hb0 : 0 < bytes)
    (hd : d.sz = size) (X : World) (OK : Nat → Prop) (hOK : ∀ k, OK k → k < X.heap.size) (v : Value) (xs : List α) (hs : a.eval s = v) (hown : Own d e X.heap.size OK W v xs) (ys : List α) (B : Option Addr) (c : Nat) (hrow : ∀ W, Below X.heap.size X W → Row d OK W B ys)
    (R : Prop) (hB : Below X.heap.size X W ∧ R) (n : Nat) (hn : ys.length = n) (hx : a.eval x = .slice B n c) (hl : (xs.length + n) * bytes ≤ 140737488355328)
    (h : ∀ v1 w1, Own d e X.heap.size OK w1 v1 (xs ++ ys) → W.grownBy w1 v.ownBlock → (v1.ownBlock = v.ownBlock ∨ v1.ownBlock = some W.heap.size) → Below X.heap.size X w1 → K (a.put o.dst v1) w1) :
    if Region.wanted o (yielded ops a.tmps) = true then Oper.wp P o a W K Q else E := by
  subst hn
  exact step_spread hgd s x t ho e z size bytes ht hinfo hz hs0 hb0 hd X.heap.size _ v xs hs hown ys B c ((hrow W hB.1).mono (fun k hk => ⟨hk, fun e1 => by have := hown.base_le k e1.symm; have := hOK k hk; omega⟩)) hx hB.1.size hl (fun v1 w1 h1 h2 h3 h4 => h v1 w1 h1 h2 h3 (h4 X hB.1))
/-- append(v, y), y's row made in block er at some earlier step. -/
theorem step_pushO {W : World} {K : Act → World → Prop} {E : Prop} (hgd : o.guard = none) (s x : Operand) (t : TypeId)
    (ho : o.op = .call { callee := .builtin .append, args := #[s, x], argTypes := #[t, t] })
    (e : TypeId) (z : Value) (size bytes : Nat) (ht : P.underlying t = some (.slice e)) (hinfo : (P.info? e).map (fun i => (i.zero, i.size, i.bytes)) = some (some z, size, bytes)) (hz : z.cells.size = size) (hs0 : 0 < size) (hb0 : 0 < bytes)
    (hd : d.sz = size) (X : World) (OK : Nat → Prop) (hOK : ∀ k, OK k → k < X.heap.size) (v : Value) (xs : List α) (hs : a.eval s = v) (hown : Own d e X.heap.size OK W v xs) (y : α) (cs : List Value) (er : Nat) (hbx : Bx W er e cs) (hne : some er ≠ v.ownBlock) (hk : d.K OK W y cs)
    (R : Prop) (hB : Below X.heap.size X W ∧ R) (hx : a.eval x = .slice (some ⟨er, 0, none⟩) 1 1) (hl : (xs.length + 1) * bytes ≤ 140737488355328)
    (h : ∀ v1 w1, Own d e X.heap.size (fun k => OK k ∨ k = er) w1 v1 (xs ++ [y]) → Below X.heap.size X w1 → K (a.put o.dst v1) w1) :
    if Region.wanted o (yielded ops a.tmps) = true then Oper.wp P o a W K Q else E := by
  refine step_spread hgd s x t ho e z size bytes ht hinfo hz hs0 hb0 hd X.heap.size (fun k => OK k ∨ k = er) v xs hs (hown.mono (fun _ h => .inl h)) [y] (some ⟨er, 0, none⟩) 1 (fun _ => ⟨⟨er, 0, none⟩, rfl, ⟨.inr rfl, hne⟩, hbx.lt, fun j x hj => ?_⟩) hx hB.1.size hl (fun v1 w1 h1 h2 h3 h4 => h v1 w1 h1 (h4 X hB.1))
  match j, hj with
  | 0, hj =>
    simp at hj
    subst hj
    refine ⟨cs, d.len hk, d.mono (fun k h => ⟨.inl h, fun e1 => by have := hown.base_le k e1.symm; have := hOK k h; omega⟩) hk, fun i u hu => ?_⟩
    have h1 := hbx.cell i
    rw [hu] at h1
    rw [Nat.zero_mul, Nat.zero_add]
    cases i with
    | zero => simpa [Addr.add] using h1
    | succ i => simpa [Addr.add] using h1
end
theorem rowX {α : Type} {d : Kn α} {X W : World} {A : Option Addr} {xs : List α} {ok : Nat → Prop} (h : Row d ok X A xs) (hk : ∀ k, ok k → k < X.heap.size) (hb : Below X.heap.size X W) : Row d (fun k => k < X.heap.size) W A xs := (h.below hb).mono hk
theorem two_old (X : World) (o o' : Obj) : ((X.alloc o).alloc o').heap[X.heap.size]? = some o := by
  have h := (Below.refl (X.alloc o).heap.size (X.alloc o)).alloc (Nat.le_refl _) o'
  exact (h.block X.heap.size (by simp)).trans (heap_alloc_new X o)
theorem own_slC {α : Type} {d : Kn α} {e : TypeId} {base : Nat} {ok : Nat → Prop} {w : World} {A : Option Addr} {n c : Nat} {xs : List α} (h : Own d e base ok w (.slice A n c) xs) : Sl d (fun _ => True) w A c xs := by
  obtain ⟨A', c', hv, hs⟩ := h.sl
  simp only [Value.slice.injEq] at hv
  obtain ⟨rfl, _, rfl⟩ := hv
  exact hs.any
end Go.Proofs.Ythinieokpgmfoaa
