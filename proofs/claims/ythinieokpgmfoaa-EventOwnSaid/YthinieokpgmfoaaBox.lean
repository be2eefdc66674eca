/- Blocks that are known whole (boxes of variables); what stands beside them. Own work. -/
import Derived.Test.YthinieokpgmfoaaKit
set_option linter.unusedVariables false
set_option linter.unusedSimpArgs false
namespace Go.Proofs.Ythinieokpgmfoaa
open Go.RowKit

/-- Block g is just the cells cs of type t, none frozen. -/
def Bx (w : World) (g : Nat) (t : TypeId) (cs : List Value) : Prop := w.heap[g]? = some (.cells cs.toArray t (0, 0))
section
variable {w w' : World} {g : Nat} {t : TypeId} {cs : List Value}
theorem Bx.lt (h : Bx w g t cs) : g < w.heap.size := (Array.getElem?_eq_some_iff.1 h).1
theorem Bx.cell (h : Bx w g t cs) (i : Nat) : w.cell? ⟨g, i, none⟩ = cs[i]? := by rw [cell_of_row _ _ _ _ _ _ h]; simp
theorem Bx.c0 {v : Value} {vs : List Value} (h : Bx w g t (v :: vs)) : w.cell? ⟨g, 0, none⟩ = some v := h.cell 0
theorem Bx.free (h : Bx w g t cs) (i : Nat) : w.frozen? ⟨g, i, none⟩ = false := frozen_of_row _ _ _ _ _ h
theorem Bx.new (w : World) (t : TypeId) (cs : List Value) : Bx (w.alloc (.cells cs.toArray t)) w.heap.size t cs := heap_alloc_new w _
theorem Bx.stay (h : Bx w g t cs) (hm : g < w.heap.size → w'.heap[g]? = w.heap[g]?) : Bx w' g t cs := (hm h.lt).trans h
theorem Bx.below {B : Nat} (h : Bx w g t cs) (hb : Below B w w') (hg : g < B) : Bx w' g t cs := (hb.block g hg).trans h
theorem Bx.under (h : Bx w g t cs) (hb : Below w.heap.size w w') : Bx w' g t cs := (hb.block g h.lt).trans h
theorem Bx.alloc (h : Bx w g t cs) (o : Obj) : Bx (w.alloc o) g t cs := (heap_alloc_old w o g h.lt).trans h
theorem Bx.drewN (h : Bx w g t cs) (n : Nat) : Bx (w.drewN n) g t cs := h
theorem Bx.set (h : Bx w g t cs) (i : Nat) (u : Value) : Bx (w.setCell ⟨g, i, none⟩ u) g t (cs.set i u) := by
  unfold Bx at h ⊢
  rw [heap_setCell_same w g i _ t u h]
  simp [List.setIfInBounds_toArray]
theorem Bx.far (h : Bx w g t cs) {p : Addr} (hp : g ≠ p.block) (u : Value) : Bx (w.setCell p u) g t cs := (heap_setCell_other w p g u hp).trans h
theorem Bx.grown {row : Option Nat} (h : Bx w g t cs) (hb : w.grownBy w' row) (hg : some g ≠ row) : Bx w' g t cs := (hb.block g h.lt hg).trans h
end
section
variable {α : Type} {d : Kn α} {ok : Nat → Prop} {w w' : World} {A : Option Addr} {c : Nat} {xs : List α}
theorem Sl.setCell (h : Sl d ok w A c xs) {p : Addr} (hp : ∀ k, ok k → k ≠ p.block) (u : Value) : Sl d ok (w.setCell p u) A c xs :=
  h.stay (by simp [World.setCell]) (fun k hk _ => heap_setCell_other w p k u (hp k hk))
theorem Sl.grown {row : Option Nat} (h : Sl d ok w A c xs) (hg : w.grownBy w' row) (hr : ∀ k, ok k → some k ≠ row) : Sl d ok w' A c xs := h.stay hg.size (fun k hk hlt => hg.block k hlt (hr k hk))
theorem Sl.bound (h : Sl d ok w A c xs) : Sl d (fun k => ok k ∧ k < w.heap.size) w A c xs := ⟨h.1, h.2.1, h.2.2.bound⟩
theorem Sl.take (h : Sl d ok w A c xs) (k : Nat) : Sl d ok w A c (xs.take k) := ⟨by rw [List.length_take]; have := h.1; omega, h.2.1, h.2.2.take k⟩
theorem Own.setCell {e : TypeId} {base : Nat} {v : Value} (h : Own d e base ok w v xs) {p : Addr} (hp : ∀ k, ok k → k ≠ p.block) (hv : ∀ k, v.ownBlock = some k → k ≠ p.block) (u : Value) : Own d e base ok (w.setCell p u) v xs :=
  h.stay (by simp [World.setCell]) (fun k hk _ => heap_setCell_other w p k u (hk.elim (hp k) (hv k)))
theorem Own.base_le {e : TypeId} {base : Nat} {v : Value} (h : Own d e base ok w v xs) (k : Nat) (hk : v.ownBlock = some k) : base ≤ k := by
  obtain ⟨css, h1, _⟩ := h
  exact own_base h1 k hk
theorem Own.block_lt {e : TypeId} {base : Nat} {v : Value} (h : Own d e base ok w v xs) (k : Nat) (hk : v.ownBlock = some k) : k < w.heap.size := by
  obtain ⟨css, h1, _⟩ := h
  exact own_lt h1 k hk
theorem Own.alloc {e : TypeId} {base : Nat} {v : Value} (h : Own d e base ok w v xs) (o : Obj) : Own d e base ok (w.alloc o) v xs := h.below ((Below.refl _ _).alloc (Nat.le_refl _) o)
end

section
variable {α : Type} {d : Kn α} {P : Program} {ops : Array Oper} {rest : List Oper} {o : Oper} {a : Act} {Q : Exit → Act → World → Prop}
/-- 'append(v, y)' where the heap's size is spelled otherwise (H). -/
theorem wpList_pushH {W : World} (hgd : o.guard = none) (s x : Operand) (t : TypeId)
    (ho : o.op = .call { callee := .builtin .append, args := #[s, x], argTypes := #[t, t] })
    (e : TypeId) (z : Value) (size bytes : Nat) (ht : P.underlying t = some (.slice e)) (hinfo : (P.info? e).map (fun i => (i.zero, i.size, i.bytes)) = some (some z, size, bytes)) (hz : z.cells.size = size) (hs0 : 0 < size) (hb0 : 0 < bytes)
    (hd : d.sz = size) (base : Nat) (ok : Nat → Prop) (v : Value) (xs : List α) (hs : a.eval s = v) (hown : Own d e base ok W v xs) (y : α) (cs : List Value) (hk : d.K (fun k => ok k ∧ some k ≠ v.ownBlock) W y cs)
    (H : Nat) (hH : W.heap.size = H) (hx : a.eval x = .slice (some ⟨H, 0, none⟩) 1 1) (hbase : base ≤ W.heap.size) (hl : (xs.length + 1) * bytes ≤ 140737488355328)
    (h : ∀ v1 w1, Own d e base ok w1 v1 (xs ++ [y]) → W.grownBy w1 v.ownBlock → (v1.ownBlock = v.ownBlock ∨ v1.ownBlock = some (H + 1)) → (∀ w0 : World, Below base w0 W → Below base w0 w1) → wpList P ops Q rest (a.put o.dst v1) w1) :
    wpList P ops Q (o :: rest) a (W.alloc (.cells cs.toArray e)) := by
  subst hH
  exact wpList_push hgd s x t ho e z size bytes ht hinfo hz hs0 hb0 hd base ok v xs hs hown y cs hk hx hbase hl h
end
end Go.Proofs.Ythinieokpgmfoaa
