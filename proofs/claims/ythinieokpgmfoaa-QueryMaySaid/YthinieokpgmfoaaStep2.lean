/- append(v, ys...) at a step of a region that draws. Own work. -/
import Derived.Test.YthinieokpgmfoaaStep
set_option linter.unusedVariables false
set_option linter.unusedSimpArgs false
namespace Go.Proofs.Ythinieokpgmfoaa
open Go.RowKit
section
variable {α : Type} {d : Kn α} {P : Program} {ops : Array Oper} {rest : List Oper} {o : Oper} {a : Act} {Q : Exit → Act → World → Prop}
/-- 'append(v, ys...)' at a step of a region that draws. -/
theorem step_spread {W : World} {K : Act → World → Prop} {E : Prop} (hgd : o.guard = none) (s x : Operand) (t : TypeId)
    (ho : o.op = .call { callee := .builtin .append, args := #[s, x], argTypes := #[t, t] })
    (e : TypeId) (z : Value) (size bytes : Nat) (ht : P.underlying t = some (.slice e)) (hinfo : (P.info? e).map (fun i => (i.zero, i.size, i.bytes)) = some (some z, size, bytes)) (hz : z.cells.size = size) (hs0 : 0 < size) (hb0 : 0 < bytes)
    (hd : d.sz = size) (base : Nat) (ok : Nat → Prop) (v : Value) (xs : List α) (hs : a.eval s = v) (hown : Own d e base ok W v xs) (ys : List α) (B : Option Addr) (c : Nat) (hk : Row d (fun k => ok k ∧ some k ≠ v.ownBlock) W B ys)
    (hx : a.eval x = .slice B ys.length c) (hbase : base ≤ W.heap.size) (hl : (xs.length + ys.length) * bytes ≤ 140737488355328)
    (h : ∀ v1 w1, Own d e base ok w1 v1 (xs ++ ys) → W.grownBy w1 v.ownBlock → (v1.ownBlock = v.ownBlock ∨ v1.ownBlock = some W.heap.size) → (∀ w0 : World, Below base w0 W → Below base w0 w1) → K (a.put o.dst v1) w1) :
    if Region.wanted o (yielded ops a.tmps) = true then Oper.wp P o a W K Q else E := by
  have hw : Region.wanted o (yielded ops a.tmps) = true := by simp [Region.wanted, hgd]
  rw [if_pos hw]
  obtain ⟨i0, hi, hzz⟩ := Option.map_eq_some_iff.1 hinfo
  simp only [Prod.mk.injEq] at hzz
  obtain ⟨hz0, hz1, hz2⟩ := hzz
  subst hd
  cases B with
  | none =>
    have hy : ys = [] := by
      cases ys with
      | nil => rfl
      | cons y ys =>
        obtain ⟨ad, e1, _⟩ := hk (by simp)
        cases e1
    subst hy
    have hown' := hown
    obtain ⟨css, h1, h2, h3, h4, h5⟩ := hown'
    have hrun := run_append_owned_none' (P := P) (w := W) base t o.type e i0 d.sz ht hi v xs.length c css.flatten h1
    unfold Oper.wp execOp
    simp only [ho, resolve, invoke, builtin, Sem.run_bind, Sem.run_pure, Result.andThen_ok, List.map_toArray, List.map_cons, List.map_nil, hs, hx, List.length_nil, hrun]
    exact (h v W (by simpa using hown) ⟨rfl, rfl, rfl, Nat.le_refl _, fun _ _ _ => rfl⟩ (.inl rfl) (fun _ hb => hb))
  | some ad =>
    have hlen : xs.length + ys.length ≤ 140737488355328 := Nat.le_trans (Nat.le_mul_of_pos_right _ hb0) hl
    obtain ⟨css', hl', hs', h1', hk', hn'⟩ := Row.flat hs0 hk
    have hfl : css'.flatten.length = ys.length * d.sz := by
      rw [← hl']
      clear hl' h1' hk' hn'
      induction css' with
      | nil => simp
      | cons c css ih => rw [List.flatten_cons, List.length_append, hs' c List.mem_cons_self, ih (fun c hc => hs' c (List.mem_cons_of_mem _ hc)), List.length_cons, Nat.add_mul]; omega
    obtain ⟨css, h1, h2, h3, h4, h5⟩ := hown
    obtain ⟨v1, w1, hr, hown', hg, _, hat⟩ := run_append_own_at (P := P) W base t o.type e i0 z d.sz bytes ht hi hz0 hz1 hz2 hz hs0 v xs.length css.flatten h1 ad ys.length c css'.flatten hfl hn'
      (fun u hu => by obtain ⟨c, hc, hu⟩ := List.mem_flatten.1 hu; exact h1' c hc u hu) (by simp only [maxLen]; omega) hl hbase
    unfold Oper.wp execOp
    simp only [ho, resolve, invoke, builtin, Sem.run_bind, Sem.run_pure, Result.andThen_ok, List.map_toArray, List.map_cons, List.map_nil, hs, hx, hr]
    refine h v1 w1 ?_ hg hat (fun w0 hb => ⟨hg.os.trans hb.os, hg.tape.trans hb.tape, hg.output.trans hb.output, Nat.le_trans hb.size hg.size, fun k hk => (hg.block k (by have := hb.size; omega) (fun e1 => by
      have := own_base h1 k e1.symm
      omega)).trans (hb.block k hk)⟩)
    refine Own.pushedN ⟨css, h1, h2, h3, h4, h5⟩ hl' hs' h1' hk' (fun css2 hcss2 => ?_) hg (hat.imp id (fun e1 => ⟨_, e1, Nat.le_refl _⟩))
    have : css2.flatten = css.flatten := by
      rcases h1.2 with ⟨_, hn⟩ | ⟨g, cap, cur, hv, _, hh, _, _, _, ht1⟩
      · have a1 := h1.1; have a2 := hcss2.1
        rw [hn, Nat.zero_mul] at a1 a2
        rw [List.eq_nil_of_length_eq_zero a1, List.eq_nil_of_length_eq_zero a2]
      · rcases hcss2.2 with ⟨hv', _⟩ | ⟨g', cap', cur', hv', _, hh', _, _, _, ht2⟩
        · rw [hv] at hv'; cases hv'
        · rw [hv] at hv'
          injection hv' with e1 e2 e3
          injection e1 with e1
          injection e1 with e1
          subst e1
          rw [hh] at hh'
          injection hh' with hh'
          injection hh' with e4
          subst e4
          rw [← ht1, ← ht2]
    rw [this]
    exact hown'

end
end Go.Proofs.Ythinieokpgmfoaa
