/- append(v, ys...) at a step of a region that draws. Own work. Small laws on steps of a region that draws (taken out of LawQueryGrows). registrarref04.Put: rising texts with one more. All streams' records together are all records: plain facts. registrarref14.Index: its state; Stream (walk). registrarref14.Index: Add (walk). guard.Holds (walk). registrarlaw18: filled, shown (walks). registrarlaw18.few (walk); plain facts of Since. Guards as kinds of cells; guard.All (walk). -/
import Derived.Test.YtfoghahidofegaaGreatBundA
import Derived.Deep.DeepFit
import Derived.Sort.Walk0
import Derived.Test.YtfoghahidofegaaGreatBundJ
import Derived.Test.YtfoghahidofegaaGreatBundI
import Derived.Test.YtfoghahidofegaaGreatBundR
import Derived.Deep.CutBlock
import Derived.Test.YtfoghahidofegaaGreatBundC
set_option linter.unusedVariables false
set_option linter.unusedSimpArgs false
namespace Go.Proofs.YtfoghahidofegaaGreat
open Go.RowKit
section
variable {α : Type} {d : Kn α} {P : Program} {ops : Array Oper} {rest : List Oper} {o : Oper} {a : Act} {Q : Exit → Act → World → Prop}
/-- 'append(v, ys...)' at a step of a region that draws. -/
theorem step_spread {W : World} {K : Act → World → Prop} {E : Prop} (hgd : o.guard = none) (s x : Operand) (t : TypeId)
    (ho : o.op = .call { callee := .builtin .append, args := #[s, x], argTypes := #[t, t] })
    (e : TypeId) (z : Value) (size bytes : Nat) (ht : P.underlying t = some (.slice e)) (hinfo : (P.info? e).map (fun i => (i.zero, i.size, i.bytes)) = some (some z, size, bytes)) (hz : z.cells.size = size) (hs0 : 0 < size) (hb0 : 0 < bytes)
    (hd : d.sz = size) (base : Nat) (ok : Nat → Prop) (v : Value) (xs : List α) (hs : a.eval s = v) (hown : Own d e base ok W v xs) (ys : List α) (B : Option Addr) (c : Nat) (hk : Row d (fun k => ok k ∧ some k ≠ v.ownBlock) W B ys)
    (hx : a.eval x = .slice B ys.length c) (hbase : base ≤ W.heap.size) (hl : (xs.length + ys.length) * bytes ≤ 140737488355328)
    (h : ∀ v1 w1, Own d e base ok w1 v1 (xs ++ ys) → W.grownBy w1 v.ownBlock → (v1.ownBlock = v.ownBlock ∨ v1.ownBlock = some W.heap.size) → (∀ w0 : World, Below base w0 W → Below base w0 w1) → K (a.put o.dst v1) w1) :
    if Region.wanted o (yielded ops a.tmps) = true then Oper.wp P o a W K Q else E := by
  have hw : Region.wanted o (yielded ops a.tmps) = true := by simp [Region.wanted, hgd]
  rw [if_pos hw]
  obtain ⟨i0, hi, hzz⟩ := Option.map_eq_some_iff.1 hinfo
  simp only [Prod.mk.injEq] at hzz
  obtain ⟨hz0, hz1, hz2⟩ := hzz
  subst hd
  cases B with
  | none =>
    have hy : ys = [] := by
      cases ys with
      | nil => rfl
      | cons y ys =>
        obtain ⟨ad, e1, _⟩ := hk (by simp)
        cases e1
    subst hy
    have hown' := hown
    obtain ⟨css, h1, h2, h3, h4, h5⟩ := hown'
    have hrun := run_append_owned_none' (P := P) (w := W) base t o.type e i0 d.sz ht hi v xs.length c css.flatten h1
    unfold Oper.wp execOp
    simp only [ho, resolve, invoke, builtin, Sem.run_bind, Sem.run_pure, Result.andThen_ok, List.map_toArray, List.map_cons, List.map_nil, hs, hx, List.length_nil, hrun]
    exact (h v W (by simpa using hown) ⟨rfl, rfl, rfl, Nat.le_refl _, fun _ _ _ => rfl⟩ (.inl rfl) (fun _ hb => hb))
  | some ad =>
    have hlen : xs.length + ys.length ≤ 140737488355328 := Nat.le_trans (Nat.le_mul_of_pos_right _ hb0) hl
    obtain ⟨css', hl', hs', h1', hk', hn'⟩ := Row.flat hs0 hk
    have hfl : css'.flatten.length = ys.length * d.sz := by
      rw [← hl']
      clear hl' h1' hk' hn'
      induction css' with
      | nil => simp
      | cons c css ih => rw [List.flatten_cons, List.length_append, hs' c List.mem_cons_self, ih (fun c hc => hs' c (List.mem_cons_of_mem _ hc)), List.length_cons, Nat.add_mul]; omega
    obtain ⟨css, h1, h2, h3, h4, h5⟩ := hown
    obtain ⟨v1, w1, hr, hown', hg, _, hat⟩ := run_append_own_at (P := P) W base t o.type e i0 z d.sz bytes ht hi hz0 hz1 hz2 hz hs0 v xs.length css.flatten h1 ad ys.length c css'.flatten hfl hn'
      (fun u hu => by obtain ⟨c, hc, hu⟩ := List.mem_flatten.1 hu; exact h1' c hc u hu) (by simp only [maxLen]; omega) hl hbase
    unfold Oper.wp execOp
    simp only [ho, resolve, invoke, builtin, Sem.run_bind, Sem.run_pure, Result.andThen_ok, List.map_toArray, List.map_cons, List.map_nil, hs, hx, hr]
    refine h v1 w1 ?_ hg hat (fun w0 hb => ⟨hg.os.trans hb.os, hg.tape.trans hb.tape, hg.output.trans hb.output, Nat.le_trans hb.size hg.size, fun k hk => (hg.block k (by have := hb.size; omega) (fun e1 => by
      have := own_base h1 k e1.symm
      omega)).trans (hb.block k hk)⟩)
    refine Own.pushedN ⟨css, h1, h2, h3, h4, h5⟩ hl' hs' h1' hk' (fun css2 hcss2 => ?_) hg (hat.imp id (fun e1 => ⟨_, e1, Nat.le_refl _⟩))
    have : css2.flatten = css.flatten := by
      rcases h1.2 with ⟨_, hn⟩ | ⟨g, cap, cur, hv, _, hh, _, _, _, ht1⟩
      · have a1 := h1.1; have a2 := hcss2.1
        rw [hn, Nat.zero_mul] at a1 a2
        rw [List.eq_nil_of_length_eq_zero a1, List.eq_nil_of_length_eq_zero a2]
      · rcases hcss2.2 with ⟨hv', _⟩ | ⟨g', cap', cur', hv', _, hh', _, _, _, ht2⟩
        · rw [hv] at hv'; cases hv'
        · rw [hv] at hv'
          injection hv' with e1 e2 e3
          injection e1 with e1
          injection e1 with e1
          subst e1
          rw [hh] at hh'
          injection hh' with hh'
          injection hh' with e4
          subst e4
          rw [← ht1, ← ht2]
    rw [this]
    exact hown'

end
end Go.Proofs.YtfoghahidofegaaGreat

namespace Go.Proofs.YtfoghahidofegaaGreat
open Go.RowKit

theorem below_made {B : Nat} {a w : World} (h : Below B a w) (hB : B ≤ a.heap.size) (o : Obj) : Below B a (w.alloc o) := h.alloc (Nat.le_trans hB h.size) o
theorem box_grown {t : TypeId} {cs : List Value} {W w1 : World} {b : Nat} {v v1 : Value} (hx : Bx W b t cs) (hn : v.ownBlock ≠ some b) (hg : W.grownBy w1 v.ownBlock) (hat : v1.ownBlock = v.ownBlock ∨ v1.ownBlock = some W.heap.size) : Bx w1 b t cs ∧ v1.ownBlock ≠ some b := by
  refine ⟨hx.grown hg (fun e => hn e.symm), ?_⟩
  rcases hat with h | h
  · rw [h]; exact hn
  · rw [h]
    intro e
    injection e with e
    have := hx.lt
    omega
theorem Own.lit_at {α : Type} {d : Kn α} {e : TypeId} {base : Nat} {ok : Nat → Prop} {W : World} {b : Nat} (h : W.heap[b]? = some (.cells #[] e (0, 0))) (hb : base ≤ b) : Own d e base ok W (.slice (some ⟨b, 0, none⟩) 0 0) [] :=
  ⟨[], ⟨by simp, .inr ⟨b, 0, #[], rfl, hb, h, by simp, by simp [maxLen], by simp, by simp⟩⟩, rfl, by simp, by simp, by simp⟩
section
variable {α : Type} {d : Kn α} {P : Program} {ops : Array Oper} {rest : List Oper} {o : Oper} {a : Act} {Q : Exit → Act → World → Prop}
/-- The same, in any world that stands above X. -/
theorem step_spreadX {W : World} {K : Act → World → Prop} {E : Prop} (hgd : o.guard = none) (s x : Operand) (t : TypeId)
    (ho : o.op = .call { callee := .builtin .append, args := #[s, x], argTypes := #[t, t] })
    (e : TypeId) (z : Value) (size bytes : Nat) (ht : P.underlying t = some (.slice e)) (hinfo : (P.info? e).map (fun i => (i.zero, i.size, i.bytes)) = some (some z, size, bytes)) (hz : z.cells.size = size) (hs0 : 0 < size) (hb0 : 0 < bytes)
    (hd : d.sz = size) (X : World) (v : Value) (xs : List α) (hs : a.eval s = v) (hown : Own d e X.heap.size (fun k => k < X.heap.size) W v xs) (ys : List α) (B : Option Addr) (c : Nat) (hrow : ∀ W, Below X.heap.size X W → Row d (fun k => k < X.heap.size) W B ys)
    (R : Prop) (hB : Below X.heap.size X W ∧ R) (hx : a.eval x = .slice B ys.length c) (hl : (xs.length + ys.length) * bytes ≤ 140737488355328)
    (h : ∀ v1 w1, Own d e X.heap.size (fun k => k < X.heap.size) w1 v1 (xs ++ ys) → W.grownBy w1 v.ownBlock → (v1.ownBlock = v.ownBlock ∨ v1.ownBlock = some W.heap.size) → Below X.heap.size X w1 → K (a.put o.dst v1) w1) :
    if Region.wanted o (yielded ops a.tmps) = true then Oper.wp P o a W K Q else E :=
  step_spread hgd s x t ho e z size bytes ht hinfo hz hs0 hb0 hd X.heap.size _ v xs hs hown ys B c ((hrow W hB.1).mono (fun k hk => ⟨hk, fun e1 => by have := hown.base_le k e1.symm; omega⟩)) hx hB.1.size hl (fun v1 w1 h1 h2 h3 h4 => h v1 w1 h1 h2 h3 (h4 X hB.1))
theorem step_spreadXn {W : World} {K : Act → World → Prop} {E : Prop} (hgd : o.guard = none) (s x : Operand) (t : TypeId)
    (ho : o.op = .call { callee := .builtin .append, args := #[s, x], argTypes := #[t, t] })
    (e : TypeId) (z : Value) (size bytes : Nat) (ht : P.underlying t = some (.slice e)) (hinfo : (P.info? e).map (fun i => (i.zero, i.size, i.bytes)) = some (some z, size, bytes)) (hz : z.cells.size = size) (hs0 : 0 < size) (hb0 : 0 < bytes)
    (hd : d.sz = size) (X : World) (v : Value) (xs : List α) (hs : a.eval s = v) (hown : Own d e X.heap.size (fun k => k < X.heap.size) W v xs) (ys : List α) (B : Option Addr) (c : Nat) (hrow : ∀ W, Below X.heap.size X W → Row d (fun k => k < X.heap.size) W B ys)
    (R : Prop) (hB : Below X.heap.size X W ∧ R) (n : Nat) (hn : ys.length = n) (hx : a.eval x = .slice B n c) (hl : (xs.length + n) * bytes ≤ 140737488355328)
    (h : ∀ v1 w1, Own d e X.heap.size (fun k => k < X.heap.size) w1 v1 (xs ++ ys) → W.grownBy w1 v.ownBlock → (v1.ownBlock = v.ownBlock ∨ v1.ownBlock = some W.heap.size) → Below X.heap.size X w1 → K (a.put o.dst v1) w1) :
    if Region.wanted o (yielded ops a.tmps) = true then Oper.wp P o a W K Q else E :=
  step_spreadX hgd s x t ho e z size bytes ht hinfo hz hs0 hb0 hd X v xs hs hown ys B c hrow R hB (by rw [hn]; exact hx) (by rw [hn]; exact hl) h
/-- append(v, ys...) at a step of a region that draws, in any world above X; the elements hang on OK. -/
theorem step_spreadO {W : World} {K : Act → World → Prop} {E : Prop} (hgd : o.guard = none) (s x : Operand) (t : TypeId)
    (ho : o.op = .call { callee := .builtin .append, args := #[s, x], argTypes := #[t, t] })
    (e : TypeId) (z : Value) (size bytes : Nat) (ht : P.underlying t = some (.slice e)) (hinfo : (P.info? e).map (fun i => (i.zero, i.size, i.bytes)) = some (some z, size, bytes)) (hz : z.cells.size = size) (hs0 : 0 < size) (hb0 : 0 < bytes)
    (hd : d.sz = size) (X : World) (OK : Nat → Prop) (hOK : ∀ k, OK k → k < X.heap.size) (v : Value) (xs : List α) (hs : a.eval s = v) (hown : Own d e X.heap.size OK W v xs) (ys : List α) (B : Option Addr) (c : Nat) (hrow : ∀ W, Below X.heap.size X W → Row d OK W B ys)
    (R : Prop) (hB : Below X.heap.size X W ∧ R) (n : Nat) (hn : ys.length = n) (hx : a.eval x = .slice B n c) (hl : (xs.length + n) * bytes ≤ 140737488355328)
    (h : ∀ v1 w1, Own d e X.heap.size OK w1 v1 (xs ++ ys) → W.grownBy w1 v.ownBlock → (v1.ownBlock = v.ownBlock ∨ v1.ownBlock = some W.heap.size) → Below X.heap.size X w1 → K (a.put o.dst v1) w1) :
    if Region.wanted o (yielded ops a.tmps) = true then Oper.wp P o a W K Q else E := by
  subst hn
  exact step_spread hgd s x t ho e z size bytes ht hinfo hz hs0 hb0 hd X.heap.size _ v xs hs hown ys B c ((hrow W hB.1).mono (fun k hk => ⟨hk, fun e1 => by have := hown.base_le k e1.symm; have := hOK k hk; omega⟩)) hx hB.1.size hl (fun v1 w1 h1 h2 h3 h4 => h v1 w1 h1 h2 h3 (h4 X hB.1))
/-- append(v, y), y's row made in block er at some earlier step. -/
theorem step_pushO {W : World} {K : Act → World → Prop} {E : Prop} (hgd : o.guard = none) (s x : Operand) (t : TypeId)
    (ho : o.op = .call { callee := .builtin .append, args := #[s, x], argTypes := #[t, t] })
    (e : TypeId) (z : Value) (size bytes : Nat) (ht : P.underlying t = some (.slice e)) (hinfo : (P.info? e).map (fun i => (i.zero, i.size, i.bytes)) = some (some z, size, bytes)) (hz : z.cells.size = size) (hs0 : 0 < size) (hb0 : 0 < bytes)
    (hd : d.sz = size) (X : World) (OK : Nat → Prop) (hOK : ∀ k, OK k → k < X.heap.size) (v : Value) (xs : List α) (hs : a.eval s = v) (hown : Own d e X.heap.size OK W v xs) (y : α) (cs : List Value) (er : Nat) (hbx : Bx W er e cs) (hne : some er ≠ v.ownBlock) (hk : d.K OK W y cs)
    (R : Prop) (hB : Below X.heap.size X W ∧ R) (hx : a.eval x = .slice (some ⟨er, 0, none⟩) 1 1) (hl : (xs.length + 1) * bytes ≤ 140737488355328)
    (h : ∀ v1 w1, Own d e X.heap.size (fun k => OK k ∨ k = er) w1 v1 (xs ++ [y]) → Below X.heap.size X w1 → K (a.put o.dst v1) w1) :
    if Region.wanted o (yielded ops a.tmps) = true then Oper.wp P o a W K Q else E := by
  refine step_spread hgd s x t ho e z size bytes ht hinfo hz hs0 hb0 hd X.heap.size (fun k => OK k ∨ k = er) v xs hs (hown.mono (fun _ h => .inl h)) [y] (some ⟨er, 0, none⟩) 1 (fun _ => ⟨⟨er, 0, none⟩, rfl, ⟨.inr rfl, hne⟩, hbx.lt, fun j x hj => ?_⟩) hx hB.1.size hl (fun v1 w1 h1 h2 h3 h4 => h v1 w1 h1 (h4 X hB.1))
  match j, hj with
  | 0, hj =>
    simp at hj
    subst hj
    refine ⟨cs, d.len hk, d.mono (fun k h => ⟨.inl h, fun e1 => by have := hown.base_le k e1.symm; have := hOK k h; omega⟩) hk, fun i u hu => ?_⟩
    have h1 := hbx.cell i
    rw [hu] at h1
    rw [Nat.zero_mul, Nat.zero_add]
    cases i with
    | zero => simpa [Addr.add] using h1
    | succ i => simpa [Addr.add] using h1
end
theorem rowX {α : Type} {d : Kn α} {X W : World} {A : Option Addr} {xs : List α} {ok : Nat → Prop} (h : Row d ok X A xs) (hk : ∀ k, ok k → k < X.heap.size) (hb : Below X.heap.size X W) : Row d (fun k => k < X.heap.size) W A xs := (h.below hb).mono hk
theorem two_old (X : World) (o o' : Obj) : ((X.alloc o).alloc o').heap[X.heap.size]? = some o := by
  have h := (Below.refl (X.alloc o).heap.size (X.alloc o)).alloc (Nat.le_refl _) o'
  exact (h.block X.heap.size (by simp)).trans (heap_alloc_new X o)
theorem own_slC {α : Type} {d : Kn α} {e : TypeId} {base : Nat} {ok : Nat → Prop} {w : World} {A : Option Addr} {n c : Nat} {xs : List α} (h : Own d e base ok w (.slice A n c) xs) : Sl d (fun _ => True) w A c xs := by
  obtain ⟨A', c', hv, hs⟩ := h.sl
  simp only [Value.slice.injEq] at hv
  obtain ⟨rfl, _, rfl⟩ := hv
  exact hs.any
end Go.Proofs.YtfoghahidofegaaGreat

namespace Go.Proofs.YtfoghahidofegaaGreat
open Go.RowKit

theorem infoS : (Tryz.prog.info? 9).map (fun i => (i.zero, i.size, i.bytes)) = some (some (.string ByteArray.empty), 1, 16) := by kernel_rfl
/-- Texts with one more, each once. -/
structure PutR (l : List ByteArray) (s : ByteArray) (l' : List ByteArray) : Prop where
  rise : l'.Pairwise ltB
  mem : ∀ x, x ∈ l' ↔ x ∈ l ∨ x = s
  len : l'.length ≤ l.length + 1

theorem putL_rise {l : List ByteArray} (hr : l.Pairwise ltB) {s : ByteArray} {j : Nat} (hlow : ∀ x ∈ l.take j, ltB x s) (hhi : ∀ x ∈ l.drop j, ltB s x) : PutR l s ([] ++ l.take j ++ [s] ++ l.drop j) := by
  have e : l.take j ++ l.drop j = l := List.take_append_drop j l
  refine ⟨?_, fun x => ?_, ?_⟩
  · rw [List.nil_append, List.append_assoc, List.pairwise_append]
    rw [← e, List.pairwise_append] at hr
    refine ⟨hr.1, ?_, fun x hx y hy => ?_⟩
    · rw [List.singleton_append, List.pairwise_cons]; exact ⟨hhi, hr.2.1⟩
    · rcases List.mem_append.1 hy with hy | hy
      · rw [List.mem_singleton.1 hy]; exact hlow x hx
      · exact hr.2.2 x hx y hy
  · have : x ∈ l ↔ x ∈ l.take j ∨ x ∈ l.drop j := by rw [← List.mem_append, e]
    rw [this]; simp only [List.nil_append, List.mem_append, List.mem_singleton]
    constructor
    · rintro ((h | h) | h) <;> simp [h]
    · rintro ((h | h) | h) <;> simp [h]
  · have := congrArg List.length e
    simp only [List.length_append, List.nil_append, List.length_singleton] at this ⊢
    omega
theorem less_eq (x y : ByteArray) : Op.bytesLess x.toList y.toList = decide (ltB x y) := by rw [Lib.toList_data, Lib.toList_data, bytesLess_eq]; rfl
theorem putRow2 {ok : Nat → Prop} {A : Option Addr} {c : Nat} {l : List ByteArray} {w w1 : World} (h : Sl Kn.str ok w A c l) (hb : Below w.heap.size w w1) (j : Nat) :
    Row Kn.str (fun k => k < w1.heap.size ∧ some k ≠ (Value.slice (some ⟨w1.heap.size, 0, none⟩) 0 0).ownBlock) (w1.alloc (.cells #[] 9)) A (l.take j) :=
  ((h.2.2.bound.below (hb.alloc hb.size _)).mono (fun k hk => ⟨Nat.lt_of_lt_of_le hk.2 hb.size, fun e => by have := hb.size; have h2 := hk.2; simp [Value.ownBlock] at e; omega⟩)).take j
theorem putRow4 {ok : Nat → Prop} {A : Option Addr} {c : Nat} {l : List ByteArray} {w1 w3 : World} (h : Sl Kn.str (fun k => ok k ∧ k < w1.heap.size) w1 A c ([] ++ l)) (hb : Below w1.heap.size w1 w3) {v : Value} (hv : ∀ k, v.ownBlock = some k → w1.heap.size ≤ k) :
    Row Kn.str (fun k => k < w1.heap.size ∧ some k ≠ v.ownBlock) w3 A l :=
  (h.2.2.below hb).mono (fun k hk => ⟨hk.2, fun e => by have := hv k e.symm; omega⟩)

set_option maxHeartbeats 2000000 in
theorem Put_any {ok : Nat → Prop} {A : Option Addr} {c : Nat} {l : List ByteArray} {w : World} (h : Sl Kn.str ok w A c l) (hl : l.length ≤ 1000000) (hr : l.Pairwise ltB) (s : ByteArray) :
    Calls Tryz.prog 30 #[.slice A l.length c, .string s] w fun r w' => ∃ A' c' l', r = .returned (.slice A' l'.length c') ∧ Sl Kn.str (fun k => ok k ∨ w.heap.size ≤ k) w' A' c' l' ∧ PutR l s l' ∧ Below w.heap.size w w' := by
  have HR := Lib.hid hr
  have H := Lib.hid h
  have hc1 := h.1
  have hc2 := h.2.1
  unfold maxLen at hc2
  clear hr h
  have HO0 := Lib.hid (Own.lit0 Kn.str 9 w.heap.size (fun k => k < w.heap.size) w (Nat.le_refl _))
  go_enter Tryz.func30, Tryz.ntmps30
  go_wp2_with fail
  go_loop [5] (fun i => ∃ j : Nat, j ≤ l.length ∧ i = .int .i64 j ∧ Hid (∀ x ∈ l.take j, ltB x s)) (fun i => l.length - (intOf i).toNat)
  case atStart => exact ⟨0, Nat.zero_le _, rfl, Lib.hid (by simp)⟩
  case round =>
    obtain ⟨j, hj, rfl, hlow⟩ := hrel
    have HTJ := Lib.hid (show (l.take j).length = j by rw [List.length_take]; omega)
    have HCUT := Lib.hid (show Row Kn.str (fun k => k < w.heap.size ∧ some k ≠ (Value.slice (some ⟨w.heap.size, 0, none⟩) 0 0).ownBlock) (w.alloc (.cells #[] 9)) (if c = j then A else A.map (·.add (j * 1))) (l.drop j) from
      Row.cut ((H.out.2.2.bound.below ((Below.refl _ _).alloc (Nat.le_refl _) _)).mono (fun k hk => ⟨hk.2, fun e => by have h2 := hk.2; simp [Value.ownBlock] at e; omega⟩)) hc1)
    by_cases hlt : j < l.length
    · obtain ⟨ad, rfl, hx⟩ := row_str_at H.out.2.2 hlt
      have HR1 := HCUT.out
      rw [if_neg (by omega), Nat.mul_one] at HR1
      have HR1 := Lib.hid (show Row Kn.str _ _ (some (ad.add j)) (l.drop j) from HR1)
      have hye : l[j]? = some l[j] := List.getElem?_eq_getElem hlt
      have hdr : l.drop j = l[j] :: l.drop (j + 1) := List.drop_eq_getElem_cons hlt
      have htk : l.take (j + 1) = l.take j ++ [l[j]] := List.take_succ_eq_append_getElem hlt
      generalize l[j] = y at *
      have HY := Lib.hid hye
      have HDR := Lib.hid hdr
      have HTK := Lib.hid htk
      clear hye hdr htk HCUT
      have hb := less_eq y s
      have hq := strEqL y s
      rcases ltB_tri y s with hys | hys | hys
      · rw [decide_eq_true hys] at hb
        have HYS := Lib.hid hys
        clear hys hq
        go_wp2_with fail
        go_round
        case rel => exact ⟨j + 1, by omega, by go_num, Lib.hid (fun x hx => by rw [HTK.out] at hx; exact (List.mem_append.1 hx).elim (hlow.out x) (fun h => by rw [List.mem_singleton.1 h]; exact HYS.out))⟩
        case measure => simp [intOf]; omega
      · subst hys
        rw [decide_eq_false (ltB_irrefl y)] at hb
        rw [decide_eq_true rfl] at hq
        go_wp2_with fail
        go_ret
        exact ⟨some ad, c, l, rfl, H.out.mono (fun k hk => .inl hk), ⟨HR.out, fun x => ⟨.inl, fun h => h.elim id (fun e => e ▸ List.mem_of_getElem? HY.out)⟩, by omega⟩, Below.refl _ _⟩
      · have hn1 : ¬ ltB y s := fun h => ltB_irrefl _ (ltB_trans h hys)
        have hn2 : ¬ y = s := fun e => ltB_irrefl s (by rw [e] at hys; exact hys)
        rw [decide_eq_false hn1] at hb
        rw [decide_eq_false hn2] at hq
        have HPUT := Lib.hid (putL_rise HR.out hlow.out (fun x hx => by
          have hp := HR.out
          rw [← List.take_append_drop j l, List.pairwise_append, HDR.out, List.pairwise_cons] at hp
          rw [HDR.out] at hx
          rcases List.mem_cons.1 hx with rfl | hx
          · exact hys
          · exact ltB_trans hys (hp.2.1.1 x hx)))
        clear hn1 hn2 hys
        go_wp2_with (first
          | (at_builtin; refine wpList_spreadN rfl _ _ _ rfl 9 _ 1 16 Tryz.underlying39 infoS rfl (by decide) (by decide) rfl w1.heap.size (fun k => k < w1.heap.size) _ _ rfl HO3.out (l.drop j) (l.length - j) (by simp) _ _ HR4.out rfl HZ3.out (by first | (simp; done) | (simp; omega)) ?_; intro v4 w4 hown4 hg4 hat4 hbel4; have HO4 := Lib.hid hown4; have HB4 := Lib.hid (hbel4 w1 HB3.out); clear hown4 hg4 hat4 hbel4)
          | (at_builtin; refine wpList_pushH (W := w2) rfl _ _ _ rfl 9 _ 1 16 Tryz.underlying39 infoS rfl (by decide) (by decide) rfl w1.heap.size (fun k => k < w1.heap.size) _ _ rfl HO2.out s [.string s] rfl w2.heap.size rfl rfl HZ2.out (by first | (simp; done) | (simp; omega)) ?_; intro v3 w3 hown3 hg3 hat3 hbel3; obtain ⟨A3, c3, rfl, _⟩ := hown3.sl; have hl3 : (([] ++ l.take j) ++ [s]).length = j + 1 := (by first | (simp; done) | (simp; omega)); rw [hl3] at hown3 hat3 ⊢; have HB3 := Lib.hid (hbel3 w1 HB2.out); have HZ3 := Lib.hid HB3.out.size; have HR4 := Lib.hid (putRow4 HS1.out HB3.out (v := .slice A3 (j + 1) c3) (fun k hk => hown3.base_le k hk)); have HO3 := Lib.hid hown3; clear hown3 hg3 hat3 hbel3 hl3)
          | (at_builtin; refine wpList_spreadN (W := w1.alloc (.cells #[] 9)) rfl _ _ _ rfl 9 _ 1 16 Tryz.underlying39 infoS rfl (by decide) (by decide) rfl w1.heap.size (fun k => k < w1.heap.size) _ [] rfl HOL.out (l.take j) j HTJ.out _ _ HR2.out rfl (by simp) (by first | (simp; done) | (simp; omega)) ?_; intro v2 w2 hown2 hg2 hat2 hbel2; obtain ⟨A2, c2, rfl, _⟩ := hown2.sl; have hl2 : (([] : List ByteArray) ++ l.take j).length = j := HTJ.out; rw [hl2] at hown2 hat2 ⊢; have HO2 := Lib.hid hown2; have HB2 := Lib.hid (hbel2 w1 ((Below.refl _ _).alloc (Nat.le_refl _) _)); have HZ2 := Lib.hid HB2.out.size; clear hown2 hg2 hat2 hbel2 hl2)
          | (at_builtin; refine wpList_spreadN rfl _ _ _ rfl 9 _ 1 16 Tryz.underlying39 infoS rfl (by decide) (by decide) rfl w.heap.size (fun k => k < w.heap.size) _ [] rfl HO0.out (l.drop j) (l.length - j) (by simp) _ _ HR1.out rfl (by simp) (by first | (simp; done) | (simp; omega)) ?_; intro v1 w1 hown1 hg1 hat1 hbel1; obtain ⟨A1, c1, rfl, hs1⟩ := (show Own Kn.str 9 w.heap.size (fun _ => False) w1 v1 ([] ++ l.drop j) from hown1).sl; have HS1 := Lib.hid hs1.bound; have hl1 : (([] : List ByteArray) ++ l.drop j).length = l.length - j := (by simp); rw [hl1]; have HB1 := Lib.hid (hbel1 w ((Below.refl _ _).alloc (Nat.le_refl _) _)); have HOL := Lib.hid (Own.lit0 Kn.str 9 w1.heap.size (fun k => k < w1.heap.size) w1 (Nat.le_refl _)); have HR2 := Lib.hid (putRow2 H.out HB1.out j); clear hown1 hg1 hat1 hbel1 hs1 hl1))
        go_ret
        obtain ⟨A4, c4, rfl, hs4⟩ := (show Own Kn.str 9 w1.heap.size (fun _ => False) w4 v4 _ from HO4.out).sl
        exact ⟨A4, c4, _, rfl, hs4.mono (fun k hk => .inr (hk.elim False.elim (fun h => Nat.le_trans HB1.out.size h))), HPUT.out, bthen HB1.out HB4.out⟩
    · obtain rfl : j = l.length := by omega
      have HPUT := Lib.hid (putL_rise (s := s) HR.out hlow.out (fun x hx => by simp at hx))
      rw [List.drop_length] at HPUT
      clear HCUT
      by_cases hcj : c = l.length
      · go_wp2_with (first
        | (at_builtin; refine wpList_spreadN rfl _ _ _ rfl 9 _ 1 16 Tryz.underlying39 infoS rfl (by decide) (by decide) rfl w1.heap.size (fun k => k < w1.heap.size) _ _ rfl HO3.out (([] : List ByteArray)) 0 (by simp) _ _ Row.nil_ rfl HZ3.out (by first | (simp; done) | (simp; omega)) ?_; intro v4 w4 hown4 hg4 hat4 hbel4; have HO4 := Lib.hid hown4; have HB4 := Lib.hid (hbel4 w1 HB3.out); clear hown4 hg4 hat4 hbel4)
        | (at_builtin; refine wpList_pushH (W := w2) rfl _ _ _ rfl 9 _ 1 16 Tryz.underlying39 infoS rfl (by decide) (by decide) rfl w1.heap.size (fun k => k < w1.heap.size) _ _ rfl HO2.out s [.string s] rfl w2.heap.size rfl rfl HZ2.out (by first | (simp; done) | (simp; omega)) ?_; intro v3 w3 hown3 hg3 hat3 hbel3; obtain ⟨A3, c3, rfl, _⟩ := hown3.sl; have hl3 : (([] ++ l.take l.length) ++ [s]).length = l.length + 1 := (by first | (simp; done) | (simp; omega)); rw [hl3] at hown3 hat3 ⊢; have HB3 := Lib.hid (hbel3 w1 HB2.out); have HZ3 := Lib.hid HB3.out.size; have HO3 := Lib.hid hown3; clear hown3 hg3 hat3 hbel3 hl3)
        | (at_builtin; refine wpList_spreadN (W := w1.alloc (.cells #[] 9)) rfl _ _ _ rfl 9 _ 1 16 Tryz.underlying39 infoS rfl (by decide) (by decide) rfl w1.heap.size (fun k => k < w1.heap.size) _ [] rfl HOL.out (l.take l.length) l.length HTJ.out _ _ HR2.out rfl (by simp) (by first | (simp; done) | (simp; omega)) ?_; intro v2 w2 hown2 hg2 hat2 hbel2; obtain ⟨A2, c2, rfl, _⟩ := hown2.sl; have hl2 : (([] : List ByteArray) ++ l.take l.length).length = l.length := HTJ.out; rw [hl2] at hown2 hat2 ⊢; have HO2 := Lib.hid hown2; have HB2 := Lib.hid (hbel2 w1 ((Below.refl _ _).alloc (Nat.le_refl _) _)); have HZ2 := Lib.hid HB2.out.size; clear hown2 hg2 hat2 hbel2 hl2)
        | (at_builtin; refine wpList_spreadN rfl _ _ _ rfl 9 _ 1 16 Tryz.underlying39 infoS rfl (by decide) (by decide) rfl w.heap.size (fun k => k < w.heap.size) _ [] rfl HO0.out (([] : List ByteArray)) 0 (by simp) _ _ Row.nil_ rfl (by simp) (by first | (simp; done) | (simp; omega)) ?_; intro v1 w1 hown1 hg1 hat1 hbel1; obtain ⟨A1, c1, rfl, hs1⟩ := (show Own Kn.str 9 w.heap.size (fun _ => False) w1 v1 ([] ++ ([] : List ByteArray)) from hown1).sl; have HS1 := Lib.hid hs1.bound; have hl1 : (([] : List ByteArray) ++ ([] : List ByteArray)).length = 0 := (by simp); rw [hl1]; have HB1 := Lib.hid (hbel1 w ((Below.refl _ _).alloc (Nat.le_refl _) _)); have HOL := Lib.hid (Own.lit0 Kn.str 9 w1.heap.size (fun k => k < w1.heap.size) w1 (Nat.le_refl _)); have HR2 := Lib.hid (putRow2 H.out HB1.out l.length); clear hown1 hg1 hat1 hbel1 hs1 hl1))
        all_goals go_ret
        all_goals obtain ⟨A4, c4, rfl, hs4⟩ := (show Own Kn.str 9 w1.heap.size (fun _ => False) w4 v4 _ from HO4.out).sl
        all_goals exact ⟨A4, c4, _, rfl, hs4.mono (fun k hk => .inr (hk.elim False.elim (fun h => Nat.le_trans HB1.out.size h))), HPUT.out, bthen HB1.out HB4.out⟩
      · go_wp2_with (first
        | (at_builtin; refine wpList_spreadN rfl _ _ _ rfl 9 _ 1 16 Tryz.underlying39 infoS rfl (by decide) (by decide) rfl w1.heap.size (fun k => k < w1.heap.size) _ _ rfl HO3.out (([] : List ByteArray)) 0 (by simp) _ _ Row.nil_ rfl HZ3.out (by first | (simp; done) | (simp; omega)) ?_; intro v4 w4 hown4 hg4 hat4 hbel4; have HO4 := Lib.hid hown4; have HB4 := Lib.hid (hbel4 w1 HB3.out); clear hown4 hg4 hat4 hbel4)
        | (at_builtin; refine wpList_pushH (W := w2) rfl _ _ _ rfl 9 _ 1 16 Tryz.underlying39 infoS rfl (by decide) (by decide) rfl w1.heap.size (fun k => k < w1.heap.size) _ _ rfl HO2.out s [.string s] rfl w2.heap.size rfl rfl HZ2.out (by first | (simp; done) | (simp; omega)) ?_; intro v3 w3 hown3 hg3 hat3 hbel3; obtain ⟨A3, c3, rfl, _⟩ := hown3.sl; have hl3 : (([] ++ l.take l.length) ++ [s]).length = l.length + 1 := (by first | (simp; done) | (simp; omega)); rw [hl3] at hown3 hat3 ⊢; have HB3 := Lib.hid (hbel3 w1 HB2.out); have HZ3 := Lib.hid HB3.out.size; have HO3 := Lib.hid hown3; clear hown3 hg3 hat3 hbel3 hl3)
        | (at_builtin; refine wpList_spreadN (W := w1.alloc (.cells #[] 9)) rfl _ _ _ rfl 9 _ 1 16 Tryz.underlying39 infoS rfl (by decide) (by decide) rfl w1.heap.size (fun k => k < w1.heap.size) _ [] rfl HOL.out (l.take l.length) l.length HTJ.out _ _ HR2.out rfl (by simp) (by first | (simp; done) | (simp; omega)) ?_; intro v2 w2 hown2 hg2 hat2 hbel2; obtain ⟨A2, c2, rfl, _⟩ := hown2.sl; have hl2 : (([] : List ByteArray) ++ l.take l.length).length = l.length := HTJ.out; rw [hl2] at hown2 hat2 ⊢; have HO2 := Lib.hid hown2; have HB2 := Lib.hid (hbel2 w1 ((Below.refl _ _).alloc (Nat.le_refl _) _)); have HZ2 := Lib.hid HB2.out.size; clear hown2 hg2 hat2 hbel2 hl2)
        | (at_builtin; refine wpList_spreadN rfl _ _ _ rfl 9 _ 1 16 Tryz.underlying39 infoS rfl (by decide) (by decide) rfl w.heap.size (fun k => k < w.heap.size) _ [] rfl HO0.out (([] : List ByteArray)) 0 (by simp) _ _ Row.nil_ rfl (by simp) (by first | (simp; done) | (simp; omega)) ?_; intro v1 w1 hown1 hg1 hat1 hbel1; obtain ⟨A1, c1, rfl, hs1⟩ := (show Own Kn.str 9 w.heap.size (fun _ => False) w1 v1 ([] ++ ([] : List ByteArray)) from hown1).sl; have HS1 := Lib.hid hs1.bound; have hl1 : (([] : List ByteArray) ++ ([] : List ByteArray)).length = 0 := (by simp); rw [hl1]; have HB1 := Lib.hid (hbel1 w ((Below.refl _ _).alloc (Nat.le_refl _) _)); have HOL := Lib.hid (Own.lit0 Kn.str 9 w1.heap.size (fun k => k < w1.heap.size) w1 (Nat.le_refl _)); have HR2 := Lib.hid (putRow2 H.out HB1.out l.length); clear hown1 hg1 hat1 hbel1 hs1 hl1))
        all_goals go_ret
        all_goals obtain ⟨A4, c4, rfl, hs4⟩ := (show Own Kn.str 9 w1.heap.size (fun _ => False) w4 v4 _ from HO4.out).sl
        all_goals exact ⟨A4, c4, _, rfl, hs4.mono (fun k hk => .inr (hk.elim False.elim (fun h => Nat.le_trans HB1.out.size h))), HPUT.out, bthen HB1.out HB4.out⟩
end Go.Proofs.YtfoghahidofegaaGreat

namespace Go.Proofs.YtfoghahidofegaaGreat

/-- The streams' numbers of records together. -/
def sumC (es : List Event) (ns : List ByteArray) : Nat := (ns.map (cntS es)).sum
theorem sumC_snoc (es : List Event) (ns : List ByteArray) (s : ByteArray) : sumC es (ns ++ [s]) = sumC es ns + cntS es s := by simp [sumC]
theorem cntS_cons (e : Event) (es : List Event) (s : ByteArray) : cntS (e :: es) s = (if e.stream = s then 1 else 0) + cntS es s := by
  unfold cntS
  rw [List.filter_cons]
  by_cases h : e.stream = s
  · simp [h]; omega
  · simp [h]
theorem sumC_cons (e : Event) (es : List Event) : ∀ (ns : List ByteArray), sumC (e :: es) ns = (ns.filter (fun s => decide (e.stream = s))).length + sumC es ns
  | [] => rfl
  | s :: ns => by
    have ih := sumC_cons e es ns
    unfold sumC at ih ⊢
    simp only [List.map_cons, List.sum_cons, List.filter_cons, cntS_cons]
    rw [show (ns.map (cntS (e :: es))).sum = _ from ih]
    by_cases h : e.stream = s
    · simp [h]; omega
    · simp [h]; omega
theorem one_of {ns : List ByteArray} (hr : ns.Pairwise ltB) {s : ByteArray} (h : s ∈ ns) : (ns.filter (fun x => decide (s = x))).length = 1 := by
  induction ns with
  | nil => cases h
  | cons x ns ih =>
    obtain ⟨h1, h2⟩ := List.pairwise_cons.1 hr
    rw [List.filter_cons]
    by_cases hx : s = x
    · subst hx
      have : ns.filter (fun y => decide (s = y)) = [] := by
        rw [List.filter_eq_nil_iff]
        intro y hy he
        have := h1 y hy
        rw [of_decide_eq_true he] at this
        exact ltB_irrefl _ this
      simp [this]
    · have h3 : s ∈ ns := (List.mem_cons.1 h).resolve_left hx
      simp [hx, ih h2 h3]
theorem sumC_nil : ∀ (ns : List ByteArray), sumC [] ns = 0
  | [] => rfl
  | s :: ns => by
    have ih := sumC_nil ns
    unfold sumC at ih ⊢
    rw [List.map_cons, List.sum_cons, ih]; rfl
theorem sumC_all {ns : List ByteArray} (hr : ns.Pairwise ltB) : ∀ {es : List Event}, (∀ e ∈ es, e.stream ∈ ns) → sumC es ns = es.length
  | [], _ => sumC_nil ns
  | e :: es, h => by
    rw [sumC_cons, one_of hr (h e List.mem_cons_self), sumC_all hr (fun x hx => h x (List.mem_cons_of_mem _ hx)), List.length_cons]
    omega
theorem sumC_le (es : List Event) (ns : List ByteArray) (k : Nat) : sumC es (ns.take k) ≤ sumC es ns := by
  conv => rhs; rw [← List.take_append_drop k ns]
  unfold sumC
  rw [List.map_append, List.sum_append]
  omega
/-- Names, rising, of all streams of some records. -/
structure Nam (es : List Event) (rs : List Rec) (ns : List ByteArray) : Prop where
  rise : ns.Pairwise ltB
  mem : ∀ e ∈ es, e.stream ∈ ns
  mem2 : ∀ r ∈ rs, r.ev.stream ∈ ns
  size : ∀ s ∈ ns, s.size ≤ maxLen
  len : ns.length ≤ es.length + rs.length
theorem Nam.start : Nam [] [] [] := ⟨List.Pairwise.nil, by simp, by simp, by simp, by simp⟩
theorem Nam.put {es : List Event} {rs : List Rec} {ns ns' : List ByteArray} (h : Nam es rs ns) {r : Rec} (hp : PutR ns r.ev.stream ns') (hr : EvIn r.ev) : Nam es (rs ++ [r]) ns' := by
  refine ⟨hp.rise, fun e he => (hp.mem _).2 (.inl (h.mem e he)), fun x hx => (hp.mem _).2 ?_, fun s hs => ?_, ?_⟩
  · rcases List.mem_append.1 hx with hx | hx
    · exact .inl (h.mem2 x hx)
    · rw [List.mem_singleton.1 hx]; exact .inr rfl
  · rcases (hp.mem s).1 hs with h1 | h1
    · exact h.size s h1
    · rw [h1]; exact hr.st
  · have := hp.len; have := h.len; simp; omega
theorem Nam.done {es : List Event} {after : Int} {bs : List Event} {ns : List ByteArray} (h : Nam es (addRs es after bs) ns) : Nam (addTo es after bs) [] ns := by
  refine ⟨h.rise, fun e he => ?_, by simp, h.size, ?_⟩
  · unfold addTo at he
    have h2 := h.mem2
    unfold addRs at h2
    by_cases hz : addErr es after bs = 0
    · rw [if_pos hz] at he h2
      rcases List.mem_append.1 he with he | he
      · exact h.mem e he
      · have : e ∈ (recsFrom es bs).map (·.ev) := by rw [recsFrom_ev]; exact he
        obtain ⟨r, hr, rfl⟩ := List.mem_map.1 this
        exact h2 r hr
    · rw [if_neg hz] at he
      exact h.mem e he
  · have h1 := h.len
    rw [addRs_len] at h1
    unfold addTo
    by_cases hz : addErr es after bs = 0
    · rw [if_pos hz] at h1 ⊢; simp; omega
    · rw [if_neg hz] at h1 ⊢; simp; omega
/-- A query of all. -/
def qAll : List Clause := [⟨[], []⟩]
theorem matchM_all (e : Event) : matchM qAll e = true := rfl
theorem qryR_qAll (es : List Event) : qryR es qAll es.length = recsOf es := by
  rw [qryR_all es qAll (Int.le_refl _)]
  exact List.filter_eq_self.2 (fun r _ => matchM_all r.ev)
theorem sinceR_qAll (es : List Event) (a : Int) : sinceR es qAll a = (decide (a < (es.length : Int)) && decide (0 < es.length)) := by
  unfold sinceR
  rw [Bool.eq_iff_iff, List.any_eq_true, Bool.and_eq_true, decide_eq_true_eq, decide_eq_true_eq]
  constructor
  · rintro ⟨r, hr, h⟩
    rw [matchM_all, Bool.true_and, decide_eq_true_eq] at h
    have := recsOf_mem hr
    exact ⟨by omega, by omega⟩
  · rintro ⟨h1, h2⟩
    have hl : es.length - 1 < (recsOf es).length := by rw [recsOf_len]; omega
    refine ⟨(recsOf es)[es.length - 1], List.getElem_mem hl, ?_⟩
    have := recsOf_pos (List.getElem?_eq_getElem hl)
    rw [matchM_all, Bool.true_and, decide_eq_true_eq]
    omega
theorem qryR_nil (es : List Event) (x : Int) : qryR es [] x = [] := by
  unfold qryR
  rw [List.filter_eq_nil_iff]
  intro r _ h
  simp [matchM] at h
end Go.Proofs.YtfoghahidofegaaGreat

namespace Go.Proofs.YtfoghahidofegaaGreat
open Go.RowKit Go.Maps

/-- The reference's index in block y, of the records rs; its rows hang on no block of X. -/
structure Rx (w : World) (y : Nat) (A : Option Addr) (c : Nat) (rs : List Rec) (X : Nat → Prop) : Prop where
  bx : Bx w y 34 [.slice A rs.length c]
  sl : Sl kRec (fun k => k ≠ y ∧ ¬ X k) w A c rs
  xy : ¬ X y
  xs : ∀ k, X k → k < w.heap.size
section
variable {w w' : World} {y : Nat} {A : Option Addr} {c : Nat} {rs : List Rec} {X Y : Nat → Prop}
theorem Rx.far (h : Rx w y A c rs X) (hb : But X w w') : Rx w' y A c rs X := ⟨h.bx.stay (fun hk => hb.block _ hk h.xy), h.sl.stay hb.size (fun k hk hl => hb.block k hl hk.2), h.xy, fun k hk => Nat.lt_of_lt_of_le (h.xs k hk) hb.size⟩
theorem Rx.below (h : Rx w y A c rs X) (hb : Below w.heap.size w w') : Rx w' y A c rs X := h.far (But.of_below hb)
theorem Rx.fence (h : Rx w y A c rs X) (hb : Below w.heap.size w w') (hY : ∀ k, Y k → X k ∨ (w.heap.size ≤ k ∧ k < w'.heap.size)) : Rx w' y A c rs Y := by
  have hyl := h.bx.lt
  refine ⟨h.bx.under hb, (h.sl.bound.below hb).mono (fun k hk => ⟨hk.1.1, fun hy => (hY k hy).elim hk.1.2 (fun h => by have := hk.2; omega)⟩), fun hy => (hY _ hy).elim h.xy (fun h => by omega), fun k hk => (hY k hk).elim (fun hx => by have := h.xs k hx; have := hb.size; omega) (fun h => h.2)⟩
theorem Rx.less (h : Rx w y A c rs X) (hY : ∀ k, Y k → X k) : Rx w y A c rs Y := h.fence (Below.refl _ _) (fun k hk => .inl (hY k hk))
theorem Rx.any (h : Rx w y A c rs X) : SlR w A c rs := h.sl.any
end
/-- Records that the reference tells. -/
def RetRef (y : Nat) (rs : List Rec) (w : World) (r : Ending) (w' : World) : Prop := ∃ A' c', r = .returned (.slice A' rs.length c') ∧ SlR w' A' c' rs ∧ Below w.heap.size w w'
theorem filter_take_yes {f : Rec → Bool} {rs : List Rec} {k : Nat} (hk : k < rs.length) (h : f rs[k] = true) : (rs.take (k + 1)).filter f = (rs.take k).filter f ++ [rs[k]] := by
  rw [List.take_succ_eq_append_getElem hk, List.filter_append]; simp [h]
theorem filter_take_no {f : Rec → Bool} {rs : List Rec} {k : Nat} (hk : k < rs.length) (h : f rs[k] = false) : (rs.take (k + 1)).filter f = (rs.take k).filter f := by
  rw [List.take_succ_eq_append_getElem hk, List.filter_append]; simp [h]
section
variable {w : World} {y : Nat} {A : Option Addr} {c : Nat} {rs : List Rec} {X : Nat → Prop}
set_option maxHeartbeats 4000000 in
set_option maxRecDepth 100000 in
theorem ref14Stream_any (h : Rx w y A c rs X) (hl : rs.length ≤ 100000) (s : ByteArray) (x : Int) :
    Calls Tryz.prog 43 #[.pointer (some ⟨y, 0, none⟩), .string s, .int .i64 x] w (RetRef y (rs.filter (fun r => decide (r.ev.stream = s) && decide (r.pos ≤ x))) w) := by
  have hc1 := h.sl.1
  have hc2 := h.sl.2.1
  unfold maxLen at hc2
  have H := Lib.hid h
  obtain ⟨f, hf⟩ : ∃ f : Rec → Bool, f = fun r => decide (r.ev.stream = s) && decide (r.pos ≤ x) := ⟨_, rfl⟩
  rw [← hf]
  have HF := Lib.hid hf
  have hyl := h.bx.lt
  have HO := Lib.hid (Own.lit0 kRec 101 w.heap.size (fun j => j < w.heap.size) w (Nat.le_refl _))
  clear h hf
  go_enter Tryz.func43, Tryz.ntmps43
  go_wp2_with fail
  go_loopw [7, 8] (fun v i wr => ∃ k : Nat, k ≤ rs.length ∧ i = .int .i64 k ∧ Own kRec 101 w.heap.size (fun j => j < w.heap.size) wr v ((rs.take k).filter f) ∧ Below w.heap.size w wr) (fun _ i _ => rs.length - (intOf i).toNat)
  case atStart => exact ⟨0, Nat.zero_le _, rfl, HO.out, (Below.refl _ _).alloc (Nat.le_refl _) _⟩
  case round =>
    clear HO
    obtain ⟨k, hk, rfl, ho, hb⟩ := hrel
    have x0 := (H.out.bx.under hb).cell 0
    simp only [List.getElem?_cons_zero] at x0
    by_cases hlt : k < rs.length
    · obtain ⟨ad, S, sa, T, ta, rfl, c0, c1, c2, c3, c4, c5, hS, hT⟩ := row_rec_at ((H.out.sl.bound).below hb).2.2 hlt
      have HY := Lib.hid (fun hy => filter_take_yes (f := f) hlt hy)
      have HN := Lib.hid (fun hy => filter_take_no (f := f) hlt hy)
      have hfl : ((rs.take k).filter f).length ≤ k := by have := List.length_filter_le f (rs.take k); rw [List.length_take] at this; omega
      generalize rs[k] = r at c0 c1 c2 c3 c4 c5 hS hT HY HN
      have HS := Lib.hid hS
      have HT := Lib.hid hT
      have HOW := Lib.hid ho
      have HB := Lib.hid hb
      have e1 : (0 : Int) ≤ (k : Int) := Int.natCast_nonneg _
      have e2 : (k : Int) < (rs.length : Int) := by omega
      have hbs := hb.size
      have hq := strEqL r.ev.stream s
      have hfr : f r = (decide (r.ev.stream = s) && decide (r.pos ≤ x)) := by rw [HF.out]
      have HFR := Lib.hid hfr
      clear hS hT ho hb hfr
      by_cases h1 : r.ev.stream = s
      · rw [decide_eq_true h1] at hq
        by_cases h2 : r.pos ≤ x
        · have HTK := Lib.hid (HY.out (by rw [HFR.out, decide_eq_true h1, decide_eq_true h2]; rfl))
          clear h1
          go_wp2_with (at_builtin; refine wpList_pushH (W := wr) rfl _ _ _ rfl 101 _ 6 96 Tryz.underlying32 infoRec rfl (by decide) (by decide) rfl w.heap.size (fun i => i < w.heap.size) u7 _ rfl HOW.out r [.int .i64 r.pos, .int .i64 r.ver, .string r.ev.stream, .string r.ev.type, .slice S r.ev.tags.length sa, .slice T r.ev.fields.length ta] (kRec_mk (HS.out.mono (fun i hi => ⟨hi.2, own_far HOW.out i hi.2⟩)) (HT.out.mono (fun i hi => ⟨hi.2, own_far HOW.out i hi.2⟩))) wr.heap.size rfl rfl hbs (by omega) ?_; intro v1 w5 hown1 hg1 hat1 hbel1; have HO5 := Lib.hid hown1; have HB5 := Lib.hid (hbel1 w HB.out); clear hown1 hg1 hat1 hbel1)
          go_roundw
          case rel => exact ⟨k + 1, by omega, by go_num, by rw [HTK.out]; exact HO5.out, HB5.out⟩
          case measure => simp [intOf]; omega
        · have HTK := Lib.hid (HN.out (by rw [HFR.out, decide_eq_true h1, decide_eq_false h2]; rfl))
          clear h1
          go_wp2_with fail
          go_roundw
          case rel => exact ⟨k + 1, by omega, by go_num, by rw [HTK.out]; exact HOW.out, HB.out⟩
          case measure => simp [intOf]; omega
      · rw [decide_eq_false h1] at hq
        have HTK := Lib.hid (HN.out (by rw [HFR.out, decide_eq_false h1]; rfl))
        clear h1
        go_wp2_with fail
        go_roundw
        case rel => exact ⟨k + 1, by omega, by go_num, by rw [HTK.out]; exact HOW.out, HB.out⟩
        case measure => simp [intOf]; omega
    · obtain rfl : k = rs.length := by omega
      rw [List.take_length] at ho
      obtain ⟨A1, c1, rfl, hs⟩ := ho.sl
      have HS := Lib.hid hs.any
      have HB := Lib.hid hb
      clear ho hs hb
      go_wp2_with fail
      go_ret
      exact ⟨A1, c1, rfl, HS.out, HB.out⟩
end
end Go.Proofs.YtfoghahidofegaaGreat

namespace Go.Proofs.YtfoghahidofegaaGreat
open Go.RowKit Go.Maps

theorem Rx.move {w w' : World} {y : Nat} {A : Option Addr} {c : Nat} {rs : List Rec} {X Y : Nat → Prop} (h : Rx w y A c rs X) (hb : But X w w') (hY : ∀ k, Y k → X k ∨ (w.heap.size ≤ k ∧ k < w'.heap.size)) : Rx w' y A c rs Y := by
  have hyl := h.bx.lt
  have hs := hb.size
  refine ⟨h.bx.stay (fun hk => hb.block _ hk h.xy), (h.sl.bound.stay hs (fun k hk hl => hb.block k hl hk.1.2)).mono (fun k hk => ⟨hk.1.1, fun hy => (hY k hy).elim hk.1.2 (fun h => by have := hk.2; omega)⟩), fun hy => (hY _ hy).elim h.xy (fun h => by omega), fun k hk => (hY k hk).elim (fun hx => by have := h.xs k hx; omega) (fun h => h.2)⟩
/-- Add on its way. -/
structure Ra (w : World) (y : Nat) (es : List Event) (X : Nat → Prop) (bc : List Value) (fL fO : List Event) (v : Value) (wr : World) : Prop where
  rx : ∃ A c, Rx wr y A c (recsOf (es ++ fL)) (fun k => X k ∨ v.ownBlock = some k)
  bb : Bx wr w.heap.size 45 bc
  out : Own kRec 101 (w.heap.size + 1) (fun k => k ≠ y ∧ ¬ X k) wr v (recsFrom es fO)
  but : But (fun k => k = y) w wr
  yl : y < w.heap.size
  xl : ∀ k, X k → k < w.heap.size
section
variable {w wr w' : World} {y : Nat} {es fL fO : List Event} {X : Nat → Prop} {bc : List Value} {v : Value}
theorem Ra.below (h : Ra w y es X bc fL fO v wr) (hb : Below wr.heap.size wr w') : Ra w y es X bc fL fO v w' := by
  obtain ⟨A, c, h1⟩ := h.rx
  exact ⟨⟨A, c, h1.below hb⟩, h.bb.under hb, h.out.below hb, h.but.trans (But.of_below hb), h.yl, h.xl⟩
/-- x.L = append(append([]api.Rec{}, x.L...), r). -/
theorem Ra.stepL (h : Ra w y es X bc fL fO v wr) {f : Event} {w6 : World} (hb : Below wr.heap.size wr w6) {A2 : Option Addr} {c2 : Nat}
    (hs : Sl kRec (fun k => (k ≠ y ∧ ¬ (X k ∨ v.ownBlock = some k) ∧ k < wr.heap.size) ∨ wr.heap.size ≤ k) w6 A2 c2 (recsOf (es ++ (fL ++ [f])))) {n : Nat} (hn : n = (es ++ (fL ++ [f])).length) :
    Ra w y es X bc (fL ++ [f]) fO v (w6.setCell ⟨y, 0, none⟩ (.slice A2 n c2)) := by
  obtain ⟨A, c, h1⟩ := h.rx
  have hyl := h.yl
  have hws := h.but.size
  have hset : But (fun k => k = y) w6 (w6.setCell ⟨y, 0, none⟩ (.slice A2 n c2)) := But.setCell (S := fun k => k = y) w6 (p := ⟨y, 0, none⟩) rfl _
  have hz : (w6.setCell ⟨y, 0, none⟩ (.slice A2 n c2)).heap.size = w6.heap.size := by simp [World.setCell]
  have hxs := h1.xs
  refine ⟨⟨A2, c2, ⟨?_, ?_, h1.xy, fun k hk => ?_⟩⟩, ?_, ?_, (h.but.trans (But.of_below hb)).trans hset, h.yl, h.xl⟩
  · have := (h1.bx.under hb).set 0 (.slice A2 n c2)
    rw [hn, ← recsOf_len] at this ⊢
    exact this
  · refine ((hs.stay (by rw [hz]; exact Nat.le_refl _) (fun k hk hl => hset.block k hl (fun e => ?_)))).mono (fun k hk => ?_)
    · rcases hk with hk | hk
      · exact hk.1 e
      · omega
    · rcases hk with hk | hk
      · exact ⟨hk.1, hk.2.1⟩
      · exact ⟨by omega, fun hx => by have := hxs k hx; omega⟩
  · rw [hz]; have := hxs k hk; have := hb.size; omega
  · exact (h.bb.under hb).far (by show w.heap.size ≠ y; omega) _
  · exact (h.out.below hb).setCell (fun k hk => hk.1) (fun k hk e => by have := h.out.base_le k hk; have : k = y := e; omega) _
theorem Ra.stepL2 (h : Ra w y es X bc fL fO v wr) {f : Event} {w6 : World} {OK : Nat → Prop} {er : Nat} {RS : List Rec} (hOK : OK = fun j => (j ≠ y ∧ ¬ (X j ∨ v.ownBlock = some j)) ∧ j < wr.heap.size) (her : wr.heap.size ≤ er) (hb : Below wr.heap.size wr w6) {A2 : Option Addr} {c2 : Nat} (hRS : RS = recsOf (es ++ (fL ++ [f]))) (hs : Sl kRec (fun j => (OK j ∨ j = er) ∨ wr.heap.size ≤ j) w6 A2 c2 RS) {n : Nat} (hn : n = RS.length) :
    Ra w y es X bc (fL ++ [f]) fO v (w6.setCell ⟨y, 0, none⟩ (.slice A2 n c2)) := by
  subst hn
  subst hRS
  subst hOK
  refine h.stepL hb (hs.mono (fun j hj => ?_)) (recsOf_len _)
  rcases hj with (hj | hj) | hj
  · exact .inl ⟨hj.1.1, hj.1.2, hj.2⟩
  · exact .inr (by omega)
  · exact .inr hj
/-- out = append(out, r). -/
theorem Ra.stepO {fs : List Event} {f : Event} (h : Ra w y es X bc (fs ++ [f]) fs v wr) {v1 : Value} {w1 : World} (hn : Own kRec 101 (w.heap.size + 1) (fun k => k ≠ y ∧ ¬ X k) w1 v1 (recsFrom es fs ++ [⟨((es ++ fs).length : Int) + 1, (cntS (es ++ fs) f.stream : Int) + 1, f⟩])) (hg : wr.grownBy w1 v.ownBlock) (hat : v1.ownBlock = v.ownBlock ∨ ∃ b, v1.ownBlock = some b ∧ wr.heap.size ≤ b) :
    Ra w y es X bc (fs ++ [f]) (fs ++ [f]) v1 w1 := by
  obtain ⟨A, c, h1⟩ := h.rx
  have hyl := h.yl
  have hbut : But (fun k => v.ownBlock = some k) wr w1 := ⟨hg.os, hg.tape, hg.output, hg.size, fun k hk hn => hg.block k hk (fun e => hn e.symm)⟩
  have hv := fun k (hk : v.ownBlock = some k) => h.out.base_le k hk
  refine ⟨⟨A, c, h1.move (hbut.mono (fun k hk => .inr hk)) (fun k hk => ?_)⟩, h.bb.stay (fun hk => hbut.block _ hk (fun hh => by have := hv _ hh; omega)), ?_, ⟨hg.os.trans h.but.os, hg.tape.trans h.but.tape, hg.output.trans h.but.output, Nat.le_trans h.but.size hg.size, fun k hk hnb => (hbut.block k (by have := h.but.size; omega) (fun hh => by have := hv _ hh; omega)).trans (h.but.block k hk hnb)⟩, h.yl, h.xl⟩
  · rcases hk with hk | hk
    · exact .inl (.inl hk)
    · rcases hat with e | ⟨b, e, hb⟩
      · exact .inl (.inr (by rw [← e]; exact hk))
      · rw [e] at hk
        have := Option.some.inj hk
        subst this
        exact .inr ⟨hb, hn.block_lt _ e⟩
  · rw [show recsFrom es (fs ++ [f]) = recsFrom es fs ++ [⟨((es ++ fs).length : Int) + 1, (cntS (es ++ fs) f.stream : Int) + 1, f⟩] by rw [recsFrom_append]; rfl]
    exact hn
end

section
variable {w : World} {y : Nat} {A : Option Addr} {c : Nat} {es : List Event} {X : Nat → Prop}
set_option maxHeartbeats 4000000 in
set_option maxRecDepth 100000 in
theorem ref14AddNo (h : Rx w y A c (recsOf es) X) {E : Option Addr} {ce : Nat} {bs : List Event} {after : Int} (hE : SlE w E ce bs) (hg : ∀ e ∈ bs, EvIn e) (hno : addErr es after bs ≠ 0) :
    Calls Tryz.prog 17 #[.pointer (some ⟨y, 0, none⟩), .agg #[.int .i64 after, .slice E bs.length ce]] w fun r w' => r = .returned (.tuple #[.slice none 0 0, .int .i64 (addErr es after bs)]) ∧ Below w.heap.size w w' := by
  obtain ⟨W1, hW1⟩ : ∃ W1, W1 = w.alloc (.cells #[.int .i64 after, .slice E bs.length ce] 45) := ⟨_, rfl⟩
  have HW1 := Lib.hid hW1
  have hb1 : Below w.heap.size w W1 := by rw [hW1]; exact (Below.refl _ _).alloc (Nat.le_refl _) _
  have hxb : Bx W1 w.heap.size 45 [.int .i64 after, .slice E bs.length ce] := by rw [hW1]; exact Bx.new w _ _
  have C := Lib.hid (ref10May_any (after := after) (hE.below hb1) hg)
  obtain ⟨m, hm⟩ : ∃ m, mayB after bs = m := ⟨_, rfl⟩
  have HNO := Lib.hid hno
  rw [hm] at C
  have HM := Lib.hid hm
  have HB1 := Lib.hid hb1
  have H1 := Lib.hid (h.below hb1)
  have HXB := Lib.hid hxb
  have k0 := hxb.cell 0
  have k1 := hxb.cell 1
  simp only [List.getElem?_cons_succ, List.getElem?_cons_zero] at k0 k1
  have hc1 := h.sl.1
  have hc2 := h.sl.2.1
  unfold maxLen at hc2
  rw [recsOf_len] at hc1
  clear h hE hg hb1 hxb hno hm
  go_enter Tryz.func17, Tryz.ntmps17
  go_upto_region 1 with fail
  rw [← HW1.out]
  clear hW1
  by_cases hm0 : m = 0
  · subst hm0
    have hne : (after != (es.length : Int)) = true := by
      rw [bne_iff_ne]
      intro e
      apply HNO.out
      unfold addErr
      rw [HM.out]
      simp [e]
    have HE := Lib.hid (show addErr es after bs = 1 by
      unfold addErr
      rw [if_neg (by rw [HM.out]; simp), if_pos (by simpa using hne)])
    go_upto_region 4 with (go_at_call 60; go_fit C.out; rintro r w2 ⟨rfl, hb2⟩; have HB2 := Lib.hid hb2; have x0 := (H1.out.bx.under hb2).cell 0; simp only [List.getElem?_cons_zero, recsOf_len] at x0; have k0 := (HXB.out.under hb2).cell 0; simp only [List.getElem?_cons_zero] at k0; clear hb2)
    go_quiet (fail)
    go_wp2_with fail
    go_ret2
    exact ⟨by rw [HE.out]; rfl, below_drewN (bthen HB1.out HB2.out) _⟩
  · have d0 : (m != 0) = true := by simp [hm0]
    have HE := Lib.hid (show addErr es after bs = m by unfold addErr; rw [if_pos (by rw [HM.out]; exact hm0), HM.out])
    clear hm0
    go_wp2_with (go_at_call 60; go_fit C.out; rintro r w2 ⟨rfl, hb2⟩; have HB2 := Lib.hid hb2; clear hb2)
    go_ret2
    exact ⟨by rw [HE.out]; rfl, bthen HB1.out HB2.out⟩

set_option maxHeartbeats 8000000 in
set_option maxRecDepth 100000 in
theorem ref14AddOk {w : World} {y : Nat} {A : Option Addr} {c : Nat} {es : List Event} {X : Nat → Prop} (h : Rx w y A c (recsOf es) X) {E : Option Addr} {ce : Nat} {bs : List Event} {after : Int} (hE : Sl kEvent (fun k => k ≠ y ∧ ¬ X k) w E ce bs) (hg : ∀ e ∈ bs, EvIn e) (hl : (es ++ bs).length ≤ 9000) (hyes : addErr es after bs = 0) :
    Calls Tryz.prog 17 #[.pointer (some ⟨y, 0, none⟩), .agg #[.int .i64 after, .slice E bs.length ce]] w fun r w' => ∃ (v : Value) (A' : Option Addr) (c' : Nat), r = .returned (.tuple #[v, .int .i64 0]) ∧ Own kRec 101 (w.heap.size + 1) (fun k => k ≠ y ∧ ¬ X k) w' v (recsFrom es bs) ∧
      Rx w' y A' c' (recsOf (es ++ bs)) (fun k => X k ∨ v.ownBlock = some k) ∧ But (fun k => k = y) w w' := by
  obtain ⟨hmay, hae⟩ := addErr_ok hyes
  obtain ⟨hb0, hb16, hoks, _, _⟩ := mayB_ok hmay
  obtain ⟨W1, hW1⟩ : ∃ W1, W1 = w.alloc (.cells #[.int .i64 after, .slice E bs.length ce] 45) := ⟨_, rfl⟩
  have HW1 := Lib.hid hW1
  have hb1 : Below w.heap.size w W1 := by rw [hW1]; exact (Below.refl _ _).alloc (Nat.le_refl _) _
  have hxb : Bx W1 w.heap.size 45 [.int .i64 after, .slice E bs.length ce] := by rw [hW1]; exact Bx.new w _ _
  have C := Lib.hid (ref10May_any (after := after) (hE.any.below hb1) hg)
  rw [hmay] at C
  have HB1 := Lib.hid hb1
  have H := Lib.hid h
  have H1 := Lib.hid (h.below hb1)
  have HXB := Lib.hid hxb
  have HE := Lib.hid hE
  have HG := Lib.hid hg
  have HL := Lib.hid hl
  have hece := hE.1
  have hcem := hE.2.1
  unfold maxLen at hcem
  have hc1 := h.sl.1
  have hc2 := h.sl.2.1
  unfold maxLen at hc2
  rw [recsOf_len] at hc1
  have hyl := h.bx.lt
  have k0 := hxb.cell 0
  have k1 := hxb.cell 1
  simp only [List.getElem?_cons_succ, List.getElem?_cons_zero] at k0 k1
  have hne : (after != (es.length : Int)) = false := by simp [hae]
  have hes : es.length ≤ 9000 := by rw [List.length_append] at hl; omega
  clear h hE hg hb1 hxb hmay hae hyes hoks hl
  go_enter Tryz.func17, Tryz.ntmps17
  go_upto_region 1 with fail
  rw [← HW1.out]
  clear hW1
  go_upto_region 4 with (go_at_call 60; go_fit C.out; rintro r w2 ⟨rfl, hb2⟩; have HB2 := Lib.hid hb2; have x0 := (H1.out.bx.under hb2).cell 0; simp only [List.getElem?_cons_zero, recsOf_len] at x0; have j0 := (HXB.out.under hb2).cell 0; simp only [List.getElem?_cons_zero] at j0; clear hb2)
  clear k0 k1
  go_cut [23] (fun v wx => v = .bool false ∧ Below w2.heap.size w2 wx)
  case first =>
    go_quiet (fail)
    go_wp2_with fail
    go_meet
    exact ⟨rfl, below_drewN (Below.refl _ _) _⟩
  case rest =>
    obtain ⟨rfl, hbc⟩ := hcut
    clear x0 j0 hne
    have HBC := Lib.hid (bthen HB2.out hbc)
    clear hbc
    go_upto_region 8 with fail
    have HRA := Lib.hid (show Ra w y es X [.int .i64 after, .slice E bs.length ce] [] [] (.slice (some ⟨wc.heap.size, 0, none⟩) 0 0) (wc.alloc (.cells #[] 101)) from by
      have hA : Below W1.heap.size W1 (wc.alloc (.cells #[] 101)) := below_made HBC.out (Nat.le_refl _) _
      have hxl := H1.out.xs
      have hlw := hA.size
      have hcs := HBC.out.size
      have h1s : W1.heap.size = w.heap.size + 1 := by rw [HW1.out]; simp
      refine ⟨⟨A, c, ?_⟩, HXB.out.under hA, ?_, But.of_below (bthen HB1.out hA), hyl, H.out.xs⟩
      · rw [List.append_nil]
        exact H1.out.fence hA (fun k hk => hk.elim .inl (fun e => .inr (by simp [Value.ownBlock] at e; subst e; exact ⟨hcs, by simp⟩)))
      · exact Own.lit0 kRec 101 (w.heap.size + 1) _ wc (by omega))
    go_loopw [7, 8] (fun v i wr => ∃ k : Nat, k ≤ bs.length ∧ i = .int .i64 k ∧ Hid (Ra w y es X [.int .i64 after, .slice E bs.length ce] (bs.take k) (bs.take k) v wr)) (fun _ i _ => bs.length - (intOf i).toNat)
    case atStart => exact ⟨0, Nat.zero_le _, rfl, HRA⟩
    case round =>
      clear HRA
      obtain ⟨k, hk, rfl, him⟩ := hrel
      have k1 := him.out.bb.cell 1
      simp only [List.getElem?_cons_succ, List.getElem?_cons_zero] at k1
      by_cases hlt : k < bs.length
      · have hE2 : Sl kEvent (fun k => (k ≠ y ∧ ¬ X k) ∧ k < w.heap.size) wr E ce bs := HE.out.bound.stay him.out.but.size (fun j hj hl => him.out.but.block j hl hj.1.1)
        obtain ⟨ad, S, sa, T, ta, rfl, c0', c1', c2', c3', hS, hT⟩ := row_ev_at hE2.2.2 hlt
        have HTK := Lib.hid (show bs.take (k + 1) = bs.take k ++ [bs[k]] from List.take_succ_eq_append_getElem hlt)
        generalize bs[k] = f at c0' c1' c2' c3' hS hT HTK
        have hwr : w.heap.size ≤ wr.heap.size := him.out.but.size
        have hyr : y < wr.heap.size := by omega
        have hNl : (es ++ bs.take k).length = es.length + k := by rw [List.length_append, List.length_take]; omega
        obtain ⟨A1, c1, hrx⟩ := him.out.rx
        obtain ⟨N, hN⟩ : ∃ N, N = es.length + k := ⟨_, rfl⟩
        have hNb : N ≤ 9000 := by have := HL.out; rw [List.length_append] at this; omega
        rw [← hN] at hNl
        have HRX := Lib.hid hrx
        have x0 := hrx.bx.cell 0
        simp only [List.getElem?_cons_zero, recsOf_len, hNl] at x0
        have hver : ((recsOf (es ++ bs.take k)).filter (fun r => decide (r.ev.stream = f.stream) && decide (r.pos ≤ (N : Int)))).length = cntS (es ++ bs.take k) f.stream := verR_all _ _ (by rw [hNl]; exact Int.le_refl _)
        have hcl := cntS_le (es ++ bs.take k) f.stream
        rw [hNl] at hcl
        obtain ⟨M, hM⟩ : ∃ M, cntS (es ++ bs.take k) f.stream = M := ⟨_, rfl⟩
        rw [hM] at hver hcl
        have HM := Lib.hid hM
        have HNL := Lib.hid hNl
        have C10 : Hid (Calls Tryz.prog 43 #[.pointer (some ⟨y, 0, none⟩), .string f.stream, .int .i64 (N : Int)] wr.drew (fun r w' => ∃ A' c', r = .returned (.slice A' M c') ∧ Below wr.drew.heap.size wr.drew w')) := Lib.hid ((ref14Stream_any (hrx.below (below_drawn (Below.refl _ _))) (by rw [recsOf_len, hNl]; omega) f.stream (N : Int)).mono (fun r w' hr => by obtain ⟨A', c', e, _, hb⟩ := hr; rw [hver] at e; exact ⟨A', c', e, hb⟩))
        have HCF := Lib.hid (fun W (hb : Below wr.heap.size wr W) => show W.cell? ⟨w.heap.size, 1, none⟩ = some (.slice (some ad) bs.length ce) ∧ W.cell? ⟨y, 0, none⟩ = some (.slice A1 N c1) ∧ W.cell? (ad.add (k * 4)) = some (.string f.stream) ∧ W.cell? ⟨(ad.add (k * 4)).block, (ad.add (k * 4)).off + 1, none⟩ = some (.string f.type) ∧
            W.cell? ⟨(ad.add (k * 4)).block, (ad.add (k * 4)).off + 2, none⟩ = some (.slice S f.tags.length sa) ∧ W.cell? ⟨(ad.add (k * 4)).block, (ad.add (k * 4)).off + 3, none⟩ = some (.slice T f.fields.length ta) from
          ⟨(hb.cell (World.block_lt_of_cell? wr _ k1)).trans k1, (hb.cell (World.block_lt_of_cell? wr _ x0)).trans x0, (hb.cell (World.block_lt_of_cell? wr _ c0')).trans c0', (hb.cell (World.block_lt_of_cell? wr _ c1')).trans c1', (hb.cell (World.block_lt_of_cell? wr _ c2')).trans c2', (hb.cell (World.block_lt_of_cell? wr _ c3')).trans c3'⟩)
        have HFS := Lib.hid hS
        have HFT := Lib.hid hT
        have HIM := him
        have HWM := Lib.hid (show IntKind.i64.wrap ((M : Int) + 1) = (M : Int) + 1 from IntWalk.i64_in _ (by omega))
        have HWN := Lib.hid (show IntKind.i64.wrap ((N : Int) + 1) = (N : Int) + 1 from IntWalk.i64_in _ (by omega))
        have e1 : (0 : Int) ≤ (k : Int) := Int.natCast_nonneg _
        have e2 : (k : Int) < (bs.length : Int) := by omega
        clear hS hT hrx hM hver hE2 hNl hN him c1' c2' c3'
        go_upto_region 10 with fail
        go_cut [9] (fun v wx => v = .int .i64 ((M : Int) + 1) ∧ Below wr.heap.size wr wx)
        case first =>
          go_region_held3 (fun W => W.cell? ⟨w.heap.size, 1, none⟩ = some (.slice (some ad) bs.length ce) ∧ W.cell? ⟨y, 0, none⟩ = some (.slice A1 N c1) ∧ W.cell? (ad.add (k * 4)) = some (.string f.stream)) (first | exact ⟨(HCF.out _ (below_drawn (Below.refl _ _))).1, (HCF.out _ (below_drawn (Below.refl _ _))).2.1, (HCF.out _ (below_drawn (Below.refl _ _))).2.2.1⟩ | exact HS5.out | (assumption))
            (first | (go_at_call 43; go_fit C10.out; rintro r w5 ⟨A5, c5, rfl, hb5⟩; have HB5 := Lib.hid (bthen (below_drawn (Below.refl _ _)) hb5); have HS5 := Lib.hid (show w5.cell? ⟨w.heap.size, 1, none⟩ = some (.slice (some ad) bs.length ce) ∧ w5.cell? ⟨y, 0, none⟩ = some (.slice A1 N c1) ∧ w5.cell? (ad.add (k * 4)) = some (.string f.stream) from ⟨(HCF.out _ HB5.out).1, (HCF.out _ HB5.out).2.1, (HCF.out _ HB5.out).2.2.1⟩); clear hb5))
          all_goals go_wp2_with fail
          all_goals go_meet
          all_goals exact ⟨congrArg (Value.int .i64) HWM.out, HB5.out⟩
        case rest =>
          obtain ⟨rfl, hbc⟩ := hcut
          have HBC := Lib.hid hbc
          obtain ⟨k1, x0, c0', c1', c2', c3'⟩ := HCF.out _ hbc
          clear hbc
          go_upto_region 11 with fail
          go_cut [10] (fun p wx => ∃ g, p = .pointer (some ⟨g, 0, none⟩) ∧ Bx wx g 101 [.int .i64 ((N : Int) + 1), .int .i64 ((M : Int) + 1), .string f.stream, .string f.type, .slice S f.tags.length sa, .slice T f.fields.length ta] ∧ Below wr.heap.size wr wx ∧ wr.heap.size ≤ g)
          case first =>
            have HCG := Lib.hid (fun W (hb : Below wc.heap.size wc W) => HCF.out W (bthen HBC.out hb))
            have HNN := Lib.hid (show ∀ W, Below wc.heap.size wc W → W.cell? ⟨w.heap.size, 1, none⟩ = some (.slice (some ad) bs.length ce) ∧ W.cell? ⟨y, 0, none⟩ = some (.slice A1 N c1) ∧ W.cell? (ad.add (k * 4)) = some (.string f.stream) ∧ W.cell? ⟨(ad.add (k * 4)).block, (ad.add (k * 4)).off + 1, none⟩ = some (.string f.type) ∧ W.cell? ⟨(ad.add (k * 4)).block, (ad.add (k * 4)).off + 2, none⟩ = some (.slice S f.tags.length sa) ∧ W.cell? ⟨(ad.add (k * 4)).block, (ad.add (k * 4)).off + 3, none⟩ = some (.slice T f.fields.length ta) from HCG.out)
            go_region_held3 (fun W => W.cell? ⟨w.heap.size, 1, none⟩ = some (.slice (some ad) bs.length ce) ∧ W.cell? ⟨y, 0, none⟩ = some (.slice A1 N c1) ∧ W.cell? (ad.add (k * 4)) = some (.string f.stream) ∧ W.cell? ⟨(ad.add (k * 4)).block, (ad.add (k * 4)).off + 1, none⟩ = some (.string f.type) ∧ W.cell? ⟨(ad.add (k * 4)).block, (ad.add (k * 4)).off + 2, none⟩ = some (.slice S f.tags.length sa) ∧ W.cell? ⟨(ad.add (k * 4)).block, (ad.add (k * 4)).off + 3, none⟩ = some (.slice T f.fields.length ta)) (first | exact HNN.out _ (below_drawn (Below.refl _ _)) | exact HNN.out _ (below_made (below_drawn (Below.refl _ _)) (Nat.le_refl _) _) | (assumption)) (fail)
            all_goals go_wp2_with fail
            all_goals go_meet
            all_goals rw [HWN.out]
            all_goals exact ⟨_, rfl, (Bx.new wc _ _).under (below_drawn (Below.refl _ _)), bthen HBC.out (below_drawn (below_made (Below.refl _ _) (Nat.le_refl _) _)), HBC.out.size⟩
          case rest =>
            obtain ⟨g, rfl, hbx, hbd, hgw⟩ := hcut
            clear k1 x0 c0' c1' c2' c3' HCF C10 HBC
            have HBD := Lib.hid hbd
            have HBX := Lib.hid hbx
            have HR2 := Lib.hid (HIM.out.below hbd)
            have HRX2 := Lib.hid (HRX.out.below hbd)
            have hyc : y < wc.heap.size := HRX2.out.bx.lt
            have hgl : g < wc.heap.size := hbx.lt
            have hwc : w.heap.size ≤ wc.heap.size := HR2.out.but.size
            have HRL := Lib.hid (show (recsOf (es ++ bs.take k)).length = N by rw [recsOf_len]; exact HNL.out)
            have HREQ := Lib.hid (show ([] ++ recsOf (es ++ bs.take k)) ++ [(⟨(N : Int) + 1, (M : Int) + 1, f⟩ : Rec)] = recsOf (es ++ (bs.take k ++ [f])) by rw [← List.append_assoc, recsOf_snoc, HNL.out, HM.out]; rfl)
            have HK := Lib.hid (fun W (hb : Below wc.heap.size wc W) => show Below wc.heap.size wc W ∧ W.cell? ⟨y, 0, none⟩ = some (.slice A1 N c1) ∧ W.cell? ⟨g, 0, none⟩ = some (.int .i64 ((N : Int) + 1)) ∧ W.cell? ⟨g, 1, none⟩ = some (.int .i64 ((M : Int) + 1)) ∧ W.cell? ⟨g, 2, none⟩ = some (.string f.stream) ∧ W.cell? ⟨g, 3, none⟩ = some (.string f.type) ∧ W.cell? ⟨g, 4, none⟩ = some (.slice S f.tags.length sa) ∧ W.cell? ⟨g, 5, none⟩ = some (.slice T f.fields.length ta) from
              ⟨hb, by have := (HRX2.out.bx.under hb).cell 0; rw [HRL.out] at this; exact this, (HBX.out.under hb).cell 0, (HBX.out.under hb).cell 1, (HBX.out.under hb).cell 2, (HBX.out.under hb).cell 3, (HBX.out.under hb).cell 4, (HBX.out.under hb).cell 5⟩)
            obtain ⟨OK, hOKd⟩ : ∃ OK : Nat → Prop, OK = fun j => (j ≠ y ∧ ¬ (X j ∨ u7.ownBlock = some j)) ∧ j < wc.heap.size := ⟨_, rfl⟩
            have HOKD := Lib.hid hOKd
            have HOK := Lib.hid (show ∀ j, OK j → j < wc.heap.size by subst hOKd; exact fun j h => h.2)
            have HRE := Lib.hid (show ∀ W, Below wc.heap.size wc W → Row kRec OK W A1 (recsOf (es ++ bs.take k)) by subst hOKd; exact fun W hb => HRX2.out.sl.2.2.bound.below hb)
            have HSO := Lib.hid (show ∀ j, ((j ≠ y ∧ ¬ X j) ∧ j < w.heap.size) → OK j by
              subst hOKd
              exact fun j hj => ⟨⟨hj.1.1, fun hx => hx.elim hj.1.2 (fun e => by have := HIM.out.out.base_le j e; omega)⟩, by omega⟩)
            have HKE := Lib.hid (show ∀ W, Below wc.heap.size wc W → kRec.K OK W ⟨(N : Int) + 1, (M : Int) + 1, f⟩ [.int .i64 ((N : Int) + 1), .int .i64 ((M : Int) + 1), .string f.stream, .string f.type, .slice S f.tags.length sa, .slice T f.fields.length ta] from
              fun W hb => kRec_mk (r := ⟨(N : Int) + 1, (M : Int) + 1, f⟩) ((((HFS.out.below HBD.out).below hb)).mono HSO.out) ((((HFT.out.below HBD.out).below hb)).mono HSO.out))
            clear hOKd hbx hbd
            obtain ⟨_, z0, z1, z2, z3, z4, z5, z6⟩ := HK.out wc (Below.refl _ _)
            go_upto_region 12 with fail
            go_cut [69] (fun _ wx => Ra w y es X [.int .i64 after, .slice (some ad) bs.length ce] (bs.take k ++ [f]) (bs.take k) u7 wx ∧ Bx wx g 101 [.int .i64 ((N : Int) + 1), .int .i64 ((M : Int) + 1), .string f.stream, .string f.type, .slice S f.tags.length sa, .slice T f.fields.length ta] ∧ But (fun j => j = y) wr wx)
            case first =>
              go_region_law
                (first
                  | (refine step_pushO rfl _ _ _ rfl 101 _ 6 96 Tryz.underlying32 infoRec rfl (by decide) (by decide) rfl wc OK HOK.out _ _ rfl (HO1.out.alloc _) ⟨(N : Int) + 1, (M : Int) + 1, f⟩ [.int .i64 ((N : Int) + 1), .int .i64 ((M : Int) + 1), .string f.stream, .string f.type, .slice S f.tags.length sa, .slice T f.fields.length ta] w5.heap.size (Bx.new w5 _ _) (fun e1 => by have := HO1.out.block_lt _ e1.symm; omega) (HKE.out _ (below_made HB5.out (Nat.le_refl _) _)) True (by first | exact ⟨below_drawn (Below.refl _ _), trivial⟩ | exact ⟨below_made (below_drawn (Below.refl _ _)) (Nat.le_refl _) _, trivial⟩ | exact ⟨below_made (below_made (below_drawn (Below.refl _ _)) (Nat.le_refl _) _) (Nat.le_refl _) _, trivial⟩ | exact ⟨HB5.out, trivial⟩ | exact ⟨below_made HB5.out (Nat.le_refl _) _, trivial⟩) rfl (by rw [List.nil_append, HRL.out]; omega) ?_; intro v2 w6 hown2 hbel2; have HO2 := Lib.hid hown2; have HB6 := Lib.hid hbel2; have kf := (HRX2.out.bx.under hbel2).free 0; have kc := (HK.out _ hbel2).2.1; obtain ⟨A2, c2, hv2, hsl2⟩ := hown2.sl; subst hv2; have HSL2 := Lib.hid hsl2; clear hown2 hbel2 hsl2)
                  | (refine step_pushO rfl _ _ _ rfl 101 _ 6 96 Tryz.underlying32 infoRec rfl (by decide) (by decide) rfl wc OK HOK.out _ _ rfl HO1.out ⟨(N : Int) + 1, (M : Int) + 1, f⟩ [.int .i64 ((N : Int) + 1), .int .i64 ((M : Int) + 1), .string f.stream, .string f.type, .slice S f.tags.length sa, .slice T f.fields.length ta] _ KB1.out.1 (fun e1 => KB1.out.2 e1.symm) (HKE.out _ HB5.out) True (by first | exact ⟨below_drawn (Below.refl _ _), trivial⟩ | exact ⟨below_made (below_drawn (Below.refl _ _)) (Nat.le_refl _) _, trivial⟩ | exact ⟨below_made (below_made (below_drawn (Below.refl _ _)) (Nat.le_refl _) _) (Nat.le_refl _) _, trivial⟩ | exact ⟨HB5.out, trivial⟩ | exact ⟨below_made HB5.out (Nat.le_refl _) _, trivial⟩) rfl (by rw [List.nil_append, HRL.out]; omega) ?_; intro v2 w6 hown2 hbel2; have HO2 := Lib.hid hown2; have HB6 := Lib.hid hbel2; have kf := (HRX2.out.bx.under hbel2).free 0; have kc := (HK.out _ hbel2).2.1; obtain ⟨A2, c2, hv2, hsl2⟩ := hown2.sl; subst hv2; have HSL2 := Lib.hid hsl2; clear hown2 hbel2 hsl2)
                  | (refine step_spreadO rfl _ _ _ rfl 101 _ 6 96 Tryz.underlying32 infoRec rfl (by decide) (by decide) rfl wc OK HOK.out _ [] rfl (Own.lit_at (by first | exact heap_alloc_new wc _ | exact heap_alloc2_new wc _ _ | exact two_old wc _ _) (by simp)) (recsOf (es ++ bs.take k)) A1 c1 HRE.out True (by first | exact ⟨below_drawn (Below.refl _ _), trivial⟩ | exact ⟨below_made (below_drawn (Below.refl _ _)) (Nat.le_refl _) _, trivial⟩ | exact ⟨below_made (below_made (below_drawn (Below.refl _ _)) (Nat.le_refl _) _) (Nat.le_refl _) _, trivial⟩ | exact ⟨HB5.out, trivial⟩ | exact ⟨below_made HB5.out (Nat.le_refl _) _, trivial⟩) N HRL.out rfl (by simp; omega) ?_; intro v1 w5 hown1 hg1 hat1 hbel1; have HO1 := Lib.hid hown1; have HB5 := Lib.hid hbel1; obtain ⟨_, a0, a1, a2, a3, a4, a5, a6⟩ := HK.out _ hbel1; have hs5 := hbel1.size; (first | (have KB1 := Lib.hid (box_grown (b := wc.heap.size + 1) (t := 101) (cs := [.int .i64 ((N : Int) + 1), .int .i64 ((M : Int) + 1), .string f.stream, .string f.type, .slice S f.tags.length sa, .slice T f.fields.length ta]) (by exact heap_alloc2_new wc _ _) (by show (some wc.heap.size : Option Nat) ≠ some (wc.heap.size + 1); simp) hg1 hat1)) | (have KB1 := Lib.hid (box_grown (b := wc.heap.size) (t := 101) (cs := [.int .i64 ((N : Int) + 1), .int .i64 ((M : Int) + 1), .string f.stream, .string f.type, .slice S f.tags.length sa, .slice T f.fields.length ta]) (by exact two_old wc _ _) (by show (some (wc.heap.size + 1) : Option Nat) ≠ some wc.heap.size; simp) hg1 hat1)) | skip); clear hown1 hg1 hat1 hbel1))
              all_goals go_wp2_with fail
              all_goals go_meet
              all_goals exact ⟨HR2.out.stepL2 HOKD.out (by first | exact Nat.le_refl _ | exact Nat.le_succ _ | exact HB5.out.size) HB6.out HREQ.out HSL2.out (by simp), (HBX.out.under HB6.out).far (fun e => by have := HB6.out.size; have : g = y := e; omega) _, ((But.of_below HBD.out).trans (But.of_below HB6.out)).trans (But.setCell (S := fun j => j = y) w6 (p := ⟨y, 0, none⟩) rfl _)⟩
            case rest =>
              obtain ⟨hra, hbx, hbut⟩ := hcut
              clear HK HKE HRE HOK z0 z1 z2 z3 z4 z5 z6
              have HRA := Lib.hid hra
              have q0 := hbx.cell 0
              have q1 := hbx.cell 1
              have q2 := hbx.cell 2
              have q3 := hbx.cell 3
              have q4 := hbx.cell 4
              have q5 := hbx.cell 5
              simp only [List.getElem?_cons_succ, List.getElem?_cons_zero] at q0 q1 q2 q3 q4 q5
              have HGS := Lib.hid (HFS.out.stay hbut.size (fun j hj hl => hbut.block j hl hj.1.1))
              have HGT := Lib.hid (HFT.out.stay hbut.size (fun j hj hl => hbut.block j hl hj.1.1))
              have hw2 : w.heap.size + 1 ≤ wc.heap.size := by have := hra.bb.lt; omega
              have hfl : (recsFrom es (bs.take k)).length = k := by rw [recsFrom_len, List.length_take]; omega
              have HKL := Lib.hid hfl
              clear hra hbx hbut hfl
              go_wp2_with (at_builtin; refine wpList_pushH (W := wc) rfl _ _ _ rfl 101 _ 6 96 Tryz.underlying32 infoRec rfl (by decide) (by decide) rfl (w.heap.size + 1) (fun j => j ≠ y ∧ ¬ X j) u7 _ rfl HRA.out.out ⟨(N : Int) + 1, (M : Int) + 1, f⟩ [.int .i64 ((N : Int) + 1), .int .i64 ((M : Int) + 1), .string f.stream, .string f.type, .slice S f.tags.length sa, .slice T f.fields.length ta] (kRec_mk (r := ⟨(N : Int) + 1, (M : Int) + 1, f⟩) (HGS.out.mono (fun i hi => ⟨hi.1, own_far HRA.out.out i (by have : i < w.heap.size := hi.2; omega)⟩)) (HGT.out.mono (fun i hi => ⟨hi.1, own_far HRA.out.out i (by have : i < w.heap.size := hi.2; omega)⟩))) wc.heap.size rfl rfl hw2 (by rw [HKL.out]; omega) ?_; intro v1 w8 hown1 hg1 hat1 hbel1; have HF := Lib.hid (HRA.out.stepO (v1 := v1) (w1 := w8) (by rw [HNL.out, HM.out]; exact hown1) hg1 (hat1.imp id (fun e => ⟨_, e, Nat.le_succ _⟩))); clear hown1 hg1 hat1 hbel1)
              go_roundw
              case rel => exact ⟨k + 1, by omega, by go_num, Lib.hid (by rw [HTK.out]; exact HF.out)⟩
              case measure => simp [intOf]; omega
      · obtain rfl : k = bs.length := by omega
        rw [List.take_length] at him
        obtain ⟨A9, c9, h9⟩ := him.out.rx
        have HIM := him
        clear him
        go_wp2_with fail
        go_ret2
        exact ⟨_, A9, c9, rfl, HIM.out.out, h9, HIM.out.but⟩
end
end Go.Proofs.YtfoghahidofegaaGreat

namespace Go.Proofs.YtfoghahidofegaaGreat
open Go.RowKit Go.Maps

set_option maxHeartbeats 4000000 in
set_option maxRecDepth 100000 in
theorem holds_any {w : World} {B : Six} {es : List Event} {X : Nat → Prop} (h : Ix w B es X) {s : ByteArray} (hs : s.size ≤ maxLen) {q : List Clause} {Q : Option Addr} {cq : Nat} (hq : SlC w Q cq q) (hg : ∀ c ∈ q, goodClause c) (v : Int) (b : Bool) :
    Calls Tryz.prog 24 #[.pointer (some ⟨B.b, 0, none⟩), .agg #[.string s, .int .i64 v, .slice Q q.length cq, .bool b]] w fun r w' => r = .returned (.bool (if b then !sinceR es q v else decide ((verR es s es.length : Int) = v))) ∧ Below w.heap.size w w' := by
  obtain ⟨W1, hW1⟩ : ∃ W1, W1 = w.alloc (.cells #[.string s, .int .i64 v, .slice Q q.length cq, .bool b] 52) := ⟨_, rfl⟩
  have HW1 := Lib.hid hW1
  have hb1 : Below w.heap.size w W1 := by rw [hW1]; exact (Below.refl _ _).alloc (Nat.le_refl _) _
  have hx : Bx W1 w.heap.size 52 [.string s, .int .i64 v, .slice Q q.length cq, .bool b] := by rw [hW1]; exact Bx.new w _ _
  have HB1 := Lib.hid hb1
  have HX := Lib.hid hx
  have H1 := Lib.hid (h.below hb1)
  have CS := Lib.hid (iSince (h.below hb1) (hq.below hb1) hg v)
  have HS := Lib.hid hs
  have x0 := hx.cell 0
  have x1 := hx.cell 1
  have x2 := hx.cell 2
  have x3 := hx.cell 3
  simp only [List.getElem?_cons_succ, List.getElem?_cons_zero] at x0 x1 x2 x3
  obtain ⟨R, hR⟩ : ∃ R, (if b then !sinceR es q v else decide ((verR es s es.length : Int) = v)) = R := ⟨_, rfl⟩
  rw [hR]
  clear h hs hq hg hb1 hx
  go_enter Tryz.func24, Tryz.ntmps24
  go_upto_region 1 with fail
  rw [← HW1.out]
  clear hW1
  cases b with
  | true =>
    simp only [if_true] at hR
    obtain ⟨t, ht⟩ : ∃ t, sinceR es q v = t := ⟨_, rfl⟩
    rw [ht] at CS hR
    have HR := Lib.hid hR
    clear ht hR
    go_wp2_with (go_at_call 66; go_fit CS.out; rintro r w2 ⟨rfl, hb2⟩; have HB2 := Lib.hid hb2; clear hb2)
    go_ret
    exact ⟨by rw [← HR.out]; rfl, bthen HB1.out HB2.out⟩
  | false =>
    obtain ⟨N, hN⟩ : ∃ N, verR es s es.length = N := ⟨_, rfl⟩
    have D1 : Hid (∀ W (R : Prop), Below W1.heap.size W1 W ∧ R → Calls Tryz.prog 15 #[.pointer (some ⟨B.b, 0, none⟩)] W fun r w' => r = .returned (.int .i64 es.length) ∧ W = w') := Lib.hid (fun W R hW => iLast (H1.out.below hW.1))
    have D2 : Hid (∀ W (R : Prop), Below W1.heap.size W1 W ∧ R → Calls Tryz.prog 37 #[.pointer (some ⟨B.b, 0, none⟩), .string s, .int .i64 es.length] W fun r w' => r = .returned (.int .i64 N) ∧ W = w') := Lib.hid (fun W R hW => by rw [← hN]; exact iVersion (H1.out.below hW.1) HS.out es.length)
    have HK := Lib.hid (fun W (hb : Below W1.heap.size W1 W) => show Below W1.heap.size W1 W ∧ W.cell? ⟨w.heap.size, 0, none⟩ = some (.string s) ∧ W.cell? ⟨w.heap.size, 1, none⟩ = some (.int .i64 v) from ⟨hb, (HX.out.under hb).cell 0, (HX.out.under hb).cell 1⟩)
    simp only [Bool.false_eq_true, if_false] at hR
    rw [hN] at hR
    have hb' : ((N : Int) == v) = R := by rw [← hR]; rfl
    clear hN CS x2 hR
    go_upto_region 3 with fail
    clear x0 x1 x3
    rcases R with _ | _
    all_goals go_region_held3 (fun W => Below W1.heap.size W1 W ∧ W.cell? ⟨w.heap.size, 0, none⟩ = some (.string s) ∧ W.cell? ⟨w.heap.size, 1, none⟩ = some (.int .i64 v)) (first | exact HK.out _ (below_drawn (Below.refl _ _)) | (assumption))
      (first
        | (go_at_call 15; go_fit (D1.out _ _ (by assumption)); rintro r w4 ⟨rfl, rfl⟩)
        | (go_at_call 37; go_fit (D2.out _ _ (by assumption)); rintro r w5 ⟨rfl, rfl⟩))
    all_goals go_wp2_with fail
    all_goals go_ret
    all_goals exact ⟨by first | rfl | (rw [hb']), bthen HB1.out (below_drawn (Below.refl _ _))⟩
end Go.Proofs.YtfoghahidofegaaGreat

namespace Go.Proofs.YtfoghahidofegaaGreat
open Go.RowKit Go.Maps

set_option maxHeartbeats 4000000 in
set_option maxRecDepth 100000 in
theorem shown18_any (w : World) : Calls Tryz.prog 20 #[] w fun r w' => r = .returned (.bool true) ∧ Below w.heap.size w w' := by
  have C1 := Lib.hid (lNew w (Nat.le_refl _))
  go_enter Tryz.func20, Tryz.ntmps20
  go_upto_region 2 with (go_at_call 12; go_fit C1.out; rintro r w2 ⟨B, rfl, h2, hb2⟩; have H2 := Lib.hid h2; have HB2 := Lib.hid hb2; clear h2 hb2)
  have D1 := Lib.hid (fun W (hb : Below w2.heap.size w2 W) => show Calls Tryz.prog 24 #[.pointer (some ⟨B.b, 0, none⟩), .agg #[.string ⟨#[115]⟩, .int .i64 0, .slice none 0 0, .bool false]] W fun r w' => r = .returned (.bool true) ∧ Below W.heap.size W w' from holds_any (H2.out.ix.below hb) (s := ⟨#[115]⟩) (by decide) (q := []) (Q := none) (cq := 0) Sl.nil_ (by simp) 0 false)
  have D3 := Lib.hid (fun W (hb : Below w2.heap.size w2 W) => show Calls Tryz.prog 24 #[.pointer (some ⟨B.b, 0, none⟩), .agg #[.string ⟨#[115]⟩, .int .i64 1, .slice none 0 0, .bool false]] W fun r w' => r = .returned (.bool false) ∧ Below W.heap.size W w' from holds_any (H2.out.ix.below hb) (s := ⟨#[115]⟩) (by decide) (q := []) (Q := none) (cq := 0) Sl.nil_ (by simp) 1 false)
  have D2 := Lib.hid (fun W (hb : Below w2.heap.size w2 W) (Q : Option Addr) (hq : SlC W Q 1 qAll) => show Calls Tryz.prog 24 #[.pointer (some ⟨B.b, 0, none⟩), .agg #[.string ByteArray.empty, .int .i64 0, .slice Q 1 1, .bool true]] W fun r w' => r = .returned (.bool true) ∧ Below W.heap.size W w' from holds_any (H2.out.ix.below hb) (s := ByteArray.empty) (by decide) hq (by
    intro c hc
    simp only [qAll, List.mem_cons, List.not_mem_nil, or_false] at hc
    rw [hc]; exact ⟨by simp, by simp⟩) 0 true)
  go_wp2_with (first
    | (go_at_call 24; go_fit (D3.out _ HB5.out); rintro r w6 ⟨rfl, hb6⟩; have HB6 := Lib.hid (bthen HB5.out hb6); clear hb6)
    | (go_at_call 24; go_fit (D2.out _ (below_made HB4.out (Nat.le_refl _) _) _ (Sl.one (d := kClause) (ok := fun _ => True) (y := ⟨[], []⟩) (cs := [.slice none 0 0, .slice none 0 0]) 118 (kClause_mk (c := ⟨[], []⟩) Sl.nil_ Sl.nil_) w4.heap.size rfl).any); rintro r w5 ⟨rfl, hb5⟩; have HB5 := Lib.hid (bthen (below_made HB4.out (Nat.le_refl _) _) hb5); clear hb5)
    | (go_at_call 24; go_fit (D1.out _ (Below.refl _ _)); rintro r w4 ⟨rfl, hb4⟩; have HB4 := Lib.hid hb4; clear hb4))
  go_ret
  exact ⟨by rfl, bthen HB2.out HB6.out⟩

/-- The events that filled takes. -/
def okE (e : Event) : Bool := decide (mayE e = 0)
def filE (l : List Event) : List Event := (l.take 30).filter okE
/-- Both indexes on the way. -/
structure Fi (w wr : World) (B : Six) (y : Nat) (es : List Event) : Prop where
  ix : Ix wr B es (fun k => k < w.heap.size ∨ k = y)
  rx : ∃ A c, Rx wr y A c (recsOf es) B.has
  lo : ∀ k, B.has k → w.heap.size ≤ k
  yl : w.heap.size ≤ y
  bel : Below w.heap.size w wr
theorem Fi.below {w wr w' : World} {B : Six} {y : Nat} {es : List Event} (h : Fi w wr B y es) (hb : Below wr.heap.size wr w') : Fi w w' B y es := by
  obtain ⟨A, c, h1⟩ := h.rx
  exact ⟨h.ix.below hb, ⟨A, c, h1.below hb⟩, h.lo, h.yl, bthen h.bel hb⟩
theorem Fi.addX {w wr w' : World} {B : Six} {y : Nat} {es fs : List Event} (h : Fi w wr B y es) (hi : Ix w' B fs (fun k => k < w.heap.size ∨ k = y)) (hb : But B.has wr w') : ∃ A c, Rx w' y A c (recsOf es) B.has := by
  obtain ⟨A, c, h1⟩ := h.rx
  exact ⟨A, c, h1.far hb⟩
theorem addErr1 {es : List Event} {e : Event} (he : mayE e = 0) (hl : es.length ≤ 30) : addErr es es.length [e] = 0 := by
  have h1 : badE [e] = 0 := badE_ok.2 (fun x hx => by rw [List.mem_singleton.1 hx]; exact (mayE_iff e).1 he)
  unfold addErr mayB
  simp [h1]
  omega
theorem addTo1 {es : List Event} {e : Event} (he : mayE e = 0) (hl : es.length ≤ 30) : addTo es es.length [e] = es ++ [e] := by
  unfold addTo; rw [addErr1 he hl]; rfl
theorem filter_len30 (l : List Event) (k : Nat) : ((l.take k).filter okE).length ≤ k := by
  have := List.length_filter_le okE (l.take k)
  rw [List.length_take] at this
  omega

set_option maxHeartbeats 8000000 in
set_option maxRecDepth 100000 in
theorem filled_any {w : World} {A : Option Addr} {c : Nat} {l : List Event} (hA : Sl kEvent (fun k => k < w.heap.size) w A c l) (hg : ∀ e ∈ l, (∀ s ∈ e.tags, s.size ≤ maxLen) ∧ (mayE e = 0 → EvIn e)) :
    Calls Tryz.prog 21 #[.slice A l.length c] w fun r w' => ∃ (B : Six) (y : Nat), r = .returned (.tuple #[.pointer (some ⟨B.b, 0, none⟩), .pointer (some ⟨y, 0, none⟩)]) ∧ Fi w w' B y (filE l) := by
  have C1 := Lib.hid (lNew w (Nat.le_refl _))
  have HA := Lib.hid hA
  have HG := Lib.hid hg
  have hc1 := hA.1
  have hc2 := hA.2.1
  unfold maxLen at hc2
  clear hA hg
  go_enter Tryz.func21, Tryz.ntmps21
  go_upto_block 0 with (go_at_call 12; go_fit C1.out; rintro r w2 ⟨B, rfl, h2, hb2⟩; have H2 := Lib.hid h2; have HB2 := Lib.hid hb2; clear h2 hb2)
  have HF0 := Lib.hid (show Fi w (w2.alloc (.cells #[.slice none 0 0] 34)) B w2.heap.size [] from by
    have hb := (Below.refl w2.heap.size w2).alloc (Nat.le_refl _) (.cells #[.slice none 0 0] 34)
    refine ⟨H2.out.ix.fence hb (fun k hk => hk.elim .inl (fun e => .inr (by subst e; simp))), ⟨none, 0, ⟨Bx.new w2 _ _, Sl.nil_, fun hB => by have := H2.out.ix.lt _ hB; omega, fun k hk => by have := H2.out.ix.lt k hk; simp; omega⟩⟩, H2.out.lo, H2.out.size, bthen HB2.out hb⟩)
  generalize w2.heap.size = y at HF0
  generalize (w2.alloc (.cells #[.slice none 0 0] 34)) = w3 at HF0
  go_cut [6] (fun _ wx => Fi w wx B y (filE l))
  case first =>
    go_wp2_with fail
    go_loopw [6] (fun i wr => ∃ k : Nat, k ≤ l.length ∧ k ≤ 30 ∧ i = .int .i64 k ∧ Fi w wr B y ((l.take k).filter okE)) (fun i _ => l.length - (intOf i).toNat)
    case atStart => exact ⟨0, Nat.zero_le _, Nat.zero_le _, rfl, HF0.out⟩
    case round =>
      clear HF0 H2 HB2 C1
      obtain ⟨k, hk, hk30, rfl, hfi⟩ := hrel
      by_cases hlt : k < l.length ∧ k < 30
      · obtain ⟨hlt, h30⟩ := hlt
        have hrows : Sl kEvent (fun k => k < w.heap.size) wr A c l := HA.out.stay hfi.bel.size (fun j hj _ => hfi.bel.block j hj)
        obtain ⟨ad, S, sa, T, ta, rfl, c0, c1, c2, c3, hS, hT⟩ := row_ev_at hrows.2.2 hlt
        have HIN := Lib.hid (HG.out _ (List.getElem_mem hlt))
        have HTK := Lib.hid (show l.take (k + 1) = l.take k ++ [l[k]] from List.take_succ_eq_append_getElem hlt)
        have hel := filter_len30 l k
        have HFT := Lib.hid (show (l.take (k + 1)).filter okE = (l.take k).filter okE ++ [l[k]].filter okE by rw [List.take_succ_eq_append_getElem hlt, List.filter_append])
        generalize l[k] = e at c0 c1 c2 c3 hS hT HIN HTK HFT
        generalize (l.take k).filter okE = es at hfi HFT hel
        obtain ⟨m, hm⟩ : ∃ m, mayE e = m := ⟨_, rfl⟩
        have CM := Lib.hid (show Calls Tryz.prog 33 #[vEvent e S sa T ta] wr fun r w' => r = .returned (.int .i64 m) ∧ Below wr.heap.size wr w' from by rw [← hm]; exact refMayE_any hS.any hT.any HIN.out.1)
        have HFI := Lib.hid hfi
        have i1 : (0 : Int) ≤ (k : Int) := Int.natCast_nonneg _
        have i2 : (k : Int) < (l.length : Int) := by omega
        have HCS := Lib.hid (fun W (hb : Below wr.heap.size wr W) => show W.cell? (ad.add (k * 4)) = some (.string e.stream) ∧ W.cell? ⟨(ad.add (k * 4)).block, (ad.add (k * 4)).off + 1, none⟩ = some (.string e.type) ∧ W.cell? ⟨(ad.add (k * 4)).block, (ad.add (k * 4)).off + 2, none⟩ = some (.slice S e.tags.length sa) ∧ W.cell? ⟨(ad.add (k * 4)).block, (ad.add (k * 4)).off + 3, none⟩ = some (.slice T e.fields.length ta) from
          ⟨(hb.cell (World.block_lt_of_cell? wr _ c0)).trans c0, (hb.cell (World.block_lt_of_cell? wr _ c1)).trans c1, (hb.cell (World.block_lt_of_cell? wr _ c2)).trans c2, (hb.cell (World.block_lt_of_cell? wr _ c3)).trans c3⟩)
        have HS := Lib.hid hS
        have HT := Lib.hid hT
        have HM := Lib.hid hm
        clear hS hT hm hrows hfi
        unfold vEvent at CM
        by_cases hm0 : m = 0
        · subst hm0
          have HNX := Lib.hid (show (l.take (k + 1)).filter okE = es ++ [e] by rw [HFT.out]; congr 1; simp [okE, HM.out])
          have HEL := Lib.hid (show es.length ≤ 30 by omega)
          go_upto_region 9 with ((go_at_call 33; go_fit CM.out; rintro r w4 ⟨rfl, hb4⟩; have HB4 := Lib.hid hb4; clear hb4))


          have HF4 := Lib.hid (HFI.out.below HB4.out)
          obtain ⟨A4, c4, hr4⟩ := HF4.out.rx
          have HR4 := Lib.hid hr4
          have HK := Lib.hid (fun W (hb : Below w4.heap.size w4 W) => show W.cell? ⟨y, 0, none⟩ = some (.slice A4 es.length c4) ∧ W.cell? (ad.add (k * 4)) = some (.string e.stream) ∧ W.cell? ⟨(ad.add (k * 4)).block, (ad.add (k * 4)).off + 1, none⟩ = some (.string e.type) ∧ W.cell? ⟨(ad.add (k * 4)).block, (ad.add (k * 4)).off + 2, none⟩ = some (.slice S e.tags.length sa) ∧ W.cell? ⟨(ad.add (k * 4)).block, (ad.add (k * 4)).off + 3, none⟩ = some (.slice T e.fields.length ta) from
            ⟨by have := (HR4.out.bx.under hb).cell 0; rw [recsOf_len] at this; exact this, HCS.out _ (bthen HB4.out hb)⟩)
          clear hr4 c0 c1 c2 c3 HCS
          go_cut [7] (fun p wx => ∃ g E, p = .pointer (some ⟨g, 0, none⟩) ∧ Bx wx g 45 [.int .i64 es.length, .slice (some ⟨E, 0, none⟩) 1 1] ∧ Sl kEvent (fun j => j < w.heap.size ∨ w4.heap.size ≤ j) wx (some ⟨E, 0, none⟩) 1 [e] ∧ Below w4.heap.size w4 wx ∧ w4.heap.size ≤ g)
          case first =>
            go_region_held3 (fun W => W.cell? ⟨y, 0, none⟩ = some (.slice A4 es.length c4) ∧ W.cell? (ad.add (k * 4)) = some (.string e.stream) ∧ W.cell? ⟨(ad.add (k * 4)).block, (ad.add (k * 4)).off + 1, none⟩ = some (.string e.type) ∧ W.cell? ⟨(ad.add (k * 4)).block, (ad.add (k * 4)).off + 2, none⟩ = some (.slice S e.tags.length sa) ∧ W.cell? ⟨(ad.add (k * 4)).block, (ad.add (k * 4)).off + 3, none⟩ = some (.slice T e.fields.length ta))
              (first | exact HK.out _ (below_drawn (Below.refl _ _)) | exact HK.out _ (below_made (below_drawn (Below.refl _ _)) (Nat.le_refl _) _) | exact HK.out _ (below_made (below_made (below_drawn (Below.refl _ _)) (Nat.le_refl _) _) (Nat.le_refl _) _) | (assumption)) (fail)
            all_goals go_wp2_with fail
            all_goals go_meet
            all_goals first
              | exact ⟨w4.heap.size, w4.heap.size + 1, rfl, (Bx.new w4 _ _).under (below_drawn (below_made (Below.refl _ _) (Nat.le_refl _) _)), ((Sl.one (d := kEvent) (ok := fun j => j < w.heap.size) (w := w4.alloc (.cells #[.int .i64 es.length, .slice (some ⟨w4.heap.size + 1, 0, none⟩) 1 1] 45)) (y := e) (cs := [.string e.stream, .string e.type, .slice S e.tags.length sa, .slice T e.fields.length ta]) 42 (kEvent_mk (HS.out.below (bthen HB4.out ((Below.refl _ _).alloc (Nat.le_refl _) _))) (HT.out.below (bthen HB4.out ((Below.refl _ _).alloc (Nat.le_refl _) _)))) (w4.heap.size + 1) (by simp)).mono (fun j hj => hj.imp id (fun h => by omega))).below (below_drawn (Below.refl _ _)), below_drawn (below_made (below_made (Below.refl _ _) (Nat.le_refl _) _) (by simp) _), Nat.le_refl _⟩
              | exact ⟨w4.heap.size + 1, w4.heap.size, rfl, (by have := Bx.new (w4.alloc (.cells #[.string e.stream, .string e.type, .slice S e.tags.length sa, .slice T e.fields.length ta] 42)) 45 [.int .i64 es.length, .slice (some ⟨w4.heap.size, 0, none⟩) 1 1]; simpa using this), (Sl.one (d := kEvent) (ok := fun j => j < w.heap.size) (w := w4) (y := e) (cs := [.string e.stream, .string e.type, .slice S e.tags.length sa, .slice T e.fields.length ta]) 42 (kEvent_mk (HS.out.below HB4.out) (HT.out.below HB4.out)) w4.heap.size rfl).alloc _, below_made (below_made (Below.refl _ _) (Nat.le_refl _) _) (Nat.le_refl _) _, Nat.le_succ _⟩
              | exact ⟨w4.heap.size + 1, w4.heap.size, rfl, Bx.under (by have := Bx.new (w4.alloc (.cells #[.string e.stream, .string e.type, .slice S e.tags.length sa, .slice T e.fields.length ta] 42)) 45 [.int .i64 es.length, .slice (some ⟨w4.heap.size, 0, none⟩) 1 1]; simpa using this) (below_drawn (Below.refl _ _)), ((Sl.one (d := kEvent) (ok := fun j => j < w.heap.size) (w := w4) (y := e) (cs := [.string e.stream, .string e.type, .slice S e.tags.length sa, .slice T e.fields.length ta]) 42 (kEvent_mk (HS.out.below HB4.out) (HT.out.below HB4.out)) w4.heap.size rfl).alloc _).below (below_drawn (Below.refl _ _)), below_drawn (below_made (below_made (Below.refl _ _) (Nat.le_refl _) _) (Nat.le_refl _) _), Nat.le_succ _⟩
          case rest =>
            obtain ⟨g, E, rfl, hbx, hsl, hbc, hgw⟩ := hcut
            clear HK CM
            have HFC := Lib.hid (HF4.out.below hbc)
            have HBX := Lib.hid hbx
            have HSL := Lib.hid hsl
            have hgB : ∀ j, B.has j → j < w4.heap.size := fun j hj => HF4.out.ix.lt j hj
            have HGB := Lib.hid hgB
            have hw4 : w.heap.size ≤ w4.heap.size := HF4.out.bel.size
            have CA : Hid (Calls Tryz.prog 14 #[.pointer (some ⟨B.b, 0, none⟩), .agg #[.int .i64 es.length, .slice (some ⟨E, 0, none⟩) 1 1]] wc fun r w' => (∃ v, r = .returned v) ∧ Ix w' B (es ++ [e]) (fun j => j < w.heap.size ∨ j = y) ∧ But B.has wc w') := Lib.hid (by
              refine (iAdd_any (bs := [e]) (after := es.length) HFC.out.ix (HSL.out.mono (fun j hj hB => hj.elim (fun h => by have := HFC.out.lo j hB; omega) (fun h => by have := HGB.out j hB; omega))) (fun x hx => by rw [List.mem_singleton.1 hx]; exact HIN.out.2 HM.out) (by have := HEL.out; simp; omega)).mono ?_
              rintro r w' ⟨A', c', e1, _, h1, h2⟩
              rw [addTo1 HM.out HEL.out] at h1
              exact ⟨⟨_, e1⟩, h1, h2⟩)
            have g0 := hbx.cell 0
            have g1 := hbx.cell 1
            simp only [List.getElem?_cons_succ, List.getElem?_cons_zero] at g0 g1
            clear hbx hsl hgB
            go_upto_region 11 with (go_at_call 14; go_fit CA.out; rintro r w5 ⟨⟨v5, rfl⟩, h5, hb5⟩; have HI5 := Lib.hid h5; have HB5 := Lib.hid hb5; clear h5 hb5)
            obtain ⟨A5, c5, hr5⟩ := HFC.out.addX HI5.out HB5.out
            have HR5 := Lib.hid hr5
            have hx5 := HBX.out.stay (w' := w5) (fun hk => HB5.out.block _ hk (fun hB => by have := HGB.out g hB; omega))
            have g2 := hx5.cell 0
            have g3 := hx5.cell 1
            simp only [List.getElem?_cons_succ, List.getElem?_cons_zero] at g2 g3
            have hyw := HF4.out.yl
            have hy4 : y < w4.heap.size := HR4.out.bx.lt
            have hyB : ¬ B.has y := HR4.out.xy
            have CB : Hid (Calls Tryz.prog 17 #[.pointer (some ⟨y, 0, none⟩), .agg #[.int .i64 es.length, .slice (some ⟨E, 0, none⟩) 1 1]] w5 fun r w' => (∃ v, r = .returned v) ∧ (∃ A' c', Rx w' y A' c' (recsOf (es ++ [e])) B.has) ∧ But (fun j => j = y) w5 w') := Lib.hid (by
              refine (ref14AddOk (bs := [e]) (after := es.length) HR5.out ((HSL.out.stay HB5.out.size (fun j hj hl => HB5.out.block j hl (fun hB => hj.elim (fun h => by have := HFC.out.lo j hB; omega) (fun h => by have := HGB.out j hB; omega)))).mono (fun j hj => ⟨fun e1 => by omega, fun hB => hj.elim (fun h => by have := HFC.out.lo j hB; omega) (fun h => by have := HGB.out j hB; omega)⟩)) (fun x hx => by rw [List.mem_singleton.1 hx]; exact HIN.out.2 HM.out) (by have := HEL.out; simp; omega) (addErr1 HM.out HEL.out)).mono ?_
              rintro r w' ⟨v, A', c', e1, _, h1, h2⟩
              exact ⟨⟨_, e1⟩, ⟨A', c', h1.less (fun j hj => .inl hj)⟩, h2⟩)
            clear hx5 hr5
            go_wp2_with (go_at_call 17; go_fit CB.out; rintro r w6 ⟨⟨v6, rfl⟩, h6, hb6⟩; have HR6 := Lib.hid h6; have HB6 := Lib.hid hb6; clear h6 hb6)
            go_roundw
            case rel =>
              refine ⟨k + 1, by omega, by omega, by go_num, ?_⟩
              rw [HNX.out]
              exact ⟨HI5.out.far (HB6.out.mono (fun j hj => .inr hj)), HR6.out, HFC.out.lo, hyw, HB6.out.below (HB5.out.below HFC.out.bel HFC.out.bel.size HFC.out.lo) (by have := HFC.out.bel.size; have := HB5.out.size; omega) (fun j hj => by rw [hj]; exact hyw)⟩
            case measure => simp [intOf]; omega
        · have d0 : (m == 0) = false := by simp [hm0]
          have HNX := Lib.hid (show (l.take (k + 1)).filter okE = es by rw [HFT.out]; simp [okE, HM.out, hm0])
          clear hm0
          go_wp2_with (go_at_call 33; go_fit CM.out; rintro r w4 ⟨rfl, hb4⟩; have HB4 := Lib.hid hb4; clear hb4)
          go_roundw
          case rel => exact ⟨k + 1, by omega, by omega, by go_num, by rw [HNX.out]; exact HFI.out.below HB4.out⟩
          case measure => simp [intOf]; omega
      · have hstop : k < l.length → ¬ k < 30 := fun h h2 => hlt ⟨h, h2⟩
        have HFN := Lib.hid (show Fi w wr B y (filE l) by
          have e : l.take k = l.take 30 := by
            rcases Nat.lt_or_ge k l.length with h | h
            · have : k = 30 := by have := hstop h; omega
              rw [this]
            · rw [List.take_of_length_le h, List.take_of_length_le (by omega)]
          rw [e] at hfi
          exact hfi)
        clear hfi hlt
        rcases Nat.lt_or_ge k l.length with hc | hc
        · have h10 := hstop hc
          clear hstop
          go_wp2_with fail
          go_meet
          exact HFN.out
        · clear hstop
          go_wp2_with fail
          go_meet
          exact HFN.out
  case rest =>
    go_wp2_with fail
    go_ret2
    exact ⟨B, y, rfl, hcut⟩
end Go.Proofs.YtfoghahidofegaaGreat

namespace Go.Proofs.YtfoghahidofegaaGreat
open Go.RowKit Go.Maps

theorem qAll_good : ∀ c ∈ qAll, goodClause c := by
  intro c hc
  simp only [qAll, List.mem_cons, List.not_mem_nil, or_false] at hc
  rw [hc]; exact ⟨by simp, by simp⟩
theorem ev_in {l : List Event} (h : ∀ x ∈ l, goodEvent x) : ∀ x ∈ l, (∀ s ∈ x.tags, s.size ≤ maxLen) ∧ (mayE x = 0 → EvIn x) := fun x hx => ⟨(h x hx).2.2.1, fun h0 => have ho := (mayE_iff x).1 h0; ⟨(h x hx).1, (h x hx).2.1, (h x hx).2.2.1, fun q hq => ((h x hx).2.2.2 q hq).1, by have := ho.nt; omega, by have := ho.nf; omega⟩⟩
theorem since_nil (es : List Event) (a : Int) : sinceR es [] a = false := by
  unfold sinceR
  rw [List.any_eq_false]
  intro r _
  simp [matchM]
theorem query_in18 {w : World} {q : List Clause} {c0 : Array Value} (hq : kQuery.K (fun _ => True) w q c0.toList) : ∃ Q cq, c0 = #[.slice Q q.length cq] ∧ Sl kClause (fun k => True ∧ k < w.heap.size) w Q cq q := by
  obtain ⟨Q, cq, h0, h1, h2, h3⟩ := hq
  have : Sl kClause (fun _ => True) w Q cq q := ⟨h1, h2, h3⟩
  exact ⟨Q, cq, (by cases c0; simpa using h0), this.bound⟩
theorem since_mono {es : List Event} {q : List Clause} {a b : Int} (hab : a ≤ b) (h : sinceR es q b = true) : sinceR es q a = true := by
  unfold sinceR at *
  rw [List.any_eq_true] at *
  obtain ⟨r, hr, h⟩ := h
  rw [Bool.and_eq_true, decide_eq_true_eq] at h
  exact ⟨r, hr, by rw [Bool.and_eq_true, decide_eq_true_eq]; exact ⟨h.1, by omega⟩⟩
theorem since_len (es : List Event) (q : List Clause) : sinceR es q es.length = false := by
  unfold sinceR
  rw [List.any_eq_false]
  intro r hr
  have := (recsOf_mem hr).2.1
  simp
  omega
theorem few18_box (w : World) (cs : List Value) : Bx ((w.alloc (.cells cs.toArray 52)).alloc (.cells cs.toArray 52)) (w.heap.size + 1) 52 cs := by
  have := Bx.new (w.alloc (.cells cs.toArray 52)) 52 cs
  rwa [show (w.alloc (.cells cs.toArray 52)).heap.size = w.heap.size + 1 by simp] at this
set_option maxHeartbeats 4000000 in
set_option maxRecDepth 100000 in
theorem few18_any {w : World} (s : ByteArray) (v : Int) {q : List Clause} {Q : Option Addr} {cq : Nat} (hq : SlC w Q cq q) (b : Bool) :
    Calls Tryz.prog 23 #[.agg #[.string s, .int .i64 v, .slice Q q.length cq, .bool b]] w fun r w' => r = .returned (.agg #[.string s, .int .i64 v, .slice Q (q.take 8).length cq, .bool b]) ∧ Below w.heap.size w w' := by
  have hc := hq.1
  have hc2 := hq.2.1
  unfold maxLen at hc2
  clear hq
  have hbel : ∀ o : Obj, Below w.heap.size w ((w.alloc o).alloc o) := fun o => ((Below.refl _ _).alloc (Nat.le_refl _) o).alloc (by simp) o
  have HBE := Lib.hid hbel
  obtain ⟨n, hn⟩ : ∃ n, q.length = n := ⟨_, rfl⟩
  rw [List.length_take]
  rw [hn] at hc ⊢
  clear hn hbel
  by_cases h8 : 8 < n
  · rw [Nat.min_eq_left (by omega)]
    have HB := Lib.hid (few18_box w [.string s, .int .i64 v, .slice Q 8 cq, .bool b])
    have c0 := HB.out.cell 0
    have c1 := HB.out.cell 1
    have c2 := HB.out.cell 2
    have c3 := HB.out.cell 3
    simp only [List.getElem?_cons_succ, List.getElem?_cons_zero] at c0 c1 c2 c3
    have b1' : (8 : Int) ≤ (cq : Int) := by omega
    have b2' : 8 ≤ cq := by omega
    go_enter Tryz.func23, Tryz.ntmps23
    go_wp2_with fail
    exact bodyPost_ret (v := .agg #[.string s, .int .i64 v, .slice Q 8 cq, .bool b]) (by simp [results, Tryz.results23, go_sem, c0, c1, c2, c3]) rfl ⟨rfl, HBE.out _⟩
  · rw [Nat.min_eq_right (by omega)]
    have HB := Lib.hid (few18_box w [.string s, .int .i64 v, .slice Q n cq, .bool b])
    have c0 := HB.out.cell 0
    have c1 := HB.out.cell 1
    have c2 := HB.out.cell 2
    have c3 := HB.out.cell 3
    simp only [List.getElem?_cons_succ, List.getElem?_cons_zero] at c0 c1 c2 c3
    go_enter Tryz.func23, Tryz.ntmps23
    go_wp2_with fail
    exact bodyPost_ret (v := .agg #[.string s, .int .i64 v, .slice Q n cq, .bool b]) (by simp [results, Tryz.results23, go_sem, c0, c1, c2, c3]) rfl ⟨rfl, HBE.out _⟩
end Go.Proofs.YtfoghahidofegaaGreat

namespace Go.Proofs.YtfoghahidofegaaGreat
open Go.RowKit Go.Maps

abbrev Grd : Type := ByteArray × Int × List Clause × Bool
abbrev kGuard : Kn Grd := Kn.pair Kn.str (Kn.pair (Kn.int .i64) (Kn.pair kQuery Kn.bool))
abbrev goodGuard (g : Grd) : Prop := gS g.1 ∧ gN g.2.1 ∧ (∀ c ∈ g.2.2.1, goodClause c) ∧ True
theorem opGuard : Opens Tryz.prog 52 kGuard goodGuard :=
  Opens.struct (d := kGuard) (good := goodGuard) Tryz.underlying52 (by kernel_rfl)
    (OpensFs.cons (good := gS) (good' := fun (y : Int × List Clause × Bool) => gN y.1 ∧ (∀ c ∈ y.2.1, goodClause c) ∧ True) (d := Kn.str) opStr (by kernel_rfl)
      (OpensFs.cons (good := gN) (good' := fun (y : List Clause × Bool) => (∀ c ∈ y.1, goodClause c) ∧ True) (d := Kn.int .i64) opInt (by kernel_rfl)
        (OpensFs.cons (good := fun y : List Clause => ∀ c ∈ y, goodClause c) (good' := fun _ : Bool => True) (d := kQuery) opQuery (by kernel_rfl) (OpensFs.last (Opens.bool Tryz.underlying4) (by kernel_rfl)))))
theorem guard_in {w : World} {g : Grd} {c : Array Value} (h : kGuard.K (fun _ => True) w g c.toList) : ∃ Q cq, c = #[.string g.1, .int .i64 g.2.1, .slice Q g.2.2.1.length cq, .bool g.2.2.2] ∧ Sl kClause (fun k => k < w.heap.size) w Q cq g.2.2.1 := by
  obtain ⟨c0, c1, h0, h1, c2, c3, h2, h3, c4, c5, h4, h5, h6⟩ := h
  obtain ⟨Q, cq, h7, h8, h9, h10⟩ := h5
  have e0 : c0 = [.string g.1] := h1
  have e2 : c2 = [.int .i64 g.2.1] := h3
  have e5 : c5 = [.bool g.2.2.2] := h6
  have hs : Sl kClause (fun _ => True) w Q cq g.2.2.1 := ⟨h8, h9, h10⟩
  refine ⟨Q, cq, ?_, hs.bound.mono (fun _ h => h.2)⟩
  subst e0 e2 e5 h7 h4 h2
  cases c
  simpa using h0
theorem event_in18 {w : World} {e : Event} {c1 : Array Value} (he : kEvent.K (fun _ => True) w e c1.toList) : ∃ A ca B cb, c1 = #[.string e.stream, .string e.type, .slice A e.tags.length ca, .slice B e.fields.length cb] ∧
    Sl Kn.str (fun k => k < w.heap.size) w A ca e.tags ∧ Sl kField (fun k => k < w.heap.size) w B cb e.fields := by
  obtain ⟨A, ca, B, cb, h0, h1, h2⟩ := kEvent_out he
  exact ⟨A, ca, B, cb, (by cases c1; simpa using h0), h1.bound.mono (fun _ h => h.2), h2.bound.mono (fun _ h => h.2)⟩
theorem row_guard_at {ok : Nat → Prop} {w : World} {A : Option Addr} {xs : List Grd} (h : Row kGuard ok w A xs) {j : Nat} (hj : j < xs.length) :
    ∃ ad Q cq, A = some ad ∧ w.cell? (ad.add (j * 4)) = some (.string xs[j].1) ∧ w.cell? ⟨(ad.add (j * 4)).block, (ad.add (j * 4)).off + 1, none⟩ = some (.int .i64 xs[j].2.1) ∧
      w.cell? ⟨(ad.add (j * 4)).block, (ad.add (j * 4)).off + 2, none⟩ = some (.slice Q xs[j].2.2.1.length cq) ∧ w.cell? ⟨(ad.add (j * 4)).block, (ad.add (j * 4)).off + 3, none⟩ = some (.bool xs[j].2.2.2) ∧ Sl kClause ok w Q cq xs[j].2.2.1 := by
  obtain ⟨ad, cs, e, _, _, _, hk, hc⟩ := h.at_ hj
  obtain ⟨c0, c1, rfl, h1, c2, c3, rfl, h3, c4, c5, rfl, h5, h6⟩ := hk
  obtain ⟨Q, cq, h7, h8, h9, h10⟩ := h5
  have e0 : c0 = [.string xs[j].1] := h1
  have e2 : c2 = [.int .i64 xs[j].2.1] := h3
  have e5 : c5 = [.bool xs[j].2.2.2] := h6
  subst e0 e2 e5 h7
  have hs : kGuard.sz = 4 := rfl
  rw [hs] at hc
  have g : ∀ i u, 0 < i → [Value.string xs[j].1, .int .i64 xs[j].2.1, .slice Q xs[j].2.2.1.length cq, .bool xs[j].2.2.2][i]? = some u → w.cell? ⟨(ad.add (j * 4)).block, (ad.add (j * 4)).off + i, none⟩ = some u := fun i u hi hu => by
    have := hc i u hu
    rwa [add_field _ _ _ hi] at this
  exact ⟨ad, Q, cq, e, hc 0 _ rfl, g 1 _ (by omega) rfl, g 2 _ (by omega) rfl, g 3 _ (by omega) rfl, h8, h9, h10⟩
def holdsR (es : List Event) (g : Grd) : Bool := if g.2.2.2 then !sinceR es g.2.2.1 g.2.1 else decide ((verR es g.1 es.length : Int) = g.2.1)
def PredG1 (g : Nat) (lb : Array Value) (p : Grd → Bool) (w : World) (x : Grd) : Prop := ∀ (W : World) (Q : Option Addr) (cq : Nat), Below w.heap.size w W → SlC W Q cq x.2.2.1 →
  Calls Tryz.prog g (#[.agg #[.string x.1, .int .i64 x.2.1, .slice Q x.2.2.1.length cq, .bool x.2.2.2]] ++ lb) W fun e w' => e = .returned (.bool (p x)) ∧ Below W.heap.size W w'
set_option maxHeartbeats 1000000 in
theorem indexFuncG_in {A : Option Addr} {c : Nat} {xs : List Grd} {w : World} (h : Sl kGuard (fun _ => True) w A c xs) (g : Nat) (lb : Array Value) (p : Grd → Bool) (eg : ∀ (args : Array Value) (W : World), (callFunc g args).run Tryz.prog W = .ok (.enter g args) W) (hp : ∀ x ∈ xs, PredG1 g lb p w x) :
    Calls Tryz.prog 105 #[.slice A xs.length c, .func (.func g) #[] lb] w fun e w' => ∃ i : Int, e = .returned (.int .i64 i) ∧ Below w.heap.size w w' ∧ -1 ≤ i ∧ decide (0 ≤ i) = xs.any p := by
  obtain ⟨h1, h2, h3⟩ := h
  unfold maxLen at h2
  have HP := Lib.hid hp
  clear hp
  go_enter Tryz.func105, Tryz.ntmps105
  go_wp2
  go_loopw [8] (fun i wr => ∃ k : Nat, k ≤ xs.length ∧ i = .int .i64 k ∧ Hid ((xs.take k).any p = false) ∧ Below w.heap.size w wr) (fun i _ => xs.length - (intOf i).toNat)
  case atStart => exact ⟨0, Nat.zero_le _, rfl, by exact rfl, Below.refl _ _⟩
  case round =>
    obtain ⟨k, hk, rfl, hn, hb⟩ := hrel
    by_cases hlt : k < xs.length
    · obtain ⟨ad, Q, cq, rfl, hx, hy, hz, hu, hq⟩ := row_guard_at (h3.below hb) hlt
      have hmem := List.getElem_mem hlt
      have HQ := Lib.hid hq.any
      clear hq
      generalize hye : xs[k] = y at hx hy hz hu hmem HQ
      have HM := Lib.hid hmem
      clear hmem
      have HY := Lib.hid hye
      clear hye
      go_wp2_with fail
      refine (HP.out y HM.out wr Q cq hb HQ.out).mono ?_
      rintro e w1 ⟨rfl, hb1⟩
      cases hpy : p y
      · go_wp2
        go_roundw
        case rel => exact ⟨k + 1, by omega, by go_num, by show _ = false; rw [any_take_succ _ _ _ hlt, hn.out, HY.out, hpy]; rfl, bthen hb hb1⟩
        case measure => simp [intOf]; omega
      · go_wp2
        go_ret
        exact ⟨k, rfl, bthen hb hb1, by omega, by rw [any_of_at hlt (by rw [HY.out]; exact hpy)]; simp⟩
    · go_wp2
      go_ret
      obtain rfl : k = xs.length := by omega
      have h4 : (xs.take xs.length).any p = false := hn.out
      rw [List.take_length] at h4
      exact ⟨-1, rfl, hb, by omega, by rw [h4]; rfl⟩
theorem containsFuncG_in {A : Option Addr} {c : Nat} {xs : List Grd} {w : World} (h : Sl kGuard (fun _ => True) w A c xs) (g : Nat) (lb : Array Value) (p : Grd → Bool) (eg : ∀ (args : Array Value) (W : World), (callFunc g args).run Tryz.prog W = .ok (.enter g args) W) (hp : ∀ x ∈ xs, PredG1 g lb p w x) :
    Calls Tryz.prog 72 #[.slice A xs.length c, .func (.func g) #[] lb] w fun e w' => e = .returned (.bool (xs.any p)) ∧ Below w.heap.size w w' := by
  have H := Lib.hid (indexFuncG_in h g lb p eg hp)
  clear hp
  go_enter Tryz.func72, Tryz.ntmps72
  go_wp2_with fail
  refine H.out.mono ?_
  rintro e w' ⟨i, rfl, hb, h1, h2⟩
  have H2 := Lib.hid h2
  clear h2
  go_wp2
  go_ret
  exact ⟨ret_bool H2.out, hb⟩
set_option maxHeartbeats 1000000 in
theorem all1_any {w : World} {B : Six} {es : List Event} {X : Nat → Prop} (h : Ix w B es X) {b : Nat} (hb : w.cell? ⟨b, 0, none⟩ = some (.pointer (some ⟨B.b, 0, none⟩))) (g : Grd) (gg : g.1.size ≤ maxLen ∧ ∀ c ∈ g.2.2.1, goodClause c) {Q : Option Addr} {cq : Nat} (hq : SlC w Q cq g.2.2.1) :
    Calls Tryz.prog 75 #[.agg #[.string g.1, .int .i64 g.2.1, .slice Q g.2.2.1.length cq, .bool g.2.2.2], .pointer (some ⟨b, 0, none⟩)] w fun r w' => r = .returned (.bool (!holdsR es g)) ∧ Below w.heap.size w w' := by
  obtain ⟨s, v, q, a⟩ := g
  obtain ⟨W1, hW1⟩ : ∃ W1, W1 = w.alloc (.cells #[.string s, .int .i64 v, .slice Q q.length cq, .bool a] 52) := ⟨_, rfl⟩
  have HW1 := Lib.hid hW1
  have hb1 : Below w.heap.size w W1 := by rw [hW1]; exact (Below.refl _ _).alloc (Nat.le_refl _) _
  have hx : Bx W1 w.heap.size 52 [.string s, .int .i64 v, .slice Q q.length cq, .bool a] := by rw [hW1]; exact Bx.new w _ _
  have HB1 := Lib.hid hb1
  have C := Lib.hid (holds_any (h.below hb1) gg.1 (hq.below hb1) gg.2 v a)
  have k0 := hx.cell 0
  have k1 := hx.cell 1
  have k2 := hx.cell 2
  have k3 := hx.cell 3
  simp only [List.getElem?_cons_succ, List.getElem?_cons_zero] at k0 k1 k2 k3
  have kb := (hb1.cell (World.block_lt_of_cell? w _ hb)).trans hb
  unfold holdsR
  simp only
  obtain ⟨R, hR⟩ : ∃ R, (if a then !sinceR es q v else decide ((verR es s es.length : Int) = v)) = R := ⟨_, rfl⟩
  rw [hR] at C ⊢
  clear hR h gg hq hb1 hx hb
  go_enter Tryz.func75, Tryz.ntmps75
  go_upto_region 1 with fail
  rw [← HW1.out]
  clear hW1
  go_wp2_with (go_at_call 24; go_fit C.out; rintro r w2 ⟨rfl, hb2⟩; have HB2 := Lib.hid hb2; clear hb2)
  go_ret
  exact ⟨rfl, bthen HB1.out HB2.out⟩
set_option maxHeartbeats 1000000 in
theorem all_any {w : World} {B : Six} {es : List Event} {X : Nat → Prop} (h : Ix w B es X) {A : Option Addr} {c : Nat} {gs : List Grd} (hA : Sl kGuard (fun _ => True) w A c gs) (hg : ∀ g ∈ gs, g.1.size ≤ maxLen ∧ ∀ c ∈ g.2.2.1, goodClause c) :
    Calls Tryz.prog 26 #[.pointer (some ⟨B.b, 0, none⟩), .slice A gs.length c] w fun r w' => r = .returned (.bool (!gs.any (fun g => !holdsR es g))) ∧ Below w.heap.size w w' := by
  obtain ⟨W1, hW1⟩ : ∃ W1, W1 = w.alloc (.cells #[.pointer (some ⟨B.b, 0, none⟩)] 29) := ⟨_, rfl⟩
  have HW1 := Lib.hid hW1
  have hb1 : Below w.heap.size w W1 := by rw [hW1]; exact (Below.refl _ _).alloc (Nat.le_refl _) _
  have hx : Bx W1 w.heap.size 29 [.pointer (some ⟨B.b, 0, none⟩)] := by rw [hW1]; exact Bx.new w _ _
  have HB1 := Lib.hid hb1
  have H1 := Lib.hid (h.below hb1)
  have HX := Lib.hid hx
  have C := Lib.hid (containsFuncG_in (hA.below hb1) 75 #[.pointer (some ⟨w.heap.size, 0, none⟩)] (fun g => !holdsR es g) (fun args W => enters_of Tryz.func75 (by kernel_rfl) rfl args W)
    (fun x hx' W Q cq hW hQ => all1_any (H1.out.below hW) ((HX.out.under hW).cell 0) x (hg x hx') hQ))
  clear h hA hg hb1 hx
  go_enter Tryz.func26, Tryz.ntmps26
  go_upto_region 1 with fail
  rw [← HW1.out]
  clear hW1
  go_wp2_with (go_at_call 72; go_fit C.out; rintro r w2 ⟨rfl, hb2⟩; have HB2 := Lib.hid hb2; clear hb2)
  go_ret
  exact ⟨rfl, bthen HB1.out HB2.out⟩
end Go.Proofs.YtfoghahidofegaaGreat
