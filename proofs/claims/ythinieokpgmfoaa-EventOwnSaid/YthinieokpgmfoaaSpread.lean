/- append(v, ys...): an own row grown by a row that is read; a row of one element in a block of its own. Own work. -/
import Derived.Test.YthinieokpgmfoaaBox
import Derived.Laws.AppendOwnNone
set_option linter.unusedVariables false
set_option linter.unusedSimpArgs false
namespace Go.Proofs.Ythinieokpgmfoaa
open Go.RowKit

theorem pick_list {α β : Type} {R : Nat → α → β → Prop} : ∀ (ys : List α) (k : Nat), (∀ j y, ys[j]? = some y → ∃ c, R (k + j) y c) → ∃ cs : List β, cs.length = ys.length ∧ ∀ j y, ys[j]? = some y → ∃ c, cs[j]? = some c ∧ R (k + j) y c
  | [], _, _ => ⟨[], rfl, by simp⟩
  | y :: ys, k, h => by
    obtain ⟨c, hc⟩ := h 0 y rfl
    obtain ⟨cs, hl, hcs⟩ := pick_list (R := R) ys (k + 1) (fun j z hz => by have := h (j + 1) z hz; rwa [show k + (j + 1) = k + 1 + j by omega] at this)
    refine ⟨c :: cs, by simp [hl], fun j z hz => ?_⟩
    match j, hz with
    | 0, hz => simp at hz; subst hz; exact ⟨c, rfl, hc⟩
    | j + 1, hz =>
      obtain ⟨c', h1, h2⟩ := hcs j z (by simpa using hz)
      exact ⟨c', by simpa using h1, by rwa [show k + (j + 1) = k + 1 + j by omega]⟩

section
variable {α : Type} {d : Kn α} {P : Program} {ops : Array Oper} {rest : List Oper} {o : Oper} {a : Act} {Q : Exit → Act → World → Prop}
/-- The cells of a row, flat. -/
theorem Row.flat {ok : Nat → Prop} {w : World} {ad : Addr} {ys : List α} (hsz : 0 < d.sz) (h : Row d ok w (some ad) ys) :
    ∃ css : List (List Value), css.length = ys.length ∧ (∀ c ∈ css, c.length = d.sz) ∧ (∀ c ∈ css, ∀ u ∈ c, u.oneCell' = true) ∧ (∀ (j : Nat) (y : α), ys[j]? = some y → ∃ cs : List Value, css[j]? = some cs ∧ d.K ok w y cs) ∧
      ∀ (j : Nat) (u : Value), css.flatten[j]? = some u → w.cell? (ad.add j) = some u := by
  obtain ⟨css, hl, hc⟩ := pick_list (R := fun j y cs => cs.length = d.sz ∧ d.K ok w y cs ∧ ∀ i u, cs[i]? = some u → w.cell? (ad.add (j * d.sz + i)) = some u) ys 0 (fun j y hj => by
    have hlt := (List.getElem?_eq_some_iff.1 hj).1
    obtain ⟨ad', e, _, _, h3⟩ := h (by omega)
    injection e with e
    subst e
    obtain ⟨cs, h4, h5, h6⟩ := h3 j y hj
    exact ⟨cs, h4, h5, by rw [Nat.zero_add]; exact h6⟩)
  have hx : ∀ (j : Nat) (c : List Value), css[j]? = some c → ∃ y, ys[j]? = some y ∧ c.length = d.sz ∧ d.K ok w y c ∧ ∀ i u, c[i]? = some u → w.cell? (ad.add (j * d.sz + i)) = some u := by
    intro j c hj
    have hlt := (List.getElem?_eq_some_iff.1 hj).1
    have hy : ys[j]? = some ys[j] := List.getElem?_eq_getElem (by omega)
    obtain ⟨c', h1, h2, h3, h4⟩ := hc j _ hy
    rw [hj] at h1
    injection h1 with h1
    subst h1
    exact ⟨_, hy, h2, h3, by rw [Nat.zero_add] at h4; exact h4⟩
  refine ⟨css, hl, ?_, ?_, ?_, ?_⟩
  · intro c hm
    obtain ⟨j, hj⟩ := List.getElem?_of_mem hm
    obtain ⟨y, _, h1, _⟩ := hx j c hj
    exact h1
  · intro c hm
    obtain ⟨j, hj⟩ := List.getElem?_of_mem hm
    obtain ⟨y, _, _, h1, _⟩ := hx j c hj
    exact d.one h1
  · intro j y hj
    obtain ⟨c, h1, h2, h3, _⟩ := hc j y hj
    exact ⟨c, h1, h3⟩
  · intro j u hu
    have hall : ∀ c ∈ css, c.length = d.sz := by
      intro c hm
      obtain ⟨j, hj⟩ := List.getElem?_of_mem hm
      obtain ⟨y, _, h1, _⟩ := hx j c hj
      exact h1
    have hlt := (List.getElem?_eq_some_iff.1 hu).1
    have hlen : css.flatten.length = css.length * d.sz := by
      clear hu hlt hx hc hl
      induction css with
      | nil => simp
      | cons c css ih => rw [List.flatten_cons, List.length_append, hall c List.mem_cons_self, ih (fun c hc => hall c (List.mem_cons_of_mem _ hc)), List.length_cons, Nat.add_mul]; omega
    have hj : j / d.sz < css.length := Nat.div_lt_of_lt_mul (by rw [Nat.mul_comm]; omega)
    have hcj : css[j / d.sz]? = some css[j / d.sz] := List.getElem?_eq_getElem hj
    obtain ⟨y, _, h1, _, h2⟩ := hx _ _ hcj
    have hm : j % d.sz < css[j / d.sz].length := by rw [h1]; exact Nat.mod_lt _ hsz
    have hf := flat_at css hall _ _ _ _ hcj (List.getElem?_eq_getElem hm)
    rw [show j / d.sz * d.sz + j % d.sz = j by rw [Nat.mul_comm]; exact Nat.div_add_mod _ _] at hf
    rw [hf] at hu
    injection hu with hu
    subst hu
    have := h2 _ _ (List.getElem?_eq_getElem hm)
    rwa [show j / d.sz * d.sz + j % d.sz = j by rw [Nat.mul_comm]; exact Nat.div_add_mod _ _] at this

theorem Own.pushedN {e : TypeId} {base : Nat} {ok : Nat → Prop} {W w1 : World} {v v1 : Value} {xs ys : List α} {css' : List (List Value)} (h : Own d e base ok W v xs) (hl : css'.length = ys.length)
    (hs : ∀ c ∈ css', c.length = d.sz) (h1c : ∀ c ∈ css', ∀ u ∈ c, u.oneCell' = true) (hk : ∀ (j : Nat) (y : α), ys[j]? = some y → ∃ cs : List Value, css'[j]? = some cs ∧ d.K (fun k => ok k ∧ some k ≠ v.ownBlock) W y cs)
    (hrow : ∀ css : List (List Value), W.ownsRow base e d.sz v xs.length css.flatten → w1.ownsRow base e d.sz v1 (xs.length + ys.length) (css.flatten ++ css'.flatten)) (hg : W.grownBy w1 v.ownBlock) (hat : v1.ownBlock = v.ownBlock ∨ ∃ b, v1.ownBlock = some b ∧ W.heap.size ≤ b) :
    Own d e base ok w1 v1 (xs ++ ys) := by
  obtain ⟨css, h1, h2, h3, h4, h5⟩ := h
  have mv : ∀ (x : α) (c : List Value), d.K (fun k => ok k ∧ some k ≠ v.ownBlock) W x c → d.K (fun k => ok k ∧ some k ≠ v1.ownBlock) w1 x c := by
    intro x c hx
    have hb' := d.move (w' := w1) hg.size (fun k hk => hg.block k hk.2 hk.1.2) (d.bound hx)
    refine d.mono (fun k hk => ⟨hk.1.1, ?_⟩) hb'
    rcases hat with e1 | ⟨b, e1, hlt⟩
    · rw [e1]; exact hk.1.2
    · rw [e1]
      intro e2
      have : k = b := by injection e2
      have := hk.2
      omega
  refine ⟨css ++ css', ?_, by simp [h2, hl], ?_, ?_, ?_⟩
  · have := hrow css h1
    simpa using this
  · intro c hc
    rcases List.mem_append.1 hc with hc | hc
    · exact h3 c hc
    · exact hs c hc
  · intro c hc
    rcases List.mem_append.1 hc with hc | hc
    · exact h4 c hc
    · exact h1c c hc
  · intro j x hj
    rcases Nat.lt_or_ge j xs.length with hlt | hge
    · rw [List.getElem?_append_left hlt] at hj
      obtain ⟨c, hc, hx⟩ := h5 j x hj
      exact ⟨c, by rw [List.getElem?_append_left (by omega)]; exact hc, mv _ _ hx⟩
    · rw [List.getElem?_append_right hge] at hj
      obtain ⟨c, hc, hx⟩ := hk _ x hj
      exact ⟨c, by rw [List.getElem?_append_right (by omega), h2]; exact hc, mv _ _ hx⟩

theorem run_append_owned_none' {w : World} (base : Nat) (t ty e : TypeId) (i : TypeInfo) (size : Nat) (ht : P.underlying t = some (.slice e)) (hi : P.info? e = some i)
    (v : Value) (n c : Nat) (xs : List Value) (hown : w.ownsRow base e size v n xs) :
    (Builtin.append_ #[t, t] ty #[v, .slice none 0 c]).run P w = .ok v w := by
  rcases hown.2 with ⟨rfl, rfl⟩ | ⟨g, cap, cur, rfl, _, _, hnc, _⟩
  · simp [Builtin.append_, run_underlying ht, sizeOf, typeInfo, hi, Builtin.lenOf, Builtin.firstCells]
  · simp [Builtin.append_, run_underlying ht, sizeOf, typeInfo, hi, Builtin.lenOf, Builtin.firstCells, hnc, storeCells]

/-- 'append(v, ys...)'. -/
theorem wpList_spread {W : World} (hgd : o.guard = none) (s x : Operand) (t : TypeId)
    (ho : o.op = .call { callee := .builtin .append, args := #[s, x], argTypes := #[t, t] })
    (e : TypeId) (z : Value) (size bytes : Nat) (ht : P.underlying t = some (.slice e)) (hinfo : (P.info? e).map (fun i => (i.zero, i.size, i.bytes)) = some (some z, size, bytes)) (hz : z.cells.size = size) (hs0 : 0 < size) (hb0 : 0 < bytes)
    (hd : d.sz = size) (base : Nat) (ok : Nat → Prop) (v : Value) (xs : List α) (hs : a.eval s = v) (hown : Own d e base ok W v xs) (ys : List α) (B : Option Addr) (c : Nat) (hk : Row d (fun k => ok k ∧ some k ≠ v.ownBlock) W B ys)
    (hx : a.eval x = .slice B ys.length c) (hbase : base ≤ W.heap.size) (hl : (xs.length + ys.length) * bytes ≤ 140737488355328)
    (h : ∀ v1 w1, Own d e base ok w1 v1 (xs ++ ys) → W.grownBy w1 v.ownBlock → (v1.ownBlock = v.ownBlock ∨ v1.ownBlock = some W.heap.size) → (∀ w0 : World, Below base w0 W → Below base w0 w1) → wpList P ops Q rest (a.put o.dst v1) w1) :
    wpList P ops Q (o :: rest) a W := by
  obtain ⟨i0, hi, hzz⟩ := Option.map_eq_some_iff.1 hinfo
  simp only [Prod.mk.injEq] at hzz
  obtain ⟨hz0, hz1, hz2⟩ := hzz
  subst hd
  cases B with
  | none =>
    have hy : ys = [] := by
      cases ys with
      | nil => rfl
      | cons y ys =>
        obtain ⟨ad, e1, _⟩ := hk (by simp)
        cases e1
    subst hy
    have hown' := hown
    obtain ⟨css, h1, h2, h3, h4, h5⟩ := hown'
    refine wpList_plain hgd fun K hK => ?_
    have hrun := run_append_owned_none' (P := P) (w := W) base t o.type e i0 d.sz ht hi v xs.length c css.flatten h1
    unfold Oper.wp
    simp only [execOp, ho, resolve, invoke, builtin, Sem.run_bind, Sem.run_pure, Result.andThen_ok, List.map_toArray, List.map_cons, List.map_nil, hs, hx, List.length_nil, hrun]
    exact hK _ _ (h v W (by simpa using hown) ⟨rfl, rfl, rfl, Nat.le_refl _, fun _ _ _ => rfl⟩ (.inl rfl) (fun _ hb => hb))
  | some ad =>
    have hlen : xs.length + ys.length ≤ 140737488355328 := Nat.le_trans (Nat.le_mul_of_pos_right _ hb0) hl
    obtain ⟨css', hl', hs', h1', hk', hn'⟩ := Row.flat hs0 hk
    have hfl : css'.flatten.length = ys.length * d.sz := by
      rw [← hl']
      clear hl' h1' hk' hn'
      induction css' with
      | nil => simp
      | cons c css ih => rw [List.flatten_cons, List.length_append, hs' c List.mem_cons_self, ih (fun c hc => hs' c (List.mem_cons_of_mem _ hc)), List.length_cons, Nat.add_mul]; omega
    obtain ⟨css, h1, h2, h3, h4, h5⟩ := hown
    refine wpList_append_own_at W hgd s x t ho base e i0 z d.sz bytes ht hi hz0 hz1 hz2 hz hs0 v xs.length css.flatten hs h1 ad ys.length c css'.flatten hx hfl hn'
      (fun u hu => by obtain ⟨c, hc, hu⟩ := List.mem_flatten.1 hu; exact h1' c hc u hu) (by simp only [maxLen]; omega) hl hbase ?_
    intro v1 w1 hown' hg _ hat
    refine h v1 w1 ?_ hg hat (fun w0 hb => ⟨hg.os.trans hb.os, hg.tape.trans hb.tape, hg.output.trans hb.output, Nat.le_trans hb.size hg.size, fun k hk => (hg.block k (by have := hb.size; omega) (fun e1 => by
      have := own_base h1 k e1.symm
      omega)).trans (hb.block k hk)⟩)
    refine Own.pushedN ⟨css, h1, h2, h3, h4, h5⟩ hl' hs' h1' hk' (fun css2 hcss2 => ?_) hg (hat.imp id (fun e1 => ⟨_, e1, Nat.le_refl _⟩))
    have : css2.flatten = css.flatten := by
      rcases h1.2 with ⟨_, hn⟩ | ⟨g, cap, cur, hv, _, hh, _, _, _, ht1⟩
      · have a1 := h1.1; have a2 := hcss2.1
        rw [hn, Nat.zero_mul] at a1 a2
        rw [List.eq_nil_of_length_eq_zero a1, List.eq_nil_of_length_eq_zero a2]
      · rcases hcss2.2 with ⟨hv', _⟩ | ⟨g', cap', cur', hv', _, hh', _, _, _, ht2⟩
        · rw [hv] at hv'; cases hv'
        · rw [hv] at hv'
          injection hv' with e1 e2 e3
          injection e1 with e1
          injection e1 with e1
          subst e1
          rw [hh] at hh'
          injection hh' with hh'
          injection hh' with e4
          subst e4
          rw [← ht1, ← ht2]
    rw [this]
    exact hown'

/-- The same, the length spelled otherwise. -/
theorem wpList_spreadN {W : World} (hgd : o.guard = none) (s x : Operand) (t : TypeId)
    (ho : o.op = .call { callee := .builtin .append, args := #[s, x], argTypes := #[t, t] })
    (e : TypeId) (z : Value) (size bytes : Nat) (ht : P.underlying t = some (.slice e)) (hinfo : (P.info? e).map (fun i => (i.zero, i.size, i.bytes)) = some (some z, size, bytes)) (hz : z.cells.size = size) (hs0 : 0 < size) (hb0 : 0 < bytes)
    (hd : d.sz = size) (base : Nat) (ok : Nat → Prop) (v : Value) (xs : List α) (hs : a.eval s = v) (hown : Own d e base ok W v xs) (ys : List α) (n : Nat) (hn : ys.length = n) (B : Option Addr) (c : Nat) (hk : Row d (fun k => ok k ∧ some k ≠ v.ownBlock) W B ys)
    (hx : a.eval x = .slice B n c) (hbase : base ≤ W.heap.size) (hl : (xs.length + ys.length) * bytes ≤ 140737488355328)
    (h : ∀ v1 w1, Own d e base ok w1 v1 (xs ++ ys) → W.grownBy w1 v.ownBlock → (v1.ownBlock = v.ownBlock ∨ v1.ownBlock = some W.heap.size) → (∀ w0 : World, Below base w0 W → Below base w0 w1) → wpList P ops Q rest (a.put o.dst v1) w1) :
    wpList P ops Q (o :: rest) a W := by
  subst hn
  exact wpList_spread hgd s x t ho e z size bytes ht hinfo hz hs0 hb0 hd base ok v xs hs hown ys B c hk hx hbase hl h
/-- '[]T{y}' of a many-celled element, in the block just made. -/
theorem Sl.one {ok : Nat → Prop} {w : World} {y : α} {cs : List Value} (e : TypeId) (hk : d.K ok w y cs) (H : Nat) (hH : w.heap.size = H) : Sl d (fun k => ok k ∨ H ≤ k) (w.alloc (.cells cs.toArray e)) (some ⟨H, 0, none⟩) 1 [y] := by
  subst hH
  refine ⟨Nat.le_refl _, by simp [maxLen], fun _ => ⟨_, rfl, .inr (Nat.le_refl _), by simp, fun j x hj => ?_⟩⟩
  match j, hj with
  | 0, hj =>
    simp at hj
    subst hj
    refine ⟨cs, d.len hk, d.mono (fun _ h => .inl h) (d.below hk ((Below.refl _ _).alloc (Nat.le_refl _) _)), fun i u hu => ?_⟩
    rw [Nat.zero_mul, Nat.zero_add]
    have := World.news_of_block (cs := cs.toArray) (t := e) (fr := (0, 0)) (heap_alloc_new w (.cells cs.toArray e)) i u (by simpa using hu)
    exact this
end
end Go.Proofs.Ythinieokpgmfoaa
