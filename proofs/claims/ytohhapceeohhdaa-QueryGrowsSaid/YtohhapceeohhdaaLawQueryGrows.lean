/- QueryGrows: the law's walk. -/
import Derived.Test.YtohhapceeohhdaaHead06
import Derived.Test.YtohhapceeohhdaaStep2
set_option linter.unusedVariables false
set_option linter.unusedSimpArgs false
namespace Go.Proofs.Ytohhapceeohhdaa
open Go.RowKit

/-- The head with a third box: a clause in it. -/
structure H06c (w : World) (q : List Clause) (e : Event) (B : Option Addr) (cb : Nat) (x : Clause) (S : Option Addr) (sa : Nat) (U : Option Addr) (ua : Nat) (W : World) (A : Option Addr) (c : Nat) (T : Option Addr) (ct : Nat) : Prop where
  h : H06 w q e B cb W A c T ct
  bc : Bx W (w.heap.size + 1 + 1) 36 [.slice S x.tags.length sa, .slice U x.types.length ua]
  ss : Sl Kn.str (fun k => k < w.heap.size) W S sa x.tags
  su : Sl Kn.str (fun k => k < w.heap.size) W U ua x.types
theorem clause_in {w : World} {x : Clause} {c2 : Array Value} (hx : kClause.K (fun _ => True) w x c2.toList) : ∃ S sa U ua, c2 = #[.slice S x.tags.length sa, .slice U x.types.length ua] ∧ Sl Kn.str (fun k => True ∧ k < w.heap.size) w S sa x.tags ∧ Sl Kn.str (fun k => True ∧ k < w.heap.size) w U ua x.types := by
  obtain ⟨S, sa, U, ua, h0, h1, h2⟩ := kClause_out hx
  exact ⟨S, sa, U, ua, toL2 h0, h1.bound, h2.bound⟩
theorem H06c.under {w : World} {q : List Clause} {e : Event} {B : Option Addr} {cb : Nat} {x : Clause} {S : Option Addr} {sa : Nat} {U : Option Addr} {ua : Nat} {W W' : World} {A : Option Addr} {c : Nat} {T : Option Addr} {ct : Nat} (h : H06c w q e B cb x S sa U ua W A c T ct) (hb : Below W.heap.size W W') : H06c w q e B cb x S sa U ua W' A c T ct :=
  ⟨h.h.under hb, h.bc.under hb, h.ss.below hb, h.su.below hb⟩
/-- The three boxes made; shown and few called; few's result stored. -/
theorem H06c.few {w w1 w2 : World} {q : List Clause} {e : Event} {x : Clause} {Q A T B S U : Option Addr} {cq c ct cb sa ua : Nat} (hT : Sl Kn.str (fun k => True ∧ k < w.heap.size) w T ct e.tags) (hS : Sl Kn.str (fun k => True ∧ k < w.heap.size) w S sa x.tags) (hU : Sl Kn.str (fun k => True ∧ k < w.heap.size) w U ua x.types)
    (hb1 : Below (w.heap.size + 1 + 1 + 1) (((w.alloc (.cells #[.slice Q q.length cq] 30)).alloc (.cells #[.string e.stream, .string e.type, .slice T e.tags.length ct, .slice B e.fields.length cb] 34)).alloc (.cells #[.slice S x.tags.length sa, .slice U x.types.length ua] 36)) w1)
    (hs : Sl kClause (fun k => (True ∧ k < w.heap.size) ∨ w1.heap.size ≤ k) w2 A c (fewM q)) (hb2 : Below w1.heap.size w1 w2) :
    H06c w (fewM q) e B cb x S sa U ua (w2.setCell ⟨w.heap.size, 0, none⟩ (.slice A (fewM q).length c)) A c T ct := by
  have hsz := hb1.size
  simp at hsz
  have hbx : Bx w1 w.heap.size 30 [.slice Q q.length cq] := (((Bx.new w 30 [.slice Q q.length cq]).alloc _).alloc _).below hb1 (by omega)
  have hbe : Bx w1 (w.heap.size + 1) 34 [.string e.stream, .string e.type, .slice T e.tags.length ct, .slice B e.fields.length cb] := by
    have := Bx.new (w.alloc (.cells #[.slice Q q.length cq] 30)) 34 [.string e.stream, .string e.type, .slice T e.tags.length ct, .slice B e.fields.length cb]
    rw [show (w.alloc (.cells #[.slice Q q.length cq] 30)).heap.size = w.heap.size + 1 by simp] at this
    exact (this.alloc _).below hb1 (by omega)
  have hbc : Bx w1 (w.heap.size + 1 + 1) 36 [.slice S x.tags.length sa, .slice U x.types.length ua] := by
    have := Bx.new ((w.alloc (.cells #[.slice Q q.length cq] 30)).alloc (.cells #[.string e.stream, .string e.type, .slice T e.tags.length ct, .slice B e.fields.length cb] 34)) 36 [.slice S x.tags.length sa, .slice U x.types.length ua]
    rw [show ((w.alloc (.cells #[.slice Q q.length cq] 30)).alloc (.cells #[.string e.stream, .string e.type, .slice T e.tags.length ct, .slice B e.fields.length cb] 34)).heap.size = w.heap.size + 1 + 1 by simp] at this
    exact this.below hb1 (by omega)
  have up : ∀ (A0 : Option Addr) (c0 : Nat) {A : Option Addr} {c : Nat} {l : List ByteArray}, Sl Kn.str (fun k => True ∧ k < w.heap.size) w A c l → Sl Kn.str (fun k => k < w.heap.size) (w2.setCell ⟨w.heap.size, 0, none⟩ (.slice A0 (fewM q).length c0)) A c l := fun A0 c0 {A c l} h =>
    (((((((h.alloc _).alloc _).alloc _).stay (by simpa using hb1.size) (fun k hk hl => hb1.block k (by omega))).below hb2)).setCell (fun k hk => by simp; omega) _).mono (fun k hk => hk.2)
  refine ⟨⟨(hbx.under hb2).set 0 _, (hbe.under hb2).far (by simp) _, (hs.setCell (fun k hk => by simp; omega) _).mono (fun k hk => by omega), up _ _ hT, ?_⟩, (hbc.under hb2).far (by simp; omega) _, up _ _ hS, up _ _ hU⟩
  refine Below.setCell ?_ (by simp) _
  refine Below.trans ?_ (hb2.mono (by omega))
  exact ((((Below.refl w.heap.size w).alloc (Nat.le_refl _) _).alloc (by simp) _).alloc (by simp; omega) _).trans (hb1.mono (by omega))
theorem H06c.cut {w W : World} {q : List Clause} {e : Event} {B A T : Option Addr} {cb c ct : Nat} {x : Clause} {S : Option Addr} {sa : Nat} {U : Option Addr} {ua : Nat} (h : H06c w q e B cb x S sa U ua W A c T ct) (h20 : 20 < e.tags.length) :
    H06c w q (cutE e) B cb x S sa U ua (W.setCell ⟨w.heap.size + 1, 2, none⟩ (.slice T 20 ct)) A c T ct :=
  ⟨h.h.cut h20, h.bc.far (by simp) _, h.ss.setCell (fun k hk => by simp; omega) _, h.su.setCell (fun k hk => by simp; omega) _⟩
theorem H06c.keep {w W : World} {q : List Clause} {e : Event} {B A T : Option Addr} {cb c ct : Nat} {x : Clause} {S : Option Addr} {sa : Nat} {U : Option Addr} {ua : Nat} (h : H06c w q e B cb x S sa U ua W A c T ct) (h20 : ¬ 20 < e.tags.length) : H06c w q (cutE e) B cb x S sa U ua W A c T ct :=
  ⟨h.h.keep h20, h.bc, h.ss, h.su⟩

/-! What the law says, in plain terms. -/
def ax : ByteArray := ⟨#[97, 58, 120]⟩
def addT (c : Clause) : Clause := ⟨c.tags ++ [ax], c.types⟩
theorem mAppend (a b : List Clause) (e : Event) : matchM (a ++ b) e = (matchM a e || matchM b e) := by simp [matchM]
theorem mAdd (q : List Clause) (e : Event) (h : matchM (q.map addT) e = true) : matchM q e = true := by
  unfold matchM at h ⊢
  rw [List.any_map] at h
  rw [List.any_eq_true] at h ⊢
  obtain ⟨c, hc, h⟩ := h
  refine ⟨c, hc, ?_⟩
  simp only [Function.comp, clauseM, addT, List.all_append, Bool.and_eq_true] at h ⊢
  exact ⟨h.1.1, h.2⟩
theorem mStep (e : Event) (q : List Clause) (k : Nat) (x : Clause) (h : q[k]? = some x) : matchM (q.take (k + 1)) e = (matchM (q.take k) e || matchM [x] e) := by
  obtain ⟨hk, rfl⟩ := List.getElem?_eq_some_iff.1 h
  unfold matchM
  rw [any_take_succ _ _ _ hk]; simp

theorem below_made {B : Nat} {a w : World} (h : Below B a w) (hB : B ≤ a.heap.size) (o : Obj) : Below B a (w.alloc o) := h.alloc (Nat.le_trans hB h.size) o
theorem box_grown {t : TypeId} {cs : List Value} {W w1 : World} {b : Nat} {v v1 : Value} (hx : Bx W b t cs) (hn : v.ownBlock ≠ some b) (hg : W.grownBy w1 v.ownBlock) (hat : v1.ownBlock = v.ownBlock ∨ v1.ownBlock = some W.heap.size) : Bx w1 b t cs ∧ v1.ownBlock ≠ some b := by
  refine ⟨hx.grown hg (fun e => hn e.symm), ?_⟩
  rcases hat with h | h
  · rw [h]; exact hn
  · rw [h]
    intro e
    injection e with e
    have := hx.lt
    omega
theorem Own.lit_at {α : Type} {d : Kn α} {e : TypeId} {base : Nat} {ok : Nat → Prop} {W : World} {b : Nat} (h : W.heap[b]? = some (.cells #[] e (0, 0))) (hb : base ≤ b) : Own d e base ok W (.slice (some ⟨b, 0, none⟩) 0 0) [] :=
  ⟨[], ⟨by simp, .inr ⟨b, 0, #[], rfl, hb, h, by simp, by simp [maxLen], by simp, by simp⟩⟩, rfl, by simp, by simp, by simp⟩
section
variable {α : Type} {d : Kn α} {P : Program} {ops : Array Oper} {rest : List Oper} {o : Oper} {a : Act} {Q : Exit → Act → World → Prop}
/-- The same, in any world that stands above X. -/
theorem step_spreadX {W : World} {K : Act → World → Prop} {E : Prop} (hgd : o.guard = none) (s x : Operand) (t : TypeId)
    (ho : o.op = .call { callee := .builtin .append, args := #[s, x], argTypes := #[t, t] })
    (e : TypeId) (z : Value) (size bytes : Nat) (ht : P.underlying t = some (.slice e)) (hinfo : (P.info? e).map (fun i => (i.zero, i.size, i.bytes)) = some (some z, size, bytes)) (hz : z.cells.size = size) (hs0 : 0 < size) (hb0 : 0 < bytes)
    (hd : d.sz = size) (X : World) (v : Value) (xs : List α) (hs : a.eval s = v) (hown : Own d e X.heap.size (fun k => k < X.heap.size) W v xs) (ys : List α) (B : Option Addr) (c : Nat) (hrow : ∀ W, Below X.heap.size X W → Row d (fun k => k < X.heap.size) W B ys)
    (R : Prop) (hB : Below X.heap.size X W ∧ R) (hx : a.eval x = .slice B ys.length c) (hl : (xs.length + ys.length) * bytes ≤ 140737488355328)
    (h : ∀ v1 w1, Own d e X.heap.size (fun k => k < X.heap.size) w1 v1 (xs ++ ys) → W.grownBy w1 v.ownBlock → (v1.ownBlock = v.ownBlock ∨ v1.ownBlock = some W.heap.size) → Below X.heap.size X w1 → K (a.put o.dst v1) w1) :
    if Region.wanted o (yielded ops a.tmps) = true then Oper.wp P o a W K Q else E :=
  step_spread hgd s x t ho e z size bytes ht hinfo hz hs0 hb0 hd X.heap.size _ v xs hs hown ys B c ((hrow W hB.1).mono (fun k hk => ⟨hk, fun e1 => by have := hown.base_le k e1.symm; omega⟩)) hx hB.1.size hl (fun v1 w1 h1 h2 h3 h4 => h v1 w1 h1 h2 h3 (h4 X hB.1))
end
theorem rowX {α : Type} {d : Kn α} {X W : World} {A : Option Addr} {xs : List α} {ok : Nat → Prop} (h : Row d ok X A xs) (hk : ∀ k, ok k → k < X.heap.size) (hb : Below X.heap.size X W) : Row d (fun k => k < X.heap.size) W A xs := (h.below hb).mono hk
theorem two_old (X : World) (o o' : Obj) : ((X.alloc o).alloc o').heap[X.heap.size]? = some o := by
  have h := (Below.refl (X.alloc o).heap.size (X.alloc o)).alloc (Nat.le_refl _) o'
  exact (h.block X.heap.size (by simp)).trans (heap_alloc_new X o)
theorem own_slC {α : Type} {d : Kn α} {e : TypeId} {base : Nat} {ok : Nat → Prop} {w : World} {A : Option Addr} {n c : Nat} {xs : List α} (h : Own d e base ok w (.slice A n c) xs) : Sl d (fun _ => True) w A c xs := by
  obtain ⟨A', c', hv, hs⟩ := h.sl
  simp only [Value.slice.injEq] at hv
  obtain ⟨rfl, _, rfl⟩ := hv
  exact hs.any
theorem kept6 {w : World} {q : List Clause} {e : Event} {B : Option Addr} {cb : Nat} {X : World} {A : Option Addr} {c : Nat} {T : Option Addr} {ct : Nat} (h : H06 w q e B cb X A c T ct) {g n c1 : Nat} {A1 : Option Addr} (h1 : Bx X g 30 [.slice A1 n c1]) {W : World} (hb : Below X.heap.size X W) :
    Below X.heap.size X W ∧ W.cell? ⟨w.heap.size, 0, none⟩ = some (.slice A q.length c) ∧ W.cell? ⟨g, 0, none⟩ = some (.slice A1 n c1) :=
  ⟨hb, (h.bq.under hb).cell 0, (h1.under hb).cell 0⟩
/-- At a round's head: none in block g0. -/
structure GrowsAt (w : World) (q : List Clause) (e : Event) (B : Option Addr) (cb : Nat) (A : Option Addr) (c : Nat) (T : Option Addr) (ct : Nat) (g0 k : Nat) (v : Value) (wr : World) : Prop where
  bq : Bx wr w.heap.size 30 [.slice A q.length c]
  be : Bx wr (w.heap.size + 1) 34 [.string e.stream, .string e.type, .slice T e.tags.length ct, .slice B e.fields.length cb]
  bn : Bx wr g0 30 [v]
  sq : Sl kClause (fun k => (k < w.heap.size ∨ w.heap.size + 2 ≤ k) ∧ k < g0) wr A c q
  st : Sl Kn.str (fun k => k < w.heap.size) wr T ct e.tags
  own : Own kClause 36 (g0 + 1) (fun j => j ≠ g0) wr v ((q.take k).map addT)
  lo : w.heap.size + 2 ≤ g0
  size : g0 + 1 ≤ wr.heap.size
  bel : Below w.heap.size w wr
theorem GrowsAt.start {w wc : World} {q : List Clause} {e : Event} {B A T : Option Addr} {cb c ct : Nat} (h : H06 w q e B cb wc A c T ct) :
    GrowsAt w q e B cb A c T ct wc.heap.size 0 (.slice none 0 0) (wc.alloc (.cells #[.slice none 0 0] 30)) := by
  have hlo : w.heap.size + 2 ≤ wc.heap.size := by have := h.be.lt; omega
  exact ⟨h.bq.alloc _, h.be.alloc _, Bx.new _ _ _, h.sq.bound.alloc _, h.st.alloc _, Own.nil_ _ _ _ _ _, hlo, by simp, h.bel.alloc (by omega) _⟩
theorem GrowsAt.step {w : World} {q : List Clause} {e : Event} {B A T : Option Addr} {cb c ct : Nat} {g0 k : Nat} {v v1 : Value} {wr W w1 : World} (h : GrowsAt w q e B cb A c T ct g0 k v wr) (hb : Below wr.heap.size wr W)
    (hg : W.grownBy w1 v.ownBlock) (x : Clause) (hxe : q[k]? = some x) (hown : Own kClause 36 (g0 + 1) (fun j => j ≠ g0) w1 v1 ((q.take k).map addT ++ [addT x])) :
    GrowsAt w q e B cb A c T ct g0 (k + 1) v1 (w1.setCell ⟨g0, 0, none⟩ v1) := by
  have hs := h.size
  have hlo := h.lo
  have hv : ∀ j, v.ownBlock = some j → g0 + 1 ≤ j := h.own.base_le
  have hne : ∀ j, j < g0 + 1 → some j ≠ v.ownBlock := fun j hj e => by have := hv j e.symm; omega
  have hbl : ∀ j, j < g0 + 1 → w1.heap[j]? = wr.heap[j]? := fun j hj => (hg.block j (by have := hb.size; omega) (hne j hj)).trans (hb.block j (by omega))
  have hsz : wr.heap.size ≤ w1.heap.size := Nat.le_trans hb.size hg.size
  obtain ⟨hj, hy⟩ := List.getElem?_eq_some_iff.1 hxe
  subst hy
  refine ⟨?_, ?_, ?_, ?_, ?_, ?_, hlo, ?_, ?_⟩
  · exact (h.bq.stay (fun _ => hbl _ (by omega))).far (by simp; omega) _
  · exact (h.be.stay (fun _ => hbl _ (by omega))).far (by simp; omega) _
  · exact (h.bn.stay (fun _ => hbl _ (by omega))).set 0 v1
  · exact (h.sq.stay hsz (fun j hj _ => hbl j (by omega))).setCell (fun j hj => by simp; omega) _
  · exact (h.st.stay hsz (fun j hj _ => hbl j (by omega))).setCell (fun j hj => by simp; omega) _
  · have : (q.take (k + 1)).map addT = (q.take k).map addT ++ [addT q[k]] := by rw [List.take_succ_eq_append_getElem hj, List.map_append]; rfl
    rw [this]
    exact hown.setCell (fun j hj => hj) (fun j hj => by have := hown.base_le j hj; simp; omega) _
  · simp [World.setCell]; omega
  · refine Below.setCell ?_ (by simp; omega) _
    exact ⟨hg.os.trans (hb.os.trans h.bel.os), hg.tape.trans (hb.tape.trans h.bel.tape), hg.output.trans (hb.output.trans h.bel.output), Nat.le_trans h.bel.size hsz, fun j hj => (hbl j (by omega)).trans (h.bel.block j hj)⟩
theorem Own.bound {α : Type} {d : Kn α} {e : TypeId} {base : Nat} {ok : Nat → Prop} {w : World} {v : Value} {xs : List α} (h : Own d e base ok w v xs) : Own d e base (fun k => ok k ∧ k < w.heap.size) w v xs := by
  obtain ⟨css, h1, h2, h3, h4, h5⟩ := h
  refine ⟨css, h1, h2, h3, h4, fun j x hj => ?_⟩
  obtain ⟨cs, h6, h7⟩ := h5 j x hj
  exact ⟨cs, h6, d.mono (fun k hk => ⟨⟨hk.1.1, hk.2⟩, hk.1.2⟩) (d.bound h7)⟩
theorem match15 {R : World} {e : Event} {T : Option Addr} {ct : Nat} {B : Option Addr} {cb : Nat} {ok : Nat → Prop} (ht : Sl Kn.str ok R T ct e.tags) {x : Clause} {S U : Option Addr} {sa ua : Nat} (hs : SlS R S sa x.tags) (hu : SlS R U ua x.types) {H : Nat} (hH : R.heap.size = H) :
    Calls Try.prog 44 #[.agg #[.slice (some ⟨H, 0, none⟩) 1 1], .agg #[.string e.stream, .string e.type, .slice T e.tags.length ct, .slice B e.fields.length cb]] (R.alloc (.cells #[.slice S x.tags.length sa, .slice U x.types.length ua] 36)) fun r w' => r = .returned (.bool (matchM [x] e)) ∧ Below H R w' := by
  subst hH
  exact (Match_any (q := [x]) (Sl.one 36 (kClause_mk hs hu) R.heap.size rfl).any (ht.any.alloc _)).mono (fun r w' h => ⟨h.1, bthen ((Below.refl _ R).alloc (Nat.le_refl _) _) h.2⟩)
theorem kept18 {w : World} {q : List Clause} {e : Event} {B A T V : Option Addr} {cb c ct cv n : Nat} {g0 k : Nat} {wr : World} (h : GrowsAt w q e B cb A c T ct g0 k (.slice V n cv) wr) {W : World} (hb : Below wr.heap.size wr W) :
    Below wr.heap.size wr W ∧ W.cell? ⟨w.heap.size, 0, none⟩ = some (.slice A q.length c) ∧ W.cell? ⟨g0, 0, none⟩ = some (.slice V n cv) ∧
      W.cell? ⟨w.heap.size + 1, 0, none⟩ = some (.string e.stream) ∧ W.cell? ⟨w.heap.size + 1, 1, none⟩ = some (.string e.type) ∧ W.cell? ⟨w.heap.size + 1, 2, none⟩ = some (.slice T e.tags.length ct) ∧ W.cell? ⟨w.heap.size + 1, 3, none⟩ = some (.slice B e.fields.length cb) :=
  ⟨hb, (h.bq.under hb).cell 0, (h.bn.under hb).cell 0, (h.be.under hb).cell 0, (h.be.under hb).cell 1, (h.be.under hb).cell 2, (h.be.under hb).cell 3⟩
theorem few_tags (q : List Clause) (k : Nat) (x : Clause) (h : (fewM q)[k]? = some x) : x.tags.length ≤ 8 := by
  have hm := List.mem_of_getElem? h
  unfold fewM at hm
  obtain ⟨c, _, rfl⟩ := List.mem_map.1 hm
  simp [cutC]; omega
theorem infoStr : (Try.prog.info? 9).map (fun i => (i.zero, i.size, i.bytes)) = some (some (.string ByteArray.empty), 1, 16) := by kernel_rfl
/-- Behind the tags' append: what the push of the clause wants. -/
structure Grow17 (w : World) (q : List Clause) (g0 b k : Nat) (v : Value) (wr : World) (x : Clause) (A6 : Option Addr) (c6 : Nat) (U : Option Addr) (ua : Nat) (W : World) : Prop where
  bn : Bx W g0 30 [v]
  bx : Bx W b 36 [.slice A6 (x.tags.length + 1) c6, .slice U x.types.length ua]
  own : Own kClause 36 (g0 + 1) (fun j => j ≠ g0) W v ((q.take k).map addT)
  kc : kClause.K (fun j => j ≠ g0 ∧ some j ≠ v.ownBlock) W (addT x) [.slice A6 (x.tags.length + 1) c6, .slice U x.types.length ua]
  bel : Below wr.heap.size wr W
theorem GrowsAt.push {w : World} {q : List Clause} {e : Event} {B A T : Option Addr} {cb c ct : Nat} {g0 k : Nat} {v : Value} {wr wc w6 : World} (h : GrowsAt w q e B cb A c T ct g0 k v wr) {x : Clause} {S U A6 : Option Addr} {sa ua c6 : Nat} {ok : Nat → Prop}
    (hU : Sl Kn.str (fun k => ok k ∧ k < g0) wr U ua x.types) (hc : Below (wr.heap.size + 1) (wr.alloc (.cells #[.slice S x.tags.length sa, .slice U x.types.length ua] 36)) wc)
    {ok6 : Nat → Prop} (h6 : Own Kn.str 9 wc.heap.size ok6 w6 (.slice A6 (x.tags.length + 1) c6) (x.tags ++ [ax])) (hb : Below wc.heap.size wc w6) :
    Grow17 w q g0 wr.heap.size k v wr x A6 c6 U ua (w6.setCell ⟨wr.heap.size, 0, none⟩ (.slice A6 (x.tags.length + 1) c6)) := by
  have hsz := hc.size
  simp at hsz
  have hs := h.size
  have hc0 : Below wr.heap.size wr wc := ((Below.refl wr.heap.size wr).alloc (Nat.le_refl _) _).trans (hc.mono (by omega))
  have h06 : Below wr.heap.size wr w6 := bthen hc0 hb
  have hbx : Bx w6 wr.heap.size 36 [.slice S x.tags.length sa, .slice U x.types.length ua] := ((Bx.new wr _ _).below hc (by omega)).under hb
  have hvl : ∀ j, v.ownBlock = some j → g0 + 1 ≤ j ∧ j < wr.heap.size := fun j hj => ⟨h.own.base_le j hj, h.own.block_lt j hj⟩
  have h6' : Own Kn.str 9 wc.heap.size (fun _ => False) w6 (.slice A6 (x.tags.length + 1) c6) (x.tags ++ [ax]) := h6
  refine ⟨(h.bn.under h06).far (by simp; omega) _, hbx.set 0 _, ?_, ?_, Below.setCell h06 (by simp) _⟩
  · exact ((h.own.bound.below h06).setCell (fun j hj => by simp; omega) (fun j hj => by have := (hvl j hj).2; simp; omega) _).mono (fun j hj => hj.1)
  · obtain ⟨A', c', hv', hsl⟩ := h6'.sl
    simp only [Value.slice.injEq] at hv'
    obtain ⟨rfl, _, rfl⟩ := hv'
    refine kClause_mk' (c := addT x) ((hsl.setCell (fun j hj => by simp; simp at hj; omega) _).mono (fun j hj => ?_)) (((hU.below h06).setCell (fun j hj => by simp; omega) _).mono (fun j hj => ?_)) (by simp [addT]) rfl
    · have hj : wc.heap.size ≤ j := by simpa using hj
      exact ⟨by omega, fun e1 => by have := (hvl j e1.symm).2; omega⟩
    · exact ⟨by omega, fun e1 => by have := (hvl j e1.symm).1; omega⟩
theorem kept7 {w : World} {q : List Clause} {e : Event} {B : Option Addr} {cb : Nat} {X : World} {A : Option Addr} {c : Nat} {T : Option Addr} {ct : Nat} (h : H06 w q e B cb X A c T ct) {g9 n2 c2 : Nat} {A2 : Option Addr} (h2 : Bx X g9 30 [.slice A2 n2 c2]) {g n c1 : Nat} {A1 : Option Addr} (h1 : Bx X g 30 [.slice A1 n c1]) {W : World} (hb : Below X.heap.size X W) :
    Below X.heap.size X W ∧ W.cell? ⟨w.heap.size, 0, none⟩ = some (.slice A q.length c) ∧ W.cell? ⟨g9, 0, none⟩ = some (.slice A2 n2 c2) ∧ W.cell? ⟨g, 0, none⟩ = some (.slice A1 n c1) ∧
      W.cell? ⟨w.heap.size + 1, 0, none⟩ = some (.string e.stream) ∧ W.cell? ⟨w.heap.size + 1, 1, none⟩ = some (.string e.type) ∧ W.cell? ⟨w.heap.size + 1, 2, none⟩ = some (.slice T e.tags.length ct) ∧ W.cell? ⟨w.heap.size + 1, 3, none⟩ = some (.slice B e.fields.length cb) :=
  ⟨hb, (h.bq.under hb).cell 0, (h2.under hb).cell 0, (h1.under hb).cell 0, (h.be.under hb).cell 0, (h.be.under hb).cell 1, (h.be.under hb).cell 2, (h.be.under hb).cell 3⟩
theorem match7 {X : World} {e : Event} {T : Option Addr} {ct : Nat} {B : Option Addr} {cb : Nat} {ok : Nat → Prop} (ht : Sl Kn.str ok X T ct e.tags) {q : List Clause} {n : Nat} (hn : q.length = n) {A : Option Addr} {c : Nat} (hq : SlC X A c q) {W : World} (R : Prop) (hb : Below X.heap.size X W ∧ R) :
    Calls Try.prog 44 #[.agg #[.slice A n c], .agg #[.string e.stream, .string e.type, .slice T e.tags.length ct, .slice B e.fields.length cb]] W fun r w' => r = .returned (.bool (matchM q e)) ∧ Below W.heap.size W w' := by
  subst hn
  exact Match_any (hq.below hb.1) (ht.any.below hb.1)

set_option maxHeartbeats 4000000 in
set_option maxRecDepth 100000 in
theorem queryGrows_walk (w : World) (c0 : Array Value) (q : List Clause) (hq : kQuery.K (fun _ => True) w q c0.toList) {G0 : Prop} (_ : G0) (c1 : Array Value) (e : Event) (he : kEvent.K (fun _ => True) w e c1.toList) {G1 : Prop} (_ : G1) (c2 : Array Value) (y : Clause) (hy : kClause.K (fun _ => True) w y c2.toList) {G2 : Prop} (_ : G2) :
    Calls Try.prog 5 #[.agg c0, .agg c1, .agg c2] w fun r w' => r = .returned (.bool true) ∧ Below w.heap.size w w' := by
  obtain ⟨Q, cq, rfl, hQ⟩ := query_in hq
  obtain ⟨T, ct, B, cb, rfl, hT⟩ := event_in he
  obtain ⟨S, sa, U, ua, rfl, hS, hU⟩ := clause_in hy
  clear hq he hy
  have HF := Lib.hid (fun (w1 w2 : World) (A : Option Addr) (c : Nat) => H06c.few (w := w) (w1 := w1) (w2 := w2) (q := q) (e := e) (Q := Q) (A := A) (T := T) (B := B) (cq := cq) (c := c) (ct := ct) (cb := cb) hT hS hU)
  have HQ := Lib.hid (fun o o' o'' => (((hQ.alloc o).alloc o').alloc o''))
  clear hT hQ hS hU
  go_enter Try.func5, Try.ntmps5
  go_wp2_with fail
  refine (shown06 _).mono ?_
  rintro r w1 ⟨rfl, hb1⟩
  have hb1' : Below (w.heap.size + 1 + 1 + 1) (((w.alloc (.cells #[.slice Q q.length cq] 30)).alloc (.cells #[.string e.stream, .string e.type, .slice T e.tags.length ct, .slice B e.fields.length cb] 34)).alloc (.cells #[.slice S y.tags.length sa, .slice U y.types.length ua] 36)) w1 := by simpa using hb1
  have k1 : Bx w1 w.heap.size 30 [.slice Q q.length cq] := (((Bx.new w 30 [.slice Q q.length cq]).alloc _).alloc _).below hb1' (by omega)
  have k1c := k1.c0
  have hq1 := (HQ.out _ _ _).stay (by simpa using hb1.size) (fun k hk hl => hb1.block k (by simp; omega))
  go_wp2_with fail
  refine (few_any _ hq1).mono ?_
  rintro r w2 ⟨A, c, rfl, hs2, hb2⟩
  have hH := HF.out w1 w2 A c hb1' hs2 hb2
  have m1 := (k1.under hb2).free 0
  have m0 := (k1.under hb2).c0
  clear HF HQ hq1 hs2 hb2 k1 k1c hb1 hb1'
  go_upto_region 3 with fail
  generalize w2.setCell ⟨w.heap.size, 0, none⟩ (.slice A (fewM q).length c) = w3 at hH ⊢
  clear m1 m0
  have j1 := hH.h.be.cell 1
  have j2 := hH.h.be.cell 2
  have jf := hH.h.be.free 2
  have j3 := hH.h.bq.c0
  simp only [List.getElem?_cons_succ, List.getElem?_cons_zero] at j1 j2
  go_upto_if 20 with fail
  go_cut [20] (fun _ wx => H06c w (fewM q) (cutE e) B cb y S sa U ua wx A c T ct)
  case first =>
    have hcap := hH.h.st.1
    have hH := Lib.hid hH
    by_cases h20 : 20 < e.tags.length
    · have hH := Lib.hid (hH.out.cut h20)
      go_wp2_with fail
      go_meet
      case rel => exact hH.out
    · have hH := Lib.hid (hH.out.keep h20)
      go_wp2_with fail
      go_meet
      case rel => exact hH.out
  case rest =>
    have HC := Lib.hid hcut
    clear hcut hH j1 j2 j3 jf
    have hq8 : (fewM q).length ≤ 8 := by simp [fewM]; omega
    have HQT := Lib.hid (few_tags q)
    generalize fewM q = q at HC hq8 HQT
    generalize cutE e = e at HC
    have j0 := HC.out.bc.cell 0
    have j1 := HC.out.bc.cell 1
    simp only [List.getElem?_cons_succ, List.getElem?_cons_zero] at j0 j1
    have h1 := Lib.hid (Sl.one (d := kClause) (ok := fun k => k < w.heap.size) 36 (kClause_mk HC.out.ss HC.out.su) wc.heap.size rfl)
    go_wp2_with fail
    refine (few_any (q := [y]) _ h1.out).mono ?_
    rintro r w4 ⟨A1, cc1, rfl, hs4, hb4⟩
    have hC4 := HC.out.under (bthen ((Below.refl _ wc).alloc (Nat.le_refl _) _) hb4)
    have hl1 : (fewM [y]).length ≤ 8 := by simp [fewM]
    generalize fewM [y] = l1 at hs4 hl1 ⊢
    have HLL := Lib.hid (show (q ++ l1).length = q.length + l1.length by simp)
    have H4 := Lib.hid (hC4.under ((Below.refl _ w4).alloc (Nat.le_refl _) (.cells #[.slice A1 l1.length cc1] 30)))
    have HB := Lib.hid (Bx.new w4 30 [.slice A1 l1.length cc1])
    have HS := Lib.hid (hs4.any.alloc (.cells #[.slice A1 l1.length cc1] 30))
    clear hC4 hs4 HC j0 j1 h1
    go_upto_region 6 with fail
    generalize w4.alloc (.cells #[.slice A1 l1.length cc1] 30) = X at H4 HB HS ⊢
    generalize w4.heap.size = g at HB HS ⊢
    have HK := Lib.hid (fun W => kept6 (W := W) H4.out.h HB.out)
    have HRq := Lib.hid (fun W hb => rowX (W := W) H4.out.h.sq.2.2.bound (fun _ h => h.2) hb)
    have HR1 := Lib.hid (fun W hb => rowX (W := W) HS.out.2.2.bound (fun _ h => h.2) hb)
    go_cut [9] (fun p wx => ∃ g9 A2 c2, p = .pointer (some ⟨g9, 0, none⟩) ∧ Bx wx g9 30 [.slice A2 (q.length + l1.length) c2] ∧ SlC wx A2 c2 (q ++ l1) ∧ Below X.heap.size X wx)
    case first =>
      go_region_held3 (fun W => Below X.heap.size X W ∧ W.cell? ⟨w.heap.size, 0, none⟩ = some (.slice A q.length c) ∧ W.cell? ⟨g, 0, none⟩ = some (.slice A1 l1.length cc1))
        (first | exact HK.out _ (below_drawn (Below.refl _ _)) | exact HK.out _ (below_drawn (below_made (Below.refl _ _) (Nat.le_refl _) _)) | exact HK.out _ (below_drawn (below_made (below_made (Below.refl _ _) (Nat.le_refl _) _) (Nat.le_refl _) _)) | exact HK.out _ HB5.out | exact HK.out _ (below_made HB5.out (Nat.le_refl _) _) | exact HK.out _ HB6.out | exact HK.out _ (below_made HB6.out (Nat.le_refl _) _) | exact HK.out _ (Below.setCell HB6.out (by first | (simp; done) | (have := HB5.out.size; simp; omega)) _))
        (first
          | (refine step_spreadX rfl _ _ _ rfl 36 _ 2 48 Try.underlying28 infoClause rfl (by decide) (by decide) rfl X _ [] rfl (Own.lit_at (by first | exact heap_alloc_new X _ | exact heap_alloc2_new X _ _ | exact two_old X _ _) (by simp)) q A c HRq.out _ (by assumption) rfl (by simp; omega) ?_; intro v1 w5 hown1 hg1 hat1 hbel1; have HO1 := Lib.hid hown1; have HB5 := Lib.hid hbel1; (first | (have KB1 := Lib.hid (box_grown (b := X.heap.size + 1) (t := 30) (cs := [.slice none 0 0]) (by exact heap_alloc2_new X _ _) (by show (some X.heap.size : Option Nat) ≠ some (X.heap.size + 1); simp) hg1 hat1)) | (have KB1 := Lib.hid (box_grown (b := X.heap.size) (t := 30) (cs := [.slice none 0 0]) (by exact two_old X _ _) (by show (some (X.heap.size + 1) : Option Nat) ≠ some X.heap.size; simp) hg1 hat1)) | skip); clear hown1 hg1 hat1 hbel1)
          | (refine step_spreadX rfl _ _ _ rfl 36 _ 2 48 Try.underlying28 infoClause rfl (by decide) (by decide) rfl X _ q rfl HO1.out l1 A1 cc1 HR1.out _ (by assumption) rfl (by omega) ?_; intro v2 w6 hown2 hg2 hat2 hbel2; (first | (have KB2 := Lib.hid (box_grown KB1.out.1 KB1.out.2 hg2 hat2); have kc := KB2.out.1.c0; have kf := KB2.out.1.free 0) | skip); obtain ⟨A2, c2, hv2, hsl2⟩ := hown2.sl; rw [HLL.out] at hv2; subst hv2; have HO2 := Lib.hid hown2; have HB6 := Lib.hid hbel2; clear hown2 hg2 hat2 hbel2 hsl2)
          | (refine step_spreadX rfl _ _ _ rfl 36 _ 2 48 Try.underlying28 infoClause rfl (by decide) (by decide) rfl X _ q rfl (HO1.out.alloc _) l1 A1 cc1 HR1.out _ (by assumption) rfl (by omega) ?_; intro v2 w6 hown2 hg2 hat2 hbel2; have KB2 := Lib.hid (box_grown (Bx.new w5 30 [.slice none 0 0]) (fun e => by have := HO1.out.block_lt _ e; omega) hg2 hat2); have kc := KB2.out.1.c0; have kf := KB2.out.1.free 0; obtain ⟨A2, c2, hv2, hsl2⟩ := hown2.sl; rw [HLL.out] at hv2; subst hv2; have HO2 := Lib.hid hown2; have HB6 := Lib.hid hbel2; clear hown2 hg2 hat2 hbel2 hsl2))
      all_goals go_wp2_with fail
      all_goals go_meet
      all_goals first
        | exact ⟨_, A2, c2, rfl, Bx.new w6 _ _, (own_slC HO2.out).alloc _, below_made HB6.out (Nat.le_refl _) _⟩
        | exact ⟨_, A2, c2, rfl, KB2.out.1.set 0 _, own_slC (HO2.out.setCell (fun k hk => by have := HB5.out.size; simp; omega) (fun k hk e => KB2.out.2 (by rw [hk]; exact congrArg some e)) _), Below.setCell HB6.out (by have := HB5.out.size; simp; try omega) _⟩
    case rest =>
      obtain ⟨g9, A2, c2, rfl, hb9, hs9, hbX⟩ := hcut
      have H7 := Lib.hid (H4.out.h.under hbX)
      have hk7 := Lib.hid (fun W => kept7 (W := W) H7.out hb9 (HB.out.under hbX))
      have C0 := Lib.hid (fun W => match7 (W := W) (X := wc) (e := e) (T := T) (ct := ct) (B := B) (cb := cb) H7.out.st HLL.out hs9)
      have C1 := Lib.hid (fun W => match7 (W := W) (X := wc) (e := e) (T := T) (ct := ct) (B := B) (cb := cb) H7.out.st rfl H7.out.sq.any)
      have C2 := Lib.hid (fun W => match7 (W := W) (X := wc) (e := e) (T := T) (ct := ct) (B := B) (cb := cb) H7.out.st rfl (HS.out.below hbX))
      rw [mAppend] at C0
      have HM1 := Lib.hid (mAdd q e)
      clear H4 HB HS HK HRq HR1 hb9 hs9 hbX hb4
      generalize matchM l1 e = m1 at C0 C2
      generalize hmq : matchM q e = mq at C0 C1
      have HMQ := Lib.hid hmq
      clear hmq
      go_upto_region 7 with fail
      obtain ⟨X7, hX7⟩ : ∃ X7, X7 = wc := ⟨wc, rfl⟩
      subst hX7
      go_cut [48] (fun b wx => b = .bool false ∧ Below X7.heap.size X7 wx)
      case first =>
        rcases mq with _ | _
        · rcases m1 with _ | _
          all_goals go_region_held3 (fun W => Below X7.heap.size X7 W ∧ W.cell? ⟨w.heap.size, 0, none⟩ = some (.slice A q.length c) ∧ W.cell? ⟨g9, 0, none⟩ = some (.slice A2 (q.length + l1.length) c2) ∧ W.cell? ⟨g, 0, none⟩ = some (.slice A1 l1.length cc1) ∧
              W.cell? ⟨w.heap.size + 1, 0, none⟩ = some (.string e.stream) ∧ W.cell? ⟨w.heap.size + 1, 1, none⟩ = some (.string e.type) ∧ W.cell? ⟨w.heap.size + 1, 2, none⟩ = some (.slice T e.tags.length ct) ∧ W.cell? ⟨w.heap.size + 1, 3, none⟩ = some (.slice B e.fields.length cb))
            (first | exact hk7.out _ (below_drawn (Below.refl _ _)) | exact hk7.out _ (bthen (And.left (by assumption : Below X7.heap.size X7 _ ∧ _)) (by assumption)))
            (first
              | (go_at_call 44; refine (C0.out _ _ (by assumption)).mono ?_; rintro r w' ⟨rfl, hb⟩)
              | (go_at_call 44; refine (C1.out _ _ (by assumption)).mono ?_; rintro r w' ⟨rfl, hb⟩)
              | (go_at_call 44; refine (C2.out _ _ (by assumption)).mono ?_; rintro r w' ⟨rfl, hb⟩))
          all_goals go_wp2_with fail
          all_goals go_meet
          all_goals exact ⟨rfl, And.left (by assumption : Below X7.heap.size X7 _ ∧ _)⟩
        · have C0 : Hid (∀ (W : World) (R : Prop), Below X7.heap.size X7 W ∧ R → Calls Try.prog 44 #[.agg #[.slice A2 (q.length + l1.length) c2], .agg #[.string e.stream, .string e.type, .slice T e.tags.length ct, .slice B e.fields.length cb]] W fun r w' => r = .returned (.bool true) ∧ Below W.heap.size W w') := C0
          clear C2
          refine wp_region_held_drew (S := (fun W => Below X7.heap.size X7 W ∧ W.cell? ⟨w.heap.size, 0, none⟩ = some (.slice A q.length c) ∧ W.cell? ⟨g9, 0, none⟩ = some (.slice A2 (q.length + l1.length) c2) ∧ W.cell? ⟨g, 0, none⟩ = some (.slice A1 l1.length cc1) ∧
            W.cell? ⟨w.heap.size + 1, 0, none⟩ = some (.string e.stream) ∧ W.cell? ⟨w.heap.size + 1, 1, none⟩ = some (.string e.type) ∧ W.cell? ⟨w.heap.size + 1, 2, none⟩ = some (.slice T e.tags.length ct) ∧ W.cell? ⟨w.heap.size + 1, 3, none⟩ = some (.slice B e.fields.length cb))) (by kernel_rfl) (hk7.out _ (below_drawn (Below.refl _ _))) (fun hHeld => ?_)
          refine wpAnyH_take (i := 0) (v := .agg #[.slice A2 (q.length + l1.length) c2]) rfl (by kernel_rfl) (by kernel_rfl) (by kernel_rfl) (fun _ _ _ h => h) (Or.inl ⟨by rfl, ?_⟩) (by assumption) ?_
          · intro w hSw
            (try dsimp only at hSw)
            go_simp
          (try simp only [Act.put, List.setIfInBounds_toArray, List.set_cons_zero, List.set_cons_succ])
          refine wpAnyH_take (i := 1) (v := .agg #[.string e.stream, .string e.type, .slice T e.tags.length ct, .slice B e.fields.length cb]) rfl (by kernel_rfl) (by kernel_rfl) (by kernel_rfl) (fun _ _ _ h => h) (Or.inl ⟨by rfl, ?_⟩) (by assumption) ?_
          · intro w hSw
            (try dsimp only at hSw)
            go_simp
          (try simp only [Act.put, List.setIfInBounds_toArray, List.set_cons_zero, List.set_cons_succ])
          refine wpAnyH_take (i := 3) (v := .agg #[.slice A q.length c]) rfl (by kernel_rfl) (by kernel_rfl) (by kernel_rfl) (fun _ _ _ h => h) (Or.inl ⟨by rfl, ?_⟩) (by assumption) ?_
          · intro w hSw
            (try dsimp only at hSw)
            go_simp
          (try simp only [Act.put, List.setIfInBounds_toArray, List.set_cons_zero, List.set_cons_succ])
          refine wpAnyH_take (i := 4) (v := .agg #[.string e.stream, .string e.type, .slice T e.tags.length ct, .slice B e.fields.length cb]) rfl (by kernel_rfl) (by kernel_rfl) (by kernel_rfl) (fun _ _ _ h => h) (Or.inl ⟨by rfl, ?_⟩) (by assumption) ?_
          · intro w hSw
            (try dsimp only at hSw)
            go_simp
          (try simp only [Act.put, List.setIfInBounds_toArray, List.set_cons_zero, List.set_cons_succ])
          refine wpAnyH_ready (rs := [2]) (by kernel_rfl) (by simp) ?_
          refine AllReadyH.cons rfl (fun K hK => ?_) AllReadyH.nil
          go_simp
          go_at_call 44
          refine (C0.out _ _ (by assumption)).mono ?_
          rintro r a1 ⟨rfl, hb⟩
          (try go_wp2_with fail)
          refine hK.out _ _ (hk7.out _ (bthen (And.left (by assumption : Below X7.heap.size X7 _ ∧ _)) (by assumption))) (fun hHeld => ?_)
          clear hK K
          (try simp only [Act.put, List.setIfInBounds_toArray, List.set_cons_zero, List.set_cons_succ])
          refine wpAnyH_ready (rs := [5]) (by kernel_rfl) (by simp) ?_
          refine AllReadyH.cons rfl (fun K hK => ?_) AllReadyH.nil
          go_simp
          go_at_call 44
          refine (C1.out _ _ (by assumption)).mono ?_
          rintro r a2 ⟨rfl, hb⟩
          (try go_wp2_with fail)
          refine hK.out _ _ (hk7.out _ (bthen (And.left (by assumption : Below X7.heap.size X7 _ ∧ _)) (by assumption))) (fun hHeld => ?_)
          clear hK K
          (try simp only [Act.put, List.setIfInBounds_toArray, List.set_cons_zero, List.set_cons_succ])
          refine wpAnyH_take (i := 6) (v := .bool true) rfl (by kernel_rfl) (by kernel_rfl) (by kernel_rfl) (fun _ _ _ h => h) (Or.inl ⟨by rfl, ?_⟩) (by assumption) ?_
          · intro w hSw
            (try dsimp only at hSw)
            go_simp
          (try simp only [Act.put, List.setIfInBounds_toArray, List.set_cons_zero, List.set_cons_succ])
          refine wpAnyH_take (i := 7) (v := undef) rfl (by kernel_rfl) (by kernel_rfl) (by kernel_rfl) (fun _ _ _ h => h) (Or.inr ⟨by rfl, rfl⟩) (by assumption) ?_
          (try simp only [Act.put, List.setIfInBounds_toArray, List.set_cons_zero, List.set_cons_succ])
          refine wpAnyH_take (i := 8) (v := undef) rfl (by kernel_rfl) (by kernel_rfl) (by kernel_rfl) (fun _ _ _ h => h) (Or.inr ⟨by rfl, rfl⟩) (by assumption) ?_
          (try simp only [Act.put, List.setIfInBounds_toArray, List.set_cons_zero, List.set_cons_succ])
          refine wpAnyH_take (i := 9) (v := undef) rfl (by kernel_rfl) (by kernel_rfl) (by kernel_rfl) (fun _ _ _ h => h) (Or.inr ⟨by rfl, rfl⟩) (by assumption) ?_
          (try simp only [Act.put, List.setIfInBounds_toArray, List.set_cons_zero, List.set_cons_succ])
          refine wpAnyH_take (i := 10) (v := .bool true) rfl (by kernel_rfl) (by kernel_rfl) (by kernel_rfl) (fun _ _ _ h => h) (Or.inl ⟨by rfl, ?_⟩) (by assumption) ?_
          · intro w hSw
            (try dsimp only at hSw)
            go_simp
          (try simp only [Act.put, List.setIfInBounds_toArray, List.set_cons_zero, List.set_cons_succ])
          refine wpAnyH_take (i := 11) (v := .bool false) rfl (by kernel_rfl) (by kernel_rfl) (by kernel_rfl) (fun _ _ _ h => h) (Or.inl ⟨by rfl, ?_⟩) (by assumption) ?_
          · intro w hSw
            (try dsimp only at hSw)
            go_simp
          (try simp only [Act.put, List.setIfInBounds_toArray, List.set_cons_zero, List.set_cons_succ])
          refine wpAnyH_done (by kernel_rfl) ?_ _
          simp only [List.getElem_toArray, List.getElem_cons_succ, List.getElem_cons_zero, Act.put, List.setIfInBounds_toArray, List.set_cons_zero, List.set_cons_succ]
          go_wp2_with fail
          go_meet
          exact ⟨rfl, And.left (by assumption : Below X7.heap.size X7 _ ∧ _)⟩
      case rest =>
        obtain ⟨rfl, hbW⟩ := hcut
        have H9 := Lib.hid (GrowsAt.start (H7.out.under hbW))
        have l1 := (H7.out.under hbW).bq.lt
        clear H7 hk7 C0 C1 C2 hbW
        go_wp2_with fail
        go_loopw [11, 12] (fun a i wr => ∃ (k : Nat) (v : Value), k ≤ q.length ∧ i = .int .i64 k ∧ a = .bool (matchM (q.take k) e) ∧ GrowsAt w q e B cb A c T ct wc.heap.size k v wr) (fun a i _ => q.length - (intOf i).toNat)
        case atStart => exact ⟨0, _, Nat.zero_le _, rfl, rfl, H9.out⟩
        case round =>
          clear H9
          obtain ⟨k, v, hk, rfl, rfl, hf⟩ := hrel
          have k0 := hf.bq.c0
          have hsz := hf.size
          have hlo := hf.lo
          have HF := Lib.hid hf
          clear hf l1
          generalize wc.heap.size = g0 at HF hsz hlo ⊢
          by_cases hlt : k < q.length
          · obtain ⟨ad, S', sa', U', ua', rfl, hx, hy, hS', hU'⟩ := row_clause_at HF.out.sq.2.2 hlt
            have hxe : q[k]? = some q[k] := List.getElem?_eq_getElem hlt
            generalize q[k] = x at hx hy hS' hU' hxe
            have HX := Lib.hid (mStep e q k x hxe)
            have HXE := Lib.hid hxe
            clear hxe
            have hl3 : w.heap.size + 1 < wr.heap.size := by omega
            have hl4 : w.heap.size < wr.heap.size := by omega
            have hl5 : g0 < wr.heap.size := by omega
            have e0 := HF.out.be.cell 0
            have e1 := HF.out.be.cell 1
            have e2 := HF.out.be.cell 2
            have e3 := HF.out.be.cell 3
            simp only [List.getElem?_cons_succ, List.getElem?_cons_zero] at e0 e1 e2 e3
            go_upto_region 15 with fail
            have HBX := Lib.hid (Bx.new wr 36 [.slice S' x.tags.length sa', .slice U' x.types.length ua'])
            have HR1 := Lib.hid (below_made (Below.refl wr.heap.size wr) (Nat.le_refl _) (.cells #[.slice S' x.tags.length sa', .slice U' x.types.length ua'] 36))
            have HR1s := Lib.hid (show (wr.alloc (.cells #[.slice S' x.tags.length sa', .slice U' x.types.length ua'] 36)).heap.size = wr.heap.size + 1 by simp)
            have HM2 := Lib.hid (match15 (B := B) (cb := cb) (e := e) (HF.out.st.any.alloc (.cells #[.slice S' x.tags.length sa', .slice U' x.types.length ua'] 36)) (hS'.any.alloc (.cells #[.slice S' x.tags.length sa', .slice U' x.types.length ua'] 36)) (hU'.any.alloc (.cells #[.slice S' x.tags.length sa', .slice U' x.types.length ua'] 36)) (H := wr.heap.size + 1) (by simp))
            go_cut [11] (fun a wx => a = .bool (matchM (q.take (k + 1)) e) ∧ Below (wr.heap.size + 1) (wr.alloc (.cells #[.slice S' x.tags.length sa', .slice U' x.types.length ua'] 36)) wx)
            case first =>
              generalize matchM (q.take k) e = m at HX ⊢
              generalize matchM [x] e = m2 at HX HM2
              rcases m with _ | _
              · go_wp2_with fail
                refine HM2.out.mono ?_
                rintro r w7 ⟨rfl, hb⟩
                have HB := Lib.hid hb
                clear hb
                go_wp2_with fail
                go_meet
                case rel => exact ⟨by rw [HX.out]; cases m2 <;> rfl, HB.out⟩
              · go_wp2_with fail
                go_meet
                case rel => exact ⟨by rw [HX.out]; cases m2 <;> rfl, Below.refl _ _⟩
            case rest =>
              obtain ⟨rfl, hbx⟩ := hcut
              have hszc := hbx.size
              rw [HR1s.out] at hszc
              have HP := Lib.hid (fun (A6 : Option Addr) (c6 : Nat) (w6 : World) => GrowsAt.push (w6 := w6) (A6 := A6) (c6 := c6) (ok6 := fun k => k < wc.heap.size) HF.out hU' hbx)
              have hcx := HBX.out.below hbx (by omega)
              have HCX := Lib.hid hcx
              have x0 := hcx.cell 0
              have x1 := hcx.cell 1
              have xf := hcx.free 0
              simp only [List.getElem?_cons_succ, List.getElem?_cons_zero] at x0 x1
              have hbel0 := HR1.out.trans (hbx.mono (by omega))
              have HOs := Lib.hid (Own.lit0 Kn.str 9 wc.heap.size (fun k => k < wc.heap.size) wc (Nat.le_refl _))
              have HRs := Lib.hid (show Row Kn.str (fun k => k < wc.heap.size ∧ some k ≠ (Value.slice (some ⟨wc.heap.size, 0, none⟩) 0 0).ownBlock) (wc.alloc (.cells #[] 9)) S' x.tags from
                ((hS'.2.2.below hbel0).bound.below ((Below.refl _ _).alloc (Nat.le_refl _) _)).mono (fun k hk => ⟨hk.2, fun e1 => by have h2 := hk.2; simp [Value.ownBlock] at e1; omega⟩))
              have hx8 := HQT.out k x HXE.out
              have hszd : wr.heap.size < wc.heap.size := by omega
              have HLT := Lib.hid (show (x.tags ++ [ax]).length = x.tags.length + 1 by simp)
              clear hcx hbel0 hS' hU' hx hy e0 e1 e2 e3 HM2
              go_upto_region 17 with (at_builtin; first
                | (refine wpList_spread rfl _ _ _ rfl 9 _ 1 16 Try.underlying31 infoStr rfl (by decide) (by decide) rfl wc.heap.size (fun k => k < wc.heap.size) _ [] rfl HOs.out x.tags S' sa' HRs.out rfl (by simp) (by simp; omega) ?_; intro v5 w5 hown5 hg5 hat5 hbel5; have HO5 := Lib.hid hown5; have HB5 := Lib.hid (hbel5 wc ((Below.refl _ _).alloc (Nat.le_refl _) _)); clear hown5 hg5 hat5 hbel5)
                | (refine wpList_pushH rfl _ _ _ rfl 9 _ 1 16 Try.underlying31 infoStr rfl (by decide) (by decide) rfl wc.heap.size (fun k => k < wc.heap.size) _ x.tags rfl HO5.out ax [.string ax] rfl w5.heap.size rfl rfl (by have := HB5.out.size; omega) (by omega) ?_; intro v6 w6 hown6 hg6 hat6 hbel6; obtain ⟨A6, c6, hv6, _⟩ := hown6.sl; rw [HLT.out] at hv6; subst hv6; have HO6 := Lib.hid hown6; have HB6 := Lib.hid (hbel6 wc HB5.out); have kc := (HCX.out.under HB6.out).c0; have kf := (HCX.out.under HB6.out).free 0; clear hown6 hg6 hat6 hbel6))
              have H17 := Lib.hid (HP.out A6 c6 w6 HO6.out HB6.out)
              clear kc kf HO6 HB6 HO5 HB5 HP HOs HRs HCX x0 x1 xf hbx
              generalize w6.setCell ⟨wr.heap.size, 0, none⟩ (.slice A6 (x.tags.length + 1) c6) = w7 at H17 ⊢
              have n0 := H17.out.bn.c0
              have n1 := H17.out.bx.cell 0
              have n2 := H17.out.bx.cell 1
              simp only [List.getElem?_cons_succ, List.getElem?_cons_zero] at n1 n2
              have n3 := H17.out.bel.size
              have n4 : wr.heap.size < w7.heap.size := H17.out.bx.lt
              have n5 : g0 < w7.heap.size := by omega
              have HG := Lib.hid (fun (w8 : World) (v8 : Value) hg hown => GrowsAt.step (W := w7) (w1 := w8) (v1 := v8) HF.out H17.out.bel hg x HXE.out hown)
              have HL8 := Lib.hid (show ((q.take k).map addT ++ [addT x]).length = k + 1 by rw [List.length_append, List.length_map, List.length_take, List.length_singleton]; omega)
              have HB8 := Lib.hid (fun (w8 : World) (hg : w7.grownBy w8 v.ownBlock) => H17.out.bn.grown hg (fun e => by have := HF.out.own.base_le _ e.symm; omega))
              have hl17 : Hid (((q.take k).map addT).length ≤ 8) := by show _ ≤ _; rw [List.length_map, List.length_take]; omega
              go_wp2_with (at_builtin; refine wpList_pushH rfl _ _ _ rfl 36 _ 2 48 Try.underlying28 infoClause rfl (by decide) (by decide) rfl (g0 + 1) (fun j => j ≠ g0) _ ((q.take k).map addT) rfl H17.out.own (addT x) _ H17.out.kc w7.heap.size rfl rfl (by omega) (by have := hl17.out; omega) ?_; intro v8 w8 hown8 hg8 hat8 hbel8; obtain ⟨A8, c8, hv8, _⟩ := hown8.sl; rw [HL8.out] at hv8; subst hv8; have HO8 := Lib.hid (HG.out w8 _ hg8 hown8); have q8 := (HB8.out w8 hg8).c0; have f8 := (HB8.out w8 hg8).free 0; clear hown8 hg8 hat8 hbel8)
              go_roundw
              case rel => exact ⟨k + 1, _, by omega, by go_num, rfl, HO8.out⟩
              case measure => simp [intOf]; omega
          · obtain rfl : k = q.length := by omega
            rw [List.take_length, HMQ.out]
            obtain ⟨V, cv, hv, hsl⟩ := HF.out.own.sl
            have hvl : ((q.take q.length).map addT).length = q.length := by simp
            rw [hvl] at hv
            subst hv
            have C1 := Lib.hid (fun W => match7 (W := W) (X := wr) (e := e) (T := T) (ct := ct) (B := B) (cb := cb) HF.out.st rfl HF.out.sq.any)
            have C2 := Lib.hid (fun W => match7 (W := W) (X := wr) (e := e) (T := T) (ct := ct) (B := B) (cb := cb) HF.out.st (List.length_map addT) (show SlC wr V cv (q.map addT) by have := hsl.any; rwa [List.take_length] at this))
            rw [HMQ.out] at C1
            have HMN : Hid (matchM (q.map addT) e = true → mq = true) := by
              show _ → _
              rw [← HMQ.out]; exact HM1.out
            generalize matchM (q.map addT) e = mn at C2 HMN
            have HK := Lib.hid (fun W => kept18 (W := W) HF.out)
            obtain ⟨_, r0, r1, r2, r3, r4, r5⟩ := HK.out wr (Below.refl _ _)
            have C1a := Lib.hid (C1.out wr True ⟨Below.refl _ _, trivial⟩)
            have HBL := Lib.hid HF.out.bel
            clear HF hsl hvl k0
            rcases mq with _ | _
            · obtain rfl : mn = false := by cases mn; rfl; exact absurd (HMN.out rfl) (by simp)
              go_wp2_with fail
              refine C1a.out.mono ?_
              rintro r a1 ⟨rfl, hb1⟩
              obtain ⟨_, s0, s1, s2, s3, s4, s5⟩ := HK.out a1 hb1
              have C2a := Lib.hid (C2.out a1 True ⟨hb1, trivial⟩)
              have HB1 := Lib.hid hb1
              clear hb1
              go_wp2_with fail
              refine C2a.out.mono ?_
              rintro r a2 ⟨rfl, hb2⟩
              go_wp2
              go_ret
              exact ⟨rfl, bthen (bthen HBL.out HB1.out) hb2⟩
            · go_wp2_with fail
              refine C1a.out.mono ?_
              rintro r a1 ⟨rfl, hb1⟩
              obtain ⟨_, s0, s1, s2, s3, s4, s5⟩ := HK.out a1 hb1
              have C2a := Lib.hid (C2.out a1 True ⟨hb1, trivial⟩)
              have HB1 := Lib.hid hb1
              clear hb1
              rcases mn with _ | _
              · go_wp2_with fail
                refine C2a.out.mono ?_
                rintro r a2 ⟨rfl, hb2⟩
                go_wp2
                go_ret
                exact ⟨rfl, bthen (bthen HBL.out HB1.out) hb2⟩
              · go_wp2_with fail
                refine C2a.out.mono ?_
                rintro r a2 ⟨rfl, hb2⟩
                have hb12 := bthen HB1.out hb2
                obtain ⟨_, t0, t1, t2, t3, t4, t5⟩ := HK.out a2 hb12
                have C3a := Lib.hid (C1.out a2 True ⟨hb12, trivial⟩)
                have HB2 := Lib.hid hb12
                clear hb12 hb2
                go_wp2_with fail
                refine C3a.out.mono ?_
                rintro r a3 ⟨rfl, hb3⟩
                go_wp2
                go_ret
                exact ⟨rfl, bthen (bthen HBL.out HB2.out) hb3⟩
end Go.Proofs.Ytohhapceeohhdaa
