/- Rows that may be written to: kinds that say so; what a spoiling write leaves. Own work. index.own, (*index.Index).told: what is told may be written to (walks; as Told14, Told14b). (*index.Index).Add, All: what is told may be written to (walks; as IxAdd2, IxRead2). registrarlaw14.spoil (walk). IndexOwn: what the law has on its way. IndexOwn: the law's walk. The closed facts that every row of this seat leans on, each proved for itself: the order's text is long, so it is read once as a list of signs. The row of the law IndexOwn, over its walk: for every input the call returns true and each argument reads afterwards as it read before. No conditions. -/
import Derived.Test.YtfoghahidofegaaBundI
import Derived.Test.YtfoghahidofegaaBundJ
import Derived.Deep.RegionHeld3
import Derived.Test.YtfoghahidofegaaBundR
import Derived.Test.YtfoghahidofegaaBundA
import Derived.Deep.CutBlock
import Derived.Test.YtfoghahidofegaaRows
import Derived.JoinedOf
import Derived.KernelRfl
import Derived.WalkKit
import Derived.ProofKit
import Derived.OpenShut
import Derived.ShutString
import Derived.ChangeOld
import Derived.Below
import Derived.SizedLaws
set_option linter.unusedVariables false
set_option linter.unusedSimpArgs false
namespace Go.Proofs.Ytfoghahidofegaa
open Go.RowKit

/-- No cell of the block is frozen. -/
def Fz (w : World) (k : Nat) : Prop := ∀ i, w.frozen? ⟨k, i, none⟩ = false
section
variable {w w' : World} {k : Nat}
theorem Fz.stay (h : Fz w k) (hb : w'.heap[k]? = w.heap[k]?) : Fz w' k := fun i => by
  have := h i
  unfold World.frozen? at this ⊢
  simp only at this ⊢
  rw [hb]; exact this
theorem Fz.set (h : Fz w k) (p : Addr) (u : Value) : Fz (w.setCell p u) k := fun i => by rw [World.frozen?_setCell]; exact h i
theorem Fz.of_bx {t : TypeId} {cs : List Value} (h : Bx w k t cs) : Fz w k := fun i => h.free i
end
theorem Fz.at_ {w : World} {ad : Addr} (h : Fz w ad.block) (k : Nat) : w.frozen? (ad.add k) = false := by
  have := h (ad.add k).off
  unfold World.frozen? at this ⊢
  rw [block_add]
  exact this
/-- A slice value whose row may be written to. -/
def SlW {α : Type} (d : Kn α) (ok : Nat → Prop) (w : World) (A : Option Addr) (c : Nat) (xs : List α) : Prop := Sl d ok w A c xs ∧ (0 < xs.length → ∀ ad, A = some ad → Fz w ad.block)
section
variable {α : Type} {d : Kn α} {ok ok' : Nat → Prop} {w w' : World} {A : Option Addr} {c : Nat} {xs : List α}
theorem SlW.stay (h : SlW d ok w A c xs) (hs : w.heap.size ≤ w'.heap.size) (hm : ∀ k, ok k → k < w.heap.size → w'.heap[k]? = w.heap[k]?) : SlW d ok w' A c xs :=
  ⟨h.1.stay hs hm, fun hn ad he => (h.2 hn ad he).stay (by
    obtain ⟨ad', e, h1, h2, _⟩ := h.1.2.2 hn
    rw [he] at e
    injection e with e
    subst e
    exact hm _ h1 h2)⟩
theorem SlW.below (h : SlW d ok w A c xs) (hb : Below w.heap.size w w') : SlW d ok w' A c xs := h.stay hb.size (fun k _ hk => hb.block k hk)
theorem SlW.mono (h : SlW d ok w A c xs) (hm : ∀ k, ok k → ok' k) : SlW d ok' w A c xs := ⟨h.1.mono hm, h.2⟩
theorem SlW.setCell (h : SlW d ok w A c xs) {p : Addr} (hp : ∀ k, ok k → k ≠ p.block) (u : Value) : SlW d ok (w.setCell p u) A c xs := ⟨h.1.setCell hp u, fun hn ad he => (h.2 hn ad he).set _ _⟩
theorem SlW.bound (h : SlW d ok w A c xs) : SlW d (fun k => ok k ∧ k < w.heap.size) w A c xs := ⟨h.1.bound, h.2⟩
theorem SlW.nil_ : SlW d ok w none 0 ([] : List α) := ⟨Sl.nil_, fun h => by simp at h⟩
theorem Own.slW {e : TypeId} {base : Nat} {v : Value} (h : Own d e base ok w v xs) : ∃ A c, v = .slice A xs.length c ∧ SlW d (fun k => ok k ∨ base ≤ k) w A c xs := by
  obtain ⟨A, c, rfl, hs⟩ := h.sl
  refine ⟨A, c, rfl, hs, fun hn ad he => ?_⟩
  subst he
  obtain ⟨css, ⟨_, hc⟩, _⟩ := h
  rcases hc with ⟨e1, _⟩ | ⟨g, cap, cur, e1, _, hh, _⟩
  · simp at e1
  · simp only [Value.slice.injEq, Option.some.injEq] at e1
    rw [e1.1]
    exact fun i => frozen_of_row _ _ _ _ _ hh
theorem Own.weak {d' : Kn α} {e : TypeId} {base : Nat} {v : Value} (hsz : d'.sz = d.sz) (hK : ∀ {ok : Nat → Prop} {w : World} {x : α} {cs : List Value}, d.K ok w x cs → d'.K ok w x cs) (h : Own d e base ok w v xs) : Own d' e base ok w v xs := by
  obtain ⟨css, h1, h2, h3, h4, h5⟩ := h
  rw [← hsz] at h1 h3
  exact ⟨css, h1, h2, h3, h4, fun j x hj => by obtain ⟨cs, h6, h7⟩ := h5 j x hj; exact ⟨cs, h6, hK h7⟩⟩
end
def Kn.sliceW {α : Type} (d : Kn α) : Kn (List α) where
  sz := 1
  K := fun ok w xs cs => ∃ A c, cs = [.slice A xs.length c] ∧ SlW d ok w A c xs
  len := by
    rintro ok w x cs ⟨A, c, rfl, _⟩
    rfl
  one := by
    rintro ok w x cs ⟨A, c, rfl, _⟩ u hu
    rw [List.mem_singleton.1 hu]
    rfl
  mono := by
    rintro ok ok' w x cs hm ⟨A, c, rfl, h1⟩
    exact ⟨A, c, rfl, h1.mono hm⟩
  bound := by
    rintro ok w x cs ⟨A, c, rfl, h1⟩
    exact ⟨A, c, rfl, h1.bound⟩
  move := by
    rintro ok w w' x cs hs hm ⟨A, c, rfl, h1⟩
    exact ⟨A, c, rfl, h1.stay hs (fun k hk _ => hm k hk)⟩
def kEventW : Kn Event := Kn.iso (Kn.pair Kn.str (Kn.pair Kn.str (Kn.pair (Kn.sliceW Kn.str) (Kn.sliceW kField)))) (fun e => (e.stream, e.type, e.tags, e.fields))
theorem kEventW_sz : kEventW.sz = 4 := rfl
theorem kEventW_out {ok : Nat → Prop} {w : World} {e : Event} {cs : List Value} (h : kEventW.K ok w e cs) :
    ∃ A ca B cb, cs = [.string e.stream, .string e.type, .slice A e.tags.length ca, .slice B e.fields.length cb] ∧ SlW Kn.str ok w A ca e.tags ∧ SlW kField ok w B cb e.fields := by
  obtain ⟨c0, c1, rfl, h0, c2, c3, rfl, h1, c4, c5, rfl, ⟨A, ca, h2, h3⟩, ⟨B, cb, h4, h5⟩⟩ := h
  have e0 : c0 = [.string e.stream] := h0
  have e1 : c2 = [.string e.type] := h1
  subst e0; subst e1; subst h2; subst h4
  exact ⟨A, ca, B, cb, rfl, h3, h5⟩
theorem kEventW_mk {ok : Nat → Prop} {w : World} {e : Event} {A B : Option Addr} {ca cb : Nat} (h1 : SlW Kn.str ok w A ca e.tags) (h2 : SlW kField ok w B cb e.fields) :
    kEventW.K ok w e [.string e.stream, .string e.type, .slice A e.tags.length ca, .slice B e.fields.length cb] :=
  ⟨[_], _, rfl, rfl, [_], _, rfl, rfl, [_], [_], rfl, ⟨A, ca, rfl, h1⟩, ⟨B, cb, rfl, h2⟩⟩
theorem kEventW_weak {ok : Nat → Prop} {w : World} {e : Event} {cs : List Value} (h : kEventW.K ok w e cs) : kEvent.K ok w e cs := by
  obtain ⟨A, ca, B, cb, rfl, h1, h2⟩ := kEventW_out h
  exact kEvent_mk h1.1 h2.1
def kRecW : Kn Rec := Kn.iso (Kn.pair (Kn.int .i64) (Kn.pair (Kn.int .i64) kEventW)) (fun r => (r.pos, r.ver, r.ev))
theorem kRecW_sz : kRecW.sz = 6 := rfl
theorem kRecW_out {ok : Nat → Prop} {w : World} {r : Rec} {cs : List Value} (h : kRecW.K ok w r cs) :
    ∃ A ca B cb, cs = [.int .i64 r.pos, .int .i64 r.ver, .string r.ev.stream, .string r.ev.type, .slice A r.ev.tags.length ca, .slice B r.ev.fields.length cb] ∧ SlW Kn.str ok w A ca r.ev.tags ∧ SlW kField ok w B cb r.ev.fields := by
  obtain ⟨c0, c1, rfl, h0, c2, c3, rfl, h1, h2⟩ := h
  have e0 : c0 = [.int .i64 r.pos] := h0
  have e1 : c2 = [.int .i64 r.ver] := h1
  subst e0; subst e1
  obtain ⟨A, ca, B, cb, rfl, h3, h4⟩ := kEventW_out h2
  exact ⟨A, ca, B, cb, rfl, h3, h4⟩
theorem kRecW_mk {ok : Nat → Prop} {w : World} {r : Rec} {A B : Option Addr} {ca cb : Nat} (h1 : SlW Kn.str ok w A ca r.ev.tags) (h2 : SlW kField ok w B cb r.ev.fields) :
    kRecW.K ok w r [.int .i64 r.pos, .int .i64 r.ver, .string r.ev.stream, .string r.ev.type, .slice A r.ev.tags.length ca, .slice B r.ev.fields.length cb] :=
  ⟨[_], _, rfl, rfl, [_], _, rfl, rfl, kEventW_mk h1 h2⟩
theorem kRecW_weak {ok : Nat → Prop} {w : World} {r : Rec} {cs : List Value} (h : kRecW.K ok w r cs) : kRec.K ok w r cs := by
  obtain ⟨A, ca, B, cb, rfl, h1, h2⟩ := kRecW_out h
  exact kRec_mk h1.1 h2.1

/-- n cells from A on may be written to; their block is of P. -/
def Sp (w : World) (A : Option Addr) (n : Nat) (P : Nat → Prop) : Prop := ∀ i, i < n → ∃ ad u, A = some ad ∧ P ad.block ∧ ad.block < w.heap.size ∧ Fz w ad.block ∧ w.cell? (ad.add i) = some u
/-- Cells of P are written, nothing else. -/
structure Spoil (P : Nat → Prop) (w w' : World) : Prop where
  but : But P w w'
  fz : ∀ k, k < w.heap.size → Fz w k → Fz w' k
  cell : ∀ (p : Addr) (u : Value), w.cell? p = some u → ∃ u', w'.cell? p = some u'
section
variable {w w' w'' : World} {P Q : Nat → Prop} {A : Option Addr} {n : Nat}
theorem Spoil.refl (P : Nat → Prop) (w : World) : Spoil P w w := ⟨But.of_below (Below.refl _ _), fun _ _ h => h, fun _ u h => ⟨u, h⟩⟩
theorem Spoil.of_below (h : Below w.heap.size w w') : Spoil P w w' := ⟨But.of_below h, fun k hk hf => hf.stay (h.block k hk), fun p u hu => ⟨u, (h.cell (World.block_lt_of_cell? w _ hu)).trans hu⟩⟩
theorem Spoil.trans (h : Spoil P w w') (h' : Spoil P w' w'') : Spoil P w w'' :=
  ⟨h.but.trans h'.but, fun k hk hf => h'.fz k (Nat.lt_of_lt_of_le hk h.but.size) (h.fz k hk hf), fun p u hu => by obtain ⟨u', h1⟩ := h.cell p u hu; exact h'.cell p u' h1⟩
theorem Spoil.mono (h : Spoil P w w') (hm : ∀ k, P k → Q k) : Spoil Q w w' := ⟨h.but.mono hm, h.fz, h.cell⟩
theorem Spoil.set {p : Addr} (hp : P p.block) (u : Value) : Spoil P w (w.setCell p u) :=
  ⟨But.setCell (S := P) w hp u, fun _ _ h => h.set _ _, fun q v hv => by
    by_cases hq : p = q
    · subst hq
      exact ⟨u, World.cell?_setCell_same (w := w) (a := p) (v := u) hv⟩
    · exact ⟨v, (World.cell?_setCell_other (w := w) (a := p) (b := q) (v := u) hq).trans hv⟩⟩
theorem Sp.spoil (h : Sp w A n P) (hs : Spoil Q w w') : Sp w' A n P := fun i hi => by
  obtain ⟨ad, u, e, h1, h2, h3, h4⟩ := h i hi
  obtain ⟨u', h5⟩ := hs.cell _ _ h4
  exact ⟨ad, u', e, h1, Nat.lt_of_lt_of_le h2 hs.but.size, hs.fz _ h2 h3, h5⟩
theorem Sp.below (h : Sp w A n P) (hb : Below w.heap.size w w') : Sp w' A n P := h.spoil (Spoil.of_below (P := fun _ => False) hb)
theorem Sp.mono (h : Sp w A n P) (hm : ∀ k, P k → Q k) : Sp w A n Q := fun i hi => by
  obtain ⟨ad, u, e, h1, h2⟩ := h i hi
  exact ⟨ad, u, e, hm _ h1, h2⟩
theorem SlW.sp {α : Type} {d : Kn α} {c : Nat} {xs : List α} (h : SlW d P w A c xs) (h0 : 0 < d.sz) : Sp w A (xs.length * d.sz) P := fun i hi => by
  have hn : 0 < xs.length := by
    rcases Nat.eq_zero_or_pos xs.length with e | e
    · rw [e, Nat.zero_mul] at hi; omega
    · exact e
  obtain ⟨ad, e, h1, h2, h3⟩ := h.1.2.2 hn
  have hj : i / d.sz < xs.length := Nat.div_lt_of_lt_mul (by rw [Nat.mul_comm]; exact hi)
  obtain ⟨cs, h4, _, h6⟩ := h3 (i / d.sz) _ (List.getElem?_eq_getElem hj)
  have hm : i % d.sz < cs.length := by rw [h4]; exact Nat.mod_lt _ h0
  have := h6 (i % d.sz) _ (List.getElem?_eq_getElem hm)
  rw [Nat.mul_comm (i / d.sz), Nat.div_add_mod] at this
  exact ⟨ad, _, e, h1, h2, h.2 hn ad e, this⟩
end
/-- A row of the call's own, its block known whole; what an element hangs on is not the row. -/
theorem Own.at_own {α : Type} {d : Kn α} {e : TypeId} {base : Nat} {ok : Nat → Prop} {w : World} {v : Value} {xs : List α} (h : Own d e base ok w v xs) (hn : 0 < xs.length) :
    ∃ (g c : Nat) (cs0 : List Value), v = .slice (some ⟨g, 0, none⟩) xs.length c ∧ xs.length ≤ c ∧ c ≤ maxLen ∧ base ≤ g ∧ g < w.heap.size ∧ Bx w g e cs0 ∧
      ∀ j x, xs[j]? = some x → ∃ cs, d.K (fun k => ok k ∧ k ≠ g) w x cs ∧ ∀ i u, cs[i]? = some u → cs0[j * d.sz + i]? = some u := by
  obtain ⟨css, ⟨hl, hc⟩, h2, h3, h4, h5⟩ := h
  rcases hc with ⟨_, e1⟩ | ⟨g, cap, cur, rfl, hg, hh, hncap, hcap, hcur, htake⟩
  · omega
  · refine ⟨g, cap, cur.toList, rfl, hncap, hcap, hg, (Array.getElem?_eq_some_iff.1 hh).1, by unfold Bx; simpa using hh, fun j x hj => ?_⟩
    obtain ⟨cs, hcs, hk⟩ := h5 j x hj
    refine ⟨cs, d.mono (fun k hk => ⟨hk.1, fun e1 => hk.2 (by rw [e1]; rfl)⟩) hk, fun i u hu => ?_⟩
    have hf := flat_at css h3 j i cs u hcs hu
    rw [← htake, List.getElem?_take] at hf
    split at hf
    · exact hf
    · cases hf
end Go.Proofs.Ytfoghahidofegaa

namespace Go.Proofs.Ytfoghahidofegaa
open Go.RowKit

/-- A kind that says more where a sign is set. -/
def Kn.whenW {α : Type} (d d' : Kn α) (F : Nat → Prop) : Kn (α × Bool) where
  sz := d.sz
  K := fun ok w x cs => d.K ok w x.1 cs ∧ (x.2 = true → d'.K (fun k => ok k ∧ F k) w x.1 cs)
  len := fun h => d.len h.1
  one := fun h => d.one h.1
  mono := fun hm h => ⟨d.mono hm h.1, fun e => d'.mono (fun k hk => ⟨hm k hk.1, hk.2⟩) (h.2 e)⟩
  bound := fun h => ⟨d.bound h.1, fun e => d'.mono (fun k hk => ⟨⟨hk.1.1, hk.2⟩, hk.1.2⟩) (d'.bound (h.2 e))⟩
  move := fun hs hm h => ⟨d.move hs hm h.1, fun e => d'.move hs (fun k hk => hm k hk.1) (h.2 e)⟩
section
variable {α : Type} {d d' : Kn α} {F : Nat → Prop} {e : TypeId} {base : Nat} {ok : Nat → Prop} {w w' : World} {v : Value} {xs : List α}
theorem Own.whenW_no (h : Own d e base ok w v xs) : Own (d.whenW d' F) e base ok w v (xs.map (fun x => (x, false))) := by
  obtain ⟨css, h1, h2, h3, h4, h5⟩ := h
  refine ⟨css, by rw [List.length_map]; exact h1, by rw [List.length_map]; exact h2, h3, h4, fun j x hj => ?_⟩
  rw [List.getElem?_map] at hj
  obtain ⟨y, hy, rfl⟩ := Option.map_eq_some_iff.1 hj
  obtain ⟨cs, h6, h7⟩ := h5 j y hy
  exact ⟨cs, h6, h7, fun h => by cases h⟩
theorem Row.unwhenW {A : Option Addr} {ys : List (α × Bool)} (h : Row (d.whenW d' F) ok w A ys) : Row d ok w A (ys.map (·.1)) := fun hn => by
  obtain ⟨ad, e1, h1, h2, h3⟩ := h (by simpa using hn)
  refine ⟨ad, e1, h1, h2, fun j x hj => ?_⟩
  rw [List.getElem?_map] at hj
  obtain ⟨y, hy, rfl⟩ := Option.map_eq_some_iff.1 hj
  obtain ⟨cs, h4, h5, h6⟩ := h3 j y hy
  exact ⟨cs, h4, h5.1, h6⟩
end
theorem Own.whenW_yes {F : Nat → Prop} {e : TypeId} {base : Nat} {ok : Nat → Prop} {w : World} {v : Value} {xs : List Rec} (h : Own (kRec.whenW kRecW F) e base ok w v (xs.map (fun x => (x, true)))) : Own kRecW e base (fun k => ok k ∧ F k) w v xs := by
  obtain ⟨css, h1, h2, h3, h4, h5⟩ := h
  rw [List.length_map] at h1 h2
  refine ⟨css, h1, h2, h3, h4, fun j x hj => ?_⟩
  obtain ⟨cs, h6, h7⟩ := h5 j (x, true) (by rw [List.getElem?_map, hj]; rfl)
  exact ⟨cs, h6, kRecW.mono (fun k hk => ⟨⟨hk.1.1, hk.2⟩, hk.1.2⟩) (h7.2 rfl)⟩
/-- An event is written into a record of a row of the call's own. -/
theorem Own.setEvW {F : Nat → Prop} {e : TypeId} {base : Nat} {w : World} {v : Value} {xs : List (Rec × Bool)} (h : Own (kRec.whenW kRecW F) e base (fun _ => True) w v xs) {g : Nat} (hg : v.ownBlock = some g) {k : Nat} {r : Rec} {b : Bool} (hk : xs[k]? = some (r, b))
    {S T : Option Addr} {sa ta : Nat} (hS : SlW Kn.str (fun j => F j ∧ j ≠ g) w S sa r.ev.tags) (hT : SlW kField (fun j => F j ∧ j ≠ g) w T ta r.ev.fields) :
    Own (kRec.whenW kRecW F) e base (fun _ => True) (set4 w g (k * 6 + 2) (.string r.ev.stream) (.string r.ev.type) (.slice S r.ev.tags.length sa) (.slice T r.ev.fields.length ta)) v (xs.set k (r, true)) := by
  obtain ⟨css, h1, h2, h3, h4, h5⟩ := h
  obtain ⟨cs, h6, h7⟩ := h5 k _ hk
  obtain ⟨S0, sa0, T0, ta0, hcs, _, _⟩ := kRec_out (show kRec.K _ w r cs from h7.1)
  have hsv := set4_save w g (k * 6 + 2) (.string r.ev.stream) (.string r.ev.type) (.slice S r.ev.tags.length sa) (.slice T r.ev.fields.length ta)
  have hkl := (List.getElem?_eq_some_iff.1 h6).1
  have hall : ∀ (c : List Value), c.length = 6 → ∀ (css : List (List Value)), (∀ c ∈ css, c.length = (kRec.whenW kRecW F).sz) → ∀ c' ∈ css.set k c, c'.length = (kRec.whenW kRecW F).sz := fun c hc css hcss c' hc' => by
    rcases List.mem_or_eq_of_mem_set hc' with h | h
    · exact hcss _ h
    · rw [h]; exact hc
  have hl6 : cs.length = 6 := h3 _ (List.mem_of_getElem? h6)
  have a0 := Own.setAt (d := kRec.whenW kRecW F) h1 h3 hg (i := 2) h6 (by show 2 < 6; omega) (.string r.ev.stream)
  have b0 := hall (cs.set 2 (.string r.ev.stream)) (by simpa using hl6) css h3
  have a1 := Own.setAt (d := kRec.whenW kRecW F) a0 b0 hg (j := k) (i := 3) (c := cs.set 2 (.string r.ev.stream)) (by rw [List.getElem?_set_self hkl]) (by show 3 < 6; omega) (.string r.ev.type)
  rw [List.set_set] at a1
  have b1 := hall ((cs.set 2 (.string r.ev.stream)).set 3 (.string r.ev.type)) (by simpa using hl6) css h3
  have a2 := Own.setAt (d := kRec.whenW kRecW F) a1 b1 hg (j := k) (i := 4) (c := (cs.set 2 (.string r.ev.stream)).set 3 (.string r.ev.type)) (by rw [List.getElem?_set_self hkl]) (by show 4 < 6; omega) (.slice S r.ev.tags.length sa)
  rw [List.set_set] at a2
  have b2 := hall (((cs.set 2 (.string r.ev.stream)).set 3 (.string r.ev.type)).set 4 (.slice S r.ev.tags.length sa)) (by simpa using hl6) css h3
  have a3 := Own.setAt (d := kRec.whenW kRecW F) a2 b2 hg (j := k) (i := 5) (c := ((cs.set 2 (.string r.ev.stream)).set 3 (.string r.ev.type)).set 4 (.slice S r.ev.tags.length sa)) (by rw [List.getElem?_set_self hkl]) (by show 5 < 6; omega) (.slice T r.ev.fields.length ta)
  rw [List.set_set] at a3
  have hnew : (((cs.set 2 (.string r.ev.stream)).set 3 (.string r.ev.type)).set 4 (.slice S r.ev.tags.length sa)).set 5 (.slice T r.ev.fields.length ta) = [.int .i64 r.pos, .int .i64 r.ver, .string r.ev.stream, .string r.ev.type, .slice S r.ev.tags.length sa, .slice T r.ev.fields.length ta] := by rw [hcs]; rfl
  rw [hnew] at a3
  refine ⟨css.set k [.int .i64 r.pos, .int .i64 r.ver, .string r.ev.stream, .string r.ev.type, .slice S r.ev.tags.length sa, .slice T r.ev.fields.length ta], by rw [List.length_set]; exact a3, by simp [h2], hall _ rfl css h3, fun c hc => ?_, fun j x hj => ?_⟩
  · rcases List.mem_or_eq_of_mem_set hc with h | h
    · exact h4 _ h
    · rw [h]; simp [Value.oneCell']
  · have mv : ∀ {ok : Nat → Prop} {x : Rec × Bool} {c : List Value}, (∀ i, ok i → i ≠ g) → (kRec.whenW kRecW F).K ok w x c → (kRec.whenW kRecW F).K ok (set4 w g (k * 6 + 2) (.string r.ev.stream) (.string r.ev.type) (.slice S r.ev.tags.length sa) (.slice T r.ev.fields.length ta)) x c :=
      fun hn hx => Kn.stay hx hsv.size (fun i hi hlt => hsv.block i hlt (hn i hi))
    by_cases hjk : j = k
    · subst hjk
      have hx : (r, true) = x := by
        rw [List.getElem?_set_self (List.getElem?_eq_some_iff.1 hk).1] at hj
        exact Option.some.inj hj
      subst hx
      refine ⟨_, List.getElem?_set_self hkl, mv (fun i hi e => hi.2 (by rw [e, hg])) ?_⟩
      exact ⟨kRec_mk (hS.1.mono (fun i hi => ⟨trivial, fun e => hi.2 (by rw [hg] at e; exact Option.some.inj e)⟩)) (hT.1.mono (fun i hi => ⟨trivial, fun e => hi.2 (by rw [hg] at e; exact Option.some.inj e)⟩)), fun _ => kRecW_mk (hS.mono (fun i hi => ⟨⟨trivial, fun e => hi.2 (by rw [hg] at e; exact Option.some.inj e)⟩, hi.1⟩)) (hT.mono (fun i hi => ⟨⟨trivial, fun e => hi.2 (by rw [hg] at e; exact Option.some.inj e)⟩, hi.1⟩))⟩
    · rw [List.getElem?_set_ne (fun e => hjk e.symm)] at hj
      obtain ⟨c, h8, h9⟩ := h5 j x hj
      exact ⟨c, by rw [List.getElem?_set_ne (fun e => hjk e.symm)]; exact h8, mv (fun i hi e => hi.2 (by rw [e, hg])) h9⟩

set_option maxHeartbeats 2000000 in
theorem ownEW_any {w : World} {e : Event} {T F : Option Addr} {ct cf : Nat} (hT : SlS w T ct e.tags) (hF : SlF w F cf e.fields) (hok : OkE e) (hin : EvIn e) :
    Calls Try.prog 48 #[vEvent e T ct F cf] w fun r w' => ∃ (T' F' : Option Addr) (ct' cf' : Nat), r = .returned (vEvent e T' ct' F' cf') ∧ SlW Kn.str (fun k => w.heap.size ≤ k) w' T' ct' e.tags ∧ SlW kField (fun k => w.heap.size ≤ k) w' F' cf' e.fields ∧ Below w.heap.size w w' := by
  obtain ⟨W2, hW2⟩ : ∃ W2, W2 = (w.alloc (.cells #[.string e.stream, .string e.type, .slice T e.tags.length ct, .slice F e.fields.length cf] 25)).alloc (.cells #[.string ⟨#[]⟩, .string ⟨#[]⟩, .slice none 0 0, .slice none 0 0] 25) := ⟨_, rfl⟩
  have HW2 := Lib.hid hW2
  have hb2 : Below w.heap.size w W2 := by rw [hW2]; exact ((Below.refl _ _).alloc (Nat.le_refl _) _).alloc (by simp) _
  have hs2 : W2.heap.size = w.heap.size + 2 := by rw [hW2]; simp
  have x1 : Bx W2 w.heap.size 25 [.string e.stream, .string e.type, .slice T e.tags.length ct, .slice F e.fields.length cf] := by rw [hW2]; exact (Bx.new w _ _).alloc _
  have x2 : Bx W2 (w.heap.size + 1) 25 [.string ⟨#[]⟩, .string ⟨#[]⟩, .slice none 0 0, .slice none 0 0] := by
    rw [hW2]
    simpa using Bx.new (w.alloc (.cells #[.string e.stream, .string e.type, .slice T e.tags.length ct, .slice F e.fields.length cf] 25)) 25 [.string ⟨#[]⟩, .string ⟨#[]⟩, .slice none 0 0, .slice none 0 0]
  have C : Hid (Calls Try.prog 12 #[vEvent e T ct F cf] W2 fun r w' => ∃ (T' F' : Option Addr) (ct' cf' : Nat), r = .returned (.agg #[.string e.stream, .string e.type, .slice T' e.tags.length ct', .slice F' e.fields.length cf']) ∧ SlW Kn.str (fun k => W2.heap.size ≤ k) w' T' ct' e.tags ∧ SlW kField (fun k => W2.heap.size ≤ k) w' F' cf' e.fields ∧ Below W2.heap.size W2 w') := Lib.hid (by
    refine (normE_any (hT.below hb2) (hF.below hb2) hin.tl hin.fl hin.fs).mono ?_
    rintro r w' ⟨vt, vf, M, rfl, h1, h2, h3, _, hb⟩
    rw [uniq_of_rise hok.rt] at h1
    rw [normF_of_rise hok.rf] at h2
    obtain ⟨T', ct', rfl, h4⟩ := h1.slW
    obtain ⟨F', cf', rfl, h5⟩ := h2.slW
    exact ⟨T', F', ct', cf', rfl, h4.mono (fun k hk => hk.elim False.elim id), h5.mono (fun k hk => hk.elim False.elim (fun h => by omega)), hb⟩)
  have k0 := x1.cell 0
  have k1 := x1.cell 1
  have k2 := x1.cell 2
  have k3 := x1.cell 3
  simp only [List.getElem?_cons_succ, List.getElem?_cons_zero] at k0 k1 k2 k3
  have HX2 := Lib.hid x2
  have HB2 := Lib.hid hb2
  have HS2 := Lib.hid hs2
  clear hb2 x1 x2 hs2
  go_enter Try.func48, Try.ntmps48
  go_upto_region 1 with fail
  rw [← HW2.out]
  clear hW2
  go_wp2_with (go_at_call 12; go_fit C.out; rintro r w4 ⟨T', F', ct', cf', rfl, h1, h2, hb4⟩; have H1 := Lib.hid h1; have H2 := Lib.hid h2; have HX4 := Lib.hid (HX2.out.under hb4); have HB4 := Lib.hid (bthen HB2.out hb4); clear h1 h2 hb4; have j0 := HX4.out.cell 0; have j1 := HX4.out.cell 1; have j2 := HX4.out.cell 2; have j3 := HX4.out.cell 3; simp only [List.getElem?_cons_succ, List.getElem?_cons_zero] at j0 j1 j2 j3; have f0 := HX4.out.free 0; have f1 := HX4.out.free 1; have f2 := HX4.out.free 2; have f3 := HX4.out.free 3)
  have HX5 := Lib.hid (bx_set4 (u0 := .string e.stream) (u1 := .string e.type) (u2 := .slice T' e.tags.length ct') (u3 := .slice F' e.fields.length cf') HX4.out)
  have q0 := HX5.out.cell 0
  have q1 := HX5.out.cell 1
  have q2 := HX5.out.cell 2
  have q3 := HX5.out.cell 3
  simp only [List.getElem?_cons_succ, List.getElem?_cons_zero] at q0 q1 q2 q3
  refine bodyPost_ret (v := .agg #[.string e.stream, .string e.type, .slice T' e.tags.length ct', .slice F' e.fields.length cf']) (by simp [results, Try.results48, go_sem, q0, q1, q2, q3]) rfl ⟨T', F', ct', cf', rfl, ?_, ?_, ?_⟩
  · exact ((((H1.out.setCell (fun k hk => by have := HS2.out; simp; omega) _).setCell (fun k hk => by have := HS2.out; simp; omega) _).setCell (fun k hk => by have := HS2.out; simp; omega) _).setCell (fun k hk => by have := HS2.out; simp; omega) _).mono (fun k hk => by have := HS2.out; omega)
  · exact ((((H2.out.setCell (fun k hk => by have := HS2.out; simp; omega) _).setCell (fun k hk => by have := HS2.out; simp; omega) _).setCell (fun k hk => by have := HS2.out; simp; omega) _).setCell (fun k hk => by have := HS2.out; simp; omega) _).mono (fun k hk => by have := HS2.out; omega)
  · exact (((HB4.out.setCell (by simp) _).setCell (by simp) _).setCell (by simp) _).setCell (by simp) _
set_option maxHeartbeats 4000000 in
set_option maxRecDepth 8000 in
theorem toldW_any {ok : Nat → Prop} {w : World} {x : Value} {A : Option Addr} {c : Nat} {l : List Rec} (h : Sl kRec ok w A c l) (hl : l.length ≤ 1000000) (hok : ∀ r ∈ l, OkE r.ev) (hin : ∀ r ∈ l, EvIn r.ev) :
    Calls Try.prog 49 #[x, .slice A l.length c] w fun r w' => ∃ A' c', r = .returned (.slice A' l.length c') ∧ Own kRecW 49 w.heap.size (fun k => w.heap.size ≤ k) w' (.slice A' l.length c') l ∧ Below w.heap.size w w' := by
  have C := Lib.hid (cloneRecs_any h hl)
  have HOK := Lib.hid hok
  have HIN := Lib.hid hin
  clear h hok hin
  go_enter Try.func49, Try.ntmps49
  go_wp2_with (go_at_call 67; go_fit C.out; rintro r w2 ⟨v, rfl, hown, hb⟩; have HO := Lib.hid hown; have HB := Lib.hid hb; obtain ⟨A1, c1, hv, hlc, hcm, hw⟩ := hown.where_; subst hv; have HW := Lib.hid hw; clear hown hb hw)
  unfold maxLen at hcm
  go_loopw [11] (fun i wr => ∃ k : Nat, k ≤ l.length ∧ i = .int .i64 k ∧ Own (kRec.whenW kRecW (fun j => w.heap.size ≤ j)) 49 w.heap.size (fun _ => True) wr (.slice A1 l.length c1) (flag l k) ∧ Below w.heap.size w wr ∧ w2.heap.size ≤ wr.heap.size) (fun i _ => l.length - (intOf i).toNat)
  case atStart => exact ⟨0, Nat.zero_le _, rfl, by rw [flag_zero]; exact (HO.out.mono (fun _ _ => trivial)).whenW_no, HB.out, Nat.le_refl _⟩
  case round =>
    obtain ⟨k, hk, rfl, ho, hb, hsz⟩ := hrel
    by_cases hlt : k < l.length
    · obtain ⟨g, rfl, hg, hbg, hgl, _⟩ := HW.out (by omega)
      obtain ⟨ad, had⟩ : ∃ ad : Addr, ad = ⟨g, 0, none⟩ := ⟨_, rfl⟩
      have hro : Row kRec (fun _ => True) wr (some ⟨g, 0, none⟩) l := by
        have := (own_slF ho).any.2.2.unwhenW
        rwa [flag_fst] at this
      obtain ⟨_, _, _, _, _, hgw⟩ := ho.where_
      obtain ⟨g', hg1, hg2, _, hgl2, cs, hbx⟩ := hgw (by rw [flag_len]; omega)
      have hgg : g' = g := by rw [hg2] at hg; exact Option.some.inj hg
      subst hgg
      rw [← had] at hro
      obtain ⟨ad', S, sa, T, ta, e1, c0, c1', c2, c3, c4, c5, hS, hT⟩ := row_rec_at hro hlt
      injection e1 with e1
      subst e1
      have hA : ∀ i, (⟨(ad.add (k * 6)).block, (ad.add (k * 6)).off + i, none⟩ : Addr) = ⟨g', k * 6 + i, none⟩ := fun i => by rw [had, add0']
      have HA := Lib.hid hA
      have HA2 := Lib.hid (fun i => show (⟨(ad.add (k * 6)).block, (ad.add (k * 6)).off + 2 + i, none⟩ : Addr) = ⟨g', k * 6 + 2 + i, none⟩ by rw [had, add0'])
      have HADD := Lib.hid had
      have HOE := Lib.hid (HOK.out _ (List.getElem_mem hlt))
      have HIE := Lib.hid (HIN.out _ (List.getElem_mem hlt))
      have HFS := Lib.hid (flag_set l hlt)
      have HFA := Lib.hid (flag_at l hlt)
      have HO2 := Lib.hid ho
      have HBX := Lib.hid hbx
      have HB2 := Lib.hid hb
      have HG := Lib.hid hg2
      have HGL := Lib.hid hgl2
      clear c0 c1' hbx hg hg1 hg2 hro ho hb hA
      generalize l[k] = r at c2 c3 c4 c5 hS hT HOE HIE HFS HFA
      have C2 := Lib.hid (ownEW_any hS.any hT.any HOE.out HIE.out)
      have HCF := Lib.hid (fun (W : World) (hW : Below wr.heap.size wr W) => show W.cell? ⟨(ad.add (k * 6)).block, (ad.add (k * 6)).off + 2, none⟩ = some (.string r.ev.stream) ∧ W.cell? ⟨(ad.add (k * 6)).block, (ad.add (k * 6)).off + 3, none⟩ = some (.string r.ev.type) ∧ W.cell? ⟨(ad.add (k * 6)).block, (ad.add (k * 6)).off + 4, none⟩ = some (.slice S r.ev.tags.length sa) ∧ W.cell? ⟨(ad.add (k * 6)).block, (ad.add (k * 6)).off + 5, none⟩ = some (.slice T r.ev.fields.length ta) ∧
          W.frozen? ⟨(ad.add (k * 6)).block, (ad.add (k * 6)).off + 2, none⟩ = false ∧ W.frozen? ⟨(ad.add (k * 6)).block, (ad.add (k * 6)).off + 3, none⟩ = false ∧ W.frozen? ⟨(ad.add (k * 6)).block, (ad.add (k * 6)).off + 4, none⟩ = false ∧ W.frozen? ⟨(ad.add (k * 6)).block, (ad.add (k * 6)).off + 5, none⟩ = false from by
        rw [HA.out, HA.out, HA.out, HA.out] at *
        have hB := HBX.out.under hW
        exact ⟨(hW.cell (p := ⟨g', k * 6 + 2, none⟩) HGL.out).trans c2, (hW.cell (p := ⟨g', k * 6 + 3, none⟩) HGL.out).trans c3, (hW.cell (p := ⟨g', k * 6 + 4, none⟩) HGL.out).trans c4, (hW.cell (p := ⟨g', k * 6 + 5, none⟩) HGL.out).trans c5, hB.free _, hB.free _, hB.free _, hB.free _⟩)
      have i1 : (0 : Int) ≤ (k : Int) := Int.natCast_nonneg _
      have i2 : (k : Int) < (l.length : Int) := by omega
      clear hS hT
      rw [← had]
      clear had
      go_wp2_with (go_at_call 48; go_fit C2.out; rintro r4 w4 ⟨T', F', ct', cf', rfl, h1, h2, hb4⟩; have H1 := Lib.hid h1; have H2 := Lib.hid h2; have HB4 := Lib.hid hb4; obtain ⟨j2, j3, j4, j5, f2, f3, f4, f5⟩ := HCF.out _ hb4; clear h1 h2 hb4)
      go_roundw
      case rel =>
        refine ⟨k + 1, by omega, by go_num, ?_, ?_, ?_⟩
        · have hsv := (HO2.out.below HB4.out).setEvW (r := r) HG.out HFA.out (H1.out.mono (fun j hj => ⟨by have := HB2.out.size; omega, by have := HGL.out; omega⟩)) (H2.out.mono (fun j hj => ⟨by have := HB2.out.size; omega, by have := HGL.out; omega⟩))
          rw [HFS.out] at hsv
          rw [HA.out, HA2.out, HA2.out, HA2.out, HADD.out]
          exact hsv
        · rw [HA.out, HA2.out, HA2.out, HA2.out]
          exact ((((bthen HB2.out HB4.out).setCell (by exact hbg) _).setCell (by exact hbg) _).setCell (by exact hbg) _).setCell (by exact hbg) _
        · have := HB4.out.size
          simp [World.setCell]
          omega
      case measure => simp [intOf]; omega
    · obtain rfl : k = l.length := by omega
      rw [flag_all l (Nat.le_refl _)] at ho
      have HS := Lib.hid (ho.whenW_yes.mono (ok' := fun j => w.heap.size ≤ j) (fun j hj => hj.2))
      have HB3 := Lib.hid hb
      clear ho hb
      go_wp2_with fail
      go_ret
      exact ⟨A1, c1, rfl, HS.out, HB3.out⟩
end Go.Proofs.Ytfoghahidofegaa

namespace Go.Proofs.Ytfoghahidofegaa
open Go.RowKit Go.Maps

section
variable {w : World} {B : Six} {es : List Event} {X : Nat → Prop}
set_option maxHeartbeats 8000000 in
set_option maxRecDepth 100000 in
theorem iAddOkW (h : Ix w B es X) {E : Option Addr} {ce : Nat} {bs : List Event} {after : Int} (hE : Sl kEvent (fun k => ¬ B.has k) w E ce bs) (hg : ∀ e ∈ bs, EvIn e) (hl : (es ++ bs).length ≤ 880) (hyes : addErr es after bs = 0) :
    Calls Try.prog 18 #[.pointer (some ⟨B.b, 0, none⟩), .agg #[.int .i64 after, .slice E bs.length ce]] w fun r w' => ∃ (A' : Option Addr) (c' K : Nat), r = .returned (.tuple #[.slice A' bs.length c', .int .i64 0]) ∧ Own kRecW 49 K (fun k => K ≤ k) w' (.slice A' bs.length c') (recsFrom es bs) ∧ w.heap.size ≤ K ∧
      Ix w' B (es ++ bs) (fun k => X k ∨ (K ≤ k ∧ k < w'.heap.size)) ∧ But B.has w w' := by
  obtain ⟨hmay, hae⟩ := addErr_ok hyes
  obtain ⟨hb0, hb16, hoks, _, _⟩ := mayB_ok hmay
  obtain ⟨W1, hW1⟩ : ∃ W1, W1 = w.alloc (.cells #[.int .i64 after, .slice E bs.length ce] 43) := ⟨_, rfl⟩
  have HW1 := Lib.hid hW1
  have hb1 : Below w.heap.size w W1 := by rw [hW1]; exact (Below.refl _ _).alloc (Nat.le_refl _) _
  have hxb : Bx W1 w.heap.size 43 [.int .i64 after, .slice E bs.length ce] := by rw [hW1]; exact Bx.new w _ _
  have h1 := h.below hb1
  have C := Lib.hid (batchMay_any (after := after) (hE.any.below hb1) hg)
  rw [hmay] at C
  obtain ⟨A0, c0, hx0, hr0, hn0⟩ := h.rs
  have hc0 := hr0.1
  rw [recsOf_len] at hc0
  have hcm := hr0.2.1
  unfold maxLen at hcm
  have HB1 := Lib.hid hb1
  have H := Lib.hid h
  have HXB := Lib.hid hxb
  have HX0 := Lib.hid hx0
  have HR0 := Lib.hid hr0
  have HN0 := Lib.hid hn0
  have HOKS := Lib.hid hoks
  have HG := Lib.hid hg
  have HE := Lib.hid hE
  have HL := Lib.hid hl
  have hece := hE.1
  have hcem := hE.2.1
  unfold maxLen at hcem
  have k0 := hxb.cell 0
  have k1 := hxb.cell 1
  simp only [List.getElem?_cons_succ, List.getElem?_cons_zero] at k0 k1
  have hne : (after != (es.length : Int)) = false := by simp [hae]
  have hes : es.length ≤ 880 := by rw [List.length_append] at hl; omega
  clear h h1 hE hg hb1 hxb hmay hae hyes hoks hx0 hr0 hn0 hl
  go_enter Try.func18, Try.ntmps18
  go_upto_region 1 with fail
  rw [← HW1.out]
  clear hW1
  go_upto_region 4 with (go_at_call 45; go_fit C.out; rintro r w2 ⟨rfl, hb2⟩; have HB2 := Lib.hid hb2; clear hb2)
  have HK : Hid (∀ W, Below w2.heap.size w2 W → Below w2.heap.size w2 W ∧ W.cell? ⟨w.heap.size, 0, none⟩ = some (.int .i64 after)) := Lib.hid (fun W hW => ⟨hW, ((HXB.out.under HB2.out).under hW).cell 0⟩)
  have C2 : Hid (∀ W, Below w2.heap.size w2 W ∧ W.cell? ⟨w.heap.size, 0, none⟩ = some (.int .i64 after) → Calls Try.prog 17 #[.pointer (some ⟨B.b, 0, none⟩)] W fun r w' => r = .returned (.int .i64 es.length) ∧ W = w') := Lib.hid (fun W hW => iLast (((H.out.below HB1.out).below HB2.out).below hW.1))
  clear k0 k1
  go_cut [23] (fun v wx => v = .bool false ∧ Below w2.heap.size w2 wx)
  case first =>
    go_region_held3 (fun W => Below w2.heap.size w2 W ∧ W.cell? ⟨w.heap.size, 0, none⟩ = some (.int .i64 after)) (first | exact HK.out _ (below_drawn (Below.refl _ _)) | (assumption)) (first | (go_at_call 17; go_fit (C2.out _ (by assumption)); rintro r w4 ⟨rfl, rfl⟩))
    all_goals go_wp2_with fail
    all_goals go_meet
    all_goals exact ⟨rfl, below_drawn (Below.refl _ _)⟩
  case rest =>
    obtain ⟨rfl, hbc⟩ := hcut
    have HBC := Lib.hid (bthen HB2.out hbc)
    clear hbc HK C2 hne
    go_upto_region 6 with fail
    have HX6 := Lib.hid ((HX0.out.under HB1.out).under HBC.out)
    have HK : Hid (∀ W, Below wc.heap.size wc W → Below wc.heap.size wc W ∧ W.cell? ⟨B.b, 0, none⟩ = some (.slice A0 es.length c0)) := Lib.hid (fun W hW => ⟨hW, (HX6.out.under hW).cell 0⟩)
    have b0 : (0 : Int) ≤ (es.length : Int) := Int.natCast_nonneg _
    have b1 : (es.length : Int) ≤ (c0 : Int) := by omega
    go_cut [7] (fun v wx => v = .slice A0 es.length es.length ∧ Below wc.heap.size wc wx)
    case first =>
      go_region_held3 (fun W => Below wc.heap.size wc W ∧ W.cell? ⟨B.b, 0, none⟩ = some (.slice A0 es.length c0)) (first | exact HK.out _ (below_drawn (Below.refl _ _)) | (assumption)) (fail)
      all_goals go_wp2_with fail
      all_goals go_meet
      all_goals exact ⟨rfl, below_drawn (Below.refl _ _)⟩
    case rest =>
      obtain ⟨rfl, hbd⟩ := hcut
      have HBD := Lib.hid (bthen HB1.out (bthen HBC.out hbd))
      have HXB2 := Lib.hid ((HXB.out.under HBC.out).under hbd)
      have HIM := Lib.hid (Im.start H.out HBD.out HX0.out HR0.out HN0.out HXB2.out)
      have k1 := HXB2.out.cell 1
      simp only [List.getElem?_cons_succ, List.getElem?_cons_zero] at k1
      clear hbd HX6 HK b1 HXB2 HBC
      go_upto_region 8 with fail
      go_loopw [7, 42] (fun v i wr => ∃ (k : Nat) (g : Option Nat), k ≤ bs.length ∧ i = .int .i64 k ∧ Hid (Im w B es X A0 c0 [.int .i64 after, .slice E bs.length ce] (bs.take k) (bs.take k) (bs.take k) v g wr)) (fun _ i _ => bs.length - (intOf i).toNat)
      case atStart => exact ⟨0, none, Nat.zero_le _, rfl, HIM⟩
      case round =>
        clear HIM k1
        obtain ⟨k, g, hk, rfl, him⟩ := hrel
        obtain ⟨A1, c1, hv, hs7⟩ := him.out.nx.slice
        have hlen : (recsOf (es ++ bs.take k)).length = es.length + k := by rw [recsOf_len, List.length_append, List.length_take]; omega
        rw [hlen] at hv
        have hc1 := hs7.1
        rw [hlen] at hc1
        have hc1m := hs7.2.1
        unfold maxLen at hc1m
        have HS7 := Lib.hid hs7
        clear hs7
        by_cases hlt : k < bs.length
        · have hE2 : Sl kEvent (fun k => ¬ B.has k) wr E ce bs := HE.out.stay him.out.but.size (fun j hj hl => him.out.but.block j hl hj)
          obtain ⟨ad, S, sa, T, ta, rfl, c0', c1', c2', c3', hS, hT⟩ := row_ev_at hE2.2.2 hlt
          have HTK := Lib.hid (show bs.take (k + 1) = bs.take k ++ [bs[k]] from List.take_succ_eq_append_getElem hlt)
          have HOK := Lib.hid (HOKS.out _ (List.getElem_mem hlt))
          have HIN := Lib.hid (HG.out _ (List.getElem_mem hlt))
          generalize bs[k] = f at c0' c1' c2' c3' hS hT HTK HOK HIN
          have hwr : w.heap.size ≤ wr.heap.size := him.out.but.size
          obtain ⟨X0, hX0⟩ : ∃ X0, X0 = wr.alloc (.cells #[.string f.stream, .string f.type, .slice S f.tags.length sa, .slice T f.fields.length ta] 25) := ⟨_, rfl⟩
          have hA : Below wr.heap.size wr X0 := by rw [hX0]; exact (Below.refl _ _).alloc (Nat.le_refl _) _
          have HX0E := Lib.hid hX0
          have HEB := Lib.hid (show EvB w B wr.heap.size f S T sa ta X0 from ⟨by rw [hX0]; exact Bx.new wr _ _, hS.below hA, hT.below hA, fun hB => by have := him.out.lt _ hB; omega⟩)
          have HIM1 := Lib.hid (him.out.below hA)
          have hNl : (es ++ bs.take k).length = es.length + k := by rw [List.length_append, List.length_take]; omega
          have CT := Lib.hid ((HIM1.out.below (below_drawn (Below.refl _ _))).cAddT (f := f) (pos := ((es.length + k : Nat) : Int) + 1) (by rw [hNl]; omega) HIN.out.st (by rw [hNl]))
          have HNL := Lib.hid hNl
          have j1 : X0.cell? ⟨B.b, 1, none⟩ = some (.pointer (some ⟨B.bt, 0, none⟩)) := HIM1.out.bx.cell 1
          have j2 : X0.cell? ⟨wr.heap.size, 0, none⟩ = some (.string f.stream) := HEB.out.cells.1
          obtain ⟨N, hN⟩ : ∃ N, N = es.length + k := ⟨_, rfl⟩
          have hNb : N ≤ 880 := by have := HL.out; rw [List.length_append] at this; omega
          rw [← hN] at CT HNL hv hlen hc1
          have HLEN := Lib.hid hlen
          have HNE := Lib.hid hN
          have HIM0 := him
          subst hv
          clear hX0 hE2 hS hT hA hNl hN hlen him
          have i1 : (0 : Int) ≤ (k : Int) := Int.natCast_nonneg _
          have i2 : (k : Int) < (bs.length : Int) := by omega
          go_upto_region 11 with fail
          rw [← HX0E.out]
          clear c0' c1' c2' c3'
          go_cut [11, 12] (fun v e wx => v = .int .i64 ((cntS (es ++ bs.take k) f.stream : Int) + 1) ∧ e = .int .i64 0 ∧ Im w B es X A0 c0 [.int .i64 after, .slice (some ad) bs.length ce] (bs.take k ++ [f]) (bs.take k) (bs.take k) (.slice A1 N c1) g wx ∧ EvB w B wr.heap.size f S T sa ta wx ∧ But B.has X0 wx)
          case first =>
            go_region_held3 (fun W => W.cell? ⟨B.b, 1, none⟩ = some (.pointer (some ⟨B.bt, 0, none⟩)) ∧ W.cell? ⟨wr.heap.size, 0, none⟩ = some (.string f.stream)) (first | exact ⟨j1, j2⟩ | exact HS4.out | (assumption))
              (first | (go_at_call 46; go_fit CT.out; rintro r w4 ⟨rfl, him4, hbut4⟩; have HIM4 := Lib.hid him4; have HBUT4 := Lib.hid hbut4; have HS4 := Lib.hid (show w4.cell? ⟨B.b, 1, none⟩ = some (.pointer (some ⟨B.bt, 0, none⟩)) ∧ w4.cell? ⟨wr.heap.size, 0, none⟩ = some (.string f.stream) from ⟨him4.bx.cell 1, ((HEB.out.stay (But.of_below (below_drawn (Below.refl _ _)))).stay hbut4).cells.1⟩); clear him4 hbut4))
            all_goals go_wp2_with fail
            all_goals go_meet
            all_goals exact ⟨rfl, rfl, HIM4.out, (HEB.out.stay (But.of_below (below_drawn (Below.refl _ _)))).stay HBUT4.out, (But.of_below (below_drawn (Below.refl _ _))).trans HBUT4.out⟩
          case rest =>
            obtain ⟨rfl, rfl, him4, heb4, hbut4⟩ := hcut
            have HIM4 := Lib.hid him4
            have HEB4 := Lib.hid heb4
            have HSZ4 := Lib.hid (hbut4.size)
            clear him4 heb4 hbut4 CT j1 j2
            go_upto_region 13 with fail
            have CP := Lib.hid ((HIM4.out.below (below_drawn (Below.refl _ _))).cAddP (f := f) (T := S) (F := T) (ct := sa) (cf := ta) (pos := (N : Int) + 1) (by rw [HNL.out]; omega) (HEB4.out.stay (But.of_below (below_drawn (Below.refl _ _)))).ts HOK.out HIN.out (by rw [HNL.out]))
            have HS0 := Lib.hid (show wc.cell? ⟨B.b, 2, none⟩ = some (.pointer (some ⟨B.p, 0, none⟩)) ∧ wc.cell? ⟨wr.heap.size, 0, none⟩ = some (.string f.stream) ∧ wc.cell? ⟨wr.heap.size, 1, none⟩ = some (.string f.type) ∧ wc.cell? ⟨wr.heap.size, 2, none⟩ = some (.slice S f.tags.length sa) ∧ wc.cell? ⟨wr.heap.size, 3, none⟩ = some (.slice T f.fields.length ta) from ⟨HIM4.out.bx.cell 2, HEB4.out.cells⟩)
            go_cut [12] (fun e wx => e = .int .i64 0 ∧ Im w B es X A0 c0 [.int .i64 after, .slice (some ad) bs.length ce] (bs.take k ++ [f]) (bs.take k ++ [f]) (bs.take k) (.slice A1 N c1) g wx ∧ EvB w B wr.heap.size f S T sa ta wx ∧ wc.heap.size ≤ wx.heap.size)
            case first =>
              go_region_held3 (fun W => W.cell? ⟨B.b, 2, none⟩ = some (.pointer (some ⟨B.p, 0, none⟩)) ∧ W.cell? ⟨wr.heap.size, 0, none⟩ = some (.string f.stream) ∧ W.cell? ⟨wr.heap.size, 1, none⟩ = some (.string f.type) ∧ W.cell? ⟨wr.heap.size, 2, none⟩ = some (.slice S f.tags.length sa) ∧ W.cell? ⟨wr.heap.size, 3, none⟩ = some (.slice T f.fields.length ta)) (first | exact HS0.out | exact HS5.out | (assumption))
                (first | (go_at_call 47; go_fit CP.out; rintro r w5 ⟨rfl, him5, hbut5⟩; have HIM5 := Lib.hid him5; have HEB5 := Lib.hid ((HEB4.out.stay (But.of_below (below_drawn (Below.refl _ _)))).stay hbut5); have HSZ5 := Lib.hid (show wc.heap.size ≤ w5.heap.size from hbut5.size); have HS5 := Lib.hid (show w5.cell? ⟨B.b, 2, none⟩ = some (.pointer (some ⟨B.p, 0, none⟩)) ∧ w5.cell? ⟨wr.heap.size, 0, none⟩ = some (.string f.stream) ∧ w5.cell? ⟨wr.heap.size, 1, none⟩ = some (.string f.type) ∧ w5.cell? ⟨wr.heap.size, 2, none⟩ = some (.slice S f.tags.length sa) ∧ w5.cell? ⟨wr.heap.size, 3, none⟩ = some (.slice T f.fields.length ta) from ⟨him5.bx.cell 2, HEB5.out.cells⟩); clear him5 hbut5))
              all_goals go_wp2_with fail
              all_goals go_meet
              all_goals exact ⟨rfl, HIM5.out, HEB5.out, HSZ5.out⟩
            case rest =>
              obtain ⟨rfl, him5, heb5, hsz5⟩ := hcut
              have HIM5 := Lib.hid him5
              have HEB5 := Lib.hid heb5
              have C7 := Lib.hid (ownE_any (HEB5.out.ts.any) (HEB5.out.fs.any) HOK.out HIN.out)
              obtain ⟨j0, j1, j2, j3⟩ := heb5.cells
              have hsz := Nat.le_trans HSZ4.out hsz5
              clear him5 heb5 CP HS0
              have hx0s : X0.heap.size = wr.heap.size + 1 := by rw [HX0E.out]; simp
              have HFR := Lib.hid (fun j (hj : wc.heap.size ≤ j) => show (¬ B.has j ∧ ¬ X j) ∧ some j ≠ g from ⟨⟨fun hB => by have := HIM5.out.lt j hB; omega, fun hX => by have := HIM5.out.xlt j hX; omega⟩, fun e => by have := (HIM5.out.nx.lt e.symm).2; omega⟩)
              have HSW := Lib.hid (show w.heap.size + 1 ≤ wc.heap.size by omega)
              clear hsz5 hsz hx0s
              go_wp2_with (first
                | (go_at_call 48; go_fit C7.out; rintro r w7 ⟨T', F', ct', cf', rfl, h71, h72, hb7⟩; have H71 := Lib.hid h71; have H72 := Lib.hid h72; have HB7 := Lib.hid hb7; have hs7 := hb7.size; clear h71 h72 hb7)
                | (at_builtin; refine wpList_pushN (W := w7) rfl _ _ _ rfl 49 _ 6 96 Try.underlying40 infoRec rfl (by decide) (by decide) rfl (w.heap.size + 1) (fun j => ¬ B.has j ∧ ¬ X j) (.slice A1 N c1) (recsOf (es ++ bs.take k)) g rfl (HIM5.out.below HB7.out).nx ⟨(N : Int) + 1, (cntS (es ++ bs.take k) f.stream : Int) + 1, f⟩ [.int .i64 ((N : Int) + 1), .int .i64 ((cntS (es ++ bs.take k) f.stream : Int) + 1), .string f.stream, .string f.type, .slice T' f.tags.length ct', .slice F' f.fields.length cf'] (kRec_mk (H71.out.mono (fun j hj => HFR.out j hj)) (H72.out.mono (fun j hj => HFR.out j hj))) w7.heap.size rfl rfl (by have := HSW.out; omega) (by rw [HLEN.out]; omega) ?_; intro v1 w8 g1 hn1 hg1 hgg1; have HP := Lib.hid (show Im w B es X A0 c0 [.int .i64 after, .slice (some ad) bs.length ce] (bs.take k ++ [f]) (bs.take k ++ [f]) (bs.take k ++ [f]) v1 g1 w8 from (HIM5.out.below HB7.out).push (by rw [HNL.out]; exact hn1) hg1 hgg1); clear hn1 hg1 hgg1))
              go_roundw
              case rel => exact ⟨k + 1, g1, by omega, by go_num, Lib.hid (by rw [HTK.out]; exact HP.out)⟩
              case measure => simp [intOf]; omega
        · obtain rfl : k = bs.length := by omega
          rw [List.take_length] at him hlen HS7
          have HLEN := Lib.hid hlen
          subst hv
          have hsl := HS7.out
          have hx0 := him.out.bx.cell 0
          have hfz := him.out.bx.free 0
          simp only [List.getElem?_cons_zero] at hx0
          have HIM := him
          have hdr : (recsOf (es ++ bs)).drop es.length = recsFrom es bs := by rw [recsOf_append, List.drop_left' (recsOf_len es)]
          obtain ⟨N, hN⟩ : ∃ N, N = es.length + bs.length := ⟨_, rfl⟩
          rw [← hN] at HLEN hc1 ⊢
          have hNn : es.length ≠ c1 := by omega
          have hcut := Row.cut (k := es.length) (cap := c1) hsl.2.2 hsl.1
          rw [hdr, if_neg (fun e => hNn e.symm)] at hcut
          obtain ⟨ad1, rfl⟩ : ∃ ad1, A1 = some ad1 := by
            cases A1 with
            | none => have := hsl.none_nil'; have h9 := HLEN.out; rw [this] at h9; simp at h9; omega
            | some ad1 => exact ⟨ad1, rfl⟩
          have hfl : (recsFrom es bs).length = bs.length := recsFrom_len _ _
          have hslc : Sl kRec (fun j => (¬ B.has j ∧ ¬ X j) ∨ w.heap.size + 1 ≤ j) wr (some (ad1.add (es.length * 6))) (c1 - es.length) (recsFrom es bs) := ⟨by rw [hfl]; omega, by unfold maxLen; omega, hcut⟩
          have hmem : ∀ r ∈ recsFrom es bs, r.ev ∈ bs := fun r hr => (recsFrom_lo hr).2.2
          have C18 := Lib.hid (toldW_any (x := .pointer (some ⟨B.b, 0, none⟩)) hslc (by rw [hfl]; omega) (fun r hr => HOKS.out _ (hmem r hr)) (fun r hr => HG.out _ (hmem r hr)))
          rw [hfl] at C18
          have i1 : (es.length : Int) ≤ (N : Int) := by omega
          have i2 : es.length ≤ N := by omega
          have i3 : N ≤ c1 := by omega
          have hsub : N - es.length = bs.length := by omega
          have HSUB := Lib.hid hN
          clear hlen HS7 hsl hdr hcut hslc hfl hmem him hN
          go_wp2_with (go_at_call 49; go_fit C18.out; rintro r w9 ⟨A9, c9, rfl, h9, hb9⟩; have H9 := Lib.hid h9; have HB9 := Lib.hid hb9; have y0 := (HIM.out.bx.under hb9).cell 0; simp only [List.getElem?_cons_zero] at y0; have yf := (HIM.out.bx.under hb9).free 0; clear h9 hb9)
          go_ret2
          have hfin := HIM.out.finish H.out.ok H.out.inn HOKS.out HG.out (by have := HL.out; omega) (fun e => by rw [e] at hb0; exact absurd hb0 (by decide)) H.out.xb HB9.out
          rw [← HSUB.out] at hfin
          have hBlt := HIM.out.lt B.b (.inl rfl)
          have hws := HIM.out.but.size
          refine ⟨A9, c9, wr.heap.size, rfl, H9.out.setCell (p := ⟨B.b, 0, none⟩) (fun j hj => by show j ≠ B.b; omega) (fun j hj => by show j ≠ B.b; have := H9.out.base_le j hj; omega) _, hws, ?_, hfin.2⟩
          have h10 := hfin.1
          rwa [show w9.heap.size = (w9.setCell ⟨B.b, 0, none⟩ (.slice (some ad1) N c1)).heap.size by simp [World.setCell]] at h10
end
section
variable {w : World} {B : Six} {es : List Event} {X : Nat → Prop}
set_option maxHeartbeats 2000000 in
theorem iAllW (h : Ix w B es X) (x : Int) : Calls Try.prog 20 #[.pointer (some ⟨B.b, 0, none⟩), .int .i64 x] w fun r w' => ∃ (A' : Option Addr) (c' : Nat), r = .returned (.slice A' (allR es x).length c') ∧ Own kRecW 49 w.heap.size (fun k => w.heap.size ≤ k) w' (.slice A' (allR es x).length c') (allR es x) ∧ Below w.heap.size w w' := by
  obtain ⟨A, c, hx, hrs, _⟩ := h.rs
  have hln := h.len
  obtain ⟨m, hm⟩ : ∃ m : Nat, (m : Int) = min (max x 0) (es.length : Int) := ⟨(min (max x 0) (es.length : Int)).toNat, by omega⟩
  have hal : allR es x = (recsOf es).take m := by rw [allR_clip, ← hm]; rfl
  have hml : m ≤ es.length := by omega
  have hlen : (allR es x).length = m := by rw [hal, List.length_take, recsOf_len]; omega
  have C : Hid (∀ W, Below w.heap.size w W ∧ W.cell? ⟨B.b, 0, none⟩ = some (.slice A es.length c) → Calls Try.prog 49 #[.pointer (some ⟨B.b, 0, none⟩), .slice A m c] W fun r w' => (∃ A' c', r = .returned (.slice A' m c') ∧ Own kRecW 49 W.heap.size (fun k => W.heap.size ≤ k) w' (.slice A' m c') (allR es x)) ∧ Below W.heap.size W w') := Lib.hid (fun W hW => by
    have := toldW_any (x := .pointer (some ⟨B.b, 0, none⟩)) ((hrs.below hW.1).take m) (by rw [← hal, hlen]; omega) (fun r hr => h.recOk r (List.mem_of_mem_take hr)) (fun r hr => h.recIn r (List.mem_of_mem_take hr))
    rw [← hal, hlen] at this
    exact this.mono fun r w' ⟨A', c', h1, h2, h3⟩ => ⟨⟨A', c', h1, h2⟩, h3⟩)
  rw [hlen]
  have HX := Lib.hid hx
  have HK : Hid (∀ W, Below w.heap.size w W → Below w.heap.size w W ∧ W.cell? ⟨B.b, 0, none⟩ = some (.slice A es.length c)) := Lib.hid (fun W hW => ⟨hW, (HX.out.under hW).cell 0⟩)
  have hc1 := hrs.1
  rw [recsOf_len] at hc1
  have hc2 := hrs.2.1
  unfold maxLen at hc2
  have b0 : (0 : Int) ≤ (m : Int) := Int.natCast_nonneg _
  have b1 : (m : Int) ≤ (c : Int) := by omega
  have b2 : m ≤ c := by omega
  have hm2 : min (max x 0) (es.length : Int) = (m : Int) := hm.symm
  clear h hx hrs hal hlen hm
  go_enter Try.func20, Try.ntmps20
  go_wp2_with fail
  go_region_held3 (fun W => Below w.heap.size w W ∧ W.cell? ⟨B.b, 0, none⟩ = some (.slice A es.length c)) (first | exact HK.out _ (below_drawn (Below.refl _ _)) | (assumption) | exact HK.out _ (bthen (And.left (by assumption : Below w.heap.size w _ ∧ _)) (by assumption))) (first | (go_at_call 49; go_fit (C.out _ (by assumption)); rintro r w' ⟨⟨A', c', rfl, hsl'⟩, hb⟩; have HSL := Lib.hid hsl'; clear hsl'))
  all_goals go_wp2
  all_goals go_ret
  all_goals exact ⟨A', c', rfl, HSL.out, And.left (by assumption : Below w.heap.size w w' ∧ _)⟩
end
end Go.Proofs.Ytfoghahidofegaa

namespace Go.Proofs.Ytfoghahidofegaa
open Go.RowKit Go.Maps

set_option maxHeartbeats 4000000 in
set_option maxRecDepth 8000 in
theorem spoil14_any {w : World} {s t : ByteArray} {T F : Option Addr} {n m ct cf : Nat} {P : Nat → Prop} (hT : Sp w T n P) (hF : Sp w F (m * 2) P) (hn : n ≤ 1000000) (hm : m ≤ 1000000) :
    Calls Try.prog 19 #[.agg #[.string s, .string t, .slice T n ct, .slice F m cf]] w fun r w' => r = .returned (.tuple #[]) ∧ Spoil P w w' := by
  obtain ⟨W1, hW1⟩ : ∃ W1, W1 = w.alloc (.cells #[.string s, .string t, .slice T n ct, .slice F m cf] 25) := ⟨_, rfl⟩
  have HW1 := Lib.hid hW1
  have hb1 : Below w.heap.size w W1 := by rw [hW1]; exact (Below.refl _ _).alloc (Nat.le_refl _) _
  have hx : Bx W1 w.heap.size 25 [.string s, .string t, .slice T n ct, .slice F m cf] := by rw [hW1]; exact Bx.new w _ _
  have HS1 := Lib.hid (Spoil.of_below (P := P) hb1)
  have HX := Lib.hid hx
  have HT := Lib.hid hT
  have HF := Lib.hid hF
  clear hT hF hb1 hx
  go_enter Try.func19, Try.ntmps19
  go_upto_region 1 with fail
  rw [← HW1.out]
  clear hW1 HW1
  go_wp2_with fail
  go_loopw [2] (fun i wr => ∃ k : Nat, k ≤ n ∧ i = .int .i64 k ∧ Spoil P w wr ∧ Bx wr w.heap.size 25 [.string s, .string t, .slice T n ct, .slice F m cf]) (fun i _ => n - (intOf i).toNat)
  case atStart => exact ⟨0, Nat.zero_le _, rfl, HS1.out, HX.out⟩
  case round =>
    obtain ⟨k, hk, rfl, hs, hx⟩ := hrel
    have x2 := hx.cell 2
    simp only [List.getElem?_cons_succ, List.getElem?_cons_zero] at x2
    have HS := Lib.hid hs
    have HX2 := Lib.hid hx
    clear hs hx
    by_cases hlt : k < n
    · obtain ⟨ad, u, rfl, hp, hb, hz, hc⟩ := HT.out.spoil HS.out k hlt
      obtain ⟨ad2, _, e2, _, hbw, _, _⟩ := HT.out k hlt
      injection e2 with e2
      subst e2
      have hfr := hz.at_ k
      have HP := Lib.hid hp
      have hne : w.heap.size ≠ ad.block := by omega
      have HSET := Lib.hid (fun v => show Spoil P w (wr.setCell (ad.add k) v) from HS.out.trans (Spoil.set (by rw [block_add]; exact HP.out) v))
      have HXX := Lib.hid (fun v => HX2.out.far (p := ad.add k) (by rw [block_add]; exact hne) v)
      have i1 : (0 : Int) ≤ (k : Int) := Int.natCast_nonneg _
      have i2 : (k : Int) < (n : Int) := by omega
      clear hp hz
      go_wp2_with fail
      go_roundw
      case rel => exact ⟨k + 1, by omega, by go_num, HSET.out _, HXX.out _⟩
      case measure => simp [intOf]; omega
    · obtain rfl : n = k := by omega
      go_wp2_with fail
      go_loopw [3] (fun i wr => ∃ k : Nat, k ≤ m ∧ i = .int .i64 k ∧ Spoil P w wr ∧ Bx wr w.heap.size 25 [.string s, .string t, .slice T n ct, .slice F m cf]) (fun i _ => m - (intOf i).toNat)
      case atStart => exact ⟨0, Nat.zero_le _, rfl, HS.out, HX2.out⟩
      case round =>
        clear HS HX2 x2
        obtain ⟨j, hj, rfl, hs, hx⟩ := hrel
        have x3 := hx.cell 3
        simp only [List.getElem?_cons_succ, List.getElem?_cons_zero] at x3
        have HS := Lib.hid hs
        have HX2 := Lib.hid hx
        clear hs hx
        by_cases hlt : j < m
        · obtain ⟨ad, u, rfl, hp, hb, hz, hc⟩ := HF.out.spoil HS.out (j * 2 + 1) (by omega)
          obtain ⟨ad2, _, e2, _, hbw, _, _⟩ := HF.out (j * 2 + 1) (by omega)
          injection e2 with e2
          subst e2
          have hfr := hz.at_ (j * 2 + 1)
          rw [add_field _ _ _ (by omega)] at hfr hc
          have HP := Lib.hid hp
          have hne : w.heap.size ≠ ad.block := by omega
          have HSET := Lib.hid (fun v => show Spoil P w (wr.setCell ⟨(ad.add (j * 2)).block, (ad.add (j * 2)).off + 1, none⟩ v) from HS.out.trans (Spoil.set (by show P (ad.add (j * 2)).block; rw [block_add]; exact HP.out) v))
          have HXX := Lib.hid (fun v => HX2.out.far (p := ⟨(ad.add (j * 2)).block, (ad.add (j * 2)).off + 1, none⟩) (by show w.heap.size ≠ (ad.add (j * 2)).block; rw [block_add]; exact hne) v)
          have i1 : (0 : Int) ≤ (j : Int) := Int.natCast_nonneg _
          have i2 : (j : Int) < (m : Int) := by omega
          clear hp hz
          go_wp2_with fail
          go_roundw
          case rel => exact ⟨j + 1, by omega, by go_num, HSET.out _, HXX.out _⟩
          case measure => simp [intOf]; omega
        · obtain rfl : j = m := by omega
          go_wp2_with fail
          refine bodyPost_end (results_none rfl _ _ _) rfl ?_
          exact ⟨rfl, HS.out⟩
end Go.Proofs.Ytfoghahidofegaa

namespace Go.Proofs.Ytfoghahidofegaa
open Go.RowKit Go.Maps

theorem Own.bound_ {α : Type} {d : Kn α} {e : TypeId} {base : Nat} {ok : Nat → Prop} {w : World} {v : Value} {xs : List α} (h : Own d e base ok w v xs) : Own d e base (fun k => ok k ∧ k < w.heap.size) w v xs := by
  obtain ⟨css, h1, h2, h3, h4, h5⟩ := h
  refine ⟨css, h1, h2, h3, h4, fun j x hj => ?_⟩
  obtain ⟨cs, h6, h7⟩ := h5 j x hj
  exact ⟨cs, h6, d.mono (fun k hk => ⟨⟨hk.1.1, hk.2⟩, hk.1.2⟩) (d.bound h7)⟩
theorem Sp.mono' {w : World} {A : Option Addr} {n : Nat} {P Q : Nat → Prop} (h : Sp w A n P) (hm : ∀ k, P k → k < w.heap.size → Q k) : Sp w A n Q := fun i hi => by
  obtain ⟨ad, u, e, h1, h2, h3⟩ := h i hi
  exact ⟨ad, u, e, hm _ h1 h2, h2, h3⟩
theorem Sp.but {w w' : World} {A : Option Addr} {n : Nat} {P S : Nat → Prop} (h : Sp w A n P) (hb : But S w w') (hn : ∀ k, P k → ¬ S k) : Sp w' A n P := fun i hi => by
  obtain ⟨ad, u, e, h1, h2, h3, h4⟩ := h i hi
  have hs := hb.block _ h2 (hn _ h1)
  exact ⟨ad, u, e, h1, Nat.lt_of_lt_of_le h2 hb.size, h3.stay hs, (World.cell?_of_block (w := w) (by rw [block_add]; exact hs)).trans h4⟩
theorem Own.anyS {e : TypeId} {base : Nat} {ok ok' : Nat → Prop} {w : World} {v : Value} {xs : List ByteArray} (h : Own Kn.str e base ok w v xs) : Own Kn.str e base ok' w v xs := by
  obtain ⟨css, h1, h2, h3, h4, h5⟩ := h
  exact ⟨css, h1, h2, h3, h4, fun j x hj => by obtain ⟨cs, h6, h7⟩ := h5 j x hj; exact ⟨cs, h6, h7⟩⟩
theorem Own.anyF {e : TypeId} {base : Nat} {ok ok' : Nat → Prop} {w : World} {v : Value} {xs : List (ByteArray × Int)} (h : Own kField e base ok w v xs) : Own kField e base ok' w v xs := by
  obtain ⟨css, h1, h2, h3, h4, h5⟩ := h
  exact ⟨css, h1, h2, h3, h4, fun j x hj => by obtain ⟨cs, h6, h7⟩ := h5 j x hj; exact ⟨cs, h6, h7⟩⟩
/-- What a row of events, known whole, bears; what hangs on it may be written to. -/
def RowE (w : World) (cs0 : List Value) (evs : List Event) (P : Nat → Prop) : Prop :=
  ∀ j x, evs[j]? = some x → ∃ (T : Option Addr) (ct : Nat) (F : Option Addr) (cf : Nat), cs0[j * 4]? = some (.string x.stream) ∧ cs0[j * 4 + 1]? = some (.string x.type) ∧ cs0[j * 4 + 2]? = some (.slice T x.tags.length ct) ∧ cs0[j * 4 + 3]? = some (.slice F x.fields.length cf) ∧ Sp w T x.tags.length P ∧ Sp w F (x.fields.length * 2) P
def RowR (w : World) (cs0 : List Value) (rs : List Rec) (P : Nat → Prop) : Prop :=
  ∀ j x, rs[j]? = some x → ∃ (T : Option Addr) (ct : Nat) (F : Option Addr) (cf : Nat), cs0[j * 6]? = some (.int .i64 x.pos) ∧ cs0[j * 6 + 1]? = some (.int .i64 x.ver) ∧ cs0[j * 6 + 2]? = some (.string x.ev.stream) ∧ cs0[j * 6 + 3]? = some (.string x.ev.type) ∧ cs0[j * 6 + 4]? = some (.slice T x.ev.tags.length ct) ∧ cs0[j * 6 + 5]? = some (.slice F x.ev.fields.length cf) ∧ Sp w T x.ev.tags.length P ∧ Sp w F (x.ev.fields.length * 2) P
theorem sp_tags {w : World} {A : Option Addr} {c : Nat} {xs : List ByteArray} {P : Nat → Prop} (h : SlW Kn.str P w A c xs) : Sp w A xs.length P := by
  have := h.sp (by decide)
  rwa [show xs.length * Kn.str.sz = xs.length by show xs.length * 1 = _; omega] at this
theorem sp_fields {w : World} {A : Option Addr} {c : Nat} {xs : List (ByteArray × Int)} {P : Nat → Prop} (h : SlW kField P w A c xs) : Sp w A (xs.length * 2) P := h.sp (by decide)
theorem Own.rowE {e : TypeId} {base : Nat} {ok : Nat → Prop} {w : World} {v : Value} {evs : List Event} (h : Own kEventW e base ok w v evs) (hn : 0 < evs.length) :
    ∃ (g c : Nat) (cs0 : List Value), v = .slice (some ⟨g, 0, none⟩) evs.length c ∧ evs.length ≤ c ∧ c ≤ maxLen ∧ base ≤ g ∧ g < w.heap.size ∧ Bx w g e cs0 ∧ RowE w cs0 evs (fun k => ok k ∧ k ≠ g) := by
  obtain ⟨g, c, cs0, e1, h1, h2, h3, h4, h5, h6⟩ := h.at_own hn
  refine ⟨g, c, cs0, e1, h1, h2, h3, h4, h5, fun j x hj => ?_⟩
  obtain ⟨cs, hk, hc⟩ := h6 j x hj
  obtain ⟨T, ct, F, cf, rfl, h7, h8⟩ := kEventW_out hk
  exact ⟨T, ct, F, cf, hc 0 _ rfl, hc 1 _ rfl, hc 2 _ rfl, hc 3 _ rfl, sp_tags h7, sp_fields h8⟩
theorem Own.rowR {e : TypeId} {base : Nat} {ok : Nat → Prop} {w : World} {v : Value} {rs : List Rec} (h : Own kRecW e base ok w v rs) (hn : 0 < rs.length) :
    ∃ (g c : Nat) (cs0 : List Value), v = .slice (some ⟨g, 0, none⟩) rs.length c ∧ rs.length ≤ c ∧ c ≤ maxLen ∧ base ≤ g ∧ g < w.heap.size ∧ Bx w g e cs0 ∧ RowR w cs0 rs (fun k => ok k ∧ k ≠ g) := by
  obtain ⟨g, c, cs0, e1, h1, h2, h3, h4, h5, h6⟩ := h.at_own hn
  refine ⟨g, c, cs0, e1, h1, h2, h3, h4, h5, fun j x hj => ?_⟩
  obtain ⟨cs, hk, hc⟩ := h6 j x hj
  obtain ⟨T, ct, F, cf, rfl, h7, h8⟩ := kRecW_out hk
  exact ⟨T, ct, F, cf, hc 0 _ rfl, hc 1 _ rfl, hc 2 _ rfl, hc 3 _ rfl, hc 4 _ rfl, hc 5 _ rfl, sp_tags h7, sp_fields h8⟩
section
variable {w w' : World} {cs0 : List Value} {evs : List Event} {rs : List Rec} {P Q S : Nat → Prop}
theorem RowE.but (h : RowE w cs0 evs P) (hb : But S w w') (hn : ∀ k, P k → k < w.heap.size → ¬ S k ∧ Q k) : RowE w' cs0 evs Q := fun j x hj => by
  obtain ⟨T, ct, F, cf, h1, h2, h3, h4, h5, h6⟩ := h j x hj
  exact ⟨T, ct, F, cf, h1, h2, h3, h4, ((h5.mono' (Q := fun k => ¬ S k ∧ Q k) hn).but hb (fun k hk => hk.1)).mono (fun k hk => hk.2), ((h6.mono' (Q := fun k => ¬ S k ∧ Q k) hn).but hb (fun k hk => hk.1)).mono (fun k hk => hk.2)⟩
theorem RowR.mono (h : RowR w cs0 rs P) (hn : ∀ k, P k → k < w.heap.size → Q k) : RowR w cs0 rs Q := fun j x hj => by
  obtain ⟨T, ct, F, cf, h1, h2, h3, h4, h5, h6, h7, h8⟩ := h j x hj
  exact ⟨T, ct, F, cf, h1, h2, h3, h4, h5, h6, h7.mono' hn, h8.mono' hn⟩
end

/-- The loop's state: the index; want, its row fenced off. -/
structure Lw (w wr : World) (B : Six) (es : List Event) (v : Value) : Prop where
  ix : Ix wr B es (fun k => k < w.heap.size ∨ v.ownBlock = some k)
  own : Own kRec 49 w.heap.size (fun k => ¬ B.has k) wr v (recsOf es)
  lo : ∀ k, B.has k → w.heap.size ≤ k
  bel : Below w.heap.size w wr
theorem Lw.below {w wr w' : World} {B : Six} {es : List Event} {v : Value} (h : Lw w wr B es v) (hb : Below wr.heap.size wr w') : Lw w w' B es v := ⟨h.ix.below hb, h.own.below hb, h.lo, bthen h.bel hb⟩
/-- Behind Add (w8): the zone P may be spoilt; want grows. -/
structure S3 (w w8 wr : World) (B : Six) (es : List Event) (q8 : Option Nat) (B0 : Nat) (P : Nat → Prop) (v : Value) (rs : List Rec) : Prop where
  ix : Ix wr B es (fun k => (k < w.heap.size ∨ P k) ∨ v.ownBlock = some k)
  own : Own kRec 49 w.heap.size (fun k => ¬ B.has k ∧ k < B0) wr v rs
  q : ∀ k, v.ownBlock = some k → q8 = some k ∨ w8.heap.size ≤ k
  but : But (fun k => P k ∨ q8 = some k) w8 wr
  fz : ∀ k, P k → Fz w8 k → Fz wr k
  cell : ∀ (p : Addr) (u : Value), P p.block → w8.cell? p = some u → ∃ u', wr.cell? p = some u'
/-- What stands still: the zone lies from B0 up to w8's end, want's old block below it. -/
structure Z3 (w w8 : World) (B : Six) (q8 : Option Nat) (B0 : Nat) (P : Nat → Prop) : Prop where
  p : ∀ k, P k → B0 ≤ k ∧ k < w8.heap.size
  q : ∀ k, q8 = some k → w.heap.size ≤ k ∧ k < B0
  lo : ∀ k, B.has k → w.heap.size ≤ k ∧ k < B0
  w0 : w.heap.size ≤ B0
  b0 : B0 ≤ w8.heap.size
section
variable {w w8 wr w' : World} {B : Six} {es : List Event} {q8 : Option Nat} {B0 : Nat} {P : Nat → Prop} {v v1 : Value} {rs : List Rec}
theorem S3.notP (h : S3 w w8 wr B es q8 B0 P v rs) (z : Z3 w w8 B q8 B0 P) : ∀ k, v.ownBlock = some k → ¬ P k := fun k hk hp => by
  have := z.p k hp
  rcases h.q k hk with e | e
  · have := z.q k e; omega
  · omega
theorem S3.spoil (h : S3 w w8 wr B es q8 B0 P v rs) (z : Z3 w w8 B q8 B0 P) (hs : Spoil P wr w') : S3 w w8 w' B es q8 B0 P v rs :=
  ⟨h.ix.far (hs.but.mono (fun k hk => .inl (.inr hk))), h.own.stay hs.but.size (fun k hk hl => hs.but.block k hl (fun hp => hk.elim (fun h1 => by have := z.p k hp; omega) (fun h1 => h.notP z k h1 hp))), h.q, h.but.trans (hs.but.mono (fun k hk => .inl hk)),
    fun k hk hf => hs.fz k (Nat.lt_of_lt_of_le (z.p k hk).2 h.but.size) (h.fz k hk hf), fun p u hp hu => by obtain ⟨u', h1⟩ := h.cell p u hp hu; exact hs.cell p u' h1⟩
theorem S3.below (h : S3 w w8 wr B es q8 B0 P v rs) (z : Z3 w w8 B q8 B0 P) (hb : Below wr.heap.size wr w') : S3 w w8 w' B es q8 B0 P v rs := h.spoil z (Spoil.of_below hb)
/-- want grows. -/
theorem S3.push (h : S3 w w8 wr B es q8 B0 P v rs) (z : Z3 w w8 B q8 B0 P) {y : Rec} {W w1 : World} (hW : Below wr.heap.size wr W) (hown : Own kRec 49 w.heap.size (fun k => ¬ B.has k ∧ k < B0) w1 v1 (rs ++ [y])) (hg : W.grownBy w1 v.ownBlock) (hat : v1.ownBlock = v.ownBlock ∨ v1.ownBlock = some (W.heap.size + 1)) : S3 w w8 w1 B es q8 B0 P v1 (rs ++ [y]) := by
  have hbut : But (fun k => v.ownBlock = some k) W w1 := ⟨hg.os, hg.tape, hg.output, hg.size, fun k hk hn => hg.block k hk (fun e => hn e.symm)⟩
  have hW8 : w8.heap.size ≤ W.heap.size := Nat.le_trans h.but.size hW.size
  have hsame : ∀ k, P k → w1.heap[k]? = wr.heap[k]? := fun k hk => by
    have := z.p k hk
    have := h.but.size
    exact (hg.block k (by have := hW.size; omega) (fun e => h.notP z k e.symm hk)).trans (hW.block k (by omega))
  refine ⟨(h.ix.below hW).move (hbut.mono (fun k hk => .inr hk)) (fun k hk => ?_), hown, fun k hk => ?_, ⟨hg.os.trans (h.but.trans (But.of_below hW)).os, hg.tape.trans (h.but.trans (But.of_below hW)).tape, hg.output.trans (h.but.trans (But.of_below hW)).output, Nat.le_trans hW8 hg.size, fun k hk hn => (hg.block k (by omega) (fun e => ?_)).trans ((h.but.trans (But.of_below hW)).block k hk hn)⟩, fun k hk hf => (h.fz k hk hf).stay (hsame k hk), fun p u hp hu => ?_⟩
  · rcases hk with hk | hk
    · exact .inl (.inl hk)
    · rcases hat with e | e
      · exact .inl (.inr (by rw [← e]; exact hk))
      · rw [e] at hk
        injection hk with hk
        exact .inr ⟨by omega, hown.block_lt k (by rw [e, hk])⟩
  · rcases hat with e | e
    · exact h.q k (by rw [← e]; exact hk)
    · rw [e] at hk
      injection hk with hk
      exact .inr (by omega)
  · rcases h.q k e.symm with e1 | e1
    · exact hn (.inr e1)
    · omega
  · obtain ⟨u', h1⟩ := h.cell p u hp hu
    exact ⟨u', (World.cell?_of_block (w := wr) (hsame _ hp)).trans h1⟩
theorem Sp.via {A : Option Addr} {n : Nat} (hs : Sp w8 A n P) (h : S3 w w8 wr B es q8 B0 P v rs) : Sp wr A n P := fun i hi => by
  obtain ⟨ad, u, e, h1, h2, h3, h4⟩ := hs i hi
  obtain ⟨u', h5⟩ := h.cell _ _ (by rw [block_add]; exact h1) h4
  exact ⟨ad, u', e, h1, Nat.lt_of_lt_of_le h2 h.but.size, h.fz _ h1 h3, h5⟩
end
end Go.Proofs.Ytfoghahidofegaa

namespace Go.Proofs.Ytfoghahidofegaa
open Go.RowKit Go.Maps

set_option maxHeartbeats 32000000 in
set_option maxRecDepth 100000 in
theorem indexOwn_walk (w : World) (A : Option Addr) (c : Nat) (l : List Bt) (h : Sl kBatch (fun _ => True) w A c l) (hg : ∀ x ∈ l, goodBatch x) :
    Calls Try.prog 5 #[.slice A l.length c] w fun r w' => r = .returned (.bool true) ∧ Below w.heap.size w w' := by
  have HL0 := Lib.hid (show Sl kBatch (fun k => k < w.heap.size) w A c l from h.bound.mono (fun _ h => h.2))
  have HG := Lib.hid hg
  have hc1 := h.1
  have hc2 := h.2.1
  unfold maxLen at hc2
  have C1 := Lib.hid (shown14_any w)
  clear h hg
  go_enter Try.func5, Try.ntmps5
  go_upto_region 5 with (first
    | (go_at_call 15; go_fit C2.out; rintro r w2 ⟨B, rfl, h2, hb2⟩; have H2 := Lib.hid h2; have HB2 := Lib.hid (bthen HBS.out hb2); clear h2 hb2)
    | (go_at_call 14; go_fit C1.out; rintro r w1 ⟨rfl, hb1⟩; have HBS := Lib.hid hb1; have C2 := Lib.hid (lNew w (wr := w1) hb1.size); clear hb1))
  have HLW := Lib.hid (show Lw w (w2.alloc (.cells #[] 49)) B [] (.slice (some ⟨w2.heap.size, 0, none⟩) 0 0) from
    ⟨H2.out.ix.fence ((Below.refl _ _).alloc (Nat.le_refl _) _) (fun k hk => hk.imp id (fun e => by simp only [Value.ownBlock, Option.some.injEq] at e; subst e; simp)), Own.lit0 kRec 49 w.heap.size _ w2 HB2.out.size, H2.out.lo, HB2.out.alloc HB2.out.size _⟩)
  clear C1 C2 H2 HB2 HBS
  go_upto_region 6 with fail
  generalize w2.alloc (.cells #[] 49) = w3 at HLW ⊢
  generalize (Value.slice (some ⟨w2.heap.size, 0, none⟩) 0 0) = v3 at HLW ⊢
  go_upto_block 0 with fail
  go_cut [5, 6] (fun v _ wx => ∃ es, es.length ≤ 80 ∧ Lw w wx B es v)
  case first =>
    go_wp2_with fail
    go_loopw [5, 6] (fun v i wr => ∃ (k : Nat) (es : List Event), k ≤ l.length ∧ k ≤ 10 ∧ i = .int .i64 k ∧ es.length ≤ 8 * k ∧ Lw w wr B es v) (fun _ i _ => l.length - (intOf i).toNat)
    case atStart => exact ⟨0, [], Nat.zero_le _, Nat.zero_le _, rfl, Nat.le_refl _, HLW.out⟩
    case round =>
      clear HLW
      obtain ⟨k, es, hk, hk10, rfl, hes, hs⟩ := hrel
      obtain ⟨v5, hv5⟩ : ∃ v5, v5 = u5 := ⟨_, rfl⟩
      subst hv5
      have HS := Lib.hid hs
      by_cases hlt : k < l.length ∧ k < 10
      · obtain ⟨hlt, h10⟩ := hlt
        have hrows : Sl kBatch (fun k => k < w.heap.size) wr A c l := HL0.out.stay hs.bel.size (fun j hj hl => hs.bel.block j hj)
        obtain ⟨ad, Q', cq', rfl, x0, x1, hQ'⟩ := row_batch_at hrows.2.2 hlt
        have hin := few8_in (HG.out _ (List.getElem_mem hlt)).2
        generalize l[k] = b at x0 x1 hQ' hin
        have CF := Lib.hid (few14_any (a := b.1) (fun j => j < w.heap.size) hQ')
        have HIN := Lib.hid hin
        obtain ⟨evs, hevs⟩ : ∃ evs, few8 b.2 = evs := ⟨_, rfl⟩
        rw [hevs] at CF HIN
        have f8 : evs.length ≤ 8 := by rw [← hevs]; exact few8_len _
        obtain ⟨N, hN⟩ : ∃ N, evs.length = N := ⟨_, rfl⟩
        have HNN := Lib.hid hN
        rw [hN] at f8 CF
        have i1 : (0 : Int) ≤ (k : Int) := Int.natCast_nonneg _
        have i2 : (k : Int) < (l.length : Int) := by omega
        clear hs hrows hQ' hin hevs
        go_upto_region 10 with (go_at_call 16; go_fit CF.out; rintro r w4 ⟨A4, c4, rfl, h4, hb4⟩; have H4 := Lib.hid h4; have HB4 := Lib.hid hb4; clear h4 hb4)
        obtain ⟨w5, hw5⟩ : ∃ w5, w5 = w4.alloc (.cells #[.int .i64 b.1, .slice A4 N c4] 43) := ⟨_, rfl⟩
        rw [← hw5]
        have hb5 : Below w4.heap.size w4 w5 := by rw [hw5]; exact (Below.refl _ _).alloc (Nat.le_refl _) _
        have hx5 : Bx w5 w4.heap.size 43 [.int .i64 b.1, .slice A4 N c4] := by rw [hw5]; exact Bx.new w4 _ _
        have HS5 := Lib.hid (HS.out.below (bthen HB4.out hb5))
        have HB5 := Lib.hid hb5
        have HX5 := Lib.hid hx5
        have hl5 := hx5.lt
        have hs5 : w5.heap.size = w4.heap.size + 1 := by rw [hw5]; simp
        have C10 := Lib.hid (iLast HS5.out.ix)
        have g0 := hx5.cell 0
        have f0 := hx5.free 0
        simp only [List.getElem?_cons_zero] at g0
        obtain ⟨gb, hgb⟩ : ∃ gb, gb = w4.heap.size := ⟨_, rfl⟩
        rw [← hgb] at g0 f0 ⊢
        have HGB := Lib.hid hgb
        have hgb4 : w4.heap.size ≤ gb := by omega
        clear hw5 hb5 hx5 CF x0 x1 hgb
        have g1 : (w5.setCell ⟨gb, 0, none⟩ (.int .i64 es.length)).cell? ⟨gb, 0, none⟩ = some (.int .i64 es.length) := World.cell?_setCell_same (w := w5) (a := ⟨gb, 0, none⟩) (v := .int .i64 es.length) g0
        go_upto_region 12 with (go_at_call 17; go_fit C10.out; rintro r w6 ⟨rfl, rfl⟩)
        obtain ⟨w7, hw7⟩ : ∃ w7, w7 = (w5.setCell ⟨gb, 0, none⟩ (.int .i64 es.length)).alloc (.cells #[.int .i64 es.length, .slice none 0 0] 43) := ⟨_, rfl⟩
        rw [← hw7]
        have hsz : (w5.setCell ⟨gb, 0, none⟩ (.int .i64 es.length)).heap.size = w5.heap.size := by simp [World.setCell]
        have HX7 := Lib.hid (show Bx w7 gb 43 [.int .i64 es.length, .slice A4 N c4] by rw [hw7, HGB.out]; exact (HX5.out.set 0 (.int .i64 es.length)).alloc _)
        have HO7 := Lib.hid (show Bx w7 w5.heap.size 43 [.int .i64 es.length, .slice none 0 0] by rw [hw7]; have := Bx.new (w5.setCell ⟨gb, 0, none⟩ (.int .i64 es.length)) 43 [.int .i64 es.length, .slice none 0 0]; rwa [hsz] at this)
        have HB7 := Lib.hid (show Below w4.heap.size w4 w7 by rw [hw7]; exact (HB5.out.setCell (p := ⟨gb, 0, none⟩) (by show w4.heap.size ≤ gb; rw [HGB.out]; exact Nat.le_refl _) _).alloc (by rw [hsz]; omega) _)
        have hs7 : w7.heap.size = w5.heap.size + 1 := by rw [hw7]; simp [World.setCell]
        obtain ⟨go_, hgo⟩ : ∃ go_, go_ = w5.heap.size := ⟨_, rfl⟩
        have HGO := Lib.hid hgo
        have HO7 := Lib.hid (show Bx w7 go_ 43 [.int .i64 es.length, .slice none 0 0] by rw [hgo]; exact HO7.out)
        have hgo2 : go_ = w4.heap.size + 1 := by omega
        first | rw [← hgo2] | rw [← hgo]
        have hgbl : gb < go_ := by rw [hgo, HGB.out]; omega
        have hgol : go_ < w7.heap.size := by omega
        have hgo4 : w4.heap.size ≤ go_ := by omega
        have HS4 := Lib.hid (HS.out.below HB4.out)
        have H4W := Lib.hid (H4.out.bound)
        have H4 := Lib.hid (show Sl kEvent (fun j => j < w4.heap.size) w4 A4 c4 evs from H4.out.bound.mono (fun j hj => hj.2))
        have H47 := Lib.hid (H4.out.below HB7.out)
        obtain ⟨wA, hwA⟩ : ∃ wA, wA = wr := ⟨_, rfl⟩
        subst hwA
        clear hgo hgo2 hw7 hsz HX5 C10 g0 g1 f0 HS5 hs5 hl5 HB5 HGB
        go_upto_block 2 with fail
        go_cut [9] (fun _ wx => ∃ vo, Own kEventW 25 w7.heap.size (fun j => w7.heap.size ≤ j) wx vo evs ∧ Bx wx go_ 43 [.int .i64 es.length, vo] ∧ But (fun j => j = go_) w7 wx)
        case first =>
          go_wp2_with fail
          go_loopw [9] (fun i wr => ∃ (j : Nat) (vo : Value), j ≤ N ∧ i = .int .i64 j ∧ Own kEventW 25 w7.heap.size (fun j => w7.heap.size ≤ j) wr vo (evs.take j) ∧ Bx wr go_ 43 [.int .i64 es.length, vo] ∧ But (fun j => j = go_) w7 wr) (fun i _ => N - (intOf i).toNat)
          case atStart => exact ⟨0, _, Nat.zero_le _, rfl, Own.nil_ _ _ _ _ _, HO7.out, But.of_below (Below.refl _ _)⟩
          case round =>
            obtain ⟨j, vo, hj, rfl, ho, hxo, hbut⟩ := hrel
            have HXO := Lib.hid hxo
            have HOW := Lib.hid ho
            have HBUT := Lib.hid hbut
            have HXB := Lib.hid (HX7.out.stay (w' := wr) (fun hk => hbut.block _ hk (by omega)))
            have b1 := HXB.out.cell 1
            simp only [List.getElem?_cons_succ, List.getElem?_cons_zero] at b1
            have hwr7 := hbut.size
            by_cases hlt2 : j < N
            · have hrow : Sl kEvent (fun j => j < w4.heap.size) wr A4 c4 evs := H47.out.stay hbut.size (fun q hq hl => hbut.block q hl (by omega))
              obtain ⟨ad2, S, sa, T, ta, rfl, c0, c1, c2, c3, hS, hT⟩ := row_ev_at hrow.2.2 (by rw [hN]; exact hlt2)
              have hje : j < evs.length := by omega
              have HTK := Lib.hid (show evs.take (j + 1) = evs.take j ++ [evs[j]] from List.take_succ_eq_append_getElem hje)
              have HTL := Lib.hid (show (evs.take j).length = j by rw [List.length_take]; omega)
              have hine := HIN.out _ (List.getElem_mem hje)
              generalize evs[j] = e at c0 c1 c2 c3 hS hT HTK hine
              have htl := hine.tl
              have hfl := hine.fl
              have HS := Lib.hid hS
              have HT := Lib.hid hT
              have j1 : (0 : Int) ≤ (j : Int) := Int.natCast_nonneg _
              have j2 : (j : Int) < (N : Int) := by omega
              clear hS hT hrow hine ho hxo hbut
              go_upto_region 16 with fail
              obtain ⟨X1, hX1⟩ : ∃ X1, X1 = wr.alloc (.cells #[.string e.stream, .string e.type, .slice S e.tags.length sa, .slice T e.fields.length ta] 25) := ⟨_, rfl⟩
              rw [← hX1]
              have hbX1 : Below wr.heap.size wr X1 := by rw [hX1]; exact (Below.refl _ _).alloc (Nat.le_refl _) _
              have hxe : Bx X1 wr.heap.size 25 [.string e.stream, .string e.type, .slice S e.tags.length sa, .slice T e.fields.length ta] := by rw [hX1]; exact Bx.new wr _ _
              have HBX1 := Lib.hid hbX1
              have HXE := Lib.hid hxe
              have hs1 : X1.heap.size = wr.heap.size + 1 := by rw [hX1]; simp
              obtain ⟨eb, heb⟩ : ∃ eb, eb = wr.heap.size := ⟨_, rfl⟩
              have HEB := Lib.hid heb
              rw [← heb] at hxe ⊢
              have HXE := Lib.hid hxe
              have hebl : eb < X1.heap.size := hxe.lt
              have hXA : ∀ o : Obj, Below X1.heap.size X1 (X1.alloc o) := fun o => (Below.refl _ _).alloc (Nat.le_refl _) o
              have k2 := ((HXE.out.under (hXA (.cells #[] 9)))).cell 2
              simp only [List.getElem?_cons_succ, List.getElem?_cons_zero] at k2
              have HO1 := Lib.hid (Own.lit0 Kn.str 9 X1.heap.size (fun q => q < wr.heap.size) X1 (Nat.le_refl _))
              have HR1 := Lib.hid (show Row Kn.str (fun q => q < wr.heap.size ∧ some q ≠ (Value.slice (some ⟨X1.heap.size, 0, none⟩) 0 0).ownBlock) (X1.alloc (.cells #[] 9)) S e.tags from
                ((HS.out.bound.below hbX1).below (hXA _)).2.2.mono (fun q hq => ⟨hq.2, fun e1 => by simp only [Value.ownBlock, Option.some.injEq] at e1; have := hq.2; omega⟩))
              have HS1 := Lib.hid hs1
              clear hX1 hbX1 hxe heb hXA c0 c1 c2 c3 b1 hs1
              go_upto_region 17 with (at_builtin; refine wpList_spread rfl _ _ _ rfl 9 _ 1 16 Try.underlying22 infoStrV rfl (by decide) (by decide) rfl X1.heap.size (fun q => q < wr.heap.size) _ [] rfl HO1.out e.tags S sa HR1.out rfl (by simp) (by simp; omega) ?_; intro v1 w1 hown1 hg1 hat1 hbel1; obtain ⟨T1, ct1, hv1, hsl1⟩ := (show Own Kn.str 9 X1.heap.size (fun _ => False) w1 v1 e.tags from Own.anyS hown1).slW; subst hv1; have HW1 := Lib.hid (hsl1.mono (ok' := fun q => X1.heap.size ≤ q) (fun q hq => hq.elim False.elim id)); have HBL1 := Lib.hid (hbel1 X1 ((Below.refl _ _).alloc (Nat.le_refl _) _)); have hz1 := HXE.out.under (hbel1 X1 ((Below.refl _ _).alloc (Nat.le_refl _) _)); have y2 := hz1.cell 2; have z2 := hz1.free 2; (simp only [List.getElem?_cons_succ, List.getElem?_cons_zero] at y2); clear hown1 hg1 hat1 hbel1 hz1 hsl1)
              obtain ⟨X2, hX2⟩ : ∃ X2, X2 = w1.setCell ⟨eb, 2, none⟩ (.slice T1 e.tags.length ct1) := ⟨_, rfl⟩
              rw [← hX2]
              have hs12 := HBL1.out.size
              have hsz2 : X2.heap.size = w1.heap.size := by rw [hX2]; simp [World.setCell]
              have HBX2 := Lib.hid (show Below wr.heap.size wr X2 by rw [hX2]; exact (bthen HBX1.out HBL1.out).setCell (p := ⟨eb, 2, none⟩) (by show wr.heap.size ≤ eb; rw [HEB.out]; exact Nat.le_refl _) _)
              have hx2 : Bx X2 eb 25 [.string e.stream, .string e.type, .slice T1 e.tags.length ct1, .slice T e.fields.length ta] := by rw [hX2]; exact (HXE.out.under HBL1.out).set 2 _
              have HXE2 := Lib.hid hx2
              have HW2 := Lib.hid (show SlW Kn.str (fun q => X1.heap.size ≤ q) X2 T1 ct1 e.tags by rw [hX2]; exact HW1.out.setCell (p := ⟨eb, 2, none⟩) (fun q hq => by show q ≠ eb; omega) _)
              have hXA : ∀ o : Obj, Below X2.heap.size X2 (X2.alloc o) := fun o => (Below.refl _ _).alloc (Nat.le_refl _) o
              have k3 := ((HXE2.out.under (hXA (.cells #[] 34)))).cell 3
              simp only [List.getElem?_cons_succ, List.getElem?_cons_zero] at k3
              have HO2 := Lib.hid (Own.lit0 kField 34 X2.heap.size (fun q => q < wr.heap.size) X2 (Nat.le_refl _))
              have HR2 := Lib.hid (show Row kField (fun q => q < wr.heap.size ∧ some q ≠ (Value.slice (some ⟨X2.heap.size, 0, none⟩) 0 0).ownBlock) (X2.alloc (.cells #[] 34)) T e.fields from
                ((HT.out.bound.below HBX2.out).below (hXA _)).2.2.mono (fun q hq => ⟨hq.2, fun e1 => by simp only [Value.ownBlock, Option.some.injEq] at e1; have := hq.2; have := HBX2.out.size; omega⟩))
              clear hX2 hx2 hXA k2 y2 z2
              have HSZ2 := Lib.hid hsz2
              have HS12 := Lib.hid hs12
              have hebl2 : eb < X2.heap.size := by omega
              clear hsz2 hs12
              go_upto_region 18 with (at_builtin; refine wpList_spread rfl _ _ _ rfl 34 _ 2 24 Try.underlying23 infoField rfl (by decide) (by decide) rfl X2.heap.size (fun q => q < wr.heap.size) _ [] rfl HO2.out e.fields T ta HR2.out rfl (by simp) (by simp; omega) ?_; intro v2 w2b hown2 hg2 hat2 hbel2; obtain ⟨F1, cf1, hv2, hsl2⟩ := (show Own kField 34 X2.heap.size (fun _ => False) w2b v2 e.fields from Own.anyF hown2).slW; subst hv2; have HF1 := Lib.hid (hsl2.mono (ok' := fun q => X2.heap.size ≤ q) (fun q hq => hq.elim False.elim id)); have HBL2 := Lib.hid (hbel2 X2 ((Below.refl _ _).alloc (Nat.le_refl _) _)); have hz2 := HXE2.out.under (hbel2 X2 ((Below.refl _ _).alloc (Nat.le_refl _) _)); have y3 := hz2.cell 3; have z3 := hz2.free 3; (simp only [List.getElem?_cons_succ, List.getElem?_cons_zero] at y3); clear hown2 hg2 hat2 hbel2 hz2 hsl2)
              obtain ⟨X3, hX3⟩ : ∃ X3, X3 = w2b.setCell ⟨eb, 3, none⟩ (.slice F1 e.fields.length cf1) := ⟨_, rfl⟩
              rw [← hX3]
              have HBX3 := Lib.hid (show Below wr.heap.size wr X3 by rw [hX3]; exact (bthen HBX2.out HBL2.out).setCell (p := ⟨eb, 3, none⟩) (by show wr.heap.size ≤ eb; rw [HEB.out]; exact Nat.le_refl _) _)
              have hx3 : Bx X3 eb 25 [.string e.stream, .string e.type, .slice T1 e.tags.length ct1, .slice F1 e.fields.length cf1] := by rw [hX3]; exact (HXE2.out.under HBL2.out).set 3 _
              have HW3 := Lib.hid (show SlW Kn.str (fun q => X1.heap.size ≤ q) X3 T1 ct1 e.tags by rw [hX3]; exact (HW2.out.below HBL2.out).setCell (p := ⟨eb, 3, none⟩) (fun q hq => by show q ≠ eb; omega) _)
              have HF3 := Lib.hid (show SlW kField (fun q => X2.heap.size ≤ q) X3 F1 cf1 e.fields by rw [hX3]; exact HF1.out.setCell (p := ⟨eb, 3, none⟩) (fun q hq => by show q ≠ eb; omega) _)
              have HXO3 := Lib.hid (HXO.out.under HBX3.out)
              have HOW3 := Lib.hid (HOW.out.below HBX3.out)
              have n0 := HXO3.out.cell 1
              have m0 := hx3.cell 0
              have m1 := hx3.cell 1
              have m2 := hx3.cell 2
              have m3 := hx3.cell 3
              simp only [List.getElem?_cons_succ, List.getElem?_cons_zero] at n0 m0 m1 m2 m3
              have hX37 : w7.heap.size ≤ X3.heap.size := Nat.le_trans hwr7 HBX3.out.size
              have hb81 := HBX1.out.size
              have hb82 := HBX2.out.size
              have HKW := Lib.hid (show kEventW.K (fun q => w7.heap.size ≤ q ∧ some q ≠ vo.ownBlock) X3 e [.string e.stream, .string e.type, .slice T1 e.tags.length ct1, .slice F1 e.fields.length cf1] from
                kEventW_mk (HW3.out.mono (fun q hq => ⟨by omega, fun e1 => by have := HOW.out.block_lt q e1.symm; omega⟩)) (HF3.out.mono (fun q hq => ⟨by omega, fun e1 => by have := HOW.out.block_lt q e1.symm; omega⟩)))
              have HB73 := Lib.hid (fun W (hg3 : X3.grownBy W vo.ownBlock) => show But (fun q => q = go_) w7 W from
                have hc := HBUT.out.trans (But.of_below HBX3.out)
                ⟨hg3.os.trans hc.os, hg3.tape.trans hc.tape, hg3.output.trans hc.output, Nat.le_trans hX37 hg3.size, fun q hq hn => (hg3.block q (by omega) (fun e1 => by have := HOW.out.base_le q e1.symm; omega)).trans (hc.block q hq hn)⟩)
              clear hX3 hx3 k3 y3 z3 HW1 HW2 HF1 HBL1 HBL2 HO1 HO2 HR1 HR2
              go_wp2_with (at_builtin; refine wpList_pushH (W := X3) rfl _ _ _ rfl 25 _ 4 80 Try.underlying41 infoEv rfl (by decide) (by decide) rfl w7.heap.size (fun q => w7.heap.size ≤ q) _ (evs.take j) rfl HOW3.out e [.string e.stream, .string e.type, .slice T1 e.tags.length ct1, .slice F1 e.fields.length cf1] HKW.out X3.heap.size rfl rfl hX37 (by rw [HTL.out]; omega) ?_; intro v3 w3b hown3 hg3 hat3 hbel3; obtain ⟨V3, cv3, hv3, _⟩ := hown3.sl; rw [List.length_append, List.length_singleton, HTL.out] at hv3; subst hv3; have HO3 := Lib.hid (show Own kEventW 25 w7.heap.size (fun q => w7.heap.size ≤ q) w3b _ (evs.take (j + 1)) by rw [HTK.out]; exact hown3); have hz3 := HXO3.out.grown hg3 (fun e1 => by have := HOW3.out.base_le go_ e1.symm; omega); have HZ3 := Lib.hid hz3; have HG3S := Lib.hid hg3.size; have HGB3 := Lib.hid (show But (fun q => q = go_) w7 w3b from HB73.out _ hg3); have y1 := hz3.cell 1; have z1 := hz3.free 1; (simp only [List.getElem?_cons_succ, List.getElem?_cons_zero] at y1); clear hown3 hg3 hat3 hbel3 hz3)
              go_roundw
              case rel =>
                refine ⟨j + 1, _, by omega, by go_num, HO3.out.setCell (p := ⟨go_, 1, none⟩) (fun q hq => by show q ≠ go_; omega) (fun q hq => by show q ≠ go_; have := HO3.out.base_le q hq; omega) _, HZ3.out.set 1 _, ?_⟩
                exact HGB3.out.trans (But.setCell (S := fun q => q = go_) w3b (p := ⟨go_, 1, none⟩) rfl _)
              case measure => simp [intOf]; omega
            · obtain rfl : j = N := by omega
              have HOE := Lib.hid (show Own kEventW 25 w7.heap.size (fun j => w7.heap.size ≤ j) wr vo evs by rw [← hN, List.take_length] at ho; exact ho)
              clear ho hxo hbut
              go_wp2_with fail
              go_meet
              exact ⟨vo, HOE.out, HXO.out, HBUT.out⟩
        case rest =>
          obtain ⟨vo, ho, hxo, hbut⟩ := hcut
          obtain ⟨wE, hwE⟩ : ∃ wE, wE = wc := ⟨_, rfl⟩
          subst hwE
          obtain ⟨E, ce, hvo, _⟩ := ho.sl
          rw [hN] at hvo
          subst hvo
          have HOE := Lib.hid ho
          have HOEK := Lib.hid (own_slF (Own.weak (d := kEventW) (d' := kEvent) rfl kEventW_weak ho))
          have HB4E := Lib.hid (show Below w4.heap.size w4 wE from hbut.below HB7.out HB7.out.size (fun q hq => by rw [hq]; exact hgo4))
          have HLE := Lib.hid (HS4.out.below HB4E.out)
          have hxb : Bx wE gb 43 [.int .i64 es.length, .slice A4 N c4] := HX7.out.stay (w' := wE) (fun hk => hbut.block _ hk (by omega))
          have HXBE := Lib.hid hxb
          have HXOE := Lib.hid hxo
          have o0 := hxo.cell 0
          have o1 := hxo.cell 1
          simp only [List.getElem?_cons_succ, List.getElem?_cons_zero] at o0 o1
          have hw7E := hbut.size
          have h47 := HB7.out.size
          have HIXE := Lib.hid (show Ix wE B es (fun j => (j < w.heap.size ∨ v5.ownBlock = some j) ∨ (w7.heap.size ≤ j ∧ j < wE.heap.size)) from
            ((HS4.out.ix.fence HB7.out (Y := fun j => (j < w.heap.size ∨ v5.ownBlock = some j) ∨ j = go_) (fun j hj => hj.imp id (fun e => by rw [e]; exact ⟨hgo4, hgol⟩))).move (hbut.mono (fun j hj => .inr hj)) (Y := fun j => ((j < w.heap.size ∨ v5.ownBlock = some j) ∨ j = go_) ∨ (w7.heap.size ≤ j ∧ j < wE.heap.size)) (fun j hj => hj)).less (fun j hj => hj.imp .inl id))
          clear ho hxo hbut hxb HO7 H47 HX7
          obtain ⟨err, herr⟩ : ∃ err, addErr es es.length evs = err := ⟨_, rfl⟩
          have HERR := Lib.hid herr
          by_cases he0 : err = 0
          rotate_left
          · have CA := Lib.hid (iAddNo HLE.out.ix (after := es.length) HOEK.out.any HIN.out (by rw [herr]; exact he0))
            rw [herr, hN] at CA
            have d0 : (err == 0) = false := by simp [he0]
            have d1 : (err != 0) = true := by simp [he0]
            clear he0 herr
            go_wp2_with (go_at_call 18; go_fit CA.out; rintro r wF ⟨rfl, hbF⟩; have HBF := Lib.hid hbF; clear hbF)
            go_roundw
            case rel => exact ⟨k + 1, es, by omega, by omega, by go_num, by omega, HLE.out.below HBF.out⟩
            case measure => simp [intOf]; omega
          · subst he0
            have hNpos : 0 < N := by have := (mayB_ok (addErr_ok herr).1).1; omega
            have CA := Lib.hid (iAddOkW HIXE.out (after := es.length) (HOEK.out.mono (ok' := fun j => ¬ B.has j) (fun j hj hB => by have := HS4.out.ix.lt j hB; omega)) HIN.out (by rw [List.length_append]; omega) herr)
            rw [hN] at CA
            clear herr
            go_upto_region 21 with (go_at_call 18; go_fit CA.out; rintro r wF ⟨A9, c9, K, rfl, h9, hK, hixF, hbF⟩; have H9 := Lib.hid h9; have HIXF := Lib.hid hixF; have HBF := Lib.hid hbF; clear h9 hixF hbF)
            have hEF := HBF.out.size
            have hrl : (recsFrom es evs).length = N := by rw [recsFrom_len]; exact hN
            obtain ⟨gr, cr, cs_r, hvr, hcr, hcrm, hgrb, hgrl, hxr, hrowR⟩ := H9.out.rowR (by omega)
            rw [hrl] at hvr hcr
            simp only [Value.slice.injEq, true_and] at hvr
            obtain ⟨hA9, hc9⟩ := hvr
            subst hA9 hc9
            obtain ⟨ge, ce', cs_e, hve, hce, hcem, hgeb, hgel, hxe, hrowE⟩ := HOE.out.rowE (by omega)
            rw [hN] at hve hce
            simp only [Value.slice.injEq, true_and] at hve
            obtain ⟨hE, hce'⟩ := hve
            subst hE hce'
            obtain ⟨P, hP⟩ : ∃ P : Nat → Prop, P = fun j => ((w7.heap.size ≤ j ∧ j < wE.heap.size) ∨ (K ≤ j ∧ j < wF.heap.size)) ∧ j ≠ ge ∧ j ≠ gr := ⟨_, rfl⟩
            have HP := Lib.hid hP
            have hBlt : ∀ j, B.has j → w.heap.size ≤ j ∧ j < w4.heap.size := fun j hj => ⟨HS4.out.lo j hj, HS4.out.ix.lt j hj⟩
            have hqlt : ∀ j, v5.ownBlock = some j → w.heap.size ≤ j ∧ j < w4.heap.size ∧ ¬ B.has j := fun j hj => ⟨HS4.out.own.base_le j hj, HS4.out.own.block_lt j hj, fun hB => HS4.out.ix.off j hB (.inr hj)⟩
            have hww4 : w.heap.size ≤ w4.heap.size := HS4.out.bel.size
            have HZ := Lib.hid (show Z3 w wF B v5.ownBlock w7.heap.size P from
              ⟨fun j hj => by rw [hP] at hj; rcases hj.1 with h | h <;> omega, fun j hj => by have := hqlt j hj; omega, fun j hj => by have := hBlt j hj; omega, by omega, by omega⟩)
            have HB4F := Lib.hid (show But B.has w4 wF from (But.of_below HB4E.out).trans HBF.out)
            have HS3 := Lib.hid (show S3 w wF wF B (es ++ evs) v5.ownBlock w7.heap.size P v5 (recsOf es) from
              ⟨HIXF.out.less (fun j hj => by
                rcases hj with (hj | hj) | hj
                · exact .inl (.inl (.inl hj))
                · rw [hP] at hj
                  rcases hj.1 with h | h
                  · exact .inl (.inr h)
                  · exact .inr h
                · exact .inl (.inl (.inr hj))),
              (HS4.out.own.bound_.stay HB4F.out.size (fun j hj hl => HB4F.out.block j hl (hj.elim (fun h => h.1) (fun h => (hqlt j h).2.2)))).mono (fun j hj => ⟨hj.1, by omega⟩), fun j hj => .inl hj, But.of_below (Below.refl _ _), fun _ _ h => h, fun _ u _ h => ⟨u, h⟩⟩)
            have HRE := Lib.hid (show RowE wF cs_e evs P from hrowE.but HBF.out (fun j hj hl => ⟨fun hB => by have := hBlt j hB; omega, by rw [hP]; exact ⟨.inl ⟨hj.1, hl⟩, hj.2, by omega⟩⟩))
            have HRR := Lib.hid (show RowR wF cs_r (recsFrom es evs) P from hrowR.mono (fun j hj hl => by rw [hP]; exact ⟨.inr ⟨hj.1, hl⟩, by omega, hj.2⟩))
            have HXR := Lib.hid hxr
            have HXE := Lib.hid (hxe.stay (w' := wF) (fun hk => HBF.out.block _ hk (fun hB => by have := hBlt _ hB; omega)))
            have HXB := Lib.hid (HXBE.out.stay (w' := wF) (fun hk => HBF.out.block _ hk (fun hB => by have := hBlt _ hB; omega)))
            have HXO := Lib.hid (HXOE.out.stay (w' := wF) (fun hk => HBF.out.block _ hk (fun hB => by have := hBlt _ hB; omega)))
            have HFR := Lib.hid (fun j (hj : (j < w.heap.size ∨ wA.heap.size ≤ j) ∧ j < w4.heap.size) => show ¬ B.has j ∧ ¬ P j ∧ v5.ownBlock ≠ some j ∧ j < w7.heap.size from
              ⟨fun hB => by have := HS.out.lo j hB; have := HS.out.ix.lt j hB; omega, fun hp => by have := (HZ.out.p j hp).1; omega, fun e => by have := HS.out.own.base_le j e; have := HS.out.own.block_lt j e; omega, by omega⟩)
            have H4F := Lib.hid (H4W.out.stay HB4F.out.size (fun j hj hl => HB4F.out.block j hl (HFR.out j hj).1))
            obtain ⟨adr, hadr⟩ : ∃ adr : Addr, adr = ⟨gr, 0, none⟩ := ⟨_, rfl⟩
            have HADR := Lib.hid hadr
            obtain ⟨ade, hade⟩ : ∃ ade : Addr, ade = ⟨ge, 0, none⟩ := ⟨_, rfl⟩
            have HADE := Lib.hid hade
            have HXO := Lib.hid (show Bx wF go_ 43 [.int .i64 es.length, .slice (some ade) N ce] by rw [hade]; exact HXO.out)
            have HST := Lib.hid (fun W v rs (h : S3 w wF W B (es ++ evs) v5.ownBlock w7.heap.size P v rs) => show Bx W gr 49 cs_r ∧ Bx W ge 25 cs_e ∧ Bx W gb 43 [.int .i64 es.length, .slice A4 N c4] ∧ Bx W go_ 43 [.int .i64 es.length, .slice (some ade) N ce] from by
              have hnp : ¬ P gr ∧ ¬ P ge := by rw [HP.out]; exact ⟨fun h => h.2.2 rfl, fun h => h.2.1 rfl⟩
              have hz := HZ.out.p
              refine ⟨HXR.out.stay (fun hk => h.but.block _ hk (fun e => e.elim hnp.1 (fun e => by have := hqlt _ e; omega))), HXE.out.stay (fun hk => h.but.block _ hk (fun e => e.elim hnp.2 (fun e => by have := hqlt _ e; omega))), HXB.out.stay (fun hk => h.but.block _ hk (fun e => e.elim (fun e => by have := hz _ e; omega) (fun e => by have := hqlt _ e; omega))), HXO.out.stay (fun hk => h.but.block _ hk (fun e => e.elim (fun e => by have := hz _ e; omega) (fun e => by have := hqlt _ e; omega)))⟩)
            have HQL := Lib.hid hqlt
            rw [← hadr]
            clear hadr hade hxr hrowR hxe hrowE hP hqlt hBlt o0 o1 HOEK HLE HIXE HXOE HXBE HERR
            go_upto_block 4 with fail
            go_cut [5, 13] (fun v _ wx => S3 w wF wx B (es ++ evs) v5.ownBlock w7.heap.size P v (recsOf es ++ recsFrom es evs))
            case first =>
              go_wp2_with fail
              go_loopw [5, 13] (fun v i wr => ∃ j : Nat, j ≤ N ∧ i = .int .i64 j ∧ S3 w wF wr B (es ++ evs) v5.ownBlock w7.heap.size P v (recsOf es ++ (recsFrom es evs).take j)) (fun _ i _ => N - (intOf i).toNat)
              case atStart => exact ⟨0, Nat.zero_le _, rfl, by simpa using HS3.out⟩
              case round =>
                clear HS3
                obtain ⟨j, hj, rfl, h3⟩ := hrel
                obtain ⟨v6, hv6⟩ : ∃ v6, v6 = u5 := ⟨_, rfl⟩
                subst hv6
                have H3 := Lib.hid h3
                obtain ⟨hxr, hxe, hxb, hxo⟩ := HST.out _ _ _ h3
                have b1 := hxb.cell 1
                simp only [List.getElem?_cons_succ, List.getElem?_cons_zero] at b1
                by_cases hlt3 : j < N
                · have hjr : j < (recsFrom es evs).length := by omega
                  have hje : j < evs.length := by omega
                  obtain ⟨T1, ct1, F1, cf1, q0, q1, q2, q3, q4, q5, hT1, hF1⟩ := HRR.out j _ (List.getElem?_eq_getElem hjr)
                  obtain ⟨T2, ct2, F2, cf2, p0, p1, p2, p3, hT2, hF2⟩ := HRE.out j _ (List.getElem?_eq_getElem hje)
                  have hrow : Sl kEvent (fun j => (j < w.heap.size ∨ wA.heap.size ≤ j) ∧ j < w4.heap.size) wr A4 c4 evs := H4F.out.stay h3.but.size (fun q hq hl => h3.but.block q hl (fun h => h.elim (HFR.out q hq).2.1 (HFR.out q hq).2.2.1))
                  obtain ⟨ad4, S, sa, T, ta, rfl, c0, c1, c2, c3, hS, hT⟩ := row_ev_at hrow.2.2 hje
                  have hev : ((recsFrom es evs)[j]).ev = evs[j] := by
                    have h := List.getElem_of_eq (recsFrom_ev es evs) (i := j) (by rw [List.length_map]; exact hjr)
                    simpa using h
                  have HTK := Lib.hid (show recsOf es ++ (recsFrom es evs).take (j + 1) = (recsOf es ++ (recsFrom es evs).take j) ++ [(recsFrom es evs)[j]] by rw [List.take_succ_eq_append_getElem hjr, List.append_assoc])
                  have hxl : (recsOf es ++ (recsFrom es evs).take j).length ≤ 200 := by rw [List.length_append, recsOf_len, List.length_take]; omega
                  have hine := HIN.out _ (List.getElem_mem hje)
                  generalize (recsFrom es evs)[j] = rc at q0 q1 q2 q3 q4 q5 hT1 hF1 hev HTK
                  generalize evs[j] = e at p0 p1 p2 p3 hT2 hF2 c0 c1 c2 c3 hS hT hev hine
                  subst hev
                  have htl := hine.tl
                  have hfl := hine.fl
                  have z0 : wr.cell? (adr.add (j * 6)) = some (.int .i64 rc.pos) := by rw [HADR.out, add0']; exact (hxr.cell _).trans q0
                  have z1 : wr.cell? ⟨(adr.add (j * 6)).block, (adr.add (j * 6)).off + 1, none⟩ = some (.int .i64 rc.ver) := by rw [HADR.out, add0']; exact (hxr.cell _).trans q1
                  have HKR := Lib.hid (show kRec.K (fun q => (¬ B.has q ∧ q < w7.heap.size) ∧ some q ≠ v6.ownBlock) wr.drew rc [.int .i64 rc.pos, .int .i64 rc.ver, .string rc.ev.stream, .string rc.ev.type, .slice S rc.ev.tags.length sa, .slice T rc.ev.fields.length ta] from by
                    have hm : ∀ q, ((q < w.heap.size ∨ wA.heap.size ≤ q) ∧ q < w4.heap.size) → (¬ B.has q ∧ q < w7.heap.size) ∧ some q ≠ v6.ownBlock := fun q hq => ⟨⟨(HFR.out q hq).1, (HFR.out q hq).2.2.2⟩, fun e1 => (h3.q q e1.symm).elim (HFR.out q hq).2.2.1 (fun h => by omega)⟩
                    exact kRec_mk ((hS.mono hm).drewN 1) ((hT.mono hm).drewN 1))
                  have HR2 := Lib.hid (fun W (hx : Bx W gr 49 cs_r) => show W.cell? ⟨(adr.add (j * 6)).block, (adr.add (j * 6)).off + 2, none⟩ = some (.string rc.ev.stream) ∧ W.cell? ⟨(adr.add (j * 6)).block, (adr.add (j * 6)).off + 3, none⟩ = some (.string rc.ev.type) ∧ W.cell? ⟨(adr.add (j * 6)).block, (adr.add (j * 6)).off + 4, none⟩ = some (.slice T1 rc.ev.tags.length ct1) ∧ W.cell? ⟨(adr.add (j * 6)).block, (adr.add (j * 6)).off + 5, none⟩ = some (.slice F1 rc.ev.fields.length cf1) from by
                    rw [HADR.out, add0']; exact ⟨(hx.cell _).trans q2, (hx.cell _).trans q3, (hx.cell _).trans q4, (hx.cell _).trans q5⟩)
                  have HE2 := Lib.hid (fun W (hx : Bx W ge 25 cs_e) => show W.cell? (ade.add (j * 4)) = some (.string rc.ev.stream) ∧ W.cell? ⟨(ade.add (j * 4)).block, (ade.add (j * 4)).off + 1, none⟩ = some (.string rc.ev.type) ∧ W.cell? ⟨(ade.add (j * 4)).block, (ade.add (j * 4)).off + 2, none⟩ = some (.slice T2 rc.ev.tags.length ct2) ∧ W.cell? ⟨(ade.add (j * 4)).block, (ade.add (j * 4)).off + 3, none⟩ = some (.slice F2 rc.ev.fields.length cf2) from by
                    rw [HADE.out, add0']; exact ⟨(hx.cell _).trans p0, (hx.cell _).trans p1, (hx.cell _).trans p2, (hx.cell _).trans p3⟩)
                  have HT1 := Lib.hid hT1
                  have HF1 := Lib.hid hF1
                  have HT2 := Lib.hid hT2
                  have HF2 := Lib.hid hF2
                  have j1 : (0 : Int) ≤ (j : Int) := Int.natCast_nonneg _
                  have j2 : (j : Int) < (N : Int) := by omega
                  have hww : w.heap.size ≤ wr.heap.size := by have := h3.but.size; omega
                  clear h3 hxr hxe hxb hxo q0 q1 q2 q3 q4 q5 p0 p1 p2 p3 hT1 hF1 hT2 hF2 hrow hS hT hine
                  go_upto_region 24 with fail
                  go_cut [5] (fun v wx => S3 w wF wx B (es ++ evs) v5.ownBlock w7.heap.size P v (recsOf es ++ (recsFrom es evs).take (j + 1)))
                  case first =>
                    go_region_law (first | (refine step_push (W := wr.drew) rfl _ _ _ rfl 49 _ 6 96 Try.underlying40 infoRec rfl (by decide) (by decide) rfl w.heap.size (fun q => ¬ B.has q ∧ q < w7.heap.size) _ (recsOf es ++ (recsFrom es evs).take j) rfl (H3.out.own.drewN 1) rc [.int .i64 rc.pos, .int .i64 rc.ver, .string rc.ev.stream, .string rc.ev.type, .slice S rc.ev.tags.length sa, .slice T rc.ev.fields.length ta] HKR.out _ rfl rfl hww (by omega) ?_; intro v1 w1 hown1 hg1 hat1 hbel1; have HP1 := Lib.hid (show S3 w wF w1 B (es ++ evs) v5.ownBlock w7.heap.size P v1 (recsOf es ++ (recsFrom es evs).take (j + 1)) from by rw [HTK.out]; exact H3.out.push HZ.out (W := wr.drew) (below_drawn (Below.refl _ _)) hown1 hg1 hat1); clear hown1 hg1 hat1 hbel1))
                    all_goals go_wp2_with fail
                    all_goals go_meet
                    all_goals exact HP1.out
                  case rest =>
                    obtain ⟨w11, hw11⟩ : ∃ w11, w11 = wc := ⟨_, rfl⟩
                    subst hw11
                    have H11 := Lib.hid hcut
                    obtain ⟨_, hxe, _, hxo⟩ := HST.out _ _ _ hcut
                    have o1 := hxo.cell 1
                    simp only [List.getElem?_cons_succ, List.getElem?_cons_zero] at o1
                    obtain ⟨y0, y1, y2, y3⟩ := HE2.out _ hxe
                    have CS1 := Lib.hid (spoil14_any (w := w11) (s := rc.ev.stream) (t := rc.ev.type) (ct := ct2) (cf := cf2) (HT2.out.via hcut) (HF2.out.via hcut) htl hfl)
                    clear hxe hxo hcut H3 HKR z0 z1 b1 c0 c1 c2 c3
                    go_upto_region 26 with (go_at_call 19; go_fit CS1.out; rintro r5 w12 ⟨rfl, hs12⟩; have H12 := Lib.hid (H11.out.spoil HZ.out hs12); clear hs12)
                    obtain ⟨hxr, _, _, _⟩ := HST.out _ _ _ H12.out
                    obtain ⟨y4, y5, y6, y7⟩ := HR2.out _ hxr
                    have CS2 := Lib.hid (spoil14_any (w := w12) (s := rc.ev.stream) (t := rc.ev.type) (ct := ct1) (cf := cf1) (HT1.out.via H12.out) (HF1.out.via H12.out) htl hfl)
                    clear hxr y0 y1 y2 y3 o1 CS1
                    go_wp2_with (go_at_call 19; go_fit CS2.out; rintro r5 w13 ⟨rfl, hs13⟩; have H13 := Lib.hid (H12.out.spoil HZ.out hs13); clear hs13)
                    go_roundw
                    case rel => exact ⟨j + 1, by omega, by go_num, H13.out⟩
                    case measure => simp [intOf]; omega
                · obtain rfl : j = N := by omega
                  have HFIN := Lib.hid (show S3 w wF wr B (es ++ evs) v5.ownBlock w7.heap.size P v6 (recsOf es ++ recsFrom es evs) by rw [List.take_of_length_le (by omega)] at h3; exact h3)
                  clear h3 hxr hxe hxb hxo
                  go_wp2_with fail
                  go_meet
                  exact HFIN.out
            case rest =>
              have H3 := Lib.hid (show S3 w wF wc B (es ++ evs) v5.ownBlock w7.heap.size P _ (recsOf (es ++ evs)) by rw [recsOf_append]; exact hcut)
              obtain ⟨wG, hwG⟩ : ∃ wG, wG = wc := ⟨_, rfl⟩
              subst hwG
              obtain ⟨M, hM⟩ : ∃ M, (es ++ evs).length = M := ⟨_, rfl⟩
              have hMl : es.length + N ≤ M := by rw [← hM, List.length_append]; omega
              have hMu : M ≤ es.length + N := by rw [← hM, List.length_append]; omega
              have C1 := Lib.hid (iLast H3.out.ix)
              have C2 := Lib.hid (show Calls Try.prog 20 #[.pointer (some ⟨B.b, 0, none⟩), .int .i64 M] wG fun r w' => ∃ (A' : Option Addr) (c' : Nat), r = .returned (.slice A' M c') ∧ Own kRecW 49 wG.heap.size (fun k => wG.heap.size ≤ k) w' (.slice A' M c') (recsOf (es ++ evs)) ∧ Below wG.heap.size wG w' from by
                have := iAllW H3.out.ix (M : Int)
                rw [allR_all _ (by rw [hM]; exact Int.le_refl _), recsOf_len, hM] at this
                exact this)
              rw [hM] at C1
              have hFG := H3.out.but.size
              clear hcut HS3 HRE HRR HXR HXE HXB HXO HST
              go_upto_region 28 with (first
                | (go_at_call 20; go_fit C2.out; rintro r wH ⟨A10, c10, rfl, h10, hb10⟩; have H10 := Lib.hid h10; have HBH := Lib.hid hb10; clear h10 hb10)
                | (go_at_call 17; go_fit C1.out; rintro r w14 ⟨rfl, rfl⟩))
              have hrl2 : (recsOf (es ++ evs)).length = M := by rw [recsOf_len]; exact hM
              obtain ⟨ga, ca, cs_a, hva, hca, hcam, hgab, hgal, hxa, hrowA⟩ := H10.out.rowR (by omega)
              rw [hrl2] at hva hca
              simp only [Value.slice.injEq, true_and] at hva
              obtain ⟨hA10, hc10⟩ := hva
              subst hA10 hc10
              obtain ⟨P2, hP2⟩ : ∃ P2 : Nat → Prop, P2 = fun j => (wG.heap.size ≤ j ∧ j < wH.heap.size) ∧ j ≠ ga := ⟨_, rfl⟩
              have HP2 := Lib.hid hP2
              have HRA := Lib.hid (show RowR wH cs_a (recsOf (es ++ evs)) P2 from hrowA.mono (fun j hj hl => by rw [hP2]; exact ⟨⟨hj.1, hl⟩, hj.2⟩))
              have HXA := Lib.hid hxa
              obtain ⟨ada, hada⟩ : ∃ ada : Addr, ada = ⟨ga, 0, none⟩ := ⟨_, rfl⟩
              have HADA := Lib.hid hada
              rw [← hada]
              have HIN2 := Lib.hid (show ∀ e ∈ es ++ evs, EvIn e from fun e he => H3.out.ix.inn e he)
              clear hada hxa hrowA hP2 C1 C2
              go_wp2_with fail
              go_loopw [15] (fun i wr => ∃ j : Nat, j ≤ M ∧ i = .int .i64 j ∧ Spoil P2 wH wr) (fun i _ => M - (intOf i).toNat)
              case atStart => exact ⟨0, Nat.zero_le _, rfl, Spoil.refl _ _⟩
              case round =>
                obtain ⟨j, hj, rfl, hsp⟩ := hrel
                have HSP := Lib.hid hsp
                by_cases hlt4 : j < M
                · have hjr : j < (recsOf (es ++ evs)).length := by omega
                  obtain ⟨T1, ct1, F1, cf1, q0, q1, q2, q3, q4, q5, hT1, hF1⟩ := HRA.out j _ (List.getElem?_eq_getElem hjr)
                  have hine := HIN2.out _ (recsOf_mem (List.getElem_mem hjr)).2.2.2
                  generalize (recsOf (es ++ evs))[j] = rc at q0 q1 q2 q3 q4 q5 hT1 hF1 hine
                  have hxa : Bx wr ga 49 cs_a := HXA.out.stay (fun hk => hsp.but.block _ hk (by rw [HP2.out]; exact fun h => h.2 rfl))
                  have z2 : wr.cell? ⟨(ada.add (j * 6)).block, (ada.add (j * 6)).off + 2, none⟩ = some (.string rc.ev.stream) := by rw [HADA.out, add0']; exact (hxa.cell _).trans q2
                  have z3 : wr.cell? ⟨(ada.add (j * 6)).block, (ada.add (j * 6)).off + 3, none⟩ = some (.string rc.ev.type) := by rw [HADA.out, add0']; exact (hxa.cell _).trans q3
                  have z4 : wr.cell? ⟨(ada.add (j * 6)).block, (ada.add (j * 6)).off + 4, none⟩ = some (.slice T1 rc.ev.tags.length ct1) := by rw [HADA.out, add0']; exact (hxa.cell _).trans q4
                  have z5 : wr.cell? ⟨(ada.add (j * 6)).block, (ada.add (j * 6)).off + 5, none⟩ = some (.slice F1 rc.ev.fields.length cf1) := by rw [HADA.out, add0']; exact (hxa.cell _).trans q5
                  have CS1 := Lib.hid (spoil14_any (w := wr) (s := rc.ev.stream) (t := rc.ev.type) (ct := ct1) (cf := cf1) (hT1.spoil hsp) (hF1.spoil hsp) hine.tl hine.fl)
                  have j1 : (0 : Int) ≤ (j : Int) := Int.natCast_nonneg _
                  have j2 : (j : Int) < (M : Int) := by omega
                  clear hsp q0 q1 q2 q3 q4 q5 hT1 hF1 hine hxa
                  go_wp2_with (go_at_call 19; go_fit CS1.out; rintro r5 w15 ⟨rfl, hs15⟩; have H15 := Lib.hid (HSP.out.trans hs15); clear hs15)
                  go_roundw
                  case rel => exact ⟨j + 1, by omega, by go_num, H15.out⟩
                  case measure => simp [intOf]; omega
                · obtain rfl : j = M := by omega
                  clear hsp
                  obtain ⟨wL, hwL⟩ : ∃ wL, wL = wr := ⟨_, rfl⟩
                  subst hwL
                  have hGH := HBH.out.size
                  have hp2 : ∀ j, P2 j → wG.heap.size ≤ j ∧ j < wH.heap.size := fun j hj => by rw [HP2.out] at hj; exact hj.1
                  have HFIN := Lib.hid (show Lw w wL B (es ++ evs) _ from
                    ⟨((H3.out.ix.fence HBH.out (Y := fun j => ((j < w.heap.size ∨ P j) ∨ _) ∨ P2 j) (fun j hj => hj.imp id (hp2 j))).far (HSP.out.but.mono (fun j hj => .inr hj))).less (fun j hj => .inl (hj.imp .inl id)),
                      ((H3.out.own.below HBH.out).stay HSP.out.but.size (fun j hj hl => HSP.out.but.block j hl (fun hp => by have := hp2 j hp; exact hj.elim (fun h => by omega) (fun h => by have := H3.out.own.block_lt j h; omega)))).mono (fun j hj => hj.1),
                      HS4.out.lo,
                      HSP.out.but.below (bthen (H3.out.but.below (HB4F.out.below HS4.out.bel hww4 HS4.out.lo) (by omega) (fun j hj => hj.elim (fun hp => by have := (HZ.out.p j hp).1; omega) (fun hq => (HZ.out.q j hq).1))) HBH.out) (by omega) (fun j hj => by have := hp2 j hj; omega)⟩)
                  clear hp2
                  go_wp2_with fail
                  go_roundw
                  case rel => exact ⟨k + 1, es ++ evs, by omega, by omega, by go_num, by omega, HFIN.out⟩
                  case measure => simp [intOf]; omega
      · have HF := Lib.hid (show ∃ es, es.length ≤ 80 ∧ Lw w wr B es v5 from ⟨es, by omega, hs⟩)
        have hstop : k < l.length → ¬ k < 10 := fun h h2 => hlt ⟨h, h2⟩
        clear hs HS hlt
        rcases Nat.lt_or_ge k l.length with hc | hc
        · have h10 := hstop hc
          clear hstop
          go_wp2_with fail
          go_meet
          exact HF.out
        · clear hstop
          go_wp2_with fail
          go_meet
          exact HF.out
  case rest =>
    obtain ⟨es, hes, hs⟩ := hcut
    have HS := Lib.hid hs
    have C1 := Lib.hid (iLast hs.ix)
    have C2 := Lib.hid (show Calls Try.prog 20 #[.pointer (some ⟨B.b, 0, none⟩), .int .i64 es.length] wc fun r w' => ∃ (A' : Option Addr) (c' : Nat), r = .returned (.slice A' (recsOf es).length c') ∧ SlR w' A' c' (recsOf es) ∧ Below wc.heap.size wc w' from by
      have := iAll hs.ix es.length
      rw [allR_all _ (Int.le_refl _)] at this
      exact this.mono (fun r w' ⟨A', c', e, h1, h2⟩ => ⟨A', c', e, h1.any, h2⟩))
    have CS := Lib.hid (fun W (A1 A2 : Option Addr) (c1 c2 : Nat) (h1 : SlR W A1 c1 (recsOf es)) (h2 : SlR W A2 c2 (recsOf es)) => show Calls Try.prog 21 #[.slice A1 (recsOf es).length c1, .slice A2 (recsOf es).length c2] W fun r w' => r = .returned (.bool true) ∧ Below W.heap.size W w' from by
      have := ref14Same_any h1 h2
      rw [sameRs_refl] at this
      exact this)
    obtain ⟨A2, c2, hv, hsl⟩ := hs.own.sl
    have HSL := Lib.hid hsl.any
    have HBEL := Lib.hid hs.bel
    subst hv
    clear hs hsl
    go_wp2_with (first
      | (go_at_call 21; go_fit (CS.out _ _ _ _ _ HA1.out HA2.out); rintro r w9 ⟨rfl, hb9⟩; have HB9 := Lib.hid hb9; clear hb9)
      | (go_at_call 20; go_fit C2.out; rintro r w8 ⟨A8, c8, rfl, h8, hb8⟩; have HA1 := Lib.hid h8; have HA2 := Lib.hid (HSL.out.below hb8); have HB8 := Lib.hid hb8; clear h8 hb8)
      | (go_at_call 17; go_fit C1.out; rintro r w7 ⟨rfl, rfl⟩))
    go_ret
    exact ⟨rfl, bthen HBEL.out (bthen HB8.out HB9.out)⟩
end Go.Proofs.Ytfoghahidofegaa

namespace Go.Proofs.Ytfoghahidofegaa

set_option maxRecDepth 100000 in
def ordN : List Nat := [104, 97, 114, 110, 101, 115, 115, 32, 51, 53, 102, 101, 54, 49, 53, 55, 98, 97, 100, 49, 55, 49, 56, 102, 100, 54, 51, 57, 51, 102, 48, 57, 48, 52, 49, 53, 54, 101, 56, 48, 49, 53, 48, 51, 49, 51, 55, 50, 54, 98, 54, 102, 52, 50, 101, 100, 56, 56, 98, 54, 51, 102, 57, 102, 52, 57, 97, 49, 101, 98, 57, 50, 32, 99, 117, 116, 32, 97, 116, 32, 114, 101, 103, 105, 115, 116, 114, 97, 114, 47, 114, 101, 103, 105, 115, 116, 114, 97, 114, 108, 97, 119, 48, 52, 46, 69, 118, 101, 110, 116, 80, 97, 114, 116, 115, 32, 114, 101, 103, 105, 115, 116, 114, 97, 114, 47, 114, 101, 103, 105, 115, 116, 114, 97, 114, 108, 97, 119, 48, 52, 46, 69, 118, 101, 110, 116, 78, 111, 114, 109, 32, 114, 101, 103, 105, 115, 116, 114, 97, 114, 47, 114, 101, 103, 105, 115, 116, 114, 97, 114, 108, 97, 119, 49, 52, 46, 73, 110, 100, 101, 120, 79, 119, 110, 32, 114, 101, 103, 105, 115, 116, 114, 97, 114, 47, 114, 101, 103, 105, 115, 116, 114, 97, 114, 108, 97, 119, 49, 52, 46, 73, 110, 100, 101, 120, 83, 116, 97, 121, 115]
def ordL : List Char := ordN.map Char.ofNat
theorem order_eq : Try.prog.initOrder = String.ofList ordL := by kernel_rfl
theorem signs_eq : Try.prog.initOrder.toList = ordL := by rw [order_eq, String.toList_ofList]
def ordRest : List (List Char) := (behindMainWord (wordsSigns ordL)).tail
theorem words_eq : behindMainWord (wordsSigns ordL) = "cut".toList :: ordRest := by kernel_rfl
theorem strip_cut (r : List (List Char)) : stripLifts liftWords ("cut".toList :: r) = ([], "cut".toList :: r) := by kernel_rfl
theorem mayEnter_of (P : Program) (rest : List (List Char)) (h : behindMainWord (wordsSigns P.initOrder.toList) = "cut".toList :: rest) (h1 : P.laysLater = false) (h2 : P.bearsReflect = false) (h3 : P.doorFits [] = true) : P.mayEnter = true := by
  unfold Program.mayEnter
  rw [h]
  dsimp only
  rw [strip_cut, h1, h2, h3]
  simp
theorem lifts_of (P : Program) (rest : List (List Char)) (h : behindMainWord (wordsSigns P.initOrder.toList) = "cut".toList :: rest) : P.liftsFinal = false := by
  unfold Program.liftsFinal Program.headLifts
  rw [h, strip_cut]
  simp
theorem make_of (P : Program) (rest : List (List Char)) (h : behindMainWord (wordsSigns P.initOrder.toList) = "cut".toList :: rest) : P.make = some .cut := by
  unfold Program.make
  rw [h]
  dsimp only
  rw [if_neg (by decide), if_pos (by simp)]
theorem door_of (P : Program) (h : P.doorRows = []) : P.doorFits [] = true := by
  unfold Program.doorFits
  rw [h]
  simp
theorem head_eq : behindMainWord (wordsSigns Try.prog.initOrder.toList) = "cut".toList :: ordRest := by rw [signs_eq]; exact words_eq
theorem h_later : Try.prog.laysLater = false := by kernel_rfl
theorem h_refl : Try.prog.bearsReflect = false := by kernel_rfl
theorem h_rows : Try.prog.doorRows = [] := by kernel_rfl
theorem mayEnter_eq : Try.prog.mayEnter = true := mayEnter_of _ _ head_eq h_later h_refl (door_of _ h_rows)
theorem lifts_eq : Try.prog.liftsFinal = false := lifts_of _ _ head_eq
theorem make_eq : Try.prog.make = some .cut := make_of _ _ head_eq
theorem laidOut_eq : laidOutB Try.prog = true := by kernel_rfl
theorem mapsRowed_eq : mapsRowed Try.prog = true := by kernel_rfl
theorem stops_eq : (Try.prog.stops == []) = true := by kernel_rfl
theorem stopKnobs_eq : (Try.prog.stopKnobs == []) = true := by kernel_rfl
theorem heard_eq : Try.prog.stopsHeard = true := by kernel_rfl
theorem own_eq : ownKnob Try.prog.godebug = none := by kernel_rfl

/-- The rows' one great closed fact, out of its parts. -/
theorem joined_of {P : Program} {f : FuncId} {fn : Func} {s : ChangeSpec} {c : OpenClaim}
    (k1 : c.wf (OpenSpec.ofChange s) = true) (k2 : laidOutB P = true) (k3 : mapsRowed P = true) (k4 : fn.params.all (P.readableRec ·) = true) (k5 : namedTie P c.named s.vars = true)
    (k6 : (c.stops == []) = true) (k7 : (P.stops == []) = true) (k8 : (c.knobs == []) = true) (k9 : (P.stopKnobs == []) = true)
    (k10 : (c.inPlace == P.inPlace f) = true) (k11 : (c.unfollowed == P.unfollowed f) = true) (k12 : (c.recurses == P.recurses f) = true) (k13 : (c.named == P.varsNamed f) = true)
    (k14 : (c.maps == (fn.params.toList ++ s.plain.varTypes P).any (P.mapsRec ·)) = true) (k15 : (c.ifaces == (fn.params.toList ++ s.plain.varTypes P).any (P.ifacesRec ·)) = true) (k16 : (c.mapsOut == P.mapsAmong fn.resultTypes.toList) = true)
    (k17 : (c.loops == (fn.params.toList ++ s.plain.varTypes P).any (P.loopsFrom ·)) = true) (k18 : (c.wideKeys == (fn.params.toList ++ s.plain.varTypes P ++ fn.resultTypes.toList).any (P.wideKeysFrom ·)) = true)
    (k19 : s.vars.all (P.varReadable ·) = true) (k20 : fn.resultTypes.all (fun t => P.readableRec t && decide (t < P.types.size)) = true) (k21 : (c.ifacesOut == fn.resultTypes.toList.any (P.ifacesRec ·)) = true) (k22 : (c.loopsOut == fn.resultTypes.toList.any (P.loopsFrom ·)) = true)
    (k23 : (c.plainKeys == P.plainKeys) = true) (k24 : c.shortTexts.isNone = true) (k25 : P.stopsHeard = true) (k26 : P.mayEnter = true) (k27 : (c.lifted == P.liftsFinal) = true) (k28 : (P.make == some c.make) = true)
    (k29 : c.kinds = [] ∧ c.domain = []) (k30 : (c.pinned == c.pinnedBy) = true)
    (k31 : (c.veiled == (fn.params.toList ++ s.plain.varTypes P ++ fn.resultTypes.toList).any (P.veiledRec ·)) = true) (k32 : c.veiledFits P fn.params.toList (fn.params.toList ++ s.plain.varTypes P ++ fn.resultTypes.toList) = true) :
    joinedFacts P f fn s c = true := by
  unfold joinedFacts
  rw [k1, k2, k3, k4, k5, k6, k7, k8, k9, k10, k11, k12, k13, k14, k15, k16, k17, k18, k19, k20, k21, k22, k23, k24, k25, k26, k27, k28, k29.1, k29.2, k30, k31, k32]
  rfl
end Go.Proofs.Ytfoghahidofegaa

namespace Go.Proofs.Ytfoghahidofegaa.indexOwn
open Go.ChangeShapes Go.WideShapes Go.ChangeAt Go.RowKit
open Go.ChangeMaps (open_string shut_string)
set_option maxRecDepth 100000 in
theorem lifted (os : Os) (started : os.Started) (H : Type) (enc : TypeId × Value → H) :
    ReturnsInHanded {} Try.checked os 5 .any (Rows.indexOwnSpec.pre6 enc Try.prog Try.f5 Rows.indexOwnRow.domain false) (Rows.indexOwnSpec.post enc Try.prog Try.f5 false true false false) := by
  refine returnsInHanded_of_change_sized (C := Try.checked) own_eq started (by kernel_rfl) Try.func5
    (ChangeSpec.witness6 (enc := enc) (C := Try.checked) false ⟨#[], #[.slice none 0 0], []⟩ 8 (by kernel_rfl) (by kernel_rfl) (by kernel_rfl) (by kernel_rfl)) ?_
  intro W base args ds gs before hval0 hW hcnd hsz0 _
  have hval : ∀ (j : Nat) t v, Try.f5.params[j]? = some t → args[j]? = some v → Value.okWide Try.prog W .any base t v := hval0
  have hW' := hW
  obtain ⟨p, q, hA0, hV, rfl, hfz, hnd⟩ := hW
  have hA : DataW.TrodAll enc Try.prog W 0 (fun _ => true) true Try.f5.params.toList args.toList ds p := hA0
  rw [Try.params5] at hA hval
  obtain ⟨v0, vs0, d0, ds0, p0, q0, hargs, rfl, rfl, h0, r0⟩ := trodAll_cons hA
  obtain ⟨rfl, rfl, rfl⟩ := trodAll_nil r0
  obtain rfl : args = #[v0] := by cases args; simp_all
  obtain ⟨rfl, rfl⟩ := trodVars_none hV
  have k0 := h0
  have lt0 : ∀ x ∈ p0, x.block < W.heap.size := by obtain ⟨m, hm⟩ := k0; exact DataW.trod_lt m _ _ _ hm
  obtain ⟨a0, len0, cap0, rfl⟩ := okWide_slice Try.underlying37 (hval 0 37 v0 rfl rfl)
  obtain ⟨x0, ⟨A0, c0, e0, l0, m0, w0⟩, g0⟩ := (opBatches).arg h0
  simp only [Value.cells, List.cons.injEq, Value.slice.injEq, and_true] at e0
  obtain ⟨rfl, rfl, rfl⟩ := e0
  clear hA0 hval0
  refine (indexOwn_walk W _ _ x0 ⟨l0, m0, w0⟩ g0).mono fun e W' ⟨he, bel⟩ => ?_
  subst he
  exact ⟨_, rfl, _, _, _, [], _, [], hW', trodAll_mk1 (shut_bool Try.underlying4 _), (trodAll_cons_mk (Below.trod laidOut_eq (by kernel_rfl) (of_decide_eq_true (by kernel_rfl)) k0 bel lt0) trodAll_mk0), rfl, bel.frame _, fun h => by cases h⟩
theorem k10 : (Rows.indexOwnRow.inPlace == Try.prog.inPlace 5) = true := by kernel_rfl
theorem k11 : (Rows.indexOwnRow.unfollowed == Try.prog.unfollowed 5) = true := by kernel_rfl
theorem k12 : (Rows.indexOwnRow.recurses == Try.prog.recurses 5) = true := by kernel_rfl
theorem k13 : (Rows.indexOwnRow.named == Try.prog.varsNamed 5) = true := by kernel_rfl
theorem k23 : (Rows.indexOwnRow.plainKeys == Try.prog.plainKeys) = true := by kernel_rfl
theorem kfn : Try.pinned.checked.prog.funcNamed Rows.indexOwnRow.func = some 5 := by kernel_rfl
theorem closed : joinedFacts Try.prog 5 Try.f5 Rows.indexOwnSpec Rows.indexOwnRow = true :=
  joined_of (by kernel_rfl) laidOut_eq mapsRowed_eq (by kernel_rfl) (by kernel_rfl) rfl stops_eq rfl stopKnobs_eq k10 k11 k12 k13 (by kernel_rfl) (by kernel_rfl) (by kernel_rfl) (by kernel_rfl) (by kernel_rfl) (by kernel_rfl) (by kernel_rfl) (by kernel_rfl) (by kernel_rfl) k23 rfl heard_eq mayEnter_eq (by rw [lifts_eq]; rfl) (by rw [make_eq]; rfl) ⟨rfl, rfl⟩ (by kernel_rfl) (by kernel_rfl) (by kernel_rfl)
theorem over : Rows.indexOwnRow.holds Try.pinned (OpenSpec.ofChange Rows.indexOwnSpec) :=
  OpenClaim.holds_of_wide 5 Try.f5 rfl rfl rfl rfl rfl rfl rfl ⟨rfl, rfl, rfl, rfl, rfl⟩ rfl rfl rfl rfl rfl kfn Try.func5 closed
    (of_decide_eq_true (by kernel_rfl)) (by unfold Func.isWrapper; first | (rw [if_pos (by decide +kernel)]; kernel_rfl) | (rw [if_neg (by decide +kernel)]; exact ⟨rfl, rfl⟩))
    (fun os started H enc _ => lifted os started H enc)
theorem proved : Rows.IndexOwnSaid := over
#print axioms proved
end Go.Proofs.Ytfoghahidofegaa.indexOwn
