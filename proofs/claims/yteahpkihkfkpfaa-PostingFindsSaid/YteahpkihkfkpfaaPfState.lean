/- registrarlaw13.Op (an event and a distance): its kind, its opener, its row. PostingFinds: the state of its loop, and what an Add on both sides makes of it. -/
import Derived.Test.YteahpkihkfkpfaaRef13add
import Derived.Test.YteahpkihkfkpfaaLaw13q
set_option linter.unusedVariables false
set_option linter.unusedSimpArgs false
namespace Go.Proofs.Yteahpkihkfkpfaa
open Go.RowKit

def kOp : Kn EP := Kn.pair kEvent (Kn.int .i64)
theorem row_op_at {ok : Nat → Prop} {w : World} {A : Option Addr} {xs : List EP} (h : Row kOp ok w A xs) {j : Nat} (hj : j < xs.length) :
    ∃ ad T ct F cf, A = some ad ∧ w.cell? (ad.add (j * 5)) = some (.string xs[j].1.stream) ∧ w.cell? ⟨(ad.add (j * 5)).block, (ad.add (j * 5)).off + 1, none⟩ = some (.string xs[j].1.type) ∧ w.cell? ⟨(ad.add (j * 5)).block, (ad.add (j * 5)).off + 2, none⟩ = some (.slice T xs[j].1.tags.length ct) ∧
      w.cell? ⟨(ad.add (j * 5)).block, (ad.add (j * 5)).off + 3, none⟩ = some (.slice F xs[j].1.fields.length cf) ∧ w.cell? ⟨(ad.add (j * 5)).block, (ad.add (j * 5)).off + 4, none⟩ = some (.int .i64 xs[j].2) ∧ Sl Kn.str ok w T ct xs[j].1.tags ∧ Sl kField ok w F cf xs[j].1.fields ∧ ad.block < w.heap.size := by
  obtain ⟨ad, cs, e, _, hlt, _, hk, hc⟩ := h.at_ hj
  obtain ⟨c0, c1, rfl, hk0, hk1⟩ := hk
  obtain ⟨T, ct, F, cf, rfl, h1, h2⟩ := kEvent_out hk0
  have hk1' : c1 = [.int .i64 xs[j].2] := hk1
  subst hk1'
  rw [show kOp.sz = 5 from rfl] at hc
  refine ⟨ad, T, ct, F, cf, e, hc 0 _ rfl, ?_, ?_, ?_, ?_, h1, h2, hlt⟩
  · have := hc 1 _ rfl
    rwa [add_field _ _ _ (by omega)] at this
  · have := hc 2 _ rfl
    rwa [add_field _ _ _ (by omega)] at this
  · have := hc 3 _ rfl
    rwa [add_field _ _ _ (by omega)] at this
  · have := hc 4 _ rfl
    rwa [add_field _ _ _ (by omega)] at this
def goodOp (x : EP) : Prop := goodEvent x.1 ∧ (Lit.int .i64 x.2).wf = true
theorem opOp : Opens Try.prog 61 kOp goodOp :=
  Opens.struct (d := kOp) (good := fun (y : EP) => goodEvent y.1 ∧ gN y.2) Try.underlying61 (by kernel_rfl) (OpensFs.cons (good := goodEvent) (good' := gN) (d := kEvent) opEvent (by kernel_rfl) (OpensFs.last opInt (by kernel_rfl)))
theorem opOps : Opens Try.prog 56 (Kn.slice kOp) (fun q => ∀ c ∈ q, goodOp c) := Opens.slice Try.underlying56 (by kernel_rfl) (by decide) opOp
theorem Rl.less {w : World} {y cE cP : Nat} {E P : Option Addr} {es : List EP} {X Y : Nat → Prop} (h : Rl w y E cE P cP es X) (hY : ∀ k, Y k → X k) : Rl w y E cE P cP es Y := h.fence (Below.refl _ _) (fun k hk => .inl (hY k hk))
/-- `&registrarref13.Lists{}` is the lists of no events. -/
theorem rl_new (w : World) (X : Nat → Prop) (hX : ∀ k, X k → k < w.heap.size) : Rl (w.alloc (.cells #[.slice none 0 0, .slice none 0 0] 59)) w.heap.size none 0 none 0 [] X :=
  ⟨Bx.new w 59 [.slice none 0 0, .slice none 0 0], Sl.nil_, Sl.nil_, fun h => by have := hX _ h; omega, fun k hk => by have := hX k hk; simp; omega⟩
theorem lastI_lastE (es : List EP) : lastI (posE es) = lastE es := lastI_pos es
end Go.Proofs.Yteahpkihkfkpfaa
namespace Go.Proofs.Yteahpkihkfkpfaa
open Go.RowKit Go.Maps

/-- The loop's state: posting's lists (p, mt, my) and the reference's (y) hold the same events; g is the query's box. -/
structure Pf2 (w wr : World) (p mt my y g : Nat) (gv : List Value) (k : Nat) (es : List EP) (pos : Int) : Prop where
  q : Q3 wr p mt my es (fun j => j = y ∨ j = g)
  r : ∃ E cE P cP, Rl wr y E cE P cP es (fun j => j = p ∨ j = mt ∨ j = my ∨ j = g)
  lo : w.heap.size ≤ p ∧ w.heap.size ≤ mt ∧ w.heap.size ≤ my ∧ w.heap.size ≤ y
  bel : Below w.heap.size w wr
  len : es.length ≤ k
  hi : ∀ x ∈ posE es, x ≤ 3 * (k : Int)
  ps : -(3 * (k : Int)) ≤ pos ∧ pos ≤ 3 * (k : Int)
  gx : Bx wr g 52 gv
section
variable {w wr W : World} {p mt my y g k : Nat} {gv : List Value} {es : List EP} {pos : Int}
theorem Pf2.below (h : Pf2 w wr p mt my y g gv k es pos) (hb : Below wr.heap.size wr W) : Pf2 w W p mt my y g gv k es pos := by
  obtain ⟨E, cE, P, cP, hr⟩ := h.r
  exact ⟨h.q.below hb, ⟨E, cE, P, cP, hr.below hb⟩, h.lo, bthen h.bel hb, h.len, h.hi, h.ps, h.gx.under hb⟩
theorem lastE_lt {es : List EP} (h : EsOK es) {x : Int} (hx : lastE es < x) : ∀ q ∈ posE es, q < x := by
  intro q hq
  rw [← lastI_lastE] at hx
  obtain ⟨j, hj, e⟩ := List.mem_iff_getElem.1 hq
  have hn : 0 < (posE es).length := by omega
  have hl : lastI (posE es) = (posE es)[(posE es).length - 1] := by
    unfold lastI
    rw [List.getLast?_eq_getElem?, List.getElem?_eq_getElem (by omega)]; rfl
  rcases Nat.lt_or_ge j ((posE es).length - 1) with h1 | h1
  · have := rise_at h.rise (List.getElem?_eq_getElem hj) (List.getElem?_eq_getElem (show (posE es).length - 1 < (posE es).length by omega)) h1
    omega
  · have : j = (posE es).length - 1 := by omega
    subst this
    omega
/-- Between the two Adds, both to be taken. -/
structure Pf3 (w wr : World) (p mt my y g : Nat) (gv : List Value) (k : Nat) (es : List EP) (e : Event) (x : Int) : Prop where
  q : Q3 wr p mt my (es ++ [(e, x)]) (fun j => j = y ∨ j = g)
  r : ∃ E cE P cP, Rl wr y E cE P cP es (fun j => j = p ∨ j = mt ∨ j = my ∨ j = g)
  lo : w.heap.size ≤ p ∧ w.heap.size ≤ mt ∧ w.heap.size ≤ my ∧ w.heap.size ≤ y
  bel : Below w.heap.size w wr
  len : es.length ≤ k
  hi : ∀ x ∈ posE es, x ≤ 3 * (k : Int)
  gx : Bx wr g 52 gv
theorem Pf3.below {e : Event} {x : Int} (h : Pf3 w wr p mt my y g gv k es e x) (hb : Below wr.heap.size wr W) : Pf3 w W p mt my y g gv k es e x := by
  obtain ⟨E, cE, P, cP, hr⟩ := h.r
  exact ⟨h.q.below hb, ⟨E, cE, P, cP, hr.below hb⟩, h.lo, bthen h.bel hb, h.len, h.hi, h.gx.under hb⟩
theorem Pf2.add1 (h : Pf2 w wr p mt my y g gv k es pos) (hk : k < 70) {e : Event} {T F : Option Addr} {ct cf : Nat} (hT : Sl Kn.str (fun j => j < w.heap.size) wr T ct e.tags) (hts : e.tags.length ≤ 50) (hge : goodEvent e) {x : Int} (h1 : ¬ x < 1) (h2 : ¬ x ≤ lastE es) :
    Calls Try.prog 21 #[.pointer (some ⟨p, 0, none⟩), vEvent e T ct F cf, .int .i64 x] wr fun r w' => r = .returned (.int .i64 0) ∧ Pf3 w w' p mt my y g gv k es e x := by
  obtain ⟨l1, l2, l3, l4⟩ := h.lo
  refine (c3Add h.q (by have := h.len; omega) (hT.mono (fun j hj => ⟨by omega, by omega, by omega⟩)) hts hge.2.2.1 hge.2.1 (by omega) (lastE_lt h.q.ok (by omega))).mono fun r w' hr => ?_
  obtain ⟨e1, h3, h4⟩ := hr
  obtain ⟨E, cE, P, cP, hr⟩ := h.r
  exact ⟨e1, h3, ⟨E, cE, P, cP, hr.far ⟨h4.os, h4.tape, h4.output, h4.size, fun j hj hn => h4.block j hj (fun hh => hn (by rcases hh with h | h | h; exact .inl h; exact .inr (.inl h); exact .inr (.inr (.inl h))))⟩⟩, h.lo, h4.below h.bel h.bel.size (fun j hj => by omega), h.len, h.hi, h.gx.stay (fun hk => h4.block _ hk (fun hh => by obtain ⟨_, _, _, n1, n2, n3⟩ := h.q.lt; rcases hh with h | h | h; exact n1 (.inr h.symm); exact n2 (.inr h.symm); exact n3 (.inr h.symm)))⟩
theorem Pf3.add2 {e : Event} {x : Int} (h : Pf3 w wr p mt my y g gv k es e x) (hg : g < w.heap.size ∨ w.heap.size ≤ g) (hk : k < 70) {T F : Option Addr} {ct cf : Nat} (hT : Sl Kn.str (fun j => j < w.heap.size ∧ j ≠ g) wr T ct e.tags) (hF : Sl kField (fun j => j < w.heap.size ∧ j ≠ g) wr F cf e.fields) (hx : -(3 * (k : Int) + 3) ≤ x ∧ x ≤ 3 * (k : Int) + 3) (h1 : ¬ x < 1) (h2 : ¬ x ≤ lastE es) :
    Calls Try.prog 32 #[.pointer (some ⟨y, 0, none⟩), vEvent e T ct F cf, .int .i64 x] wr fun r w' => r = .returned (.int .i64 0) ∧ Pf2 w w' p mt my y g gv (k + 1) (es ++ [(e, x)]) x := by
  obtain ⟨l1, l2, l3, l4⟩ := h.lo
  obtain ⟨E, cE, P, cP, hr⟩ := h.r
  have hm : ∀ j, (j < w.heap.size ∧ j ≠ g) → j ≠ y ∧ ¬ (j = p ∨ j = mt ∨ j = my ∨ j = g) := fun j hj => ⟨by omega, by omega⟩
  refine (refLAdd_any hr (by have := h.len; omega) (hT.mono hm) (hF.mono hm) x).mono fun r w' hr2 => ?_
  obtain ⟨e1, h3, h4⟩ := hr2.2 h1 h2
  refine ⟨e1, h.q.move ⟨h4.os, h4.tape, h4.output, h4.size, fun j hj hn => h4.block j hj (fun hh => hn (.inl hh))⟩ (fun j hj => .inl hj), h3, h.lo, h4.below h.bel h.bel.size (fun j hj => by omega), by have := h.len; simp; omega, fun z hz => ?_, by omega, h.gx.stay (fun hk => h4.block _ hk (fun hh => hr.xy (.inr (.inr (.inr hh.symm)))))⟩
  rw [posE_snoc] at hz
  rcases List.mem_append.1 hz with hz | hz
  · have := h.hi z hz; omega
  · simp at hz; omega
theorem Pf2.no1 (h : Pf2 w wr p mt my y g gv k es pos) {e : Event} {T F : Option Addr} {ct cf : Nat} {x : Int} (hn : x < 1 ∨ x ≤ lastE es) :
    Calls Try.prog 21 #[.pointer (some ⟨p, 0, none⟩), vEvent e T ct F cf, .int .i64 x] wr fun r w' => r = .returned (.int .i64 1) ∧ Pf2 w w' p mt my y g gv k es pos :=
  (c3AddNo h.q (by rw [lastI_lastE]; exact hn)).mono fun r w' ⟨e1, hb⟩ => ⟨e1, h.below hb⟩
theorem Pf2.no2 (h : Pf2 w wr p mt my y g gv k es pos) (hk : k < 70) {e : Event} {T F : Option Addr} {ct cf : Nat} (hT : Sl Kn.str (fun j => j < w.heap.size ∧ j ≠ g) wr T ct e.tags) (hF : Sl kField (fun j => j < w.heap.size ∧ j ≠ g) wr F cf e.fields) {x : Int} (hx : -(3 * (k : Int) + 3) ≤ x ∧ x ≤ 3 * (k : Int) + 3) (hn : x < 1 ∨ x ≤ lastE es) :
    Calls Try.prog 32 #[.pointer (some ⟨y, 0, none⟩), vEvent e T ct F cf, .int .i64 x] wr fun r w' => r = .returned (.int .i64 1) ∧ Pf2 w w' p mt my y g gv (k + 1) es x := by
  obtain ⟨l1, l2, l3, l4⟩ := h.lo
  obtain ⟨E, cE, P, cP, hr⟩ := h.r
  have hm : ∀ j, (j < w.heap.size ∧ j ≠ g) → j ≠ y ∧ ¬ (j = p ∨ j = mt ∨ j = my ∨ j = g) := fun j hj => ⟨by omega, by omega⟩
  refine (refLAdd_any hr (by have := h.len; omega) (hT.mono hm) (hF.mono hm) x).mono fun r w' hr2 => ?_
  obtain ⟨e1, hb⟩ := hr2.1 hn
  have h2 := h.below hb
  exact ⟨e1, h2.q, h2.r, h2.lo, h2.bel, by have := h.len; omega, fun z hz => by have := h.hi z hz; omega, by omega, h2.gx⟩
/-- Behind a Clone: the old one and the new one. -/
structure PfC (w wr : World) (p mt my p2 mt2 my2 y g : Nat) (gv : List Value) (k : Nat) (es : List EP) (pos : Int) : Prop where
  qo : Q3 wr p mt my es (fun j => j = y ∨ j = g)
  qn : Q3 wr p2 mt2 my2 es (fun j => j = p ∨ j = mt ∨ j = my ∨ j = y ∨ j = g)
  r : ∃ E cE P cP, Rl wr y E cE P cP es (fun j => (j = p ∨ j = mt ∨ j = my ∨ j = g) ∨ j = p2 ∨ j = mt2 ∨ j = my2)
  lo : w.heap.size ≤ p ∧ w.heap.size ≤ mt ∧ w.heap.size ≤ my ∧ w.heap.size ≤ y
  lo2 : w.heap.size ≤ p2 ∧ w.heap.size ≤ mt2 ∧ w.heap.size ≤ my2
  bel : Below w.heap.size w wr
  len : es.length ≤ k
  hi : ∀ x ∈ posE es, x ≤ 3 * (k : Int)
  ps : -(3 * (k : Int)) ≤ pos ∧ pos ≤ 3 * (k : Int)
  gx : Bx wr g 52 gv
theorem PfC.below {p2 mt2 my2 : Nat} (h : PfC w wr p mt my p2 mt2 my2 y g gv k es pos) (hb : Below wr.heap.size wr W) : PfC w W p mt my p2 mt2 my2 y g gv k es pos := by
  obtain ⟨E, cE, P, cP, hr⟩ := h.r
  exact ⟨h.qo.below hb, h.qn.below hb, ⟨E, cE, P, cP, hr.below hb⟩, h.lo, h.lo2, bthen h.bel hb, h.len, h.hi, h.ps, h.gx.under hb⟩
theorem Pf2.clone (h : Pf2 w wr p mt my y g gv k es pos) :
    Calls Try.prog 27 #[.pointer (some ⟨p, 0, none⟩)] wr fun r w' => ∃ p2 mt2 my2, r = .returned (.pointer (some ⟨p2, 0, none⟩)) ∧ PfC w w' p mt my p2 mt2 my2 y g gv k es pos := by
  refine (c3Clone h.q).mono fun r w' ⟨p2, mt2, my2, e, h1, h2, h3, hb, hn, ho⟩ => ?_
  obtain ⟨E, cE, P, cP, hr⟩ := h.r
  obtain ⟨t1, t2, t3, _⟩ := hn.lt
  have hs := h.bel.size
  refine ⟨p2, mt2, my2, e, ho, hn, ⟨E, cE, P, cP, hr.fence hb (fun j hj => ?_)⟩, h.lo, ⟨by omega, by omega, by omega⟩, bthen h.bel hb, h.len, h.hi, h.ps, h.gx.under hb⟩
  rcases hj with hj | hj | hj | hj
  · exact .inl hj
  · exact .inr (by omega)
  · exact .inr (by omega)
  · exact .inr (by omega)
theorem PfC.old {p2 mt2 my2 : Nat} (h : PfC w wr p mt my p2 mt2 my2 y g gv k es pos) (hk : k < 70) {e : Event} {T F : Option Addr} {ct cf : Nat} (hT : Sl Kn.str (fun j => j < w.heap.size) wr T ct e.tags) (hts : e.tags.length ≤ 50) (hge : goodEvent e) :
    Calls Try.prog 21 #[.pointer (some ⟨p, 0, none⟩), vEvent e T ct F cf, .int .i64 1099511627776] wr fun r w' => r = .returned (.int .i64 0) ∧ Pf2 w w' p2 mt2 my2 y g gv k es pos := by
  obtain ⟨l1, l2, l3, l4⟩ := h.lo
  refine (c3Add h.qo (by have := h.len; omega) (hT.mono (fun j hj => ⟨by omega, by omega, by omega⟩)) hts hge.2.2.1 hge.2.1 (by omega) (fun q hq => by have := h.hi q hq; omega)).mono fun r w' hr => ?_
  obtain ⟨e1, _, h4⟩ := hr
  obtain ⟨E, cE, P, cP, hr⟩ := h.r
  have hb1 : But (fun j => j = p ∨ j = mt ∨ j = my ∨ j = y ∨ j = g) wr w' := ⟨h4.os, h4.tape, h4.output, h4.size, fun j hj hn => h4.block j hj (fun hh => hn (by rcases hh with h | h | h; exact .inl h; exact .inr (.inl h); exact .inr (.inr (.inl h))))⟩
  have hb2 : But (fun j => (j = p ∨ j = mt ∨ j = my ∨ j = g) ∨ j = p2 ∨ j = mt2 ∨ j = my2) wr w' := ⟨h4.os, h4.tape, h4.output, h4.size, fun j hj hn => h4.block j hj (fun hh => hn (by rcases hh with h | h | h; exact .inl (.inl h); exact .inl (.inr (.inl h)); exact .inl (.inr (.inr (.inl h)))))⟩
  refine ⟨e1, h.qn.move hb1 (fun j hj => .inl (by rcases hj with h | h; exact .inr (.inr (.inr (.inl h))); exact .inr (.inr (.inr (.inr h))))), ⟨E, cE, P, cP, (hr.far hb2).less (fun j hj => by rcases hj with h | h | h | h; exact .inr (.inl h); exact .inr (.inr (.inl h)); exact .inr (.inr (.inr h)); exact .inl (.inr (.inr (.inr h))))⟩, ⟨h.lo2.1, h.lo2.2.1, h.lo2.2.2, l4⟩, h4.below h.bel h.bel.size (fun j hj => by omega), h.len, h.hi, h.ps, h.gx.stay (fun hk => h4.block _ hk (fun hh => by obtain ⟨_, _, _, n1, n2, n3⟩ := h.qo.lt; rcases hh with h | h | h; exact n1 (.inr h.symm); exact n2 (.inr h.symm); exact n3 (.inr h.symm)))⟩
end
end Go.Proofs.Yteahpkihkfkpfaa
