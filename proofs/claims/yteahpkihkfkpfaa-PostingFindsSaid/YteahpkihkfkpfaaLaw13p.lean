/- posting.Lists in a law: its calls. -/
import Derived.Test.YteahpkihkfkpfaaEvL
import Derived.Test.YteahpkihkfkpfaaFew13
import Derived.Test.YteahpkihkfkpfaaLess13
set_option linter.unusedVariables false
set_option linter.unusedSimpArgs false
namespace Go.Proofs.Yteahpkihkfkpfaa
open Go.RowKit Go.Maps

/-- A posting.Lists of the law's own, of the events es; its box and maps lie in L .. B; its rows hang on no block of X. -/
structure Qs (w : World) (p : Nat) (es : List EP) (L B : Nat) (X : Nat → Prop) : Prop where
  ps : ∃ mt my M Dt Dy A c, Ps w p mt my M Dt Dy A c (posE es) (tagE es) (typeE es) X ∧ L ≤ mt ∧ mt < B ∧ L ≤ my ∧ my < B ∧ M ≤ 100 * es.length
  lo : L ≤ p
  hi : p < B
  ok : EsOK es
  len : es.length ≤ 70
section
variable {w w' : World} {p L B : Nat} {es : List EP} {X Y : Nat → Prop}
theorem Qs.below (h : Qs w p es L B X) (hb : Below w.heap.size w w') : Qs w' p es L B X := by
  obtain ⟨mt, my, M, Dt, Dy, A, c, h1, h2⟩ := h.ps
  exact ⟨⟨mt, my, M, Dt, Dy, A, c, h1.below hb, h2⟩, h.lo, h.hi, h.ok, h.len⟩
theorem Qs.move (h : Qs w p es L B X) (hb : But X w w') (hY : ∀ k, Y k → X k ∨ (w.heap.size ≤ k ∧ k < w'.heap.size)) : Qs w' p es L B Y := by
  obtain ⟨mt, my, M, Dt, Dy, A, c, h1, h2⟩ := h.ps
  exact ⟨⟨mt, my, M, Dt, Dy, A, c, h1.move hb hY, h2⟩, h.lo, h.hi, h.ok, h.len⟩
theorem Qs.plen (h : Qs w p es L B X) : (posE es).length ≤ 70 := by have := h.len; simpa [posE] using this
theorem Qs.tlen (h : Qs w p es L B X) (s : ByteArray) : (tagE es s).length ≤ 70 := Nat.le_trans (h.ok.pf.lt s) h.plen
theorem Qs.ylen (h : Qs w p es L B X) (s : ByteArray) : (typeE es s).length ≤ 70 := Nat.le_trans (h.ok.pf.ly s) h.plen
theorem cPNew (X : Nat → Prop) (hX : ∀ k, X k → k < w.heap.size) : Calls Try.prog 20 #[] w fun r w' => ∃ p, r = .returned (.pointer (some ⟨p, 0, none⟩)) ∧ Qs w' p [] w.heap.size w'.heap.size X ∧ Below w.heap.size w w' :=
  (PNew_any w X hX).mono fun r w' ⟨p, mt, my, Dt, Dy, e, h1, h2, h3, h4, h5⟩ => by
    have a := h1.bx.lt
    have b := h1.mpt.om.lt
    have c := h1.mpy.om.lt
    exact ⟨p, e, ⟨⟨mt, my, 0, Dt, Dy, none, 0, h1, h4, b, h5, c, by omega⟩, h3, a, EsOK.nil, by simp⟩, h2⟩
theorem cPAdd (h : Qs w p es L B X) (hl : es.length < 70) {e : Event} {T F : Option Addr} {ct cf : Nat} (hT : Sl Kn.str (fun k => ¬ (L ≤ k ∧ k < B)) w T ct e.tags) (hts : e.tags.length ≤ 50) (hgt : ∀ x ∈ e.tags, x.size ≤ maxLen) (hgy : e.type.size ≤ maxLen) {pos : Int} (h1 : 1 ≤ pos) (h2 : ∀ q ∈ posE es, q < pos) :
    Calls Try.prog 21 #[.pointer (some ⟨p, 0, none⟩), vEvent e T ct F cf, .int .i64 pos] w fun r w' => r = .returned (.int .i64 0) ∧ Qs w' p (es ++ [(e, pos)]) L B X ∧ But (fun k => L ≤ k ∧ k < B) w w' := by
  obtain ⟨mt, my, M, Dt, Dy, A, c, h3, h4, h5, h6, h7, h8⟩ := h.ps
  have hlo := h.lo
  have hhi := h.hi
  refine (PAdd_any h3 (by omega) (by have := h.plen; omega) (fun s => by have := h.tlen s; omega) (fun s => by have := h.ylen s; omega) (hT.mono (fun k hk => ⟨by omega, by omega, by omega⟩)) (by omega) hgt hgy h1 h2).mono fun r w' hr => ?_
  obtain ⟨e1, Dt', Dy', A', c', h9, h10⟩ := hr
  rw [tagE_add h.ok e h2, typeE_add h.ok e h2, ← posE_snoc es e pos] at h9
  exact ⟨e1, ⟨⟨mt, my, _, Dt', Dy', A', c', h9, h4, h5, h6, h7, by simp; omega⟩, h.lo, h.hi, h.ok.snoc e h1 h2, by simp; omega⟩, ⟨h10.os, h10.tape, h10.output, h10.size, fun k hk hn => h10.block k hk (fun hh => hn (by omega))⟩⟩
theorem cPTag (h : Qs w p es L B X) {s : ByteArray} (hs : s.size ≤ maxLen) : Calls Try.prog 26 #[.pointer (some ⟨p, 0, none⟩), .string s] w (RetInts (tagE es s) w) := by
  obtain ⟨mt, my, M, Dt, Dy, A, c, h3, _⟩ := h.ps
  exact Tag_any h3 hs (by have := h.tlen s; omega)
theorem cPType (h : Qs w p es L B X) {s : ByteArray} (hs : s.size ≤ maxLen) : Calls Try.prog 25 #[.pointer (some ⟨p, 0, none⟩), .string s] w (RetInts (typeE es s) w) := by
  obtain ⟨mt, my, M, Dt, Dy, A, c, h3, _⟩ := h.ps
  exact Type_any h3 hs (by have := h.ylen s; omega)
theorem cPFind (h : Qs w p es L B X) {q : List Clause} {Q : Option Addr} {cq : Nat} (hq : SlC w Q cq q) (hg : ∀ c ∈ q, goodClause c) (x : Int) : Calls Try.prog 31 #[.pointer (some ⟨p, 0, none⟩), .agg #[.slice Q q.length cq], .int .i64 x] w (RetInts (findE es q x) w) := by
  obtain ⟨mt, my, M, Dt, Dy, A, c, h3, _⟩ := h.ps
  have := Find_any h3 h.ok.pf (by have := h.plen; omega) hq hg x
  rw [findE_eq h.ok] at this
  exact this
theorem goodFew (e : Event) (h : goodEvent e) : goodEvent (few10 e) := ⟨h.1, h.2.1, fun x hx => h.2.2.1 x (List.mem_of_mem_take hx), h.2.2.2⟩
theorem goodFewM (q : List Clause) (h : ∀ c ∈ q, goodClause c) : ∀ c ∈ fewM q, goodClause c := fun c hc => by
  obtain ⟨c', h1, rfl⟩ := List.mem_map.1 hc
  have h2 := h c' (List.mem_of_mem_take h1)
  exact ⟨fun x hx => h2.1 x (List.mem_of_mem_take hx), fun x hx => h2.2 x (List.mem_of_mem_take hx)⟩
end
end Go.Proofs.Yteahpkihkfkpfaa
