/- Clauses, queries, fields, events as Lean data, and as kinds of cells. -/
import Derived.Test.YthinieokpgmfoaaKit
set_option linter.unusedVariables false
set_option linter.unusedSimpArgs false
namespace Go.Proofs.Ythinieokpgmfoaa
open Go.RowKit

/-- A field's address as the walk spells it. -/
theorem add_field (ad : Addr) (m i : Nat) (hi : 0 < i) : ad.add (m + i) = ⟨(ad.add m).block, (ad.add m).off + i, none⟩ := by
  rw [← add_add, add_pos _ _ hi]
structure Clause where
  tags : List ByteArray
  types : List ByteArray
structure Event where
  stream : ByteArray
  type : ByteArray
  tags : List ByteArray
  fields : List (ByteArray × Int)
abbrev kStrs : Kn (List ByteArray) := Kn.slice Kn.str
abbrev kField : Kn (ByteArray × Int) := Kn.pair Kn.str (Kn.int .i64)
def kClause : Kn Clause := Kn.iso (Kn.pair kStrs kStrs) (fun c => (c.tags, c.types))
def kEvent : Kn Event := Kn.iso (Kn.pair Kn.str (Kn.pair Kn.str (Kn.pair kStrs (Kn.slice kField)))) (fun e => (e.stream, e.type, e.tags, e.fields))
abbrev kQuery : Kn (List Clause) := Kn.slice kClause

theorem kClause_out {ok : Nat → Prop} {w : World} {c : Clause} {cs : List Value} (h : kClause.K ok w c cs) :
    ∃ A ca B cb, cs = [.slice A c.tags.length ca, .slice B c.types.length cb] ∧ Sl Kn.str ok w A ca c.tags ∧ Sl Kn.str ok w B cb c.types := by
  obtain ⟨c0, c1, rfl, ⟨A, ca, h0, h1⟩, ⟨B, cb, h2, h3⟩⟩ := h
  subst h0; subst h2
  exact ⟨A, ca, B, cb, rfl, h1, h3⟩
theorem kClause_mk {ok : Nat → Prop} {w : World} {c : Clause} {A B : Option Addr} {ca cb : Nat} (h1 : Sl Kn.str ok w A ca c.tags) (h2 : Sl Kn.str ok w B cb c.types) : kClause.K ok w c [.slice A c.tags.length ca, .slice B c.types.length cb] :=
  ⟨[_], [_], rfl, h1.kind, h2.kind⟩
theorem kClause_mk' {ok : Nat → Prop} {w : World} {c : Clause} {A B : Option Addr} {n m ca cb : Nat} (h1 : Sl Kn.str ok w A ca c.tags) (h2 : Sl Kn.str ok w B cb c.types) (e1 : c.tags.length = n) (e2 : c.types.length = m) : kClause.K ok w c [.slice A n ca, .slice B m cb] := by
  subst e1; subst e2; exact kClause_mk h1 h2
theorem kEvent_out {ok : Nat → Prop} {w : World} {e : Event} {cs : List Value} (h : kEvent.K ok w e cs) :
    ∃ A ca B cb, cs = [.string e.stream, .string e.type, .slice A e.tags.length ca, .slice B e.fields.length cb] ∧ Sl Kn.str ok w A ca e.tags ∧ Sl kField ok w B cb e.fields := by
  obtain ⟨c0, c1, rfl, h0, c2, c3, rfl, h1, c4, c5, rfl, ⟨A, ca, h2, h3⟩, ⟨B, cb, h4, h5⟩⟩ := h
  have e0 : c0 = [.string e.stream] := h0
  have e1 : c2 = [.string e.type] := h1
  subst e0; subst e1; subst h2; subst h4
  exact ⟨A, ca, B, cb, rfl, h3, h5⟩
theorem kEvent_mk {ok : Nat → Prop} {w : World} {e : Event} {A B : Option Addr} {ca cb : Nat} (h1 : Sl Kn.str ok w A ca e.tags) (h2 : Sl kField ok w B cb e.fields) :
    kEvent.K ok w e [.string e.stream, .string e.type, .slice A e.tags.length ca, .slice B e.fields.length cb] :=
  ⟨[_], _, rfl, rfl, [_], _, rfl, rfl, [_], [_], rfl, h1.kind, h2.kind⟩
theorem kClause_sz : kClause.sz = 2 := rfl
theorem kEvent_sz : kEvent.sz = 4 := rfl
theorem kField_sz : kField.sz = 2 := rfl

theorem row_clause_at {ok : Nat → Prop} {w : World} {A : Option Addr} {xs : List Clause} (h : Row kClause ok w A xs) {j : Nat} (hj : j < xs.length) :
    ∃ ad S sa T ta, A = some ad ∧ w.cell? (ad.add (j * 2)) = some (.slice S xs[j].tags.length sa) ∧ w.cell? ⟨(ad.add (j * 2)).block, (ad.add (j * 2)).off + 1, none⟩ = some (.slice T xs[j].types.length ta) ∧ Sl Kn.str ok w S sa xs[j].tags ∧ Sl Kn.str ok w T ta xs[j].types := by
  obtain ⟨ad, cs, e, _, _, _, hk, hc⟩ := h.at_ hj
  obtain ⟨S, sa, T, ta, rfl, h1, h2⟩ := kClause_out hk
  rw [kClause_sz] at hc
  refine ⟨ad, S, sa, T, ta, e, hc 0 _ rfl, ?_, h1, h2⟩
  have := hc 1 _ rfl
  rw [add_field _ _ _ (by omega)] at this
  exact this
theorem row_field_at {ok : Nat → Prop} {w : World} {A : Option Addr} {xs : List (ByteArray × Int)} (h : Row kField ok w A xs) {j : Nat} (hj : j < xs.length) :
    ∃ ad, A = some ad ∧ w.cell? (ad.add (j * 2)) = some (.string xs[j].1) ∧ w.cell? ⟨(ad.add (j * 2)).block, (ad.add (j * 2)).off + 1, none⟩ = some (.int .i64 xs[j].2) := by
  obtain ⟨ad, cs, e, _, _, _, ⟨c0, c1, rfl, h0, h1⟩, hc⟩ := h.at_ hj
  have e0 : c0 = [.string xs[j].1] := h0
  have e1 : c1 = [.int .i64 xs[j].2] := h1
  subst e0; subst e1
  rw [kField_sz] at hc
  refine ⟨ad, e, hc 0 _ rfl, ?_⟩
  have := hc 1 _ rfl
  rw [add_field _ _ _ (by omega)] at this
  exact this
end Go.Proofs.Ythinieokpgmfoaa
