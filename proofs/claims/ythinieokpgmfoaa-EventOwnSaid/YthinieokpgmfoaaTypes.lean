/- The program's types as kinds, and that arguments of these types open to them. -/
import Derived.Test.YthinieokpgmfoaaProg
import Derived.Test.YthinieokpgmfoaaOpens
import Derived.Test.YthinieokpgmfoaaQTypes
set_option linter.unusedVariables false
set_option linter.unusedSimpArgs false
namespace Go.Proofs.Ythinieokpgmfoaa
open Go.RowKit

theorem opInt : Opens Try.prog 3 (Kn.int .i64) (fun n => (Lit.int .i64 n).wf = true) := Opens.int Try.underlying3
theorem opStr : Opens Try.prog 9 Kn.str (fun s => s.size ≤ maxLen) := Opens.str Try.underlying9
theorem opStrs : Opens Try.prog 25 (Kn.slice Kn.str) (fun xs => ∀ x ∈ xs, x.size ≤ maxLen) := Opens.slice Try.underlying25 (by kernel_rfl) (by decide) opStr
def goodClause (c : Clause) : Prop := (∀ x ∈ c.tags, x.size ≤ maxLen) ∧ ∀ x ∈ c.types, x.size ≤ maxLen
def goodField (f : ByteArray × Int) : Prop := f.1.size ≤ maxLen ∧ (Lit.int .i64 f.2).wf = true
def goodEvent (e : Event) : Prop := e.stream.size ≤ maxLen ∧ e.type.size ≤ maxLen ∧ (∀ x ∈ e.tags, x.size ≤ maxLen) ∧ ∀ x ∈ e.fields, goodField x
abbrev gS : ByteArray → Prop := fun x => x.size ≤ maxLen
abbrev gSs : List ByteArray → Prop := fun xs => ∀ x ∈ xs, x.size ≤ maxLen
abbrev gN : Int → Prop := fun n => (Lit.int .i64 n).wf = true
theorem opClause : Opens Try.prog 33 kClause goodClause :=
  Opens.iso (f := fun c : Clause => (c.tags, c.types)) (g := fun p => ⟨p.1, p.2⟩) (good := fun (y : List ByteArray × List ByteArray) => gSs y.1 ∧ gSs y.2) (hfg := fun _ => rfl)
    (Opens.struct (d := Kn.pair kStrs kStrs) Try.underlying33 (by kernel_rfl) (OpensFs.cons (good := gSs) (good' := gSs) (d := kStrs) opStrs (by kernel_rfl) (OpensFs.last opStrs (by kernel_rfl))))
theorem opClauses : Opens Try.prog 22 kQuery (fun q => ∀ c ∈ q, goodClause c) := Opens.slice Try.underlying22 (by kernel_rfl) (by decide) opClause
theorem opQuery : Opens Try.prog 24 kQuery (fun q => ∀ c ∈ q, goodClause c) := Opens.struct Try.underlying24 (by kernel_rfl) (OpensFs.last opClauses (by kernel_rfl))
theorem opField : Opens Try.prog 41 kField goodField :=
  Opens.struct (d := kField) (good := fun (y : ByteArray × Int) => gS y.1 ∧ gN y.2) Try.underlying41 (by kernel_rfl) (OpensFs.cons (good := gS) (good' := gN) (d := Kn.str) opStr (by kernel_rfl) (OpensFs.last opInt (by kernel_rfl)))
theorem opFields : Opens Try.prog 26 (Kn.slice kField) (fun q => ∀ c ∈ q, goodField c) := Opens.slice Try.underlying26 (by kernel_rfl) (by decide) opField
theorem opEvent : Opens Try.prog 28 kEvent goodEvent :=
  Opens.iso (f := fun e : Event => (e.stream, e.type, e.tags, e.fields)) (g := fun p => ⟨p.1, p.2.1, p.2.2.1, p.2.2.2⟩) (good := fun (y : ByteArray × ByteArray × List ByteArray × List (ByteArray × Int)) => gS y.1 ∧ gS y.2.1 ∧ gSs y.2.2.1 ∧ ∀ x ∈ y.2.2.2, goodField x) (hfg := fun _ => rfl)
    (Opens.struct (d := Kn.pair Kn.str (Kn.pair Kn.str (Kn.pair kStrs (Kn.slice kField)))) Try.underlying28 (by kernel_rfl)
      (OpensFs.cons (good := gS) (good' := fun (y : ByteArray × List ByteArray × List (ByteArray × Int)) => gS y.1 ∧ gSs y.2.1 ∧ ∀ x ∈ y.2.2, goodField x) (d := Kn.str) opStr (by kernel_rfl)
        (OpensFs.cons (good := gS) (good' := fun (y : List ByteArray × List (ByteArray × Int)) => gSs y.1 ∧ ∀ x ∈ y.2, goodField x) (d := Kn.str) opStr (by kernel_rfl)
          (OpensFs.cons (good := gSs) (good' := fun (y : List (ByteArray × Int)) => ∀ x ∈ y, goodField x) (d := kStrs) opStrs (by kernel_rfl) (OpensFs.last opFields (by kernel_rfl))))))
end Go.Proofs.Ythinieokpgmfoaa
