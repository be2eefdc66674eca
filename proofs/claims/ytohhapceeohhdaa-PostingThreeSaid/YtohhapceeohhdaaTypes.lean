/- The program's types as kinds, and that arguments of these types open to them. -/
import Derived.Test.YtohhapceeohhdaaProg
import Derived.Test.YtohhapceeohhdaaOpens
set_option linter.unusedVariables false
set_option linter.unusedSimpArgs false
namespace Go.Proofs.Ytohhapceeohhdaa
open Go.RowKit

theorem opInt : Opens Try.prog 3 (Kn.int .i64) (fun n => (Lit.int .i64 n).wf = true) := Opens.int Try.underlying3
theorem opStr : Opens Try.prog 9 Kn.str (fun s => s.size ≤ maxLen) := Opens.str Try.underlying9
theorem opInts : Opens Try.prog 22 (Kn.slice (Kn.int .i64)) (fun xs => ∀ x ∈ xs, (Lit.int .i64 x).wf = true) := Opens.slice Try.underlying22 (by kernel_rfl) (by decide) opInt
theorem opStrs : Opens Try.prog 31 (Kn.slice Kn.str) (fun xs => ∀ x ∈ xs, x.size ≤ maxLen) := Opens.slice Try.underlying31 (by kernel_rfl) (by decide) opStr
end Go.Proofs.Ytohhapceeohhdaa
