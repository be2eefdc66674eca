/- The order of texts. -/
import Derived.Test.YthinieokpgmfoaaKit
set_option linter.unusedVariables false
set_option linter.unusedSimpArgs false
namespace Go.Proofs.Ythinieokpgmfoaa

/-- The order of strings. -/
def ltB (x y : ByteArray) : Prop := x.data.toList < y.data.toList
theorem ltB_irrefl (x : ByteArray) : ¬ ltB x x := fun h => List.lt_irrefl _ h
theorem ltB_trans {x y z : ByteArray} (h : ltB x y) (k : ltB y z) : ltB x z := List.lt_trans h k
theorem ltB_tri (x y : ByteArray) : ltB x y ∨ x = y ∨ ltB y x := by
  rcases List.le_total x.data.toList y.data.toList with h | h <;> rcases List.le_iff_lt_or_eq.1 h with h1 | h1
  · exact .inl h1
  · exact .inr (.inl (ByteArray.ext (Array.ext' h1)))
  · exact .inr (.inr h1)
  · exact .inr (.inl (ByteArray.ext (Array.ext' h1.symm)))
instance (x y : ByteArray) : Decidable (ltB x y) := inferInstanceAs (Decidable (x.data.toList < y.data.toList))
/-- Rising rows with the same texts are the same. -/
theorem riseB_eq {ns ms : List ByteArray} (h : ns.Pairwise ltB) (k : ms.Pairwise ltB) (e : ∀ x, x ∈ ns ↔ x ∈ ms) : ns = ms := by
  have nd : ∀ {l : List ByteArray}, l.Pairwise ltB → l.Nodup := fun h => h.imp (fun {a b} h => by rintro rfl; exact ltB_irrefl _ h)
  exact List.Perm.eq_of_pairwise (le := ltB) (fun a b _ _ h1 h2 => absurd (ltB_trans h1 h2) (ltB_irrefl _)) h k ((List.perm_ext_iff_of_nodup (nd h) (nd k)).2 e)
end Go.Proofs.Ythinieokpgmfoaa
