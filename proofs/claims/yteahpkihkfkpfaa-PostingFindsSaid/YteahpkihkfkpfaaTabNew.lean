/- streams.New. -/
import Derived.Test.YteahpkihkfkpfaaTab
import Derived.Test.YteahpkihkfkpfaaStrs
import Derived.Carry
set_option linter.unusedVariables false
set_option linter.unusedSimpArgs false
namespace Go.Proofs.Yteahpkihkfkpfaa
open Go.RowKit Go.Maps Go.WideMaps Go.ChangeMaps

theorem New_any (w : World) : Calls Try.prog 15 #[] w fun r w' => ∃ b m D, r = .returned (.pointer (some ⟨b, 0, none⟩)) ∧ Tb w' b m 0 D 0 (fun _ => []) (fun _ => False) ∧ Below w.heap.size w w' ∧ w.heap.size ≤ b ∧ w.heap.size ≤ m := by
  have hmm := @run_makeMap Try.prog
  go_enter Try.func15, Try.ntmps15
  go_wp2

  go_ret
  refine ⟨w.heap.size + 1, w.heap.size, .map [], rfl, ⟨?_, ⟨?_, fun s => ⟨none, 0, ?_, Sl.nil_⟩, fun s => ?_⟩, by omega, fun _ => List.Pairwise.nil, fun _ p hp => by simp at hp, fun _ => Nat.zero_le _, fun h => h, fun h => h, fun _ h => h.elim⟩, ((Below.refl _ _).alloc (Nat.le_refl _) _).alloc (by simp) _, by omega, Nat.le_refl _⟩
  · have := Bx.new (w.alloc (.map #[] 0)) 79 [.int .i64 0, .map (some w.heap.size)]
    rwa [show (w.alloc (.map #[] 0)).heap.size = w.heap.size + 1 by simp] at this
  · exact (World.ownsMap_made w _ _ _).alloc _
  · simp [DataW.atKey]
  · simp [Maps.has]
end Go.Proofs.Yteahpkihkfkpfaa
