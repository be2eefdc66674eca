/- Arrays of two, handed in. -/
import Derived.Test.YthinieokpgmfoaaTypes
set_option linter.unusedVariables false
set_option linter.unusedSimpArgs false
namespace Go.Proofs.Ythinieokpgmfoaa
open Go.RowKit
theorem Opens.array2 {α : Type} {P : Program} {t e : TypeId} {d : Kn α} {good : α → Prop} (ht : P.underlying t = some (.array 2 e)) (hCt : P.cellsOf t = d.sz + d.sz) (hC : P.cellsOf e = d.sz) (he : Opens P e d good) : Opens P t (Kn.pair d d) (fun y => good y.1 ∧ good y.2) := by
  intro H enc w base spare held fuel cs x hx
  obtain ⟨xs, m, rfl, _, hl, hxl, hf⟩ := DataW.trod_array ht hx
  rw [hC] at hf
  have h0 := hf 0 (by omega)
  have h1 := hf 1 (by omega)
  rw [List.getElem?_eq_getElem (by omega)] at h0 h1
  obtain ⟨y0, k0, g0⟩ := he _ _ _ _ _ _ _ _ _ h0
  obtain ⟨y1, k1, g1⟩ := he _ _ _ _ _ _ _ _ _ h1
  refine ⟨(y0, y1), ⟨_, _, ?_, k0, k1⟩, g0, g1⟩
  rw [Nat.zero_mul, Nat.one_mul, List.drop_zero, List.take_of_length_le (l := cs.drop d.sz) (by rw [List.length_drop, hl, hCt]; omega)]
  exact (List.take_append_drop _ _).symm
theorem okWide_array {P : Program} {w : World} {r : Reach} {base n : Nat} {t e : TypeId} {v : Value} (ht : P.underlying t = some (.array n e)) (h : Value.okWide P w r base t v) : ∃ cs, v = .agg cs ∧ cs.size = P.cellsOf t := by
  simp only [Value.okWide, ht] at h
  obtain ⟨cs, h1, h2, _⟩ := h
  exact ⟨cs, h1, h2⟩
theorem opTwoS : Opens Try.prog 47 (Kn.pair Kn.str Kn.str) (fun y => gS y.1 ∧ gS y.2) := Opens.array2 Try.underlying47 (by kernel_rfl) (by kernel_rfl) opStr
theorem twoS_in {w : World} {x : ByteArray × ByteArray} {c : Array Value} (h : (Kn.pair Kn.str Kn.str).K (fun _ => True) w x c.toList) : c = #[.string x.1, .string x.2] := by
  obtain ⟨c0, c1, h0, h1, h2⟩ := h
  have e0 : c0 = [.string x.1] := h1
  have e1 : c1 = [.string x.2] := h2
  subst e0; subst e1
  cases c
  simpa using h0
end Go.Proofs.Ythinieokpgmfoaa
