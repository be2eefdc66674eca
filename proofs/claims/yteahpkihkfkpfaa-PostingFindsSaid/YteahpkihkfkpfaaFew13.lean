/- registrarlaw13.few: an event with at most 10 tags (walk). -/
import Derived.Test.YteahpkihkfkpfaaMatch
import Derived.Test.YteahpkihkfkpfaaBox
set_option linter.unusedVariables false
set_option linter.unusedSimpArgs false
namespace Go.Proofs.Yteahpkihkfkpfaa
open Go.RowKit

def few10 (e : Event) : Event := ⟨e.stream, e.type, e.tags.take 10, e.fields⟩
theorem few_box (w : World) (cs : List Value) : Bx ((w.alloc (.cells cs.toArray 39)).alloc (.cells cs.toArray 39)) (w.heap.size + 1) 39 cs := by
  have := Bx.new (w.alloc (.cells cs.toArray 39)) 39 cs
  rwa [show (w.alloc (.cells cs.toArray 39)).heap.size = w.heap.size + 1 by simp] at this
set_option maxHeartbeats 2000000 in
set_option maxRecDepth 8000 in
theorem few13_any {w : World} {e : Event} {T F : Option Addr} {ct cf : Nat} (hT : e.tags.length ≤ ct) :
    Calls Try.prog 22 #[vEvent e T ct F cf] w fun r w' => r = .returned (vEvent (few10 e) T ct F cf) ∧ Below w.heap.size w w' := by
  have hbel : ∀ o : Obj, Below w.heap.size w ((w.alloc o).alloc o) := fun o => ((Below.refl _ _).alloc (Nat.le_refl _) o).alloc (by simp) o
  by_cases h10 : 10 < e.tags.length
  · have hlen : (e.tags.take 10).length = 10 := by rw [List.length_take]; omega
    have hv : vEvent (few10 e) T ct F cf = .agg #[.string e.stream, .string e.type, .slice T 10 ct, .slice F e.fields.length cf] := by simp only [vEvent, few10, hlen]
    rw [hv]
    have HB := Lib.hid (few_box w [.string e.stream, .string e.type, .slice T 10 ct, .slice F e.fields.length cf])
    have c0 := HB.out.cell 0
    have c1 := HB.out.cell 1
    have c2 := HB.out.cell 2
    have c3 := HB.out.cell 3
    simp only [List.getElem?_cons_succ, List.getElem?_cons_zero] at c0 c1 c2 c3
    have HBE := Lib.hid hbel
    have b1' : (10 : Int) ≤ (ct : Int) := by omega
    have b2' : 10 ≤ ct := by omega
    clear hv hlen hbel
    go_enter Try.func22, Try.ntmps22
    go_wp2_with fail
    exact bodyPost_ret (v := .agg #[.string e.stream, .string e.type, .slice T 10 ct, .slice F e.fields.length cf]) (by simp [results, Try.results22, go_sem, c0, c1, c2, c3]) rfl ⟨rfl, HBE.out _⟩
  · have hv : vEvent (few10 e) T ct F cf = .agg #[.string e.stream, .string e.type, .slice T e.tags.length ct, .slice F e.fields.length cf] := by
      have : e.tags.take 10 = e.tags := List.take_of_length_le (by omega)
      simp only [vEvent, few10, this]
    rw [hv]
    have HB := Lib.hid (few_box w [.string e.stream, .string e.type, .slice T e.tags.length ct, .slice F e.fields.length cf])
    have c0 := HB.out.cell 0
    have c1 := HB.out.cell 1
    have c2 := HB.out.cell 2
    have c3 := HB.out.cell 3
    simp only [List.getElem?_cons_succ, List.getElem?_cons_zero] at c0 c1 c2 c3
    have HBE := Lib.hid hbel
    clear hv hbel
    go_enter Try.func22, Try.ntmps22
    go_wp2_with fail
    exact bodyPost_ret (v := .agg #[.string e.stream, .string e.type, .slice T e.tags.length ct, .slice F e.fields.length cf]) (by simp [results, Try.results22, go_sem, c0, c1, c2, c3]) rfl ⟨rfl, HBE.out _⟩
end Go.Proofs.Yteahpkihkfkpfaa
