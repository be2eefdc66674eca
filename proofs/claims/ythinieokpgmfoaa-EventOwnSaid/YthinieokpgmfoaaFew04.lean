/- registrarlaw04.few: an event with at most 12 tags and 12 fields (walk). -/
import Derived.Test.YthinieokpgmfoaaMatch
import Derived.Test.YthinieokpgmfoaaBox
set_option linter.unusedVariables false
set_option linter.unusedSimpArgs false
namespace Go.Proofs.Ythinieokpgmfoaa
open Go.RowKit

def few12 (e : Event) : Event := ⟨e.stream, e.type, e.tags.take 12, e.fields.take 12⟩
theorem few04_box (w : World) (cs : List Value) : Bx ((w.alloc (.cells cs.toArray 28)).alloc (.cells cs.toArray 28)) (w.heap.size + 1) 28 cs := by
  have := Bx.new (w.alloc (.cells cs.toArray 28)) 28 cs
  rwa [show (w.alloc (.cells cs.toArray 28)).heap.size = w.heap.size + 1 by simp] at this
set_option maxHeartbeats 2000000 in
set_option maxRecDepth 8000 in
theorem few04_any {w : World} {e : Event} {T F : Option Addr} {ct cf : Nat} (hT : e.tags.length ≤ ct) (hF : e.fields.length ≤ cf) :
    Calls Try.prog 19 #[vEvent e T ct F cf] w fun r w' => r = .returned (vEvent (few12 e) T ct F cf) ∧ Below w.heap.size w w' := by
  have hbel : ∀ o : Obj, Below w.heap.size w ((w.alloc o).alloc o) := fun o => ((Below.refl _ _).alloc (Nat.le_refl _) o).alloc (by simp) o
  obtain ⟨n, hn⟩ : ∃ n, n = (e.tags.take 12).length := ⟨_, rfl⟩
  obtain ⟨m, hm⟩ : ∃ m, m = (e.fields.take 12).length := ⟨_, rfl⟩
  have hv : vEvent (few12 e) T ct F cf = .agg #[.string e.stream, .string e.type, .slice T n ct, .slice F m cf] := by simp only [vEvent, few12, hn, hm]
  rw [hv]
  rw [List.length_take] at hn hm
  have HB := Lib.hid (few04_box w [.string e.stream, .string e.type, .slice T n ct, .slice F m cf])
  have c0 := HB.out.cell 0
  have c1 := HB.out.cell 1
  have c2 := HB.out.cell 2
  have c3 := HB.out.cell 3
  simp only [List.getElem?_cons_succ, List.getElem?_cons_zero] at c0 c1 c2 c3
  have HBE := Lib.hid hbel
  clear hv hbel
  by_cases h12 : 12 < e.tags.length <;> by_cases g12 : 12 < e.fields.length
  · obtain rfl : n = 12 := by omega
    obtain rfl : m = 12 := by omega
    have b1' : (12 : Int) ≤ (ct : Int) := by omega
    have b2' : 12 ≤ ct := by omega
    have b3' : (12 : Int) ≤ (cf : Int) := by omega
    have b4' : 12 ≤ cf := by omega
    clear hn hm
    go_enter Try.func19, Try.ntmps19
    go_wp2_with fail
    exact bodyPost_ret (v := .agg #[.string e.stream, .string e.type, .slice T 12 ct, .slice F 12 cf]) (by simp [results, Try.results19, go_sem, c0, c1, c2, c3]) rfl ⟨rfl, HBE.out _⟩
  · obtain rfl : n = 12 := by omega
    obtain rfl : m = e.fields.length := by omega
    have b1' : (12 : Int) ≤ (ct : Int) := by omega
    have b2' : 12 ≤ ct := by omega
    clear hn hm
    go_enter Try.func19, Try.ntmps19
    go_wp2_with fail
    exact bodyPost_ret (v := .agg #[.string e.stream, .string e.type, .slice T 12 ct, .slice F e.fields.length cf]) (by simp [results, Try.results19, go_sem, c0, c1, c2, c3]) rfl ⟨rfl, HBE.out _⟩
  · obtain rfl : n = e.tags.length := by omega
    obtain rfl : m = 12 := by omega
    have b3' : (12 : Int) ≤ (cf : Int) := by omega
    have b4' : 12 ≤ cf := by omega
    clear hn hm
    go_enter Try.func19, Try.ntmps19
    go_wp2_with fail
    exact bodyPost_ret (v := .agg #[.string e.stream, .string e.type, .slice T e.tags.length ct, .slice F 12 cf]) (by simp [results, Try.results19, go_sem, c0, c1, c2, c3]) rfl ⟨rfl, HBE.out _⟩
  · obtain rfl : n = e.tags.length := by omega
    obtain rfl : m = e.fields.length := by omega
    clear hn hm
    go_enter Try.func19, Try.ntmps19
    go_wp2_with fail
    exact bodyPost_ret (v := .agg #[.string e.stream, .string e.type, .slice T e.tags.length ct, .slice F e.fields.length cf]) (by simp [results, Try.results19, go_sem, c0, c1, c2, c3]) rfl ⟨rfl, HBE.out _⟩
end Go.Proofs.Ythinieokpgmfoaa
