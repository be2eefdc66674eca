/- event.Same. -/
import Derived.Test.YthinieokpgmfoaaEqF
set_option linter.unusedVariables false
set_option linter.unusedSimpArgs false
namespace Go.Proofs.Ythinieokpgmfoaa
open Go.RowKit

/-- Whether two events are the same. -/
def sameE (a b : Event) : Bool := decide (a.stream = b.stream) && (decide (a.type = b.type) && (decide (a.tags = b.tags) && decide (a.fields = b.fields)))
theorem event_ext {a b : Event} (h1 : a.stream = b.stream) (h2 : a.type = b.type) (h3 : a.tags = b.tags) (h4 : a.fields = b.fields) : a = b := by
  cases a; cases b; simp at h1 h2 h3 h4; rw [h1, h2, h3, h4]
theorem sameE_iff (a b : Event) : sameE a b = true ↔ a = b := by
  unfold sameE
  simp only [Bool.and_eq_true, decide_eq_true_eq]
  exact ⟨fun h => event_ext h.1 h.2.1 h.2.2.1 h.2.2.2, fun h => by rw [h]; simp⟩
theorem sameE_refl (a : Event) : sameE a a = true := (sameE_iff a a).2 rfl
theorem sameE_comm (a b : Event) : sameE a b = sameE b a := by
  rw [Bool.eq_iff_iff, sameE_iff, sameE_iff]; exact eq_comm

set_option maxHeartbeats 4000000 in
theorem sameE_any {w : World} {x y : Event} {T F T' F' : Option Addr} {ct cf ct' cf' : Nat} (h1 : SlS w T ct x.tags) (h2 : SlF w F cf x.fields) (h3 : SlS w T' ct' y.tags) (h4 : SlF w F' cf' y.fields) :
    Calls Try.prog 25 #[vEvent x T ct F cf, vEvent y T' ct' F' cf'] w fun e w' => e = .returned (.bool (sameE x y)) ∧ Below w.heap.size w w' := by
  obtain ⟨W1, hW1⟩ : ∃ W1, W1 = (w.alloc (.cells #[.string x.stream, .string x.type, .slice T x.tags.length ct, .slice F x.fields.length cf] 28)).alloc (.cells #[.string y.stream, .string y.type, .slice T' y.tags.length ct', .slice F' y.fields.length cf'] 28) := ⟨_, rfl⟩
  have HW := Lib.hid hW1
  have hB : Below w.heap.size w W1 := by rw [hW1]; exact ((Below.refl _ _).alloc (Nat.le_refl _) _).alloc (by simp) _
  have hx1 : Bx W1 w.heap.size 28 [.string x.stream, .string x.type, .slice T x.tags.length ct, .slice F x.fields.length cf] := by rw [hW1]; exact (Bx.new w _ _).alloc _
  have hx2 : Bx W1 (w.heap.size + 1) 28 [.string y.stream, .string y.type, .slice T' y.tags.length ct', .slice F' y.fields.length cf'] := by
    rw [hW1]; have := Bx.new (w.alloc (.cells #[.string x.stream, .string x.type, .slice T x.tags.length ct, .slice F x.fields.length cf] 28)) 28 [.string y.stream, .string y.type, .slice T' y.tags.length ct', .slice F' y.fields.length cf']
    simpa using this
  have CT := Lib.hid (equalS_any T T' ct ct' x.tags y.tags W1 (h1.below hB) (h3.below hB))
  have CF := Lib.hid (fun n => equalF_any F F' cf cf' x.fields y.fields (W1.drewN n) ((h2.below hB).drewN n) ((h4.below hB).drewN n))
  have q1 := strEqL x.stream y.stream
  have q2 := strEqL x.type y.type
  unfold sameE
  generalize decide (x.stream = y.stream) = b1 at q1 ⊢
  generalize decide (x.type = y.type) = b2 at q2 ⊢
  generalize decide (x.tags = y.tags) = b3 at CT ⊢
  generalize decide (x.fields = y.fields) = b4 at CF ⊢
  obtain ⟨R, hR⟩ : ∃ R, R = (b1 && (b2 && (b3 && b4))) := ⟨_, rfl⟩
  rw [← hR]
  have HR := Lib.hid hR
  clear hR
  have HBx1 := Lib.hid hx1
  have HBx2 := Lib.hid hx2
  have HB := Lib.hid (fun n => below_drewN hB n)
  clear hB hx1 hx2 hW1 h1 h2 h3 h4
  go_enter Try.func25, Try.ntmps25
  go_upto_region 1 with fail
  rw [← HW.out]
  clear HW
  have c0 := HBx1.out.cell 0
  have c1 := HBx1.out.cell 1
  have c2 := HBx1.out.cell 2
  have d0 := HBx2.out.cell 0
  have d1 := HBx2.out.cell 1
  have d2 := HBx2.out.cell 2
  simp only [List.getElem?_cons_succ, List.getElem?_cons_zero] at c0 c1 c2 d0 d1 d2
  rcases b1 with _ | _ <;> rcases b2 with _ | _ <;> rcases b3 with _ | _ <;> rcases b4 with _ | _
  all_goals
    first
      | (have HT := Lib.hid (show R = true by rw [HR.out]; rfl))
      | (have HT := Lib.hid (show R = false by rw [HR.out]; rfl))
    clear HR
    go_wp2_with (first
      | (go_at_call 60; go_fit (CF.out _); rintro e w3 ⟨rfl, m, rfl⟩)
      | (go_at_call 43; go_fit CT.out; rintro e w2 ⟨rfl, n, rfl⟩; have k0 := (HBx1.out.drewN n).cell 3; have k1 := (HBx2.out.drewN n).cell 3; simp only [List.getElem?_cons_succ, List.getElem?_cons_zero] at k0 k1))
    go_ret
    first
      | exact ⟨by rw [HT.out]; rfl, HB.out 0⟩
      | exact ⟨by rw [HT.out]; rfl, HB.out _⟩
      | exact ⟨by rw [HT.out]; rfl, below_drewN (HB.out _) _⟩
end Go.Proofs.Ythinieokpgmfoaa
