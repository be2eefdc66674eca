/- query.May. -/
import Derived.Test.YthinieokpgmfoaaFuncIn
import Derived.Test.YthinieokpgmfoaaNameTag
import Derived.Test.YthinieokpgmfoaaRise06
import Derived.Test.YthinieokpgmfoaaBox
import Derived.Test.YthinieokpgmfoaaSame06
set_option linter.unusedVariables false
set_option linter.unusedSimpArgs false
namespace Go.Proofs.Ythinieokpgmfoaa
open Go.RowKit

def bigC (c : Clause) : Bool := decide (4 < c.tags.length) || decide (4 < c.types.length)
def noneC (c : Clause) : Bool := c.tags.any (fun s => !tagN s) || c.types.any (fun s => !mayN s)
def fallC (c : Clause) : Bool := !riseN c.tags || !riseN c.types
/-- What is wrong with a query. -/
def mayQ (q : List Clause) : Int := if (decide (4 < q.length) || q.any bigC) then 3 else if q.any noneC then 5 else if q.any fallC then 1 else 0

theorem mayQ1_any {w : World} (x : Clause) (S T : Option Addr) (sa ta : Nat) : Calls Try.prog 61 #[vClause x S sa T ta] w fun e w' => e = .returned (.bool (bigC x)) ∧ Below w.heap.size w w' := by
  have HB := Lib.hid (fun o => (Below.refl w.heap.size w).alloc (Nat.le_refl _) o)
  unfold bigC
  by_cases h1 : 4 < x.tags.length
  · rw [decide_eq_true h1]
    go_enter Try.func61, Try.ntmps61
    go_wp2
    go_ret
    exact ⟨rfl, HB.out _⟩
  · rw [decide_eq_false h1]
    by_cases h2 : 4 < x.types.length
    · rw [decide_eq_true h2]
      go_enter Try.func61, Try.ntmps61
      go_wp2
      go_ret
      exact ⟨by simp; omega, HB.out _⟩
    · rw [decide_eq_false h2]
      go_enter Try.func61, Try.ntmps61
      go_wp2
      go_ret
      exact ⟨by simp; omega, HB.out _⟩
theorem notTag_any {w : World} (s : ByteArray) (hs : s.size ≤ maxLen) : Calls Try.prog 63 #[.string s] w fun e w' => e = .returned (.bool (!tagN s)) ∧ Below w.heap.size w w' := by
  have C := Lib.hid (mayTag_any s hs w)
  go_enter Try.func63, Try.ntmps63
  go_wp2_with (go_at_call 54; go_fit C.out; rintro e w1 ⟨rfl, hb⟩)
  go_ret
  exact ⟨rfl, hb⟩
theorem notName_any {w : World} (s : ByteArray) : Calls Try.prog 64 #[.string s] w fun e w' => e = .returned (.bool (!mayN s)) ∧ Below w.heap.size w w' := by
  have C := Lib.hid (nameMay_any s w)
  go_enter Try.func64, Try.ntmps64
  go_wp2_with (go_at_call 52; go_fit C.out; rintro e w1 ⟨rfl, hb⟩)
  go_ret
  exact ⟨rfl, hb⟩
set_option maxHeartbeats 1000000 in
theorem mayQ2_any {w : World} (x : Clause) {S T : Option Addr} {sa ta : Nat} (hS : SlS w S sa x.tags) (hT : SlS w T ta x.types) (hg : ∀ s ∈ x.tags, s.size ≤ maxLen) : Calls Try.prog 62 #[vClause x S sa T ta] w fun e w' => e = .returned (.bool (noneC x)) ∧ Below w.heap.size w w' := by
  obtain ⟨W1, hW1⟩ : ∃ W1, W1 = w.alloc (.cells #[.slice S x.tags.length sa, .slice T x.types.length ta] 33) := ⟨_, rfl⟩
  have HW := Lib.hid hW1
  have hB : Below w.heap.size w W1 := by rw [hW1]; exact (Below.refl _ _).alloc (Nat.le_refl _) _
  have hx1 : Bx W1 w.heap.size 33 [.slice S x.tags.length sa, .slice T x.types.length ta] := by rw [hW1]; exact Bx.new w _ _
  have C1 := Lib.hid (containsFuncS_in (hS.below hB) 63 #[] (fun s => !tagN s) (fun args W => enters_of Try.func63 (by kernel_rfl) rfl args W) (fun s hs W _ => notTag_any s (hg s hs)))
  have C2 := Lib.hid (fun W (hb : Below W1.heap.size W1 W) => containsFuncS_in ((hT.below hB).below hb) 64 #[] (fun s => !mayN s) (fun args W => enters_of Try.func64 (by kernel_rfl) rfl args W) (fun s hs W _ => notName_any s))
  have c0 := hx1.cell 0
  simp only [List.getElem?_cons_zero] at c0
  have HX := Lib.hid hx1
  have HB := Lib.hid hB
  unfold noneC
  generalize x.tags.any (fun s => !tagN s) = b1 at C1 ⊢
  generalize x.types.any (fun s => !mayN s) = b2 at C2 ⊢
  clear hx1 hB hW1 hS hT hg
  rcases b1 with _ | _
  all_goals
    go_enter Try.func62, Try.ntmps62
    go_upto_region 1 with fail
    rw [← HW.out]
    go_wp2_with (first
      | (go_at_call 37; go_fit (C2.out _ HB1.out); rintro e w3 ⟨rfl, hb3⟩)
      | (go_at_call 37; go_fit C1.out; rintro e w2 ⟨rfl, hb2⟩; have HB1 := Lib.hid hb2; have k1 := (HX.out.under hb2).cell 1; simp only [List.getElem?_cons_succ, List.getElem?_cons_zero] at k1; clear hb2))
    go_ret
    first
      | exact ⟨by simp, bthen HB.out (bthen HB1.out hb3)⟩
      | exact ⟨by simp, bthen HB.out HB1.out⟩
set_option maxHeartbeats 1000000 in
theorem mayQ3_any {w : World} (x : Clause) {S T : Option Addr} {sa ta : Nat} (hS : SlS w S sa x.tags) (hT : SlS w T ta x.types) (hl : x.tags.length ≤ 1000000 ∧ x.types.length ≤ 1000000) : Calls Try.prog 65 #[vClause x S sa T ta] w fun e w' => e = .returned (.bool (fallC x)) ∧ Below w.heap.size w w' := by
  obtain ⟨W1, hW1⟩ : ∃ W1, W1 = w.alloc (.cells #[.slice S x.tags.length sa, .slice T x.types.length ta] 33) := ⟨_, rfl⟩
  have HW := Lib.hid hW1
  have hB : Below w.heap.size w W1 := by rw [hW1]; exact (Below.refl _ _).alloc (Nat.le_refl _) _
  have hx1 : Bx W1 w.heap.size 33 [.slice S x.tags.length sa, .slice T x.types.length ta] := by rw [hW1]; exact Bx.new w _ _
  have C1 := Lib.hid (riseQ_any (hS.below hB) hl.1)
  have C2 := Lib.hid (fun W (hb : Below W1.heap.size W1 W) => riseQ_any ((hT.below hB).below hb) hl.2)
  have c0 := hx1.cell 0
  simp only [List.getElem?_cons_zero] at c0
  have HX := Lib.hid hx1
  have HB := Lib.hid hB
  unfold fallC
  generalize riseN x.tags = b1 at C1 ⊢
  generalize riseN x.types = b2 at C2 ⊢
  clear hx1 hB hW1 hS hT hl
  rcases b1 with _ | _
  all_goals
    go_enter Try.func65, Try.ntmps65
    go_upto_region 1 with fail
    rw [← HW.out]
    go_wp2_with (first
      | (go_at_call 66; go_fit (C2.out _ HB1.out); rintro e w3 ⟨rfl, hb3⟩)
      | (go_at_call 66; go_fit C1.out; rintro e w2 ⟨rfl, hb2⟩; have HB1 := Lib.hid hb2; have k1 := (HX.out.under hb2).cell 1; simp only [List.getElem?_cons_succ, List.getElem?_cons_zero] at k1; clear hb2))
    go_ret
    first
      | exact ⟨by simp, bthen HB.out (bthen HB1.out hb3)⟩
      | exact ⟨by simp, bthen HB.out HB1.out⟩
set_option maxHeartbeats 2000000 in
theorem mayQ_any {w : World} {q : List Clause} {Q : Option Addr} {cq : Nat} (hq : SlC w Q cq q) (hl : ∀ c ∈ q, c.tags.length ≤ 1000000 ∧ c.types.length ≤ 1000000) (hg : ∀ c ∈ q, ∀ s ∈ c.tags, s.size ≤ maxLen) :
    Calls Try.prog 32 #[.agg #[.slice Q q.length cq]] w fun e w' => e = .returned (.int .i64 (mayQ q)) ∧ Below w.heap.size w w' := by
  obtain ⟨W1, hW1⟩ : ∃ W1, W1 = w.alloc (.cells #[.slice Q q.length cq] 24) := ⟨_, rfl⟩
  have HW := Lib.hid hW1
  have hB : Below w.heap.size w W1 := by rw [hW1]; exact (Below.refl _ _).alloc (Nat.le_refl _) _
  have hx1 : Bx W1 w.heap.size 24 [.slice Q q.length cq] := by rw [hW1]; exact Bx.new w _ _
  have C1 := Lib.hid (some_in (hq.below hB) 61 #[] bigC (fun args W => enters_of Try.func61 (by kernel_rfl) rfl args W) (fun x hx S T sa ta W _ _ _ => mayQ1_any x S T sa ta))
  have C2 := Lib.hid (fun W (hb : Below W1.heap.size W1 W) => some_in ((hq.below hB).below hb) 62 #[] noneC (fun args W => enters_of Try.func62 (by kernel_rfl) rfl args W) (fun x hx S T sa ta W _ hS hT => mayQ2_any x hS hT (hg x hx)))
  have C3 := Lib.hid (fun W (hb : Below W1.heap.size W1 W) => some_in ((hq.below hB).below hb) 65 #[] fallC (fun args W => enters_of Try.func65 (by kernel_rfl) rfl args W) (fun x hx S T sa ta W _ hS hT => mayQ3_any x hS hT (hl x hx)))
  have c0 := hx1.c0
  have HX := Lib.hid hx1
  have HB := Lib.hid hB
  unfold mayQ
  have hd : decide (4 < q.length) = true ∨ decide (4 < q.length) = false := by cases decide (4 < q.length) <;> simp
  generalize q.any bigC = b1 at C1 ⊢
  generalize q.any noneC = b2 at C2 ⊢
  generalize q.any fallC = b3 at C3 ⊢
  clear hx1 hB hW1 hl hg hq
  rcases hd with hd | hd
  · have h4 : 4 < q.length := of_decide_eq_true hd
    rw [hd]
    clear hd
    go_enter Try.func32, Try.ntmps32
    go_upto_region 1 with fail
    rw [← HW.out]
    go_wp2_with fail
    go_ret
    exact ⟨rfl, HB.out⟩
  · have h4 : ¬ 4 < q.length := of_decide_eq_false hd
    rw [hd]
    clear hd
    rcases b1 with _ | _ <;> rcases b2 with _ | _ <;> rcases b3 with _ | _
    all_goals
      go_enter Try.func32, Try.ntmps32
      go_upto_region 1 with fail
      rw [← HW.out]
      go_wp2_with (first
        | (go_at_call 34; go_fit (C3.out _ HB2.out); rintro e w4 ⟨rfl, hb4⟩; have HB3 := Lib.hid (bthen HB2.out hb4); clear hb4)
        | (go_at_call 34; go_fit (C2.out _ HB1.out); rintro e w3 ⟨rfl, hb3⟩; have HB2 := Lib.hid (bthen HB1.out hb3); have k2 := (HX.out.under HB2.out).c0; clear hb3)
        | (go_at_call 34; go_fit C1.out; rintro e w2 ⟨rfl, hb2⟩; have HB1 := Lib.hid hb2; have k1 := (HX.out.under hb2).c0; clear hb2))
      go_ret
      first
        | exact ⟨rfl, bthen HB.out HB3.out⟩
        | exact ⟨rfl, bthen HB.out HB2.out⟩
        | exact ⟨rfl, bthen HB.out HB1.out⟩
end Go.Proofs.Ythinieokpgmfoaa
