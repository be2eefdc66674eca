/- Plain lists: two rising rows put together. Own work. posting.walk, Both, Either: what they come to (walks). Both, Either with slices at hand. -/
import Derived.Test.YtfoghahidofegaaProg
import Derived.Test.YtfoghahidofegaaBundA
import Derived.WalkKit
import Derived.WalkSpells
import Derived.WalkLawsBesides
import Derived.Deep.QuietTactic
import Derived.BigQuiet
import Derived.Deep.DeepCutAuto
import Derived.Lib.Hide
import Derived.Shelf.Abstract
set_option linter.unusedVariables false
set_option linter.unusedSimpArgs false
namespace Go.Proofs.Ytfoghahidofegaa
/-- strictly increasing lists -/
abbrev Rise (l : List Int) : Prop := l.Pairwise (· < ·)

theorem rise_ext : ∀ {a b : List Int}, Rise a → Rise b → (∀ x, x ∈ a ↔ x ∈ b) → a = b := by
  intro a
  induction a with
  | nil =>
    intro b _ _ h
    cases b with
    | nil => rfl
    | cons y ys => exact absurd ((h y).2 (List.mem_cons_self)) (by simp)
  | cons x xs ih =>
    intro b ha hb h
    cases b with
    | nil => exact absurd ((h x).1 (List.mem_cons_self)) (by simp)
    | cons y ys =>
      have ha' := List.pairwise_cons.1 ha
      have hb' := List.pairwise_cons.1 hb
      have hxy : x = y := by
        have h1 : x ∈ y :: ys := (h x).1 List.mem_cons_self
        have h2 : y ∈ x :: xs := (h y).2 List.mem_cons_self
        rcases List.mem_cons.1 h1 with e | e
        · exact e
        · rcases List.mem_cons.1 h2 with e2 | e2
          · exact e2.symm
          · have := hb'.1 x e; have := ha'.1 y e2; omega
      subst hxy
      congr 1
      refine ih ha'.2 hb'.2 fun z => ⟨fun hz => ?_, fun hz => ?_⟩
      · rcases List.mem_cons.1 ((h z).1 (List.mem_cons_of_mem _ hz)) with e | e
        · subst e; have := ha'.1 _ hz; omega
        · exact e
      · rcases List.mem_cons.1 ((h z).2 (List.mem_cons_of_mem _ hz)) with e | e
        · subst e; have := hb'.1 _ hz; omega
        · exact e

/-- the program's walk over two rows -/
def mergeW (keep : Bool → Bool → Bool) : List Int → List Int → List Int
  | [], [] => []
  | [], y :: b => if keep false true then y :: mergeW keep [] b else mergeW keep [] b
  | x :: a, [] => if keep true false then x :: mergeW keep a [] else mergeW keep a []
  | x :: a, y :: b =>
    if x < y then (if keep true false then x :: mergeW keep a (y :: b) else mergeW keep a (y :: b))
    else if y < x then (if keep false true then y :: mergeW keep (x :: a) b else mergeW keep (x :: a) b)
    else (if keep true true then y :: mergeW keep a b else mergeW keep a b)
termination_by a b => a.length + b.length

def both (a b : List Int) : List Int := mergeW (fun p q => p && q) a b
def either (a b : List Int) : List Int := mergeW (fun _ _ => true) a b

theorem mergeW_mem (keep : Bool → Bool → Bool) : ∀ (a b : List Int), Rise a → Rise b → ∀ z,
    (z ∈ mergeW keep a b ↔ (z ∈ a ∧ z ∈ b ∧ keep true true = true) ∨ (z ∈ a ∧ z ∉ b ∧ keep true false = true) ∨ (z ∉ a ∧ z ∈ b ∧ keep false true = true))
  | [], [], _, _, z => by simp [mergeW]
  | [], y :: b, _, hb, z => by
    have ih := mergeW_mem keep [] b List.Pairwise.nil (List.pairwise_cons.1 hb).2 z
    unfold mergeW
    cases hk : keep false true <;> simp [ih, hk]
  | x :: a, [], ha, _, z => by
    have ih := mergeW_mem keep a [] (List.pairwise_cons.1 ha).2 List.Pairwise.nil z
    unfold mergeW
    cases hk : keep true false <;> simp [ih, hk]
  | x :: a, y :: b, ha, hb, z => by
    have ha' := List.pairwise_cons.1 ha
    have hb' := List.pairwise_cons.1 hb
    unfold mergeW
    by_cases h1 : x < y
    · rw [if_pos h1]
      have ih := mergeW_mem keep a (y :: b) ha'.2 hb z
      have hx : x ∉ y :: b := by
        intro h
        rcases List.mem_cons.1 h with e | e
        · omega
        · have := hb'.1 _ e; omega
      by_cases hz : z = x
      · subst hz
        have hza : z ∉ a := fun h => by have := ha'.1 _ h; omega
        cases hk : keep true false <;> simp [ih, hk, hx, hza]
      · cases hk : keep true false <;> simp [ih, hk, hz]
    · rw [if_neg h1]
      by_cases h2 : y < x
      · rw [if_pos h2]
        have ih := mergeW_mem keep (x :: a) b ha hb'.2 z
        have hy : y ∉ x :: a := by
          intro h
          rcases List.mem_cons.1 h with e | e
          · omega
          · have := ha'.1 _ e; omega
        by_cases hz : z = y
        · subst hz
          have hzb : z ∉ b := fun h => by have := hb'.1 _ h; omega
          cases hk : keep false true <;> simp [ih, hk, hy, hzb]
        · cases hk : keep false true <;> simp [ih, hk, hz]
      · rw [if_neg h2]
        have e : x = y := by omega
        subst e
        have ih := mergeW_mem keep a b ha'.2 hb'.2 z
        by_cases hz : z = x
        · subst hz
          have hza : z ∉ a := fun h => by have := ha'.1 _ h; omega
          have hzb : z ∉ b := fun h => by have := hb'.1 _ h; omega
          cases hk : keep true true <;> simp [ih, hk, hza, hzb]
        · cases hk : keep true true <;> simp [ih, hk, hz]
termination_by a b => a.length + b.length

theorem mergeW_sub (keep : Bool → Bool → Bool) {a b : List Int} (ha : Rise a) (hb : Rise b) {z : Int} (h : z ∈ mergeW keep a b) : z ∈ a ∨ z ∈ b := by
  rcases (mergeW_mem keep a b ha hb z).1 h with h | h | h
  · exact .inl h.1
  · exact .inl h.1
  · exact .inr h.2.1

theorem mergeW_rise (keep : Bool → Bool → Bool) : ∀ (a b : List Int), Rise a → Rise b → Rise (mergeW keep a b)
  | [], [], _, _ => by simp [mergeW]
  | [], y :: b, _, hb => by
    have hb' := List.pairwise_cons.1 hb
    have ih := mergeW_rise keep [] b List.Pairwise.nil hb'.2
    unfold mergeW
    split
    · refine List.pairwise_cons.2 ⟨fun z hz => ?_, ih⟩
      rcases mergeW_sub keep List.Pairwise.nil hb'.2 hz with h | h
      · simp at h
      · exact hb'.1 _ h
    · exact ih
  | x :: a, [], ha, _ => by
    have ha' := List.pairwise_cons.1 ha
    have ih := mergeW_rise keep a [] ha'.2 List.Pairwise.nil
    unfold mergeW
    split
    · refine List.pairwise_cons.2 ⟨fun z hz => ?_, ih⟩
      rcases mergeW_sub keep ha'.2 List.Pairwise.nil hz with h | h
      · exact ha'.1 _ h
      · simp at h
    · exact ih
  | x :: a, y :: b, ha, hb => by
    have ha' := List.pairwise_cons.1 ha
    have hb' := List.pairwise_cons.1 hb
    unfold mergeW
    by_cases h1 : x < y
    · rw [if_pos h1]
      have ih := mergeW_rise keep a (y :: b) ha'.2 hb
      split
      · refine List.pairwise_cons.2 ⟨fun z hz => ?_, ih⟩
        rcases mergeW_sub keep ha'.2 hb hz with h | h
        · exact ha'.1 _ h
        · rcases List.mem_cons.1 h with e | e
          · omega
          · have := hb'.1 _ e; omega
      · exact ih
    · rw [if_neg h1]
      by_cases h2 : y < x
      · rw [if_pos h2]
        have ih := mergeW_rise keep (x :: a) b ha hb'.2
        split
        · refine List.pairwise_cons.2 ⟨fun z hz => ?_, ih⟩
          rcases mergeW_sub keep ha hb'.2 hz with h | h
          · rcases List.mem_cons.1 h with e | e
            · omega
            · have := ha'.1 _ e; omega
          · exact hb'.1 _ h
        · exact ih
      · rw [if_neg h2]
        have e : x = y := by omega
        subst e
        have ih := mergeW_rise keep a b ha'.2 hb'.2
        split
        · refine List.pairwise_cons.2 ⟨fun z hz => ?_, ih⟩
          rcases mergeW_sub keep ha'.2 hb'.2 hz with h | h
          · exact ha'.1 _ h
          · exact hb'.1 _ h
        · exact ih
termination_by a b => a.length + b.length

theorem mem_both {a b : List Int} (ha : Rise a) (hb : Rise b) (z : Int) : z ∈ both a b ↔ z ∈ a ∧ z ∈ b := by
  unfold both; rw [mergeW_mem _ a b ha hb]; simp
theorem mem_either {a b : List Int} (ha : Rise a) (hb : Rise b) (z : Int) : z ∈ either a b ↔ z ∈ a ∨ z ∈ b := by
  unfold either; rw [mergeW_mem _ a b ha hb]
  by_cases h1 : z ∈ a <;> by_cases h2 : z ∈ b <;> simp [h1, h2]
theorem both_rise {a b : List Int} (ha : Rise a) (hb : Rise b) : Rise (both a b) := mergeW_rise _ _ _ ha hb
theorem either_rise {a b : List Int} (ha : Rise a) (hb : Rise b) : Rise (either a b) := mergeW_rise _ _ _ ha hb
theorem both_comm {a b : List Int} (ha : Rise a) (hb : Rise b) : both b a = both a b :=
  rise_ext (both_rise hb ha) (both_rise ha hb) fun z => by rw [mem_both hb ha, mem_both ha hb, and_comm]
theorem either_comm {a b : List Int} (ha : Rise a) (hb : Rise b) : either b a = either a b :=
  rise_ext (either_rise hb ha) (either_rise ha hb) fun z => by rw [mem_either hb ha, mem_either ha hb, or_comm]
theorem both_self {a : List Int} (ha : Rise a) : both a a = a :=
  rise_ext (both_rise ha ha) ha fun z => by rw [mem_both ha ha, and_self]
theorem both_eq_filter {a b : List Int} (ha : Rise a) (hb : Rise b) : both a b = a.filter (fun x => decide (x ∈ b)) :=
  rise_ext (both_rise ha hb) (List.Pairwise.filter _ ha) fun z => by rw [mem_both ha hb]; simp
theorem both_assoc {a b c : List Int} (ha : Rise a) (hb : Rise b) (hc : Rise c) : both (both a b) c = both a (both b c) :=
  rise_ext (both_rise (both_rise ha hb) hc) (both_rise ha (both_rise hb hc)) fun z => by
    rw [mem_both (both_rise ha hb) hc, mem_both ha hb, mem_both ha (both_rise hb hc), mem_both hb hc, and_assoc]
theorem either_assoc {a b c : List Int} (ha : Rise a) (hb : Rise b) (hc : Rise c) : either (either a b) c = either a (either b c) :=
  rise_ext (either_rise (either_rise ha hb) hc) (either_rise ha (either_rise hb hc)) fun z => by
    rw [mem_either (either_rise ha hb) hc, mem_either ha hb, mem_either ha (either_rise hb hc), mem_either hb hc, or_assoc]
theorem both_either {a b c : List Int} (ha : Rise a) (hb : Rise b) (hc : Rise c) : both a (either b c) = either (both a b) (both a c) :=
  rise_ext (both_rise ha (either_rise hb hc)) (either_rise (both_rise ha hb) (both_rise ha hc)) fun z => by
    rw [mem_both ha (either_rise hb hc), mem_either hb hc, mem_either (both_rise ha hb) (both_rise ha hc), mem_both ha hb, mem_both ha hc, and_or_left]
theorem either_absorb {a b : List Int} (ha : Rise a) (hb : Rise b) : either a (both a b) = a :=
  rise_ext (either_rise ha (both_rise ha hb)) ha fun z => by
    rw [mem_either ha (both_rise ha hb), mem_both ha hb]
    exact ⟨fun h => h.elim id (fun h => h.1), .inl⟩

theorem mergeW_length : ∀ (a b : List Int), (mergeW (fun p q => p && q) a b).length + (mergeW (fun _ _ => true) a b).length = a.length + b.length
  | [], [] => by simp [mergeW]
  | [], y :: b => by
    have ih := mergeW_length [] b
    unfold mergeW
    simp at ih ⊢; omega
  | x :: a, [] => by
    have ih := mergeW_length a []
    unfold mergeW
    simp at ih ⊢; omega
  | x :: a, y :: b => by
    unfold mergeW
    by_cases h1 : x < y
    · have ih := mergeW_length a (y :: b)
      simp [h1] at ih ⊢; omega
    · by_cases h2 : y < x
      · have ih := mergeW_length (x :: a) b
        simp [h1, h2] at ih ⊢; omega
      · have ih := mergeW_length a b
        simp [h1, h2] at ih ⊢; omega
termination_by a b => a.length + b.length
theorem both_either_length (a b : List Int) : (both a b).length + (either a b).length = a.length + b.length := mergeW_length a b
theorem mergeW_len (keep : Bool → Bool → Bool) : ∀ (a b : List Int), (mergeW keep a b).length ≤ a.length + b.length
  | [], [] => by simp [mergeW]
  | [], y :: b => by
    have ih := mergeW_len keep [] b
    unfold mergeW
    split <;> simp at ih ⊢ <;> omega
  | x :: a, [] => by
    have ih := mergeW_len keep a []
    unfold mergeW
    split <;> simp at ih ⊢ <;> omega
  | x :: a, y :: b => by
    have ih1 := mergeW_len keep a (y :: b)
    have ih2 := mergeW_len keep (x :: a) b
    have ih3 := mergeW_len keep a b
    simp only [List.length_cons] at ih1 ih2 ih3
    unfold mergeW
    repeat' split
    all_goals simp only [List.length_cons]; omega
termination_by a b => a.length + b.length

def refE (a : List Int) : Option Int → List Int → List Int
  | lo, [] => a.filter (fun x => lo.all (fun l => decide (l < x)))
  | lo, y :: b => a.filter (fun x => decide (x < y) && lo.all (fun l => decide (l < x))) ++ y :: refE a (some y) b

theorem refE_mem (a : List Int) : ∀ (b : List Int) (lo : Option Int), Rise b → (∀ y ∈ b, ∀ l, lo = some l → l < y) → ∀ z, (z ∈ refE a lo b ↔ (z ∈ a ∧ ∀ l, lo = some l → l < z) ∨ z ∈ b)
  | [], lo, _, _, z => by cases lo <;> simp [refE]
  | y :: b, lo, hb, hl, z => by
    have hb' := List.pairwise_cons.1 hb
    have ih := refE_mem a b (some y) hb'.2 (fun w hw l e => by cases e; exact hb'.1 w hw) z
    have hly : ∀ l, lo = some l → l < y := hl y List.mem_cons_self
    simp only [refE, List.mem_append, List.mem_filter, List.mem_cons, ih]
    cases lo with
    | none =>
      simp
      constructor
      · rintro (⟨h1, h2⟩ | rfl | ⟨h1, h2⟩ | h)
        · exact .inl h1
        · exact .inr (.inl rfl)
        · exact .inl h1
        · exact .inr (.inr h)
      · rintro (h | rfl | h)
        · rcases Int.lt_trichotomy z y with h2 | h2 | h2
          · exact .inl ⟨h, h2⟩
          · exact .inr (.inl h2)
          · exact .inr (.inr (.inl ⟨h, h2⟩))
        · exact .inr (.inl rfl)
        · exact .inr (.inr (.inr h))
    | some l =>
      have hy := hly l rfl
      simp
      constructor
      · rintro (⟨h1, h2, h3⟩ | rfl | ⟨h1, h2⟩ | h)
        · exact .inl ⟨h1, h3⟩
        · exact .inr (.inl rfl)
        · exact .inl ⟨h1, by omega⟩
        · exact .inr (.inr h)
      · rintro (⟨h, h3⟩ | rfl | h)
        · rcases Int.lt_trichotomy z y with h2 | h2 | h2
          · exact .inl ⟨h, h2, h3⟩
          · exact .inr (.inl h2)
          · exact .inr (.inr (.inl ⟨h, h2⟩))
        · exact .inr (.inl rfl)
        · exact .inr (.inr (.inr h))

theorem refE_rise (a : List Int) (ha : Rise a) : ∀ (b : List Int) (lo : Option Int), Rise b → (∀ y ∈ b, ∀ l, lo = some l → l < y) → Rise (refE a lo b)
  | [], lo, _, _ => by unfold refE; exact List.Pairwise.filter _ ha
  | y :: b, lo, hb, hl => by
    have hb' := List.pairwise_cons.1 hb
    have hq : ∀ w ∈ b, ∀ l, some y = some l → l < w := fun w hw l e => by cases e; exact hb'.1 w hw
    have ih := refE_rise a ha b (some y) hb'.2 hq
    have hm := refE_mem a b (some y) hb'.2 hq
    unfold refE
    have h2 : Rise (y :: refE a (some y) b) := List.pairwise_cons.2 ⟨fun z hz => by
      rcases (hm z).1 hz with ⟨_, h⟩ | h
      · exact h y rfl
      · exact hb'.1 z h, ih⟩
    refine List.pairwise_append.2 ⟨List.Pairwise.filter _ ha, h2, fun x hx w hw => ?_⟩
    have hxy : x < y := by
      have := (List.mem_filter.1 hx).2
      simp at this
      exact this.1
    rcases List.mem_cons.1 hw with e | e
    · omega
    · rcases (hm w).1 e with ⟨_, h⟩ | h
      · have := h y rfl; omega
      · have := hb'.1 w h; omega
theorem either_eq_ref {a b : List Int} (ha : Rise a) (hb : Rise b) : either a b = refE a none b :=
  rise_ext (either_rise ha hb) (refE_rise a ha b none hb (by simp)) fun z => by
    rw [mem_either ha hb, refE_mem a b none hb (by simp)]; simp
end Go.Proofs.Ytfoghahidofegaa

namespace Go.Proofs.Ytfoghahidofegaa
open Go.RowKit

theorem infoInt : (Try.prog.info? 3).map (fun i => (i.zero, i.size, i.bytes)) = some (some (.int .i64 0), 1, 8) := by kernel_rfl

theorem both_fn (p q : Bool) (w : World) : Calls Try.prog 95 #[.bool p, .bool q] w fun e w' => e = .returned (.bool (p && q)) ∧ w = w' := by
  cases p <;> cases q
  all_goals
    go_enter Try.func95, Try.ntmps95
    go_wp2
    go_ret
    exact ⟨rfl, rfl⟩

theorem either_fn (p q : Bool) (w : World) : Calls Try.prog 79 #[.bool p, .bool q] w fun e w' => e = .returned (.bool true) ∧ w = w' := by
  go_enter Try.func79, Try.ntmps79
  go_wp2
  go_ret
  exact ⟨rfl, rfl⟩

def lenOf : Value → Nat | .slice _ n _ => n | _ => 0
theorem row_int_head {k : IntKind} {ok : Nat → Prop} {w : World} {A : Option Addr} {x : Int} {xs : List Int} (h : Row (Kn.int k) ok w A (x :: xs)) : ∃ ad, A = some ad ∧ w.cell? ad = some (.int k x) := by
  obtain ⟨ad, cs, e, _, _, _, hk, hc⟩ := h.at_ (j := 0) (by simp)
  have hk' : cs = [.int k x] := hk
  subst hk'
  exact ⟨ad, e, by simpa [Kn.int, Kn.scalar, Addr.add] using hc 0 _ rfl⟩

theorem row_int_tail {k : IntKind} {ok : Nat → Prop} {w : World} {ad : Addr} {x : Int} {xs : List Int} {cap : Nat} (h : Row (Kn.int k) ok w (some ad) (x :: xs)) (hc : (x :: xs).length ≤ cap) :
    (cap = 1 → Row (Kn.int k) ok w (some ad) xs) ∧ (¬ cap = 1 → Row (Kn.int k) ok w (some ⟨ad.block, ad.off + 1, none⟩) xs) := by
  have h1 := h.cut (k := 1) hc
  rw [show 1 * (Kn.int k).sz = 1 from rfl] at h1
  refine ⟨fun e => ?_, fun e => ?_⟩
  · rw [if_pos e] at h1; exact h1
  · rw [if_neg e, Option.map_some, add_pos _ _ (by omega)] at h1; exact h1

/-- Where the walk stands at a round's head. -/
def WalkAt (keep : Bool → Bool → Bool) (a b : List Int) (w : World) (v0 v1 v : Value) (wr : World) : Prop :=
  ∃ (a' b' done : List Int) (A' B' : Option Addr) (ca' cb' : Nat), v0 = .slice A' a'.length ca' ∧ v1 = .slice B' b'.length cb' ∧ a'.length ≤ ca' ∧ b'.length ≤ cb' ∧ ca' ≤ maxLen ∧ cb' ≤ maxLen ∧
    Row (Kn.int .i64) (fun k => k < w.heap.size) wr A' a' ∧ Row (Kn.int .i64) (fun k => k < w.heap.size) wr B' b' ∧ mergeW keep a b = done ++ mergeW keep a' b' ∧ Own (Kn.int .i64) 3 w.heap.size (fun _ => False) wr v done ∧
    (done.length + a'.length + b'.length) * 8 ≤ 140737488355328 ∧ Below w.heap.size w wr

/-- A round's end: the rows as they are cut (or not), what is kept (or nothing). -/
theorem walkAt_mk {keep : Bool → Bool → Bool} {a b : List Int} {w wr w1 : World} {v1 : Value} {a' b' done a2 b2 done2 : List Int} {A' B' : Option Addr} {ca' cb' : Nat}
    (hm : mergeW keep a b = done ++ mergeW keep a' b') (hm2 : mergeW keep a' b' = done2 ++ mergeW keep a2 b2) (hca : a2.length ≤ ca') (hcb : b2.length ≤ cb') (hma : ca' ≤ 2 ^ 63 - 1) (hmb : cb' ≤ 2 ^ 63 - 1)
    (hA : Row (Kn.int .i64) (fun k => k < w.heap.size) wr A' a2) (hB : Row (Kn.int .i64) (fun k => k < w.heap.size) wr B' b2) (hown : Own (Kn.int .i64) 3 w.heap.size (fun _ => False) w1 v1 (done ++ done2))
    (hl : (done.length + a'.length + b'.length) * 8 ≤ 140737488355328) (hl2 : done2.length + a2.length + b2.length ≤ a'.length + b'.length) (hb : Below w.heap.size w w1) (hb1 : Below w.heap.size wr w1) :
    WalkAt keep a b w (.slice A' a2.length ca') (.slice B' b2.length cb') v1 w1 :=
  ⟨a2, b2, done ++ done2, A', B', ca', cb', rfl, rfl, hca, hcb, by unfold maxLen; omega, by unfold maxLen; omega, hA.under hb1, hB.under hb1, by rw [hm, hm2, List.append_assoc], hown, by rw [List.length_append]; omega, hb⟩

set_option maxHeartbeats 8000000 in
set_option maxRecDepth 100000 in
theorem walk_any (keep : Bool → Bool → Bool) (g : Nat) (eg : ∀ (args : Array Value) (W : World), (callFunc g args).run Try.prog W = .ok (.enter g args) W)
    (hkeep : ∀ p q W, Calls Try.prog g #[.bool p, .bool q] W fun e w' => e = .returned (.bool (keep p q)) ∧ W = w')
    (A B : Option Addr) (ca cb : Nat) (a b : List Int) (w : World) (hca : a.length ≤ ca) (hcb : b.length ≤ cb) (hma : ca ≤ maxLen) (hmb : cb ≤ maxLen)
    (ha : Row (Kn.int .i64) (fun _ => True) w A a) (hb : Row (Kn.int .i64) (fun _ => True) w B b) (hlen : (a.length + b.length) * 8 ≤ 140737488355328) :
    Calls Try.prog 78 #[.slice A a.length ca, .slice B b.length cb, .func (.func g) #[] #[]] w fun e w' =>
      ∃ v, e = .returned v ∧ Own (Kn.int .i64) 3 w.heap.size (fun _ => False) w' v (mergeW keep a b) ∧ Below w.heap.size w w' := by
  have HK := Lib.hid hkeep
  clear hkeep
  have h0 : WalkAt keep a b w (.slice A a.length ca) (.slice B b.length cb) (.slice none 0 0) w :=
    ⟨a, b, [], A, B, ca, cb, rfl, rfl, hca, hcb, hma, hmb, ha.bound.mono (fun k hk => hk.2), hb.bound.mono (fun k hk => hk.2), rfl, Own.nil_ _ _ _ _ _, by simpa using hlen, Below.refl _ _⟩
  have H0 := Lib.hid h0
  clear h0
  go_enter Try.func78, Try.ntmps78
  go_wp2
  go_loopw [0, 1, 7] (fun v0 v1 v wr => WalkAt keep a b w v0 v1 v wr) (fun v0 v1 _ _ => lenOf v0 + lenOf v1)
  case atStart => exact H0.out
  case round =>
    obtain ⟨a', b', done, A', B', ca', cb', rfl, rfl, h1, h2, h3, h4, h5, h6, h7, h8, h9, h10⟩ := hrel
    have H7 := Lib.hid h7
    clear h7 H0
    unfold maxLen at h3 h4
    rcases a' with _ | ⟨x, a'⟩ <;> rcases b' with _ | ⟨y, b'⟩
    · go_wp2
      go_ret
      exact ⟨_, rfl, by have := H7.out; simp [mergeW] at this; rw [this]; exact h8, h10⟩
    · obtain ⟨bd, rfl, hy⟩ := row_int_head h6
      have t6 := row_int_tail h6 h2
      have e2 : ((b'.length : Int) + 1 == 0) = false := by rw [beq_eq_false_iff_ne]; omega
      by_cases hc1 : cb' = 1
      all_goals
        go_wp2
        go_quiet (fail)
        go_wp2
        go_quiet (fail)
        go_wp2
        go_quiet (fail)
        cases hk : keep false true
        · go_wp2_with fail
          refine (HK.out _ _ _).mono ?_
          rintro e w' ⟨rfl, rfl⟩
          rw [hk]
          go_wp2
          go_roundw
          case rel => exact walkAt_mk (done2 := []) (a2 := []) (b2 := b') H7.out (by simp [mergeW, hk]) (by simp only [List.length_cons, List.length_nil] at *; omega) (by simp only [List.length_cons, List.length_nil] at *; omega) (by omega) (by omega) h5 (by first | exact t6.1 hc1 | exact t6.2 hc1) (by simpa using h8.drewN _) h9 (by simp <;> omega) (below_drewN h10 _) (below_drewN (Below.refl _ _) _)
          case measure => simp [lenOf]
        · go_wp2_with fail
          refine (HK.out _ _ _).mono ?_
          rintro e w' ⟨rfl, rfl⟩
          rw [hk]
          go_wp2_with (at_builtin; refine wpList_push rfl _ _ _ rfl 3 _ 1 8 Try.underlying97 infoInt rfl (by decide) (by decide) rfl w.heap.size (fun _ => False) _ done rfl h8 y _ rfl rfl h10.size (by simp at h9; omega) ?_; intro v1 w1 hown1 hg1 hat1 hbel1)
          go_roundw
          case rel => exact walkAt_mk (done2 := [y]) (a2 := []) (b2 := b') H7.out (by simp [mergeW, hk]) (by simp only [List.length_cons, List.length_nil] at *; omega) (by simp only [List.length_cons, List.length_nil] at *; omega) (by omega) (by omega) h5 (by first | exact t6.1 hc1 | exact t6.2 hc1) hown1 h9 (by simp <;> omega) (hbel1 _ (below_drewN h10 _)) (hbel1 _ (below_drewN (Below.refl _ _) _))
          case measure => simp [lenOf]
    · obtain ⟨ad, rfl, hx⟩ := row_int_head h5
      have t5 := row_int_tail h5 h1
      have e1 : ((a'.length : Int) + 1 == 0) = false := by rw [beq_eq_false_iff_ne]; omega
      by_cases hc0 : ca' = 1
      all_goals
        go_wp2
        go_quiet (fail)
        go_wp2
        go_quiet (fail)
        go_wp2
        go_quiet (fail)
        cases hk : keep true false
        · go_wp2_with fail
          refine (HK.out _ _ _).mono ?_
          rintro e w' ⟨rfl, rfl⟩
          rw [hk]
          go_wp2
          go_roundw
          case rel => exact walkAt_mk (done2 := []) (a2 := a') (b2 := []) H7.out (by simp [mergeW, hk]) (by simp only [List.length_cons, List.length_nil] at *; omega) (by simp only [List.length_cons, List.length_nil] at *; omega) (by omega) (by omega) (by first | exact t5.1 hc0 | exact t5.2 hc0) h6 (by simpa using h8.drewN _) h9 (by simp <;> omega) (below_drewN h10 _) (below_drewN (Below.refl _ _) _)
          case measure => simp [lenOf]
        · go_wp2_with fail
          refine (HK.out _ _ _).mono ?_
          rintro e w' ⟨rfl, rfl⟩
          rw [hk]
          go_wp2_with (at_builtin; refine wpList_push rfl _ _ _ rfl 3 _ 1 8 Try.underlying97 infoInt rfl (by decide) (by decide) rfl w.heap.size (fun _ => False) _ done rfl h8 x _ rfl rfl h10.size (by simp at h9; omega) ?_; intro v1 w1 hown1 hg1 hat1 hbel1)
          go_roundw
          case rel => exact walkAt_mk (done2 := [x]) (a2 := a') (b2 := []) H7.out (by simp [mergeW, hk]) (by simp only [List.length_cons, List.length_nil] at *; omega) (by simp only [List.length_cons, List.length_nil] at *; omega) (by omega) (by omega) (by first | exact t5.1 hc0 | exact t5.2 hc0) h6 hown1 h9 (by simp <;> omega) (hbel1 _ (below_drewN h10 _)) (hbel1 _ (below_drewN (Below.refl _ _) _))
          case measure => simp [lenOf]
    · obtain ⟨ad, rfl, hx⟩ := row_int_head h5
      obtain ⟨bd, rfl, hy⟩ := row_int_head h6
      have t5 := row_int_tail h5 h1
      have t6 := row_int_tail h6 h2
      have e1 : ((a'.length : Int) + 1 == 0) = false := by rw [beq_eq_false_iff_ne]; omega
      have e2 : ((b'.length : Int) + 1 == 0) = false := by rw [beq_eq_false_iff_ne]; omega
      rcases Int.lt_trichotomy x y with hxy | hxy | hxy
      · have hle : decide (x ≤ y) = true := by simp; omega
        have hge : decide (y ≤ x) = false := by simp; omega
        by_cases hc0 : ca' = 1
        all_goals
          go_wp2
          go_quiet (fail)
          go_wp2
          go_quiet (fail)
          go_wp2
          go_quiet (fail)
          cases hk : keep true false
          · go_wp2_with fail
            refine (HK.out _ _ _).mono ?_
            rintro e w' ⟨rfl, rfl⟩
            rw [hk]
            go_wp2
            go_roundw
            case rel => exact walkAt_mk (done2 := []) (a2 := a') (b2 := (y :: b')) H7.out (by rw [mergeW, if_pos hxy]; simp [hk]) (by simp only [List.length_cons, List.length_nil] at *; omega) (by simp only [List.length_cons, List.length_nil] at *; omega) (by omega) (by omega) (by first | exact t5.1 hc0 | exact t5.2 hc0) h6 (by simpa using h8.drewN _) h9 (by simp <;> omega) (below_drewN h10 _) (below_drewN (Below.refl _ _) _)
            case measure => simp [lenOf]
          · go_wp2_with fail
            refine (HK.out _ _ _).mono ?_
            rintro e w' ⟨rfl, rfl⟩
            rw [hk]
            go_wp2_with (at_builtin; refine wpList_push rfl _ _ _ rfl 3 _ 1 8 Try.underlying97 infoInt rfl (by decide) (by decide) rfl w.heap.size (fun _ => False) _ done rfl h8 x _ rfl rfl h10.size (by simp at h9; omega) ?_; intro v1 w1 hown1 hg1 hat1 hbel1)
            go_roundw
            case rel => exact walkAt_mk (done2 := [x]) (a2 := a') (b2 := (y :: b')) H7.out (by rw [mergeW, if_pos hxy]; simp [hk]) (by simp only [List.length_cons, List.length_nil] at *; omega) (by simp only [List.length_cons, List.length_nil] at *; omega) (by omega) (by omega) (by first | exact t5.1 hc0 | exact t5.2 hc0) h6 hown1 h9 (by simp <;> omega) (hbel1 _ (below_drewN h10 _)) (hbel1 _ (below_drewN (Below.refl _ _) _))
            case measure => simp [lenOf]
      · subst hxy
        have hle : decide (x ≤ x) = true := by simp
        by_cases hc0 : ca' = 1 <;> by_cases hc1 : cb' = 1
        all_goals
          go_wp2
          go_quiet (fail)
          go_wp2
          go_quiet (fail)
          go_wp2
          go_quiet (fail)
          go_wp2
          go_quiet (fail)
          cases hk : keep true true
          · go_wp2_with fail
            refine (HK.out _ _ _).mono ?_
            rintro e w' ⟨rfl, rfl⟩
            rw [hk]
            go_wp2
            go_roundw
            case rel => exact walkAt_mk (done2 := []) (a2 := a') (b2 := b') H7.out (by rw [mergeW, if_neg (by omega), if_neg (by omega)]; simp [hk]) (by simp only [List.length_cons, List.length_nil] at *; omega) (by simp only [List.length_cons, List.length_nil] at *; omega) (by omega) (by omega) (by first | exact t5.1 hc0 | exact t5.2 hc0) (by first | exact t6.1 hc1 | exact t6.2 hc1) (by simpa using h8.drewN _) h9 (by simp <;> omega) (below_drewN h10 _) (below_drewN (Below.refl _ _) _)
            case measure => simp [lenOf] <;> omega
          · go_wp2_with fail
            refine (HK.out _ _ _).mono ?_
            rintro e w' ⟨rfl, rfl⟩
            rw [hk]
            go_wp2_with (at_builtin; refine wpList_push rfl _ _ _ rfl 3 _ 1 8 Try.underlying97 infoInt rfl (by decide) (by decide) rfl w.heap.size (fun _ => False) _ done rfl h8 x _ rfl rfl h10.size (by simp at h9; omega) ?_; intro v1 w1 hown1 hg1 hat1 hbel1)
            go_roundw
            case rel => exact walkAt_mk (done2 := [x]) (a2 := a') (b2 := b') H7.out (by rw [mergeW, if_neg (by omega), if_neg (by omega)]; simp [hk]) (by simp only [List.length_cons, List.length_nil] at *; omega) (by simp only [List.length_cons, List.length_nil] at *; omega) (by omega) (by omega) (by first | exact t5.1 hc0 | exact t5.2 hc0) (by first | exact t6.1 hc1 | exact t6.2 hc1) hown1 h9 (by simp <;> omega) (hbel1 _ (below_drewN h10 _)) (hbel1 _ (below_drewN (Below.refl _ _) _))
            case measure => simp [lenOf] <;> omega
      · have hle : decide (x ≤ y) = false := by simp; omega
        have hge : decide (y ≤ x) = true := by simp; omega
        by_cases hc1 : cb' = 1
        all_goals
          go_wp2
          go_quiet (fail)
          go_wp2
          go_quiet (fail)
          go_wp2
          go_quiet (fail)
          cases hk : keep false true
          · go_wp2_with fail
            refine (HK.out _ _ _).mono ?_
            rintro e w' ⟨rfl, rfl⟩
            rw [hk]
            go_wp2
            go_roundw
            case rel => exact walkAt_mk (done2 := []) (a2 := (x :: a')) (b2 := b') H7.out (by rw [mergeW, if_neg (by omega), if_pos hxy]; simp [hk]) (by simp only [List.length_cons, List.length_nil] at *; omega) (by simp only [List.length_cons, List.length_nil] at *; omega) (by omega) (by omega) h5 (by first | exact t6.1 hc1 | exact t6.2 hc1) (by simpa using h8.drewN _) h9 (by simp <;> omega) (below_drewN h10 _) (below_drewN (Below.refl _ _) _)
            case measure => simp [lenOf]
          · go_wp2_with fail
            refine (HK.out _ _ _).mono ?_
            rintro e w' ⟨rfl, rfl⟩
            rw [hk]
            go_wp2_with (at_builtin; refine wpList_push rfl _ _ _ rfl 3 _ 1 8 Try.underlying97 infoInt rfl (by decide) (by decide) rfl w.heap.size (fun _ => False) _ done rfl h8 y _ rfl rfl h10.size (by simp at h9; omega) ?_; intro v1 w1 hown1 hg1 hat1 hbel1)
            go_roundw
            case rel => exact walkAt_mk (done2 := [y]) (a2 := (x :: a')) (b2 := b') H7.out (by rw [mergeW, if_neg (by omega), if_pos hxy]; simp [hk]) (by simp only [List.length_cons, List.length_nil] at *; omega) (by simp only [List.length_cons, List.length_nil] at *; omega) (by omega) (by omega) h5 (by first | exact t6.1 hc1 | exact t6.2 hc1) hown1 h9 (by simp <;> omega) (hbel1 _ (below_drewN h10 _)) (hbel1 _ (below_drewN (Below.refl _ _) _))
            case measure => simp [lenOf]

theorem Both_any (A B : Option Addr) (ca cb : Nat) (a b : List Int) (w : World) (hca : a.length ≤ ca) (hcb : b.length ≤ cb) (hma : ca ≤ maxLen) (hmb : cb ≤ maxLen)
    (ha : Row (Kn.int .i64) (fun _ => True) w A a) (hb : Row (Kn.int .i64) (fun _ => True) w B b) (hlen : (a.length + b.length) * 8 ≤ 140737488355328) :
    Calls Try.prog 80 #[.slice A a.length ca, .slice B b.length cb] w fun e w' =>
      ∃ v, e = .returned v ∧ Own (Kn.int .i64) 3 w.heap.size (fun _ => False) w' v (both a b) ∧ Below w.heap.size w w' := by
  have H := Lib.hid (walk_any (fun p q => p && q) 95 (enters_of Try.func95 (by kernel_rfl) rfl) both_fn A B ca cb a b w hca hcb hma hmb ha hb hlen)
  go_enter Try.func80, Try.ntmps80
  go_wp2_with fail
  refine H.out.mono ?_
  rintro e w' ⟨v, rfl, h1, h2⟩
  go_wp2
  go_ret
  exact ⟨v, rfl, h1, h2⟩
theorem Either_any (A B : Option Addr) (ca cb : Nat) (a b : List Int) (w : World) (hca : a.length ≤ ca) (hcb : b.length ≤ cb) (hma : ca ≤ maxLen) (hmb : cb ≤ maxLen)
    (ha : Row (Kn.int .i64) (fun _ => True) w A a) (hb : Row (Kn.int .i64) (fun _ => True) w B b) (hlen : (a.length + b.length) * 8 ≤ 140737488355328) :
    Calls Try.prog 70 #[.slice A a.length ca, .slice B b.length cb] w fun e w' =>
      ∃ v, e = .returned v ∧ Own (Kn.int .i64) 3 w.heap.size (fun _ => False) w' v (either a b) ∧ Below w.heap.size w w' := by
  have H := Lib.hid (walk_any (fun _ _ => true) 79 (enters_of Try.func79 (by kernel_rfl) rfl) either_fn A B ca cb a b w hca hcb hma hmb ha hb hlen)
  go_enter Try.func70, Try.ntmps70
  go_wp2_with fail
  refine H.out.mono ?_
  rintro e w' ⟨v, rfl, h1, h2⟩
  go_wp2
  go_ret
  exact ⟨v, rfl, h1, h2⟩
end Go.Proofs.Ytfoghahidofegaa

namespace Go.Proofs.Ytfoghahidofegaa
open Go.RowKit

abbrev SlI (w : World) (A : Option Addr) (c : Nat) (xs : List Int) : Prop := Sl (Kn.int .i64) (fun _ => True) w A c xs
/-- The result is a new row of numbers. -/
def RetInts (xs : List Int) (w : World) (e : Ending) (w' : World) : Prop := ∃ A c, e = .returned (.slice A xs.length c) ∧ Sl (Kn.int .i64) (fun k => w.heap.size ≤ k) w' A c xs ∧ Below w.heap.size w w'
theorem retInts_of {xs : List Int} {w w' : World} {v : Value} (h : Own (Kn.int .i64) 3 w.heap.size (fun _ => False) w' v xs) (hb : Below w.heap.size w w') : RetInts xs w (.returned v) w' := by
  obtain ⟨A, c, rfl, h1⟩ := h.sl
  exact ⟨A, c, rfl, h1.mono (fun k hk => hk.resolve_left id), hb⟩

section
variable {A B : Option Addr} {ca cb : Nat} {a b : List Int} {w : World}
theorem cBoth (ha : SlI w A ca a) (hb : SlI w B cb b) (hl : a.length + b.length ≤ 1000000) : Calls Try.prog 80 #[.slice A a.length ca, .slice B b.length cb] w (RetInts (both a b) w) :=
  (Both_any A B ca cb a b w ha.1 hb.1 ha.2.1 hb.2.1 ha.2.2 hb.2.2 (by omega)).mono (by rintro e w' ⟨v, rfl, h1, h2⟩; exact retInts_of h1 h2)
theorem cEither (ha : SlI w A ca a) (hb : SlI w B cb b) (hl : a.length + b.length ≤ 1000000) : Calls Try.prog 70 #[.slice A a.length ca, .slice B b.length cb] w (RetInts (either a b) w) :=
  (Either_any A B ca cb a b w ha.1 hb.1 ha.2.1 hb.2.1 ha.2.2 hb.2.2 (by omega)).mono (by rintro e w' ⟨v, rfl, h1, h2⟩; exact retInts_of h1 h2)
end
theorem row_int_at {k : IntKind} {ok : Nat → Prop} {w : World} {A : Option Addr} {xs : List Int} (h : Row (Kn.int k) ok w A xs) {j : Nat} (hj : j < xs.length) : ∃ ad, A = some ad ∧ w.cell? (ad.add j) = some (.int k xs[j]) := by
  obtain ⟨ad, cs, e, _, _, _, hk, hc⟩ := h.at_ hj
  have hk' : cs = [.int k xs[j]] := hk
  subst hk'
  exact ⟨ad, e, by simpa [Kn.int, Kn.scalar] using hc 0 _ rfl⟩
theorem add_zero' (a : Addr) : a.add 0 = a := rfl
end Go.Proofs.Ytfoghahidofegaa
