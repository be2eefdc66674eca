/- posting.walk, Both, Either: what they come to (walks). -/
import Derived.Test.YteahpkihkfkpfaaProg
import Derived.Test.YteahpkihkfkpfaaKit
import Derived.Test.YteahpkihkfkpfaaRise
import Derived.WalkKit
import Derived.WalkSpells
import Derived.WalkLawsBesides
import Derived.Deep.QuietTactic
import Derived.BigQuiet
import Derived.Deep.DeepCutAuto
import Derived.Lib.Hide
import Derived.Shelf.Abstract
set_option linter.unusedVariables false
set_option linter.unusedSimpArgs false
namespace Go.Proofs.Yteahpkihkfkpfaa
open Go.RowKit

theorem infoInt : (Try.prog.info? 3).map (fun i => (i.zero, i.size, i.bytes)) = some (some (.int .i64 0), 1, 8) := by kernel_rfl

theorem both_fn (p q : Bool) (w : World) : Calls Try.prog 72 #[.bool p, .bool q] w fun e w' => e = .returned (.bool (p && q)) ∧ w = w' := by
  cases p <;> cases q
  all_goals
    go_enter Try.func72, Try.ntmps72
    go_wp2
    go_ret
    exact ⟨rfl, rfl⟩

theorem either_fn (p q : Bool) (w : World) : Calls Try.prog 52 #[.bool p, .bool q] w fun e w' => e = .returned (.bool true) ∧ w = w' := by
  go_enter Try.func52, Try.ntmps52
  go_wp2
  go_ret
  exact ⟨rfl, rfl⟩

def lenOf : Value → Nat | .slice _ n _ => n | _ => 0
theorem row_int_head {k : IntKind} {ok : Nat → Prop} {w : World} {A : Option Addr} {x : Int} {xs : List Int} (h : Row (Kn.int k) ok w A (x :: xs)) : ∃ ad, A = some ad ∧ w.cell? ad = some (.int k x) := by
  obtain ⟨ad, cs, e, _, _, _, hk, hc⟩ := h.at_ (j := 0) (by simp)
  have hk' : cs = [.int k x] := hk
  subst hk'
  exact ⟨ad, e, by simpa [Kn.int, Kn.scalar, Addr.add] using hc 0 _ rfl⟩

theorem row_int_tail {k : IntKind} {ok : Nat → Prop} {w : World} {ad : Addr} {x : Int} {xs : List Int} {cap : Nat} (h : Row (Kn.int k) ok w (some ad) (x :: xs)) (hc : (x :: xs).length ≤ cap) :
    (cap = 1 → Row (Kn.int k) ok w (some ad) xs) ∧ (¬ cap = 1 → Row (Kn.int k) ok w (some ⟨ad.block, ad.off + 1, none⟩) xs) := by
  have h1 := h.cut (k := 1) hc
  rw [show 1 * (Kn.int k).sz = 1 from rfl] at h1
  refine ⟨fun e => ?_, fun e => ?_⟩
  · rw [if_pos e] at h1; exact h1
  · rw [if_neg e, Option.map_some, add_pos _ _ (by omega)] at h1; exact h1

/-- Where the walk stands at a round's head. -/
def WalkAt (keep : Bool → Bool → Bool) (a b : List Int) (w : World) (v0 v1 v : Value) (wr : World) : Prop :=
  ∃ (a' b' done : List Int) (A' B' : Option Addr) (ca' cb' : Nat), v0 = .slice A' a'.length ca' ∧ v1 = .slice B' b'.length cb' ∧ a'.length ≤ ca' ∧ b'.length ≤ cb' ∧ ca' ≤ maxLen ∧ cb' ≤ maxLen ∧
    Row (Kn.int .i64) (fun k => k < w.heap.size) wr A' a' ∧ Row (Kn.int .i64) (fun k => k < w.heap.size) wr B' b' ∧ mergeW keep a b = done ++ mergeW keep a' b' ∧ Own (Kn.int .i64) 3 w.heap.size (fun _ => False) wr v done ∧
    (done.length + a'.length + b'.length) * 8 ≤ 140737488355328 ∧ Below w.heap.size w wr

/-- A round's end: the rows as they are cut (or not), what is kept (or nothing). -/
theorem walkAt_mk {keep : Bool → Bool → Bool} {a b : List Int} {w wr w1 : World} {v1 : Value} {a' b' done a2 b2 done2 : List Int} {A' B' : Option Addr} {ca' cb' : Nat}
    (hm : mergeW keep a b = done ++ mergeW keep a' b') (hm2 : mergeW keep a' b' = done2 ++ mergeW keep a2 b2) (hca : a2.length ≤ ca') (hcb : b2.length ≤ cb') (hma : ca' ≤ 2 ^ 63 - 1) (hmb : cb' ≤ 2 ^ 63 - 1)
    (hA : Row (Kn.int .i64) (fun k => k < w.heap.size) wr A' a2) (hB : Row (Kn.int .i64) (fun k => k < w.heap.size) wr B' b2) (hown : Own (Kn.int .i64) 3 w.heap.size (fun _ => False) w1 v1 (done ++ done2))
    (hl : (done.length + a'.length + b'.length) * 8 ≤ 140737488355328) (hl2 : done2.length + a2.length + b2.length ≤ a'.length + b'.length) (hb : Below w.heap.size w w1) (hb1 : Below w.heap.size wr w1) :
    WalkAt keep a b w (.slice A' a2.length ca') (.slice B' b2.length cb') v1 w1 :=
  ⟨a2, b2, done ++ done2, A', B', ca', cb', rfl, rfl, hca, hcb, by unfold maxLen; omega, by unfold maxLen; omega, hA.under hb1, hB.under hb1, by rw [hm, hm2, List.append_assoc], hown, by rw [List.length_append]; omega, hb⟩

set_option maxHeartbeats 8000000 in
set_option maxRecDepth 100000 in
theorem walk_any (keep : Bool → Bool → Bool) (g : Nat) (eg : ∀ (args : Array Value) (W : World), (callFunc g args).run Try.prog W = .ok (.enter g args) W)
    (hkeep : ∀ p q W, Calls Try.prog g #[.bool p, .bool q] W fun e w' => e = .returned (.bool (keep p q)) ∧ W = w')
    (A B : Option Addr) (ca cb : Nat) (a b : List Int) (w : World) (hca : a.length ≤ ca) (hcb : b.length ≤ cb) (hma : ca ≤ maxLen) (hmb : cb ≤ maxLen)
    (ha : Row (Kn.int .i64) (fun _ => True) w A a) (hb : Row (Kn.int .i64) (fun _ => True) w B b) (hlen : (a.length + b.length) * 8 ≤ 140737488355328) :
    Calls Try.prog 51 #[.slice A a.length ca, .slice B b.length cb, .func (.func g) #[] #[]] w fun e w' =>
      ∃ v, e = .returned v ∧ Own (Kn.int .i64) 3 w.heap.size (fun _ => False) w' v (mergeW keep a b) ∧ Below w.heap.size w w' := by
  have HK := Lib.hid hkeep
  clear hkeep
  have h0 : WalkAt keep a b w (.slice A a.length ca) (.slice B b.length cb) (.slice none 0 0) w :=
    ⟨a, b, [], A, B, ca, cb, rfl, rfl, hca, hcb, hma, hmb, ha.bound.mono (fun k hk => hk.2), hb.bound.mono (fun k hk => hk.2), rfl, Own.nil_ _ _ _ _ _, by simpa using hlen, Below.refl _ _⟩
  have H0 := Lib.hid h0
  clear h0
  go_enter Try.func51, Try.ntmps51
  go_wp2
  go_loopw [0, 1, 7] (fun v0 v1 v wr => WalkAt keep a b w v0 v1 v wr) (fun v0 v1 _ _ => lenOf v0 + lenOf v1)
  case atStart => exact H0.out
  case round =>
    obtain ⟨a', b', done, A', B', ca', cb', rfl, rfl, h1, h2, h3, h4, h5, h6, h7, h8, h9, h10⟩ := hrel
    have H7 := Lib.hid h7
    clear h7 H0
    unfold maxLen at h3 h4
    rcases a' with _ | ⟨x, a'⟩ <;> rcases b' with _ | ⟨y, b'⟩
    · go_wp2
      go_ret
      exact ⟨_, rfl, by have := H7.out; simp [mergeW] at this; rw [this]; exact h8, h10⟩
    · obtain ⟨bd, rfl, hy⟩ := row_int_head h6
      have t6 := row_int_tail h6 h2
      have e2 : ((b'.length : Int) + 1 == 0) = false := by rw [beq_eq_false_iff_ne]; omega
      by_cases hc1 : cb' = 1
      all_goals
        go_wp2
        go_quiet (fail)
        go_wp2
        go_quiet (fail)
        go_wp2
        go_quiet (fail)
        cases hk : keep false true
        · go_wp2_with fail
          refine (HK.out _ _ _).mono ?_
          rintro e w' ⟨rfl, rfl⟩
          rw [hk]
          go_wp2
          go_roundw
          case rel => exact walkAt_mk (done2 := []) (a2 := []) (b2 := b') H7.out (by simp [mergeW, hk]) (by simp only [List.length_cons, List.length_nil] at *; omega) (by simp only [List.length_cons, List.length_nil] at *; omega) (by omega) (by omega) h5 (by first | exact t6.1 hc1 | exact t6.2 hc1) (by simpa using h8.drewN _) h9 (by simp <;> omega) (below_drewN h10 _) (below_drewN (Below.refl _ _) _)
          case measure => simp [lenOf]
        · go_wp2_with fail
          refine (HK.out _ _ _).mono ?_
          rintro e w' ⟨rfl, rfl⟩
          rw [hk]
          go_wp2_with (at_builtin; refine wpList_push rfl _ _ _ rfl 3 _ 1 8 Try.underlying30 infoInt rfl (by decide) (by decide) rfl w.heap.size (fun _ => False) _ done rfl h8 y _ rfl rfl h10.size (by simp at h9; omega) ?_; intro v1 w1 hown1 hg1 hat1 hbel1)
          go_roundw
          case rel => exact walkAt_mk (done2 := [y]) (a2 := []) (b2 := b') H7.out (by simp [mergeW, hk]) (by simp only [List.length_cons, List.length_nil] at *; omega) (by simp only [List.length_cons, List.length_nil] at *; omega) (by omega) (by omega) h5 (by first | exact t6.1 hc1 | exact t6.2 hc1) hown1 h9 (by simp <;> omega) (hbel1 _ (below_drewN h10 _)) (hbel1 _ (below_drewN (Below.refl _ _) _))
          case measure => simp [lenOf]
    · obtain ⟨ad, rfl, hx⟩ := row_int_head h5
      have t5 := row_int_tail h5 h1
      have e1 : ((a'.length : Int) + 1 == 0) = false := by rw [beq_eq_false_iff_ne]; omega
      by_cases hc0 : ca' = 1
      all_goals
        go_wp2
        go_quiet (fail)
        go_wp2
        go_quiet (fail)
        go_wp2
        go_quiet (fail)
        cases hk : keep true false
        · go_wp2_with fail
          refine (HK.out _ _ _).mono ?_
          rintro e w' ⟨rfl, rfl⟩
          rw [hk]
          go_wp2
          go_roundw
          case rel => exact walkAt_mk (done2 := []) (a2 := a') (b2 := []) H7.out (by simp [mergeW, hk]) (by simp only [List.length_cons, List.length_nil] at *; omega) (by simp only [List.length_cons, List.length_nil] at *; omega) (by omega) (by omega) (by first | exact t5.1 hc0 | exact t5.2 hc0) h6 (by simpa using h8.drewN _) h9 (by simp <;> omega) (below_drewN h10 _) (below_drewN (Below.refl _ _) _)
          case measure => simp [lenOf]
        · go_wp2_with fail
          refine (HK.out _ _ _).mono ?_
          rintro e w' ⟨rfl, rfl⟩
          rw [hk]
          go_wp2_with (at_builtin; refine wpList_push rfl _ _ _ rfl 3 _ 1 8 Try.underlying30 infoInt rfl (by decide) (by decide) rfl w.heap.size (fun _ => False) _ done rfl h8 x _ rfl rfl h10.size (by simp at h9; omega) ?_; intro v1 w1 hown1 hg1 hat1 hbel1)
          go_roundw
          case rel => exact walkAt_mk (done2 := [x]) (a2 := a') (b2 := []) H7.out (by simp [mergeW, hk]) (by simp only [List.length_cons, List.length_nil] at *; omega) (by simp only [List.length_cons, List.length_nil] at *; omega) (by omega) (by omega) (by first | exact t5.1 hc0 | exact t5.2 hc0) h6 hown1 h9 (by simp <;> omega) (hbel1 _ (below_drewN h10 _)) (hbel1 _ (below_drewN (Below.refl _ _) _))
          case measure => simp [lenOf]
    · obtain ⟨ad, rfl, hx⟩ := row_int_head h5
      obtain ⟨bd, rfl, hy⟩ := row_int_head h6
      have t5 := row_int_tail h5 h1
      have t6 := row_int_tail h6 h2
      have e1 : ((a'.length : Int) + 1 == 0) = false := by rw [beq_eq_false_iff_ne]; omega
      have e2 : ((b'.length : Int) + 1 == 0) = false := by rw [beq_eq_false_iff_ne]; omega
      rcases Int.lt_trichotomy x y with hxy | hxy | hxy
      · have hle : decide (x ≤ y) = true := by simp; omega
        have hge : decide (y ≤ x) = false := by simp; omega
        by_cases hc0 : ca' = 1
        all_goals
          go_wp2
          go_quiet (fail)
          go_wp2
          go_quiet (fail)
          go_wp2
          go_quiet (fail)
          cases hk : keep true false
          · go_wp2_with fail
            refine (HK.out _ _ _).mono ?_
            rintro e w' ⟨rfl, rfl⟩
            rw [hk]
            go_wp2
            go_roundw
            case rel => exact walkAt_mk (done2 := []) (a2 := a') (b2 := (y :: b')) H7.out (by rw [mergeW, if_pos hxy]; simp [hk]) (by simp only [List.length_cons, List.length_nil] at *; omega) (by simp only [List.length_cons, List.length_nil] at *; omega) (by omega) (by omega) (by first | exact t5.1 hc0 | exact t5.2 hc0) h6 (by simpa using h8.drewN _) h9 (by simp <;> omega) (below_drewN h10 _) (below_drewN (Below.refl _ _) _)
            case measure => simp [lenOf]
          · go_wp2_with fail
            refine (HK.out _ _ _).mono ?_
            rintro e w' ⟨rfl, rfl⟩
            rw [hk]
            go_wp2_with (at_builtin; refine wpList_push rfl _ _ _ rfl 3 _ 1 8 Try.underlying30 infoInt rfl (by decide) (by decide) rfl w.heap.size (fun _ => False) _ done rfl h8 x _ rfl rfl h10.size (by simp at h9; omega) ?_; intro v1 w1 hown1 hg1 hat1 hbel1)
            go_roundw
            case rel => exact walkAt_mk (done2 := [x]) (a2 := a') (b2 := (y :: b')) H7.out (by rw [mergeW, if_pos hxy]; simp [hk]) (by simp only [List.length_cons, List.length_nil] at *; omega) (by simp only [List.length_cons, List.length_nil] at *; omega) (by omega) (by omega) (by first | exact t5.1 hc0 | exact t5.2 hc0) h6 hown1 h9 (by simp <;> omega) (hbel1 _ (below_drewN h10 _)) (hbel1 _ (below_drewN (Below.refl _ _) _))
            case measure => simp [lenOf]
      · subst hxy
        have hle : decide (x ≤ x) = true := by simp
        by_cases hc0 : ca' = 1 <;> by_cases hc1 : cb' = 1
        all_goals
          go_wp2
          go_quiet (fail)
          go_wp2
          go_quiet (fail)
          go_wp2
          go_quiet (fail)
          go_wp2
          go_quiet (fail)
          cases hk : keep true true
          · go_wp2_with fail
            refine (HK.out _ _ _).mono ?_
            rintro e w' ⟨rfl, rfl⟩
            rw [hk]
            go_wp2
            go_roundw
            case rel => exact walkAt_mk (done2 := []) (a2 := a') (b2 := b') H7.out (by rw [mergeW, if_neg (by omega), if_neg (by omega)]; simp [hk]) (by simp only [List.length_cons, List.length_nil] at *; omega) (by simp only [List.length_cons, List.length_nil] at *; omega) (by omega) (by omega) (by first | exact t5.1 hc0 | exact t5.2 hc0) (by first | exact t6.1 hc1 | exact t6.2 hc1) (by simpa using h8.drewN _) h9 (by simp <;> omega) (below_drewN h10 _) (below_drewN (Below.refl _ _) _)
            case measure => simp [lenOf] <;> omega
          · go_wp2_with fail
            refine (HK.out _ _ _).mono ?_
            rintro e w' ⟨rfl, rfl⟩
            rw [hk]
            go_wp2_with (at_builtin; refine wpList_push rfl _ _ _ rfl 3 _ 1 8 Try.underlying30 infoInt rfl (by decide) (by decide) rfl w.heap.size (fun _ => False) _ done rfl h8 x _ rfl rfl h10.size (by simp at h9; omega) ?_; intro v1 w1 hown1 hg1 hat1 hbel1)
            go_roundw
            case rel => exact walkAt_mk (done2 := [x]) (a2 := a') (b2 := b') H7.out (by rw [mergeW, if_neg (by omega), if_neg (by omega)]; simp [hk]) (by simp only [List.length_cons, List.length_nil] at *; omega) (by simp only [List.length_cons, List.length_nil] at *; omega) (by omega) (by omega) (by first | exact t5.1 hc0 | exact t5.2 hc0) (by first | exact t6.1 hc1 | exact t6.2 hc1) hown1 h9 (by simp <;> omega) (hbel1 _ (below_drewN h10 _)) (hbel1 _ (below_drewN (Below.refl _ _) _))
            case measure => simp [lenOf] <;> omega
      · have hle : decide (x ≤ y) = false := by simp; omega
        have hge : decide (y ≤ x) = true := by simp; omega
        by_cases hc1 : cb' = 1
        all_goals
          go_wp2
          go_quiet (fail)
          go_wp2
          go_quiet (fail)
          go_wp2
          go_quiet (fail)
          cases hk : keep false true
          · go_wp2_with fail
            refine (HK.out _ _ _).mono ?_
            rintro e w' ⟨rfl, rfl⟩
            rw [hk]
            go_wp2
            go_roundw
            case rel => exact walkAt_mk (done2 := []) (a2 := (x :: a')) (b2 := b') H7.out (by rw [mergeW, if_neg (by omega), if_pos hxy]; simp [hk]) (by simp only [List.length_cons, List.length_nil] at *; omega) (by simp only [List.length_cons, List.length_nil] at *; omega) (by omega) (by omega) h5 (by first | exact t6.1 hc1 | exact t6.2 hc1) (by simpa using h8.drewN _) h9 (by simp <;> omega) (below_drewN h10 _) (below_drewN (Below.refl _ _) _)
            case measure => simp [lenOf]
          · go_wp2_with fail
            refine (HK.out _ _ _).mono ?_
            rintro e w' ⟨rfl, rfl⟩
            rw [hk]
            go_wp2_with (at_builtin; refine wpList_push rfl _ _ _ rfl 3 _ 1 8 Try.underlying30 infoInt rfl (by decide) (by decide) rfl w.heap.size (fun _ => False) _ done rfl h8 y _ rfl rfl h10.size (by simp at h9; omega) ?_; intro v1 w1 hown1 hg1 hat1 hbel1)
            go_roundw
            case rel => exact walkAt_mk (done2 := [y]) (a2 := (x :: a')) (b2 := b') H7.out (by rw [mergeW, if_neg (by omega), if_pos hxy]; simp [hk]) (by simp only [List.length_cons, List.length_nil] at *; omega) (by simp only [List.length_cons, List.length_nil] at *; omega) (by omega) (by omega) h5 (by first | exact t6.1 hc1 | exact t6.2 hc1) hown1 h9 (by simp <;> omega) (hbel1 _ (below_drewN h10 _)) (hbel1 _ (below_drewN (Below.refl _ _) _))
            case measure => simp [lenOf]

theorem Both_any (A B : Option Addr) (ca cb : Nat) (a b : List Int) (w : World) (hca : a.length ≤ ca) (hcb : b.length ≤ cb) (hma : ca ≤ maxLen) (hmb : cb ≤ maxLen)
    (ha : Row (Kn.int .i64) (fun _ => True) w A a) (hb : Row (Kn.int .i64) (fun _ => True) w B b) (hlen : (a.length + b.length) * 8 ≤ 140737488355328) :
    Calls Try.prog 49 #[.slice A a.length ca, .slice B b.length cb] w fun e w' =>
      ∃ v, e = .returned v ∧ Own (Kn.int .i64) 3 w.heap.size (fun _ => False) w' v (both a b) ∧ Below w.heap.size w w' := by
  have H := Lib.hid (walk_any (fun p q => p && q) 72 (enters_of Try.func72 (by kernel_rfl) rfl) both_fn A B ca cb a b w hca hcb hma hmb ha hb hlen)
  go_enter Try.func49, Try.ntmps49
  go_wp2_with fail
  refine H.out.mono ?_
  rintro e w' ⟨v, rfl, h1, h2⟩
  go_wp2
  go_ret
  exact ⟨v, rfl, h1, h2⟩
theorem Either_any (A B : Option Addr) (ca cb : Nat) (a b : List Int) (w : World) (hca : a.length ≤ ca) (hcb : b.length ≤ cb) (hma : ca ≤ maxLen) (hmb : cb ≤ maxLen)
    (ha : Row (Kn.int .i64) (fun _ => True) w A a) (hb : Row (Kn.int .i64) (fun _ => True) w B b) (hlen : (a.length + b.length) * 8 ≤ 140737488355328) :
    Calls Try.prog 24 #[.slice A a.length ca, .slice B b.length cb] w fun e w' =>
      ∃ v, e = .returned v ∧ Own (Kn.int .i64) 3 w.heap.size (fun _ => False) w' v (either a b) ∧ Below w.heap.size w w' := by
  have H := Lib.hid (walk_any (fun _ _ => true) 52 (enters_of Try.func52 (by kernel_rfl) rfl) either_fn A B ca cb a b w hca hcb hma hmb ha hb hlen)
  go_enter Try.func24, Try.ntmps24
  go_wp2_with fail
  refine H.out.mono ?_
  rintro e w' ⟨v, rfl, h1, h2⟩
  go_wp2
  go_ret
  exact ⟨v, rfl, h1, h2⟩
end Go.Proofs.Yteahpkihkfkpfaa
