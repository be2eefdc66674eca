/- slices.Clone at []int; (*streams.Table).Positions. -/
import Derived.Test.YteahpkihkfkpfaaTabVersion
import Derived.Test.YteahpkihkfkpfaaSpread
import Derived.Test.YteahpkihkfkpfaaStep
import Derived.Deep.RegionHeld3
import Derived.Lib.SliceRun
set_option linter.unusedVariables false
set_option linter.unusedSimpArgs false
namespace Go.Proofs.Yteahpkihkfkpfaa
open Go.RowKit Go.Maps

set_option maxHeartbeats 1000000 in
theorem cloneInts_any {A : Option Addr} {c : Nat} {l : List Int} {w : World} (h : Sl (Kn.int .i64) (fun _ => True) w A c l) (hl : l.length ≤ 1000000) :
    Calls Try.prog 48 #[.slice A l.length c] w fun r w' => ∃ A' c', r = .returned (.slice A' l.length c') ∧ Sl (Kn.int .i64) (fun k => w.heap.size ≤ k) w' A' c' l ∧ Below w.heap.size w w' := by
  have HO := Lib.hid (Own.lit0 (Kn.int .i64) 3 w.heap.size (fun k => k < w.heap.size) w (Nat.le_refl _))
  have HR := Lib.hid (show Row (Kn.int .i64) (fun k => k < w.heap.size ∧ some k ≠ (Value.slice (some ⟨w.heap.size, 0, none⟩) 0 0).ownBlock) (w.alloc (.cells #[] 3)) A l from
    (h.2.2.bound.below ((Below.refl _ _).alloc (Nat.le_refl _) _)).mono (fun k hk => ⟨hk.2, fun e1 => by have h2 := hk.2; simp [Value.ownBlock] at e1; omega⟩))
  have h3 := h.2.2
  cases A with
  | none =>
    have hn : l = [] := by
      cases l with
      | nil => rfl
      | cons y ys => obtain ⟨ad, e1, _⟩ := h3 (by simp); cases e1
    subst hn
    have hq := fun W => Lib.run_eql_slice_nil (P := Try.prog) W 30 _ none 0 c 0 0 Try.underlying30
    go_enter Try.func48, Try.ntmps48
    go_wp2_with fail
    go_ret
    exact ⟨none, 0, rfl, Sl.nil_, Below.refl _ _⟩
  | some ad =>
    clear h h3
    have hq := fun W => Lib.run_eql_slice_nil (P := Try.prog) W 30 _ (some ad) l.length c 0 0 Try.underlying30
    go_enter Try.func48, Try.ntmps48
    go_wp2_with (at_builtin; refine wpList_spread rfl _ _ _ rfl 3 _ 1 8 Try.underlying30 infoInt rfl (by decide) (by decide) rfl w.heap.size (fun k => k < w.heap.size) _ [] rfl HO.out l (some ad) c HR.out rfl (by simp) (by simp; omega) ?_; intro v1 w1 hown1 hg1 hat1 hbel1; have HO1 := Lib.hid (show Own (Kn.int .i64) 3 w.heap.size (fun _ => False) w1 v1 l from hown1); have HB1 := Lib.hid (hbel1 w ((Below.refl _ _).alloc (Nat.le_refl _) _)); clear hown1 hg1 hat1 hbel1)
    obtain ⟨A', c', rfl, hs⟩ := HO1.out.sl
    go_wp2
    go_ret
    exact ⟨A', c', rfl, hs.mono (fun k hk => hk.elim False.elim id), HB1.out⟩

theorem upTo_le (l : List Int) (x : Int) : upTo l x ≤ l.length := List.length_filter_le _ _
set_option maxHeartbeats 1000000 in
theorem Positions_any {w : World} {b m N : Nat} {D : DataW Value} {last : Int} {f : ByteArray → List Int} {X : Nat → Prop} (h : Tb w b m N D last f X) (hN : N ≤ 900000) {s : ByteArray} (hs : s.size ≤ maxLen) (x : Int) :
    Calls Try.prog 18 #[.pointer (some ⟨b, 0, none⟩), .string s, .int .i64 x] w fun r w' =>
      ∃ A' c', r = .returned (.slice A' ((f s).take (upTo (f s) x)).length c') ∧ Sl (Kn.int .i64) (fun k => w.heap.size ≤ k) w' A' c' ((f s).take (upTo (f s) x)) ∧ Below w.heap.size w w' := by
  obtain ⟨A, c, hat, _, hsl, _⟩ := h.mp.look Try.underlying77 hs
  have hlen := h.len s
  have hc1 := hsl.1
  have hc2 := hsl.2.1
  unfold maxLen at hc2
  have HV := Lib.hid (fun W (hW : Below w.heap.size w W) => Version_any (h.below hW) (by omega) hs x)
  have hul := upTo_le (f s) x
  have HT := Lib.hid (fun W (hW : Below w.heap.size w W) => cloneInts_any (l := (f s).take (upTo (f s) x)) ((hsl.below hW).any.take _) (by rw [List.length_take]; omega))
  have hlt : ((f s).take (upTo (f s) x)).length = upTo (f s) x := by rw [List.length_take]; omega
  rw [hlt] at HT ⊢
  generalize hne : upTo (f s) x = n at *
  have HK : Hid (∀ W, Below w.heap.size w W → Below w.heap.size w W ∧ W.cell? ⟨b, 1, none⟩ = some (.map (some m)) ∧ (Instr.lookup 77 (.map (some m)) (.string s) false).run Try.prog W = .ok (.slice A (f s).length c) W) :=
    Lib.hid (fun W hW => ⟨hW, (h.bx.under hW).cell 1, (h.below hW).mp.look_at Try.underlying77 hs hat⟩)
  have C1 : Hid (∀ W, Below w.heap.size w W ∧ W.cell? ⟨b, 1, none⟩ = some (.map (some m)) ∧ (Instr.lookup 77 (.map (some m)) (.string s) false).run Try.prog W = .ok (.slice A (f s).length c) W → Calls Try.prog 16 #[.pointer (some ⟨b, 0, none⟩), .string s, .int .i64 x] W fun r w' => r = .returned (.int .i64 n) ∧ W = w') := Lib.hid (fun W hW => HV.out W hW.1)
  have C2 : Hid (∀ W, Below w.heap.size w W ∧ W.cell? ⟨b, 1, none⟩ = some (.map (some m)) ∧ (Instr.lookup 77 (.map (some m)) (.string s) false).run Try.prog W = .ok (.slice A (f s).length c) W → Calls Try.prog 48 #[.slice A n c] W fun r w' => (∃ A' c', r = .returned (.slice A' n c') ∧ Sl (Kn.int .i64) (fun k => W.heap.size ≤ k) w' A' c' ((f s).take n)) ∧ Below W.heap.size W w') :=
    Lib.hid (fun W hW => (HT.out W hW.1).mono (fun r w' ⟨A', c', h1, h2, h3⟩ => ⟨⟨A', c', h1, h2⟩, h3⟩))
  have hz1 : (0 : Int) ≤ (n : Int) := Int.natCast_nonneg n
  have hz2 : (n : Int) ≤ (c : Int) := by omega
  have hz3 : n ≤ c := by omega
  clear HV HT h hsl
  go_enter Try.func18, Try.ntmps18
  go_wp2_with fail
  go_region_held3 (fun W => Below w.heap.size w W ∧ W.cell? ⟨b, 1, none⟩ = some (.map (some m)) ∧ (Instr.lookup 77 (.map (some m)) (.string s) false).run Try.prog W = .ok (.slice A (f s).length c) W) (first | exact HK.out _ (below_drawn (Below.refl _ _)) | (assumption) | exact HK.out _ (bthen (And.left (by assumption : Below w.heap.size w _ ∧ _)) (by assumption))) (first | (go_at_call 16; refine (C1.out _ (by assumption)).mono ?_; rintro r w' ⟨rfl, rfl⟩) | (go_at_call 48; refine (C2.out _ (by assumption)).mono ?_; rintro r w' ⟨⟨A', c', rfl, hsl'⟩, hb⟩; have HSL := Lib.hid hsl'; clear hsl'))
  all_goals go_wp2
  all_goals go_ret
  all_goals exact ⟨A', c', rfl, HSL.out.mono (fun k hk => hk), And.left (by assumption : Below w.heap.size w w' ∧ _)⟩
end Go.Proofs.Yteahpkihkfkpfaa
