/- slices.IsSorted, Clone at []string; query.rise. -/
import Derived.Test.YthinieokpgmfoaaSlUniq
import Derived.Test.YthinieokpgmfoaaSpread
import Derived.Test.YthinieokpgmfoaaStep
import Derived.Deep.RegionHeld3
import Derived.Deep.DeepFit
import Derived.Lib.SliceRun
set_option linter.unusedVariables false
set_option linter.unusedSimpArgs false
namespace Go.Proofs.Ythinieokpgmfoaa
open Go.RowKit Go.Sort

theorem infoS2 : (Try.prog.info? 9).map (fun i => (i.zero, i.size, i.bytes)) = some (some (.string ByteArray.empty), 1, 16) := by kernel_rfl
theorem less_eq2 (x y : ByteArray) : Op.bytesLess x.toList y.toList = decide (ltB x y) := by rw [Lib.toList_data, Lib.toList_data, bytesLess_eq]; rfl
theorem isNaNS_any (x : ByteArray) (w : World) : Calls Try.prog 102 #[.string x] w fun r w' => r = .returned (.bool false) ∧ w = w' := by
  have h : (x.toList == x.toList) = true := by simp
  go_enter Try.func102, Try.ntmps102
  go_wp2
  go_ret
  simp
theorem lessS_any (x y : ByteArray) (w : World) : Calls Try.prog 90 #[.string x, .string y] w fun r w' => r = .returned (.bool (decide (ltB x y))) ∧ w = w' := by
  have hl := less_eq2 x y
  go_enter Try.func90, Try.ntmps90
  go_wp2_with fail
  refine (isNaNS_any x _).mono ?_
  rintro r w' ⟨rfl, rfl⟩
  go_wp2
  go_ret
  exact ⟨rfl, rfl⟩
/-- Texts do not fall. -/
def leB2 (x y : ByteArray) : Prop := ¬ ltB y x
instance (x y : ByteArray) : Decidable (leB2 x y) := inferInstanceAs (Decidable (¬ ltB y x))
def SortedTo (l : List ByteArray) (m : Nat) : Prop := ∀ j (h : j + 1 < l.length), m ≤ j + 1 → leB2 l[j] l[j + 1]
theorem leB2_iff (x y : ByteArray) : leB2 x y ↔ x.data.toList ≤ y.data.toList := by
  unfold leB2 ltB
  exact List.not_lt
theorem sorted_pair {l : List ByteArray} (h : SortedTo l 0) : (toLs l).Pairwise (fun a b => a ≤ b) := by
  unfold toLs
  rw [List.pairwise_map]
  have hc : l.Pairwise (fun a b => a.data.toList ≤ b.data.toList) := by
    refine List.pairwise_iff_getElem.2 ?_
    intro i j hi hj hij
    obtain ⟨d, rfl⟩ : ∃ d, j = i + 1 + d := ⟨j - i - 1, by omega⟩
    induction d with
    | zero => exact (leB2_iff _ _).1 (h i (by omega) (by omega))
    | succ d ih =>
      exact List.le_trans (ih (by omega) (by omega)) ((leB2_iff _ _).1 (h (i + 1 + d) (by omega) (by omega)))
  exact hc

set_option maxHeartbeats 1000000 in
theorem isSortedS_any {A : Option Addr} {c : Nat} {l : List ByteArray} {w : World} (h : SlS w A c l) :
    Calls Try.prog 80 #[.slice A l.length c] w fun e w' => (∃ b, e = .returned (.bool b) ∧ (b = true ↔ SortedTo l 0)) ∧ Below w.heap.size w w' := by
  obtain ⟨h1, h2, h3⟩ := h
  unfold maxLen at h2
  go_enter Try.func80, Try.ntmps80
  go_wp2_with fail
  go_loopw [3] (fun i wr => ∃ k : Nat, k ≤ l.length ∧ i = .int .i64 ((k : Int) - 1) ∧ Hid (SortedTo l k) ∧ Below w.heap.size w wr) (fun i _ => (intOf i + 1).toNat)
  case atStart => exact ⟨l.length, Nat.le_refl _, rfl, Lib.hid (fun j hj hm => by omega), Below.refl _ _⟩
  case round =>
    obtain ⟨k, hk, rfl, hs, hb⟩ := hrel
    by_cases hk2 : 2 ≤ k
    · obtain ⟨j, rfl⟩ : ∃ j, k = j + 2 := ⟨k - 2, by omega⟩
      obtain ⟨n, hn⟩ : ∃ n, n = j + 1 := ⟨_, rfl⟩
      have ej : ((j + 2 : Nat) : Int) - 1 = (n : Int) := by omega
      rw [ej]
      have hj1 : j + 1 < l.length := by omega
      have ew : IntKind.i64.wrap ((n : Int) - 1) = (j : Int) := by rw [IntWalk.i64_in _ (by omega)]; omega
      have hj0 : j < l.length := by omega
      obtain ⟨ad, rfl, hx⟩ := row_str_at (h3.below hb) hj1
      obtain ⟨ad', e', hy⟩ := row_str_at (h3.below hb) hj0
      injection e' with e'
      subst e'
      have HST := Lib.hid (show (leB2 l[j] l[j + 1] → SortedTo l (j + 1)) from fun hle i hi hm => by
        rcases Nat.lt_or_ge j i with h | h
        · exact hs.out i hi (by omega)
        · obtain rfl : i = j := by omega
          exact hle)
      have HNO := Lib.hid (show (¬ leB2 l[j] l[j + 1] → ¬ SortedTo l 0) from fun hle hall => hle (hall j hj1 (by omega)))
      obtain ⟨x, hxe⟩ : ∃ x, l[j + 1] = x := ⟨_, rfl⟩
      obtain ⟨y, hye⟩ : ∃ y, l[j] = y := ⟨_, rfl⟩
      rw [hxe] at hx HST HNO
      rw [hye] at hy HST HNO
      have HX := Lib.hid hxe
      have HY := Lib.hid hye
      clear hxe hye
      have b1 : (0 : Int) ≤ (j : Int) := Int.natCast_nonneg _
      have b0 : (0 : Int) < (n : Int) := by omega
      have b2 : (n : Int) < (l.length : Int) := by omega
      rw [← hn] at hx
      have HN := Lib.hid hn
      have b3 : (j : Int) < (l.length : Int) := by omega
      have HK := Lib.hid (fun W (hW : Below wr.heap.size wr W) => show Below wr.heap.size wr W ∧ W.cell? (ad.add n) = some (.string x) ∧ W.cell? (ad.add j) = some (.string y) from
        ⟨hW, by obtain ⟨ad2, e2, h2⟩ := row_str_at (h3.below (bthen hb hW)) hj1; injection e2 with e2; subst e2; rw [HN.out, h2, HX.out], by obtain ⟨ad2, e2, h2⟩ := row_str_at (h3.below (bthen hb hW)) hj0; injection e2 with e2; subst e2; rw [h2, HY.out]⟩)
      have CL := Lib.hid (fun W => lessS_any x y W)
      have hd : decide (ltB x y) = true ∨ decide (ltB x y) = false := by cases decide (ltB x y) <;> simp
      clear hx hy ej hn
      go_upto_region 4 with fail
      rcases hd with hd | hd
      all_goals
        rw [hd] at CL
        have HD := Lib.hid hd
        clear hd
        go_region_held3 (fun W => Below wr.heap.size wr W ∧ W.cell? (ad.add n) = some (.string x) ∧ W.cell? (ad.add j) = some (.string y)) (first | exact HK.out _ (below_drawn (Below.refl _ _))) (first | (go_at_call 90; refine (CL.out _).mono ?_; rintro r w' ⟨rfl, rfl⟩))
      · go_wp2_with fail
        go_ret
        refine ⟨⟨false, rfl, ⟨(fun h => by cases h), fun h => ?_⟩⟩, below_drawn hb⟩
        exact absurd h (HNO.out (fun hle => hle (of_decide_eq_true HD.out)))
      · go_wp2_with fail
        go_roundw
        case rel => exact ⟨n, by omega, by have := HN.out; congr 1; omega, Lib.hid (by rw [HN.out]; exact HST.out (of_decide_eq_false HD.out)), below_drawn hb⟩
        case measure => have := HN.out; simp [intOf]; omega
    · go_wp2_with fail
      go_ret
      refine ⟨⟨true, rfl, ⟨fun _ j hj _ => hs.out j hj (by omega), fun _ => rfl⟩⟩, hb⟩
/-- A row of texts of the call's own, as cells. -/
theorem own_row {e : TypeId} {base : Nat} {ok : Nat → Prop} {w : World} {v : Value} {xs : List ByteArray} (h : Own Kn.str e base ok w v xs) : w.ownsRow base e 1 v xs.length (xs.map Value.string) := by
  obtain ⟨css, h1, h2, _, _, h5⟩ := h
  have : css.flatten = xs.map Value.string := by
    have hc : css = xs.map (fun s => [Value.string s]) := by
      refine List.ext_getElem? fun j => ?_
      rw [List.getElem?_map]
      rcases Nat.lt_or_ge j xs.length with hj | hj
      · obtain ⟨cs, hcs, hk⟩ := h5 j xs[j] (List.getElem?_eq_getElem hj)
        rw [hcs, List.getElem?_eq_getElem hj]
        have hk' : cs = [Value.string xs[j]] := hk
        rw [hk']; rfl
      · rw [List.getElem?_eq_none (by omega), List.getElem?_eq_none hj]; rfl
    rw [hc]
    clear h1 h2 h5 hc
    induction xs with
    | nil => rfl
    | cons y ys ih => simp only [List.map_cons, List.flatten_cons, ih]; rfl
  rw [this] at h1
  exact h1
set_option maxHeartbeats 1000000 in
theorem cloneS_any {A : Option Addr} {c : Nat} {l : List ByteArray} {w : World} (h : SlS w A c l) (hl : l.length ≤ 1000000) :
    Calls Try.prog 81 #[.slice A l.length c] w fun r w' => ∃ v, r = .returned v ∧ w'.ownsRow w.heap.size 9 1 v l.length (l.map Value.string) ∧ Below w.heap.size w w' := by
  have HO := Lib.hid (Own.lit0 Kn.str 9 w.heap.size (fun k => k < w.heap.size) w (Nat.le_refl _))
  have HR := Lib.hid (show Row Kn.str (fun k => k < w.heap.size ∧ some k ≠ (Value.slice (some ⟨w.heap.size, 0, none⟩) 0 0).ownBlock) (w.alloc (.cells #[] 9)) A l from
    (h.2.2.bound.below ((Below.refl _ _).alloc (Nat.le_refl _) _)).mono (fun k hk => ⟨hk.2, fun e1 => by have h2 := hk.2; simp [Value.ownBlock] at e1; omega⟩))
  have h3 := h.2.2
  cases A with
  | none =>
    have hn : l = [] := by
      cases l with
      | nil => rfl
      | cons y ys => obtain ⟨ad, e1, _⟩ := h3 (by simp); cases e1
    subst hn
    have hq := fun W => Lib.run_eql_slice_nil (P := Try.prog) W 25 _ none 0 c 0 0 Try.underlying25
    go_enter Try.func81, Try.ntmps81
    go_wp2_with fail
    go_ret
    exact ⟨_, rfl, World.ownsRow_nil _ _ _ _, Below.refl _ _⟩
  | some ad =>
    clear h h3
    have hq := fun W => Lib.run_eql_slice_nil (P := Try.prog) W 25 _ (some ad) l.length c 0 0 Try.underlying25
    go_enter Try.func81, Try.ntmps81
    go_wp2_with (at_builtin; refine wpList_spread rfl _ _ _ rfl 9 _ 1 16 Try.underlying25 infoS2 rfl (by decide) (by decide) rfl w.heap.size (fun k => k < w.heap.size) _ [] rfl HO.out l (some ad) c HR.out rfl (by simp) (by simp; omega) ?_; intro v1 w1 hown1 hg1 hat1 hbel1; have HO1 := Lib.hid (show Own Kn.str 9 w.heap.size (fun k => k < w.heap.size) w1 v1 l from hown1); have HB1 := Lib.hid (hbel1 w ((Below.refl _ _).alloc (Nat.le_refl _) _)); clear hown1 hg1 hat1 hbel1)
    obtain ⟨A', c', hv, hs⟩ := HO1.out.sl
    subst hv
    go_wp2
    go_ret
    exact ⟨_, rfl, own_row HO1.out, HB1.out⟩
/-- Whether texts rise. -/
def riseN (l : List ByteArray) : Bool := decide (l.Pairwise ltB)
theorem riseN_iff (l : List ByteArray) : riseN l = true ↔ l.Pairwise ltB := by unfold riseN; simp
theorem compact_len {zs : List (List UInt8)} (h : zs.Pairwise (fun a b => a ≤ b)) : (Lib.compact zs).length = zs.length ↔ zs.Pairwise (fun a b => a < b) := by
  constructor
  · intro hl
    have : Lib.compact zs = zs := by
      refine Lib.compact_all zs fun j hj => ?_
      unfold Lib.compact Lib.compactUpTo at hl
      rw [List.length_map] at hl
      have h2 : ((List.range zs.length).filter (Lib.keeps zs.toArray)).length = (List.range zs.length).length := by rw [hl, List.length_range]
      exact List.length_filter_eq_length_iff.1 h2 j (List.mem_range.2 hj)
    rw [← this]
    exact compact_lt h
  · intro hp
    have : Lib.compact zs = zs := by
      refine Lib.compact_all zs fun j hj => ?_
      simp only [Lib.keeps, decide_eq_true_eq]
      by_cases h0 : j = 0
      · exact .inl h0
      · refine .inr ?_
        simp only [getElem!_pos, List.size_toArray, hj, show j - 1 < zs.length by omega, List.getElem_toArray]
        intro e
        have := List.pairwise_iff_getElem.1 hp (j - 1) j (by omega) hj (by omega)
        rw [e] at this
        exact List.lt_irrefl _ this
    rw [this]
theorem rise_toLs (l : List ByteArray) : (toLs l).Pairwise (fun a b => a < b) ↔ l.Pairwise ltB := by
  unfold toLs; rw [List.pairwise_map]; exact Iff.rfl
theorem rise_sorted {l : List ByteArray} (h : l.Pairwise ltB) : SortedTo l 0 := fun j hj _ hlt => ltB_irrefl _ (ltB_trans (List.pairwise_iff_getElem.1 h j (j + 1) (by omega) hj (by omega)) hlt)

set_option maxHeartbeats 1000000 in
theorem riseQ_any {A : Option Addr} {c : Nat} {l : List ByteArray} {w : World} (h : SlS w A c l) (hl : l.length ≤ 1000000) :
    Calls Try.prog 66 #[.slice A l.length c] w fun r w' => r = .returned (.bool (riseN l)) ∧ Below w.heap.size w w' := by
  have CS := Lib.hid (isSortedS_any h)
  have CC := Lib.hid (fun W (hb : Below w.heap.size w W) => cloneS_any (h.below hb) hl)
  have hll := l.length
  by_cases hr : SortedTo l 0
  · have hz : (toLs l).length = l.length := by simp [toLs]
    have hcl := compact_len (sorted_pair hr)
    rw [rise_toLs, hz] at hcl
    have hrl : riseN l = decide ((Lib.compact (toLs l)).length = l.length) := by unfold riseN; exact decide_eq_decide.2 hcl.symm
    rw [hrl]
    have CS := Lib.hid (show Calls Try.prog 80 #[.slice A l.length c] w fun e w' => e = .returned (.bool true) ∧ Below w.heap.size w w' from CS.out.mono (fun e w' ⟨⟨b, e1, h1⟩, h2⟩ => ⟨by rw [e1, h1.2 hr], h2⟩))
    have hzl : (toLs l).length ≤ 1000000 := by omega
    have HZ := Lib.hid hz
    have CC := Lib.hid (fun W (hb : Below w.heap.size w W) => show Calls Try.prog 81 #[.slice A l.length c] W fun r w' => ∃ v, r = .returned v ∧ w'.ownsRow W.heap.size 9 1 v (toLs l).length ((toLs l).map encStr) ∧ Below W.heap.size W w' from by
      have := CC.out W hb
      rw [enc_toLs] at this
      rw [hz]
      exact this)
    have CM := Lib.hid (fun (W : World) (B : Nat) (v : Value) (h : W.ownsRow B 9 1 v (toLs l).length ((toLs l).map encStr)) => show Calls Try.prog 45 #[v] W fun e w' => ∃ A' c', e = .returned (.slice A' (Lib.compact (toLs l)).length c') ∧ ∀ w0, Below w0.heap.size w0 W → w0.heap.size ≤ B → Below w0.heap.size w0 w' from by
      refine (callsIn_wide (n := 8)).1 ((compact_any (m := 8) h hzl).mono ?_)
      rintro e w' ⟨v', rfl, hrow, hb⟩
      have hlen : (Lib.compact (toLs l)).length = ((Lib.compact (toLs l)).map ofL).length := by simp
      obtain ⟨A', c', rfl, _⟩ := sl_of_row (l := (Lib.compact (toLs l)).map ofL) hlen (by rw [enc_toLs, toLs_ofL]; exact hrow)
      exact ⟨A', c', by rw [← hlen], hb⟩)
    have hbo : (((Lib.compact (toLs l)).length : Int) == (l.length : Int)) = decide ((Lib.compact (toLs l)).length = l.length) := by
      rw [Bool.eq_iff_iff, beq_iff_eq, decide_eq_true_iff]; omega
    generalize (Lib.compact (toLs l)).length = n at *
    generalize hdn : decide (n = l.length) = b at *
    clear hr hcl hrl hz hzl hdn hll
    go_enter Try.func66, Try.ntmps66
    go_wp2_with (first
      | (go_at_call 45; go_fit (CM.out _ _ _ HR.out); rintro e w3 ⟨A3, c3, rfl, hb3⟩)
      | (go_at_call 81; go_fit (CC.out _ HB1.out); rintro e w2 ⟨v, rfl, hrow, hb2⟩; have HR := Lib.hid hrow; have HB2 := Lib.hid hb2; clear hrow hb2)
      | (go_at_call 80; go_fit CS.out; rintro e w1 ⟨rfl, hb⟩; have HB1 := Lib.hid hb; clear hb))
    go_ret
    exact ⟨rfl, hb3 w (bthen HB1.out HB2.out) HB1.out.size⟩
  · have hrl : riseN l = false := by
      rw [Bool.eq_false_iff]
      intro h2
      exact hr (rise_sorted ((riseN_iff l).1 h2))
    rw [hrl]
    have CS := Lib.hid (show Calls Try.prog 80 #[.slice A l.length c] w fun e w' => e = .returned (.bool false) ∧ Below w.heap.size w w' from CS.out.mono (fun e w' ⟨⟨b, e1, h1⟩, h2⟩ => ⟨by
      rw [e1]
      cases b with
      | false => rfl
      | true => exact absurd (h1.1 rfl) hr, h2⟩))
    clear hr hrl CC hll
    go_enter Try.func66, Try.ntmps66
    go_wp2_with (go_at_call 80; go_fit CS.out; rintro e w1 ⟨rfl, hb⟩)
    go_ret
    exact ⟨rfl, hb⟩
end Go.Proofs.Ythinieokpgmfoaa
