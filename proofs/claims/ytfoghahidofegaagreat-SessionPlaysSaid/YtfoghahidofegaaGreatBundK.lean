/- slices.IndexFunc, ContainsFunc at []string and []api.Clause, query.some: a function value need be known at the elements alone. query.sorted: texts rising, each once. slices.IsSorted, Clone at []string; query.rise. slices.Equal at []string, slices.EqualFunc at []api.Clause, query.Same. query.May. A query of at most 8 clauses, of 8 tags and 8 types each: plain, and its state. query.Norm. Queries that may be: plain facts. Guards and sessions: plain facts. guard.May, guard.keyOf (walks). slices.Clone at []api.Guard; guard.Add's closure (walks). guard.Add (walk). -/
import Derived.Test.YtfoghahidofegaaGreatBundC
import Derived.Test.YtfoghahidofegaaGreatBundA
import Derived.Test.YtfoghahidofegaaGreatBundN
import Derived.Deep.RegionHeld3
import Derived.Deep.DeepFit
import Derived.Lib.SliceRun
import Derived.RangeFuncOwn
import Derived.Test.YtfoghahidofegaaGreatBundG
import Derived.Test.YtfoghahidofegaaGreatBundI
set_option linter.unusedVariables false
set_option linter.unusedSimpArgs false
namespace Go.Proofs.YtfoghahidofegaaGreat
open Go.RowKit

def PredC1 (g : Nat) (lb : Array Value) (p : Clause → Bool) (w : World) (x : Clause) : Prop := ∀ (S T : Option Addr) (sa ta : Nat) (W : World), Below w.heap.size w W → SlS W S sa x.tags → SlS W T ta x.types →
  Calls Tryz.prog g (#[.agg #[.slice S x.tags.length sa, .slice T x.types.length ta]] ++ lb) W fun e w' => e = .returned (.bool (p x)) ∧ Below W.heap.size W w'

set_option maxHeartbeats 400000 in
theorem indexFuncC_in {A : Option Addr} {c : Nat} {xs : List Clause} {w : World} (h : SlC w A c xs) (g : Nat) (lb : Array Value) (p : Clause → Bool) (eg : ∀ (args : Array Value) (W : World), (callFunc g args).run Tryz.prog W = .ok (.enter g args) W) (hp : ∀ x ∈ xs, PredC1 g lb p w x) :
    Calls Tryz.prog 165 #[.slice A xs.length c, .func (.func g) #[] lb] w fun e w' => ∃ i : Int, e = .returned (.int .i64 i) ∧ Below w.heap.size w w' ∧ -1 ≤ i ∧ decide (0 ≤ i) = xs.any p := by
  obtain ⟨h1, h2, h3⟩ := h
  unfold maxLen at h2
  have HP := Lib.hid hp
  clear hp
  go_enter Tryz.func165, Tryz.ntmps165
  go_wp2
  go_loopw [8] (fun i wr => ∃ k : Nat, k ≤ xs.length ∧ i = .int .i64 k ∧ Hid ((xs.take k).any p = false) ∧ Below w.heap.size w wr) (fun i _ => xs.length - (intOf i).toNat)
  case atStart => exact ⟨0, Nat.zero_le _, rfl, by exact rfl, Below.refl _ _⟩
  case round =>
    obtain ⟨k, hk, rfl, hn, hb⟩ := hrel
    by_cases hlt : k < xs.length
    · obtain ⟨ad, S, sa, T, ta, rfl, hx, hy, hS, hT⟩ := row_clause_at (h3.below hb) hlt
      have hmem := List.getElem_mem hlt
      generalize hye : xs[k] = y at hx hy hS hT hmem
      have HM := Lib.hid hmem
      clear hmem
      have HY := Lib.hid hye
      clear hye
      go_wp2_with fail
      refine (HP.out y HM.out S T sa ta wr hb ⟨hS.1, hS.2.1, hS.2.2⟩ hT).mono ?_
      rintro e w1 ⟨rfl, hb1⟩
      cases hpy : p y
      · go_wp2
        go_roundw
        case rel => exact ⟨k + 1, by omega, by go_num, by show _ = false; rw [any_take_succ _ _ _ hlt, hn.out, HY.out, hpy]; rfl, bthen hb hb1⟩
        case measure => simp [intOf]; omega
      · go_wp2
        go_ret
        exact ⟨k, rfl, bthen hb hb1, by omega, by rw [any_of_at hlt (by rw [HY.out]; exact hpy)]; simp⟩
    · go_wp2
      go_ret
      obtain rfl : k = xs.length := by omega
      have h4 : (xs.take xs.length).any p = false := hn.out
      rw [List.take_length] at h4
      exact ⟨-1, rfl, hb, by omega, by rw [h4]; rfl⟩

theorem containsFuncC_in {A : Option Addr} {c : Nat} {xs : List Clause} {w : World} (h : SlC w A c xs) (g : Nat) (lb : Array Value) (p : Clause → Bool) (eg : ∀ (args : Array Value) (W : World), (callFunc g args).run Tryz.prog W = .ok (.enter g args) W) (hp : ∀ x ∈ xs, PredC1 g lb p w x) :
    Calls Tryz.prog 155 #[.slice A xs.length c, .func (.func g) #[] lb] w fun e w' => e = .returned (.bool (xs.any p)) ∧ Below w.heap.size w w' := by
  have H := Lib.hid (indexFuncC_in h g lb p eg hp)
  clear hp
  go_enter Tryz.func155, Tryz.ntmps155
  go_wp2_with fail
  refine H.out.mono ?_
  rintro e w' ⟨i, rfl, hb, h1, h2⟩
  have H2 := Lib.hid h2
  clear h2
  go_wp2
  go_ret
  exact ⟨ret_bool H2.out, hb⟩

theorem some_in {A : Option Addr} {c : Nat} {xs : List Clause} {w : World} (h : SlC w A c xs) (g : Nat) (lb : Array Value) (p : Clause → Bool) (eg : ∀ (args : Array Value) (W : World), (callFunc g args).run Tryz.prog W = .ok (.enter g args) W) (hp : ∀ x ∈ xs, PredC1 g lb p w x) :
    Calls Tryz.prog 135 #[.agg #[.slice A xs.length c], .func (.func g) #[] lb] w fun e w' => e = .returned (.bool (xs.any p)) ∧ Below w.heap.size w w' := by
  have H := Lib.hid (fun (o : Obj) => containsFuncC_in (h.alloc o) g lb p eg (fun x hx S T sa ta W hb => hp x hx S T sa ta W (bthen ((Below.refl _ _).alloc (Nat.le_refl _) o) hb)))
  clear hp
  go_enter Tryz.func135, Tryz.ntmps135
  go_wp2_with fail
  refine (H.out _).mono ?_
  rintro r w' ⟨rfl, hb⟩
  go_wp2
  go_ret
  exact ⟨rfl, bthen ((Below.refl _ _).alloc (Nat.le_refl _) _) hb⟩
end Go.Proofs.YtfoghahidofegaaGreat

namespace Go.Proofs.YtfoghahidofegaaGreat
open Go.RowKit Go.Sort

set_option maxHeartbeats 2000000 in
theorem qsorted_any {w : World} {ok : Nat → Prop} {A : Option Addr} {c : Nat} {l : List ByteArray} (h : Sl Kn.str ok w A c l) (hl : l.length ≤ 1000000) :
    Calls Tryz.prog 106 #[.slice A l.length c] w fun r w' => ∃ A' c', r = .returned (.slice A' (uniq l).length c') ∧ Sl Kn.str (fun k => w.heap.size ≤ k) w' A' c' (uniq l) ∧ Below w.heap.size w w' := by
  refine (callsIn_wide (n := 9)).1 ?_
  obtain ⟨W1, hW1⟩ : ∃ W1, W1 = w.alloc (.cells #[.slice A l.length c] 39) := ⟨_, rfl⟩
  have hB1 : Below w.heap.size w W1 := by rw [hW1]; exact (Below.refl _ _).alloc (Nat.le_refl _) _
  have hs1 : W1.heap.size = w.heap.size + 1 := by rw [hW1]; simp
  have hc1 : W1.cell? ⟨w.heap.size, 0, none⟩ = some (.slice A l.length c) := by rw [hW1]; simp
  have hx1 : Sl Kn.str (fun j => j < W1.heap.size) W1 A c l := ((show Sl Kn.str _ w A c l from ⟨h.1, h.2.1, h.2.2.bound⟩).below hB1).mono (fun k hk => by have := hk.2; omega)
  have cV := values_in Fence.wide 8 trivial rfl A l.length c w
  rw [← hW1] at cV
  have cS := sortedV_in Fence.wide 8 trivial trivial trivial trivial trivial rfl (by omega) (sorts_here 7) w.heap.size A c l W1 (by omega) hc1 hx1 hl
  have hz : (srtL l).length = l.length := srtL_len l
  rw [← hz] at cS
  rw [hz] at cS
  have HB1 := Lib.hid hB1
  have HZ := Lib.hid hz
  have HS1 := Lib.hid hs1
  clear hW1 h hx1 hB1 hc1 hz hs1
  unfold uniq
  generalize srtL l = zs at *
  have hfV : Fence.wide.fn 120 := trivial
  have hfS : Fence.wide.fn 119 := trivial
  have hfC : Fence.wide.fn 118 := trivial
  refine callsIn_of_wp Tryz.func106 rfl trivial ?_ rfl
  simp only [Tryz.ntmps106, List.size_toArray, List.length_cons, List.length_nil, Nat.reduceAdd, Nat.reduceSub, Array.replicate_succ, Array.replicate_zero, List.push_toArray, List.append_toArray, List.nil_append, List.cons_append]
  gi_wp2_with (first
    | (gi_at_call 120; refine cV.mono ?_; rintro e w1 ⟨rfl, rfl⟩)
    | (gi_at_call 119; refine cS.mono ?_; rintro e w2 ⟨v, rfl, hrow, hb2⟩; rw [← HZ.out] at hrow; have HB2 := Lib.hid hb2; have cC := compact_any (m := 8) hrow (by rw [HZ.out]; exact hl); clear hrow hb2)
    | (gi_at_call 118; refine cC.mono ?_; rintro e w3 ⟨v', rfl, hrow, hb3⟩))
  go_ret
  have hlen : (Lib.compact zs).length = ((Lib.compact zs).map ofL).length := by simp
  obtain ⟨A', c', rfl, hs⟩ := sl_of_row (l := (Lib.compact zs).map ofL) hlen (by rw [enc_toLs, toLs_ofL]; exact hrow)
  exact ⟨A', c', rfl, hs.mono (fun k hk => by have := HB1.out.size; omega), hb3 w (bthen HB1.out HB2.out) HB1.out.size⟩
end Go.Proofs.YtfoghahidofegaaGreat

namespace Go.Proofs.YtfoghahidofegaaGreat
open Go.RowKit Go.Sort

theorem isNaNS_any (x : ByteArray) (w : World) : Calls Tryz.prog 179 #[.string x] w fun r w' => r = .returned (.bool false) ∧ w = w' := by
  have h : (x.toList == x.toList) = true := by simp
  go_enter Tryz.func179, Tryz.ntmps179
  go_wp2
  go_ret
  simp
theorem lessS_any (x y : ByteArray) (w : World) : Calls Tryz.prog 166 #[.string x, .string y] w fun r w' => r = .returned (.bool (decide (ltB x y))) ∧ w = w' := by
  have hl := less_eq2 x y
  go_enter Tryz.func166, Tryz.ntmps166
  go_wp2_with fail
  refine (isNaNS_any x _).mono ?_
  rintro r w' ⟨rfl, rfl⟩
  go_wp2
  go_ret
  exact ⟨rfl, rfl⟩
/-- Texts do not fall. -/
def leB2 (x y : ByteArray) : Prop := ¬ ltB y x
instance (x y : ByteArray) : Decidable (leB2 x y) := inferInstanceAs (Decidable (¬ ltB y x))
def SortedTo (l : List ByteArray) (m : Nat) : Prop := ∀ j (h : j + 1 < l.length), m ≤ j + 1 → leB2 l[j] l[j + 1]
theorem leB2_iff (x y : ByteArray) : leB2 x y ↔ x.data.toList ≤ y.data.toList := by
  unfold leB2 ltB
  exact List.not_lt
theorem sorted_pair {l : List ByteArray} (h : SortedTo l 0) : (toLs l).Pairwise (fun a b => a ≤ b) := by
  unfold toLs
  rw [List.pairwise_map]
  have hc : l.Pairwise (fun a b => a.data.toList ≤ b.data.toList) := by
    refine List.pairwise_iff_getElem.2 ?_
    intro i j hi hj hij
    obtain ⟨d, rfl⟩ : ∃ d, j = i + 1 + d := ⟨j - i - 1, by omega⟩
    induction d with
    | zero => exact (leB2_iff _ _).1 (h i (by omega) (by omega))
    | succ d ih =>
      exact List.le_trans (ih (by omega) (by omega)) ((leB2_iff _ _).1 (h (i + 1 + d) (by omega) (by omega)))
  exact hc

set_option maxHeartbeats 1000000 in
theorem isSortedS_any {A : Option Addr} {c : Nat} {l : List ByteArray} {w : World} (h : SlS w A c l) :
    Calls Tryz.prog 156 #[.slice A l.length c] w fun e w' => (∃ b, e = .returned (.bool b) ∧ (b = true ↔ SortedTo l 0)) ∧ Below w.heap.size w w' := by
  obtain ⟨h1, h2, h3⟩ := h
  unfold maxLen at h2
  go_enter Tryz.func156, Tryz.ntmps156
  go_wp2_with fail
  go_loopw [3] (fun i wr => ∃ k : Nat, k ≤ l.length ∧ i = .int .i64 ((k : Int) - 1) ∧ Hid (SortedTo l k) ∧ Below w.heap.size w wr) (fun i _ => (intOf i + 1).toNat)
  case atStart => exact ⟨l.length, Nat.le_refl _, rfl, Lib.hid (fun j hj hm => by omega), Below.refl _ _⟩
  case round =>
    obtain ⟨k, hk, rfl, hs, hb⟩ := hrel
    by_cases hk2 : 2 ≤ k
    · obtain ⟨j, rfl⟩ : ∃ j, k = j + 2 := ⟨k - 2, by omega⟩
      obtain ⟨n, hn⟩ : ∃ n, n = j + 1 := ⟨_, rfl⟩
      have ej : ((j + 2 : Nat) : Int) - 1 = (n : Int) := by omega
      rw [ej]
      have hj1 : j + 1 < l.length := by omega
      have ew : IntKind.i64.wrap ((n : Int) - 1) = (j : Int) := by rw [IntWalk.i64_in _ (by omega)]; omega
      have hj0 : j < l.length := by omega
      obtain ⟨ad, rfl, hx⟩ := row_str_at (h3.below hb) hj1
      obtain ⟨ad', e', hy⟩ := row_str_at (h3.below hb) hj0
      injection e' with e'
      subst e'
      have HST := Lib.hid (show (leB2 l[j] l[j + 1] → SortedTo l (j + 1)) from fun hle i hi hm => by
        rcases Nat.lt_or_ge j i with h | h
        · exact hs.out i hi (by omega)
        · obtain rfl : i = j := by omega
          exact hle)
      have HNO := Lib.hid (show (¬ leB2 l[j] l[j + 1] → ¬ SortedTo l 0) from fun hle hall => hle (hall j hj1 (by omega)))
      obtain ⟨x, hxe⟩ : ∃ x, l[j + 1] = x := ⟨_, rfl⟩
      obtain ⟨y, hye⟩ : ∃ y, l[j] = y := ⟨_, rfl⟩
      rw [hxe] at hx HST HNO
      rw [hye] at hy HST HNO
      have HX := Lib.hid hxe
      have HY := Lib.hid hye
      clear hxe hye
      have b1 : (0 : Int) ≤ (j : Int) := Int.natCast_nonneg _
      have b0 : (0 : Int) < (n : Int) := by omega
      have b2 : (n : Int) < (l.length : Int) := by omega
      rw [← hn] at hx
      have HN := Lib.hid hn
      have b3 : (j : Int) < (l.length : Int) := by omega
      have HK := Lib.hid (fun W (hW : Below wr.heap.size wr W) => show Below wr.heap.size wr W ∧ W.cell? (ad.add n) = some (.string x) ∧ W.cell? (ad.add j) = some (.string y) from
        ⟨hW, by obtain ⟨ad2, e2, h2⟩ := row_str_at (h3.below (bthen hb hW)) hj1; injection e2 with e2; subst e2; rw [HN.out, h2, HX.out], by obtain ⟨ad2, e2, h2⟩ := row_str_at (h3.below (bthen hb hW)) hj0; injection e2 with e2; subst e2; rw [h2, HY.out]⟩)
      have CL := Lib.hid (fun W => lessS_any x y W)
      have hd : decide (ltB x y) = true ∨ decide (ltB x y) = false := by cases decide (ltB x y) <;> simp
      clear hx hy ej hn
      go_upto_region 4 with fail
      rcases hd with hd | hd
      all_goals
        rw [hd] at CL
        have HD := Lib.hid hd
        clear hd
        go_region_held3 (fun W => Below wr.heap.size wr W ∧ W.cell? (ad.add n) = some (.string x) ∧ W.cell? (ad.add j) = some (.string y)) (first | exact HK.out _ (below_drawn (Below.refl _ _))) (first | (go_at_call 166; refine (CL.out _).mono ?_; rintro r w' ⟨rfl, rfl⟩))
      · go_wp2_with fail
        go_ret
        refine ⟨⟨false, rfl, ⟨(fun h => by cases h), fun h => ?_⟩⟩, below_drawn hb⟩
        exact absurd h (HNO.out (fun hle => hle (of_decide_eq_true HD.out)))
      · go_wp2_with fail
        go_roundw
        case rel => exact ⟨n, by omega, by have := HN.out; congr 1; omega, Lib.hid (by rw [HN.out]; exact HST.out (of_decide_eq_false HD.out)), below_drawn hb⟩
        case measure => have := HN.out; simp [intOf]; omega
    · go_wp2_with fail
      go_ret
      refine ⟨⟨true, rfl, ⟨fun _ j hj _ => hs.out j hj (by omega), fun _ => rfl⟩⟩, hb⟩
/-- A row of texts of the call's own, as cells. -/
theorem own_row {e : TypeId} {base : Nat} {ok : Nat → Prop} {w : World} {v : Value} {xs : List ByteArray} (h : Own Kn.str e base ok w v xs) : w.ownsRow base e 1 v xs.length (xs.map Value.string) := by
  obtain ⟨css, h1, h2, _, _, h5⟩ := h
  have : css.flatten = xs.map Value.string := by
    have hc : css = xs.map (fun s => [Value.string s]) := by
      refine List.ext_getElem? fun j => ?_
      rw [List.getElem?_map]
      rcases Nat.lt_or_ge j xs.length with hj | hj
      · obtain ⟨cs, hcs, hk⟩ := h5 j xs[j] (List.getElem?_eq_getElem hj)
        rw [hcs, List.getElem?_eq_getElem hj]
        have hk' : cs = [Value.string xs[j]] := hk
        rw [hk']; rfl
      · rw [List.getElem?_eq_none (by omega), List.getElem?_eq_none hj]; rfl
    rw [hc]
    clear h1 h2 h5 hc
    induction xs with
    | nil => rfl
    | cons y ys ih => simp only [List.map_cons, List.flatten_cons, ih]; rfl
  rw [this] at h1
  exact h1
set_option maxHeartbeats 1000000 in
theorem cloneS_any {A : Option Addr} {c : Nat} {l : List ByteArray} {w : World} (h : SlS w A c l) (hl : l.length ≤ 1000000) :
    Calls Tryz.prog 157 #[.slice A l.length c] w fun r w' => ∃ v, r = .returned v ∧ w'.ownsRow w.heap.size 9 1 v l.length (l.map Value.string) ∧ Below w.heap.size w w' := by
  have HO := Lib.hid (Own.lit0 Kn.str 9 w.heap.size (fun k => k < w.heap.size) w (Nat.le_refl _))
  have HR := Lib.hid (show Row Kn.str (fun k => k < w.heap.size ∧ some k ≠ (Value.slice (some ⟨w.heap.size, 0, none⟩) 0 0).ownBlock) (w.alloc (.cells #[] 9)) A l from
    (h.2.2.bound.below ((Below.refl _ _).alloc (Nat.le_refl _) _)).mono (fun k hk => ⟨hk.2, fun e1 => by have h2 := hk.2; simp [Value.ownBlock] at e1; omega⟩))
  have h3 := h.2.2
  cases A with
  | none =>
    have hn : l = [] := by
      cases l with
      | nil => rfl
      | cons y ys => obtain ⟨ad, e1, _⟩ := h3 (by simp); cases e1
    subst hn
    have hq := fun W => Lib.run_eql_slice_nil (P := Tryz.prog) W 39 _ none 0 c 0 0 Tryz.underlying39
    go_enter Tryz.func157, Tryz.ntmps157
    go_wp2_with fail
    go_ret
    exact ⟨_, rfl, World.ownsRow_nil _ _ _ _, Below.refl _ _⟩
  | some ad =>
    clear h h3
    have hq := fun W => Lib.run_eql_slice_nil (P := Tryz.prog) W 39 _ (some ad) l.length c 0 0 Tryz.underlying39
    go_enter Tryz.func157, Tryz.ntmps157
    go_wp2_with (at_builtin; refine wpList_spread rfl _ _ _ rfl 9 _ 1 16 Tryz.underlying39 infoS2 rfl (by decide) (by decide) rfl w.heap.size (fun k => k < w.heap.size) _ [] rfl HO.out l (some ad) c HR.out rfl (by simp) (by simp; omega) ?_; intro v1 w1 hown1 hg1 hat1 hbel1; have HO1 := Lib.hid (show Own Kn.str 9 w.heap.size (fun k => k < w.heap.size) w1 v1 l from hown1); have HB1 := Lib.hid (hbel1 w ((Below.refl _ _).alloc (Nat.le_refl _) _)); clear hown1 hg1 hat1 hbel1)
    obtain ⟨A', c', hv, hs⟩ := HO1.out.sl
    subst hv
    go_wp2
    go_ret
    exact ⟨_, rfl, own_row HO1.out, HB1.out⟩
theorem compact_len {zs : List (List UInt8)} (h : zs.Pairwise (fun a b => a ≤ b)) : (Lib.compact zs).length = zs.length ↔ zs.Pairwise (fun a b => a < b) := by
  constructor
  · intro hl
    have : Lib.compact zs = zs := by
      refine Lib.compact_all zs fun j hj => ?_
      unfold Lib.compact Lib.compactUpTo at hl
      rw [List.length_map] at hl
      have h2 : ((List.range zs.length).filter (Lib.keeps zs.toArray)).length = (List.range zs.length).length := by rw [hl, List.length_range]
      exact List.length_filter_eq_length_iff.1 h2 j (List.mem_range.2 hj)
    rw [← this]
    exact compact_lt h
  · intro hp
    have : Lib.compact zs = zs := by
      refine Lib.compact_all zs fun j hj => ?_
      simp only [Lib.keeps, decide_eq_true_eq]
      by_cases h0 : j = 0
      · exact .inl h0
      · refine .inr ?_
        simp only [getElem!_pos, List.size_toArray, hj, show j - 1 < zs.length by omega, List.getElem_toArray]
        intro e
        have := List.pairwise_iff_getElem.1 hp (j - 1) j (by omega) hj (by omega)
        rw [e] at this
        exact List.lt_irrefl _ this
    rw [this]
theorem rise_toLs (l : List ByteArray) : (toLs l).Pairwise (fun a b => a < b) ↔ l.Pairwise ltB := by
  unfold toLs; rw [List.pairwise_map]; exact Iff.rfl
theorem rise_sorted {l : List ByteArray} (h : l.Pairwise ltB) : SortedTo l 0 := fun j hj _ hlt => ltB_irrefl _ (ltB_trans (List.pairwise_iff_getElem.1 h j (j + 1) (by omega) hj (by omega)) hlt)

set_option maxHeartbeats 1000000 in
theorem riseQ_any {A : Option Addr} {c : Nat} {l : List ByteArray} {w : World} (h : SlS w A c l) (hl : l.length ≤ 1000000) :
    Calls Tryz.prog 137 #[.slice A l.length c] w fun r w' => r = .returned (.bool (riseN l)) ∧ Below w.heap.size w w' := by
  have CS := Lib.hid (isSortedS_any h)
  have CC := Lib.hid (fun W (hb : Below w.heap.size w W) => cloneS_any (h.below hb) hl)
  have hll := l.length
  by_cases hr : SortedTo l 0
  · have hz : (toLs l).length = l.length := by simp [toLs]
    have hcl := compact_len (sorted_pair hr)
    rw [rise_toLs, hz] at hcl
    have hrl : riseN l = decide ((Lib.compact (toLs l)).length = l.length) := by unfold riseN; exact decide_eq_decide.2 hcl.symm
    rw [hrl]
    have CS := Lib.hid (show Calls Tryz.prog 156 #[.slice A l.length c] w fun e w' => e = .returned (.bool true) ∧ Below w.heap.size w w' from CS.out.mono (fun e w' ⟨⟨b, e1, h1⟩, h2⟩ => ⟨by rw [e1, h1.2 hr], h2⟩))
    have hzl : (toLs l).length ≤ 1000000 := by omega
    have HZ := Lib.hid hz
    have CC := Lib.hid (fun W (hb : Below w.heap.size w W) => show Calls Tryz.prog 157 #[.slice A l.length c] W fun r w' => ∃ v, r = .returned v ∧ w'.ownsRow W.heap.size 9 1 v (toLs l).length ((toLs l).map encStr) ∧ Below W.heap.size W w' from by
      have := CC.out W hb
      rw [enc_toLs] at this
      rw [hz]
      exact this)
    have CM := Lib.hid (fun (W : World) (B : Nat) (v : Value) (h : W.ownsRow B 9 1 v (toLs l).length ((toLs l).map encStr)) => show Calls Tryz.prog 118 #[v] W fun e w' => ∃ A' c', e = .returned (.slice A' (Lib.compact (toLs l)).length c') ∧ ∀ w0, Below w0.heap.size w0 W → w0.heap.size ≤ B → Below w0.heap.size w0 w' from by
      refine (callsIn_wide (n := 8)).1 ((compact_any (m := 8) h hzl).mono ?_)
      rintro e w' ⟨v', rfl, hrow, hb⟩
      have hlen : (Lib.compact (toLs l)).length = ((Lib.compact (toLs l)).map ofL).length := by simp
      obtain ⟨A', c', rfl, _⟩ := sl_of_row (l := (Lib.compact (toLs l)).map ofL) hlen (by rw [enc_toLs, toLs_ofL]; exact hrow)
      exact ⟨A', c', by rw [← hlen], hb⟩)
    have hbo : (((Lib.compact (toLs l)).length : Int) == (l.length : Int)) = decide ((Lib.compact (toLs l)).length = l.length) := by
      rw [Bool.eq_iff_iff, beq_iff_eq, decide_eq_true_iff]; omega
    generalize (Lib.compact (toLs l)).length = n at *
    generalize hdn : decide (n = l.length) = b at *
    clear hr hcl hrl hz hzl hdn hll
    go_enter Tryz.func137, Tryz.ntmps137
    go_wp2_with (first
      | (go_at_call 118; go_fit (CM.out _ _ _ HR.out); rintro e w3 ⟨A3, c3, rfl, hb3⟩)
      | (go_at_call 157; go_fit (CC.out _ HB1.out); rintro e w2 ⟨v, rfl, hrow, hb2⟩; have HR := Lib.hid hrow; have HB2 := Lib.hid hb2; clear hrow hb2)
      | (go_at_call 156; go_fit CS.out; rintro e w1 ⟨rfl, hb⟩; have HB1 := Lib.hid hb; clear hb))
    go_ret
    exact ⟨rfl, hb3 w (bthen HB1.out HB2.out) HB1.out.size⟩
  · have hrl : riseN l = false := by
      rw [Bool.eq_false_iff]
      intro h2
      exact hr (rise_sorted ((riseN_iff l).1 h2))
    rw [hrl]
    have CS := Lib.hid (show Calls Tryz.prog 156 #[.slice A l.length c] w fun e w' => e = .returned (.bool false) ∧ Below w.heap.size w w' from CS.out.mono (fun e w' ⟨⟨b, e1, h1⟩, h2⟩ => ⟨by
      rw [e1]
      cases b with
      | false => rfl
      | true => exact absurd (h1.1 rfl) hr, h2⟩))
    clear hr hrl CC hll
    go_enter Tryz.func137, Tryz.ntmps137
    go_wp2_with (go_at_call 156; go_fit CS.out; rintro e w1 ⟨rfl, hb⟩)
    go_ret
    exact ⟨rfl, hb⟩
end Go.Proofs.YtfoghahidofegaaGreat

namespace Go.Proofs.YtfoghahidofegaaGreat
open Go.RowKit

set_option maxHeartbeats 400000 in
theorem equalS_any (A B : Option Addr) (ca cb : Nat) (a b : List ByteArray) (w : World) (ha0 : SlS w A ca a) (hb0 : SlS w B cb b) :
    Calls Tryz.prog 104 #[.slice A a.length ca, .slice B b.length cb] w fun e w' => e = .returned (.bool (decide (a = b))) ∧ ∃ n, w' = w.drewN n := by
  obtain ⟨hca, hma, ha⟩ := ha0
  obtain ⟨hcb, hmb, hb⟩ := hb0
  unfold maxLen at hma hmb
  by_cases hl : a.length = b.length
  · have H0 := Lib.hid hl
    have hl0 : ((a.length : Int) != (b.length : Int)) = false := by rw [hl]; simp
    have hl1 : a.length ≤ b.length := by omega
    have hl2 : b.length ≤ a.length := by omega
    clear hl
    go_enter Tryz.func104, Tryz.ntmps104
    go_wp2
    go_loopw [13] (fun i wr => ∃ k n : Nat, k ≤ a.length ∧ i = .int .i64 k ∧ AlikeB a b k ∧ wr = w.drewN n) (fun i _ => a.length - (intOf i).toNat)
    case atStart => exact ⟨0, 0, Nat.zero_le _, rfl, fun j hj => by omega, rfl⟩
    case round =>
      obtain ⟨k, n, hk, rfl, hal, rfl⟩ := hrel
      by_cases hlt : k < a.length
      · obtain ⟨ad, rfl, hx⟩ := row_str_at ha hlt
        obtain ⟨bd, rfl, hy⟩ := row_str_at hb (j := k) (by omega)
        have hltb : k < b.length := by omega
        generalize hxe : a[k] = x at hx
        generalize hye : b[k] = y at hy
        have HX := Lib.hid hxe
        have HY := Lib.hid hye
        clear hxe hye
        have hq := strEqL x y
        by_cases hxy : x = y
        · rw [decide_eq_true hxy] at hq
          have HXY := Lib.hid hxy
          clear hxy
          go_wp2
          go_quiet (fail)
          go_wp2
          go_roundw
          case rel =>
            refine ⟨k + 1, _, by omega, by go_num, fun j hj => ?_, rfl⟩
            rcases Nat.lt_or_ge j k with h | h
            · exact hal j h
            · obtain rfl : j = k := by omega
              rw [List.getElem?_eq_getElem hlt, List.getElem?_eq_getElem hltb, HX.out, HY.out, HXY.out]
          case measure => simp [intOf]; omega
        · rw [decide_eq_false hxy] at hq
          have HXY := Lib.hid hxy
          clear hxy
          go_wp2
          go_quiet (fail)
          go_wp2
          go_ret
          refine ⟨?_, _, World.drewN_drewN _ _ _⟩
          have : a ≠ b := fun e => by
            subst e
            exact HXY.out (HX.out.symm.trans HY.out)
          simp [this]
      · go_wp2
        go_ret
        refine ⟨?_, _, rfl⟩
        obtain rfl : k = a.length := by omega
        simp [alikeB_all H0.out hal]
  · have hl0 : ((a.length : Int) != (b.length : Int)) = true := by rw [bne_iff_ne]; omega
    go_enter Tryz.func104, Tryz.ntmps104
    go_wp2
    go_ret
    refine ⟨?_, 0, rfl⟩
    have : a ≠ b := fun e => hl (by rw [e])
    simp [this]
/-- A clause as a value. -/
abbrev vClause (x : Clause) (S : Option Addr) (sa : Nat) (T : Option Addr) (ta : Nat) : Value := .agg #[.slice S x.tags.length sa, .slice T x.types.length ta]
theorem clause_ext {x y : Clause} (h1 : x.tags = y.tags) (h2 : x.types = y.types) : x = y := by cases x; cases y; simp at h1 h2; rw [h1, h2]

instance : DecidableEq Clause := fun x y => decidable_of_iff (x.tags = y.tags ∧ x.types = y.types) ⟨fun h => clause_ext h.1 h.2, fun h => by rw [h]; exact ⟨rfl, rfl⟩⟩

set_option maxHeartbeats 1000000 in
theorem same1_any {w : World} {x y : Clause} {S T S' T' : Option Addr} {sa ta sa' ta' : Nat} (h1 : SlS w S sa x.tags) (h2 : SlS w T ta x.types) (h3 : SlS w S' sa' y.tags) (h4 : SlS w T' ta' y.types) :
    Calls Tryz.prog 103 #[vClause x S sa T ta, vClause y S' sa' T' ta'] w fun e w' => e = .returned (.bool (decide (x = y))) ∧ Below w.heap.size w w' := by
  obtain ⟨W1, hW1⟩ : ∃ W1, W1 = (w.alloc (.cells #[.slice S x.tags.length sa, .slice T x.types.length ta] 118)).alloc (.cells #[.slice S' y.tags.length sa', .slice T' y.types.length ta'] 118) := ⟨_, rfl⟩
  have HW := Lib.hid hW1
  have hB : Below w.heap.size w W1 := by rw [hW1]; exact ((Below.refl _ _).alloc (Nat.le_refl _) _).alloc (by simp) _
  have hx1 : Bx W1 w.heap.size 118 [.slice S x.tags.length sa, .slice T x.types.length ta] := by rw [hW1]; exact (Bx.new w _ _).alloc _
  have hx2 : Bx W1 (w.heap.size + 1) 118 [.slice S' y.tags.length sa', .slice T' y.types.length ta'] := by
    rw [hW1]; have := Bx.new (w.alloc (.cells #[.slice S x.tags.length sa, .slice T x.types.length ta] 118)) 118 [.slice S' y.tags.length sa', .slice T' y.types.length ta']
    simpa using this
  have hd : decide (x = y) = (decide (x.tags = y.tags) && decide (x.types = y.types)) := by
    rw [← Bool.decide_and]; exact decide_eq_decide.2 ⟨fun h => by rw [h]; exact ⟨rfl, rfl⟩, fun h => clause_ext h.1 h.2⟩
  rw [hd]
  have CE := Lib.hid (equalS_any S S' sa sa' x.tags y.tags W1 (h1.below hB) (h3.below hB))
  have CT := Lib.hid (fun n => equalS_any T T' ta ta' x.types y.types (W1.drewN n) ((h2.below hB).drewN n) ((h4.below hB).drewN n))
  generalize decide (x.tags = y.tags) = b1 at CE ⊢
  generalize decide (x.types = y.types) = b2 at CT ⊢
  have HBx1 := Lib.hid hx1
  have HBx2 := Lib.hid hx2
  have HB := Lib.hid (fun n => below_drewN hB n)
  clear hd hB hx1 hx2 hW1 h1 h2 h3 h4
  go_enter Tryz.func103, Tryz.ntmps103
  go_upto_region 1 with fail
  rw [← HW.out]
  clear HW
  have c0 := HBx1.out.cell 0
  have c1 := HBx2.out.cell 0
  simp only [List.getElem?_cons_zero] at c0 c1
  rcases b1 with _ | _ <;> rcases b2 with _ | _
  all_goals
    go_wp2_with (first
      | (go_at_call 104; go_fit (CT.out _); rintro e w3 ⟨rfl, m, rfl⟩)
      | (go_at_call 104; go_fit CE.out; rintro e w2 ⟨rfl, n, rfl⟩; have k0 := (HBx1.out.drewN n).cell 1; have k1 := (HBx2.out.drewN n).cell 1; simp only [List.getElem?_cons_succ, List.getElem?_cons_zero] at k0 k1))
    go_ret
    first
      | exact ⟨rfl, HB.out _⟩
      | exact ⟨rfl, below_drewN (HB.out _) _⟩

/-- Clauses are alike as far as they have been looked at. -/
def AlikeC (a b : List Clause) (k : Nat) : Prop := ∀ j, j < k → a[j]? = b[j]?
theorem alikeC_all {a b : List Clause} (hl : a.length = b.length) (h : AlikeC a b a.length) : a = b := by
  refine List.ext_getElem? fun j => ?_
  rcases Nat.lt_or_ge j a.length with hj | hj
  · exact h j hj
  · rw [List.getElem?_eq_none hj, List.getElem?_eq_none (by omega)]

set_option maxHeartbeats 1000000 in
theorem equalC_any (A B : Option Addr) (ca cb : Nat) (a b : List Clause) (w : World) (ha0 : SlC w A ca a) (hb0 : SlC w B cb b) :
    Calls Tryz.prog 102 #[.slice A a.length ca, .slice B b.length cb, .func (.func 103) #[] #[]] w fun e w' => e = .returned (.bool (decide (a = b))) ∧ Below w.heap.size w w' := by
  obtain ⟨hca, hma, ha⟩ := ha0
  obtain ⟨hcb, hmb, hb⟩ := hb0
  unfold maxLen at hma hmb
  by_cases hl : a.length = b.length
  · have H0 := Lib.hid hl
    have hl0 : ((a.length : Int) != (b.length : Int)) = false := by rw [hl]; simp
    have hl1 : a.length ≤ b.length := by omega
    have hl2 : b.length ≤ a.length := by omega
    clear hl
    go_enter Tryz.func102, Tryz.ntmps102
    go_wp2
    go_loopw [17] (fun i wr => ∃ k : Nat, k ≤ a.length ∧ i = .int .i64 k ∧ Hid (AlikeC a b k) ∧ Below w.heap.size w wr) (fun i _ => a.length - (intOf i).toNat)
    case atStart => exact ⟨0, Nat.zero_le _, rfl, Lib.hid (fun j hj => by omega), Below.refl _ _⟩
    case round =>
      obtain ⟨k, hk, rfl, hal, hbl⟩ := hrel
      by_cases hlt : k < a.length
      · obtain ⟨ad, S, sa, T, ta, rfl, hx, hx', hS, hT⟩ := row_clause_at (ha.below hbl) hlt
        have hltb : k < b.length := by omega
        obtain ⟨bd, S', sa', T', ta', rfl, hy, hy', hS', hT'⟩ := row_clause_at (hb.below hbl) (j := k) hltb
        have hxe : a[k]? = some a[k] := List.getElem?_eq_getElem hlt
        have hye : b[k]? = some b[k] := List.getElem?_eq_getElem hltb
        have HX := Lib.hid hxe
        have HY := Lib.hid hye
        generalize a[k] = x at hx hx' hS hT HX
        generalize b[k] = y at hy hy' hS' hT' HY
        clear hxe hye
        have hyA : ∀ o, (wr.alloc o).cell? (bd.add (k * 2)) = some (.slice S' y.tags.length sa') ∧ (wr.alloc o).cell? ⟨(bd.add (k * 2)).block, (bd.add (k * 2)).off + 1, none⟩ = some (.slice T' y.types.length ta') := fun o => ⟨cell_kept hy (World.grownBy_alloc wr o none) (fun r e => by cases e), cell_kept hy' (World.grownBy_alloc wr o none) (fun r e => by cases e)⟩
        have ha1 := (hyA (.cells #[.slice S x.tags.length sa, .slice T x.types.length ta] 118)).1
        have ha2 := (hyA (.cells #[.slice S x.tags.length sa, .slice T x.types.length ta] 118)).2
        have CS := Lib.hid (fun (W : World) (hb : Below wr.heap.size wr W) => same1_any (w := W) (hS.below hb) (hT.below hb) (hS'.below hb) (hT'.below hb))
        have hd : decide (x = y) = false ∨ decide (x = y) = true := by cases decide (x = y) <;> simp
        clear hyA hS hT hS' hT' ha hb
        have b1 : (0 : Int) ≤ (k : Int) := Int.natCast_nonneg _
        have b2 : (k : Int) < (a.length : Int) := by omega
        have b3 : (k : Int) < (b.length : Int) := by omega
        rcases hd with hd | hd
        all_goals
          rw [hd] at CS
          have HD := Lib.hid hd
          clear hd
          go_wp2_with (go_at_call 103; go_fit (CS.out _ (((Below.refl _ _).alloc (Nat.le_refl _) _).alloc (by simp) _)); rintro e w3 ⟨rfl, hb3⟩)
        · go_wp2
          go_ret
          refine ⟨?_, bthen hbl (bthen (((Below.refl wr.heap.size wr).alloc (Nat.le_refl _) _).alloc (by simp) _) hb3)⟩
          have hne : a ≠ b := fun e => by
            subst e
            have h1 := HX.out.symm.trans HY.out
            injection h1 with h1
            subst h1
            simpa using HD.out
          simp [hne]
        · go_wp2
          go_roundw
          case rel =>
            refine ⟨k + 1, by omega, by go_num, Lib.hid fun j hj => ?_, bthen hbl (bthen (((Below.refl wr.heap.size wr).alloc (Nat.le_refl _) _).alloc (by simp) _) hb3)⟩
            rcases Nat.lt_or_ge j k with h | h
            · exact hal.out j h
            · obtain rfl : j = k := by omega
              rw [HX.out, HY.out, of_decide_eq_true HD.out]
          case measure => simp [intOf]; omega
      · go_wp2
        go_ret
        obtain rfl : k = a.length := by omega
        refine ⟨?_, hbl⟩
        simp [alikeC_all H0.out hal.out]
  · have hl0 : ((a.length : Int) != (b.length : Int)) = true := by rw [bne_iff_ne]; omega
    go_enter Tryz.func102, Tryz.ntmps102
    go_wp2
    go_ret
    refine ⟨?_, Below.refl _ _⟩
    have : a ≠ b := fun e => hl (by rw [e])
    simp [this]

theorem Same_any {w : World} {a b : List Clause} {A B : Option Addr} {ca cb : Nat} (ha : SlC w A ca a) (hb : SlC w B cb b) :
    Calls Tryz.prog 71 #[.agg #[.slice A a.length ca], .agg #[.slice B b.length cb]] w fun e w' => e = .returned (.bool (decide (a = b))) ∧ Below w.heap.size w w' := by
  have H := Lib.hid (fun (o o' : Obj) => equalC_any A B ca cb a b ((w.alloc o).alloc o') ((ha.alloc o).alloc o') ((hb.alloc o).alloc o'))
  clear ha hb
  go_enter Tryz.func71, Tryz.ntmps71
  go_wp2_with fail
  refine (H.out _ _).mono ?_
  rintro e w' ⟨rfl, hb⟩
  go_wp2
  go_ret
  exact ⟨rfl, bthen (((Below.refl w.heap.size w).alloc (Nat.le_refl _) _).alloc (by simp) _) hb⟩
end Go.Proofs.YtfoghahidofegaaGreat

namespace Go.Proofs.YtfoghahidofegaaGreat
open Go.RowKit

def bigC (c : Clause) : Bool := decide (4 < c.tags.length) || decide (4 < c.types.length)
def noneC (c : Clause) : Bool := c.tags.any (fun s => !tagN s) || c.types.any (fun s => !mayN s)
def fallC (c : Clause) : Bool := !riseN c.tags || !riseN c.types
/-- What is wrong with a query. -/
def mayQ (q : List Clause) : Int := if (decide (4 < q.length) || q.any bigC) then 3 else if q.any noneC then 5 else if q.any fallC then 1 else 0

theorem mayQ1_any {w : World} (x : Clause) (S T : Option Addr) (sa ta : Nat) : Calls Tryz.prog 131 #[vClause x S sa T ta] w fun e w' => e = .returned (.bool (bigC x)) ∧ Below w.heap.size w w' := by
  have HB := Lib.hid (fun o => (Below.refl w.heap.size w).alloc (Nat.le_refl _) o)
  unfold bigC
  by_cases h1 : 4 < x.tags.length
  · rw [decide_eq_true h1]
    go_enter Tryz.func131, Tryz.ntmps131
    go_wp2
    go_ret
    exact ⟨rfl, HB.out _⟩
  · rw [decide_eq_false h1]
    by_cases h2 : 4 < x.types.length
    · rw [decide_eq_true h2]
      go_enter Tryz.func131, Tryz.ntmps131
      go_wp2
      go_ret
      exact ⟨by simp; omega, HB.out _⟩
    · rw [decide_eq_false h2]
      go_enter Tryz.func131, Tryz.ntmps131
      go_wp2
      go_ret
      exact ⟨by simp; omega, HB.out _⟩
theorem notTag_any {w : World} (s : ByteArray) (hs : s.size ≤ maxLen) : Calls Tryz.prog 133 #[.string s] w fun e w' => e = .returned (.bool (!tagN s)) ∧ Below w.heap.size w w' := by
  have C := Lib.hid (mayTag_any s hs w)
  go_enter Tryz.func133, Tryz.ntmps133
  go_wp2_with (go_at_call 115; go_fit C.out; rintro e w1 ⟨rfl, hb⟩)
  go_ret
  exact ⟨rfl, hb⟩
theorem notName_any {w : World} (s : ByteArray) : Calls Tryz.prog 134 #[.string s] w fun e w' => e = .returned (.bool (!mayN s)) ∧ Below w.heap.size w w' := by
  have C := Lib.hid (nameMay_any s w)
  go_enter Tryz.func134, Tryz.ntmps134
  go_wp2_with (go_at_call 101; go_fit C.out; rintro e w1 ⟨rfl, hb⟩)
  go_ret
  exact ⟨rfl, hb⟩
set_option maxHeartbeats 1000000 in
theorem mayQ2_any {w : World} (x : Clause) {S T : Option Addr} {sa ta : Nat} (hS : SlS w S sa x.tags) (hT : SlS w T ta x.types) (hg : ∀ s ∈ x.tags, s.size ≤ maxLen) : Calls Tryz.prog 132 #[vClause x S sa T ta] w fun e w' => e = .returned (.bool (noneC x)) ∧ Below w.heap.size w w' := by
  obtain ⟨W1, hW1⟩ : ∃ W1, W1 = w.alloc (.cells #[.slice S x.tags.length sa, .slice T x.types.length ta] 118) := ⟨_, rfl⟩
  have HW := Lib.hid hW1
  have hB : Below w.heap.size w W1 := by rw [hW1]; exact (Below.refl _ _).alloc (Nat.le_refl _) _
  have hx1 : Bx W1 w.heap.size 118 [.slice S x.tags.length sa, .slice T x.types.length ta] := by rw [hW1]; exact Bx.new w _ _
  have C1 := Lib.hid (containsFuncS_in (hS.below hB) 133 #[] (fun s => !tagN s) (fun args W => enters_of Tryz.func133 (by kernel_rfl) rfl args W) (fun s hs W _ => notTag_any s (hg s hs)))
  have C2 := Lib.hid (fun W (hb : Below W1.heap.size W1 W) => containsFuncS_in ((hT.below hB).below hb) 134 #[] (fun s => !mayN s) (fun args W => enters_of Tryz.func134 (by kernel_rfl) rfl args W) (fun s hs W _ => notName_any s))
  have c0 := hx1.cell 0
  simp only [List.getElem?_cons_zero] at c0
  have HX := Lib.hid hx1
  have HB := Lib.hid hB
  unfold noneC
  generalize x.tags.any (fun s => !tagN s) = b1 at C1 ⊢
  generalize x.types.any (fun s => !mayN s) = b2 at C2 ⊢
  clear hx1 hB hW1 hS hT hg
  rcases b1 with _ | _
  all_goals
    go_enter Tryz.func132, Tryz.ntmps132
    go_upto_region 1 with fail
    rw [← HW.out]
    go_wp2_with (first
      | (go_at_call 113; go_fit (C2.out _ HB1.out); rintro e w3 ⟨rfl, hb3⟩)
      | (go_at_call 113; go_fit C1.out; rintro e w2 ⟨rfl, hb2⟩; have HB1 := Lib.hid hb2; have k1 := (HX.out.under hb2).cell 1; simp only [List.getElem?_cons_succ, List.getElem?_cons_zero] at k1; clear hb2))
    go_ret
    first
      | exact ⟨by simp, bthen HB.out (bthen HB1.out hb3)⟩
      | exact ⟨by simp, bthen HB.out HB1.out⟩
set_option maxHeartbeats 1000000 in
theorem mayQ3_any {w : World} (x : Clause) {S T : Option Addr} {sa ta : Nat} (hS : SlS w S sa x.tags) (hT : SlS w T ta x.types) (hl : x.tags.length ≤ 1000000 ∧ x.types.length ≤ 1000000) : Calls Tryz.prog 136 #[vClause x S sa T ta] w fun e w' => e = .returned (.bool (fallC x)) ∧ Below w.heap.size w w' := by
  obtain ⟨W1, hW1⟩ : ∃ W1, W1 = w.alloc (.cells #[.slice S x.tags.length sa, .slice T x.types.length ta] 118) := ⟨_, rfl⟩
  have HW := Lib.hid hW1
  have hB : Below w.heap.size w W1 := by rw [hW1]; exact (Below.refl _ _).alloc (Nat.le_refl _) _
  have hx1 : Bx W1 w.heap.size 118 [.slice S x.tags.length sa, .slice T x.types.length ta] := by rw [hW1]; exact Bx.new w _ _
  have C1 := Lib.hid (riseQ_any (hS.below hB) hl.1)
  have C2 := Lib.hid (fun W (hb : Below W1.heap.size W1 W) => riseQ_any ((hT.below hB).below hb) hl.2)
  have c0 := hx1.cell 0
  simp only [List.getElem?_cons_zero] at c0
  have HX := Lib.hid hx1
  have HB := Lib.hid hB
  unfold fallC
  generalize riseN x.tags = b1 at C1 ⊢
  generalize riseN x.types = b2 at C2 ⊢
  clear hx1 hB hW1 hS hT hl
  rcases b1 with _ | _
  all_goals
    go_enter Tryz.func136, Tryz.ntmps136
    go_upto_region 1 with fail
    rw [← HW.out]
    go_wp2_with (first
      | (go_at_call 137; go_fit (C2.out _ HB1.out); rintro e w3 ⟨rfl, hb3⟩)
      | (go_at_call 137; go_fit C1.out; rintro e w2 ⟨rfl, hb2⟩; have HB1 := Lib.hid hb2; have k1 := (HX.out.under hb2).cell 1; simp only [List.getElem?_cons_succ, List.getElem?_cons_zero] at k1; clear hb2))
    go_ret
    first
      | exact ⟨by simp, bthen HB.out (bthen HB1.out hb3)⟩
      | exact ⟨by simp, bthen HB.out HB1.out⟩
theorem not_bigC {q : List Clause} (h : q.any bigC = false) : ∀ c ∈ q, c.tags.length ≤ 1000000 ∧ c.types.length ≤ 1000000 := fun c hc => by
  have := List.any_eq_false.1 h c hc
  unfold bigC at this
  simp at this
  omega
set_option maxHeartbeats 2000000 in
theorem mayQ_any' {w : World} {q : List Clause} {Q : Option Addr} {cq : Nat} (hq : SlC w Q cq q) (hg : ∀ c ∈ q, ∀ s ∈ c.tags, s.size ≤ maxLen) :
    Calls Tryz.prog 100 #[.agg #[.slice Q q.length cq]] w fun e w' => e = .returned (.int .i64 (mayQ q)) ∧ Below w.heap.size w w' := by
  obtain ⟨W1, hW1⟩ : ∃ W1, W1 = w.alloc (.cells #[.slice Q q.length cq] 25) := ⟨_, rfl⟩
  have HW := Lib.hid hW1
  have hB : Below w.heap.size w W1 := by rw [hW1]; exact (Below.refl _ _).alloc (Nat.le_refl _) _
  have hx1 : Bx W1 w.heap.size 25 [.slice Q q.length cq] := by rw [hW1]; exact Bx.new w _ _
  have C1 := Lib.hid (some_in (hq.below hB) 131 #[] bigC (fun args W => enters_of Tryz.func131 (by kernel_rfl) rfl args W) (fun x hx S T sa ta W _ _ _ => mayQ1_any x S T sa ta))
  have C2 := Lib.hid (fun W (hb : Below W1.heap.size W1 W) => some_in ((hq.below hB).below hb) 132 #[] noneC (fun args W => enters_of Tryz.func132 (by kernel_rfl) rfl args W) (fun x hx S T sa ta W _ hS hT => mayQ2_any x hS hT (hg x hx)))
  have C3 := Lib.hid (fun (h0 : q.any bigC = false) W (hb : Below W1.heap.size W1 W) => some_in ((hq.below hB).below hb) 136 #[] fallC (fun args W => enters_of Tryz.func136 (by kernel_rfl) rfl args W) (fun x hx S T sa ta W _ hS hT => mayQ3_any x hS hT (not_bigC h0 x hx)))
  have c0 := hx1.c0
  have HX := Lib.hid hx1
  have HB := Lib.hid hB
  unfold mayQ
  have hd : decide (4 < q.length) = true ∨ decide (4 < q.length) = false := by cases decide (4 < q.length) <;> simp
  generalize q.any bigC = b1 at C1 C3 ⊢
  generalize q.any noneC = b2 at C2 ⊢
  generalize q.any fallC = b3 at C3 ⊢
  clear hx1 hB hW1 hg hq
  rcases hd with hd | hd
  · have h4 : 4 < q.length := of_decide_eq_true hd
    rw [hd]
    clear hd
    go_enter Tryz.func100, Tryz.ntmps100
    go_upto_region 1 with fail
    rw [← HW.out]
    go_wp2_with fail
    go_ret
    exact ⟨rfl, HB.out⟩
  · have h4 : ¬ 4 < q.length := of_decide_eq_false hd
    rw [hd]
    clear hd
    have C3 : Hid (∀ W, Below W1.heap.size W1 W → b1 = false → Calls Tryz.prog 135 #[.agg #[.slice Q q.length cq], .func (.func 136) #[] #[]] W fun e w' => e = .returned (.bool b3) ∧ Below W.heap.size W w') := Lib.hid (fun W hb h0 => C3.out h0 W hb)
    rcases b1 with _ | _ <;> rcases b2 with _ | _ <;> rcases b3 with _ | _
    all_goals
      go_enter Tryz.func100, Tryz.ntmps100
      go_upto_region 1 with fail
      rw [← HW.out]
      go_wp2_with (first
        | (go_at_call 135; go_fit (C3.out _ HB2.out (by simp)); rintro e w4 ⟨rfl, hb4⟩; have HB3 := Lib.hid (bthen HB2.out hb4); clear hb4)
        | (go_at_call 135; go_fit (C2.out _ HB1.out); rintro e w3 ⟨rfl, hb3⟩; have HB2 := Lib.hid (bthen HB1.out hb3); have k2 := (HX.out.under HB2.out).c0; clear hb3)
        | (go_at_call 135; go_fit C1.out; rintro e w2 ⟨rfl, hb2⟩; have HB1 := Lib.hid hb2; have k1 := (HX.out.under hb2).c0; clear hb2))
      go_ret
      first
        | exact ⟨rfl, bthen HB.out HB3.out⟩
        | exact ⟨rfl, bthen HB.out HB2.out⟩
        | exact ⟨rfl, bthen HB.out HB1.out⟩
theorem mayQ_any {w : World} {q : List Clause} {Q : Option Addr} {cq : Nat} (hq : SlC w Q cq q) (hl : ∀ c ∈ q, c.tags.length ≤ 1000000 ∧ c.types.length ≤ 1000000) (hg : ∀ c ∈ q, ∀ s ∈ c.tags, s.size ≤ maxLen) :
    Calls Tryz.prog 100 #[.agg #[.slice Q q.length cq]] w fun e w' => e = .returned (.int .i64 (mayQ q)) ∧ Below w.heap.size w w' := mayQ_any' hq hg
end Go.Proofs.YtfoghahidofegaaGreat

namespace Go.Proofs.YtfoghahidofegaaGreat
open Go.RowKit

theorem infoClause : (Tryz.prog.info? 118).map (fun i => (i.zero, i.size, i.bytes)) = some (some (.agg #[.slice none 0 0, .slice none 0 0]), 2, 48) := by kernel_rfl
def cutC (c : Clause) : Clause := ⟨c.tags.take 8, c.types.take 8⟩
def fewM (q : List Clause) : List Clause := (q.take 8).map cutC
theorem fewM_succ (q : List Clause) (k : Nat) (h : k < q.length) (h8 : k < 8) : (q.take (k + 1)).map cutC = (q.take k).map cutC ++ [cutC q[k]] := by
  rw [List.take_succ_eq_append_getElem h, List.map_append]; rfl

/-- few's state at a round's head: the boxes of q, of the result, of out; out's clauses. -/
structure FewAt (ok : Nat → Prop) (q : List Clause) (Q : Option Addr) (cq : Nat) (w : World) (k : Nat) (v : Value) (wr : World) : Prop where
  b1 : Bx wr w.heap.size 25 [.slice Q q.length cq]
  b2 : Bx wr (w.heap.size + 1) 25 [.slice none 0 0]
  b3 : Bx wr (w.heap.size + 1 + 1) 25 [v]
  own : Own kClause 118 (w.heap.size + 3) (fun k => ok k ∧ k < w.heap.size) wr v ((q.take k).map cutC)
  sl : Sl kClause (fun k => ok k ∧ k < w.heap.size) wr Q cq q
  size : w.heap.size + 3 ≤ wr.heap.size
  bel : Below w.heap.size w wr

theorem FewAt.box {ok : Nat → Prop} {q : List Clause} {Q : Option Addr} {cq : Nat} {w : World} {k : Nat} {v : Value} {wr W w1 : World} (h : FewAt ok q Q cq w k v wr) (hb : Below wr.heap.size wr W) (hg : W.grownBy w1 v.ownBlock) : Bx w1 (w.heap.size + 1 + 1) 25 [v] :=
  (h.b3.under hb).grown hg (fun e => by have := h.own.base_le _ e.symm; omega)
/-- A round's end. -/
theorem FewAt.step {ok : Nat → Prop} {q : List Clause} {Q : Option Addr} {cq : Nat} {w : World} {k : Nat} {v v1 : Value} {wr W w1 : World} (h : FewAt ok q Q cq w k v wr) (hb : Below wr.heap.size wr W)
    (hg : W.grownBy w1 v.ownBlock) (x : Clause) (hxe : q[k]? = some x) (h8 : k < 8) (hown : Own kClause 118 (w.heap.size + 3) (fun k => ok k ∧ k < w.heap.size) w1 v1 ((q.take k).map cutC ++ [cutC x])) :
    FewAt ok q Q cq w (k + 1) v1 (w1.setCell ⟨w.heap.size + 1 + 1, 0, none⟩ v1) := by
  have hs := h.size
  obtain ⟨hk, hxe⟩ := List.getElem?_eq_some_iff.1 hxe
  subst hxe
  have hv : ∀ j, v.ownBlock = some j → w.heap.size + 3 ≤ j := h.own.base_le
  have hne : ∀ j, j < w.heap.size + 3 → some j ≠ v.ownBlock := fun j hj e => by have := hv j e.symm; omega
  have hbl : ∀ j, j < w.heap.size + 3 → w1.heap[j]? = wr.heap[j]? := fun j hj => (hg.block j (by have := hb.size; omega) (hne j hj)).trans (hb.block j (by omega))
  have hsz : wr.heap.size ≤ w1.heap.size := Nat.le_trans hb.size hg.size
  refine ⟨?_, ?_, ?_, ?_, ?_, ?_, ?_⟩
  · exact (h.b1.stay (fun _ => hbl _ (by omega))).far (by simp; omega) _
  · exact (h.b2.stay (fun _ => hbl _ (by omega))).far (by simp) _
  · exact (h.b3.stay (fun _ => hbl _ (by omega))).set 0 v1
  · rw [fewM_succ q k hk h8]
    exact hown.setCell (fun j hj => by simp; omega) (fun j hj => by have := hown.base_le j hj; simp; omega) _
  · exact ((h.sl.stay hsz (fun j hj _ => hbl j (by omega)))).setCell (fun j hj => by simp; omega) _
  · simp [World.setCell]; omega
  · refine Below.setCell ?_ (by simp; omega) _
    exact ⟨hg.os.trans (hb.os.trans h.bel.os), hg.tape.trans (hb.tape.trans h.bel.tape), hg.output.trans (hb.output.trans h.bel.output), Nat.le_trans h.bel.size hsz, fun j hj => (hbl j (by omega)).trans (h.bel.block j hj)⟩

end Go.Proofs.YtfoghahidofegaaGreat

namespace Go.Proofs.YtfoghahidofegaaGreat
open Go.RowKit

def normC (c : Clause) : Clause := ⟨uniq c.tags, uniq c.types⟩
theorem norm_succ (q : List Clause) (k : Nat) (h : k < q.length) : (q.take (k + 1)).map normC = (q.take k).map normC ++ [normC q[k]] := by
  rw [List.take_succ_eq_append_getElem h, List.map_append]; rfl
/-- Norm's state at a round's head. -/
structure NormAt (q : List Clause) (w : World) (k : Nat) (v : Value) (wr : World) : Prop where
  b2 : Bx wr (w.heap.size + 1) 25 [.slice none 0 0]
  b3 : Bx wr (w.heap.size + 1 + 1) 25 [v]
  own : Own kClause 118 (w.heap.size + 3) (fun k => w.heap.size + 3 ≤ k) wr v ((q.take k).map normC)
  size : w.heap.size + 3 ≤ wr.heap.size
  bel : Below w.heap.size w wr
theorem NormAt.step {q : List Clause} {w : World} {k : Nat} {v v1 : Value} {wr W w1 : World} (h : NormAt q w k v wr) (hb : Below wr.heap.size wr W) (hg : W.grownBy w1 v.ownBlock) (x : Clause) (hxe : q[k]? = some x)
    (hown : Own kClause 118 (w.heap.size + 3) (fun k => w.heap.size + 3 ≤ k) w1 v1 ((q.take k).map normC ++ [normC x])) : NormAt q w (k + 1) v1 (w1.setCell ⟨w.heap.size + 1 + 1, 0, none⟩ v1) := by
  have hs := h.size
  obtain ⟨hk, hxe⟩ := List.getElem?_eq_some_iff.1 hxe
  subst hxe
  have hv : ∀ j, v.ownBlock = some j → w.heap.size + 3 ≤ j := h.own.base_le
  have hbl : ∀ j, j < w.heap.size + 3 → w1.heap[j]? = wr.heap[j]? := fun j hj => (hg.block j (by have := hb.size; omega) (fun e => by have := hv j e.symm; omega)).trans (hb.block j (by omega))
  have hsz : wr.heap.size ≤ w1.heap.size := Nat.le_trans hb.size hg.size
  refine ⟨?_, ?_, ?_, ?_, ?_⟩
  · exact (h.b2.stay (fun _ => hbl _ (by omega))).far (by simp) _
  · exact (h.b3.stay (fun _ => hbl _ (by omega))).set 0 v1
  · rw [norm_succ q k hk]
    exact hown.setCell (fun j hj => by simp; omega) (fun j hj => by have := hown.base_le j hj; simp; omega) _
  · simp [World.setCell]; omega
  · refine Below.setCell ?_ (by simp; omega) _
    exact ⟨hg.os.trans (hb.os.trans h.bel.os), hg.tape.trans (hb.tape.trans h.bel.tape), hg.output.trans (hb.output.trans h.bel.output), Nat.le_trans h.bel.size hsz, fun j hj => (hbl j (by omega)).trans (h.bel.block j hj)⟩
set_option maxHeartbeats 4000000 in
set_option maxRecDepth 100000 in
theorem Norm_any {q : List Clause} {Q : Option Addr} {cq : Nat} {w : World} (hq : SlC w Q cq q) (hl : q.length ≤ 1000000) (hlt : ∀ c ∈ q, c.tags.length ≤ 1000000 ∧ c.types.length ≤ 1000000) :
    Calls Tryz.prog 74 #[.agg #[.slice Q q.length cq]] w fun r w' => ∃ A c, r = .returned (.agg #[.slice A (q.map normC).length c]) ∧ Sl kClause (fun k => w.heap.size ≤ k) w' A c (q.map normC) ∧ Below w.heap.size w w' := by
  have hq2 := hq.2.1
  unfold maxLen at hq2
  have hq1 := hq.1
  have h0 : NormAt q w 0 (.slice none 0 0) (((w.alloc (.cells #[.slice Q q.length cq] 25)).alloc (.cells #[.slice none 0 0] 25)).alloc (.cells #[.slice none 0 0] 25)) := by
    refine ⟨?_, ?_, Own.nil_ _ _ _ _ _, by simp, (((Below.refl _ _).alloc (Nat.le_refl _) _).alloc (by simp) _).alloc (by simp; omega) _⟩
    · exact (by simpa using Bx.new (w.alloc (.cells #[.slice Q q.length cq] 25)) 25 [.slice none 0 0] : Bx _ (w.heap.size + 1) _ _).alloc _
    · simpa using Bx.new ((w.alloc (.cells #[.slice Q q.length cq] 25)).alloc (.cells #[.slice none 0 0] 25)) 25 [.slice none 0 0]
  have H0 := Lib.hid h0
  have HQ := Lib.hid hq.bound
  have HLT := Lib.hid hlt
  clear h0 hq hlt
  go_enter Tryz.func74, Tryz.ntmps74
  go_wp2
  go_loopw [9] (fun i wr => ∃ (k : Nat) (v : Value), k ≤ q.length ∧ i = .int .i64 k ∧ NormAt q w k v wr) (fun i _ => q.length - (intOf i).toNat)
  case atStart => exact ⟨0, _, Nat.zero_le _, rfl, H0.out⟩
  case round =>
    clear H0
    obtain ⟨k, v, hk, rfl, hf⟩ := hrel
    by_cases hlt : k < q.length
    · obtain ⟨ad, S, sa, T, ta, rfl, hx, hy, hS, hT⟩ := row_clause_at (HQ.out.stay hf.bel.size (fun j hj hl => hf.bel.block j hl)).2.2 hlt
      have hxe : q[k]? = some q[k] := List.getElem?_eq_getElem hlt
      have HX := Lib.hid hxe
      obtain ⟨ht1, ht2⟩ := HLT.out q[k] (List.getElem_mem hlt)
      have HLN := Lib.hid (show ∀ y, ((q.take k).map normC ++ [normC y]).length = k + 1 by intro y; simp; omega)
      generalize q[k] = x at hx hy hS hT HX ht1 ht2
      clear hxe
      have b1 : (0 : Int) ≤ (k : Int) := Int.natCast_nonneg _
      have b2 : (k : Int) < (q.length : Int) := by omega
      go_upto_region 5 with fail
      have HF := Lib.hid hf
      have hbx : Bx (wr.alloc (.cells #[.slice S x.tags.length sa, .slice T x.types.length ta] 118)) wr.heap.size 118 [.slice S x.tags.length sa, .slice T x.types.length ta] := Bx.new wr _ _
      have hbX : Below wr.heap.size wr (wr.alloc (.cells #[.slice S x.tags.length sa, .slice T x.types.length ta] 118)) := (Below.refl _ _).alloc (Nat.le_refl _) _
      have hzX : (wr.alloc (.cells #[.slice S x.tags.length sa, .slice T x.types.length ta] 118)).heap.size = wr.heap.size + 1 := by simp
      have hSX := hS.below hbX
      have hTX := hT.below hbX
      have hb3 := hf.b3.under hbX
      generalize wr.alloc (.cells #[.slice S x.tags.length sa, .slice T x.types.length ta] 118) = X at *
      have hsz := hf.size
      have C1 := Lib.hid (fun (W : World) (hb : Below X.heap.size X W) => qsorted_any (w := W) (hSX.below hb) ht1)
      have C2 := Lib.hid (fun (W : World) (hb : Below X.heap.size X W) => qsorted_any (w := W) (hTX.below hb) ht2)
      have HK := Lib.hid (fun W (hb : Below X.heap.size X W) => show W.cell? ⟨w.heap.size + 1 + 1, 0, none⟩ = some v ∧ W.cell? ⟨wr.heap.size, 0, none⟩ = some (.slice S x.tags.length sa) ∧ W.cell? ⟨wr.heap.size, 1, none⟩ = some (.slice T x.types.length ta) from ⟨(hb3.under hb).cell 0, (hbx.under hb).cell 0, (hbx.under hb).cell 1⟩)
      have HOW := Lib.hid (fun W (hb : Below X.heap.size X W) => hf.own.below (bthen hbX hb))
      have HVB := Lib.hid (show ∀ k, X.heap.size ≤ k → w.heap.size + 3 ≤ k ∧ some k ≠ v.ownBlock from fun k hk => ⟨by omega, fun e => by have := hf.own.block_lt k e.symm; omega⟩)
      have HVG := Lib.hid (show some (w.heap.size + 1 + 1) ≠ v.ownBlock from fun e => by have := hf.own.base_le _ e.symm; omega)
      have HBX := Lib.hid hbX
      have HZX := Lib.hid hzX
      have HSZ := Lib.hid hsz
      have HB3 := Lib.hid hb3
      obtain ⟨k0, k1, k2⟩ := HK.out X (Below.refl _ _)
      have l1 : w.heap.size + 1 + 1 < X.heap.size := by omega
      have l2 : wr.heap.size < X.heap.size := by omega
      clear hf hbx hbX hzX hSX hTX hS hT hb3 hx hy hsz ht1 ht2
      go_region_law (first
          | (refine step_push (W := w4) rfl _ _ _ rfl 118 _ 2 48 Tryz.underlying23 infoClause rfl (by decide) (by decide) rfl (w.heap.size + 3) (fun k => w.heap.size + 3 ≤ k) v _ rfl (HOW.out _ HB4.out) (normC x) [.slice A3 (uniq x.tags).length c3, .slice A4 (uniq x.types).length c4] (kClause_mk (HS4.out.mono (fun k hk => HVB.out k hk)) (HT4.out.mono (fun k hk => HVB.out k (Nat.le_trans HB34.out.size hk)))) _ rfl rfl (by have := HB4.out.size; have := HZX.out; have := HSZ.out; omega) (by simp; omega) ?_; intro v1 w5 hown5 hg5 hat5 hbel5; obtain ⟨V5, cv5, hv5, _⟩ := hown5.sl; rw [HLN.out] at hv5; subst hv5; have j0 := ((HB3.out.under HB4.out).grown hg5 HVG.out).cell 0; have j1 := ((HB3.out.under HB4.out).grown hg5 HVG.out).free 0; have HST := Lib.hid (HF.out.step (bthen HBX.out HB4.out) hg5 x HX.out hown5); clear hown5 hg5 hat5 hbel5)
          | (go_simp; go_at_call 106; go_fit (C2.out _ HB3'.out); rintro r w4 ⟨A4, c4, rfl, h4, hb4⟩; have HB4 := Lib.hid (show Below X.heap.size X w4 from bthen HB3'.out hb4); have HB34 := Lib.hid HB3'.out; have HT4 := Lib.hid h4; have HS4 := Lib.hid (HS3.out.below hb4); obtain ⟨a0, a1, a2⟩ := HK.out _ HB4.out; have l4 : w.heap.size + 1 + 1 < w4.heap.size := (by have := HB4.out.size; omega); clear h4 hb4)
          | (go_simp; go_at_call 106; go_fit (C1.out _ (below_drawn (Below.refl _ _))); rintro r w3 ⟨A3, c3, rfl, h3, hb3⟩; have HB3' := Lib.hid (show Below X.heap.size X w3 from bthen (below_drawn (Below.refl X.heap.size X)) hb3); have HS3 := Lib.hid h3; obtain ⟨e0, e1, e2⟩ := HK.out _ HB3'.out; clear h3 hb3))
      all_goals go_wp2_with fail
      all_goals go_roundw
      all_goals first
        | exact ⟨k + 1, _, by omega, by go_num, HST.out⟩
        | (simp [intOf]; omega)
    · have hfin : (q.take k).map normC = q.map normC := by rw [List.take_of_length_le (by omega)]
      have hown := hf.own
      rw [hfin] at hown
      obtain ⟨A, c, rfl, hsl⟩ := hown.sl
      have c3 := hf.b3.c0
      have c2 := hf.b2.c0
      have f2 := hf.b2.free 0
      have HB := Lib.hid hf.bel
      have HSL := Lib.hid hsl
      have HB2 := Lib.hid hf.b2
      have HSZ := Lib.hid hf.size
      clear hf hown hsl hfin
      have hR := Lib.hid (show Bx (wr.setCell ⟨w.heap.size + 1, 0, none⟩ (.slice A q.length c)) (w.heap.size + 1) 25 [.slice A q.length c] from HB2.out.set 0 _)
      go_wp2_with fail
      exact bodyPost_ret (v := .agg #[.slice A q.length c]) (by simp [results, Tryz.results74, go_sem, hR.out.c0]) rfl ⟨A, c, by rw [List.length_map], (HSL.out.setCell (fun j hj => by simp; omega) _).mono (fun k hk => by omega), HB.out.setCell (by simp) _⟩
end Go.Proofs.YtfoghahidofegaaGreat

namespace Go.Proofs.YtfoghahidofegaaGreat
open Go.RowKit

/-- A query that may be. -/
theorem mayQ_ok {q : List Clause} : mayQ q = 0 ↔ q.length ≤ 4 ∧ ∀ c ∈ q, bigC c = false ∧ noneC c = false ∧ fallC c = false := by
  unfold mayQ
  constructor
  · intro h
    by_cases h1 : (decide (4 < q.length) || q.any bigC) = true
    · rw [if_pos h1] at h; cases h
    rw [if_neg h1] at h
    by_cases h2 : q.any noneC = true
    · rw [if_pos h2] at h; cases h
    rw [if_neg h2] at h
    by_cases h3 : q.any fallC = true
    · rw [if_pos h3] at h; cases h
    simp only [Bool.or_eq_true, decide_eq_true_eq, not_or] at h1
    rw [Bool.not_eq_true] at h2 h3
    rw [Bool.not_eq_true] at h1
    refine ⟨by omega, fun c hc => ⟨?_, ?_, ?_⟩⟩
    · have := List.any_eq_false.1 h1.2 c hc; simpa using this
    · have := List.any_eq_false.1 h2 c hc; simpa using this
    · have := List.any_eq_false.1 h3 c hc; simpa using this
  · rintro ⟨h1, h2⟩
    have a1 : q.any bigC = false := List.any_eq_false.2 (fun c hc => by simp [(h2 c hc).1])
    have a2 : q.any noneC = false := List.any_eq_false.2 (fun c hc => by simp [(h2 c hc).2.1])
    have a3 : q.any fallC = false := List.any_eq_false.2 (fun c hc => by simp [(h2 c hc).2.2])
    rw [a1, a2, a3, decide_eq_false (by omega)]
    rfl
theorem norm_of_ok {q : List Clause} (h : mayQ q = 0) : q.map normC = q := by
  have h2 := (mayQ_ok.1 h).2
  conv => rhs; rw [← List.map_id q]
  refine List.map_congr_left fun c hc => ?_
  have h3 := (h2 c hc).2.2
  unfold fallC at h3
  simp only [Bool.or_eq_false_iff, Bool.not_eq_false', riseN_iff] at h3
  exact clause_ext (uniq_of_rise h3.1) (uniq_of_rise h3.2)
end Go.Proofs.YtfoghahidofegaaGreat

namespace Go.Proofs.YtfoghahidofegaaGreat
open Go.RowKit

/-- What is wrong with a guard. -/
def mayG (g : Grd) : Int :=
  if g.2.1 < 0 ∨ 1048576 < g.2.1 then 1
  else if g.2.2.2 = true then (if mayQ g.2.2.1 = 0 ∧ ¬ g.1 = ⟨#[]⟩ then 5 else mayQ g.2.2.1)
  else if mayN g.1 = false then 5 else if 0 < g.2.2.1.length then 1 else 0
instance : DecidableEq Grd := fun a b => decidable_of_iff (a.1 = b.1 ∧ a.2.1 = b.2.1 ∧ a.2.2.1 = b.2.2.1 ∧ a.2.2.2 = b.2.2.2) ⟨fun h => by
  obtain ⟨a1, a2, a3, a4⟩ := a
  obtain ⟨b1, b2, b3, b4⟩ := b
  obtain ⟨h1, h2, h3, h4⟩ := h
  simp only at h1 h2 h3 h4
  rw [h1, h2, h3, h4], fun h => by rw [h]; exact ⟨rfl, rfl, rfl, rfl⟩⟩
/-- Two guards are the same. -/
def sameG (a b : Grd) : Bool := decide (a = b)
def hasG (gs : List Grd) (g : Grd) : Bool := gs.any (fun h => sameG h g)
theorem hasG_mem {gs : List Grd} {g : Grd} : hasG gs g = true ↔ g ∈ gs := by
  unfold hasG sameG
  rw [List.any_eq_true]
  constructor
  · rintro ⟨x, hx, h⟩
    rw [← of_decide_eq_true h]; exact hx
  · intro h; exact ⟨g, h, decide_eq_true rfl⟩
/-- What a guard that is added comes to: the error, the guards that are told. -/
def addE (gs : List Grd) (g : Grd) : Int := if mayG g ≠ 0 then mayG g else if hasG gs g = true then 0 else if 16 ≤ gs.length then 3 else 0
def addL (gs : List Grd) (g : Grd) : List Grd := if addE gs g ≠ 0 then [] else if hasG gs g = true then gs else gs ++ [g]
/-- The guards that are kept. -/
def keepL (gs : List Grd) (g : Grd) : List Grd := if addE gs g ≠ 0 then gs else addL gs g
theorem addE_may {gs : List Grd} {g : Grd} (h : addE gs g = 0) : mayG g = 0 := by
  unfold addE at h
  by_cases h1 : mayG g ≠ 0
  · rw [if_pos h1] at h; exact absurd h h1
  · exact Decidable.not_not.1 h1
theorem addE_room {gs : List Grd} {g : Grd} (h : addE gs g = 0) : hasG gs g = true ∨ gs.length < 16 := by
  have h1 := addE_may h
  unfold addE at h
  rw [if_neg (by simp [h1])] at h
  by_cases h2 : hasG gs g = true
  · exact .inl h2
  · rw [if_neg h2] at h
    by_cases h3 : 16 ≤ gs.length
    · rw [if_pos h3] at h; cases h
    · exact .inr (by omega)
theorem keepL_mem {gs : List Grd} {g : Grd} : ∀ x ∈ keepL gs g, x ∈ gs ∨ (x = g ∧ mayG g = 0) := by
  intro x hx
  unfold keepL addL at hx
  by_cases h : addE gs g ≠ 0
  · rw [if_pos h] at hx; exact .inl hx
  · rw [if_neg h, if_neg h] at hx
    split at hx
    · exact .inl hx
    · rcases List.mem_append.1 hx with hx | hx
      · exact .inl hx
      · exact .inr ⟨List.mem_singleton.1 hx, addE_may (Decidable.not_not.1 h)⟩
theorem keepL_len {gs : List Grd} {g : Grd} (h : gs.length ≤ 16) : (keepL gs g).length ≤ 16 := by
  unfold keepL addL
  by_cases h0 : addE gs g ≠ 0
  · rw [if_pos h0]; exact h
  · rw [if_neg h0, if_neg h0]
    rcases addE_room (Decidable.not_not.1 h0) with h1 | h1
    · rw [if_pos h1]; exact h
    · split
      · exact h
      · rw [List.length_append, List.length_singleton]; omega
theorem keepL_ok {gs : List Grd} {g : Grd} (h : addE gs g = 0) : keepL gs g = addL gs g := by unfold keepL; rw [if_neg (by simp [h])]
theorem keepL_no {gs : List Grd} {g : Grd} (h : addE gs g ≠ 0) : keepL gs g = gs := by unfold keepL; rw [if_pos h]
/-- A guard that may be is in order. -/
theorem mayG_q {g : Grd} (h : mayG g = 0) : g.2.2.1.map normC = g.2.2.1 := by
  unfold mayG at h
  by_cases h1 : g.2.1 < 0 ∨ 1048576 < g.2.1
  · rw [if_pos h1] at h; cases h
  rw [if_neg h1] at h
  by_cases h2 : g.2.2.2 = true
  · rw [if_pos h2] at h
    by_cases h3 : mayQ g.2.2.1 = 0
    · exact norm_of_ok h3
    · rw [if_neg (fun h => h3 h.1)] at h; exact absurd h h3
  · rw [if_neg h2] at h
    by_cases h3 : mayN g.1 = false
    · rw [if_pos h3] at h; cases h
    rw [if_neg h3] at h
    by_cases h4 : 0 < g.2.2.1.length
    · rw [if_pos h4] at h; cases h
    · rw [List.eq_nil_of_length_eq_zero (by omega : g.2.2.1.length = 0)]; rfl
theorem mayG_len {g : Grd} (h : mayG g = 0) : g.2.2.1.length ≤ 4 ∧ ∀ c ∈ g.2.2.1, c.tags.length ≤ 4 ∧ c.types.length ≤ 4 := by
  unfold mayG at h
  by_cases h1 : g.2.1 < 0 ∨ 1048576 < g.2.1
  · rw [if_pos h1] at h; cases h
  rw [if_neg h1] at h
  by_cases h2 : g.2.2.2 = true
  · rw [if_pos h2] at h
    by_cases h3 : mayQ g.2.2.1 = 0
    · obtain ⟨h4, h5⟩ := mayQ_ok.1 h3
      refine ⟨h4, fun c hc => ?_⟩
      have := (h5 c hc).1
      unfold bigC at this
      simp only [Bool.or_eq_false_iff, decide_eq_false_iff_not] at this
      omega
    · rw [if_neg (fun h => h3 h.1)] at h; exact absurd h h3
  · rw [if_neg h2] at h
    by_cases h3 : mayN g.1 = false
    · rw [if_pos h3] at h; cases h
    rw [if_neg h3] at h
    by_cases h4 : 0 < g.2.2.1.length
    · rw [if_pos h4] at h; cases h
    · have h5 : g.2.2.1 = [] := List.eq_nil_of_length_eq_zero (by omega)
      rw [h5]
      exact ⟨by simp, by simp⟩
/-- A guard whose texts are no greater than a machine's. -/
def GrdIn (g : Grd) : Prop := g.1.size ≤ maxLen ∧ ∀ c ∈ g.2.2.1, goodClause c

/-! ## What a session does -/
def gRead (es : List Event) (at_ : Nat) (s : ByteArray) : Grd := (s, (verR es s at_ : Int), [], false)
def gAsk (at_ : Nat) (q : List Clause) : Grd := (⟨#[]⟩, (at_ : Int), q, true)
/-- What an append comes to. -/
def appE (es : List Event) (at_ : Nat) (gs : List Grd) (vs : List Event) (v : Event) (n : Int) : Int :=
  if mayE v ≠ 0 then mayE v else if 16 ≤ vs.length then 3 else if n < -1 then 1
  else if 0 ≤ n ∧ n ≠ (verR es v.stream at_ : Int) + (cntS vs v.stream : Int) then 23
  else if 0 ≤ n then addE gs (gRead es at_ v.stream) else 0
def appG (es : List Event) (at_ : Nat) (gs : List Grd) (vs : List Event) (v : Event) (n : Int) : List Grd :=
  if appE es at_ gs vs v n = 0 ∧ 0 ≤ n then keepL gs (gRead es at_ v.stream) else gs
def appV (es : List Event) (at_ : Nat) (gs : List Grd) (vs : List Event) (v : Event) (n : Int) : List Event :=
  if appE es at_ gs vs v n = 0 then vs ++ [v] else vs
def chkE (es : List Event) (gs : List Grd) (vs : List Event) : Int := if vs.length = 0 then 22 else if gs.any (fun g => !holdsR es g) = true then 20 else 0
theorem appE_ok {es : List Event} {at_ : Nat} {gs : List Grd} {vs : List Event} {v : Event} {n : Int} (h : appE es at_ gs vs v n = 0) : mayE v = 0 ∧ vs.length < 16 := by
  unfold appE at h
  by_cases h1 : mayE v ≠ 0
  · rw [if_pos h1] at h; exact absurd h h1
  rw [if_neg h1] at h
  by_cases h2 : 16 ≤ vs.length
  · rw [if_pos h2] at h; cases h
  exact ⟨Decidable.not_not.1 h1, by omega⟩
theorem appV_len {es : List Event} {at_ : Nat} {gs : List Grd} {vs : List Event} {v : Event} {n : Int} (h : vs.length ≤ 16) : (appV es at_ gs vs v n).length ≤ 16 := by
  unfold appV
  split
  · rename_i h0
    have := (appE_ok h0).2
    rw [List.length_append, List.length_singleton]; omega
  · exact h
theorem appG_len {es : List Event} {at_ : Nat} {gs : List Grd} {vs : List Event} {v : Event} {n : Int} (h : gs.length ≤ 16) : (appG es at_ gs vs v n).length ≤ 16 := by
  unfold appG
  split
  · exact keepL_len h
  · exact h
end Go.Proofs.YtfoghahidofegaaGreat

namespace Go.Proofs.YtfoghahidofegaaGreat
open Go.RowKit

theorem infoGuard : (Tryz.prog.info? 52).map (fun i => (i.zero, i.size, i.bytes)) = some (some (.agg #[.string ByteArray.empty, .int .i64 0, .slice none 0 0, .bool false]), 4, 56) := by kernel_rfl
theorem isEmptyB (s : ByteArray) : s.toList.isEmpty = decide (s = ⟨#[]⟩) := by
  rw [← strEqL s ⟨#[]⟩, Lib.toList_data, Lib.toList_data]
  show s.data.toList.isEmpty = (s.data.toList == [])
  cases s.data.toList <;> rfl
set_option maxHeartbeats 4000000 in
set_option maxRecDepth 8000 in
theorem guardMay_any {w : World} {s : ByteArray} {v : Int} {q : List Clause} {a : Bool} {Q : Option Addr} {cq : Nat} (hq : SlC w Q cq q) (hg : ∀ c ∈ q, ∀ t ∈ c.tags, t.size ≤ maxLen) :
    Calls Tryz.prog 68 #[.agg #[.string s, .int .i64 v, .slice Q q.length cq, .bool a]] w fun r w' => r = .returned (.int .i64 (mayG (s, v, q, a))) ∧ Below w.heap.size w w' := by
  obtain ⟨W1, hW1⟩ : ∃ W1, W1 = w.alloc (.cells #[.string s, .int .i64 v, .slice Q q.length cq, .bool a] 52) := ⟨_, rfl⟩
  have HW1 := Lib.hid hW1
  have hb1 : Below w.heap.size w W1 := by rw [hW1]; exact (Below.refl _ _).alloc (Nat.le_refl _) _
  have hx : Bx W1 w.heap.size 52 [.string s, .int .i64 v, .slice Q q.length cq, .bool a] := by rw [hW1]; exact Bx.new w _ _
  have HB1 := Lib.hid hb1
  have HX := Lib.hid hx
  obtain ⟨m, hm⟩ : ∃ m, mayQ q = m := ⟨_, rfl⟩
  obtain ⟨n, hn⟩ : ∃ n, mayN s = n := ⟨_, rfl⟩
  have C1 : Hid (Calls Tryz.prog 100 #[.agg #[.slice Q q.length cq]] W1 fun e w' => e = .returned (.int .i64 m) ∧ Below W1.heap.size W1 w') := Lib.hid (by rw [← hm]; exact mayQ_any' (hq.below hb1) hg)
  have C2 : Hid (Calls Tryz.prog 101 #[.string s] W1 fun e w' => e = .returned (.bool n) ∧ Below W1.heap.size W1 w') := Lib.hid (by rw [← hn]; exact nameMay_any s W1)
  have k0 := hx.cell 0
  have k1 := hx.cell 1
  have k2 := hx.cell 2
  have k3 := hx.cell 3
  simp only [List.getElem?_cons_succ, List.getElem?_cons_zero] at k0 k1 k2 k3
  obtain ⟨R, hR⟩ : ∃ R, mayG (s, v, q, a) = R := ⟨_, rfl⟩
  rw [hR]
  unfold mayG at hR
  simp only [hm, hn] at hR
  have hq := isEmptyB s
  obtain ⟨l, hl⟩ : ∃ l, q.length = l := ⟨_, rfl⟩
  rw [hl] at k2 C1 hR
  clear hb1 hx hg hm hn
  have HL := Lib.hid hl
  rw [hl] at hW1 HX HW1 ⊢
  clear hl
  by_cases h1 : v < 0
  · rw [if_pos (Or.inl h1)] at hR
    subst hR
    have d1 : decide (v < 0) = true := decide_eq_true h1
    go_enter Tryz.func68, Tryz.ntmps68
    go_upto_region 1 with fail
    rw [← HW1.out]
    clear hW1
    go_wp2_with fail
    go_ret
    exact ⟨rfl, HB1.out⟩
  have d1 : decide (v < 0) = false := decide_eq_false h1
  by_cases h2 : 1048576 < v
  · rw [if_pos (Or.inr h2)] at hR
    subst hR
    have d2 : decide (1048576 < v) = true := decide_eq_true h2
    go_enter Tryz.func68, Tryz.ntmps68
    go_upto_region 1 with fail
    rw [← HW1.out]
    clear hW1
    go_wp2_with fail
    go_ret
    exact ⟨rfl, HB1.out⟩
  have d2 : decide (1048576 < v) = false := decide_eq_false h2
  rw [if_neg (fun h => h.elim h1 h2)] at hR
  cases a with
  | true =>
    simp only [if_true] at hR
    by_cases h3 : m = 0
    · subst h3
      by_cases h4 : s = ⟨#[]⟩
      · rw [if_neg (by simp [h4])] at hR
        subst hR
        rw [decide_eq_true h4] at hq
        clear h4
        go_enter Tryz.func68, Tryz.ntmps68
        go_upto_region 1 with fail
        rw [← HW1.out]
        clear hW1
        go_wp2_with (go_at_call 100; go_fit C1.out; rintro r w2 ⟨rfl, hb2⟩; have HB2 := Lib.hid hb2; have j0 := (HX.out.under hb2).cell 0; simp only [List.getElem?_cons_zero] at j0; clear hb2)
        go_ret
        exact ⟨rfl, bthen HB1.out HB2.out⟩
      · rw [if_pos (by simp [h4])] at hR
        subst hR
        rw [decide_eq_false h4] at hq
        clear h4
        go_enter Tryz.func68, Tryz.ntmps68
        go_upto_region 1 with fail
        rw [← HW1.out]
        clear hW1
        go_wp2_with (go_at_call 100; go_fit C1.out; rintro r w2 ⟨rfl, hb2⟩; have HB2 := Lib.hid hb2; have j0 := (HX.out.under hb2).cell 0; simp only [List.getElem?_cons_zero] at j0; clear hb2)
        go_ret
        exact ⟨rfl, bthen HB1.out HB2.out⟩
    · rw [if_neg (fun h => h3 h.1)] at hR
      subst hR
      have d3 : (m == 0) = false := by simp [h3]
      go_enter Tryz.func68, Tryz.ntmps68
      go_upto_region 1 with fail
      rw [← HW1.out]
      clear hW1
      go_wp2_with (go_at_call 100; go_fit C1.out; rintro r w2 ⟨rfl, hb2⟩; have HB2 := Lib.hid hb2; clear hb2)
      go_ret
      exact ⟨rfl, bthen HB1.out HB2.out⟩
  | false =>
    rw [if_neg (by simp)] at hR
    cases n with
    | false =>
      rw [if_pos rfl] at hR
      subst hR
      go_enter Tryz.func68, Tryz.ntmps68
      go_upto_region 1 with fail
      rw [← HW1.out]
      clear hW1
      go_wp2_with (go_at_call 101; go_fit C2.out; rintro r w2 ⟨rfl, hb2⟩; have HB2 := Lib.hid hb2; clear hb2)
      go_ret
      exact ⟨rfl, bthen HB1.out HB2.out⟩
    | true =>
      rw [if_neg (by simp)] at hR
      by_cases h5 : 0 < l
      · rw [if_pos h5] at hR
        subst hR
        have d5 : decide (0 < l) = true := decide_eq_true h5
        go_enter Tryz.func68, Tryz.ntmps68
        go_upto_region 1 with fail
        rw [← HW1.out]
        clear hW1
        go_wp2_with (go_at_call 101; go_fit C2.out; rintro r w2 ⟨rfl, hb2⟩; have HB2 := Lib.hid hb2; have j2 := (HX.out.under hb2).cell 2; simp only [List.getElem?_cons_succ, List.getElem?_cons_zero] at j2; clear hb2)
        go_ret
        exact ⟨rfl, bthen HB1.out HB2.out⟩
      · rw [if_neg h5] at hR
        subst hR
        have d5 : decide (0 < l) = false := decide_eq_false h5
        go_enter Tryz.func68, Tryz.ntmps68
        go_upto_region 1 with fail
        rw [← HW1.out]
        clear hW1
        go_wp2_with (go_at_call 101; go_fit C2.out; rintro r w2 ⟨rfl, hb2⟩; have HB2 := Lib.hid hb2; have j2 := (HX.out.under hb2).cell 2; simp only [List.getElem?_cons_succ, List.getElem?_cons_zero] at j2; clear hb2)
        go_ret
        exact ⟨rfl, bthen HB1.out HB2.out⟩

theorem bx_set3 {w : World} {g : Nat} {t : TypeId} {a b c u0 u1 u2 : Value} (h : Bx w g t [a, b, c]) : Bx (((w.setCell ⟨g, 0, none⟩ u0).setCell ⟨g, 1, none⟩ u1).setCell ⟨g, 2, none⟩ u2) g t [u0, u1, u2] := ((h.set 0 u0).set 1 u1).set 2 u2
set_option maxHeartbeats 2000000 in
theorem keyOf_any {w : World} (s : ByteArray) (v : Int) (a : Bool) (Q : Option Addr) (n cq : Nat) :
    Calls Tryz.prog 70 #[.agg #[.string s, .int .i64 v, .slice Q n cq, .bool a]] w fun r w' => r = .returned (.agg #[.bool a, .string s, .int .i64 v]) ∧ Below w.heap.size w w' := by
  obtain ⟨W2, hW2⟩ : ∃ W2, W2 = (w.alloc (.cells #[.string s, .int .i64 v, .slice Q n cq, .bool a] 52)).alloc (.cells #[.bool false, .string ⟨#[]⟩, .int .i64 0] 121) := ⟨_, rfl⟩
  have HW2 := Lib.hid hW2
  have hb2 : Below w.heap.size w W2 := by rw [hW2]; exact ((Below.refl _ _).alloc (Nat.le_refl _) _).alloc (by simp) _
  have x1 : Bx W2 w.heap.size 52 [.string s, .int .i64 v, .slice Q n cq, .bool a] := by rw [hW2]; exact (Bx.new w _ _).alloc _
  have x2 : Bx W2 (w.heap.size + 1) 121 [.bool false, .string ⟨#[]⟩, .int .i64 0] := by
    rw [hW2]
    simpa using Bx.new (w.alloc (.cells #[.string s, .int .i64 v, .slice Q n cq, .bool a] 52)) 121 [.bool false, .string ⟨#[]⟩, .int .i64 0]
  have k0 := x1.cell 0
  have k1 := x1.cell 1
  have k3 := x1.cell 3
  have j0 := x2.cell 0
  have j1 := x2.cell 1
  have j2 := x2.cell 2
  simp only [List.getElem?_cons_succ, List.getElem?_cons_zero] at k0 k1 k3 j0 j1 j2
  have f0 := x2.free 0
  have f1 := x2.free 1
  have f2 := x2.free 2
  have HB2 := Lib.hid hb2
  have HX5 := Lib.hid (bx_set3 (u0 := .bool a) (u1 := .string s) (u2 := .int .i64 v) x2)
  have q0 := HX5.out.cell 0
  have q1 := HX5.out.cell 1
  have q2 := HX5.out.cell 2
  simp only [List.getElem?_cons_succ, List.getElem?_cons_zero] at q0 q1 q2
  clear hb2 x1 x2
  go_enter Tryz.func70, Tryz.ntmps70
  go_upto_region 1 with fail
  rw [← HW2.out]
  clear hW2
  go_wp2_with fail
  exact bodyPost_ret (v := .agg #[.bool a, .string s, .int .i64 v]) (by simp [results, Tryz.results70, go_sem, q0, q1, q2]) rfl ⟨rfl, ((HB2.out.setCell (by simp) _).setCell (by simp) _).setCell (by simp) _⟩
end Go.Proofs.YtfoghahidofegaaGreat

namespace Go.Proofs.YtfoghahidofegaaGreat
open Go.RowKit

set_option maxHeartbeats 2000000 in
theorem cloneG_any {ok : Nat → Prop} {A : Option Addr} {c : Nat} {l : List Grd} {w : World} (h : Sl kGuard ok w A c l) (hl : l.length ≤ 1000000) :
    Calls Tryz.prog 73 #[.slice A l.length c] w fun r w' => ∃ v, r = .returned v ∧ Own kGuard 52 w.heap.size (fun k => ok k ∧ k < w.heap.size) w' v l ∧ Below w.heap.size w w' := by
  have HO := Lib.hid (Own.lit0 kGuard 52 w.heap.size (fun k => ok k ∧ k < w.heap.size) w (Nat.le_refl _))
  have HR := Lib.hid (show Row kGuard (fun k => (ok k ∧ k < w.heap.size) ∧ some k ≠ (Value.slice (some ⟨w.heap.size, 0, none⟩) 0 0).ownBlock) (w.alloc (.cells #[] 52)) A l from
    (h.2.2.bound.below ((Below.refl _ _).alloc (Nat.le_refl _) _)).mono (fun k hk => ⟨hk, fun e1 => by have h2 := hk.2; simp [Value.ownBlock] at e1; omega⟩))
  cases A with
  | none =>
    obtain rfl := h.none_nil
    have hq := fun W => Lib.run_eql_slice_nil (P := Tryz.prog) W 50 _ none 0 c 0 0 Tryz.underlying50
    go_enter Tryz.func73, Tryz.ntmps73
    go_wp2_with fail
    go_ret
    exact ⟨_, rfl, Own.nil_ _ _ _ _ _, Below.refl _ _⟩
  | some ad =>
    clear h
    have hq := fun W => Lib.run_eql_slice_nil (P := Tryz.prog) W 50 _ (some ad) l.length c 0 0 Tryz.underlying50
    go_enter Tryz.func73, Tryz.ntmps73
    go_wp2_with (at_builtin; refine wpList_spread rfl _ _ _ rfl 52 _ 4 56 Tryz.underlying50 infoGuard rfl (by decide) (by decide) rfl w.heap.size (fun k => ok k ∧ k < w.heap.size) _ [] rfl HO.out l (some ad) c HR.out rfl (by simp) (by simp; omega) ?_; intro v1 w1 hown1 hg1 hat1 hbel1; have HO1 := Lib.hid (show Own kGuard 52 w.heap.size (fun k => ok k ∧ k < w.heap.size) w1 v1 l from hown1); have HB1 := Lib.hid (hbel1 w ((Below.refl _ _).alloc (Nat.le_refl _) _)); clear hown1 hg1 hat1 hbel1)
    go_ret
    exact ⟨v1, rfl, HO1.out, HB1.out⟩

theorem sameG_parts (s : ByteArray) (v : Int) (q : List Clause) (a : Bool) (s' : ByteArray) (v' : Int) (q' : List Clause) (a' : Bool) :
    sameG (s, v, q, a) (s', v', q', a') = (((decide (a = a') && decide (s = s')) && decide (v = v')) && decide (q = q')) := by
  unfold sameG
  rw [Bool.eq_iff_iff]
  simp only [Bool.and_eq_true, decide_eq_true_eq, Prod.mk.injEq]
  constructor
  · rintro ⟨h1, h2, h3, h4⟩; exact ⟨⟨⟨h4, h1⟩, h2⟩, h3⟩
  · rintro ⟨⟨⟨h4, h1⟩, h2⟩, h3⟩; exact ⟨h1, h2, h3, h4⟩
set_option maxHeartbeats 8000000 in
set_option maxRecDepth 8000 in
theorem gadd1_any {w : World} {b : Nat} {s s' : ByteArray} {v v' : Int} {q q' : List Clause} {a a' : Bool} {Q Q' : Option Addr} {cq cq' : Nat} (hb : Bx w b 52 [.string s', .int .i64 v', .slice Q' q'.length cq', .bool a']) (hq' : SlC w Q' cq' q') (hq : SlC w Q cq q) :
    Calls Tryz.prog 69 #[.agg #[.string s, .int .i64 v, .slice Q q.length cq, .bool a], .pointer (some ⟨b, 0, none⟩)] w fun r w' => r = .returned (.bool (sameG (s, v, q, a) (s', v', q', a'))) ∧ Below w.heap.size w w' := by
  obtain ⟨W1, hW1⟩ : ∃ W1, W1 = w.alloc (.cells #[.string s, .int .i64 v, .slice Q q.length cq, .bool a] 52) := ⟨_, rfl⟩
  have HW1 := Lib.hid hW1
  have hb1 : Below w.heap.size w W1 := by rw [hW1]; exact (Below.refl _ _).alloc (Nat.le_refl _) _
  have hx : Bx W1 w.heap.size 52 [.string s, .int .i64 v, .slice Q q.length cq, .bool a] := by rw [hW1]; exact Bx.new w _ _
  have hy := hb.under hb1
  have HB1 := Lib.hid hb1
  have HK := Lib.hid (fun W (hb : Below W1.heap.size W1 W) => show Below W1.heap.size W1 W ∧ W.cell? ⟨w.heap.size, 0, none⟩ = some (.string s) ∧ W.cell? ⟨w.heap.size, 1, none⟩ = some (.int .i64 v) ∧ W.cell? ⟨w.heap.size, 2, none⟩ = some (.slice Q q.length cq) ∧ W.cell? ⟨w.heap.size, 3, none⟩ = some (.bool a) ∧ W.cell? ⟨b, 0, none⟩ = some (.string s') ∧ W.cell? ⟨b, 1, none⟩ = some (.int .i64 v') ∧ W.cell? ⟨b, 2, none⟩ = some (.slice Q' q'.length cq') ∧ W.cell? ⟨b, 3, none⟩ = some (.bool a') from
    ⟨hb, (hx.under hb).cell 0, (hx.under hb).cell 1, (hx.under hb).cell 2, (hx.under hb).cell 3, (hy.under hb).cell 0, (hy.under hb).cell 1, (hy.under hb).cell 2, (hy.under hb).cell 3⟩)
  have C1 := Lib.hid (fun W (R : Prop) (_ : Below W1.heap.size W1 W ∧ R) => keyOf_any (w := W) s v a Q q.length cq)
  have C2 := Lib.hid (fun W (R : Prop) (_ : Below W1.heap.size W1 W ∧ R) => keyOf_any (w := W) s' v' a' Q' q'.length cq')
  have C3 := Lib.hid (fun W (R : Prop) (hW : Below W1.heap.size W1 W ∧ R) => Same_any ((hq.below hb1).below hW.1) ((hq'.below hb1).below hW.1))
  have he := strEqL s s'
  rw [sameG_parts]
  generalize decide (q = q') = b4 at C3 ⊢
  obtain ⟨l, hl⟩ : ∃ l, q.length = l := ⟨_, rfl⟩
  obtain ⟨l', hl'⟩ : ∃ l', q'.length = l' := ⟨_, rfl⟩
  rw [hl] at C1 C3 HK HW1 ⊢
  rw [hl'] at C2 C3 HK
  clear hb hq' hq hb1 hx hy hW1 hl hl'
  have hcase : ((a == a') = true ∧ (s.toList == s'.toList) = true ∧ (v == v') = true ∧ (decide (a = a') && decide (s = s') && decide (v = v')) = true) ∨ ((a == a') = false ∧ (decide (a = a') && decide (s = s') && decide (v = v')) = false) ∨ ((a == a') = true ∧ (s.toList == s'.toList) = false ∧ (decide (a = a') && decide (s = s') && decide (v = v')) = false) ∨ ((a == a') = true ∧ (s.toList == s'.toList) = true ∧ (v == v') = false ∧ (decide (a = a') && decide (s = s') && decide (v = v')) = false) := by
    rw [he]
    by_cases h1 : a = a'
    · by_cases h2 : s = s'
      · by_cases h3 : v = v'
        · exact .inl ⟨by simp [h1], by simp [h2], by simp [h3], by simp [h1, h2, h3]⟩
        · exact .inr (.inr (.inr ⟨by simp [h1], by simp [h2], by simp [h3], by simp [h3]⟩))
      · exact .inr (.inr (.inl ⟨by simp [h1], by simp [h2], by simp [h2]⟩))
    · exact .inr (.inl ⟨by simp [h1], by simp [h1]⟩)
  clear he
  rcases hcase with ⟨e1, e2, e3, e4⟩ | ⟨e1, e4⟩ | ⟨e1, e2, e4⟩ | ⟨e1, e2, e3, e4⟩
  · rw [e4]
    clear e4
    go_enter Tryz.func69, Tryz.ntmps69
    go_upto_region 1 with fail
    rw [← HW1.out]
    go_region_held3 (fun W => Below W1.heap.size W1 W ∧ W.cell? ⟨w.heap.size, 0, none⟩ = some (.string s) ∧ W.cell? ⟨w.heap.size, 1, none⟩ = some (.int .i64 v) ∧ W.cell? ⟨w.heap.size, 2, none⟩ = some (.slice Q l cq) ∧ W.cell? ⟨w.heap.size, 3, none⟩ = some (.bool a) ∧ W.cell? ⟨b, 0, none⟩ = some (.string s') ∧ W.cell? ⟨b, 1, none⟩ = some (.int .i64 v') ∧ W.cell? ⟨b, 2, none⟩ = some (.slice Q' l' cq') ∧ W.cell? ⟨b, 3, none⟩ = some (.bool a'))
      (first | exact HK.out _ (below_drawn (Below.refl _ _)) | (assumption) | exact HK.out _ (bthen (And.left (by assumption : Below W1.heap.size W1 _ ∧ _)) (by assumption)))
      (first
        | (go_at_call 71; go_fit (C3.out _ _ (by assumption)); rintro r w4 ⟨rfl, hb4⟩)
        | (go_at_call 70; go_fit (C1.out _ _ (by assumption)); rintro r w2 ⟨rfl, hb2⟩)
        | (go_at_call 70; go_fit (C2.out _ _ (by assumption)); rintro r w3 ⟨rfl, hb3⟩))
    all_goals go_wp2_with fail
    all_goals go_ret
    all_goals exact ⟨by first | rfl | simp, bthen HB1.out (And.left (by assumption : Below W1.heap.size W1 _ ∧ _))⟩
  all_goals
    rw [e4, Bool.false_and]
    clear e4
    go_enter Tryz.func69, Tryz.ntmps69
    go_upto_region 1 with fail
    rw [← HW1.out]
    refine wp_region_held_drew (S := (fun W => Below W1.heap.size W1 W ∧ W.cell? ⟨w.heap.size, 0, none⟩ = some (.string s) ∧ W.cell? ⟨w.heap.size, 1, none⟩ = some (.int .i64 v) ∧ W.cell? ⟨w.heap.size, 2, none⟩ = some (.slice Q l cq) ∧ W.cell? ⟨w.heap.size, 3, none⟩ = some (.bool a) ∧ W.cell? ⟨b, 0, none⟩ = some (.string s') ∧ W.cell? ⟨b, 1, none⟩ = some (.int .i64 v') ∧ W.cell? ⟨b, 2, none⟩ = some (.slice Q' l' cq') ∧ W.cell? ⟨b, 3, none⟩ = some (.bool a'))) (by kernel_rfl) (HK.out _ (below_drawn (Below.refl _ _))) (fun hHeld => ?_)
    refine wpAnyH_take (i := 0) (oi := { dst := some 4, op := Op.load 52 (Operand.tmp 2), type := 52, pos := "guard.go:61", after := #[], guard := none }) (v := ?_) rfl (by kernel_rfl) (by kernel_rfl) (by kernel_rfl) (fun _ _ _ h => h) (Or.inl ⟨by rfl, ?_⟩) (by assumption) ?_
    rotate_left
    · (intro W hSw; (try dsimp only at hSw); go_simp) <;> with_reducible rfl
    try simp only [Act.put, List.setIfInBounds_toArray, List.set_cons_zero, List.set_cons_succ]
    refine wpAnyH_take (i := 2) (oi := { dst := some 6, op := Op.load 52 (Operand.tmp 1), type := 52, pos := "guard.go:61", after := #[], guard := none }) (v := ?_) rfl (by kernel_rfl) (by kernel_rfl) (by kernel_rfl) (fun _ _ _ h => h) (Or.inl ⟨by rfl, ?_⟩) (by assumption) ?_
    rotate_left
    · (intro W hSw; (try dsimp only at hSw); go_simp) <;> with_reducible rfl
    try simp only [Act.put, List.setIfInBounds_toArray, List.set_cons_zero, List.set_cons_succ]
    refine wpAnyH_ready (rs := [1]) (by kernel_rfl) (by simp) ?_
    refine AllReadyH.cons (o := { dst := some 5, op := Op.call { callee := Callee.value (Operand.func 70), args := #[Operand.tmp 4], argTypes := #[52] }, type := 121, pos := "guard.go:61", after := #[{ on := 0, ground := Ground.data }], guard := none }) rfl (fun K hK => ?_) AllReadyH.nil
    go_simp
    go_at_call 70
    go_fit (C1.out _ _ (by assumption))
    rintro r w2 ⟨rfl, hb2⟩
    have HB2 := Lib.hid (bthen (below_drawn (Below.refl _ _)) hb2)
    clear hb2
    go_wp2_with fail
    refine hK.out _ _ (HK.out _ HB2.out) (fun hHeld1 => ?_)
    clear hK K
    try simp only [Act.put, List.setIfInBounds_toArray, List.set_cons_zero, List.set_cons_succ]
    refine wpAnyH_ready (rs := [3]) (by kernel_rfl) (by simp) ?_
    refine AllReadyH.cons (o := { dst := some 7, op := Op.call { callee := Callee.value (Operand.func 70), args := #[Operand.tmp 6], argTypes := #[52] }, type := 121, pos := "guard.go:61", after := #[{ on := 2, ground := Ground.data }, { on := 1, ground := Ground.chain }], guard := none }) rfl (fun K hK => ?_) AllReadyH.nil
    go_simp
    go_at_call 70
    go_fit (C2.out _ _ (by assumption))
    rintro r w3 ⟨rfl, hb3⟩
    have HB3 := Lib.hid (bthen HB2.out hb3)
    clear hb3
    go_wp2_with fail
    refine hK.out _ _ (HK.out _ HB3.out) (fun hHeld3 => ?_)
    clear hK K
    try simp only [Act.put, List.setIfInBounds_toArray, List.set_cons_zero, List.set_cons_succ]
    refine wpAnyH_take (i := 4) (oi := { dst := some 8, op := Op.binOp BinOp.eql 121 (Operand.tmp 5) (Operand.tmp 7) 121, type := 4, pos := "guard.go:61", after := #[{ on := 1, ground := Ground.data }, { on := 3, ground := Ground.data }], guard := none }) (v := ?_) rfl (by kernel_rfl) (by kernel_rfl) (by kernel_rfl) (fun _ _ _ h => h) (Or.inl ⟨by rfl, ?_⟩) (by assumption) ?_
    rotate_left
    · (intro W hSw; (try dsimp only at hSw); go_simp) <;> with_reducible rfl
    try simp only [Act.put, List.setIfInBounds_toArray, List.set_cons_zero, List.set_cons_succ]
    refine wpAnyH_take (i := 5) (oi := { dst := some 9, op := Op.move (Operand.tmp 8), type := 4, pos := "guard.go:61", after := #[{ on := 4, ground := Ground.data }, { on := 3, ground := Ground.chain }], guard := none }) (v := ?_) rfl (by kernel_rfl) (by kernel_rfl) (by kernel_rfl) (fun _ _ _ h => h) (Or.inl ⟨by rfl, ?_⟩) (by assumption) ?_
    rotate_left
    · (intro W hSw; (try dsimp only at hSw); go_simp) <;> with_reducible rfl
    try simp only [Act.put, List.setIfInBounds_toArray, List.set_cons_zero, List.set_cons_succ]
    refine wpAnyH_take (i := 6) (oi := { dst := some 10, op := Op.fieldAddr 52 (Operand.tmp 2) 2, type := 0, pos := "guard.go:61", after := #[{ on := 5, ground := Ground.guard }], guard := some (5, true) }) (v := undef) rfl (by kernel_rfl) (by kernel_rfl) (by kernel_rfl) (fun _ _ _ h => h) (Or.inr ⟨by rfl, rfl⟩) (by assumption) ?_
    try simp only [Act.put, List.setIfInBounds_toArray, List.set_cons_zero, List.set_cons_succ]
    refine wpAnyH_take (i := 7) (oi := { dst := some 11, op := Op.load 25 (Operand.tmp 10), type := 25, pos := "guard.go:61", after := #[{ on := 6, ground := Ground.data }, { on := 5, ground := Ground.guard }], guard := some (5, true) }) (v := undef) rfl (by kernel_rfl) (by kernel_rfl) (by kernel_rfl) (fun _ _ _ h => h) (Or.inr ⟨by rfl, rfl⟩) (by assumption) ?_
    try simp only [Act.put, List.setIfInBounds_toArray, List.set_cons_zero, List.set_cons_succ]
    refine wpAnyH_take (i := 8) (oi := { dst := some 12, op := Op.fieldAddr 52 (Operand.tmp 1) 2, type := 0, pos := "guard.go:61", after := #[{ on := 5, ground := Ground.guard }], guard := some (5, true) }) (v := undef) rfl (by kernel_rfl) (by kernel_rfl) (by kernel_rfl) (fun _ _ _ h => h) (Or.inr ⟨by rfl, rfl⟩) (by assumption) ?_
    try simp only [Act.put, List.setIfInBounds_toArray, List.set_cons_zero, List.set_cons_succ]
    refine wpAnyH_take (i := 9) (oi := { dst := some 13, op := Op.load 25 (Operand.tmp 12), type := 25, pos := "guard.go:61", after := #[{ on := 8, ground := Ground.data }, { on := 5, ground := Ground.guard }], guard := some (5, true) }) (v := undef) rfl (by kernel_rfl) (by kernel_rfl) (by kernel_rfl) (fun _ _ _ h => h) (Or.inr ⟨by rfl, rfl⟩) (by assumption) ?_
    try simp only [Act.put, List.setIfInBounds_toArray, List.set_cons_zero, List.set_cons_succ]
    refine wpAnyH_take (i := 10) (oi := { dst := some 14, op := Op.call { callee := Callee.value (Operand.func 71), args := #[Operand.tmp 11, Operand.tmp 13], argTypes := #[25, 25] }, type := 4, pos := "guard.go:61", after := #[{ on := 7, ground := Ground.data }, { on := 9, ground := Ground.data }, { on := 5, ground := Ground.chain }, { on := 5, ground := Ground.guard }], guard := some (5, true) }) (v := undef) rfl (by kernel_rfl) (by kernel_rfl) (by kernel_rfl) (fun _ _ _ h => h) (Or.inr ⟨by rfl, rfl⟩) (by assumption) ?_
    try simp only [Act.put, List.setIfInBounds_toArray, List.set_cons_zero, List.set_cons_succ]
    refine wpAnyH_take (i := 11) (oi := { dst := some 15, op := Op.pick (Operand.tmp 9) (Operand.tmp 14) (Operand.const (Value.bool false)), type := 4, pos := "guard.go:61", after := #[{ on := 5, ground := Ground.data }, { on := 10, ground := Ground.data }], guard := none }) (v := ?_) rfl (by kernel_rfl) (by kernel_rfl) (by kernel_rfl) (fun _ _ _ h => h) (Or.inl ⟨by rfl, ?_⟩) (by assumption) ?_
    rotate_left
    · (intro W hSw; (try dsimp only at hSw); go_simp) <;> with_reducible rfl
    try simp only [Act.put, List.setIfInBounds_toArray, List.set_cons_zero, List.set_cons_succ]
    refine wpAnyH_take (i := 12) (oi := { dst := some 3, op := Op.assign (Operand.tmp 15), type := 4, pos := "guard.go:61", after := #[{ on := 11, ground := Ground.data }, { on := 10, ground := Ground.chain }, { on := 0, ground := Ground.phase }, { on := 1, ground := Ground.phase }, { on := 2, ground := Ground.phase }, { on := 3, ground := Ground.phase }, { on := 4, ground := Ground.phase }, { on := 5, ground := Ground.phase }, { on := 6, ground := Ground.phase }, { on := 7, ground := Ground.phase }, { on := 8, ground := Ground.phase }, { on := 9, ground := Ground.phase }, { on := 10, ground := Ground.phase }, { on := 11, ground := Ground.phase }], guard := none }) (v := ?_) rfl (by kernel_rfl) (by kernel_rfl) (by kernel_rfl) (fun _ _ _ h => h) (Or.inl ⟨by rfl, ?_⟩) (by assumption) ?_
    rotate_left
    · (intro W hSw; (try dsimp only at hSw); go_simp) <;> with_reducible rfl
    try simp only [Act.put, List.setIfInBounds_toArray, List.set_cons_zero, List.set_cons_succ]
    refine wpAnyH_done (by kernel_rfl) ?_ _
    go_wp2_with fail
    go_ret
    exact ⟨rfl, bthen HB1.out HB3.out⟩
end Go.Proofs.YtfoghahidofegaaGreat

namespace Go.Proofs.YtfoghahidofegaaGreat
open Go.RowKit

theorem kGuard_mk {ok : Nat → Prop} {w : World} {s : ByteArray} {v : Int} {q : List Clause} {a : Bool} {Q : Option Addr} {cq : Nat} (h : Sl kClause ok w Q cq q) : kGuard.K ok w (s, v, q, a) [.string s, .int .i64 v, .slice Q q.length cq, .bool a] :=
  ⟨[_], _, rfl, rfl, [_], _, rfl, rfl, [_], [_], rfl, ⟨Q, cq, rfl, h.1, h.2.1, h.2.2⟩, rfl⟩
theorem bx_set42 {w : World} {g : Nat} {t : TypeId} {a b c d u : Value} (h : Bx w g t [a, b, c, d]) : Bx (w.setCell ⟨g, 2, none⟩ u) g t [a, b, u, d] := h.set 2 u
set_option maxHeartbeats 8000000 in
set_option maxRecDepth 8000 in
theorem guardAdd_any {w : World} {ok : Nat → Prop} {A : Option Addr} {c : Nat} {gs : List Grd} (hA : Sl kGuard ok w A c gs) (hlen : gs.length ≤ 1000000) {s : ByteArray} {v : Int} {q : List Clause} {a : Bool} {Q : Option Addr} {cq : Nat} (hq : SlC w Q cq q) (hg : ∀ c ∈ q, ∀ t ∈ c.tags, t.size ≤ maxLen) :
    Calls Tryz.prog 25 #[.slice A gs.length c, .agg #[.string s, .int .i64 v, .slice Q q.length cq, .bool a]] w fun r w' => ∃ (A' : Option Addr) (c' : Nat), r = .returned (.tuple #[.slice A' (addL gs (s, v, q, a)).length c', .int .i64 (addE gs (s, v, q, a))]) ∧
      Sl kGuard (fun k => ok k ∨ w.heap.size ≤ k) w' A' c' (addL gs (s, v, q, a)) ∧ Below w.heap.size w w' := by
  obtain ⟨W1, hW1⟩ : ∃ W1, W1 = w.alloc (.cells #[.string s, .int .i64 v, .slice Q q.length cq, .bool a] 52) := ⟨_, rfl⟩
  have HW1 := Lib.hid hW1
  have hb1 : Below w.heap.size w W1 := by rw [hW1]; exact (Below.refl _ _).alloc (Nat.le_refl _) _
  have hx : Bx W1 w.heap.size 52 [.string s, .int .i64 v, .slice Q q.length cq, .bool a] := by rw [hW1]; exact Bx.new w _ _
  have hs1 : W1.heap.size = w.heap.size + 1 := by rw [hW1]; simp
  have HS1 := Lib.hid hs1
  have HB1 := Lib.hid hb1
  have HX := Lib.hid hx
  have HK := Lib.hid (fun W (hb : Below W1.heap.size W1 W) => show W.cell? ⟨w.heap.size, 0, none⟩ = some (.string s) ∧ W.cell? ⟨w.heap.size, 1, none⟩ = some (.int .i64 v) ∧ W.cell? ⟨w.heap.size, 2, none⟩ = some (.slice Q q.length cq) ∧ W.cell? ⟨w.heap.size, 3, none⟩ = some (.bool a) from
    ⟨(hx.under hb).cell 0, (hx.under hb).cell 1, (hx.under hb).cell 2, (hx.under hb).cell 3⟩)
  obtain ⟨m, hm⟩ : ∃ m, mayG (s, v, q, a) = m := ⟨_, rfl⟩
  obtain ⟨h, hh⟩ : ∃ h, hasG gs (s, v, q, a) = h := ⟨_, rfl⟩
  have CM : Hid (Calls Tryz.prog 68 #[.agg #[.string s, .int .i64 v, .slice Q q.length cq, .bool a]] W1 fun r w' => r = .returned (.int .i64 m) ∧ Below W1.heap.size W1 w') := Lib.hid (by rw [← hm]; exact guardMay_any (hq.below hb1) hg)
  have CC : Hid (∀ W, Below W1.heap.size W1 W → Calls Tryz.prog 72 #[.slice A gs.length c, .func (.func 69) #[] #[.pointer (some ⟨w.heap.size, 0, none⟩)]] W fun r w' => r = .returned (.bool h) ∧ Below W.heap.size W w') := Lib.hid (fun W hW => by
    rw [← hh]
    exact containsFuncG_in ((hA.any.below hb1).below hW) 69 #[.pointer (some ⟨w.heap.size, 0, none⟩)] (fun x => sameG x (s, v, q, a)) (fun args W => enters_of Tryz.func69 (by kernel_rfl) rfl args W)
      (fun x _ W' Q' cq' hW' hQ' => gadd1_any (hx.under (bthen hW hW')) ((hq.below hb1).below (bthen hW hW')) hQ'))
  have CL := Lib.hid (fun W (hW : Below W1.heap.size W1 W) => cloneG_any ((hA.bound.below hb1).below hW) hlen)
  have CN : Hid (m = 0 → ∀ W, Below W1.heap.size W1 W → Calls Tryz.prog 74 #[.agg #[.slice Q q.length cq]] W fun r w' => ∃ A c, r = .returned (.agg #[.slice A q.length c]) ∧ Sl kClause (fun k => W.heap.size ≤ k) w' A c q ∧ Below W.heap.size W w') := Lib.hid (fun h0 W hW => by
    have h1 := mayG_q (g := (s, v, q, a)) (hm.trans h0)
    have h2 := mayG_len (g := (s, v, q, a)) (hm.trans h0)
    simp only at h1 h2
    have := Norm_any ((hq.below hb1).below hW) (by omega) (fun c hc => by have := h2.2 c hc; omega)
    rw [h1] at this
    exact this)
  have hE : addE gs (s, v, q, a) = if m ≠ 0 then m else if h = true then 0 else if 16 ≤ gs.length then 3 else 0 := by unfold addE; rw [hm, hh]
  have hL : addL gs (s, v, q, a) = if addE gs (s, v, q, a) ≠ 0 then [] else if h = true then gs else gs ++ [(s, v, q, a)] := by unfold addL; rw [hh]
  obtain ⟨E, hEE⟩ : ∃ E, addE gs (s, v, q, a) = E := ⟨_, rfl⟩
  obtain ⟨L, hLL⟩ : ∃ L, addL gs (s, v, q, a) = L := ⟨_, rfl⟩
  rw [hLL, hEE] at hL
  rw [hEE] at hE
  rw [hLL, hEE]
  have hc1 := hA.1
  have hc2 := hA.2.1
  unfold maxLen at hc2
  have HA := Lib.hid hA
  have HLEN := Lib.hid hlen
  obtain ⟨k0, k1, k2, k3⟩ := HK.out W1 (Below.refl _ _)
  clear hA hq hg hb1 hx hs1 hm hh hEE hLL hlen
  by_cases hm0 : m = 0
  · subst hm0
    rw [if_neg (by simp)] at hE
    cases h with
    | true =>
      rw [if_pos rfl] at hE
      rw [hE, if_neg (by simp), if_pos rfl] at hL
      subst hE hL
      go_enter Tryz.func25, Tryz.ntmps25
      go_upto_region 1 with fail
      rw [← HW1.out]
      clear hW1
      go_wp2_with (first
        | (go_at_call 68; go_fit CM.out; rintro r w2 ⟨rfl, hb2⟩; have HB2 := Lib.hid hb2; clear hb2)
        | (go_at_call 72; go_fit (CC.out _ HB2.out); rintro r w3 ⟨rfl, hb3⟩; have HB3 := Lib.hid (bthen HB2.out hb3); clear hb3)
        | (go_at_call 73; go_fit (CL.out _ HB3.out); rintro r w4 ⟨v4, rfl, ho4, hb4⟩; obtain ⟨A4, c4, hv4, hs4⟩ := ho4.sl; subst hv4; have HS4 := Lib.hid hs4; have HB4 := Lib.hid hb4; clear ho4 hs4 hb4))
      go_ret2
      exact ⟨A4, c4, rfl, HS4.out.mono (fun k hk => hk.elim (fun h => .inl h.1.1) (fun h => .inr (by have := HB1.out.size; have := HB3.out.size; omega))), bthen HB1.out (bthen HB3.out HB4.out)⟩
    | false =>
      rw [if_neg (by simp)] at hE
      by_cases h16 : 16 ≤ gs.length
      · rw [if_pos h16] at hE
        rw [hE, if_pos (by simp)] at hL
        subst hE hL
        have d16 : decide (16 ≤ gs.length) = true := decide_eq_true h16
        go_enter Tryz.func25, Tryz.ntmps25
        go_upto_region 1 with fail
        rw [← HW1.out]
        clear hW1
        go_wp2_with (first
          | (go_at_call 68; go_fit CM.out; rintro r w2 ⟨rfl, hb2⟩; have HB2 := Lib.hid hb2; clear hb2)
          | (go_at_call 72; go_fit (CC.out _ HB2.out); rintro r w3 ⟨rfl, hb3⟩; have HB3 := Lib.hid (bthen HB2.out hb3); clear hb3))
        go_ret2
        exact ⟨none, 0, rfl, Sl.nil_, bthen HB1.out HB3.out⟩
      · rw [if_neg h16] at hE
        rw [hE, if_neg (by simp), if_neg (by simp)] at hL
        subst hE hL
        have d16 : decide (16 ≤ gs.length) = false := decide_eq_false h16
        go_enter Tryz.func25, Tryz.ntmps25
        go_upto_region 1 with fail
        rw [← HW1.out]
        clear hW1
        go_upto_region 10 with (first
          | (go_at_call 68; go_fit CM.out; rintro r w2 ⟨rfl, hb2⟩; have HB2 := Lib.hid hb2; clear hb2)
          | (go_at_call 72; go_fit (CC.out _ HB2.out); rintro r w3 ⟨rfl, hb3⟩; have HB3 := Lib.hid (bthen HB2.out hb3); obtain ⟨a0, a1, a2, a3⟩ := HK.out _ (bthen HB2.out hb3); clear hb3)
          | (go_at_call 74; go_fit (CN.out (by simp) _ HB3.out); rintro r w4 ⟨Q4, cq4, rfl, hq4, hb4⟩; have HQ4 := Lib.hid hq4; have HB4 := Lib.hid (bthen HB3.out hb4); have f4 := (HX.out.under (bthen HB3.out hb4)).free 2; obtain ⟨b0, b1, b2, b3⟩ := HK.out _ (bthen HB3.out hb4); clear hq4 hb4))
        have hx5 := bx_set42 (u := .slice Q4 q.length cq4) (HX.out.under HB4.out)
        have hb5 : Below w.heap.size w (w4.setCell ⟨w.heap.size, 2, none⟩ (.slice Q4 q.length cq4)) := Below.setCell (bthen HB1.out HB4.out) (Nat.le_refl _) _
        have hq5 : Sl kClause (fun k => w3.heap.size ≤ k ∧ k < w4.heap.size) (w4.setCell ⟨w.heap.size, 2, none⟩ (.slice Q4 q.length cq4)) Q4 cq4 q := HQ4.out.bound.setCell (fun k hk => by have := HB3.out.size; have := HS1.out; show k ≠ w.heap.size; omega) _
        have hz5 : (w4.setCell ⟨w.heap.size, 2, none⟩ (.slice Q4 q.length cq4)).heap.size = w4.heap.size := by simp [World.setCell]
        have h34 := HB3.out.size
        have hA5 : Sl kGuard (fun k => ok k ∧ k < w.heap.size) (w4.setCell ⟨w.heap.size, 2, none⟩ (.slice Q4 q.length cq4)) A c gs := (HA.out.bound.stay hb5.size (fun k hk _ => hb5.block k hk.2))
        generalize (w4.setCell ⟨w.heap.size, 2, none⟩ (.slice Q4 q.length cq4)) = w5 at hx5 hb5 hq5 hz5 hA5 ⊢
        clear b0 b1 b2 b3 a0 a1 a2 a3 k0 k1 k2 k3 f4
        have H34 := Lib.hid h34
        have HZ5 := Lib.hid hz5
        have HB5 := Lib.hid hb5
        have HX5 := Lib.hid hx5
        have HQ5 := Lib.hid hq5
        have hlw : w.heap.size < w5.heap.size := hx5.lt
        have CL5 := Lib.hid (fun W (hW : Below w5.heap.size w5 W) => (cloneG_any (hA5.below hW) HLEN.out).mono (R' := fun r w' => ∃ v, r = .returned v ∧ Own kGuard 52 w5.heap.size (fun k => (ok k ∨ w.heap.size ≤ k) ∧ k < w5.heap.size) w' v gs ∧ Below w5.heap.size w5 w' ∧ Below W.heap.size W w' ∧ ∀ k, v.ownBlock = some k → W.heap.size ≤ k) (fun r w' ⟨v, e, ho, hb⟩ => ⟨v, e, (ho.lower hW.size).mono (fun k hk => ⟨.inl hk.1.1, by have := hk.1.2; omega⟩), bthen hW hb, hb, ho.base_le⟩))
        have HAZ := Lib.hid (fun o => show (w5.alloc o).drew.heap.size = w5.heap.size + 1 by show (w5.alloc o).heap.size = _; simp)
        have HK5 := Lib.hid (fun W (hb : Below w5.heap.size w5 W) => show W.cell? ⟨w.heap.size, 0, none⟩ = some (.string s) ∧ W.cell? ⟨w.heap.size, 1, none⟩ = some (.int .i64 v) ∧ W.cell? ⟨w.heap.size, 2, none⟩ = some (.slice Q4 q.length cq4) ∧ W.cell? ⟨w.heap.size, 3, none⟩ = some (.bool a) from
          ⟨(HX5.out.under hb).cell 0, (HX5.out.under hb).cell 1, (HX5.out.under hb).cell 2, (HX5.out.under hb).cell 3⟩)
        have HKE := Lib.hid (fun W (hb : Below w5.heap.size w5 W) => show kGuard.K (fun k => (ok k ∨ w.heap.size ≤ k) ∧ k < w5.heap.size) W (s, v, q, a) [.string s, .int .i64 v, .slice Q4 q.length cq4, .bool a] from kGuard_mk ((HQ5.out.below hb).mono (fun k hk => ⟨.inr (by have := hk.1; have := HB1.out.size; have := H34.out; omega), by have := HZ5.out; omega⟩)))
        obtain ⟨k0, k1, k2, k3⟩ := HK5.out w5 (Below.refl _ _)
        clear hx5 hb5 hq5 hz5 hA5 h34
        go_region_law
          (first
            | (refine step_pushO rfl _ _ _ rfl 52 _ 4 56 Tryz.underlying50 infoGuard rfl (by decide) (by decide) rfl w5 (fun k => (ok k ∨ w.heap.size ≤ k) ∧ k < w5.heap.size) (fun k hk => hk.2) _ gs rfl (HO6.out.alloc _) (s, v, q, a) [.string s, .int .i64 v, .slice Q4 q.length cq4, .bool a] w6.heap.size (Bx.new w6 _ _) (fun e1 => by have := HO6.out.block_lt _ e1.symm; omega) (HKE.out _ (below_made HB6.out (Nat.le_refl _) _)) True (by first | exact ⟨below_made HB6.out (Nat.le_refl _) _, trivial⟩ | exact ⟨HB6.out, trivial⟩) rfl (by have := HLEN.out; omega) ?_; intro v7 w7 hown7 hbel7; have HB7 := Lib.hid hbel7; obtain ⟨A7, c7, hv7, hsl7⟩ := hown7.sl; subst hv7; have HSL7 := Lib.hid (show Sl kGuard (fun k => ok k ∨ w.heap.size ≤ k) w7 A7 c7 (gs ++ [(s, v, q, a)]) from hsl7.mono (fun k hk => hk.elim (fun h => h.elim (fun h => h.1) (fun h => .inr (by have := HB6.out.size; omega))) (fun h => .inr (by omega)))); clear hown7 hbel7 hsl7)
            | (refine step_pushO rfl _ _ _ rfl 52 _ 4 56 Tryz.underlying50 infoGuard rfl (by decide) (by decide) rfl w5 (fun k => (ok k ∨ w.heap.size ≤ k) ∧ k < w5.heap.size) (fun k hk => hk.2) _ gs rfl HO6.out (s, v, q, a) [.string s, .int .i64 v, .slice Q4 q.length cq4, .bool a] w5.heap.size KB6.out.1 KB6.out.2 (HKE.out _ HB6.out) True ⟨HB6.out, trivial⟩ rfl (by have := HLEN.out; omega) ?_; intro v7 w7 hown7 hbel7; have HB7 := Lib.hid hbel7; obtain ⟨A7, c7, hv7, hsl7⟩ := hown7.sl; subst hv7; have HSL7 := Lib.hid (show Sl kGuard (fun k => ok k ∨ w.heap.size ≤ k) w7 A7 c7 (gs ++ [(s, v, q, a)]) from hsl7.mono (fun k hk => hk.elim (fun h => h.elim (fun h => h.1) (fun h => .inr (by omega))) (fun h => .inr (by omega)))); clear hown7 hbel7 hsl7)
            | (go_simp; go_at_call 73; go_fit (CL5.out _ (by first | exact below_drawn (Below.refl _ _) | exact below_made (below_drawn (Below.refl _ _)) (Nat.le_refl _) _ | exact below_drawn (below_made (Below.refl _ _) (Nat.le_refl _) _))); rintro r w6 ⟨v6, rfl, ho6, hb6, hbW6, hlo6⟩; have HO6 := Lib.hid ho6; have HB6 := Lib.hid hb6; obtain ⟨c0, c1, c2, c3⟩ := HK5.out _ hb6; have l6 := hb6.size; (first | (have KB6 : Hid (Bx w6 w5.heap.size 52 [.string s, .int .i64 v, .slice Q4 q.length cq4, .bool a] ∧ some w5.heap.size ≠ v6.ownBlock) := Lib.hid ⟨Bx.under (by exact heap_alloc_new w5 _) hbW6, fun e => by have h9 := hlo6 _ e.symm; rw [HAZ.out] at h9; omega⟩) | skip); clear ho6 hb6 hbW6 hlo6))
        all_goals go_wp2_with fail
        all_goals go_ret2
        all_goals exact ⟨A7, c7, by rw [List.length_append]; rfl, HSL7.out, bthen HB5.out HB7.out⟩
  · rw [if_pos hm0] at hE
    rw [hE, if_pos hm0] at hL
    subst hE hL
    have d0 : (E == 0) = false := by simp [hm0]
    go_enter Tryz.func25, Tryz.ntmps25
    go_upto_region 1 with fail
    rw [← HW1.out]
    clear hW1
    go_wp2_with (first
      | (go_at_call 68; go_fit CM.out; rintro r w2 ⟨rfl, hb2⟩; have HB2 := Lib.hid hb2; clear hb2))
    go_ret2
    exact ⟨none, 0, rfl, Sl.nil_, bthen HB1.out HB2.out⟩
end Go.Proofs.YtfoghahidofegaaGreat
