/- (*streams.Table).Names. -/
import Derived.Test.YteahpkihkfkpfaaLaw12a
import Derived.Test.YteahpkihkfkpfaaOrd
import Derived.Test.YteahpkihkfkpfaaIter
import Derived.Sort.KeysCollected
set_option linter.unusedVariables false
set_option linter.unusedSimpArgs false
namespace Go.Proofs.Yteahpkihkfkpfaa
open Go.RowKit Go.Maps

abbrev toB (l : List UInt8) : ByteArray := ⟨l.toArray⟩
theorem toB_toList (s : ByteArray) : toB s.data.toList = s := ByteArray.ext (Array.ext' (by simp))
/-- The names that a table tells. -/
structure Nms (f : ByteArray → List Int) (ns : List ByteArray) : Prop where
  mem : ∀ x, x ∈ ns ↔ f x ≠ []
  rise : ns.Pairwise ltB

theorem keys_of {w : World} {m N : Nat} {D : DataW Value} {ok : Nat → Prop} {f : ByteArray → List Int} (h : Mp w ok m N D f) : (strKeys D).Nodup ∧ (strKeys D).length = Maps.size D ∧ ∀ x, x ∈ strKeys D ↔ Maps.has D (.string x) = true := by
  obtain ⟨es, hD, hpw, _⟩ := h.om.entries (string_keyed Try.underlying9)
  obtain ⟨es', hD', hko⟩ := h.om.keysOf
  obtain rfl : es = es' := by rw [hD] at hD'; simpa using hD'
  subst hD
  have hk : ∀ p ∈ es, ∃ x, p.1 = .string x := fun p hp => by obtain ⟨v, hv⟩ := hko p hp; obtain ⟨x, _, hx, _⟩ := Maps.keyOf_str Try.underlying9 hv; exact ⟨x, hx⟩
  refine ⟨?_, by simp [strKeys, Maps.size], fun x => ?_⟩
  · show (es.map fun p => strOf p.1).Nodup
    refine List.pairwise_map.2 (hpw.imp_of_mem fun {p q} hp' hq' hne e => hne ?_)
    obtain ⟨a, ha⟩ := hk p hp'
    obtain ⟨b, hb⟩ := hk q hq'
    rw [ha, hb] at e ⊢
    exact congrArg _ e
  · rw [Maps.has_eq, List.any_eq_true]
    show x ∈ es.map (fun p => strOf p.1) ↔ _
    rw [List.mem_map]
    constructor
    · rintro ⟨p, hp', rfl⟩
      obtain ⟨a, ha⟩ := hk p hp'
      exact ⟨p, hp', by rw [ha]; simp [Lit.sameKey, strOf]⟩
    · rintro ⟨p, hp', hs⟩
      obtain ⟨a, ha⟩ := hk p hp'
      rw [ha] at hs
      exact ⟨p, hp', by rw [ha]; simpa [Lit.sameKey, strOf] using hs⟩

theorem nms_of {w : World} {m N : Nat} {D : DataW Value} {ok : Nat → Prop} {f : ByteArray → List Int} (h : Mp w ok m N D f) {ss : List (List UInt8)} (hp : ss.Perm (strKeys D)) :
    Nms f ((ss.mergeSort (fun x y => decide (x ≤ y))).map toB) := by
  obtain ⟨hnd, _, hm⟩ := keys_of h
  have tr : ∀ a b c : List UInt8, leB a b = true → leB b c = true → leB a c = true := fun a b c h1 h2 => by simp only [leB, decide_eq_true_eq] at *; exact List.le_trans h1 h2
  have tt : ∀ a b : List UInt8, (leB a b || leB b a) = true := fun a b => by simp only [leB, Bool.or_eq_true, decide_eq_true_eq]; exact List.le_total a b
  have hperm := List.mergeSort_perm ss (fun x y => decide (x ≤ y))
  refine ⟨fun x => ?_, ?_⟩
  · rw [List.mem_map]
    constructor
    · rintro ⟨l, hl, rfl⟩
      have : l ∈ strKeys D := hp.mem_iff.1 (hperm.mem_iff.1 hl)
      have := (hm l).1 this
      exact (h.has (toB l)).1 (by simpa using this)
    · intro hx
      exact ⟨x.data.toList, hperm.mem_iff.2 (hp.mem_iff.2 ((hm _).2 ((h.has x).2 hx))), toB_toList x⟩
  · rw [List.pairwise_map]
    have h1 := List.pairwise_mergeSort (le := leB) tr tt ss
    have h2 : (ss.mergeSort leB).Nodup := (hperm.nodup_iff).2 (hp.nodup_iff.2 hnd)
    refine (List.Pairwise.and h1 h2).imp ?_
    rintro a b ⟨h3, h4⟩
    simp only [leB, decide_eq_true_eq] at h3
    show a.toArray.toList < b.toArray.toList
    rcases List.le_iff_lt_or_eq.1 h3 with h5 | h5
    · simpa using h5
    · exact absurd h5 h4

set_option maxHeartbeats 1000000 in
theorem Names_any {w : World} {b m N : Nat} {D : DataW Value} {last : Int} {f : ByteArray → List Int} {X : Nat → Prop} (h : Tb w b m N D last f X) (hN : N ≤ 900000) :
    Calls Try.prog 37 #[.pointer (some ⟨b, 0, none⟩)] w fun r w' => ∃ A c ns, r = .returned (.slice A ns.length c) ∧ Sl Kn.str (fun k => w.heap.size ≤ k) w' A c ns ∧ Nms f ns ∧ ns.length ≤ N ∧ Below w.heap.size w w' := by
  have hsz := h.mp.om.size_le
  obtain ⟨_, hkl, _⟩ := keys_of h.mp
  have hb1 : w.cell? ⟨b, 1, none⟩ = some (.map (some m)) := h.bx.cell 1
  have HM := Lib.hid h.mp
  refine (callsIn_wide (n := 6)).1 ?_
  have cK := fun mb W => Lit.mapsKeys mb W
  have cS := Lit.sortedKeys m N D RV w h.mp.om (by unfold maxLen; omega) (by omega)
  have hfK : Fence.wide.fn 64 := trivial
  have hfS : Fence.wide.fn 63 := trivial
  clear h
  refine callsIn_of_wp Try.func37 rfl trivial ?_ rfl
  simp only [Try.ntmps37, List.size_toArray, List.length_cons, List.length_nil, Nat.reduceAdd, Nat.reduceSub, Array.replicate_succ, Array.replicate_zero, List.push_toArray, List.append_toArray, List.nil_append, List.cons_append]
  gi_wp2_with (first
    | (gi_at_call 64; refine (cK _ _).mono ?_; rintro e w' ⟨rfl, rfl⟩)
    | (gi_at_call 63; refine cS.mono ?_; rintro e w' ⟨v, ss, rfl, hS, hrow, hnil, hb⟩))
  go_ret
  have hn := nms_of HM.out hS
  have hperm := List.mergeSort_perm ss (fun x y => decide (x ≤ y))
  generalize ss.mergeSort (fun x y => decide (x ≤ y)) = tt at hrow hn hperm
  have hlen : tt.length = ss.length := hperm.length_eq
  have hss : ss.length = size D := hS.length_eq.trans hkl
  have ho : Own Kn.str 9 w.heap.size (fun _ => False) w' v (tt.map toB) := by
    refine ⟨(tt.map toB).map (fun s => [Value.string s]), ?_, by simp, by simp; intro _ _; rfl, by simp [Value.oneCell'], fun j x hj => ⟨[.string x], by rw [List.getElem?_map, hj]; rfl, rfl⟩⟩
    have e1 : ((tt.map toB).map (fun s => [Value.string s])).flatten = tt.map encStr := by
      clear hrow hn hperm hlen
      induction tt with
      | nil => rfl
      | cons y ys ih => simp only [List.map_cons, List.flatten_cons, ih]; rfl
    rw [e1, List.length_map, hlen]
    exact ownsRow_base_a hrow (by simp)
  obtain ⟨A, c, rfl, hs⟩ := ho.sl
  exact ⟨A, c, tt.map toB, rfl, hs.mono (fun k hk => hk.elim False.elim id), hn, by rw [List.length_map, hlen, hss]; exact hsz, ((Below.refl _ w).alloc (Nat.le_refl _) _).trans (hb.mono (by simp))⟩
end Go.Proofs.Yteahpkihkfkpfaa
