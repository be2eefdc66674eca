/- A map of numbers by name: its state as Lean data. Own work. -/
import Derived.Test.YthinieokpgmfoaaBox
import Derived.Test.YthinieokpgmfoaaProg
import Derived.Test.YthinieokpgmfoaaUniq
import Derived.Test.YthinieokpgmfoaaIter
import Derived.Test.YthinieokpgmfoaaSlUniq
import Derived.Sort.KeysCollected
import Derived.Maps.OwnSet
import Derived.Maps.Views
set_option linter.unusedVariables false
set_option linter.unusedSimpArgs false
namespace Go.Proofs.Ythinieokpgmfoaa
open Go.RowKit Go.Maps Go.WideMaps Go.ChangeMaps

abbrev RVI : Value → Option (DataW Value × List MemPlace) := fun v => some (.held v, [])
abbrev keyB (s : ByteArray) : Lit := .string s.data.toList
theorem keyB_ne {s k : ByteArray} (h : k ≠ s) : keyB k ≠ keyB s := fun e => by
  injection e with e
  exact h (ByteArray.ext (Array.ext' e))
theorem zero_num (w : World) : (zeroValue 3).run Try.prog w = .ok (.int .i64 0) w := by kernel_rfl
/-- The last field's number of a name. -/
def lastF (l : List (ByteArray × Int)) (s : ByteArray) : Int := l.foldl (fun a x => if x.1 = s then x.2 else a) 0
theorem lastF_snoc (l : List (ByteArray × Int)) (x : ByteArray × Int) (s : ByteArray) : lastF (l ++ [x]) s = if x.1 = s then x.2 else lastF l s := by
  simp [lastF, List.foldl_append]
/-- A map of the numbers of fields, in block m. -/
structure Mi (w : World) (m N : Nat) (D : DataW Value) (l : List (ByteArray × Int)) : Prop where
  om : w.ownsMap Try.prog 9 RVI m N D
  val : ∀ s, D.atKey (keyB s) (.held (.int .i64 0)) = .held (.int .i64 (lastF l s))
  has : ∀ s, Maps.has D (keyB s) = true ↔ s ∈ l.map (·.1)
theorem Mi.stay {w w' : World} {m N : Nat} {D : DataW Value} {l : List (ByteArray × Int)} (h : Mi w m N D l) (hb : w'.heap[m]? = w.heap[m]?) : Mi w' m N D l := by
  refine ⟨?_, h.val, h.has⟩
  obtain ⟨es, clock, hh, r⟩ := h.om
  exact ⟨es, clock, hb.trans hh, r⟩
theorem Mi.below {w w' : World} {m N : Nat} {D : DataW Value} {l : List (ByteArray × Int)} (h : Mi w m N D l) (hb : Below w.heap.size w w') : Mi w' m N D l := h.stay (hb.block m h.om.lt)
theorem Mi.new (w : World) : Mi (w.alloc (.map #[] 0)) w.heap.size 0 (.map []) [] :=
  ⟨World.ownsMap_made w _ _ _, fun s => by simp [DataW.atKey, lastF], fun s => by simp [Maps.has]⟩
theorem Mi.look {w : World} {m N : Nat} {D : DataW Value} {l : List (ByteArray × Int)} (h : Mi w m N D l) {t : TypeId} (ht : Try.prog.underlying t = some (.map 9 3)) {s : ByteArray} (hs : s.size ≤ maxLen) :
    (Instr.lookup t (.map (some m)) (.string s) false).run Try.prog w = .ok (.int .i64 (lastF l s)) w := by
  obtain ⟨v, ps, hrun, hv⟩ := h.om.lookup (string_keyed Try.underlying9) ht (zero_num w) (zd := .held (.int .i64 0)) (zp := []) rfl (keyOf_string_mk Try.underlying9 hs)
  simp only [RVI, Option.some.injEq, Prod.mk.injEq] at hv
  have hu2 : DataW.held v = .held (.int .i64 (lastF l s)) := hv.1.trans (h.val s)
  have e : v = .int .i64 (lastF l s) := DataW.held.inj hu2
  rw [← e]
  exact hrun
theorem Mi.put {w : World} {m N : Nat} {D : DataW Value} {l : List (ByteArray × Int)} (h : Mi w m N D l) (hN : N ≤ 1000000) {t : TypeId} (ht : Try.prog.underlying t = some (.map 9 3)) {x : ByteArray × Int} (hs : x.1.size ≤ maxLen) :
    ∃ D' w', (Instr.mapUpdate t (.map (some m)) (.string x.1) (.int .i64 x.2)).run Try.prog w = .ok () w' ∧ Mi w' m (N + 1) D' (l ++ [x]) ∧ w.grownBy w' (some m) := by
  obtain ⟨w', hrun, hom, hg⟩ := h.om.update (string_keyed Try.underlying9) ht (by unfold maxLen; omega) (val := .int .i64 x.2) (d := .held (.int .i64 x.2)) (ps := []) (keyOf_string_mk Try.underlying9 hs) rfl
  refine ⟨_, w', hrun, ⟨hom, fun s => ?_, fun s => ?_⟩, hg⟩
  · rw [lastF_snoc]
    by_cases hk : x.1 = s
    · subst hk
      rw [if_pos rfl]
      exact atKey_put_same h.om.isMap (by trivial) _ _
    · rw [if_neg hk]
      exact (atKey_put_other (keyB_ne (fun e => hk e.symm)) _ _).trans (h.val s)
  · by_cases hk : x.1 = s
    · subst hk
      have := has_put_same (d := DataW.held (Value.int .i64 x.2)) h.om.isMap (k := keyB x.1) (by trivial)
      simp [this]
    · have e : Maps.has (D.put (keyB x.1) (.held (.int .i64 x.2))) (keyB s) = Maps.has D (keyB s) := has_put_other (keyB_ne (fun e => hk e.symm)) _
      rw [e, h.has s, List.map_append, List.mem_append]
      exact ⟨.inl, fun hh => hh.elim id (fun hh => by simp at hh; exact absurd hh.symm hk)⟩
theorem Mi.keys {w : World} {m N : Nat} {D : DataW Value} {l : List (ByteArray × Int)} (h : Mi w m N D l) : (strKeys D).Nodup ∧ (strKeys D).length = Maps.size D ∧ ∀ x, x ∈ strKeys D ↔ Maps.has D (.string x) = true := by
  obtain ⟨es, hD, hpw, _⟩ := h.om.entries (string_keyed Try.underlying9)
  obtain ⟨es', hD', hko⟩ := h.om.keysOf
  obtain rfl : es = es' := by rw [hD] at hD'; simpa using hD'
  subst hD
  have hk : ∀ p ∈ es, ∃ x, p.1 = .string x := fun p hp => by obtain ⟨v, hv⟩ := hko p hp; obtain ⟨x, _, hx, _⟩ := Maps.keyOf_str Try.underlying9 hv; exact ⟨x, hx⟩
  refine ⟨?_, by simp [strKeys, Maps.size], fun x => ?_⟩
  · show (es.map fun p => strOf p.1).Nodup
    refine List.pairwise_map.2 (hpw.imp_of_mem fun {p q} hp' hq' hne e => hne ?_)
    obtain ⟨a, ha⟩ := hk p hp'
    obtain ⟨b, hb⟩ := hk q hq'
    rw [ha, hb] at e ⊢
    exact congrArg _ e
  · rw [Maps.has_eq, List.any_eq_true]
    show x ∈ es.map (fun p => strOf p.1) ↔ _
    rw [List.mem_map]
    constructor
    · rintro ⟨p, hp', rfl⟩
      obtain ⟨a, ha⟩ := hk p hp'
      exact ⟨p, hp', by rw [ha]; simp [Lit.sameKey, strOf]⟩
    · rintro ⟨p, hp', hs⟩
      obtain ⟨a, ha⟩ := hk p hp'
      rw [ha] at hs
      exact ⟨p, hp', by rw [ha]; simpa [Lit.sameKey, strOf] using hs⟩
theorem Mi.sorted {w : World} {m N : Nat} {D : DataW Value} {l : List (ByteArray × Int)} (h : Mi w m N D l) {ss : List (List UInt8)} (hp : ss.Perm (strKeys D)) :
    (ss.mergeSort (fun x y => decide (x ≤ y))).map ofL = uniq (l.map (·.1)) := by
  obtain ⟨hnd, _, hm⟩ := h.keys
  have tr : ∀ a b c : List UInt8, leB a b = true → leB b c = true → leB a c = true := fun a b c h1 h2 => by simp only [leB, decide_eq_true_eq] at *; exact List.le_trans h1 h2
  have tt : ∀ a b : List UInt8, (leB a b || leB b a) = true := fun a b => by simp only [leB, Bool.or_eq_true, decide_eq_true_eq]; exact List.le_total a b
  have hperm := List.mergeSort_perm ss (fun x y => decide (x ≤ y))
  refine riseB_eq ?_ (uniq_rise _) (fun x => ?_)
  · rw [List.pairwise_map]
    have h1 := List.pairwise_mergeSort (le := leB) tr tt ss
    have h2 : (ss.mergeSort leB).Nodup := (hperm.nodup_iff).2 (hp.nodup_iff.2 hnd)
    refine (List.Pairwise.and h1 h2).imp ?_
    rintro a b ⟨h3, h4⟩
    simp only [leB, decide_eq_true_eq] at h3
    show a.toArray.toList < b.toArray.toList
    rcases List.le_iff_lt_or_eq.1 h3 with h5 | h5
    · simpa using h5
    · exact absurd h5 h4
  · rw [mem_uniq, List.mem_map]
    constructor
    · rintro ⟨k, hk, rfl⟩
      have h1 : k ∈ strKeys D := hp.mem_iff.1 (hperm.mem_iff.1 hk)
      have h2 := (hm k).1 h1
      exact (h.has (ofL k)).1 (by simpa [ofL] using h2)
    · intro hx
      exact ⟨x.data.toList, hperm.mem_iff.2 (hp.mem_iff.2 ((hm _).2 ((h.has x).2 hx))), ofL_toL x⟩
theorem mapsKeys_any (m : Nat) (W : World) : Calls Try.prog 48 #[.map (some m)] W fun e w' => e = .returned (.func (.func 74) #[] #[.pointer (some ⟨W.heap.size, 0, none⟩)]) ∧ w' = W.alloc (.cells #[.map (some m)] 65) :=
  callsIn_wide.1 (Lit.mapsKeys (some m) W)
/-- slices.Sorted(maps.Keys(m)). -/
theorem sortedKeys_any {w : World} {m N : Nat} {D : DataW Value} {l : List (ByteArray × Int)} (h : Mi w m N D l) (hN : N ≤ 1000000) :
    Calls Try.prog 46 #[.func (.func 74) #[] #[.pointer (some ⟨w.heap.size, 0, none⟩)]] (w.alloc (.cells #[.map (some m)] 65)) fun e w' =>
      ∃ A c, e = .returned (.slice A (uniq (l.map (·.1))).length c) ∧ Sl Kn.str (fun k => w.heap.size ≤ k) w' A c (uniq (l.map (·.1))) ∧ Below w.heap.size w w' := by
  have hsz := h.om.size_le
  have cS := Lit.sortedKeys m N D RVI w h.om (by unfold maxLen; omega) (by omega)
  refine (callsIn_wide.1 cS).mono ?_
  rintro e w' ⟨v, ss, rfl, hS, hrow, hnil, hb⟩
  have hn := h.sorted hS
  have hperm := List.mergeSort_perm ss (fun x y => decide (x ≤ y))
  generalize ss.mergeSort (fun x y => decide (x ≤ y)) = tt at hrow hn hperm
  have hlen : ss.length = (tt.map ofL).length := by rw [List.length_map]; exact hperm.length_eq.symm
  obtain ⟨A, c, rfl, hs⟩ := sl_of_row (B := w.heap.size) (l := tt.map ofL) hlen (by rw [enc_toLs, toLs_ofL]; exact ownsRow_base_a hrow (by simp))
  rw [hn] at *
  exact ⟨A, c, rfl, hs, ((Below.refl _ w).alloc (Nat.le_refl _) _).trans (hb.mono (by simp))⟩
end Go.Proofs.Ythinieokpgmfoaa
