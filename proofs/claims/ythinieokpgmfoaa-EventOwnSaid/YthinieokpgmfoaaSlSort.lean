/- slices.Collect and slices.Sorted of slices.Values(l). -/
import Derived.Test.YthinieokpgmfoaaSlApp
import Derived.Test.YthinieokpgmfoaaUniq
import Derived.Sort.OwnSorted
set_option linter.unusedVariables false
set_option linter.unusedSimpArgs false
namespace Go.Proofs.Ythinieokpgmfoaa
open Go.RowKit Go.Sort

set_option maxHeartbeats 1000000 in
theorem collect_in (F : Fence) (n : Nat) (hf : F.fn 71) (ha : F.fn 83) (hv : F.fn 73) (hro : F.round = none) (hn : 4 ≤ n) (Bs : Nat) (A : Option Addr) (c : Nat) (xs : List ByteArray) (w : World) (hB : Bs < w.heap.size)
    (hc : w.cell? ⟨Bs, 0, none⟩ = some (.slice A xs.length c)) (hx : Sl Kn.str (fun j => j < w.heap.size) w A c xs) (hlen : xs.length ≤ 1000000) :
    CallsIn F n Try.prog 71 #[.func (.func 73) #[] #[.pointer (some ⟨Bs, 0, none⟩)]] w fun e w' => ∃ v, e = .returned v ∧
      w'.ownsRow w.heap.size 9 1 v xs.length (xs.map Value.string) ∧ Below w.heap.size w w' := by
  have h1 : 1 ≤ n := by omega
  refine callsIn_of_wp Try.func71 rfl hf ?_ hro
  simp only [Try.ntmps71, List.size_toArray, List.length_cons, List.length_nil, Nat.reduceAdd, Nat.reduceSub, Array.replicate_succ, Array.replicate_zero, List.push_toArray, List.append_toArray, List.nil_append, List.cons_append]
  have C := appendSeq_in F (n - 1) ha hv hro (by omega) Bs A c xs w hB hc hx hlen
  gi_wp2_with (gi_at_call 83; refine C.mono ?_; rintro e w' ⟨v, rfl, hrow, hb⟩)
  go_ret
  exact ⟨v, rfl, hrow, hb⟩

/-- slices.Sort's two contracts at []string, in a fence. -/
def SortsHere (F : Fence) (m : Nat) : Prop :=
  (∀ (blk off cap : Nat) (ss : List (List UInt8)) (W : World), Holds encStr W blk off ss.toArray → blk < W.heap.size → ss.length < 4611686018427387904 →
    CallsIn F m Try.prog 72 #[.slice (some ⟨blk, off, none⟩) ss.length cap] W fun e w' => e = .returned (.tuple #[]) ∧ ∃ k os, w' = grow (putRow encStr (Sort.ahead W k) blk off (ss.mergeSort fun x y => decide (x ≤ y)).toArray) os) ∧
  (∀ (p : Option Addr) (cap : Nat) (W : World), CallsIn F m Try.prog 72 #[.slice p 0 cap] W fun e w' => e = .returned (.tuple #[]) ∧ w' = W)

set_option maxHeartbeats 2000000 in
theorem sortedV_in (F : Fence) (n : Nat) (hf : F.fn 46) (hco : F.fn 71) (hso : F.fn 72) (ha : F.fn 83) (hv : F.fn 73) (hro : F.round = none) (hn : 5 ≤ n) (hsort : SortsHere F (n - 1)) (Bs : Nat) (A : Option Addr) (c : Nat) (xs : List ByteArray) (w : World) (hB : Bs < w.heap.size)
    (hc : w.cell? ⟨Bs, 0, none⟩ = some (.slice A xs.length c)) (hx : Sl Kn.str (fun j => j < w.heap.size) w A c xs) (hlen : xs.length ≤ 1000000) :
    CallsIn F n Try.prog 46 #[.func (.func 73) #[] #[.pointer (some ⟨Bs, 0, none⟩)]] w fun e w' => ∃ v, e = .returned v ∧
      w'.ownsRow w.heap.size 9 1 v xs.length ((srtL xs).map encStr) ∧ Below w.heap.size w w' := by
  have h1 : 1 ≤ n := by omega
  refine callsIn_of_wp Try.func46 rfl hf ?_ hro
  simp only [Try.ntmps46, List.size_toArray, List.length_cons, List.length_nil, Nat.reduceAdd, Nat.reduceSub, Array.replicate_succ, Array.replicate_zero, List.push_toArray, List.append_toArray, List.nil_append, List.cons_append]
  have C := collect_in F (n - 1) hco ha hv hro (by omega) Bs A c xs w hB hc hx hlen
  rw [enc_toLs xs, show xs.length = (toLs xs).length by simp [toLs]] at C
  rw [show xs.length = (toLs xs).length by simp [toLs]]
  unfold srtL
  have hlen2 : (toLs xs).length ≤ 1000000 := by simpa [toLs] using hlen
  generalize toLs xs = ss at C hlen2 ⊢
  clear hc hx hlen
  gi_wp2_with (gi_at_call 71; refine C.mono ?_; rintro e W ⟨v, rfl, hrow, hb⟩)
  rcases hrow.2 with ⟨rfl, hz⟩ | ⟨gb, cap, cur, rfl, hbase, hgb, r1, r2, r3, r4⟩
  · have hss : ss = [] := List.eq_nil_of_length_eq_zero hz
    subst hss
    have cS := hsort.2 none 0 W
    gi_wp2_with (gi_at_call 72; refine cS.mono ?_; rintro e w' ⟨rfl, rfl⟩)
    go_ret
    exact ⟨.slice none 0 0, rfl, by simpa using hrow, hb⟩
  · have hH : Holds encStr W gb 0 ss.toArray := holds_of_block hgb (by simpa using r4)
    have hgl : gb < W.heap.size := (Array.getElem?_eq_some_iff.1 hgb).1
    have cS := hsort.1 gb 0 cap ss W hH hgl (by omega)
    gi_wp2_with (gi_at_call 72; refine cS.mono ?_; rintro e w' ⟨rfl, nn, os, rfl⟩)
    go_ret
    exact ⟨_, rfl, ownsRow_sorted (by simp) hbase hgb r1 r2 r3, hb.grown (grownBy_sorted _) hb.size (fun j hj => by cases hj; exact hbase)⟩
end Go.Proofs.Ythinieokpgmfoaa
