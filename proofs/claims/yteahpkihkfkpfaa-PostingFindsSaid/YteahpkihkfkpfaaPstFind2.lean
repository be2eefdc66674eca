/- (*posting.Lists).Find; Clone (walks). -/
import Derived.Test.YteahpkihkfkpfaaPstFind
import Derived.Test.YteahpkihkfkpfaaTabClone
import Derived.Test.YteahpkihkfkpfaaTypes
import Derived.Test.YteahpkihkfkpfaaMatch
import Derived.Deep.RegionHeld3
set_option linter.unusedVariables false
set_option linter.unusedSimpArgs false
namespace Go.Proofs.Yteahpkihkfkpfaa
open Go.RowKit Go.Maps

def findL (all : List Int) (ft fy : ByteArray → List Int) (q : List Clause) (x : Int) : List Int := (queryL all ft fy q).take (upTo (queryL all ft fy q) x)

set_option maxHeartbeats 2000000 in
set_option maxRecDepth 4000 in
theorem Find_any {w : World} {p mt my M : Nat} {Dt Dy : DataW Value} {A : Option Addr} {c : Nat} {all : List Int} {ft fy : ByteArray → List Int} {X : Nat → Prop} (h : Ps w p mt my M Dt Dy A c all ft fy X) (hp : Pf all ft fy) (hl : all.length ≤ 100000)
    {q : List Clause} {Q : Option Addr} {cq : Nat} (hq : SlC w Q cq q) (hg : ∀ c ∈ q, goodClause c) (x : Int) :
    Calls Try.prog 31 #[.pointer (some ⟨p, 0, none⟩), .agg #[.slice Q q.length cq], .int .i64 x] w (RetInts (findL all ft fy q x) w) := by
  have HP := Lib.hid h
  have HPF := Lib.hid hp
  have HQ := Lib.hid hq
  have HG := Lib.hid hg
  have hq1 := hq.1
  have hq2 := hq.2.1
  unfold maxLen at hq2
  have HB0 := Lib.hid (show Below w.heap.size w (w.alloc (.cells #[.slice Q q.length cq] 52)) from (Below.refl _ _).alloc (Nat.le_refl _) _)
  have hbl : ∀ k, (queryL all ft fy (q.take k)).length ≤ 100000 := fun k => Nat.le_trans (sub_len (queryL_rm hp _).1 hp.rise (queryL_sub hp _)) hl
  have HBL := Lib.hid hbl
  clear h hp hq hg hbl
  go_enter Try.func31, Try.ntmps31
  go_wp2_with fail
  go_loopw [7, 15] (fun v i wr => ∃ (k : Nat) (B : Option Addr) (cb : Nat), k ≤ q.length ∧ i = .int .i64 k ∧ v = .slice B (queryL all ft fy (q.take k)).length cb ∧ SlI wr B cb (queryL all ft fy (q.take k)) ∧ Below w.heap.size w wr) (fun _ i _ => q.length - (intOf i).toNat)
  case atStart => exact ⟨0, none, 0, Nat.zero_le _, rfl, rfl, Sl.nil_, HB0.out⟩
  case round =>
    obtain ⟨k, B, cb, hk, rfl, rfl, hs, hb⟩ := hrel
    have HS := Lib.hid hs
    have HB := Lib.hid hb
    clear hs hb
    by_cases hlt : k < q.length
    · obtain ⟨ad, S, sa, T, ta, rfl, hx1, hx2, hs1, hs2⟩ := row_clause_at (HQ.out.below HB.out).2.2 hlt
      have hgc := HG.out _ (List.getElem_mem hlt)
      have hsn := queryL_snoc all ft fy (q.take k) q[k]
      rw [← List.take_succ_eq_append_getElem hlt] at hsn
      generalize q[k] = cl at *
      have HSN := Lib.hid hsn
      have hl1 := HBL.out k
      have hl2 : (clauseL all ft fy cl).length ≤ 100000 := Nat.le_trans (sub_len (clauseL_rm HPF.out cl).1 HPF.out.rise (clauseL_sub HPF.out cl)) hl
      have HA := Lib.hid (show Below wr.heap.size wr (wr.alloc (.cells #[.slice S cl.tags.length sa, .slice T cl.types.length ta] 48)) from (Below.refl _ _).alloc (Nat.le_refl _) _)
      have C := Lib.hid (pclause_any (HP.out.below (bthen HB.out HA.out)) HPF.out hl (hs1.below HA.out) (hs2.below HA.out) hgc.1 hgc.2)
      have H1 := Lib.hid hs1
      have H2 := Lib.hid hs2
      clear hs1 hs2 hsn hgc
      generalize queryL all ft fy (q.take k) = L at *
      go_wp2_with (first
        | (go_at_call 24; go_fit (cEither (HS7.out) HC7.out (by omega)); rintro r w8 ⟨A8, c8, rfl, h8, hb8⟩; have H8 := Lib.hid h8.any; have HB8 := Lib.hid (bthen HB7.out hb8); clear h8 hb8)
        | (go_at_call 55; go_fit C.out; rintro r w7 ⟨A7, c7, rfl, h7, hb7⟩; have HC7 := Lib.hid h7; have HB7 := Lib.hid (bthen (bthen HB.out HA.out) hb7); have HS7 := Lib.hid ((HS.out.below HA.out).below hb7); clear h7 hb7))
      go_roundw
      case rel => exact ⟨k + 1, A8, c8, by omega, by go_num, by rw [HSN.out], by rw [HSN.out]; exact H8.out, HB8.out⟩
      case measure => simp [intOf]; omega
    · obtain rfl : k = q.length := by omega
      have hl1 := HBL.out q.length
      rw [List.take_length] at HS hl1 ⊢
      have hrl := (queryL_rm HPF.out q).1
      have hfl : findL all ft fy q x = (queryL all ft fy q).take (upTo (queryL all ft fy q) x) := rfl
      generalize queryL all ft fy q = L at *
      have HFL := Lib.hid hfl
      have C1 := Lib.hid (bsearch_any HS.out hrl (by omega) x)
      have HRL := Lib.hid hrl
      have hc1 := HS.out.1
      have hc2 := HS.out.2.1
      unfold maxLen at hc2
      clear hrl hfl
      go_wp2_with fail
      refine C1.out.mono ?_
      rintro r w7 ⟨n, rfl, rfl, hcut⟩
      have HC := Lib.hid (hcut.counts HRL.out)
      have hn := hcut.jn
      clear hcut
      by_cases hx : L[n]? = some x
      · rw [if_pos hx] at HC
        have hnl : n < L.length := (List.getElem?_eq_some_iff.1 hx).1
        have hd : decide (L[n]? = some x) = true := by simp [hx]
        have hlt : (L.take (n + 1)).length = n + 1 := by rw [List.length_take]; omega
        have C2 := Lib.hid (cloneInts_any (l := L.take (n + 1)) (HS.out.take _) (by rw [hlt]; omega))
        rw [hlt] at C2
        have b1 : (n : Int) + 1 ≤ (cb : Int) := by omega
        have b2 : n + 1 ≤ cb := by omega
        have HLT := Lib.hid hlt
        clear hx hlt
        rw [hd]
        go_wp2_with (first | (go_at_call 48; go_fit C2.out; rintro r w8 ⟨A8, c8, rfl, h8, hb8⟩))
        go_ret
        exact ⟨A8, c8, by rw [HFL.out, HC.out, HLT.out]; rfl, by rw [HFL.out, HC.out]; exact h8.mono (fun k hk => Nat.le_trans HB.out.size hk), bthen HB.out hb8⟩
      · rw [if_neg hx] at HC
        have hd : decide (L[n]? = some x) = false := by simp [hx]
        have hlt : (L.take n).length = n := by rw [List.length_take]; omega
        have C2 := Lib.hid (cloneInts_any (l := L.take n) (HS.out.take _) (by rw [hlt]; omega))
        rw [hlt] at C2
        have b1 : (n : Int) ≤ (cb : Int) := by omega
        have b2 : n ≤ cb := by omega
        have HLT := Lib.hid hlt
        clear hx hlt
        rw [hd]
        go_wp2_with (first | (go_at_call 48; go_fit C2.out; rintro r w8 ⟨A8, c8, rfl, h8, hb8⟩))
        go_ret
        exact ⟨A8, c8, by rw [HFL.out, HC.out, HLT.out]; rfl, by rw [HFL.out, HC.out]; exact h8.mono (fun k hk => Nat.le_trans HB.out.size hk), bthen HB.out hb8⟩

theorem pmapClone_owns (k : TypeId) (R : Value → Option (DataW Value × List MemPlace)) (b n : Nat) (D : DataW Value) (w : World) (hown : w.ownsMap Try.prog k R b n D) :
    Calls Try.prog 53 #[.map (some b)] w fun e w' => (∃ m, e = .returned (.map (some m)) ∧ w.heap.size ≤ m ∧ m < w'.heap.size ∧ w'.ownsMap Try.prog k R m n D) ∧ Below w.heap.size w w' := by
  have hlt := hown.lt
  obtain ⟨es, clock, hb, F, hs, hD⟩ := hown
  have key : Calls Try.prog 53 #[.map (some b)] w fun e w' => e = .returned (.map (some w.heap.size)) ∧ w' = w.alloc (.map es clock) := by
    have hq := fun w => run_eql_map_nil_sl (P := Try.prog) w 83 _ _ (some b) Try.underlying83
    have hf : Try.prog.funcs[73]? = some Try.f73 := by kernel_rfl
    have hx : (callFunc 73 #[.iface 83 (.map (some b))]).run Try.prog w = .ok (.value (.iface 83 (.map (some w.heap.size)))) (w.alloc (.map es clock)) := by
      rw [run_callFunc_extern hf (by kernel_rfl) (by kernel_rfl) (by kernel_rfl) (e := Extern.MapsClone.clone) (by kernel_rfl), run_maps_clone_sl w 83 hb]
      rfl
    have ht : ∀ W : World, (Instr.typeAssert (.iface 83 (.map (some w.heap.size))) 20 83 false).run Try.prog W = .ok (.map (some w.heap.size)) W := fun W => run_typeAssert_map_sl W 83 20 _ _ _ Try.underlying83
    go_enter Try.func53, Try.ntmps53
    go_wp2_with fail
    go_ret
    exact ⟨rfl, rfl⟩
  refine key.mono fun e w' ⟨he, hw⟩ => ?_
  subst hw
  exact ⟨⟨_, he, Nat.le_refl _, by simp, ⟨es, clock, (MapKept.heap_alloc w _).1, F, hs, hD⟩⟩, (Below.refl _ w).alloc (Nat.le_refl _) _⟩
end Go.Proofs.Yteahpkihkfkpfaa
