/- registrarlaw14.add: at most 8 batches behind what there is (walk). IndexCopies: the law's walk. The closed facts that every row of this seat leans on, each proved for itself: the order's text is long, so it is read once as a list of signs. The row of the law IndexCopies, over its walk: for every input the call returns true and each argument reads afterwards as it read before. No conditions. -/
import Derived.Test.YtigejdnjdajbhaaBundJ
import Derived.Test.YtigejdnjdajbhaaBundR
import Derived.Deep.CutBlock
import Derived.Test.YtigejdnjdajbhaaRows
import Derived.JoinedOf
import Derived.KernelRfl
import Derived.Test.YtigejdnjdajbhaaBundA
import Derived.WalkKit
import Derived.ProofKit
import Derived.OpenShut
import Derived.ShutString
import Derived.ChangeOld
import Derived.Below
import Derived.SizedLaws
set_option linter.unusedVariables false
set_option linter.unusedSimpArgs false
namespace Go.Proofs.Ytigejdnjdajbhaa
open Go.RowKit Go.Maps

set_option maxHeartbeats 8000000 in
set_option maxRecDepth 100000 in
theorem add14_any {w : World} {B : Six} {es : List Event} {X : Nat → Prop} (h : Ix w B es X) {A : Option Addr} {c : Nat} {l : List Bt} (hA : Sl kBatch (fun k => ¬ B.has k) w A c l) (hg : ∀ x ∈ l, goodBatch x) (hes : es.length ≤ 800) :
    Calls Try.prog 19 #[.pointer (some ⟨B.b, 0, none⟩), .slice A l.length c] w fun r w' => (∃ v, r = .returned v) ∧ Ix w' B (growB es (l.take 8)) X ∧ But B.has w w' := by
  have H0 := Lib.hid h
  have HG := Lib.hid hg
  have HA := Lib.hid hA
  have hc2 := hA.2.1
  unfold maxLen at hc2
  have hc1 := hA.1
  clear h hA hg
  go_enter Try.func19, Try.ntmps19
  go_wp2_with fail
  go_loopw [4] (fun i wr => ∃ k : Nat, k ≤ l.length ∧ k ≤ 8 ∧ i = .int .i64 k ∧ Ix wr B (growB es (l.take k)) X ∧ But B.has w wr) (fun i _ => l.length - (intOf i).toNat)
  case atStart => exact ⟨0, Nat.zero_le _, Nat.zero_le _, rfl, H0.out, But.refl _ _⟩
  case round =>
    obtain ⟨k, hk, hk8, rfl, hli, hbl⟩ := hrel
    have HLI := Lib.hid hli
    have HBL := Lib.hid hbl
    have hlen : (growB es (l.take k)).length ≤ 864 := by
      have := growB_len es (l.take k)
      rw [List.length_take] at this
      omega
    by_cases hlt : k < l.length ∧ k < 8
    · obtain ⟨hlt, h8⟩ := hlt
      have hrows : Sl kBatch (fun k => ¬ B.has k) wr A c l := HA.out.stay hbl.size (fun j hj hl => hbl.block j hl hj)
      obtain ⟨ad, Q, cq, rfl, x0, x1, hQ⟩ := row_batch_at hrows.2.2 hlt
      have hin := few8_in (HG.out _ (List.getElem_mem hlt)).2
      have HST := Lib.hid (show growB es (l.take (k + 1)) = addTo (growB es (l.take k)) (growB es (l.take k)).length (few8 (l[k]).2) by rw [List.take_succ_eq_append_getElem hlt, growB_snoc])
      generalize l[k] = q at x0 x1 hQ hin HST
      generalize growB es (l.take k) = fs at hlen HST HLI
      have HIN := Lib.hid hin
      have CF := Lib.hid (few14_any (a := q.1) (fun j => ¬ B.has j) hQ)
      have i1 : (0 : Int) ≤ (k : Int) := Int.natCast_nonneg _
      have i2 : (k : Int) < (l.length : Int) := by omega
      have f8 := few8_len q.2
      clear hli hbl hrows hQ hin
      go_upto_region 4 with (go_at_call 12; go_fit CF.out; rintro r w4 ⟨A4, c4, rfl, h4, hb4⟩; have H4 := Lib.hid h4; have HB4 := Lib.hid hb4; clear h4 hb4)
      have HA5 := Lib.hid (fun (o : Obj) => show Below w4.heap.size w4 (w4.alloc o) from (Below.refl _ _).alloc (Nat.le_refl _) o)
      have CL := Lib.hid (fun (o : Obj) => iLast ((HLI.out.below HB4.out).below (HA5.out o)))
      have CA : Hid (∀ o : Obj, Calls Try.prog 14 #[.pointer (some ⟨B.b, 0, none⟩), .agg #[.int .i64 fs.length, .slice A4 (few8 q.2).length c4]] (w4.alloc o) fun r w' => ∃ (A' : Option Addr) (c' : Nat), r = .returned (.tuple #[.slice A' (addRs fs fs.length (few8 q.2)).length c', .int .i64 (addErr fs fs.length (few8 q.2))]) ∧ Ix w' B (addTo fs fs.length (few8 q.2)) X ∧ But B.has w w') := Lib.hid (fun o => by
        have hI := (HLI.out.below HB4.out).below (HA5.out o)
        refine (iAdd_any hI (after := fs.length) ((H4.out.below (HA5.out o)).mono (fun j hj hB => hj.elim (fun h => h hB) (fun h => by have := HLI.out.lt j hB; omega))) HIN.out (by omega)).mono ?_
        rintro r w' ⟨A', c', e, _, h1, h2⟩
        exact ⟨A', c', e, h1, HBL.out.trans ((But.of_below (bthen HB4.out (HA5.out o))).trans h2)⟩)
      go_wp2_with (first
        | (go_at_call 14; go_fit (CA.out _); rintro r w6 ⟨A6, c6, rfl, h6, h7⟩; have H6 := Lib.hid h6; have H7 := Lib.hid h7; clear h6 h7)
        | (go_at_call 13; go_fit (CL.out _); rintro r w5 ⟨rfl, rfl⟩))
      go_roundw
      case rel => exact ⟨k + 1, by omega, by omega, by go_num, by rw [HST.out]; exact H6.out, H7.out⟩
      case measure => simp [intOf]; omega
    · have hfin : l.take k = l.take 8 := by
        rcases Nat.lt_or_ge k l.length with h | h
        · have : k = 8 := by omega
          rw [this]
        · rw [List.take_of_length_le h, List.take_of_length_le (by omega)]
      rw [hfin] at HLI
      have hstop : k < l.length → ¬ k < 8 := fun h h2 => hlt ⟨h, h2⟩
      clear hli hbl hlen hlt hfin
      rcases Nat.lt_or_ge k l.length with hc | hc
      · have h10 := hstop hc
        clear hstop
        go_wp2_with fail
        go_end0
        exact ⟨⟨_, rfl⟩, HLI.out, HBL.out⟩
      · clear hstop
        go_wp2_with fail
        go_end0
        exact ⟨⟨_, rfl⟩, HLI.out, HBL.out⟩
end Go.Proofs.Ytigejdnjdajbhaa

namespace Go.Proofs.Ytigejdnjdajbhaa
open Go.RowKit Go.Maps

theorem rowsB {w0 w w' : World} {B : Six} {A : Option Addr} {c : Nat} {l : List Bt} (h : Sl kBatch (fun k => k < w0.heap.size) w A c l) (hb : But B.has w w') (hB : ∀ k, B.has k → w0.heap.size ≤ k) : Sl kBatch (fun k => k < w0.heap.size) w' A c l :=
  h.stay hb.size (fun k hk hl => hb.block k hl (fun hh => by have := hB k hh; omega))
theorem offB {w0 w : World} {B : Six} {A : Option Addr} {c : Nat} {l : List Bt} (h : Sl kBatch (fun k => k < w0.heap.size) w A c l) (hB : ∀ k, B.has k → w0.heap.size ≤ k) : Sl kBatch (fun k => ¬ B.has k) w A c l := h.mono (fun k hk hh => by have := hB k hh; omega)
/-- What the law has on its way: the arguments' rows, and what is not its own. -/
structure Ar (w wr : World) (A1 A2 A3 : Option Addr) (c1 c2 c3 : Nat) (l m n : List Bt) : Prop where
  r1 : Sl kBatch (fun k => k < w.heap.size) wr A1 c1 l
  r2 : Sl kBatch (fun k => k < w.heap.size) wr A2 c2 m
  r3 : Sl kBatch (fun k => k < w.heap.size) wr A3 c3 n
  bel : Below w.heap.size w wr
section
variable {w wr w' : World} {A1 A2 A3 : Option Addr} {c1 c2 c3 : Nat} {l m n : List Bt} {B : Six}
theorem Ar.below (h : Ar w wr A1 A2 A3 c1 c2 c3 l m n) (hb : Below wr.heap.size wr w') : Ar w w' A1 A2 A3 c1 c2 c3 l m n := ⟨h.r1.below hb, h.r2.below hb, h.r3.below hb, bthen h.bel hb⟩
theorem Ar.but (h : Ar w wr A1 A2 A3 c1 c2 c3 l m n) (hb : But B.has wr w') (hB : ∀ k, B.has k → w.heap.size ≤ k) : Ar w w' A1 A2 A3 c1 c2 c3 l m n :=
  ⟨rowsB h.r1 hb hB, rowsB h.r2 hb hB, rowsB h.r3 hb hB, hb.below h.bel h.bel.size hB⟩
end
theorem growB_le (es : List Event) (l : List Bt) : (growB es (l.take 8)).length ≤ es.length + 64 := by
  have := growB_len es (l.take 8)
  rw [List.length_take] at this
  omega

set_option maxHeartbeats 8000000 in
set_option maxRecDepth 100000 in
theorem indexCopies_walk (w : World) (A1 : Option Addr) (c1 : Nat) (l : List Bt) (h1 : Sl kBatch (fun _ => True) w A1 c1 l) (g1 : ∀ x ∈ l, goodBatch x) (A2 : Option Addr) (c2 : Nat) (m : List Bt) (h2 : Sl kBatch (fun _ => True) w A2 c2 m) (g2 : ∀ x ∈ m, goodBatch x)
    (A3 : Option Addr) (c3 : Nat) (n : List Bt) (h3 : Sl kBatch (fun _ => True) w A3 c3 n) (g3 : ∀ x ∈ n, goodBatch x) :
    Calls Try.prog 5 #[.slice A1 l.length c1, .slice A2 m.length c2, .slice A3 n.length c3] w fun r w' => r = .returned (.bool true) ∧ Below w.heap.size w w' := by
  have HAR0 := Lib.hid (show Ar w w A1 A2 A3 c1 c2 c3 l m n from ⟨h1.bound.mono (fun _ h => h.2), h2.bound.mono (fun _ h => h.2), h3.bound.mono (fun _ h => h.2), Below.refl _ _⟩)
  have G1 := Lib.hid g1
  have G2 := Lib.hid g2
  have G3 := Lib.hid g3
  have C1 := Lib.hid (shown14_any w)
  obtain ⟨es1, he1⟩ : ∃ es1, growB [] (l.take 8) = es1 := ⟨_, rfl⟩
  have hl1 : es1.length ≤ 64 := by rw [← he1]; exact growB_le [] l
  obtain ⟨es2, he2⟩ : ∃ es2, growB es1 (m.take 8) = es2 := ⟨_, rfl⟩
  have hl2 : es2.length ≤ 128 := by rw [← he2]; have := growB_le es1 m; omega
  obtain ⟨es3, he3⟩ : ∃ es3, growB es1 (n.take 8) = es3 := ⟨_, rfl⟩
  have hl3 : es3.length ≤ 128 := by rw [← he3]; have := growB_le es1 n; omega
  have E1 := Lib.hid he1
  have E2 := Lib.hid he2
  have E3 := Lib.hid he3
  have hal2 : allR es2 1048576 = recsOf es2 := allR_all es2 (by omega)
  have hal3 : allR es3 1048576 = recsOf es3 := allR_all es3 (by omega)
  have HAL2 := Lib.hid hal2
  have HAL3 := Lib.hid hal3
  clear h1 h2 h3 g1 g2 g3 he1 he2 he3 hal2 hal3
  go_enter Try.func5, Try.ntmps5
  go_upto_region 6 with (first
    | (go_at_call 11; go_fit C3.out; rintro r w3 ⟨Bb, rfl, h3, hb3, hB3⟩; have HN3 := Lib.hid h3; have HNB3 := Lib.hid hb3; have HLB3 := Lib.hid hB3; clear h3 hb3 hB3)
    | (go_at_call 11; go_fit C2.out; rintro r w2 ⟨Ba, rfl, h2, hb2, hB2⟩; have HN2 := Lib.hid h2; have HNB2 := Lib.hid hb2; have HLB2 := Lib.hid hB2; have C3 := Lib.hid (iNew w2 (fun k => k < w2.heap.size) (fun k hk => hk)); clear h2 hb2 hB2)
    | (go_at_call 10; go_fit C1.out; rintro r w1 ⟨rfl, hb1⟩; have HAR1 := Lib.hid (HAR0.out.below hb1); have HB1 := Lib.hid hb1; have C2 := Lib.hid (iNew w1 (fun k => k < w1.heap.size) (fun k hk => hk)); clear hb1))
  -- a: X = below w1, or from w2 to w3; b: X = below w2
  have hs1 := HB1.out.size
  have hs2 := HNB2.out.size
  have hs3 := HNB3.out.size
  have La := Lib.hid (fun k (hk : Ba.has k) => show w.heap.size ≤ k from Nat.le_trans hs1 (HLB2.out k hk))
  have Lb := Lib.hid (fun k (hk : Bb.has k) => show w.heap.size ≤ k from Nat.le_trans hs1 (Nat.le_trans hs2 (HLB3.out k hk)))
  have Ua := Lib.hid (fun k (hk : Ba.has k) => show k < w2.heap.size from HN2.out.lt k hk)
  have Ub := Lib.hid (fun k (hk : Bb.has k) => show w2.heap.size ≤ k ∧ k < w3.heap.size from ⟨HLB3.out k hk, HN3.out.lt k hk⟩)
  have IA3 := Lib.hid (HN2.out.fence (Y := fun k => k < w1.heap.size ∨ (w2.heap.size ≤ k ∧ k < w3.heap.size)) HNB3.out (fun k hk => hk))
  have IB3 := Lib.hid HN3.out
  have HAR3 := Lib.hid ((HAR1.out.below HNB2.out).below HNB3.out)
  clear HAR0 HAR1 HN2 HN3 HLB2 HLB3 HB1 C1 C2 C3
  have C4 := Lib.hid (add14_any IA3.out (offB HAR3.out.r1 La.out) G1.out (by simp))
  rw [E1.out] at C4
  go_upto_region 7 with (go_at_call 19; go_fit C4.out; rintro r w4 ⟨⟨v4, rfl⟩, h4, hb4⟩; have IA4 := Lib.hid h4; have IB4 := Lib.hid (IB3.out.far (hb4.mono (fun k hk => Ua.out k hk))); have HAR4 := Lib.hid (HAR3.out.but hb4 La.out); have hs4 := hb4.size; clear h4 hb4)
  have C5 := Lib.hid (add14_any IB4.out (offB HAR4.out.r1 Lb.out) G1.out (by simp))
  rw [E1.out] at C5
  clear C4 IA3 IB3 HAR3
  go_upto_region 8 with (go_at_call 19; go_fit C5.out; rintro r w5 ⟨⟨v5, rfl⟩, h5, hb5⟩; have IB5 := Lib.hid h5; have IA5 := Lib.hid (IA4.out.far (hb5.mono (fun k hk => .inr (Ub.out k hk)))); have HAR5 := Lib.hid (HAR4.out.but hb5 Lb.out); have hs5 := hb5.size; clear h5 hb5)
  have C6 := Lib.hid (iClone IA5.out)
  clear C5 IA4 IB4 HAR4
  go_upto_region 11 with (go_at_call 20; go_fit C6.out; rintro r w6 ⟨Bc, rfl, h61, h62, hb6, hB6⟩; have IC6 := Lib.hid h61; have IA6 := Lib.hid h62; have IB6 := Lib.hid (IB5.out.fence (Y := fun k => k < w2.heap.size ∨ (w5.heap.size ≤ k ∧ k < w6.heap.size)) hb6 (fun k hk => hk)); have Uc := Lib.hid hB6; have HAR6 := Lib.hid (HAR5.out.below hb6); have hs6 := hb6.size; clear h61 h62 hb6 hB6)
  have hw5 : w.heap.size ≤ w5.heap.size := by omega
  have Lc := Lib.hid (fun k (hk : Bc.has k) => show w.heap.size ≤ k from Nat.le_trans hw5 (Uc.out k hk).1)
  have C7 := Lib.hid (add14_any IA6.out (offB HAR6.out.r2 La.out) G2.out (by omega))
  rw [E2.out] at C7
  clear C6 IA5 IB5 HAR5
  go_upto_region 12 with (go_at_call 19; go_fit C7.out; rintro r w7 ⟨⟨v7, rfl⟩, h7, hb7⟩; have IA7 := Lib.hid h7; have IC7 := Lib.hid (IC6.out.far (hb7.mono (fun k hk => .inl hk))); have IB7 := Lib.hid (IB6.out.far (hb7.mono (fun k hk => .inl (Ua.out k hk)))); have HAR7 := Lib.hid (HAR6.out.but hb7 La.out); have hs7 := hb7.size; clear h7 hb7)
  have C8 := Lib.hid (add14_any IC7.out (offB HAR7.out.r3 Lc.out) G3.out (by omega))
  rw [E3.out] at C8
  clear C7 IA6 IB6 IC6 HAR6
  go_upto_region 13 with (go_at_call 19; go_fit C8.out; rintro r w8 ⟨⟨v8, rfl⟩, h8, hb8⟩; have IC8 := Lib.hid h8; have IA8 := Lib.hid (IA7.out.far (hb8.mono (fun k hk => .inl hk))); have IB8 := Lib.hid (IB7.out.far (hb8.mono (fun k hk => .inr (Uc.out k hk)))); have HAR8 := Lib.hid (HAR7.out.but hb8 Lc.out); have hs8 := hb8.size; clear h8 hb8)
  have C9 := Lib.hid (add14_any IB8.out (offB HAR8.out.r3 Lb.out) G3.out (by omega))
  rw [E3.out] at C9
  clear C8 IA7 IB7 IC7 HAR7
  go_upto_region 14 with (go_at_call 19; go_fit C9.out; rintro r w9 ⟨⟨v9, rfl⟩, h9, hb9⟩; have IB9 := Lib.hid h9; have IA9 := Lib.hid (IA8.out.far (hb9.mono (fun k hk => .inr (.inr (Ub.out k hk))))); have IC9 := Lib.hid (IC8.out.far (hb9.mono (fun k hk => .inr (.inr (Ub.out k hk))))); have HAR9 := Lib.hid (HAR8.out.but hb9 Lb.out); have hs9 := hb9.size; clear h9 hb9)
  have C10 := Lib.hid (iAll IC9.out 1048576)
  rw [HAL3.out] at C10
  clear C9 IA8 IB8 IC8 HAR8
  go_upto_region 15 with (first
    | (go_at_call 17; go_fit C12.out; rintro r w12 ⟨rfl, hb12⟩; have HB12 := Lib.hid hb12; clear hb12)
    | (go_at_call 15; go_fit C11.out; rintro r w11 ⟨Q, cq, rfl, h11, hb11⟩; have HB11 := Lib.hid hb11; have C12 := Lib.hid (show Calls Try.prog 17 #[.slice P (recsOf es3).length cp, .slice Q (recsOf es3).length cq] w11 fun r w' => r = .returned (.bool true) ∧ Below w11.heap.size w11 w' from by { have h12 := ref14Same_any (HP.out.below hb11) h11.any; rw [sameRs_refl] at h12; exact h12 }); clear h11 hb11)
    | (go_at_call 15; go_fit C10.out; rintro r w10 ⟨P, cp, rfl, h10, hb10⟩; have HP := Lib.hid h10.any; have HB10 := Lib.hid hb10; have C11 := Lib.hid (show Calls Try.prog 15 #[.pointer (some ⟨Bb.b, 0, none⟩), .int .i64 1048576] w10 (RetRecs (recsOf es3).length (recsOf es3) w10) from by { have h11 := iAll (IB9.out.below hb10) 1048576; rw [HAL3.out] at h11; exact h11 }); clear h10 hb10))
  have HB9 := Lib.hid (bthen HB10.out (bthen HB11.out HB12.out))
  have IA12 := Lib.hid (IA9.out.below HB9.out)
  have HAR12 := Lib.hid (HAR9.out.below HB9.out)
  have C13 := Lib.hid (iNew w12 (fun k => k < w12.heap.size) (fun k hk => hk))
  clear C10 C11 C12 HP IA9 IB9 IC9 HAR9 HB9 HB10 HB11 HB12
  go_upto_region 18 with (go_at_call 11; go_fit C13.out; rintro r w13 ⟨Bd, rfl, h13, hb13, hB13⟩; have ID13 := Lib.hid h13; have IA13 := Lib.hid (IA12.out.fence (Y := fun k => w12.heap.size ≤ k ∧ k < w13.heap.size) hb13 (fun k hk => .inr hk)); have HAR13 := Lib.hid (HAR12.out.below hb13); have Ld := Lib.hid (fun k (hk : Bd.has k) => show w12.heap.size ≤ k ∧ k < w13.heap.size from ⟨hB13 k hk, h13.lt k hk⟩); clear h13 hb13 hB13)
  have hs12 := HAR12.out.bel.size
  have Ldw := Lib.hid (fun k (hk : Bd.has k) => show w.heap.size ≤ k from Nat.le_trans hs12 (Ld.out k hk).1)
  have C14 := Lib.hid (add14_any ID13.out (offB HAR13.out.r1 Ldw.out) G1.out (by simp))
  rw [E1.out] at C14
  clear C13 IA12 HAR12
  go_upto_region 19 with (go_at_call 19; go_fit C14.out; rintro r w14 ⟨⟨v14, rfl⟩, h14, hb14⟩; have ID14 := Lib.hid h14; have IA14 := Lib.hid (IA13.out.far (hb14.mono (fun k hk => Ld.out k hk))); have HAR14 := Lib.hid (HAR13.out.but hb14 Ldw.out); clear h14 hb14)
  have C15 := Lib.hid (add14_any ID14.out (offB HAR14.out.r2 Ldw.out) G2.out (by omega))
  rw [E2.out] at C15
  clear C14 IA13 ID13 HAR13
  go_upto_region 20 with (go_at_call 19; go_fit C15.out; rintro r w15 ⟨⟨v15, rfl⟩, h15, hb15⟩; have ID15 := Lib.hid h15; have IA15 := Lib.hid (IA14.out.far (hb15.mono (fun k hk => Ld.out k hk))); have HAR15 := Lib.hid (HAR14.out.but hb15 Ldw.out); clear h15 hb15)
  have C16 := Lib.hid (iAll IA15.out 1048576)
  rw [HAL2.out] at C16
  clear C15 IA14 ID14 HAR14
  go_wp2_with (first
    | (go_at_call 17; go_fit C18.out; rintro r w18 ⟨rfl, hb18⟩; have HB18 := Lib.hid hb18; clear hb18)
    | (go_at_call 15; go_fit C17.out; rintro r w17 ⟨Q, cq, rfl, h17, hb17⟩; have HB17 := Lib.hid hb17; have C18 := Lib.hid (show Calls Try.prog 17 #[.slice P2 (recsOf es2).length cp2, .slice Q (recsOf es2).length cq] w17 fun r w' => r = .returned (.bool true) ∧ Below w17.heap.size w17 w' from by { have h18 := ref14Same_any (HP2.out.below hb17) h17.any; rw [sameRs_refl] at h18; exact h18 }); clear h17 hb17)
    | (go_at_call 15; go_fit C16.out; rintro r w16 ⟨P2, cp2, rfl, h16, hb16⟩; have HP2 := Lib.hid h16.any; have HB16 := Lib.hid hb16; have C17 := Lib.hid (show Calls Try.prog 15 #[.pointer (some ⟨Bd.b, 0, none⟩), .int .i64 1048576] w16 (RetRecs (recsOf es2).length (recsOf es2) w16) from by { have h17 := iAll (ID15.out.below hb16) 1048576; rw [HAL2.out] at h17; exact h17 }); clear h16 hb16))
  go_ret
  exact ⟨rfl, bthen HAR15.out.bel (bthen HB16.out (bthen HB17.out HB18.out))⟩
end Go.Proofs.Ytigejdnjdajbhaa

namespace Go.Proofs.Ytigejdnjdajbhaa

set_option maxRecDepth 100000 in
def ordN : List Nat := [104, 97, 114, 110, 101, 115, 115, 32, 51, 51, 99, 100, 49, 48, 101, 102, 99, 49, 100, 49, 57, 100, 101, 100, 50, 102, 57, 100, 97, 101, 101, 51, 54, 49, 54, 56, 48, 102, 48, 49, 97, 51, 102, 55, 56, 102, 54, 99, 100, 55, 53, 100, 50, 54, 97, 99, 102, 50, 50, 56, 51, 51, 48, 100, 55, 53, 56, 53, 54, 48, 55, 97, 32, 99, 117, 116, 32, 97, 116, 32, 114, 101, 103, 105, 115, 116, 114, 97, 114, 47, 114, 101, 103, 105, 115, 116, 114, 97, 114, 108, 97, 119, 49, 52, 46, 73, 110, 100, 101, 120, 82, 101, 102, 117, 115, 101, 115, 32, 114, 101, 103, 105, 115, 116, 114, 97, 114, 47, 114, 101, 103, 105, 115, 116, 114, 97, 114, 108, 97, 119, 49, 52, 46, 73, 110, 100, 101, 120, 79, 119, 110, 32, 114, 101, 103, 105, 115, 116, 114, 97, 114, 47, 114, 101, 103, 105, 115, 116, 114, 97, 114, 108, 97, 119, 49, 52, 46, 73, 110, 100, 101, 120, 67, 111, 112, 105, 101, 115, 32, 114, 101, 103, 105, 115, 116, 114, 97, 114, 47, 114, 101, 103, 105, 115, 116, 114, 97, 114, 108, 97, 119, 49, 52, 46, 73, 110, 100, 101, 120, 87, 104, 111, 108, 101, 32, 114, 101, 103, 105, 115, 116, 114, 97, 114, 47, 114, 101, 103, 105, 115, 116, 114, 97, 114, 108, 97, 119, 49, 52, 46, 73, 110, 100, 101, 120, 83, 116, 97, 121, 115, 32, 114, 101, 103, 105, 115, 116, 114, 97, 114, 47, 114, 101, 103, 105, 115, 116, 114, 97, 114, 108, 97, 119, 49, 56, 46, 71, 117, 97, 114, 100, 69, 109, 112, 116, 121, 32, 114, 101, 103, 105, 115, 116, 114, 97, 114, 47, 114, 101, 103, 105, 115, 116, 114, 97, 114, 108, 97, 119, 49, 56, 46, 71, 117, 97, 114, 100, 76, 97, 116, 101, 114]
def ordL : List Char := ordN.map Char.ofNat
theorem order_eq : Try.prog.initOrder = String.ofList ordL := by kernel_rfl
theorem signs_eq : Try.prog.initOrder.toList = ordL := by rw [order_eq, String.toList_ofList]
def ordRest : List (List Char) := (behindMainWord (wordsSigns ordL)).tail
theorem words_eq : behindMainWord (wordsSigns ordL) = "cut".toList :: ordRest := by kernel_rfl
theorem strip_cut (r : List (List Char)) : stripLifts liftWords ("cut".toList :: r) = ([], "cut".toList :: r) := by kernel_rfl
theorem mayEnter_of (P : Program) (rest : List (List Char)) (h : behindMainWord (wordsSigns P.initOrder.toList) = "cut".toList :: rest) (h1 : P.laysLater = false) (h2 : P.bearsReflect = false) (h3 : P.doorFits [] = true) : P.mayEnter = true := by
  unfold Program.mayEnter
  rw [h]
  dsimp only
  rw [strip_cut, h1, h2, h3]
  simp
theorem lifts_of (P : Program) (rest : List (List Char)) (h : behindMainWord (wordsSigns P.initOrder.toList) = "cut".toList :: rest) : P.liftsFinal = false := by
  unfold Program.liftsFinal Program.headLifts
  rw [h, strip_cut]
  simp
theorem make_of (P : Program) (rest : List (List Char)) (h : behindMainWord (wordsSigns P.initOrder.toList) = "cut".toList :: rest) : P.make = some .cut := by
  unfold Program.make
  rw [h]
  dsimp only
  rw [if_neg (by decide), if_pos (by simp)]
theorem door_of (P : Program) (h : P.doorRows = []) : P.doorFits [] = true := by
  unfold Program.doorFits
  rw [h]
  simp
theorem head_eq : behindMainWord (wordsSigns Try.prog.initOrder.toList) = "cut".toList :: ordRest := by rw [signs_eq]; exact words_eq
theorem h_later : Try.prog.laysLater = false := by kernel_rfl
theorem h_refl : Try.prog.bearsReflect = false := by kernel_rfl
theorem h_rows : Try.prog.doorRows = [] := by kernel_rfl
theorem mayEnter_eq : Try.prog.mayEnter = true := mayEnter_of _ _ head_eq h_later h_refl (door_of _ h_rows)
theorem lifts_eq : Try.prog.liftsFinal = false := lifts_of _ _ head_eq
theorem make_eq : Try.prog.make = some .cut := make_of _ _ head_eq
theorem laidOut_eq : laidOutB Try.prog = true := by kernel_rfl
theorem mapsRowed_eq : mapsRowed Try.prog = true := by kernel_rfl
theorem stops_eq : (Try.prog.stops == []) = true := by kernel_rfl
theorem stopKnobs_eq : (Try.prog.stopKnobs == []) = true := by kernel_rfl
theorem heard_eq : Try.prog.stopsHeard = true := by kernel_rfl
theorem own_eq : ownKnob Try.prog.godebug = none := by kernel_rfl

/-- The rows' one great closed fact, out of its parts. -/
theorem joined_of {P : Program} {f : FuncId} {fn : Func} {s : ChangeSpec} {c : OpenClaim}
    (k1 : c.wf (OpenSpec.ofChange s) = true) (k2 : laidOutB P = true) (k3 : mapsRowed P = true) (k4 : fn.params.all (P.readableRec ·) = true) (k5 : namedTie P c.named s.vars = true)
    (k6 : (c.stops == []) = true) (k7 : (P.stops == []) = true) (k8 : (c.knobs == []) = true) (k9 : (P.stopKnobs == []) = true)
    (k10 : (c.inPlace == P.inPlace f) = true) (k11 : (c.unfollowed == P.unfollowed f) = true) (k12 : (c.recurses == P.recurses f) = true) (k13 : (c.named == P.varsNamed f) = true)
    (k14 : (c.maps == (fn.params.toList ++ s.plain.varTypes P).any (P.mapsRec ·)) = true) (k15 : (c.ifaces == (fn.params.toList ++ s.plain.varTypes P).any (P.ifacesRec ·)) = true) (k16 : (c.mapsOut == P.mapsAmong fn.resultTypes.toList) = true)
    (k17 : (c.loops == (fn.params.toList ++ s.plain.varTypes P).any (P.loopsFrom ·)) = true) (k18 : (c.wideKeys == (fn.params.toList ++ s.plain.varTypes P ++ fn.resultTypes.toList).any (P.wideKeysFrom ·)) = true)
    (k19 : s.vars.all (P.varReadable ·) = true) (k20 : fn.resultTypes.all (fun t => P.readableRec t && decide (t < P.types.size)) = true) (k21 : (c.ifacesOut == fn.resultTypes.toList.any (P.ifacesRec ·)) = true) (k22 : (c.loopsOut == fn.resultTypes.toList.any (P.loopsFrom ·)) = true)
    (k23 : (c.plainKeys == P.plainKeys) = true) (k24 : c.shortTexts.isNone = true) (k25 : P.stopsHeard = true) (k26 : P.mayEnter = true) (k27 : (c.lifted == P.liftsFinal) = true) (k28 : (P.make == some c.make) = true)
    (k29 : c.kinds = [] ∧ c.domain = []) (k30 : (c.pinned == c.pinnedBy) = true)
    (k31 : (c.veiled == (fn.params.toList ++ s.plain.varTypes P ++ fn.resultTypes.toList).any (P.veiledRec ·)) = true) (k32 : c.veiledFits P fn.params.toList (fn.params.toList ++ s.plain.varTypes P ++ fn.resultTypes.toList) = true) :
    joinedFacts P f fn s c = true := by
  unfold joinedFacts
  rw [k1, k2, k3, k4, k5, k6, k7, k8, k9, k10, k11, k12, k13, k14, k15, k16, k17, k18, k19, k20, k21, k22, k23, k24, k25, k26, k27, k28, k29.1, k29.2, k30, k31, k32]
  rfl
end Go.Proofs.Ytigejdnjdajbhaa

namespace Go.Proofs.Ytigejdnjdajbhaa.indexCopies
open Go.ChangeShapes Go.WideShapes Go.ChangeAt Go.RowKit
open Go.ChangeMaps (open_string shut_string)
set_option maxRecDepth 100000 in
theorem lifted (os : Os) (started : os.Started) (H : Type) (enc : TypeId × Value → H) :
    ReturnsInHanded {} Try.checked os 5 .any (Rows.indexCopiesSpec.pre6 enc Try.prog Try.f5 Rows.indexCopiesRow.domain false) (Rows.indexCopiesSpec.post enc Try.prog Try.f5 false true false false) := by
  refine returnsInHanded_of_change_sized (C := Try.checked) own_eq started (by kernel_rfl) Try.func5
    (ChangeSpec.witness6 (enc := enc) (C := Try.checked) false ⟨#[], #[.slice none 0 0, .slice none 0 0, .slice none 0 0], []⟩ 8 (by kernel_rfl) (by kernel_rfl) (by kernel_rfl) (by kernel_rfl)) ?_
  intro W base args ds gs before hval0 hW hcnd hsz0 _
  have hval : ∀ (j : Nat) t v, Try.f5.params[j]? = some t → args[j]? = some v → Value.okWide Try.prog W .any base t v := hval0
  have hW' := hW
  obtain ⟨p, q, hA0, hV, rfl, hfz, hnd⟩ := hW
  have hA : DataW.TrodAll enc Try.prog W 0 (fun _ => true) true Try.f5.params.toList args.toList ds p := hA0
  rw [Try.params5] at hA hval
  obtain ⟨v0, vs0, d0, ds0, p0, q0, hargs, rfl, rfl, h0, r0⟩ := trodAll_cons hA
  obtain ⟨v1, vs1, d1, ds1, p1, q1, rfl, rfl, rfl, h1, r1⟩ := trodAll_cons r0
  obtain ⟨v2, vs2, d2, ds2, p2, q2, rfl, rfl, rfl, h2, r2⟩ := trodAll_cons r1
  obtain ⟨rfl, rfl, rfl⟩ := trodAll_nil r2
  obtain rfl : args = #[v0, v1, v2] := by cases args; simp_all
  obtain ⟨rfl, rfl⟩ := trodVars_none hV
  have k0 := h0
  have lt0 : ∀ x ∈ p0, x.block < W.heap.size := by obtain ⟨m, hm⟩ := k0; exact DataW.trod_lt m _ _ _ hm
  obtain ⟨a0, len0, cap0, rfl⟩ := okWide_slice Try.underlying22 (hval 0 22 v0 rfl rfl)
  obtain ⟨x0, ⟨A0, c0, e0, l0, m0, w0⟩, g0⟩ := (opBatches).arg h0
  simp only [Value.cells, List.cons.injEq, Value.slice.injEq, and_true] at e0
  obtain ⟨rfl, rfl, rfl⟩ := e0
  have k1 := h1
  have lt1 : ∀ x ∈ p1, x.block < W.heap.size := by obtain ⟨m, hm⟩ := k1; exact DataW.trod_lt m _ _ _ hm
  obtain ⟨a1, len1, cap1, rfl⟩ := okWide_slice Try.underlying22 (hval 1 22 v1 rfl rfl)
  obtain ⟨x1, ⟨A1, c1, e1, l1, m1, w1⟩, g1⟩ := (opBatches).arg h1
  simp only [Value.cells, List.cons.injEq, Value.slice.injEq, and_true] at e1
  obtain ⟨rfl, rfl, rfl⟩ := e1
  have k2 := h2
  have lt2 : ∀ x ∈ p2, x.block < W.heap.size := by obtain ⟨m, hm⟩ := k2; exact DataW.trod_lt m _ _ _ hm
  obtain ⟨a2, len2, cap2, rfl⟩ := okWide_slice Try.underlying22 (hval 2 22 v2 rfl rfl)
  obtain ⟨x2, ⟨A2, c2, e2, l2, m2, w2⟩, g2⟩ := (opBatches).arg h2
  simp only [Value.cells, List.cons.injEq, Value.slice.injEq, and_true] at e2
  obtain ⟨rfl, rfl, rfl⟩ := e2
  clear hA0 hval0
  refine (indexCopies_walk W _ _ x0 ⟨l0, m0, w0⟩ g0 _ _ x1 ⟨l1, m1, w1⟩ g1 _ _ x2 ⟨l2, m2, w2⟩ g2).mono fun e W' ⟨he, bel⟩ => ?_
  subst he
  exact ⟨_, rfl, _, _, _, [], _, [], hW', trodAll_mk1 (shut_bool Try.underlying4 _), (trodAll_cons_mk (Below.trod laidOut_eq (by kernel_rfl) (of_decide_eq_true (by kernel_rfl)) k0 bel lt0) (trodAll_cons_mk (Below.trod laidOut_eq (by kernel_rfl) (of_decide_eq_true (by kernel_rfl)) k1 bel lt1) (trodAll_cons_mk (Below.trod laidOut_eq (by kernel_rfl) (of_decide_eq_true (by kernel_rfl)) k2 bel lt2) trodAll_mk0))), rfl, bel.frame _, fun h => by cases h⟩
theorem k10 : (Rows.indexCopiesRow.inPlace == Try.prog.inPlace 5) = true := by kernel_rfl
theorem k11 : (Rows.indexCopiesRow.unfollowed == Try.prog.unfollowed 5) = true := by kernel_rfl
theorem k12 : (Rows.indexCopiesRow.recurses == Try.prog.recurses 5) = true := by kernel_rfl
theorem k13 : (Rows.indexCopiesRow.named == Try.prog.varsNamed 5) = true := by kernel_rfl
theorem k23 : (Rows.indexCopiesRow.plainKeys == Try.prog.plainKeys) = true := by kernel_rfl
theorem kfn : Try.pinned.checked.prog.funcNamed Rows.indexCopiesRow.func = some 5 := by kernel_rfl
theorem closed : joinedFacts Try.prog 5 Try.f5 Rows.indexCopiesSpec Rows.indexCopiesRow = true :=
  joined_of (by kernel_rfl) laidOut_eq mapsRowed_eq (by kernel_rfl) (by kernel_rfl) rfl stops_eq rfl stopKnobs_eq k10 k11 k12 k13 (by kernel_rfl) (by kernel_rfl) (by kernel_rfl) (by kernel_rfl) (by kernel_rfl) (by kernel_rfl) (by kernel_rfl) (by kernel_rfl) (by kernel_rfl) k23 rfl heard_eq mayEnter_eq (by rw [lifts_eq]; rfl) (by rw [make_eq]; rfl) ⟨rfl, rfl⟩ (by kernel_rfl) (by kernel_rfl) (by kernel_rfl)
theorem over : Rows.indexCopiesRow.holds Try.pinned (OpenSpec.ofChange Rows.indexCopiesSpec) :=
  OpenClaim.holds_of_wide 5 Try.f5 rfl rfl rfl rfl rfl rfl rfl ⟨rfl, rfl, rfl, rfl, rfl⟩ rfl rfl rfl rfl rfl kfn Try.func5 closed
    (of_decide_eq_true (by kernel_rfl)) (by unfold Func.isWrapper; first | (rw [if_pos (by decide +kernel)]; kernel_rfl) | (rw [if_neg (by decide +kernel)]; exact ⟨rfl, rfl⟩))
    (fun os started H enc _ => lifted os started H enc)
theorem proved : Rows.IndexCopiesSaid := over
#print axioms proved
end Go.Proofs.Ytigejdnjdajbhaa.indexCopies
