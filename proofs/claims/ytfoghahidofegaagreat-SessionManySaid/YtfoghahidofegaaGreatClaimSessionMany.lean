/- SessionMany: the law's walk. The closed facts that every row of this seat leans on, each proved for itself: the order's text is long, so it is read once as a list of signs. The row of the law SessionMany, over its walk: for every input the call returns true and each argument reads afterwards as it read before. No conditions. -/
import Derived.Test.YtfoghahidofegaaGreatBundL
import Derived.Test.YtfoghahidofegaaGreatBundM
import Derived.Laws.BitsLemmas
import Derived.Test.YtfoghahidofegaaGreatRows
import Derived.JoinedOf
import Derived.KernelRfl
import Derived.Test.YtfoghahidofegaaGreatBundA
import Derived.WalkKit
import Derived.ProofKit
import Derived.OpenShut
import Derived.ShutString
import Derived.ChangeOld
import Derived.Below
import Derived.SizedLaws
set_option linter.unusedVariables false
set_option linter.unusedSimpArgs false
namespace Go.Proofs.YtfoghahidofegaaGreat
open Go.RowKit Go.Maps

theorem i64_and31 (n : Int) : bits .and .i64 n 31 = n % 32 := by
  have h31 : (BitVec.ofInt 64 31).toNat = 2 ^ 5 - 1 := by decide
  have key : (BitVec.ofInt 64 n &&& BitVec.ofInt 64 31).toNat = (n % ((2 ^ 64 : Nat) : Int)).toNat % 2 ^ 5 := by
    rw [BitVec.toNat_and, BitVec.toNat_ofInt, h31, Nat.and_two_pow_sub_one_eq_mod]
  show IntKind.i64.wrap ((BitVec.ofInt 64 n &&& BitVec.ofInt 64 31).toNat : Nat) = n % 32
  rw [key, IntKind.wrap_i64]
  omega
/-- Guards and names seen go side by side. -/
structure Seen (gs : List Grd) (seen : List ByteArray) : Prop where
  mem : ∀ s, gRead [] 0 s ∈ gs ↔ s ∈ seen
  len : gs.length = seen.length
  rise : seen.Pairwise ltB
  le : seen.length ≤ 16
theorem ltB_nodup {l : List ByteArray} (h : l.Pairwise ltB) : l.Nodup := h.imp (fun {a b} hab e => by rw [e] at hab; exact ltB_irrefl _ hab)
theorem put_same {l l' : List ByteArray} {s : ByteArray} (hr : l.Pairwise ltB) (h : PutR l s l') (hm : s ∈ l) : l' = l :=
  riseB_eq h.rise hr (fun x => by rw [h.mem]; exact ⟨fun hx => hx.elim id (fun e => e ▸ hm), .inl⟩)
theorem nodup_le : ∀ {a b : List ByteArray}, a.Nodup → (∀ x ∈ a, x ∈ b) → a.length ≤ b.length
  | [], _, _, _ => Nat.zero_le _
  | x :: a, b, h, hs => by
    have hx := hs x List.mem_cons_self
    obtain ⟨b1, b2, rfl⟩ := List.append_of_mem hx
    have h0 := List.nodup_cons.1 h
    have h1 := nodup_le (b := b1 ++ b2) h0.2 (fun y hy => by
      have h2 := hs y (List.mem_cons_of_mem _ hy)
      rcases List.mem_append.1 h2 with h3 | h3
      · exact List.mem_append_left _ h3
      · rcases List.mem_cons.1 h3 with h4 | h4
        · exact absurd (h4 ▸ hy) h0.1
        · exact List.mem_append_right _ h4)
    simp only [List.length_append, List.length_cons] at h1 ⊢
    omega
theorem put_more {l l' : List ByteArray} {s : ByteArray} (hr : l.Pairwise ltB) (h : PutR l s l') (hm : s ∉ l) : l'.length = l.length + 1 := by
  refine Nat.le_antisymm h.len ?_
  have h1 : (s :: l).Nodup := List.nodup_cons.2 ⟨hm, ltB_nodup hr⟩
  have := nodup_le h1 (fun x hx => (h.mem x).2 ((List.mem_cons.1 hx).symm))
  simpa using this
theorem gRead_inj {s t : ByteArray} (h : gRead [] 0 s = gRead [] 0 t) : s = t := congrArg (fun g : Grd => g.1) h
/-- A name more. -/
theorem Seen.step {gs : List Grd} {seen next : List ByteArray} {s : ByteArray} (h : Seen gs seen) (hs : mayN s = true) (hp : PutR seen s next) :
    (next.length ≤ 16 ∧ addE gs (gRead [] 0 s) = 0 ∧ Seen (keepL gs (gRead [] 0 s)) next) ∨ (16 < next.length ∧ addE gs (gRead [] 0 s) = 3 ∧ keepL gs (gRead [] 0 s) = gs) := by
  have hg : mayG (gRead [] 0 s) = 0 := by rw [mayG_read (by simp), if_pos hs]
  by_cases hm : s ∈ seen
  · obtain ⟨h1, h2⟩ := addE_has hg ((h.mem s).2 hm)
    have h3 := put_same h.rise hp hm
    subst h3
    exact .inl ⟨h.le, h1, by rw [h2]; exact h⟩
  · have h3 := put_more h.rise hp hm
    have hn : ¬ hasG gs (gRead [] 0 s) = true := fun hh => hm ((h.mem s).1 (hasG_mem.1 hh))
    by_cases h16 : 16 ≤ gs.length
    · have h0 : addE gs (gRead [] 0 s) = 3 := by unfold addE; rw [if_neg (by simp [hg]), if_neg hn, if_pos h16]
      exact .inr ⟨by rw [h3, ← h.len]; omega, h0, keepL_no (by rw [h0]; simp)⟩
    · have h0 : addE gs (gRead [] 0 s) = 0 := by unfold addE; rw [if_neg (by simp [hg]), if_neg hn, if_neg h16]
      have hk : keepL gs (gRead [] 0 s) = gs ++ [gRead [] 0 s] := by
        rw [keepL_ok h0]
        unfold addL
        rw [if_neg (by simp [h0]), if_neg hn]
      refine .inl ⟨by have := h.len; omega, h0, ?_⟩
      rw [hk]
      refine ⟨fun t => ?_, by rw [List.length_append, List.length_singleton, h3, h.len], hp.rise, by have := h.len; omega⟩
      rw [hp.mem, List.mem_append, List.mem_singleton, h.mem]
      exact ⟨fun hx => hx.imp id gRead_inj, fun hx => hx.imp id (fun e => by rw [e])⟩
/-- The law's index, without records, and its session. -/
structure Sm (w wr : World) (B : Six) (b : Nat) (gs : List Grd) (vs : List Event) : Prop where
  ix : Ix wr B [] (fun k => k < w.heap.size ∨ k = b)
  s : Ss wr 127 b 0 gs vs B.has
  bel : Below w.heap.size w wr
  bl : w.heap.size ≤ b
section
variable {w wr w' : World} {B : Six} {b : Nat} {gs gs' : List Grd} {vs vs' : List Event}
theorem Sm.below (h : Sm w wr B b gs vs) (hb : Below wr.heap.size wr w') : Sm w w' B b gs vs := ⟨h.ix.below hb, h.s.below hb, bthen h.bel hb, h.bl⟩
theorem Sm.step (h : Sm w wr B b gs vs) (hs : Ss w' 127 b 0 gs' vs' B.has) (hb : But (fun k => k = b) wr w') : Sm w w' B b gs' vs' := ⟨h.ix.far (hb.mono (fun k hk => .inr hk)), hs, hb.below h.bel h.bel.size (fun k hk => hk ▸ h.bl), h.bl⟩
end
set_option maxHeartbeats 16000000 in
set_option maxRecDepth 100000 in
theorem sessionMany_walk (w : World) (A : Option Addr) (c : Nat) (l : List ByteArray) (h : Sl Kn.str (fun _ => True) w A c l) (hg : ∀ x ∈ l, x.size ≤ maxLen) (c1 : Array Value) (v : Event) (hv : kEvent.K (fun _ => True) w v c1.toList) (gv : goodEvent v) (many : Int) (hmy : (Lit.int .i64 many).wf = true) :
    Calls Tryz.prog 5 #[.slice A l.length c, .agg c1, .int .i64 many] w fun r w' => r = .returned (.bool true) ∧ Below w.heap.size w w' := by
  have HL0 := Lib.hid (show Sl Kn.str (fun k => k < w.heap.size) w A c l from h.bound.mono (fun _ h => h.2))
  have hc1 := h.1
  have hc2 := h.2.1
  unfold maxLen at hc2
  have HV := Lib.hid (ev_in (l := [v]) (fun x hx => by rw [List.mem_singleton.1 hx]; exact gv) v (List.mem_singleton.2 rfl))
  obtain ⟨T, ct, F, cf, rfl, hT, hF⟩ := event_in18 hv
  obtain ⟨W1, hW1⟩ : ∃ W1, W1 = w.alloc (.cells #[.string v.stream, .string v.type, .slice T v.tags.length ct, .slice F v.fields.length cf] 42) := ⟨_, rfl⟩
  have HW1 := Lib.hid hW1
  have hb1 : Below w.heap.size w W1 := by rw [hW1]; exact (Below.refl _ _).alloc (Nat.le_refl _) _
  have hx1 : Bx W1 w.heap.size 42 [.string v.stream, .string v.type, .slice T v.tags.length ct, .slice F v.fields.length cf] := by rw [hW1]; exact Bx.new w _ _
  have hlx := hx1.lt
  have HB1 := Lib.hid hb1
  have C1 := Lib.hid (shown19_any W1)
  have HC := Lib.hid (fun W (hW : Below W1.heap.size W1 W) => show W.cell? ⟨w.heap.size, 0, none⟩ = some (.string v.stream) ∧ W.cell? ⟨w.heap.size, 1, none⟩ = some (.string v.type) ∧ W.cell? ⟨w.heap.size, 2, none⟩ = some (.slice T v.tags.length ct) ∧ W.cell? ⟨w.heap.size, 3, none⟩ = some (.slice F v.fields.length cf) from
    ⟨(hx1.under hW).cell 0, (hx1.under hW).cell 1, (hx1.under hW).cell 2, (hx1.under hW).cell 3⟩)
  have HTW := Lib.hid (fun W (hW : Below W1.heap.size W1 W) => show Sl Kn.str (fun k => k < W1.heap.size) W T ct v.tags from ((hT.below hb1).mono (fun k hk => (by have := hb1.size; omega : k < W1.heap.size))).stay hW.size (fun k hk _ => hW.block k hk))
  have HFW := Lib.hid (fun W (hW : Below W1.heap.size W1 W) => show Sl kField (fun k => k < W1.heap.size) W F cf v.fields from ((hF.below hb1).mono (fun k hk => (by have := hb1.size; omega : k < W1.heap.size))).stay hW.size (fun k hk _ => hW.block k hk))
  have HL1 := Lib.hid (fun W (hW : Below W1.heap.size W1 W) => show Row Kn.str (fun k => k < W1.heap.size) W A l from (((HL0.out.below hb1).mono (fun k hk => (by have := hb1.size; omega : k < W1.heap.size))).stay hW.size (fun k hk _ => hW.block k hk)).2.2)
  obtain ⟨m, hm⟩ : ∃ m, mayE v = m := ⟨_, rfl⟩
  have HM := Lib.hid hm
  obtain ⟨N, hN⟩ : ∃ N : Nat, many % 32 = (N : Int) := ⟨(many % 32).toNat, by omega⟩
  have hN32 : N < 32 := by omega
  have hand : bits .and .i64 many 31 = (N : Int) := by rw [i64_and31]; exact hN
  clear h hg hv gv hT hF hb1 hx1 hm HL0 hN hmy
  go_enter Tryz.func5, Tryz.ntmps5
  go_upto_region 1 with fail
  rw [← HW1.out]
  clear hW1 HW1
  go_upto_region 6 with (first
    | (go_at_call 28; go_fit C3.out; rintro r w4 ⟨b, rfl, h4, hb4, hl4⟩; have H4 := Lib.hid (show Sm W1 w4 B b [] [] from ⟨H3.out.ix.fence hb4 (fun k hk => hk.elim .inl (fun e => .inr (by rw [e]; exact ⟨hl4, h4.lt⟩))), h4, bthen HB3.out hb4, Nat.le_trans HB3.out.size hl4⟩); clear h4 hb4 hl4)
    | (go_at_call 12; go_fit C2.out; rintro r w3 ⟨B, rfl, h3, hb3⟩; have H3 := Lib.hid h3; have HB3 := Lib.hid (bthen HB2.out hb3); have C3 := Lib.hid (sNew h3.ix (X := B.has) (fun k hk => h3.ix.lt k hk)); clear h3 hb3)
    | (go_at_call 27; go_fit C1.out; rintro r w2 ⟨rfl, hb2⟩; have HB2 := Lib.hid hb2; have C2 := Lib.hid (lNew W1 (wr := w2) hb2.size); clear hb2))
  have HS0 := Lib.hid ((Sl.lit (fun s : ByteArray => Value.string s) (fun _ => rfl) w4 9 [] (by simp)).mono (ok' := fun j => j ≠ b) (fun k hk => by have := H4.out.s.lt; omega))
  have HA0 := Lib.hid (fun (o : Obj) => (H4.out.below ((Below.refl _ _).alloc (Nat.le_refl _) o)))
  clear C1 C2 C3 H3 HB3 HB2
  go_upto_block 0 with fail
  go_cut [10, 11] (fun sv _ wx => ∃ (gs : List Grd) (seen : List ByteArray) (A5 : Option Addr) (c5 : Nat), sv = .slice A5 seen.length c5 ∧ Seen gs seen ∧ Sm W1 wx B b gs [])
  case first =>
    go_wp2_with fail
    go_loopw [10, 11] (fun sv i wr => ∃ (k : Nat) (gs : List Grd) (seen : List ByteArray) (A5 : Option Addr) (c5 : Nat), k ≤ l.length ∧ k ≤ 40 ∧ i = .int .i64 k ∧ sv = .slice A5 seen.length c5 ∧ Sl Kn.str (fun j => j ≠ b) wr A5 c5 seen ∧ Seen gs seen ∧ Sm W1 wr B b gs []) (fun _ i _ => l.length - (intOf i).toNat)
    case atStart => exact ⟨0, [], [], _, _, Nat.zero_le _, Nat.zero_le _, rfl, rfl, HS0.out, ⟨by simp, rfl, List.Pairwise.nil, by simp⟩, HA0.out _⟩
    case round =>
      clear HS0 HA0 H4
      obtain ⟨k, gs, seen, A5, c5, hk, hk40, rfl, rfl, hs5, hseen, hsm⟩ := hrel
      have HSM := Lib.hid hsm
      have HSE := Lib.hid hseen
      have HS5 := Lib.hid hs5
      have hsl := hseen.le
      by_cases hlt : k < l.length ∧ k < 40
      · obtain ⟨hlt, h40⟩ := hlt
        obtain ⟨ad, rfl, hy⟩ := row_str_at (HL1.out wr hsm.bel) hlt
        have HCE := Lib.hid (fun W (hW : Below W1.heap.size W1 W) => show W.cell? (ad.add k) = some (.string l[k]) from by
          obtain ⟨ad', e', hy'⟩ := row_str_at (HL1.out W hW) hlt
          cases e'
          exact hy')
        generalize l[k] = s at hy HCE
        obtain ⟨b1, hb1⟩ : ∃ b1, mayN s = b1 := ⟨_, rfl⟩
        have CM := Lib.hid (show Calls Tryz.prog 29 #[.string s] wr fun e w' => e = .returned (.bool b1) ∧ Below wr.heap.size wr w' from by rw [← hb1]; exact refMay_any s wr)
        have HB := Lib.hid hb1
        have i1 : (0 : Int) ≤ (k : Int) := Int.natCast_nonneg _
        have i2 : (k : Int) < (l.length : Int) := by omega
        clear hs5 hseen hsm hb1
        cases b1 with
        | false =>
          go_wp2_with (go_at_call 29; go_fit CM.out; rintro r w5 ⟨rfl, hb5⟩; have HB5 := Lib.hid hb5; clear hb5)
          go_roundw
          case rel => exact ⟨k + 1, gs, seen, A5, c5, by omega, by omega, by go_num, rfl, HS5.out.below HB5.out, HSE.out, HSM.out.below HB5.out⟩
          case measure => simp [intOf]; omega
        | true =>
          have CP := Lib.hid (fun W (hW : Below wr.heap.size wr W) => Put_any (HS5.out.below hW) (by omega) HSE.out.rise s)
          obtain ⟨e, he⟩ : ∃ e, addE gs (gRead [] 0 s) = e := ⟨_, rfl⟩
          have CR := Lib.hid (fun W (hS : Sm W1 W B b gs []) => show Calls Tryz.prog 31 #[.pointer (some ⟨b, 0, none⟩), .pointer (some ⟨B.b, 0, none⟩), .string s] W fun r w' => (∃ A n c, r = .returned (.tuple #[.slice A n c, .int .i64 e])) ∧ Sm W1 w' B b (keepL gs (gRead [] 0 s)) [] ∧ But (fun j => j = b) W w' from by
            have := sRead hS.s hS.ix (.inr rfl) (mayN_size HB.out)
            rw [he] at this
            exact this.mono (fun r w' ⟨A, c, e, _, h2, h3⟩ => ⟨⟨A, _, c, e⟩, hS.step h2 h3, h3⟩))
          have HST := Lib.hid (fun next (hp : PutR seen s next) => Seen.step HSE.out HB.out hp)
          have HE := Lib.hid he
          clear he
          go_upto_region 14 with (first
            | (go_at_call 30; go_fit (CP.out _ HB5.out); rintro r w6 ⟨A6, c6, next, rfl, hs6, hp6, hb6⟩; have HS6 := Lib.hid hs6; have HP6 := Lib.hid hp6; have H6 := Lib.hid ((HSM.out.below HB5.out).below hb6); have HBP := Lib.hid (show But (fun j => j = b) w5 w6 from But.of_below hb6); have y6 := HCE.out _ ((HSM.out.below HB5.out).below hb6).bel; clear hs6 hp6 hb6)
            | (go_at_call 29; go_fit CM.out; rintro r w5 ⟨rfl, hb5⟩; have HB5 := Lib.hid hb5; have y5 := HCE.out _ (HSM.out.below hb5).bel; clear hb5)
            | (go_at_call 31; go_fit (CR.out _ H6.out); rintro r w7 ⟨⟨A7, n7, c7, rfl⟩, h7, hb7⟩; have H7 := Lib.hid h7; have HB7 := Lib.hid hb7; clear h7 hb7))
          have HS7 := Lib.hid ((HS6.out.mono (ok' := fun j => j ≠ b) (fun j hj => hj.elim id (fun hj => by have := (HSM.out.below HB5.out).s.lt; omega))).stay HB7.out.size (fun j hj hl => HB7.out.block j hl hj))
          have HS5' := Lib.hid (((HS5.out.below HB5.out).mono (ok' := fun j => j ≠ b) (fun j hj => hj)))
          rcases HST.out next HP6.out with ⟨q1, q2, q3⟩ | ⟨q1, q2, q3⟩
          · rw [HE.out] at q2
            subst q2
            have d1 : decide (16 < next.length) = false := decide_eq_false (by omega)
            have d2 : decide ((16 : Int) < (next.length : Int)) = false := decide_eq_false (by omega)
            have Q3 := Lib.hid q3
            clear q1 q3
            go_wp2_with fail
            go_roundw
            case rel => exact ⟨k + 1, _, next, A6, c6, by omega, by omega, by go_num, rfl, HS7.out, Q3.out, H7.out⟩
            case measure => simp [intOf]; omega
          · rw [HE.out] at q2
            subst q2
            have d1 : decide (16 < next.length) = true := decide_eq_true q1
            have d2 : decide ((16 : Int) < (next.length : Int)) = true := decide_eq_true (by omega)
            have Q3 := Lib.hid q3
            have HSB := Lib.hid (show But (fun j => j = b) wr w7 from ((But.of_below (HB5.out)).trans HBP.out).trans HB7.out)
            clear q1 q3
            go_wp2_with fail
            go_roundw
            case rel => exact ⟨k + 1, gs, seen, A5, c5, by omega, by omega, by go_num, rfl, HS5.out.stay HSB.out.size (fun j hj hl => HSB.out.block j hl hj), HSE.out, by have := H7.out; rw [Q3.out] at this; exact this⟩
            case measure => simp [intOf]; omega
      · have HF := Lib.hid (show ∃ (gs : List Grd) (seen' : List ByteArray) (A5' : Option Addr) (c5' : Nat), Value.slice A5 seen.length c5 = .slice A5' seen'.length c5' ∧ Seen gs seen' ∧ Sm W1 wr B b gs [] from ⟨gs, seen, A5, c5, rfl, hseen, hsm⟩)
        have hstop : k < l.length → ¬ k < 40 := fun h h2 => hlt ⟨h, h2⟩
        clear hs5 hseen hsm HSM HSE HS5 hlt
        rcases Nat.lt_or_ge k l.length with hc | hc
        · have h10 := hstop hc
          clear hstop
          go_wp2_with fail
          go_meet
          exact HF.out
        · clear hstop
          go_wp2_with fail
          go_meet
          exact HF.out
  case rest =>
    obtain ⟨gs, seen, A5, c5, rfl, hseen, hsm⟩ := hcut
    obtain ⟨v5, hv5⟩ : ∃ v5, v5 = wc := ⟨_, rfl⟩
    subst hv5
    have H5 := Lib.hid hsm
    have CG := Lib.hid (show Calls Tryz.prog 32 #[.pointer (some ⟨b, 0, none⟩)] v5 fun r w' => (∃ A c, r = .returned (.slice A seen.length c)) ∧ Below v5.heap.size v5 w' from
      (sGuards hsm.s).mono (fun r w' ⟨A, c, e, _, h⟩ => ⟨⟨A, c, by rw [e, hseen.len]⟩, h⟩))
    have CM := Lib.hid (fun W (hW : Below v5.heap.size v5 W) => show Calls Tryz.prog 33 #[.agg #[.string v.stream, .string v.type, .slice T v.tags.length ct, .slice F v.fields.length cf]] W fun r w' => r = .returned (.int .i64 m) ∧ Below W.heap.size W w' from by rw [← HM.out]; exact refMayE_any (HTW.out W (H5.out.below hW).bel).any (HFW.out W (H5.out.below hW).bel).any HV.out.1)
    have HCW := Lib.hid (fun W gs' vs' (hS : Sm W1 W B b gs' vs') => HC.out W hS.bel)
    clear hseen hsm HS0 HA0 H4
    by_cases hm0 : m = 0
    rotate_left
    · have d0 : (m == 0) = false := by simp [hm0]
      have d1 : (m != 0) = true := by simp [hm0]
      clear hm0 hand
      go_wp2_with (first
        | (go_at_call 33; go_fit (CM.out _ HB6.out); rintro r w7 ⟨rfl, hb7⟩; have HB7 := Lib.hid hb7; clear hb7)
        | (go_at_call 32; go_fit CG.out; rintro r w6 ⟨⟨A6, c6, rfl⟩, hb6⟩; have HB6 := Lib.hid hb6; obtain ⟨k0, k1, k2, k3⟩ := HCW.out _ _ _ (H5.out.below hb6); clear hb6))
      go_ret
      exact ⟨rfl, bthen HB1.out (bthen (H5.out.below HB6.out).bel HB7.out)⟩
    subst hm0
    have HIN := Lib.hid (HV.out.2 HM.out)
    go_upto_region 23 with (first
      | (go_at_call 33; go_fit (CM.out _ HB6.out); rintro r w7 ⟨rfl, hb7⟩; have H7 := Lib.hid ((H5.out.below HB6.out).below hb7); clear hb7)
      | (go_at_call 32; go_fit CG.out; rintro r w6 ⟨⟨A6, c6, rfl⟩, hb6⟩; have HB6 := Lib.hid hb6; obtain ⟨k0, k1, k2, k3⟩ := HCW.out _ _ _ (H5.out.below hb6); clear hb6))
    clear CM CG k0 k1 k2 k3
    have CAP := Lib.hid (fun W vs (hS : Sm W1 W B b gs vs) => show Calls Tryz.prog 34 #[.pointer (some ⟨b, 0, none⟩), .pointer (some ⟨B.b, 0, none⟩), .agg #[.string v.stream, .string v.type, .slice T v.tags.length ct, .slice F v.fields.length cf], .int .i64 (-1)] W fun r w' => r = .returned (.int .i64 (appE [] 0 gs vs v (-1))) ∧ Sm W1 w' B b (appG [] 0 gs vs v (-1)) (appV [] 0 gs vs v (-1)) from by
      have hb := hS.bel
      have hl := hS.bl
      have := sAppend hS.s hS.ix (.inr rfl) (v := v) (T := T) (F := F) (ct := ct) (cf := cf) ((HTW.out _ hb).mono (fun k hk => by omega)) ((HFW.out _ hb).mono (fun k hk => by omega)) (by have := HIN.out.fl; omega) HV.out.1 HV.out.2 (-1)
      exact this.mono (fun r w' h => ⟨h.1, hS.step h.2.1 h.2.2⟩))
    go_wp2_with fail
    go_loopw [18] (fun i wr => ∃ k j : Nat, k ≤ N ∧ i = .int .i64 k ∧ j = min k 16 ∧ Sm W1 wr B b gs (List.replicate j v)) (fun i _ => N - (intOf i).toNat)
    case atStart => exact ⟨0, 0, Nat.zero_le _, rfl, rfl, H7.out⟩
    case round =>
      clear H7 H5 HB6
      obtain ⟨k, j, hk, rfl, hj, hsm⟩ := hrel
      have HSM := Lib.hid hsm
      by_cases hlt : k < N
      · obtain ⟨k0, k1, k2, k3⟩ := HCW.out _ _ _ hsm
        have C1 := Lib.hid (CAP.out _ _ hsm)
        have i1 : ((k : Int) < (N : Int)) := by omega
        clear hsm
        by_cases h16 : k < 16
        · have hjk : j = k := by omega
          subst hjk
          obtain ⟨e1, e2, e3⟩ := app_any (es := []) (at_ := 0) (gs := gs) (vs := List.replicate j v) (v := v) HM.out (by simp; omega)
          rw [e1, e2, e3, ← List.replicate_succ'] at C1
          have d1 : decide (j < 16) = true := decide_eq_true h16
          have d2 : decide (16 ≤ j) = false := decide_eq_false (by omega)
          have d3 : ¬ 16 ≤ j := by omega
          have d4 : ((j : Int) < 16) := by omega
          clear e1 e2 e3 hj
          go_wp2_with (go_at_call 34; go_fit C1.out; rintro r w8 ⟨rfl, h8⟩; have H8 := Lib.hid h8; clear h8)
          go_roundw
          case rel => exact ⟨j + 1, j + 1, by omega, by go_num, by omega, H8.out⟩
          case measure => simp [intOf]; omega
        · have hjk : j = 16 := by omega
          have e1 := app_big (es := []) (at_ := 0) (gs := gs) (vs := List.replicate j v) (v := v) (n := -1) HM.out (by simp; omega)
          obtain ⟨e2, e3⟩ := app_no (es := []) (at_ := 0) (gs := gs) (vs := List.replicate j v) (v := v) (n := -1) (by rw [e1]; simp)
          rw [e1, e2, e3] at C1
          have d1 : decide (k < 16) = false := decide_eq_false h16
          have d2 : decide (16 ≤ k) = true := decide_eq_true (by omega)
          have d3 : 16 ≤ k := by omega
          have d4 : ¬ ((k : Int) < 16) := by omega
          clear e1 e2 e3 hj
          go_wp2_with (go_at_call 34; go_fit C1.out; rintro r w8 ⟨rfl, h8⟩; have H8 := Lib.hid h8; clear h8)
          go_roundw
          case rel => exact ⟨k + 1, j, by omega, by go_num, by omega, H8.out⟩
          case measure => simp [intOf]; omega
      · have hkN : k = N := by omega
        subst hkN
        have CE := Lib.hid (show Calls Tryz.prog 35 #[.pointer (some ⟨b, 0, none⟩)] wr fun r w' => (∃ A c, r = .returned (.slice A j c)) ∧ Below wr.heap.size wr w' from
          (sEvents hsm.s).mono (fun r w' ⟨A, c, e, _, h⟩ => ⟨⟨A, c, by rw [e, List.length_replicate]⟩, h⟩))
        have hmn : min (k : Int) 16 = (j : Int) := by omega
        clear hsm hj
        go_wp2_with (go_at_call 35; go_fit CE.out; rintro r w8 ⟨⟨A8, c8, rfl⟩, hb8⟩; have HB8 := Lib.hid hb8; clear hb8)
        go_ret
        exact ⟨by first | rfl | simp, bthen HB1.out (bthen HSM.out.bel HB8.out)⟩
end Go.Proofs.YtfoghahidofegaaGreat

namespace Go.Proofs.YtfoghahidofegaaGreat

set_option maxRecDepth 100000 in
def ordN : List Nat := [104, 97, 114, 110, 101, 115, 115, 32, 52, 51, 57, 99, 56, 54, 52, 48, 57, 53, 57, 98, 54, 102, 49, 100, 98, 52, 54, 57, 49, 55, 52, 101, 99, 98, 102, 48, 52, 98, 98, 55, 55, 51, 55, 102, 97, 97, 102, 100, 101, 56, 102, 54, 51, 52, 56, 50, 52, 101, 56, 97, 49, 101, 54, 49, 52, 53, 52, 50, 54, 55, 97, 101, 32, 99, 117, 116, 32, 97, 116, 32, 114, 101, 103, 105, 115, 116, 114, 97, 114, 47, 114, 101, 103, 105, 115, 116, 114, 97, 114, 108, 97, 119, 49, 52, 46, 73, 110, 100, 101, 120, 80, 108, 97, 121, 115, 32, 114, 101, 103, 105, 115, 116, 114, 97, 114, 47, 114, 101, 103, 105, 115, 116, 114, 97, 114, 108, 97, 119, 49, 56, 46, 71, 117, 97, 114, 100, 76, 105, 115, 116, 115, 32, 114, 101, 103, 105, 115, 116, 114, 97, 114, 47, 114, 101, 103, 105, 115, 116, 114, 97, 114, 108, 97, 119, 49, 57, 46, 83, 101, 115, 115, 105, 111, 110, 77, 97, 110, 121, 32, 114, 101, 103, 105, 115, 116, 114, 97, 114, 47, 114, 101, 103, 105, 115, 116, 114, 97, 114, 108, 97, 119, 49, 57, 46, 83, 101, 115, 115, 105, 111, 110, 70, 114, 101, 101, 32, 114, 101, 103, 105, 115, 116, 114, 97, 114, 47, 114, 101, 103, 105, 115, 116, 114, 97, 114, 108, 97, 119, 49, 57, 46, 83, 101, 115, 115, 105, 111, 110, 83, 101, 101, 115, 32, 114, 101, 103, 105, 115, 116, 114, 97, 114, 47, 114, 101, 103, 105, 115, 116, 114, 97, 114, 108, 97, 119, 49, 57, 46, 83, 101, 115, 115, 105, 111, 110, 65, 116, 32, 114, 101, 103, 105, 115, 116, 114, 97, 114, 47, 114, 101, 103, 105, 115, 116, 114, 97, 114, 108, 97, 119, 49, 57, 46, 83, 101, 115, 115, 105, 111, 110, 82, 101, 102, 117, 115, 101, 115, 32, 114, 101, 103, 105, 115, 116, 114, 97, 114, 47, 114, 101, 103, 105, 115, 116, 114, 97, 114, 108, 97, 119, 49, 57, 46, 83, 101, 115, 115, 105, 111, 110, 80, 108, 97, 121, 115]
def ordL : List Char := ordN.map Char.ofNat
theorem order_eq : Tryz.prog.initOrder = String.ofList ordL := by kernel_rfl
theorem signs_eq : Tryz.prog.initOrder.toList = ordL := by rw [order_eq, String.toList_ofList]
def ordRest : List (List Char) := (behindMainWord (wordsSigns ordL)).tail
theorem words_eq : behindMainWord (wordsSigns ordL) = "cut".toList :: ordRest := by kernel_rfl
theorem strip_cut (r : List (List Char)) : stripLifts liftWords ("cut".toList :: r) = ([], "cut".toList :: r) := by kernel_rfl
theorem mayEnter_of (P : Program) (rest : List (List Char)) (h : behindMainWord (wordsSigns P.initOrder.toList) = "cut".toList :: rest) (h1 : P.laysLater = false) (h2 : P.bearsReflect = false) (h3 : P.doorFits [] = true) : P.mayEnter = true := by
  unfold Program.mayEnter
  rw [h]
  dsimp only
  rw [strip_cut, h1, h2, h3]
  simp
theorem lifts_of (P : Program) (rest : List (List Char)) (h : behindMainWord (wordsSigns P.initOrder.toList) = "cut".toList :: rest) : P.liftsFinal = false := by
  unfold Program.liftsFinal Program.headLifts
  rw [h, strip_cut]
  simp
theorem make_of (P : Program) (rest : List (List Char)) (h : behindMainWord (wordsSigns P.initOrder.toList) = "cut".toList :: rest) : P.make = some .cut := by
  unfold Program.make
  rw [h]
  dsimp only
  rw [if_neg (by decide), if_pos (by simp)]
theorem door_of (P : Program) (h : P.doorRows = []) : P.doorFits [] = true := by
  unfold Program.doorFits
  rw [h]
  simp
theorem head_eq : behindMainWord (wordsSigns Tryz.prog.initOrder.toList) = "cut".toList :: ordRest := by rw [signs_eq]; exact words_eq
theorem h_later : Tryz.prog.laysLater = false := by kernel_rfl
theorem h_refl : Tryz.prog.bearsReflect = false := by kernel_rfl
theorem h_rows : Tryz.prog.doorRows = [] := by kernel_rfl
theorem mayEnter_eq : Tryz.prog.mayEnter = true := mayEnter_of _ _ head_eq h_later h_refl (door_of _ h_rows)
theorem lifts_eq : Tryz.prog.liftsFinal = false := lifts_of _ _ head_eq
theorem make_eq : Tryz.prog.make = some .cut := make_of _ _ head_eq
theorem laidOut_eq : laidOutB Tryz.prog = true := by kernel_rfl
theorem mapsRowed_eq : mapsRowed Tryz.prog = true := by kernel_rfl
theorem stops_eq : (Tryz.prog.stops == []) = true := by kernel_rfl
theorem stopKnobs_eq : (Tryz.prog.stopKnobs == []) = true := by kernel_rfl
theorem heard_eq : Tryz.prog.stopsHeard = true := by kernel_rfl
theorem own_eq : ownKnob Tryz.prog.godebug = none := by kernel_rfl

/-- The rows' one great closed fact, out of its parts. -/
theorem joined_of {P : Program} {f : FuncId} {fn : Func} {s : ChangeSpec} {c : OpenClaim}
    (k1 : c.wf (OpenSpec.ofChange s) = true) (k2 : laidOutB P = true) (k3 : mapsRowed P = true) (k4 : fn.params.all (P.readableRec ·) = true) (k5 : namedTie P c.named s.vars = true)
    (k6 : (c.stops == []) = true) (k7 : (P.stops == []) = true) (k8 : (c.knobs == []) = true) (k9 : (P.stopKnobs == []) = true)
    (k10 : (c.inPlace == P.inPlace f) = true) (k11 : (c.unfollowed == P.unfollowed f) = true) (k12 : (c.recurses == P.recurses f) = true) (k13 : (c.named == P.varsNamed f) = true)
    (k14 : (c.maps == (fn.params.toList ++ s.plain.varTypes P).any (P.mapsRec ·)) = true) (k15 : (c.ifaces == (fn.params.toList ++ s.plain.varTypes P).any (P.ifacesRec ·)) = true) (k16 : (c.mapsOut == P.mapsAmong fn.resultTypes.toList) = true)
    (k17 : (c.loops == (fn.params.toList ++ s.plain.varTypes P).any (P.loopsFrom ·)) = true) (k18 : (c.wideKeys == (fn.params.toList ++ s.plain.varTypes P ++ fn.resultTypes.toList).any (P.wideKeysFrom ·)) = true)
    (k19 : s.vars.all (P.varReadable ·) = true) (k20 : fn.resultTypes.all (fun t => P.readableRec t && decide (t < P.types.size)) = true) (k21 : (c.ifacesOut == fn.resultTypes.toList.any (P.ifacesRec ·)) = true) (k22 : (c.loopsOut == fn.resultTypes.toList.any (P.loopsFrom ·)) = true)
    (k23 : (c.plainKeys == P.plainKeys) = true) (k24 : c.shortTexts.isNone = true) (k25 : P.stopsHeard = true) (k26 : P.mayEnter = true) (k27 : (c.lifted == P.liftsFinal) = true) (k28 : (P.make == some c.make) = true)
    (k29 : c.kinds = [] ∧ c.domain = []) (k30 : (c.pinned == c.pinnedBy) = true)
    (k31 : (c.veiled == (fn.params.toList ++ s.plain.varTypes P ++ fn.resultTypes.toList).any (P.veiledRec ·)) = true) (k32 : c.veiledFits P fn.params.toList (fn.params.toList ++ s.plain.varTypes P ++ fn.resultTypes.toList) = true) :
    joinedFacts P f fn s c = true := by
  unfold joinedFacts
  rw [k1, k2, k3, k4, k5, k6, k7, k8, k9, k10, k11, k12, k13, k14, k15, k16, k17, k18, k19, k20, k21, k22, k23, k24, k25, k26, k27, k28, k29.1, k29.2, k30, k31, k32]
  rfl
end Go.Proofs.YtfoghahidofegaaGreat

namespace Go.Proofs.YtfoghahidofegaaGreat.sessionMany
open Go.ChangeShapes Go.WideShapes Go.ChangeAt Go.RowKit
open Go.ChangeMaps (open_string shut_string)
set_option maxRecDepth 100000 in
theorem lifted (os : Os) (started : os.Started) (H : Type) (enc : TypeId × Value → H) :
    ReturnsInHanded {} Tryz.checked os 5 .any (Rows.sessionManySpec.pre6 enc Tryz.prog Tryz.f5 Rows.sessionManyRow.domain false) (Rows.sessionManySpec.post enc Tryz.prog Tryz.f5 false true false false) := by
  refine returnsInHanded_of_change_sized (C := Tryz.checked) own_eq started (by kernel_rfl) Tryz.func5
    (ChangeSpec.witness6 (enc := enc) (C := Tryz.checked) false ⟨#[], #[.slice none 0 0, .agg #[.string ByteArray.empty, .string ByteArray.empty, .slice none 0 0, .slice none 0 0], .int .i64 0], []⟩ 8 (by kernel_rfl) (by kernel_rfl) (by kernel_rfl) (by kernel_rfl)) ?_
  intro W base args ds gs before hval0 hW hcnd hsz0 _
  have hval : ∀ (j : Nat) t v, Tryz.f5.params[j]? = some t → args[j]? = some v → Value.okWide Tryz.prog W .any base t v := hval0
  have hW' := hW
  obtain ⟨p, q, hA0, hV, rfl, hfz, hnd⟩ := hW
  have hA : DataW.TrodAll enc Tryz.prog W 0 (fun _ => true) true Tryz.f5.params.toList args.toList ds p := hA0
  rw [Tryz.params5] at hA hval
  obtain ⟨v0, vs0, d0, ds0, p0, q0, hargs, rfl, rfl, h0, r0⟩ := trodAll_cons hA
  obtain ⟨v1, vs1, d1, ds1, p1, q1, rfl, rfl, rfl, h1, r1⟩ := trodAll_cons r0
  obtain ⟨v2, vs2, d2, ds2, p2, q2, rfl, rfl, rfl, h2, r2⟩ := trodAll_cons r1
  obtain ⟨rfl, rfl, rfl⟩ := trodAll_nil r2
  obtain rfl : args = #[v0, v1, v2] := by cases args; simp_all
  obtain ⟨rfl, rfl⟩ := trodVars_none hV
  have k0 := h0
  have lt0 : ∀ x ∈ p0, x.block < W.heap.size := by obtain ⟨m, hm⟩ := k0; exact DataW.trod_lt m _ _ _ hm
  obtain ⟨a0, len0, cap0, rfl⟩ := okWide_slice Tryz.underlying39 (hval 0 39 v0 rfl rfl)
  obtain ⟨x0, ⟨A0, c0, e0, l0, m0, w0⟩, g0⟩ := (opStrs).arg h0
  simp only [Value.cells, List.cons.injEq, Value.slice.injEq, and_true] at e0
  obtain ⟨rfl, rfl, rfl⟩ := e0
  have k1 := h1
  have lt1 : ∀ x ∈ p1, x.block < W.heap.size := by obtain ⟨m, hm⟩ := k1; exact DataW.trod_lt m _ _ _ hm
  obtain ⟨cs1, rfl, _⟩ := okWide_struct Tryz.underlying42 (hval 1 42 v1 rfl rfl)
  obtain ⟨x1, w1, g1⟩ := (opEvent).arg h1
  have k2 := h2
  have lt2 : ∀ x ∈ p2, x.block < W.heap.size := by obtain ⟨m, hm⟩ := k2; exact DataW.trod_lt m _ _ _ hm
  obtain ⟨a2, rfl, _, _, w2⟩ := open_int Tryz.underlying3 (hval 2 3 v2 rfl rfl) h2
  clear hA0 hval0
  refine (sessionMany_walk W _ _ x0 ⟨l0, m0, w0⟩ g0 cs1 x1 w1 g1 a2 w2).mono fun e W' ⟨he, bel⟩ => ?_
  subst he
  exact ⟨_, rfl, _, _, _, [], _, [], hW', trodAll_mk1 (shut_bool Tryz.underlying4 _), (trodAll_cons_mk (Below.trod laidOut_eq (by kernel_rfl) (of_decide_eq_true (by kernel_rfl)) k0 bel lt0) (trodAll_cons_mk (Below.trod laidOut_eq (by kernel_rfl) (of_decide_eq_true (by kernel_rfl)) k1 bel lt1) (trodAll_cons_mk (Below.trod laidOut_eq (by kernel_rfl) (of_decide_eq_true (by kernel_rfl)) k2 bel lt2) trodAll_mk0))), rfl, bel.frame _, fun h => by cases h⟩
theorem k10 : (Rows.sessionManyRow.inPlace == Tryz.prog.inPlace 5) = true := by kernel_rfl
theorem k11 : (Rows.sessionManyRow.unfollowed == Tryz.prog.unfollowed 5) = true := by kernel_rfl
theorem k12 : (Rows.sessionManyRow.recurses == Tryz.prog.recurses 5) = true := by kernel_rfl
theorem k13 : (Rows.sessionManyRow.named == Tryz.prog.varsNamed 5) = true := by kernel_rfl
theorem k23 : (Rows.sessionManyRow.plainKeys == Tryz.prog.plainKeys) = true := by kernel_rfl
theorem kfn : Tryz.pinned.checked.prog.funcNamed Rows.sessionManyRow.func = some 5 := by kernel_rfl
theorem closed : joinedFacts Tryz.prog 5 Tryz.f5 Rows.sessionManySpec Rows.sessionManyRow = true :=
  joined_of (by kernel_rfl) laidOut_eq mapsRowed_eq (by kernel_rfl) (by kernel_rfl) rfl stops_eq rfl stopKnobs_eq k10 k11 k12 k13 (by kernel_rfl) (by kernel_rfl) (by kernel_rfl) (by kernel_rfl) (by kernel_rfl) (by kernel_rfl) (by kernel_rfl) (by kernel_rfl) (by kernel_rfl) k23 rfl heard_eq mayEnter_eq (by rw [lifts_eq]; rfl) (by rw [make_eq]; rfl) ⟨rfl, rfl⟩ (by kernel_rfl) (by kernel_rfl) (by kernel_rfl)
theorem over : Rows.sessionManyRow.holds Tryz.pinned (OpenSpec.ofChange Rows.sessionManySpec) :=
  OpenClaim.holds_of_wide 5 Tryz.f5 rfl rfl rfl rfl rfl rfl rfl ⟨rfl, rfl, rfl, rfl, rfl⟩ rfl rfl rfl rfl rfl kfn Tryz.func5 closed
    (of_decide_eq_true (by kernel_rfl)) (by unfold Func.isWrapper; first | (rw [if_pos (by decide +kernel)]; kernel_rfl) | (rw [if_neg (by decide +kernel)]; exact ⟨rfl, rfl⟩))
    (fun os started H enc _ => lifted os started H enc)
theorem proved : Rows.SessionManySaid := over
#print axioms proved
end Go.Proofs.YtfoghahidofegaaGreat.sessionMany
