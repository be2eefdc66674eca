/- registrarref12.Table: Positions, Names, Add (walks). -/
import Derived.Test.YteahpkihkfkpfaaPut04
import Derived.Test.YteahpkihkfkpfaaQTypes
import Derived.Test.YteahpkihkfkpfaaWalk13
import Derived.Test.YteahpkihkfkpfaaTab
import Derived.Deep.DeepFit
set_option linter.unusedVariables false
set_option linter.unusedSimpArgs false
namespace Go.Proofs.Yteahpkihkfkpfaa
open Go.RowKit

abbrev At := ByteArray × Int
def hit (s : ByteArray) (x : Int) (a : At) : Bool := decide (a.1 = s) && decide (a.2 ≤ x)
/-- The positions of s up to x. -/
def posF (ps : List At) (s : ByteArray) (x : Int) : List Int := (ps.filter (hit s x)).map (·.2)
theorem posF_snoc (ps : List At) (s : ByteArray) (x : Int) (a : At) : posF (ps ++ [a]) s x = posF ps s x ++ if hit s x a then [a.2] else [] := by
  unfold posF
  rw [List.filter_append, List.map_append]
  congr 1
  by_cases h : hit s x a = true <;> simp [h]
theorem posF_le (ps : List At) (s : ByteArray) (x : Int) : (posF ps s x).length ≤ ps.length := by
  unfold posF; rw [List.length_map]; exact List.length_filter_le _ _

/-- The reference's table in block y; its row hangs on no block of X. -/
structure Rt (w : World) (y : Nat) (A : Option Addr) (c : Nat) (ps : List At) (X : Nat → Prop) : Prop where
  bx : Bx w y 71 [.slice A ps.length c]
  sl : Sl kField (fun k => k ≠ y ∧ ¬ X k) w A c ps
  xy : ¬ X y
  xs : ∀ k, X k → k < w.heap.size
theorem Rt.far {w w' : World} {y : Nat} {A : Option Addr} {c : Nat} {ps : List At} {X : Nat → Prop} (h : Rt w y A c ps X) (hb : But X w w') : Rt w' y A c ps X :=
  ⟨h.bx.stay (fun hk => hb.block _ hk h.xy), h.sl.stay hb.size (fun k hk hl => hb.block k hl hk.2), h.xy, fun k hk => Nat.lt_of_lt_of_le (h.xs k hk) hb.size⟩
theorem Rt.below {w w' : World} {y : Nat} {A : Option Addr} {c : Nat} {ps : List At} {X : Nat → Prop} (h : Rt w y A c ps X) (hb : Below w.heap.size w w') : Rt w' y A c ps X := h.far (But.of_below hb)
theorem Rt.fence {w w' : World} {y : Nat} {A : Option Addr} {c : Nat} {ps : List At} {X Y : Nat → Prop} (h : Rt w y A c ps X) (hb : Below w.heap.size w w') (hY : ∀ k, Y k → X k ∨ (w.heap.size ≤ k ∧ k < w'.heap.size)) : Rt w' y A c ps Y := by
  have hy := h.bx.lt
  refine ⟨h.bx.under hb, (h.sl.bound.below hb).mono (fun k hk => ⟨hk.1.1, fun hx => (hY _ hx).elim hk.1.2 (fun h => by omega)⟩), fun hx => (hY _ hx).elim h.xy (fun h => by omega), fun k hk => (hY k hk).elim (fun h1 => Nat.lt_of_lt_of_le (h.xs k h1) hb.size) (fun h => h.2)⟩
theorem Rt.less {w : World} {y : Nat} {A : Option Addr} {c : Nat} {ps : List At} {X Y : Nat → Prop} (h : Rt w y A c ps X) (hY : ∀ k, Y k → X k) : Rt w y A c ps Y := h.fence (Below.refl _ _) (fun k hk => .inl (hY k hk))

set_option maxHeartbeats 1000000 in
theorem refPositions_any {w : World} {y : Nat} {A : Option Addr} {c : Nat} {ps : List At} {X : Nat → Prop} (h : Rt w y A c ps X) (hl : ps.length ≤ 1000000) (s : ByteArray) (x : Int) :
    Calls Try.prog 41 #[.pointer (some ⟨y, 0, none⟩), .string s, .int .i64 x] w fun r w' => ∃ A' c', r = .returned (.slice A' (posF ps s x).length c') ∧ Sl (Kn.int .i64) (fun k => w.heap.size ≤ k) w' A' c' (posF ps s x) ∧ Below w.heap.size w w' := by
  have H := Lib.hid h
  have hc1 := h.sl.1
  have hc2 := h.sl.2.1
  unfold maxLen at hc2
  clear h
  have HO0 := Lib.hid (Own.lit0 (Kn.int .i64) 3 w.heap.size (fun _ => False) w (Nat.le_refl _))
  go_enter Try.func41, Try.ntmps41
  go_wp2_with fail
  go_loopw [7, 8] (fun v i wr => ∃ k : Nat, k ≤ ps.length ∧ i = .int .i64 k ∧ Own (Kn.int .i64) 3 w.heap.size (fun _ => False) wr v (posF (ps.take k) s x) ∧ Below w.heap.size w wr) (fun _ i _ => ps.length - (intOf i).toNat)
  case atStart => exact ⟨0, Nat.zero_le _, rfl, HO0.out, (Below.refl _ _).alloc (Nat.le_refl _) _⟩
  case round =>
    obtain ⟨k, hk, rfl, ho, hb⟩ := hrel
    have hy0 : wr.cell? ⟨y, 0, none⟩ = some (.slice A ps.length c) := (H.out.bx.under hb).c0
    have HO := Lib.hid ho
    have HB := Lib.hid hb
    clear ho hb
    by_cases hlt : k < ps.length
    · obtain ⟨ad, rfl, hx1, hx2⟩ := row_field_at (H.out.sl.below HB.out).2.2 hlt
      have htk : ps.take (k + 1) = ps.take k ++ [ps[k]] := List.take_succ_eq_append_getElem hlt
      have hsn := posF_snoc (ps.take k) s x ps[k]
      rw [← htk] at hsn
      have hle := posF_le (ps.take k) s x
      rw [List.length_take] at hle
      obtain ⟨⟨n, p⟩, hnp⟩ : ∃ q, q = ps[k] := ⟨_, rfl⟩
      rw [← hnp] at hsn hx1 hx2
      clear htk hnp
      have hq := strEqL n s
      by_cases h1 : n = s
      · rw [decide_eq_true h1] at hq
        by_cases h2 : p ≤ x
        · have hh : hit s x (n, p) = true := by simp [hit, h1, h2]
          rw [if_pos hh] at hsn
          have HSN := Lib.hid hsn
          clear hsn hh h1
          go_wp2_with (at_builtin; refine wpList_pushH (W := wr) rfl _ _ _ rfl 3 _ 1 8 Try.underlying30 infoInt rfl (by decide) (by decide) rfl w.heap.size (fun _ => False) _ _ rfl HO.out p [.int .i64 p] rfl wr.heap.size rfl rfl HB.out.size (by omega) ?_; intro v1 w1 hown1 hg1 hat1 hbel1; have HO1 := Lib.hid hown1; have HB1 := Lib.hid (hbel1 w HB.out); clear hown1 hg1 hat1 hbel1)
          go_roundw
          case rel => exact ⟨k + 1, by omega, by go_num, by rw [HSN.out]; exact HO1.out, HB1.out⟩
          case measure => simp [intOf]; omega
        · have hh : ¬ hit s x (n, p) = true := by simp [hit, h2]
          rw [if_neg hh, List.append_nil] at hsn
          have HSN := Lib.hid hsn
          clear hsn hh h1
          go_wp2_with fail
          go_roundw
          case rel => exact ⟨k + 1, by omega, by go_num, by rw [HSN.out]; exact HO.out, HB.out⟩
          case measure => simp [intOf]; omega
      · rw [decide_eq_false h1] at hq
        have hh : ¬ hit s x (n, p) = true := by simp [hit, h1]
        rw [if_neg hh, List.append_nil] at hsn
        have HSN := Lib.hid hsn
        clear hsn hh h1
        go_wp2_with fail
        go_roundw
        case rel => exact ⟨k + 1, by omega, by go_num, by rw [HSN.out]; exact HO.out, HB.out⟩
        case measure => simp [intOf]; omega
    · obtain rfl : k = ps.length := by omega
      rw [List.take_length] at HO
      obtain ⟨A', c', rfl, hs⟩ := HO.out.sl
      go_wp2_with fail
      go_ret
      exact ⟨A', c', rfl, hs.mono (fun k hk => hk.elim False.elim id), HB.out⟩

set_option maxHeartbeats 1000000 in
theorem refNames_any {w : World} {y : Nat} {A : Option Addr} {c : Nat} {ps : List At} {X : Nat → Prop} (h : Rt w y A c ps X) (hl : ps.length ≤ 1000000) :
    Calls Try.prog 40 #[.pointer (some ⟨y, 0, none⟩)] w fun r w' => ∃ A' c' ns, r = .returned (.slice A' ns.length c') ∧ Sl Kn.str (fun k => w.heap.size ≤ k) w' A' c' ns ∧ ns.Pairwise ltB ∧ (∀ x, x ∈ ns ↔ x ∈ ps.map (·.1)) ∧ Below w.heap.size w w' := by
  have H := Lib.hid h
  have hc1 := h.sl.1
  have hc2 := h.sl.2.1
  unfold maxLen at hc2
  clear h
  go_enter Try.func40, Try.ntmps40
  go_wp2_with fail
  go_loopw [3, 4] (fun v i wr => ∃ (k : Nat) (B : Option Addr) (cb : Nat) (ns : List ByteArray), k ≤ ps.length ∧ i = .int .i64 k ∧ v = .slice B ns.length cb ∧ Sl Kn.str (fun k => w.heap.size ≤ k) wr B cb ns ∧ ns.Pairwise ltB ∧ (∀ x, x ∈ ns ↔ x ∈ (ps.take k).map (·.1)) ∧ ns.length ≤ k ∧ Below w.heap.size w wr) (fun _ i _ => ps.length - (intOf i).toNat)
  case atStart => exact ⟨0, some ⟨w.heap.size, 0, none⟩, 0, [], Nat.zero_le _, rfl, rfl, Sl.lit Value.string (fun _ => rfl) w 9 [] (by simp [maxLen]), List.Pairwise.nil, by simp, Nat.le_refl _, (Below.refl _ _).alloc (Nat.le_refl _) _⟩
  case round =>
    obtain ⟨k, B, cb, ns, hk, rfl, rfl, hs, hr, hm, hn, hb⟩ := hrel
    have hy0 : wr.cell? ⟨y, 0, none⟩ = some (.slice A ps.length c) := (H.out.bx.under hb).c0
    have HB := Lib.hid hb
    have HS := Lib.hid hs
    have HR := Lib.hid hr
    have HM := Lib.hid hm
    clear hs hr hm hb
    by_cases hlt : k < ps.length
    · obtain ⟨ad, rfl, hx1, _⟩ := row_field_at (H.out.sl.below HB.out).2.2 hlt
      have htk : (ps.take (k + 1)).map (·.1) = (ps.take k).map (·.1) ++ [ps[k].1] := by rw [List.take_succ_eq_append_getElem hlt, List.map_append]; rfl
      generalize ps[k].1 = s at *
      have HTK := Lib.hid htk
      clear htk
      go_wp2_with (first | (go_at_call 23; go_fit (Put_any HS.out (by omega) HR.out s); rintro r w2 ⟨B2, c2, ns2, rfl, hs2, hp2, hb2⟩; have HS2 := Lib.hid hs2; have HP2 := Lib.hid hp2; have HB2 := Lib.hid hb2; clear hs2 hp2 hb2))
      go_roundw
      case rel => exact ⟨k + 1, B2, c2, ns2, by omega, by go_num, rfl, HS2.out.mono (fun k hk => hk.elim id (fun h => Nat.le_trans HB.out.size h)), HP2.out.rise, fun x => by rw [HP2.out.mem, HM.out, HTK.out]; simp, by have := HP2.out.len; omega, bthen HB.out HB2.out⟩
      case measure => simp [intOf]; omega
    · obtain rfl : k = ps.length := by omega
      rw [List.take_length] at HM
      go_wp2_with fail
      go_ret
      exact ⟨B, cb, ns, rfl, HS.out, HR.out, HM.out, HB.out⟩

/-- A field's element hangs on no block. -/
theorem kField_own {e : TypeId} {base : Nat} {ok ok' : Nat → Prop} {w : World} {v : Value} {xs : List At} (h : Own kField e base ok w v xs) : Own kField e base ok' w v xs := h
theorem refTab {w1 w3 : World} {y : Nat} {A A3 : Option Addr} {c c3 : Nat} {ps qs : List At} {X : Nat → Prop} (h : Rt w1 y A c ps X) (hs : Sl kField (fun k => False ∨ w1.heap.size ≤ k) w3 A3 c3 qs) (hb : Below w1.heap.size w1 w3) {n : Nat} (hn : qs.length = n) :
    Rt (w3.setCell ⟨y, 0, none⟩ (.slice A3 n c3)) y A3 c3 qs X ∧ But (fun k => k = y) w1 (w3.setCell ⟨y, 0, none⟩ (.slice A3 n c3)) := by
  subst hn
  have hy := h.bx.lt
  have hbut : But (fun k => k = y) w1 (w3.setCell ⟨y, 0, none⟩ (.slice A3 qs.length c3)) := (But.of_below hb).trans ⟨rfl, rfl, rfl, by simp [World.setCell], fun k _ hn => heap_setCell_other w3 _ k _ hn⟩
  refine ⟨⟨(h.bx.under hb).set 0 _, (hs.setCell (fun k hk e => by rcases hk with hk | hk; exact hk.elim; simp at e; omega) _).mono (fun k hk => ?_), h.xy, fun k hk => Nat.lt_of_lt_of_le (h.xs k hk) hbut.size⟩, hbut⟩
  rcases hk with hk | hk
  · exact hk.elim
  · exact ⟨by omega, fun hx => by have := h.xs k hx; omega⟩
theorem kField_mk {ok : Nat → Prop} {w : World} (s : ByteArray) (p : Int) : kField.K ok w (s, p) [.string s, .int .i64 p] := ⟨[.string s], [.int .i64 p], rfl, rfl, rfl⟩
theorem infoAt : (Try.prog.info? 73).map (fun i => (i.zero, i.size, i.bytes)) = some (some (.agg #[.string ByteArray.empty, .int .i64 0]), 2, 24) := by kernel_rfl
/-- The last position, or 0. -/
def lastP (ps : List At) : Int := (ps.getLast?.map (·.2)).getD 0
def RAdd (w : World) (y : Nat) (X : Nat → Prop) (ps : List At) (s : ByteArray) (pos : Int) (r : Ending) (w' : World) : Prop :=
  (pos < 1 ∨ pos ≤ lastP ps → r = .returned (.tuple #[.int .i64 0, .int .i64 1]) ∧ ∃ n, w' = w.drewN n) ∧
  (¬ pos < 1 → ¬ pos ≤ lastP ps → ∃ A' c', r = .returned (.tuple #[.int .i64 (posF (ps ++ [(s, pos)]) s pos).length, .int .i64 0]) ∧ Rt w' y A' c' (ps ++ [(s, pos)]) X ∧ But (fun k => k = y) w w')
theorem RAdd.no {w w' : World} {y : Nat} {X : Nat → Prop} {ps : List At} {s : ByteArray} {pos : Int} {r : Ending} (h : pos < 1 ∨ pos ≤ lastP ps) (hr : r = .returned (.tuple #[.int .i64 0, .int .i64 1])) (hw : ∃ n, w' = w.drewN n) : RAdd w y X ps s pos r w' :=
  ⟨fun _ => ⟨hr, hw⟩, fun h1 h2 => (h.elim h1 h2).elim⟩
theorem RAdd.yes {w w' : World} {y : Nat} {X : Nat → Prop} {ps : List At} {s : ByteArray} {pos : Int} {r : Ending} {A' : Option Addr} {c' : Nat} (h1 : ¬ pos < 1) (h2 : ¬ pos ≤ lastP ps) (hr : r = .returned (.tuple #[.int .i64 (posF (ps ++ [(s, pos)]) s pos).length, .int .i64 0])) (ht : Rt w' y A' c' (ps ++ [(s, pos)]) X) (hb : But (fun k => k = y) w w') :
    RAdd w y X ps s pos r w' := ⟨fun h => (h.elim h1 h2).elim, fun _ _ => ⟨A', c', hr, ht, hb⟩⟩
set_option maxHeartbeats 1000000 in
theorem refAdd_any {w : World} {y : Nat} {A : Option Addr} {c : Nat} {ps : List At} {X : Nat → Prop} (h : Rt w y A c ps X) (hl : ps.length ≤ 900000) (s : ByteArray) (pos : Int) :
    Calls Try.prog 38 #[.pointer (some ⟨y, 0, none⟩), .string s, .int .i64 pos] w (RAdd w y X ps s pos) := by
  have H := Lib.hid h
  have hc1 := h.sl.1
  have hc2 := h.sl.2.1
  have hy0 : w.cell? ⟨y, 0, none⟩ = some (.slice A ps.length c) := h.bx.c0
  have hyl := h.bx.lt
  unfold maxLen at hc2
  clear h
  go_enter Try.func38, Try.ntmps38
  go_upto_if 14 with fail
  go_cut [8] (fun v wx => v = .int .i64 (lastP ps) ∧ ∃ n, wx = w.drewN n)
  case first =>
    by_cases hn : ps = []
    · subst hn
      go_wp2_with fail
      go_meet
      case rel => exact ⟨rfl, 0, rfl⟩
    · have hpos : 0 < ps.length := List.length_pos_iff.2 hn
      obtain ⟨k, hk⟩ : ∃ k, ps.length = k + 1 := ⟨ps.length - 1, by omega⟩
      have hkl : k < ps.length := by omega
      obtain ⟨ad, rfl, _, hx2⟩ := row_field_at H.out.sl.2.2 hkl
      have hlast : lastP ps = ps[k].2 := by
        unfold lastP
        rw [List.getLast?_eq_getElem?, show ps.length - 1 = k by omega, List.getElem?_eq_getElem hkl]; rfl
      generalize ps[k].2 = p at hx2 hlast
      have HLA := Lib.hid hlast
      clear hlast hn
      have ew : IntKind.i64.wrap ((ps.length : Int) - 1) = (k : Int) := by rw [IntWalk.i64_in _ (by omega)]; omega
      have b1 : (0 : Int) ≤ (k : Int) := Int.natCast_nonneg _
      have b2 : (k : Int) < (ps.length : Int) := by omega
      have d1 : decide ((0 : Int) < (ps.length : Int)) = true := decide_eq_true (by omega)
      go_wp2_with fail
      go_quiet (fail)
      go_wp2
      go_meet
      case rel => exact ⟨by rw [HLA.out], _, rfl⟩
  case rest =>
    obtain ⟨rfl, n, rfl⟩ := hcut
    generalize hlp : lastP ps = lp at *
    have HLP := Lib.hid hlp
    clear hlp
    by_cases h1 : pos < 1
    · go_wp2_with fail
      go_ret2
      exact RAdd.no (.inl h1) rfl ⟨n, rfl⟩
    · by_cases h2 : pos ≤ lp
      · go_wp2_with fail
        go_ret2
        exact RAdd.no (.inr (by rw [HLP.out]; exact h2)) rfl ⟨n, rfl⟩
      · have HD := Lib.hid (show Rt (w.drewN n) y A c ps X from H.out.below (below_drewN (Below.refl _ _) n))
        have HW := Lib.hid (show Below w.heap.size w (w.drewN n) from below_drewN (Below.refl _ _) n)
        have hy2 : (w.drewN n).cell? ⟨y, 0, none⟩ = some (.slice A ps.length c) := hy0
        have hyl2 : y < (w.drewN n).heap.size := hyl
        clear hy0 hyl H
        generalize w.drewN n = w1 at *
        have HO0 := Lib.hid (Own.lit0 kField 73 w1.heap.size (fun k => k < w1.heap.size) w1 (Nat.le_refl _))
        have HR1 := Lib.hid (show Row kField (fun k => k < w1.heap.size ∧ some k ≠ (Value.slice (some ⟨w1.heap.size, 0, none⟩) 0 0).ownBlock) (w1.alloc (.cells #[] 73)) A ps from
          (HD.out.sl.2.2.bound.below ((Below.refl _ _).alloc (Nat.le_refl _) _)).mono (fun k hk => ⟨hk.2, fun e => by have h2 := hk.2; simp [Value.ownBlock] at e; omega⟩))
        go_wp2_with (first
          | (go_at_call 41; go_fit (refPositions_any HT.out.1 (by simp; omega) s pos); rintro r w5 ⟨A5, c5, rfl, _, hb5⟩; have HB5 := Lib.hid hb5; clear hb5)
          | (at_builtin; refine wpList_pushH (d := kField) (W := w2) rfl _ _ _ rfl 73 _ 2 24 Try.underlying68 infoAt rfl (by decide) (by decide) rfl w1.heap.size (fun k => k < w1.heap.size) (.slice A2 ps.length c2) ([] ++ ps) rfl HO2.out (s, pos) [.string s, .int .i64 pos] (kField_mk s pos) w2.heap.size rfl rfl HZ2.out (by first | (simp; done) | (simp; omega)) ?_; intro v3 w3 hown3 hg3 hat3 hbel3; obtain ⟨A3, c3, rfl, hs3⟩ := (kField_own (ok' := fun _ => False) hown3).sl; have hl3 : (([] ++ ps) ++ [(s, pos)]).length = ps.length + 1 := (by first | (simp; done) | (simp; omega)); rw [hl3]; have HS3 := Lib.hid hs3; have HB3 := Lib.hid (hbel3 w1 HB2.out); have hx3 : Bx w3 y 71 [.slice A ps.length c] := (HD.out.bx.under HB3.out); have hc3 := hx3.c0; have hf3 := hx3.free 0; have HX3 := Lib.hid hx3; have HT := Lib.hid (refTab HD.out HS3.out HB3.out (n := ps.length + 1) hl3); clear hown3 hg3 hat3 hbel3 hl3 hs3 hx3)
          | (at_builtin; refine wpList_spreadN rfl _ _ _ rfl 73 _ 2 24 Try.underlying68 infoAt rfl (by decide) (by decide) rfl w1.heap.size (fun k => k < w1.heap.size) _ [] rfl HO0.out ps ps.length rfl _ _ HR1.out rfl (by simp) (by simp; omega) ?_; intro v2 w2 hown2 hg2 hat2 hbel2; obtain ⟨A2, c2, rfl, _⟩ := hown2.sl; have hl2 : ([] ++ ps).length = ps.length := rfl; rw [hl2] at hown2 hat2 ⊢; have HO2 := Lib.hid hown2; have HB2 := Lib.hid (hbel2 w1 ((Below.refl _ _).alloc (Nat.le_refl _) _)); have HZ2 := Lib.hid HB2.out.size; clear hown2 hg2 hat2 hbel2 hl2))
        go_ret2
        exact RAdd.yes (by omega) (by rw [HLP.out]; omega) rfl (HT.out.1.below HB5.out) (((But.of_below HW.out).trans HT.out.2).trans (But.of_below HB5.out))
end Go.Proofs.Yteahpkihkfkpfaa
