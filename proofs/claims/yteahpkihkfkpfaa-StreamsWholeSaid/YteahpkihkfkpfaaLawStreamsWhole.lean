/- StreamsWhole: the law's walk. -/
import Derived.Test.YteahpkihkfkpfaaLawStreamsOrder
set_option linter.unusedVariables false
set_option linter.unusedSimpArgs false
namespace Go.Proofs.Yteahpkihkfkpfaa
open Go.RowKit Go.Maps

/-- A table, a block g beside it that it does not hang on. -/
structure TsX (w0 w : World) (b N : Nat) (last : Int) (f : ByteArray → List Int) (g : Nat) : Prop where
  tb : ∃ m D, Tb w b m N D last f (fun k => k = g) ∧ w0.heap.size ≤ m
  lo : w0.heap.size ≤ b
  up : Below w0.heap.size w0 w
  lg : w0.heap.size ≤ g
section
variable {w0 w w' : World} {b N g : Nat} {last : Int} {f : ByteArray → List Int}
theorem TsX.ts (h : TsX w0 w b N last f g) : Ts w0 w b N last f := by
  obtain ⟨m, D, h1, h2⟩ := h.tb
  exact ⟨⟨m, D, _, h1, h2⟩, h.lo, h.up⟩
theorem TsX.lt (h : TsX w0 w b N last f g) : g < w.heap.size := by
  obtain ⟨m, D, h1, h2⟩ := h.tb
  exact h1.xs g rfl
theorem TsX.below (h : TsX w0 w b N last f g) (hb : Below w.heap.size w w') : TsX w0 w' b N last f g := by
  obtain ⟨m, D, h1, h2⟩ := h.tb
  exact ⟨⟨m, D, h1.below hb, h2⟩, h.lo, bthen h.up hb, h.lg⟩
theorem TsX.store (h : TsX w0 w b N last f g) (i : Nat) (u : Value) : TsX w0 (w.setCell ⟨g, i, none⟩ u) b N last f g := by
  obtain ⟨m, D, h1, h2⟩ := h.tb
  have hb : But (fun k => k = g) w (w.setCell ⟨g, i, none⟩ u) := But.setCell (S := fun k => k = g) (p := ⟨g, i, none⟩) w rfl u
  exact ⟨⟨m, D, h1.far hb, h2⟩, h.lo, hb.below h.up h.up.size (fun k hk => hk ▸ h.lg), h.lg⟩
theorem Ts.beside (h : Ts w0 w b N last f) (hb : Below w.heap.size w w') (hg : w.heap.size ≤ g) (hl : g < w'.heap.size) : TsX w0 w' b N last f g := by
  obtain ⟨m, D, X, h1, h2⟩ := h.tb
  exact ⟨⟨m, D, h1.fence hb (fun k hk => by subst hk; exact ⟨hg, hl⟩), h2⟩, h.lo, bthen h.up hb, Nat.le_trans h.up.size hg⟩
end

/-- The state of the second part: names, the marks of what was seen (ms). -/
structure Wh (w0 w : World) (b n g : Nat) (f : ByteArray → List Int) (B : Option Addr) (cb : Nat) (ns : List ByteArray) (ms : List Int) : Prop where
  ts : TsX w0 w b n n f g
  nm : Sl Kn.str (fun k => k < g) w B cb ns
  bx : ∃ sv : List Bool, Bx w g 4 (sv.map Value.bool) ∧ sv.length = n + 1 ∧ ∀ p : Nat, p ≤ n → sv[p]? = some (decide ((p : Int) ∈ ms))
section
variable {w0 w w' : World} {b n g : Nat} {f : ByteArray → List Int} {B : Option Addr} {cb : Nat} {ns : List ByteArray} {ms : List Int}
theorem Wh.below (h : Wh w0 w b n g f B cb ns ms) (hb : Below w.heap.size w w') : Wh w0 w' b n g f B cb ns ms := by
  obtain ⟨sv, h1, h2⟩ := h.bx
  exact ⟨h.ts.below hb, h.nm.below hb, sv, h1.under hb, h2⟩
theorem Wh.cell (h : Wh w0 w b n g f B cb ns ms) {p : Nat} (hp : p ≤ n) : w.cell? ⟨g, p, none⟩ = some (.bool (decide ((p : Int) ∈ ms))) := by
  obtain ⟨sv, h1, h2, h3⟩ := h.bx
  rw [h1.cell p, List.getElem?_map, h3 p hp]; rfl
theorem Wh.free (h : Wh w0 w b n g f B cb ns ms) (p : Nat) : w.frozen? ⟨g, p, none⟩ = false := by
  obtain ⟨sv, h1, h2, h3⟩ := h.bx
  exact h1.free p
theorem Wh.mark (h : Wh w0 w b n g f B cb ns ms) {p : Nat} (hp : p ≤ n) : Wh w0 (w.setCell ⟨g, p, none⟩ (.bool true)) b n g f B cb ns (ms ++ [(p : Int)]) := by
  obtain ⟨sv, h1, h2, h3⟩ := h.bx
  refine ⟨h.ts.store p _, h.nm.setCell (fun k hk e => by simp at e; omega) _, sv.set p true, ?_, by rw [List.length_set]; exact h2, fun q hq => ?_⟩
  · rw [List.map_set]; exact h1.set p _
  · rw [List.getElem?_set]
    by_cases e : p = q
    · subst e; rw [if_pos rfl, if_pos (by omega)]; simp
    · rw [if_neg e, h3 q hq]
      have : ((q : Int) ∈ ms ++ [(p : Int)]) ↔ (q : Int) ∈ ms := by simp; omega
      simp only [this]
end

theorem fresh {l : List ByteArray} {n : Nat} {f : ByteArray → List Int} (h : RowsOf l n f) (hr : ∀ s, (f s).Pairwise (· < ·)) {ns : List ByteArray} (hn : ns.Nodup) {k i : Nat} (hk : k < ns.length) (hi : i < (f ns[k]).length) :
    (f ns[k])[i] ∉ (ns.take k).flatMap f ++ (f ns[k]).take i := by
  intro hm
  rcases List.mem_append.1 hm with hm | hm
  · obtain ⟨s, hs, hp⟩ := List.mem_flatMap.1 hm
    obtain ⟨j, _, h2, h3⟩ := (h _ _).1 (List.getElem_mem hi)
    obtain ⟨j', _, h5, h6⟩ := (h _ _).1 hp
    obtain rfl : j = j' := by omega
    rw [h2] at h5
    have e : ns[k] = s := Option.some.inj h5
    subst e
    obtain ⟨q, hq⟩ := List.getElem?_of_mem hs
    rw [List.getElem?_take] at hq
    split at hq
    · rename_i hqk
      obtain ⟨h7, h8⟩ := List.getElem?_eq_some_iff.1 hq
      have := (List.getElem_inj hn).1 h8
      omega
    · cases hq
  · obtain ⟨q, hq⟩ := List.getElem?_of_mem hm
    rw [List.getElem?_take] at hq
    split at hq
    · rename_i hqi
      have := rise_at (hr ns[k]) hq (List.getElem?_eq_getElem hi) hqi
      omega
    · cases hq
theorem flat_len {l : List ByteArray} {n : Nat} {f : ByteArray → List Int} (h : RowsOf l n f) (hl : n ≤ l.length) (hr : ∀ s, (f s).Pairwise (· < ·)) {ns : List ByteArray} (hn : Nms f ns) : (ns.flatMap f).length = n := by
  have h1 := sumV_all h hl hr hn n (Nat.le_refl _)
  rw [← h1, List.length_flatMap]
  unfold sumV
  congr 1
  exact List.map_congr_left (fun s _ => (upTo_all (fun p hp => by obtain ⟨j, _, _, h3⟩ := (h s p).1 hp; omega)).symm)

theorem infoBool : (Try.prog.info? 4).map (fun i => (i.zero, i.size, i.bytes)) = some (some (.bool false), 1, 1) := by kernel_rfl
theorem made_bools (m : Nat) : madeCells #[Value.bool false] m = ((List.replicate m false).map Value.bool).toArray := by
  apply Array.ext'
  rw [toList_madeCells_one]
  simp
theorem run_make_bools (W : World) (k : Nat) (hk : k ≤ 1000) : (Instr.makeSlice 67 (.int .i64 ((k : Int) + 1)) (.int .i64 ((k : Int) + 1))).run Try.prog W = .ok (.slice (some ⟨W.heap.size, 0, none⟩) (k + 1) (k + 1)) (W.alloc (.cells ((List.replicate (k + 1) false).map Value.bool).toArray 4)) := by
  obtain ⟨i0, hi, hzz⟩ := Option.map_eq_some_iff.1 infoBool
  simp only [Prod.mk.injEq] at hzz
  obtain ⟨hz0, hz1, hz2⟩ := hzz
  have := run_make (P := Try.prog) W 67 4 i0 _ Try.underlying67 hi hz0 .i64 .i64 ((k : Int) + 1) ((k : Int) + 1) (by omega) (Int.le_refl _) (by rw [hz2]; omega) (by omega)
  rw [hz1, Nat.mul_one, show ((k : Int) + 1).toNat = k + 1 by omega, show (Value.bool false).cells = #[Value.bool false] from rfl, made_bools] at this
  exact this
theorem Wh.start {w0 w : World} {b n : Nat} {f : ByteArray → List Int} {B : Option Addr} {cb : Nat} {ns : List ByteArray} (h : Ts w0 w b n n f) (hs : Sl Kn.str (fun _ => True) w B cb ns) :
    Wh w0 (w.alloc (.cells ((List.replicate (n + 1) false).map Value.bool).toArray 4)) b n w.heap.size f B cb ns [] := by
  refine ⟨h.beside ((Below.refl _ _).alloc (Nat.le_refl _) _) (Nat.le_refl _) (by simp), (hs.bound.alloc _).mono (fun k hk => hk.2), List.replicate (n + 1) false, Bx.new w _ _, by simp, fun p hp => ?_⟩
  rw [List.getElem?_replicate, if_pos (by omega)]
  simp
theorem cPosX {w0 w : World} {b n g : Nat} {f : ByteArray → List Int} {B : Option Addr} {cb : Nat} {ns : List ByteArray} {ms : List Int} (h : Wh w0 w b n g f B cb ns ms) (hN : n ≤ 900000) {s : ByteArray} (hs : s.size ≤ maxLen) :
    Calls Try.prog 18 #[.pointer (some ⟨b, 0, none⟩), .string s, .int .i64 n] w fun r w' => ∃ P cp, r = .returned (.slice P (f s).length cp) ∧ Sl (Kn.int .i64) (fun k => g < k) w' P cp (f s) ∧ Wh w0 w' b n g f B cb ns ms := by
  obtain ⟨m, D, h1, h2⟩ := h.ts.tb
  have hl := h.ts.lt
  refine (Positions_any h1 hN hs n).mono fun r w' hr => ?_
  obtain ⟨P, cp, e, h3, h4⟩ := hr
  have hall : (f s).take (upTo (f s) n) = f s := by rw [upTo_all (h1.top s)]; simp
  rw [hall] at e h3
  exact ⟨P, cp, e, h3.mono (fun k hk => by omega), h.below h4⟩
theorem flat_le (f : ByteArray → List Int) (ns : List ByteArray) (k : Nat) : ((ns.take k).flatMap f).length ≤ (ns.flatMap f).length := by
  conv => rhs; rw [← List.take_append_drop k ns]
  rw [List.flatMap_append, List.length_append]; omega

set_option maxHeartbeats 2000000 in
set_option maxRecDepth 4000 in
theorem streamsWhole_walk (w : World) (A : Option Addr) (c : Nat) (l : List ByteArray) (h : Sl Kn.str (fun _ => True) w A c l) (hg : ∀ x ∈ l, x.size ≤ maxLen) :
    Calls Try.prog 11 #[.slice A l.length c] w fun r w' => r = .returned (.bool true) ∧ Below w.heap.size w w' := by
  have HS := Lib.hid (shown12 w)
  have HL := Lib.hid h
  have hc1 := h.1
  have hc2 := h.2.1
  unfold maxLen at hc2
  clear h
  obtain ⟨n, e9, hn1, hn2⟩ : ∃ n : Nat, (if (60 : Int) < (l.length : Int) then (60 : Int) else (l.length : Int)) = (n : Int) ∧ n ≤ l.length ∧ n ≤ 60 := ⟨min l.length 60, by split <;> omega, by omega, by omega⟩
  have e8 : min (l.length : Int) 60 = (n : Int) := by split at e9 <;> omega
  go_enter Try.func11, Try.ntmps11
  go_wp2_with (first | (go_at_call 14; refine HS.out.mono ?_; rintro r w1 ⟨rfl, h1⟩) | (go_at_call 15; refine (cNew h1).mono ?_; rintro r w2 ⟨b, rfl, h2⟩; have H2 := Lib.hid h2; clear h2))
  have HT := Lib.hid (h1)
  clear h1 e9 e8
  go_loopw [6] (fun i wr => ∃ (k : Nat) (f : ByteArray → List Int), k ≤ n ∧ i = .int .i64 k ∧ Ts w wr b k k f ∧ RowsOf l k f) (fun i _ => n - (intOf i).toNat)
  case atStart => exact ⟨0, _, by omega, rfl, H2.out, RowsOf.start l⟩
  case round =>
    obtain ⟨k, f, hk, rfl, hT, hR⟩ := hrel
    have HT := Lib.hid hT
    have HR := Lib.hid hR
    clear hT hR
    by_cases hlt : k < n
    · have hkl : k < l.length := by omega
      obtain ⟨ad, rfl, hld⟩ := row_str_at (HL.out.below HT.out.up).2.2 hkl
      have hsz : l[k].size ≤ maxLen := hg _ (List.getElem_mem hkl)
      have HRS := Lib.hid (HR.out.step (List.getElem?_eq_getElem hkl))
      have hx0 : upTo (f l[k]) (n : Int) = (f l[k]).length := upTo_all (fun p hp => by have := HT.out.top _ p hp; omega)
      have hx1 : upTo (f l[k]) (k : Int) = (f l[k]).length := upTo_all (HT.out.top _)
      have hxl := HT.out.len l[k]
      obtain ⟨s, hse⟩ : ∃ s, s = l[k] := ⟨_, rfl⟩
      rw [← hse] at hld hsz HRS hx0 hx1 hxl
      have hld3 : ∀ W, Ts w W b (k + 1) ((k : Int) + 1) (upd f s (f s ++ [(k : Int) + 1])) → W.cell? (ad.add k) = some (.string s) := fun W hW => by
        obtain ⟨ad', e1, hld'⟩ := row_str_at (HL.out.below hW.up).2.2 hkl
        rw [← hse] at hld'
        have : ad = ad' := Option.some.inj e1
        subst this
        exact hld'
      have C1 := Lib.hid (cVersion HT.out (by omega) hsz (n : Int))
      have C2 := Lib.hid (cAdd HT.out (by omega) hsz (pos := (k : Int) + 1) (by omega))
      have C3 : Hid (∀ W, Ts w W b (k + 1) ((k : Int) + 1) (upd f s (f s ++ [(k : Int) + 1])) → Calls Try.prog 16 #[.pointer (some ⟨b, 0, none⟩), .string s, .int .i64 k] W fun r w' => r = .returned (.int .i64 (f s).length) ∧ W = w') :=
        Lib.hid (fun W h => (cVersion h (by omega) hsz (k : Int)).mono fun r w' ⟨e, h2⟩ => ⟨by rw [upTo_upd _ _ _ (by omega), hx1] at e; exact e, h2⟩)
      have C4 : Hid (∀ W, Ts w W b (k + 1) ((k : Int) + 1) (upd f s (f s ++ [(k : Int) + 1])) → Calls Try.prog 16 #[.pointer (some ⟨b, 0, none⟩), .string s, .int .i64 ((k : Int) + 1)] W fun r w' => r = .returned (.int .i64 ((f s).length + 1)) ∧ W = w') :=
        Lib.hid (fun W h => (cVersion h (by omega) hsz ((k : Int) + 1)).mono fun r w' ⟨e, h2⟩ => ⟨by rw [upTo_all (h.top s), upd_same] at e; simpa using e, h2⟩)
      rw [hx0] at C1
      have HD := Lib.hid hld3
      clear hx0 hx1 hld3 hse
      generalize (f s).length = x at *
      go_wp2_with (first | (go_at_call 16; go_fit (C3.out _ H4.out); rintro r w6 ⟨rfl, rfl⟩) | (go_at_call 16; go_fit (C4.out _ H4.out); rintro r w6 ⟨rfl, rfl⟩) | (go_at_call 16; go_fit C1.out; rintro r w6 ⟨rfl, rfl⟩) | (go_at_call 17; go_fit C2.out; rintro r w4 ⟨rfl, h4⟩; have H4 := Lib.hid h4; have hld4 := HD.out _ h4; clear h4))
      go_roundw
      case rel => exact ⟨k + 1, _, by omega, rfl, H4.out, HRS.out⟩
      case measure => simp [intOf]; omega
    · obtain rfl : k = n := by omega
      have hmk := fun W => run_make_bools W k (by omega)
      go_wp2_with (first | (go_at_call 37; go_fit (cNames HT.out (by omega)); rintro r w5 ⟨B, cb, ns, rfl, hs5, hn5, hl5, h5, _⟩; have H5 := Lib.hid h5; have HN5 := Lib.hid hn5; have HS5 := Lib.hid hs5; have hcb := hs5.1; have hmb := hs5.2.1; clear h5 hn5 hs5))
      have HNS : Hid (∀ s ∈ ns, s.size ≤ maxLen) := Lib.hid (fun s hs => by
        obtain ⟨p, hp⟩ := List.exists_mem_of_ne_nil _ ((HN5.out.mem s).1 hs)
        obtain ⟨j, _, hj, _⟩ := (HR.out s p).1 hp
        exact hg s (List.mem_of_getElem? hj))
      have HW := Lib.hid (Wh.start H5.out HS5.out)
      have hfl := flat_len HR.out hn1 HT.out.rise HN5.out
      clear HS5
      unfold maxLen at hmb
      generalize w5.heap.size = g at *
      go_loopw [12, 13] (fun m i wr => ∃ k2 : Nat, k2 ≤ ns.length ∧ i = .int .i64 k2 ∧ m = .int .i64 ((ns.take k2).flatMap f).length ∧ Wh w wr b k g f B cb ns ((ns.take k2).flatMap f)) (fun _ i _ => ns.length - (intOf i).toNat)
      case atStart => exact ⟨0, by omega, rfl, rfl, by simpa using HW.out⟩
      case round =>
        obtain ⟨k2, hk2, rfl, rfl, hW⟩ := hrel
        have HW2 := Lib.hid hW
        clear hW
        have hz := flat_le f ns k2
        rw [hfl] at hz
        by_cases hlt2 : k2 < ns.length
        · obtain ⟨ad, rfl, hld⟩ := row_str_at HW2.out.nm.2.2 hlt2
          have hsz : ns[k2].size ≤ maxLen := HNS.out _ (List.getElem_mem hlt2)
          have hfr := Lib.hid (fun i hi => fresh HR.out HT.out.rise HN5.out.nodup (k := k2) (i := i) hlt2 hi)
          have htk : (ns.take (k2 + 1)).flatMap f = (ns.take k2).flatMap f ++ f ns[k2] := by rw [List.take_succ_eq_append_getElem hlt2, List.flatMap_append]; simp
          have HTK := Lib.hid htk
          have HNM := Lib.hid (show ∀ W ms, Wh w W b k g f (some ad) cb ns ms → W.cell? (ad.add k2) = some (.string ns[k2]) from fun W ms hW => by
            obtain ⟨ad', e1, hld'⟩ := row_str_at hW.nm.2.2 hlt2
            have : ad = ad' := Option.some.inj e1
            subst this
            exact hld')
          have hsl := HT.out.len ns[k2]
          have HRI := Lib.hid (HT.out.rise ns[k2])
          have HME := Lib.hid (fun p => HR.out ns[k2] p)
          clear htk
          generalize ns[k2] = s at *
          generalize ((ns.take k2).flatMap f) = ms0 at *
          go_wp2_with (first | (go_at_call 18; go_fit (cPosX HW2.out (by omega) hsz); rintro r w6 ⟨P, cp, rfl, hp6, h6⟩; have H6 := Lib.hid h6; have HP6 := Lib.hid hp6; have hcp := hp6.1; have hmp := hp6.2.1; clear h6 hp6))
          unfold maxLen at hmp
          go_loopw [12, 15] (fun m i wr => ∃ i2 : Nat, i2 ≤ (f s).length ∧ i = .int .i64 i2 ∧ m = .int .i64 ((ms0.length : Int) + i2) ∧ Wh w wr b k g f (some ad) cb ns (ms0 ++ (f s).take i2) ∧ Sl (Kn.int .i64) (fun k => g < k) wr P cp (f s)) (fun _ i _ => (f s).length - (intOf i).toNat)
          case atStart => exact ⟨0, by omega, rfl, by simp, by simpa using H6.out, HP6.out⟩
          case round =>
            obtain ⟨i2, hi2, rfl, rfl, hW3, hP3⟩ := hrel
            have HW3 := Lib.hid hW3
            have HP3 := Lib.hid hP3
            clear hW3 hP3
            by_cases hlt3 : i2 < (f s).length
            · obtain ⟨j, hjk, hjl, hjy⟩ := (HME.out _).1 (List.getElem_mem hlt3)
              have hfr2 := hfr.out i2 hlt3
              obtain ⟨pd, rfl, hcell⟩ := row_int_at HP3.out.2.2 hlt3
              obtain ⟨p, hpj⟩ : ∃ p : Nat, p = j + 1 := ⟨_, rfl⟩
              have hyp : (f s)[i2] = (p : Int) := by omega
              have htk3 : (f s).take (i2 + 1) = (f s).take i2 ++ [(p : Int)] := by rw [List.take_succ_eq_append_getElem hlt3, hyp]
              rw [hyp] at hcell hfr2
              have hseen := HW3.out.cell (p := p) (by omega)
              rw [decide_eq_false hfr2] at hseen
              have hfree := HW3.out.free p
              have hnm := HNM.out _ _ HW3.out
              have hjl2 : j < l.length := by omega
              obtain ⟨bd, rfl, hld2⟩ := row_str_at (HL.out.below HW3.out.ts.up).2.2 hjl2
              have hlj : l[j] = s := by rw [List.getElem?_eq_getElem hjl2] at hjl; exact Option.some.inj hjl
              rw [hlj] at hld2
              have HMK := Lib.hid (fun nq => (HW3.out.below (below_drewN (Below.refl _ _) nq)).mark (p := p) (by omega))
              have HPK := Lib.hid (fun nq => (HP3.out.drewN nq).setCell (p := ⟨g, p, none⟩) (fun k hk e => by simp at e; omega) (.bool true))
              have HTK3 := Lib.hid htk3
              have ew : IntKind.i64.wrap ((p : Int) - 1) = (j : Int) := by rw [IntWalk.i64_in _ (by omega)]; omega
              have b1 : (0 : Int) ≤ (i2 : Int) := Int.natCast_nonneg _
              have b2 : (i2 : Int) < ((f s).length : Int) := by omega
              have b3 : (0 : Int) ≤ (p : Int) := Int.natCast_nonneg _
              have b4 : (p : Int) < (k : Int) + 1 := by omega
              have b5 : (0 : Int) ≤ (j : Int) := Int.natCast_nonneg _
              have b6 : (j : Int) < (l.length : Int) := by omega
              have d1 : decide ((p : Int) < 1) = false := decide_eq_false (by omega)
              have d2 : decide ((k : Int) < (p : Int)) = false := decide_eq_false (by omega)
              have d3 : decide (k < p) = false := decide_eq_false (by omega)
              clear htk3 hyp hfr2 hjy hpj hjl hlj
              by_cases hz0 : i2 = 0
              · subst hz0
                have hcell0 : wr.cell? pd = some (.int .i64 p) := hcell
                have b7 : (0 : Int) < ((f s).length : Int) := b2
                have b8 : 0 < (f s).length := hlt3
                clear hcell
                go_wp2_with fail
                go_quiet (fail)
                go_wp2
                go_roundw
                case rel => exact ⟨1, by omega, rfl, by go_num, by rw [HTK3.out, ← List.append_assoc]; exact HMK.out nq, HPK.out nq⟩
                case measure => simp [intOf]; omega
              · obtain ⟨i3, hi3⟩ : ∃ i3, i2 = i3 + 1 := ⟨i2 - 1, by omega⟩
                have hlt4 : i3 < (f s).length := by omega
                obtain ⟨pd', e1, hcell3⟩ := row_int_at HP3.out.2.2 hlt4
                have : pd = pd' := Option.some.inj e1
                subst this
                have hy3 : (f s)[i3] < (p : Int) := by
                  have h1 := List.getElem?_eq_getElem hlt4
                  have h2 : (f s)[i2]? = some (p : Int) := by
                    have := congrArg (fun l => l[i2]?) HTK3.out
                    rw [List.getElem?_append_right (by rw [List.length_take]; omega), List.length_take, List.getElem?_take] at this
                    rw [if_pos (by omega)] at this
                    rw [this, show i2 - min i2 (f s).length = 0 by omega]; rfl
                  exact rise_at HRI.out h1 h2 (by omega)
                generalize (f s)[i3] = y3 at hcell3 hy3
                have ew3 : IntKind.i64.wrap ((i2 : Int) - 1) = (i3 : Int) := by rw [IntWalk.i64_in _ (by omega)]; omega
                have b7 : (0 : Int) ≤ (i3 : Int) := Int.natCast_nonneg _
                have b8 : (i3 : Int) < ((f s).length : Int) := by omega
                have d4 : decide ((0 : Int) < (i2 : Int)) = true := decide_eq_true (by omega)
                have d5 : decide (0 < i2) = true := decide_eq_true (by omega)
                have d6 : decide ((p : Int) ≤ y3) = false := decide_eq_false (by omega)
                have hpos : 0 < i2 := by omega
                clear hi3 hz0
                go_wp2_with fail
                go_quiet (fail)
                go_wp2
                go_roundw
                case rel => exact ⟨i2 + 1, by omega, by go_num, by go_num, by rw [HTK3.out, ← List.append_assoc]; exact HMK.out nq, HPK.out nq⟩
                case measure => simp [intOf]; omega
            · obtain rfl : i2 = (f s).length := by omega
              have HW4 := Lib.hid (show Wh w wr b k g f (some ad) cb ns ((ns.take (k2 + 1)).flatMap f) by rw [HTK.out]; simpa using HW3.out)
              go_wp2_with fail
              go_roundw
              case rel => exact ⟨k2 + 1, by omega, rfl, by rw [HTK.out, List.length_append]; go_num, HW4.out⟩
              case measure => simp [intOf]; omega
        · obtain rfl : k2 = ns.length := by omega
          rw [List.take_length, hfl]
          go_wp2_with fail
          go_ret
          exact ⟨by simp, HW2.out.ts.up⟩
end Go.Proofs.Yteahpkihkfkpfaa
