/- StreamsCopies: the law's walk. -/
import Derived.Test.YteahpkihkfkpfaaLawStreamsUpto
import Derived.Deep.DeepFit
set_option linter.unusedVariables false
set_option linter.unusedSimpArgs false
namespace Go.Proofs.Yteahpkihkfkpfaa
open Go.RowKit Go.Maps

/-- Two tables beside one another. -/
structure Two (w0 w : World) (b1 b2 N1 N2 : Nat) (l1 l2 : Int) (f1 f2 : ByteArray → List Int) : Prop where
  tb : ∃ m1 D1 m2 D2, Tb w b1 m1 N1 D1 l1 f1 (fun k => k = b2 ∨ k = m2) ∧ Tb w b2 m2 N2 D2 l2 f2 (fun k => k = b1 ∨ k = m1) ∧ w0.heap.size ≤ m1 ∧ w0.heap.size ≤ m2
  lo1 : w0.heap.size ≤ b1
  lo2 : w0.heap.size ≤ b2
  up : Below w0.heap.size w0 w
section
variable {w0 w w' : World} {b b1 b2 N N1 N2 : Nat} {last l1 l2 : Int} {f f1 f2 : ByteArray → List Int}
theorem Two.t1 (h : Two w0 w b1 b2 N1 N2 l1 l2 f1 f2) : Ts w0 w b1 N1 l1 f1 := by
  obtain ⟨m1, D1, m2, D2, h1, h2, h3, h4⟩ := h.tb
  exact ⟨⟨m1, D1, _, h1, h3⟩, h.lo1, h.up⟩
theorem Two.t2 (h : Two w0 w b1 b2 N1 N2 l1 l2 f1 f2) : Ts w0 w b2 N2 l2 f2 := by
  obtain ⟨m1, D1, m2, D2, h1, h2, h3, h4⟩ := h.tb
  exact ⟨⟨m2, D2, _, h2, h4⟩, h.lo2, h.up⟩
theorem Two.swap (h : Two w0 w b1 b2 N1 N2 l1 l2 f1 f2) : Two w0 w b2 b1 N2 N1 l2 l1 f2 f1 := by
  obtain ⟨m1, D1, m2, D2, h1, h2, h3, h4⟩ := h.tb
  exact ⟨⟨m2, D2, m1, D1, h2, h1, h4, h3⟩, h.lo2, h.lo1, h.up⟩
theorem cClone (h : Ts w0 w b N last f) : Calls Try.prog 29 #[.pointer (some ⟨b, 0, none⟩)] w fun r w' => ∃ b2, r = .returned (.pointer (some ⟨b2, 0, none⟩)) ∧ Two w0 w' b b2 N N last last f f := by
  obtain ⟨m, D, X, h1, h2⟩ := h.tb
  refine (Clone_any h1).mono fun r w' hr => ?_
  obtain ⟨b2, m2, e, h3, h4, h5, h6, h7⟩ := hr
  have hs := h.up.size
  exact ⟨b2, e, ⟨⟨m, D, m2, D, h7, h6, h2, by omega⟩, h.lo, by omega, bthen h.up h5⟩⟩
theorem cAdd1 (h : Two w0 w b1 b2 N1 N2 l1 l2 f1 f2) (hN : N1 ≤ 900000) {s : ByteArray} (hs : s.size ≤ maxLen) {pos : Int} (hlt : l1 < pos) :
    Calls Try.prog 17 #[.pointer (some ⟨b1, 0, none⟩), .string s, .int .i64 pos] w fun r w' => r = .returned (.tuple #[.int .i64 ((f1 s).length + 1), .int .i64 0]) ∧ Two w0 w' b1 b2 (N1 + 1) N2 pos l2 (upd f1 s (f1 s ++ [pos])) f2 := by
  obtain ⟨m1, D1, m2, D2, h1, h2, h3, h4⟩ := h.tb
  refine (Add_any h1 hN hs pos).mono fun r w' hr => ?_
  obtain ⟨D', e, h5, h6⟩ := hr.2 hlt
  exact ⟨e, ⟨m1, D', m2, D2, h5, h2.far h6, h3, h4⟩, h.lo1, h.lo2, h6.below h.up h.up.size (fun k hk => hk.elim (fun e => e ▸ h.lo1) (fun e => e ▸ h3))⟩
end

set_option maxHeartbeats 1000000 in
set_option maxRecDepth 4000 in
theorem streamsCopies_walk (w : World) (A : Option Addr) (c : Nat) (l : List ByteArray) (h : Sl Kn.str (fun _ => True) w A c l) (hg : ∀ x ∈ l, x.size ≤ maxLen) (p : ByteArray) (hp : p.size ≤ maxLen) (q : ByteArray) (hq : q.size ≤ maxLen) :
    Calls Try.prog 5 #[.slice A l.length c, .string p, .string q] w fun r w' => r = .returned (.bool true) ∧ Below w.heap.size w w' := by
  have HS := Lib.hid (shown12 w)
  have HL := Lib.hid h
  have HP := Lib.hid hp
  have HQ := Lib.hid hq
  have hc1 := h.1
  have hc2 := h.2.1
  unfold maxLen at hc2
  clear h hp hq
  obtain ⟨n, e9, hn1, hn2⟩ : ∃ n : Nat, (if (40 : Int) < (l.length : Int) then (40 : Int) else (l.length : Int)) = (n : Int) ∧ n ≤ l.length ∧ n ≤ 40 := ⟨min l.length 40, by split <;> omega, by omega, by omega⟩
  go_enter Try.func5, Try.ntmps5
  go_wp2_with (first | (go_at_call 14; refine HS.out.mono ?_; rintro r w1 ⟨rfl, h1⟩) | (go_at_call 15; refine (cNew h1).mono ?_; rintro r w2 ⟨b, rfl, h2⟩; have H2 := Lib.hid h2; clear h2))
  have HT := Lib.hid (h1)
  clear h1 e9
  go_loopw [10] (fun i wr => ∃ (k : Nat) (f : ByteArray → List Int), k ≤ n ∧ i = .int .i64 k ∧ Ts w wr b k k f) (fun i _ => n - (intOf i).toNat)
  case atStart => exact ⟨0, _, by omega, rfl, H2.out⟩
  case round =>
    obtain ⟨k, f, hk, rfl, hT⟩ := hrel
    have HT := Lib.hid hT
    clear hT
    by_cases hlt : k < n
    · have hkl : k < l.length := by omega
      obtain ⟨ad, rfl, hld⟩ := row_str_at (HL.out.below HT.out.up).2.2 hkl
      have hsz : l[k].size ≤ maxLen := hg _ (List.getElem_mem hkl)
      generalize l[k] = s at hld hsz
      have HSZ := Lib.hid hsz
      clear hsz
      go_wp2_with (first | (go_at_call 17; refine (cAdd HT.out (by omega) HSZ.out (by omega)).mono ?_; rintro r w4 ⟨rfl, h4⟩; have H4 := Lib.hid h4; clear h4))
      go_roundw
      case rel => exact ⟨k + 1, _, by omega, rfl, H4.out⟩
      case measure => simp [intOf]; omega
    · obtain rfl : k = n := by omega
      have hx1 : upTo (f p) (k : Int) = (f p).length := upTo_all (HT.out.top p)
      have hy1 : upTo (f q) (k : Int) = (f q).length := upTo_all (HT.out.top q)
      have hl1 := HT.out.len p
      have hl2 := HT.out.len q
      have C1 := Lib.hid (cVersion HT.out (by omega) HP.out k)
      have C2 := Lib.hid (cVersion HT.out (by omega) HQ.out k)
      have C3 := Lib.hid (cClone HT.out)
      have C4 := Lib.hid (fun W b2 (h : Two w W b b2 k k k k f f) => cAdd1 h (by omega) HP.out (pos := (k : Int) + 1) (by omega))
      have C5 := Lib.hid (fun W b2 f1 (h : Two w W b b2 (k + 1) k ((k : Int) + 1) k f1 f) => cAdd1 h.swap (by omega) HQ.out (pos := (k : Int) + 2) (by omega))
      rw [hx1] at C1
      rw [hy1] at C2
      have hf1 : ∀ s, upTo (upd f p (f p ++ [(k : Int) + 1]) s) ((k : Int) + 9) = (upd f p (f p ++ [(k : Int) + 1]) s).length := fun s => upTo_all (fun z hz => by
        by_cases hs : s = p
        · subst hs; rw [upd_same] at hz; rcases List.mem_append.1 hz with hz | hz
          · have := HT.out.top _ z hz; omega
          · simp at hz; omega
        · rw [upd_other _ _ hs] at hz; have := HT.out.top _ z hz; omega)
      have hf2 : ∀ s, upTo (upd f q (f q ++ [(k : Int) + 2]) s) ((k : Int) + 9) = (upd f q (f q ++ [(k : Int) + 2]) s).length := fun s => upTo_all (fun z hz => by
        by_cases hs : s = q
        · subst hs; rw [upd_same] at hz; rcases List.mem_append.1 hz with hz | hz
          · have := HT.out.top _ z hz; omega
          · simp at hz; omega
        · rw [upd_other _ _ hs] at hz; have := HT.out.top _ z hz; omega)
      have C6 : Hid (∀ W b2, Two w W b2 b (k + 1) (k + 1) ((k : Int) + 2) ((k : Int) + 1) (upd f q (f q ++ [(k : Int) + 2])) (upd f p (f p ++ [(k : Int) + 1])) → Calls Try.prog 16 #[.pointer (some ⟨b, 0, none⟩), .string p, .int .i64 ((k : Int) + 9)] W fun r w' => r = .returned (.int .i64 ((f p).length + 1)) ∧ W = w') :=
        Lib.hid (fun W b2 h => (cVersion h.t2 (by omega) HP.out ((k : Int) + 9)).mono fun r w' ⟨e, h⟩ => ⟨by rw [hf1, upd_same] at e; simpa using e, h⟩)
      have C7 : Hid (∀ W b2, p ≠ q → Two w W b2 b (k + 1) (k + 1) ((k : Int) + 2) ((k : Int) + 1) (upd f q (f q ++ [(k : Int) + 2])) (upd f p (f p ++ [(k : Int) + 1])) → Calls Try.prog 16 #[.pointer (some ⟨b2, 0, none⟩), .string p, .int .i64 ((k : Int) + 9)] W fun r w' => r = .returned (.int .i64 (f p).length) ∧ W = w') :=
        Lib.hid (fun W b2 hne h => (cVersion h.t1 (by omega) HP.out ((k : Int) + 9)).mono fun r w' ⟨e, h⟩ => ⟨by rw [hf2, upd_other _ _ hne] at e; exact e, h⟩)
      have C8 : Hid (∀ W b2, p ≠ q → Two w W b2 b (k + 1) (k + 1) ((k : Int) + 2) ((k : Int) + 1) (upd f q (f q ++ [(k : Int) + 2])) (upd f p (f p ++ [(k : Int) + 1])) → Calls Try.prog 16 #[.pointer (some ⟨b, 0, none⟩), .string q, .int .i64 ((k : Int) + 9)] W fun r w' => r = .returned (.int .i64 (f q).length) ∧ W = w') :=
        Lib.hid (fun W b2 hne h => (cVersion h.t2 (by omega) HQ.out ((k : Int) + 9)).mono fun r w' ⟨e, h⟩ => ⟨by rw [hf1, upd_other _ _ (fun e => hne e.symm)] at e; exact e, h⟩)
      have C9 : Hid (∀ W b2, Two w W b2 b (k + 1) (k + 1) ((k : Int) + 2) ((k : Int) + 1) (upd f q (f q ++ [(k : Int) + 2])) (upd f p (f p ++ [(k : Int) + 1])) → Calls Try.prog 18 #[.pointer (some ⟨b2, 0, none⟩), .string q, .int .i64 ((k : Int) + 9)] W fun r w' => ∃ A' c', r = .returned (.slice A' ((f q).length + 1) c') ∧ Below w.heap.size w w') :=
        Lib.hid (fun W b2 h => (cPositions h.t1 (by omega) HQ.out ((k : Int) + 9)).mono fun r w' ⟨A', c', e, _, h2, _⟩ => ⟨A', c', by rw [hf2, upd_same] at e; simpa using e, h2.up⟩)
      clear hx1 hy1 hf1 hf2
      by_cases hpq : p = q
      · subst hpq
        generalize (f p).length = x at *
        go_wp2_with (first | (go_at_call 18; go_fit (C9.out _ _ H5.out); rintro r w9 ⟨A', c', rfl, h9⟩) | (go_at_call 17; go_fit (C5.out _ _ _ H4.out); rintro r w5 ⟨rfl, h5⟩; have H5 := Lib.hid h5; clear h5) | (go_at_call 17; go_fit (C4.out _ _ H3.out); rintro r w4 ⟨rfl, h4⟩; have H4 := Lib.hid h4; clear h4) | (go_at_call 29; go_fit C3.out; rintro r w3 ⟨b2, rfl, h3⟩; have H3 := Lib.hid h3; clear h3) | (go_at_call 16; go_fit (C6.out _ _ H5.out); rintro r w6 ⟨rfl, rfl⟩) | (go_at_call 16; go_fit C1.out; rintro r w6 ⟨rfl, rfl⟩) | (go_at_call 16; go_fit C2.out; rintro r w6 ⟨rfl, rfl⟩))
        go_ret
        exact ⟨rfl, h9⟩
      · generalize (f p).length = x at *
        generalize (f q).length = y at *
        have hpl : ¬ p.toList = q.toList := fun e => hpq (by have := strEqL p q; rw [e] at this; simpa using this)
        go_wp2_with (first | (go_at_call 18; go_fit (C9.out _ _ H5.out); rintro r w9 ⟨A', c', rfl, h9⟩) | (go_at_call 17; go_fit (C5.out _ _ _ H4.out); rintro r w5 ⟨rfl, h5⟩; have H5 := Lib.hid h5; clear h5) | (go_at_call 17; go_fit (C4.out _ _ H3.out); rintro r w4 ⟨rfl, h4⟩; have H4 := Lib.hid h4; clear h4) | (go_at_call 29; go_fit C3.out; rintro r w3 ⟨b2, rfl, h3⟩; have H3 := Lib.hid h3; clear h3) | (go_at_call 16; go_fit (C6.out _ _ H5.out); rintro r w6 ⟨rfl, rfl⟩) | (go_at_call 16; go_fit (C8.out _ _ hpq H5.out); rintro r w6 ⟨rfl, rfl⟩) | (go_at_call 16; go_fit (C7.out _ _ hpq H5.out); rintro r w6 ⟨rfl, rfl⟩) | (go_at_call 16; go_fit C1.out; rintro r w6 ⟨rfl, rfl⟩) | (go_at_call 16; go_fit C2.out; rintro r w6 ⟨rfl, rfl⟩))
        go_ret
        exact ⟨rfl, h9⟩
end Go.Proofs.Yteahpkihkfkpfaa
