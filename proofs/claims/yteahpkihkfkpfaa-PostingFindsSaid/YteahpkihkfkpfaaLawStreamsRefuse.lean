/- StreamsRefuse: the law's walk. -/
import Derived.Test.YteahpkihkfkpfaaLawStreamsUpto
import Derived.Test.YteahpkihkfkpfaaTabNames
import Derived.Deep.DeepFit
set_option linter.unusedVariables false
set_option linter.unusedSimpArgs false
namespace Go.Proofs.Yteahpkihkfkpfaa
open Go.RowKit Go.Maps

theorem Nms.nodup {f : ByteArray → List Int} {ns : List ByteArray} (h : Nms f ns) : ns.Nodup := h.rise.imp (fun {a b} h => by rintro rfl; exact ltB_irrefl _ h)
theorem Nms.eq {f : ByteArray → List Int} {ns ms : List ByteArray} (h : Nms f ns) (k : Nms f ms) : ns = ms := by
  refine List.Perm.eq_of_pairwise (le := ltB) (fun a b _ _ h1 h2 => absurd (List.lt_trans h1 h2) (List.lt_irrefl _)) h.rise k.rise ?_
  exact (List.perm_ext_iff_of_nodup h.nodup k.nodup).2 (fun x => (h.mem x).trans (k.mem x).symm)
section
variable {w0 w : World} {b N : Nat} {last : Int} {f : ByteArray → List Int}
theorem cNames (h : Ts w0 w b N last f) (hN : N ≤ 900000) :
    Calls Try.prog 37 #[.pointer (some ⟨b, 0, none⟩)] w fun r w' => ∃ A c ns, r = .returned (.slice A ns.length c) ∧ Sl Kn.str (fun _ => True) w' A c ns ∧ Nms f ns ∧ ns.length ≤ N ∧ Ts w0 w' b N last f ∧ Below w.heap.size w w' := by
  obtain ⟨m, D, X, h1, h2⟩ := h.tb
  exact (Names_any h1 hN).mono fun r w' ⟨A, c, ns, e, h3, h4, h5, h6⟩ => ⟨A, c, ns, e, h3.any, h4, h5, h.below h6, h6⟩
end

set_option maxHeartbeats 1000000 in
set_option maxRecDepth 4000 in
theorem streamsRefuse_walk (w : World) (A : Option Addr) (c : Nat) (l : List ByteArray) (h : Sl Kn.str (fun _ => True) w A c l) (hg : ∀ x ∈ l, x.size ≤ maxLen) (p : ByteArray) (hp : p.size ≤ maxLen) (pos : Int) (hu : (Lit.int .i64 pos).wf = true) :
    Calls Try.prog 9 #[.slice A l.length c, .string p, .int .i64 pos] w fun r w' => r = .returned (.bool true) ∧ Below w.heap.size w w' := by
  have HS := Lib.hid (shown12 w)
  have HL := Lib.hid h
  have HP := Lib.hid hp
  have hc1 := h.1
  have hc2 := h.2.1
  unfold maxLen at hc2
  clear h hp hu
  obtain ⟨n, e9, hn1, hn2⟩ : ∃ n : Nat, (if (40 : Int) < (l.length : Int) then (40 : Int) else (l.length : Int)) = (n : Int) ∧ n ≤ l.length ∧ n ≤ 40 := ⟨min l.length 40, by split <;> omega, by omega, by omega⟩
  have e8 : min (l.length : Int) 40 = (n : Int) := by split at e9 <;> omega
  go_enter Try.func9, Try.ntmps9
  go_wp2_with (first | (go_at_call 14; refine HS.out.mono ?_; rintro r w1 ⟨rfl, h1⟩) | (go_at_call 15; refine (cNew h1).mono ?_; rintro r w2 ⟨b, rfl, h2⟩; have H2 := Lib.hid h2; clear h2))
  have HT := Lib.hid (h1)
  clear h1 e9 e8
  go_loopw [10] (fun i wr => ∃ (k : Nat) (f : ByteArray → List Int), k ≤ n ∧ i = .int .i64 k ∧ Ts w wr b k k f) (fun i _ => n - (intOf i).toNat)
  case atStart => exact ⟨0, _, by omega, rfl, H2.out⟩
  case round =>
    obtain ⟨k, f, hk, rfl, hT⟩ := hrel
    have HT := Lib.hid hT
    clear hT
    by_cases hlt : k < n
    · have hkl : k < l.length := by omega
      obtain ⟨ad, rfl, hld⟩ := row_str_at (HL.out.below HT.out.up).2.2 hkl
      have hsz : l[k].size ≤ maxLen := hg _ (List.getElem_mem hkl)
      generalize l[k] = s at hld hsz
      have HSZ := Lib.hid hsz
      clear hsz
      go_wp2_with (first | (go_at_call 17; refine (cAdd HT.out (by omega) HSZ.out (by omega)).mono ?_; rintro r w4 ⟨rfl, h4⟩; have H4 := Lib.hid h4; clear h4))
      go_roundw
      case rel => exact ⟨k + 1, _, by omega, rfl, H4.out⟩
      case measure => simp [intOf]; omega
    · obtain rfl : k = n := by omega
      have hx1 : upTo (f p) (k : Int) = (f p).length := upTo_all (HT.out.top p)
      have hl1 := HT.out.len p
      have C1 := Lib.hid (cNames HT.out (by omega))
      have C2 := Lib.hid (fun W (h : Ts w W b k k f) => cVersion h (by omega) HP.out k)
      by_cases hpk : pos ≤ (k : Int)
      · have C3 := Lib.hid (fun W (h : Ts w W b k k f) => cAddNo h (by omega) HP.out hpk)
        have C4 := Lib.hid (fun W (h : Ts w W b k k f) => cNames h (by omega))
        rw [hx1] at C2
        clear hx1
        generalize (f p).length = x at *
        go_wp2_with (first | (go_at_call 37; go_fit C1.out; rintro r w5 ⟨B, cb, ns, rfl, _, hn5, hl5, h5, _⟩; have H5 := Lib.hid h5; have HN5 := Lib.hid hn5; clear h5 hn5) | (go_at_call 16; go_fit (C2.out _ H5.out); rintro r w6 ⟨rfl, rfl⟩) | (go_at_call 17; go_fit (C3.out _ H5.out); rintro r w6 ⟨rfl, rfl⟩) | (go_at_call 37; go_fit (C4.out _ H5.out); rintro r w7 ⟨B7, cb7, ns7, rfl, _, hn7, hl7, h7, _⟩; obtain rfl := hn7.eq HN5.out; have H7 := Lib.hid h7; clear h7 hn7))
        go_ret
        exact ⟨rfl, H7.out.up⟩
      · have C3 := Lib.hid (fun W (h : Ts w W b k k f) => cAdd h (by omega) HP.out (pos := pos) (by omega))
        have C5 : Hid (∀ W, Ts w W b (k + 1) pos (upd f p (f p ++ [pos])) → Calls Try.prog 16 #[.pointer (some ⟨b, 0, none⟩), .string p, .int .i64 pos] W fun r w' => r = .returned (.int .i64 ((f p).length + 1)) ∧ W = w') :=
          Lib.hid (fun W h => (cVersion h (by omega) HP.out pos).mono fun r w' ⟨e, h2⟩ => ⟨by rw [upTo_all (h.top p), upd_same] at e; simpa using e, h2⟩)
        rw [hx1] at C2
        clear hx1
        generalize (f p).length = x at *
        go_wp2_with (first | (go_at_call 37; go_fit C1.out; rintro r w5 ⟨B, cb, ns, rfl, _, hn5, hl5, h5, _⟩; have H5 := Lib.hid h5; have HN5 := Lib.hid hn5; clear h5 hn5) | (go_at_call 16; go_fit (C5.out _ H6.out); rintro r w6 ⟨rfl, rfl⟩) | (go_at_call 16; go_fit (C2.out _ H5.out); rintro r w6 ⟨rfl, rfl⟩) | (go_at_call 17; go_fit (C3.out _ H5.out); rintro r w6 ⟨rfl, h6⟩; have H6 := Lib.hid h6; clear h6))
        go_ret
        exact ⟨rfl, H6.out.up⟩
end Go.Proofs.Yteahpkihkfkpfaa
