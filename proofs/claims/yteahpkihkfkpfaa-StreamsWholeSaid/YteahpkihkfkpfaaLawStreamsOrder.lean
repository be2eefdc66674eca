/- StreamsOrder: the law's walk. -/
import Derived.Test.YteahpkihkfkpfaaRowsOf
import Derived.Deep.RegionHeld3
set_option linter.unusedVariables false
set_option linter.unusedSimpArgs false
namespace Go.Proofs.Yteahpkihkfkpfaa
open Go.RowKit Go.Maps

theorem Ts.drewN {w0 w : World} {b N : Nat} {last : Int} {f : ByteArray → List Int} (h : Ts w0 w b N last f) (j : Nat) : Ts w0 (w.drewN j) b N last f := h.below (below_drewN (Below.refl _ _) j)

theorem drew_drewN2 (w : World) (j : Nat) : (w.drewN j).drew.drew = w.drewN (j + 2) := rfl
theorem drew_drewN (w : World) (j : Nat) : (w.drewN j).drew = w.drewN (j + 1) := rfl

set_option maxHeartbeats 2000000 in
set_option maxRecDepth 4000 in
theorem streamsOrder_walk (w : World) (A : Option Addr) (c : Nat) (l : List ByteArray) (h : Sl Kn.str (fun _ => True) w A c l) (hg : ∀ x ∈ l, x.size ≤ maxLen) :
    Calls Try.prog 10 #[.slice A l.length c] w fun r w' => r = .returned (.bool true) ∧ Below w.heap.size w w' := by
  have HS := Lib.hid (shown12 w)
  have HL := Lib.hid h
  have hc1 := h.1
  have hc2 := h.2.1
  unfold maxLen at hc2
  clear h
  obtain ⟨n, e9, hn1, hn2⟩ : ∃ n : Nat, (if (60 : Int) < (l.length : Int) then (60 : Int) else (l.length : Int)) = (n : Int) ∧ n ≤ l.length ∧ n ≤ 60 := ⟨min l.length 60, by split <;> omega, by omega, by omega⟩
  have e8 : min (l.length : Int) 60 = (n : Int) := by split at e9 <;> omega
  go_enter Try.func10, Try.ntmps10
  go_wp2_with (first | (go_at_call 14; refine HS.out.mono ?_; rintro r w1 ⟨rfl, h1⟩) | (go_at_call 15; refine (cNew h1).mono ?_; rintro r w2 ⟨b, rfl, h2⟩; have H2 := Lib.hid h2; clear h2))
  have HT := Lib.hid (h1)
  clear h1 e9 e8
  go_loopw [6] (fun i wr => ∃ (k : Nat) (f : ByteArray → List Int), k ≤ n ∧ i = .int .i64 k ∧ Ts w wr b k k f ∧ RowsOf l k f) (fun i _ => n - (intOf i).toNat)
  case atStart => exact ⟨0, _, by omega, rfl, H2.out, RowsOf.start l⟩
  case round =>
    obtain ⟨k, f, hk, rfl, hT, hR⟩ := hrel
    have HT := Lib.hid hT
    have HR := Lib.hid hR
    clear hT hR
    by_cases hlt : k < n
    · have hkl : k < l.length := by omega
      obtain ⟨ad, rfl, hld⟩ := row_str_at (HL.out.below HT.out.up).2.2 hkl
      have hsz : l[k].size ≤ maxLen := hg _ (List.getElem_mem hkl)
      have HRS := Lib.hid (HR.out.step (List.getElem?_eq_getElem hkl))
      generalize l[k] = s at hld hsz HRS
      have HSZ := Lib.hid hsz
      clear hsz
      go_wp2_with (first | (go_at_call 17; refine (cAdd HT.out (by omega) HSZ.out (by omega)).mono ?_; rintro r w4 ⟨rfl, h4⟩; have H4 := Lib.hid h4; clear h4))
      go_roundw
      case rel => exact ⟨k + 1, _, by omega, rfl, H4.out, HRS.out⟩
      case measure => simp [intOf]; omega
    · obtain rfl : k = n := by omega
      go_wp2_with (first | (go_at_call 37; go_fit (cNames HT.out (by omega)); rintro r w5 ⟨B, cb, ns, rfl, hs5, hn5, hl5, h5, _⟩; have H5 := Lib.hid h5; have HN5 := Lib.hid hn5; have HS5 := Lib.hid hs5; have hcb := hs5.1; have hmb := hs5.2.1; clear h5 hn5 hs5))
      unfold maxLen at hmb
      have HNS : Hid (∀ s ∈ ns, s.size ≤ maxLen) := Lib.hid (fun s hs => by
        obtain ⟨p, hp⟩ := List.exists_mem_of_ne_nil _ ((HN5.out.mem s).1 hs)
        obtain ⟨j, _, hj, _⟩ := (HR.out s p).1 hp
        exact hg s (List.mem_of_getElem? hj))
      have HSUM := Lib.hid (fun i hi => sumV_all HR.out hn1 HT.out.rise HN5.out i hi)
      go_loopw [8] (fun i wr => ∃ (k2 j : Nat), k2 ≤ k ∧ i = .int .i64 ((k2 : Int) + 1) ∧ wr = w5.drewN j) (fun i _ => k + 1 - (intOf i).toNat)
      case atStart => exact ⟨0, 0, by omega, rfl, rfl⟩
      case round =>
        obtain ⟨k2, j, hk2, rfl, rfl⟩ := hrel
        by_cases hlt2 : k2 < k
        · have hle : (k2 : Int) + 1 ≤ (k : Int) := by omega
          go_wp2_with fail
          go_loopw [9, 10] (fun m i wr => ∃ (k3 j3 : Nat), k3 ≤ ns.length ∧ i = .int .i64 k3 ∧ m = .int .i64 (sumV f (ns.take k3) ((k2 : Int) + 1)) ∧ wr = w5.drewN j3) (fun _ i _ => ns.length - (intOf i).toNat)
          case atStart => exact ⟨0, j, by omega, rfl, rfl, rfl⟩
          case round =>
            obtain ⟨k3, j3, hk3, rfl, rfl, rfl⟩ := hrel
            by_cases hlt3 : k3 < ns.length
            · obtain ⟨ad, rfl, hld⟩ := row_str_at HS5.out.2.2 hlt3
              have hl2 : k2 < l.length := by omega
              have hat := HR.out.at_ hlt2 hl2 ns[k3]
              have hstep := upTo_step (HT.out.rise ns[k3]) (k2 : Int)
              have hsm := sumV_snoc f (ns.take k3) ((k2 : Int) + 1) ns[k3]
              rw [← List.take_succ_eq_append_getElem hlt3] at hsm
              have hsz : ns[k3].size ≤ maxLen := HNS.out _ (List.getElem_mem hlt3)
              have hxle : upTo (f ns[k3]) (k2 : Int) ≤ 60 := by have := upTo_le (f ns[k3]) (k2 : Int); have := HT.out.len ns[k3]; omega
              have hsle : sumV f (ns.take k3) ((k2 : Int) + 1) ≤ 10000 := by
                have h1 := sumV_le f (ns.take k3) ((k2 : Int) + 1) 60 (fun s => by have := upTo_le (f s) ((k2 : Int) + 1); have := HT.out.len s; omega)
                have h2 : (ns.take k3).length = k3 := by rw [List.length_take]; omega
                rw [h2] at h1; omega
              have HSM := Lib.hid hsm
              clear hsm
              obtain ⟨bd, rfl, hld2⟩ := row_str_at (HL.out.below H5.out.up).2.2 hl2
              have hC1 := fun W (hW : ∃ j, W = w5.drewN j) => (show Ts w W b k k f by obtain ⟨j, rfl⟩ := hW; exact H5.out.drewN j)
              generalize ns[k3] = s at hld hat hstep HSM hsz hxle
              generalize l[k2] = t at hld2 hat
              have C1 := Lib.hid (fun W (hW : ∃ j, W = w5.drewN j) => cVersion (hC1 W hW) (by omega) hsz ((k2 : Int) + 1))
              have C2 := Lib.hid (fun W (hW : ∃ j, W = w5.drewN j) => cVersion (hC1 W hW) (by omega) hsz (k2 : Int))
              have HK : Hid (∀ W, (∃ j, W = w5.drewN j) → (∃ j, W = w5.drewN j) ∧ W.cell? (ad.add k3) = some (.string s) ∧ W.cell? (bd.add k2) = some (.string t)) := Lib.hid (fun W ⟨j, e⟩ => ⟨⟨j, e⟩, by subst e; exact hld, by subst e; exact hld2⟩)
              clear hC1
              generalize upTo (f s) ((k2 : Int) + 1) = y at *
              generalize upTo (f s) (k2 : Int) = x at *
              generalize sumV f (ns.take k3) ((k2 : Int) + 1) = z at *
              have ew : IntKind.i64.wrap (k2 : Int) = (k2 : Int) := IntWalk.i64_in _ (by omega)
              have ev1 : IntKind.i64.wrap ((x : Int) + 1 - (x : Int)) = 1 := by rw [IntWalk.i64_in _ (by omega)]; omega
              have ev0 : IntKind.i64.wrap ((x : Int) - (x : Int)) = 0 := by rw [IntWalk.i64_in _ (by omega)]; omega
              have ev00 : IntKind.i64.wrap 0 = 0 := IntWalk.i64_in 0 (by omega)
              by_cases hst : s = t
              · subst hst
                rw [if_pos (hat.2 rfl)] at hstep
                subst hstep
                clear hat
                go_wp2_with fail
                go_region_held3 (fun W => (∃ j, W = w5.drewN j) ∧ W.cell? (ad.add k3) = some (.string s) ∧ W.cell? (bd.add k2) = some (.string s)) (first | (assumption) | exact HK.out _ ⟨_, drew_drewN _ _⟩) (first | (go_at_call 16; go_fit (C1.out _ (And.left (by assumption))); rintro r w6 ⟨rfl, rfl⟩) | (go_at_call 16; go_fit (C2.out _ (And.left (by assumption))); rintro r w6 ⟨rfl, rfl⟩))
                all_goals
                  go_wp2_with fail
                  go_region_held3 (fun W => (∃ j, W = w5.drewN j) ∧ W.cell? (ad.add k3) = some (.string s) ∧ W.cell? (bd.add k2) = some (.string s)) (first | (assumption) | exact HK.out _ ⟨_, drew_drewN2 _ _⟩) (fail)
                  go_wp2_with (first | (go_at_call 16; go_fit (C1.out _ ⟨_, drew_drewN2 _ _⟩); rintro r w6 ⟨rfl, rfl⟩))
                  go_roundw
                  case rel => exact ⟨k3 + 1, _, by omega, rfl, by rw [HSM.out]; go_num, rfl⟩
                  case measure => simp [intOf]; omega
              · rw [if_neg (fun e => hst (hat.1 e)), Nat.add_zero] at hstep
                subst hstep
                have hpl : ¬ s.toList = t.toList := fun e => hst (by have := strEqL s t; rw [e] at this; simpa using this)
                have hpb : (s.toList == t.toList) = false := by rw [strEqL]; simp [hst]
                clear hat
                go_wp2_with fail
                go_region_held3 (fun W => (∃ j, W = w5.drewN j) ∧ W.cell? (ad.add k3) = some (.string s) ∧ W.cell? (bd.add k2) = some (.string t)) (first | (assumption) | exact HK.out _ ⟨_, drew_drewN _ _⟩) (first | (go_at_call 16; go_fit (C1.out _ (And.left (by assumption))); rintro r w6 ⟨rfl, rfl⟩) | (go_at_call 16; go_fit (C2.out _ (And.left (by assumption))); rintro r w6 ⟨rfl, rfl⟩))
                all_goals
                  go_wp2_with fail
                  go_region_held3 (fun W => (∃ j, W = w5.drewN j) ∧ W.cell? (ad.add k3) = some (.string s) ∧ W.cell? (bd.add k2) = some (.string t)) (first | (assumption) | exact HK.out _ ⟨_, drew_drewN2 _ _⟩) (fail)
                  go_wp2_with (first | (go_at_call 16; go_fit (C1.out _ ⟨_, drew_drewN2 _ _⟩); rintro r w6 ⟨rfl, rfl⟩))
                  go_roundw
                  case rel => exact ⟨k3 + 1, _, by omega, rfl, by rw [HSM.out]; go_num, rfl⟩
                  case measure => simp [intOf]; omega
            · obtain rfl : k3 = ns.length := by omega
              rw [List.take_length, show sumV f ns ((k2 : Int) + 1) = k2 + 1 from HSUM.out (k2 + 1) (by omega)]
              go_wp2_with fail
              go_roundw
              case rel => exact ⟨k2 + 1, _, by omega, by go_num, rfl⟩
              case measure => simp [intOf]; omega
        · obtain rfl : k2 = k := by omega
          have H6 := Lib.hid (H5.out.drewN j)
          go_wp2_with (first | (go_at_call 37; go_fit (cNames H6.out (by omega)); rintro r w7 ⟨B7, cb7, ns7, rfl, _, _, hl7, h7, _⟩; have H7 := Lib.hid h7; clear h7))
          go_ret
          exact ⟨by simp, H7.out.up⟩
end Go.Proofs.Yteahpkihkfkpfaa
