/- StreamsUpto: the law's walk. -/
import Derived.Test.YteahpkihkfkpfaaLaw12a
import Derived.Deep.RegionHeld3
set_option linter.unusedVariables false
set_option linter.unusedSimpArgs false
namespace Go.Proofs.Yteahpkihkfkpfaa
open Go.RowKit Go.Maps

theorem upTo_nil (x : Int) : upTo [] x = 0 := rfl
theorem upTo_cons (y : Int) (l : List Int) (x : Int) : upTo (y :: l) x = (if y ≤ x then 1 else 0) + upTo l x := by
  unfold upTo
  rw [List.filter_cons]
  by_cases h : y ≤ x
  · simp [h]; omega
  · simp [h]
theorem upTo_append (a b : List Int) (x : Int) : upTo (a ++ b) x = upTo a x + upTo b x := by simp [upTo, List.filter_append]
theorem upTo_none {l : List Int} {x : Int} (h : ∀ p ∈ l, x < p) : upTo l x = 0 := by
  unfold upTo
  rw [List.filter_eq_nil_iff.2 (fun p hp => by have := h p hp; simp; omega)]
  rfl
theorem upTo_all {l : List Int} {x : Int} (h : ∀ p ∈ l, p ≤ x) : upTo l x = l.length := by
  unfold upTo
  rw [List.filter_eq_self.2 (fun p hp => by simpa using h p hp)]
theorem upTo_iff : ∀ {l : List Int} (_ : l.Pairwise (· < ·)) (x : Int) {i : Nat} {y : Int}, l[i]? = some y → (y ≤ x ↔ i < upTo l x)
  | [], _, _, i, y, h => by simp at h
  | z :: l, hr, x, i, y, h => by
    rw [List.pairwise_cons] at hr
    rw [upTo_cons]
    match i, h with
    | 0, h =>
      simp at h
      subst h
      by_cases hz : z ≤ x
      · simp only [hz, if_true, true_iff]; omega
      · simp only [hz, if_false]
        rw [upTo_none (fun p hp => by have := hr.1 p hp; omega)]
        simp
    | i + 1, h =>
      have h' : l[i]? = some y := by simpa using h
      have ih := upTo_iff hr.2 x h'
      by_cases hz : z ≤ x
      · simp only [hz, if_true]; rw [ih]; omega
      · simp only [hz, if_false]
        rw [upTo_none (fun p hp => by have := hr.1 p hp; omega)]
        have := hr.1 y (List.mem_of_getElem? h')
        constructor <;> intro h <;> omega
theorem upTo_upd (f : ByteArray → List Int) (s k : ByteArray) {p x : Int} (h : x < p) : upTo (upd f s (f s ++ [p]) k) x = upTo (f k) x := by
  by_cases hk : k = s
  · subst hk
    rw [upd_same, upTo_append, upTo_none (l := [p]) (by simpa using h)]; rfl
  · rw [upd_other _ _ hk]

set_option maxHeartbeats 1000000 in
set_option maxRecDepth 4000 in
theorem streamsUpto_walk (w : World) (A : Option Addr) (c : Nat) (l : List ByteArray) (h : Sl Kn.str (fun _ => True) w A c l) (hg : ∀ x ∈ l, x.size ≤ maxLen) (stream : ByteArray) (hs : stream.size ≤ maxLen) (upto : Int) (hu : (Lit.int .i64 upto).wf = true) :
    Calls Try.prog 3 #[.slice A l.length c, .string stream, .int .i64 upto] w fun r w' => r = .returned (.bool true) ∧ Below w.heap.size w w' := by
  have HS := Lib.hid (shown12 w)
  have HL := Lib.hid h
  have hc1 := h.1
  have hc2 := h.2.1
  unfold maxLen at hc2
  clear h
  obtain ⟨n, e9, hn1, hn2⟩ : ∃ n : Nat, (if (60 : Int) < (l.length : Int) then (60 : Int) else (l.length : Int)) = (n : Int) ∧ n ≤ l.length ∧ n ≤ 60 := ⟨min l.length 60, by split <;> omega, by omega, by omega⟩
  obtain ⟨m, e10⟩ : ∃ m : Nat, (if upto < 0 then (0 : Int) else upto) = (m : Int) := ⟨upto.toNat, by split <;> omega⟩
  obtain ⟨a, e11, ha⟩ : ∃ a : Nat, (if n < m then (n : Int) else (m : Int)) = (a : Int) ∧ a ≤ n := ⟨min n m, by split <;> omega, by omega⟩
  go_enter Try.func3, Try.ntmps3
  go_wp2_with (first | (go_at_call 14; refine HS.out.mono ?_; rintro r w1 ⟨rfl, h1⟩) | (go_at_call 15; refine (cNew h1).mono ?_; rintro r w2 ⟨b, rfl, h2⟩; have H2 := Lib.hid h2; clear h2))
  have HT := Lib.hid (h1)
  clear h1 e9 e10 e11
  go_loopw [11, 12] (fun v i wr => ∃ (k : Nat) (f : ByteArray → List Int) (x : Nat), k ≤ n ∧ i = .int .i64 k ∧ v = .int .i64 x ∧ Ts w wr b k k f ∧ (k ≤ a → x = 0) ∧ (a < k → x = upTo (f stream) a)) (fun _ i _ => n - (intOf i).toNat)
  case atStart => exact ⟨0, _, 0, by omega, rfl, rfl, H2.out, fun _ => rfl, fun h => by omega⟩
  case round =>
    obtain ⟨k, f, x, hk, rfl, rfl, hT, hx0, hx1⟩ := hrel
    have HT := Lib.hid hT
    have HX0 := Lib.hid hx0
    have HX1 := Lib.hid hx1
    clear hT hx0 hx1
    by_cases hlt : k < n
    · have hkl : k < l.length := by omega
      obtain ⟨ad, rfl, hld⟩ := row_str_at (HL.out.below HT.out.up).2.2 hkl
      have hsz : l[k].size ≤ maxLen := hg _ (List.getElem_mem hkl)
      generalize l[k] = s at hld hsz
      have HSZ := Lib.hid hsz
      clear hsz
      by_cases hka : k = a
      · subst hka
        go_wp2_with (first | (go_at_call 16; refine (cVersion HT.out (by omega) hs _).mono ?_; rintro r w3 ⟨rfl, rfl⟩) | (go_at_call 17; refine (cAdd HT.out (by omega) HSZ.out (by omega)).mono ?_; rintro r w4 ⟨rfl, h4⟩; have H4 := Lib.hid h4; clear h4))
        go_roundw
        case rel => exact ⟨k + 1, _, _, by omega, rfl, rfl, H4.out, fun h => by omega, fun _ => (upTo_upd _ _ _ (by omega)).symm⟩
        case measure => simp [intOf]; omega
      · go_wp2_with (first | (go_at_call 16; refine (cVersion HT.out (by omega) hs _).mono ?_; rintro r w3 ⟨rfl, rfl⟩) | (go_at_call 17; refine (cAdd HT.out (by omega) HSZ.out (by omega)).mono ?_; rintro r w4 ⟨rfl, h4⟩; have H4 := Lib.hid h4; clear h4))
        go_roundw
        case rel => exact ⟨k + 1, _, _, by omega, rfl, rfl, H4.out, fun h => HX0.out (by omega), fun h => (HX1.out (by omega)).trans (upTo_upd _ _ _ (by omega)).symm⟩
        case measure => simp [intOf]; omega
    · obtain rfl : k = n := by omega
      go_upto_if 53 with fail
      go_cut [11] (fun v wx => v = .int .i64 (upTo (f stream) a) ∧ Ts w wx b k k f)
      case first =>
        by_cases hka : a = k
        · subst hka
          go_wp2_with (first | (go_at_call 16; refine (cVersion HT.out (by omega) hs _).mono ?_; rintro r w3 ⟨rfl, rfl⟩))
          go_meet
          case rel => exact ⟨rfl, HT.out⟩
        · obtain rfl := HX1.out (by omega)
          go_wp2_with fail
          go_meet
          case rel => exact ⟨rfl, HT.out⟩
      case rest =>
        obtain ⟨rfl, hT2⟩ := hcut
        have HT := Lib.hid hT2
        clear hT2
        have hall : (f stream).take (upTo (f stream) k) = f stream := by rw [upTo_all (HT.out.top stream)]; simp
        have hlt : ((f stream).take (upTo (f stream) a)).length = upTo (f stream) a := by rw [List.length_take]; have := upTo_le (f stream) a; omega
        have hle := upTo_le (f stream) a
        have hlen := HT.out.len stream
        have HR := Lib.hid (HT.out.rise stream)
        have C1 := Lib.hid (cPositions HT.out (by omega) hs k)
        have C2 := Lib.hid (fun W (h : Ts w W b k k f) => cPositions h (by omega) hs a)
        have C3 := Lib.hid (fun W (h : Ts w W b k k f) => cVersion h (by omega) hs a)
        rw [hall] at C1
        rw [hlt] at C2
        generalize hg1 : f stream = g at *
        generalize hu1 : upTo g a = u at *
        have HU := Lib.hid hu1
        clear hall hu1
        have hnl : ¬ g.length < u := by omega
        go_wp2_with (first | (go_at_call 16; refine (C3.out _ H4.out).mono ?_; rintro r w5 ⟨rfl, rfl⟩) | (go_at_call 18; refine (C2.out _ H3.out).mono ?_; rintro r w4 ⟨B, cb, rfl, hb, h4, hb4⟩; have H4 := Lib.hid h4; have HB := Lib.hid hb; have HA4 := Lib.hid (HA.out.below hb4); have hcb := hb.1; have hmb := hb.2.1; clear h4 hb hb4) | (go_at_call 18; refine C1.out.mono ?_; rintro r w3 ⟨P, cp, rfl, hp, h3, _⟩; have H3 := Lib.hid h3; have HA := Lib.hid hp; have hcp := hp.1; have hmp := hp.2.1; clear h3 hp))
        have hcb2 : u ≤ cb := by omega
        unfold maxLen at hmp hmb
        go_loopw [15] (fun i wr => ∃ k2 : Nat, k2 ≤ g.length ∧ i = .int .i64 k2 ∧ (∃ j, wr = w4.drewN j)) (fun i _ => g.length - (intOf i).toNat)
        case atStart => exact ⟨0, Nat.zero_le _, rfl, 0, rfl⟩
        case round =>
          obtain ⟨k2, hk2, rfl, j, rfl⟩ := hrel
          by_cases hlt2 : k2 < g.length
          · have hge : g[k2]? = some g[k2] := List.getElem?_eq_getElem hlt2
            have hiff := upTo_iff HR.out (a : Int) hge
            rw [HU.out] at hiff
            obtain ⟨ad, rfl, hx1⟩ := row_int_at HA4.out.2.2 hlt2
            by_cases hlu : k2 < u
            · have hya : g[k2] ≤ (a : Int) := hiff.2 hlu
              obtain ⟨bd, rfl, hx2⟩ := row_int_at HB.out.2.2 (j := k2) (by omega)
              rw [List.getElem_take] at hx2
              generalize g[k2] = y at *
              clear hiff hge
              have b1 : (0 : Int) ≤ (k2 : Int) := Int.natCast_nonneg _
              have b2 : (k2 : Int) < (g.length : Int) := by omega
              have b3 : (k2 : Int) < (u : Int) := by omega
              have d1 : decide (y ≤ (a : Int)) = true := decide_eq_true hya
              have d2 : decide (k2 < u) = true := decide_eq_true hlu
              go_wp2_with fail
              go_quiet (fail)
              go_wp2
              go_roundw
              case rel => exact ⟨k2 + 1, by omega, by go_num, _, rfl⟩
              case measure => simp [intOf]; omega
            · have hya : ¬ g[k2] ≤ (a : Int) := fun h => hlu (hiff.1 h)
              generalize g[k2] = y at *
              clear hiff hge
              have b1 : (0 : Int) ≤ (k2 : Int) := Int.natCast_nonneg _
              have b2 : (k2 : Int) < (g.length : Int) := by omega
              have d1 : decide (y ≤ (a : Int)) = false := decide_eq_false hya
              have d2 : decide (k2 < u) = false := decide_eq_false hlu
              go_wp2_with fail
              go_quiet (fail)
              go_wp2
              go_roundw
              case rel => exact ⟨k2 + 1, by omega, by go_num, _, rfl⟩
              case measure => simp [intOf]; omega
          · go_wp2_with fail
            go_ret
            exact ⟨rfl, below_drewN H4.out.up _⟩
end Go.Proofs.Yteahpkihkfkpfaa
