/- slices.Index, Contains at []string. slices.Equal at []string (as in Same06). slices.Equal at []api.Field, event.Same, event.Value. event.Same. event.Has (as in Match). registrarlaw04.few: an event with at most 12 tags and 12 fields (walk). registrarlaw04.shown: the document's example. What the laws of events share: their heads. An event in a box, wherever its rows lie. append(v, ys...) at a step of a region that draws. Own work. Small laws on steps of a region that draws (taken out of LawQueryGrows). -/
import Derived.Test.YtfoghahidofegaaBundA
import Derived.RangeFuncOwn
import Derived.Test.YtfoghahidofegaaBundN
import Derived.Test.YtfoghahidofegaaBundC
import Derived.Test.YtfoghahidofegaaBundR
set_option linter.unusedVariables false
set_option linter.unusedSimpArgs false
namespace Go.Proofs.Ytfoghahidofegaa
open Go.RowKit

set_option maxHeartbeats 400000 in
theorem indexS_any {A : Option Addr} {c : Nat} {xs : List ByteArray} (x : ByteArray) {w : World} (h : SlS w A c xs) :
    Calls Try.prog 60 #[.slice A xs.length c, .string x] w fun e w' => ∃ i : Int, e = .returned (.int .i64 i) ∧ w = w' ∧ -1 ≤ i ∧ (decide (0 ≤ i) = hasS x xs) := by
  obtain ⟨h1, h2, h3⟩ := h
  unfold maxLen at h2
  go_enter Try.func60, Try.ntmps60
  go_wp2
  go_loop [8] (fun i => ∃ k : Nat, k ≤ xs.length ∧ i = .int .i64 k ∧ Hid ((xs.take k).any (fun y => decide (x = y)) = false)) (fun i => xs.length - (intOf i).toNat)
  case atStart => exact ⟨0, Nat.zero_le _, rfl, by exact rfl⟩
  case round =>
    obtain ⟨k, hk, rfl, hn⟩ := hrel
    by_cases hlt : k < xs.length
    · obtain ⟨ad, rfl, hx⟩ := row_str_at h3 hlt
      generalize hye : xs[k] = y at hx
      have HY := Lib.hid hye
      clear hye
      by_cases hxy : x = y
      · have he : (x.toList == y.toList) = true := by rw [strEqL]; simp [hxy]
        have HXY := Lib.hid hxy
        clear hxy
        go_wp2
        go_ret
        refine ⟨k, rfl, rfl, by omega, ?_⟩
        rw [(hasS_iff x xs).2 (by rw [HXY.out, ← HY.out]; exact List.getElem_mem hlt)]
        simp
      · have he : (x.toList == y.toList) = false := by rw [strEqL]; simp [hxy]
        go_wp2
        go_round
        case rel => exact ⟨k + 1, by omega, by go_num, by show _ = false; rw [any_take_succ _ _ _ hlt, hn.out, HY.out]; simp [hxy]⟩
        case measure => simp [intOf]; omega
    · go_wp2
      go_ret
      obtain rfl : k = xs.length := by omega
      have h4 : (xs.take xs.length).any (fun y => decide (x = y)) = false := hn.out
      rw [List.take_length] at h4
      exact ⟨-1, rfl, rfl, by omega, by rw [show hasS x xs = false from h4]; rfl⟩

theorem containsS_any {A : Option Addr} {c : Nat} {xs : List ByteArray} (x : ByteArray) {w : World} (h : SlS w A c xs) :
    Calls Try.prog 35 #[.slice A xs.length c, .string x] w fun e w' => e = .returned (.bool (hasS x xs)) ∧ w = w' := by
  have H := Lib.hid (indexS_any x h)
  go_enter Try.func35, Try.ntmps35
  go_wp2_with fail
  refine H.out.mono ?_
  rintro e w' ⟨i, rfl, rfl, h1, h2⟩
  have H2 := Lib.hid h2
  clear h2
  go_wp2
  go_ret
  exact ⟨ret_bool H2.out, rfl⟩

end Go.Proofs.Ytfoghahidofegaa

namespace Go.Proofs.Ytfoghahidofegaa
open Go.RowKit

set_option maxHeartbeats 400000 in
theorem equalS_any (A B : Option Addr) (ca cb : Nat) (a b : List ByteArray) (w : World) (ha0 : SlS w A ca a) (hb0 : SlS w B cb b) :
    Calls Try.prog 40 #[.slice A a.length ca, .slice B b.length cb] w fun e w' => e = .returned (.bool (decide (a = b))) ∧ ∃ n, w' = w.drewN n := by
  obtain ⟨hca, hma, ha⟩ := ha0
  obtain ⟨hcb, hmb, hb⟩ := hb0
  unfold maxLen at hma hmb
  by_cases hl : a.length = b.length
  · have H0 := Lib.hid hl
    have hl0 : ((a.length : Int) != (b.length : Int)) = false := by rw [hl]; simp
    have hl1 : a.length ≤ b.length := by omega
    have hl2 : b.length ≤ a.length := by omega
    clear hl
    go_enter Try.func40, Try.ntmps40
    go_wp2
    go_loopw [13] (fun i wr => ∃ k n : Nat, k ≤ a.length ∧ i = .int .i64 k ∧ AlikeB a b k ∧ wr = w.drewN n) (fun i _ => a.length - (intOf i).toNat)
    case atStart => exact ⟨0, 0, Nat.zero_le _, rfl, fun j hj => by omega, rfl⟩
    case round =>
      obtain ⟨k, n, hk, rfl, hal, rfl⟩ := hrel
      by_cases hlt : k < a.length
      · obtain ⟨ad, rfl, hx⟩ := row_str_at ha hlt
        obtain ⟨bd, rfl, hy⟩ := row_str_at hb (j := k) (by omega)
        have hltb : k < b.length := by omega
        generalize hxe : a[k] = x at hx
        generalize hye : b[k] = y at hy
        have HX := Lib.hid hxe
        have HY := Lib.hid hye
        clear hxe hye
        have hq := strEqL x y
        by_cases hxy : x = y
        · rw [decide_eq_true hxy] at hq
          have HXY := Lib.hid hxy
          clear hxy
          go_wp2
          go_quiet (fail)
          go_wp2
          go_roundw
          case rel =>
            refine ⟨k + 1, _, by omega, by go_num, fun j hj => ?_, rfl⟩
            rcases Nat.lt_or_ge j k with h | h
            · exact hal j h
            · obtain rfl : j = k := by omega
              rw [List.getElem?_eq_getElem hlt, List.getElem?_eq_getElem hltb, HX.out, HY.out, HXY.out]
          case measure => simp [intOf]; omega
        · rw [decide_eq_false hxy] at hq
          have HXY := Lib.hid hxy
          clear hxy
          go_wp2
          go_quiet (fail)
          go_wp2
          go_ret
          refine ⟨?_, _, World.drewN_drewN _ _ _⟩
          have : a ≠ b := fun e => by
            subst e
            exact HXY.out (HX.out.symm.trans HY.out)
          simp [this]
      · go_wp2
        go_ret
        refine ⟨?_, _, rfl⟩
        obtain rfl : k = a.length := by omega
        simp [alikeB_all H0.out hal]
  · have hl0 : ((a.length : Int) != (b.length : Int)) = true := by rw [bne_iff_ne]; omega
    go_enter Try.func40, Try.ntmps40
    go_wp2
    go_ret
    refine ⟨?_, 0, rfl⟩
    have : a ≠ b := fun e => hl (by rw [e])
    simp [this]
end Go.Proofs.Ytfoghahidofegaa

namespace Go.Proofs.Ytfoghahidofegaa
open Go.RowKit

set_option maxHeartbeats 400000 in
theorem equalF_any (A B : Option Addr) (ca cb : Nat) (a b : List (ByteArray × Int)) (w : World) (ha0 : SlF w A ca a) (hb0 : SlF w B cb b) :
    Calls Try.prog 41 #[.slice A a.length ca, .slice B b.length cb] w fun e w' => e = .returned (.bool (decide (a = b))) ∧ ∃ n, w' = w.drewN n := by
  obtain ⟨hca, hma, ha⟩ := ha0
  obtain ⟨hcb, hmb, hb⟩ := hb0
  unfold maxLen at hma hmb
  by_cases hl : a.length = b.length
  · have H0 := Lib.hid hl
    have hl0 : ((a.length : Int) != (b.length : Int)) = false := by rw [hl]; simp
    have hl1 : a.length ≤ b.length := by omega
    have hl2 : b.length ≤ a.length := by omega
    clear hl
    go_enter Try.func41, Try.ntmps41
    go_wp2
    go_loopw [13] (fun i wr => ∃ k n : Nat, k ≤ a.length ∧ i = .int .i64 k ∧ AlikeF a b k ∧ wr = w.drewN n) (fun i _ => a.length - (intOf i).toNat)
    case atStart => exact ⟨0, 0, Nat.zero_le _, rfl, fun j hj => by omega, rfl⟩
    case round =>
      obtain ⟨k, n, hk, rfl, hal, rfl⟩ := hrel
      by_cases hlt : k < a.length
      · obtain ⟨ad, rfl, hx, hx1⟩ := row_field_at ha hlt
        obtain ⟨bd, rfl, hy, hy1⟩ := row_field_at hb (j := k) (by omega)
        have hltb : k < b.length := by omega
        generalize hxe : a[k] = x at hx hx1
        generalize hye : b[k] = y at hy hy1
        have HX := Lib.hid hxe
        have HY := Lib.hid hye
        clear hxe hye
        have hq := strEqL x.1 y.1
        have hxy2 : (x = y) ↔ (x.1 = y.1 ∧ x.2 = y.2) := fieldEq x y
        by_cases h1 : x.1 = y.1
        · by_cases h2 : x.2 = y.2
          · rw [decide_eq_true h1] at hq
            have HXY := Lib.hid (hxy2.2 ⟨h1, h2⟩)
            have h3 : (x.2 == y.2) = true := by simpa using h2
            have h3' : (x.2 != y.2) = false := by simpa using h2
            clear h1 h2 hxy2
            go_wp2
            go_quiet (fail)
            go_wp2
            go_roundw
            case rel =>
              refine ⟨k + 1, _, by omega, by go_num, fun j hj => ?_, rfl⟩
              rcases Nat.lt_or_ge j k with h | h
              · exact hal j h
              · obtain rfl : j = k := by omega
                rw [List.getElem?_eq_getElem hlt, List.getElem?_eq_getElem hltb, HX.out, HY.out, HXY.out]
            case measure => simp [intOf]; omega
          · rw [decide_eq_true h1] at hq
            have HXY := Lib.hid (show a ≠ b from fun e => h2 ((hxy2.1 (by subst e; exact HX.out.symm.trans HY.out)).2))
            have h3 : (x.2 == y.2) = false := by simpa using h2
            have h3' : (x.2 != y.2) = true := by simpa using h2
            clear h1 h2 hxy2
            go_wp2
            go_quiet (fail)
            go_wp2
            go_ret
            refine ⟨?_, _, World.drewN_drewN _ _ _⟩
            have := HXY.out
            simp [this]
        · rw [decide_eq_false h1] at hq
          have HXY := Lib.hid (show a ≠ b from fun e => h1 ((hxy2.1 (by subst e; exact HX.out.symm.trans HY.out)).1))
          clear h1 hxy2
          go_wp2
          go_quiet (fail)
          go_wp2
          go_ret
          refine ⟨?_, _, World.drewN_drewN _ _ _⟩
          have := HXY.out
          simp [this]
      · go_wp2
        go_ret
        refine ⟨?_, _, rfl⟩
        obtain rfl : k = a.length := by omega
        simp [alikeF_all H0.out hal]
  · have hl0 : ((a.length : Int) != (b.length : Int)) = true := by rw [bne_iff_ne]; omega
    go_enter Try.func41, Try.ntmps41
    go_wp2
    go_ret
    refine ⟨?_, 0, rfl⟩
    have : a ≠ b := fun e => hl (by rw [e])
    simp [this]

set_option maxHeartbeats 1000000 in
theorem valueE_any {w : World} {e : Event} {T F : Option Addr} {ct cf : Nat} (hF : SlF w F cf e.fields) (s : ByteArray) :
    Calls Try.prog 11 #[vEvent e T ct F cf, .string s] w fun r w' => r = .returned (.tuple #[.int .i64 (valF e.fields s).1, .bool (valF e.fields s).2]) ∧ Below w.heap.size w w' := by
  obtain ⟨h1, h2, h3⟩ := hF
  unfold maxLen at h2
  obtain ⟨W1, hW1⟩ : ∃ W1, W1 = w.alloc (.cells #[.string e.stream, .string e.type, .slice T e.tags.length ct, .slice F e.fields.length cf] 25) := ⟨_, rfl⟩
  have HW := Lib.hid hW1
  have hB : Below w.heap.size w W1 := by rw [hW1]; exact (Below.refl _ _).alloc (Nat.le_refl _) _
  have hx1 : Bx W1 w.heap.size 25 [.string e.stream, .string e.type, .slice T e.tags.length ct, .slice F e.fields.length cf] := by rw [hW1]; exact Bx.new w _ _
  have c3 := hx1.cell 3
  simp only [List.getElem?_cons_succ, List.getElem?_cons_zero] at c3
  have HB := Lib.hid hB
  clear hB hx1 hW1
  obtain ⟨V, hV⟩ : ∃ V, V = valF e.fields s := ⟨_, rfl⟩
  rw [← hV]
  have HV := Lib.hid hV
  clear hV
  go_enter Try.func11, Try.ntmps11
  go_upto_region 1 with fail
  rw [← HW.out]
  clear HW
  go_wp2_with fail
  clear c3
  go_loopw [11] (fun i wr => ∃ k : Nat, k ≤ e.fields.length ∧ i = .int .i64 k ∧ Hid (V = valF (e.fields.drop k) s) ∧ Below w.heap.size w wr) (fun i _ => e.fields.length - (intOf i).toNat)
  case atStart => exact ⟨0, Nat.zero_le _, rfl, HV, HB.out⟩
  case round =>
    obtain ⟨k, hk, rfl, hv, hb⟩ := hrel
    clear HV
    by_cases hlt : k < e.fields.length
    · obtain ⟨ad, rfl, hx, hy⟩ := row_field_at (h3.below hb) hlt
      have HH := Lib.hid (valF_here hlt (s := s))
      have HN := Lib.hid (valF_next hlt (s := s))
      have HBA := Lib.hid (fun o => (hb.alloc hb.size o : Below w.heap.size w (wr.alloc o)))
      generalize e.fields[k] = x at hx hy HH HN
      have e1 : (0 : Int) ≤ (k : Int) := Int.natCast_nonneg _
      have e2 : (k : Int) < (e.fields.length : Int) := by omega
      have hq := strEqL x.1 s
      clear hb
      by_cases hxs : x.1 = s
      · rw [decide_eq_true hxs] at hq
        have HV := Lib.hid (hv.out.trans (HH.out hxs))
        clear hxs HH HN hv
        go_wp2_with fail
        exact bodyPost_ret (v := .tuple #[.int .i64 x.2, .bool true]) (by simp [results, Try.results11, go_sem]) rfl ⟨by rw [HV.out], HBA.out _⟩
      · rw [decide_eq_false hxs] at hq
        have HV := Lib.hid (hv.out.trans (HN.out hxs))
        clear hxs HH HN hv
        go_wp2_with fail
        go_roundw
        case rel => exact ⟨k + 1, by omega, by go_num, HV, HBA.out _⟩
        case measure => simp [intOf]; omega
    · have HV := Lib.hid (show V = (0, false) by rw [hv.out, List.drop_of_length_le (by omega)]; rfl)
      have HBB := Lib.hid hb
      clear hv hb
      go_wp2_with fail
      exact bodyPost_ret (v := .tuple #[.int .i64 0, .bool false]) (by simp [results, Try.results11, go_sem]) rfl ⟨by rw [HV.out], HBB.out⟩
end Go.Proofs.Ytfoghahidofegaa

namespace Go.Proofs.Ytfoghahidofegaa
open Go.RowKit

set_option maxHeartbeats 4000000 in
theorem sameE_any {w : World} {x y : Event} {T F T' F' : Option Addr} {ct cf ct' cf' : Nat} (h1 : SlS w T ct x.tags) (h2 : SlF w F cf x.fields) (h3 : SlS w T' ct' y.tags) (h4 : SlF w F' cf' y.fields) :
    Calls Try.prog 13 #[vEvent x T ct F cf, vEvent y T' ct' F' cf'] w fun e w' => e = .returned (.bool (sameE x y)) ∧ Below w.heap.size w w' := by
  obtain ⟨W1, hW1⟩ : ∃ W1, W1 = (w.alloc (.cells #[.string x.stream, .string x.type, .slice T x.tags.length ct, .slice F x.fields.length cf] 25)).alloc (.cells #[.string y.stream, .string y.type, .slice T' y.tags.length ct', .slice F' y.fields.length cf'] 25) := ⟨_, rfl⟩
  have HW := Lib.hid hW1
  have hB : Below w.heap.size w W1 := by rw [hW1]; exact ((Below.refl _ _).alloc (Nat.le_refl _) _).alloc (by simp) _
  have hx1 : Bx W1 w.heap.size 25 [.string x.stream, .string x.type, .slice T x.tags.length ct, .slice F x.fields.length cf] := by rw [hW1]; exact (Bx.new w _ _).alloc _
  have hx2 : Bx W1 (w.heap.size + 1) 25 [.string y.stream, .string y.type, .slice T' y.tags.length ct', .slice F' y.fields.length cf'] := by
    rw [hW1]; have := Bx.new (w.alloc (.cells #[.string x.stream, .string x.type, .slice T x.tags.length ct, .slice F x.fields.length cf] 25)) 25 [.string y.stream, .string y.type, .slice T' y.tags.length ct', .slice F' y.fields.length cf']
    simpa using this
  have CT := Lib.hid (equalS_any T T' ct ct' x.tags y.tags W1 (h1.below hB) (h3.below hB))
  have CF := Lib.hid (fun n => equalF_any F F' cf cf' x.fields y.fields (W1.drewN n) ((h2.below hB).drewN n) ((h4.below hB).drewN n))
  have q1 := strEqL x.stream y.stream
  have q2 := strEqL x.type y.type
  unfold sameE
  generalize decide (x.stream = y.stream) = b1 at q1 ⊢
  generalize decide (x.type = y.type) = b2 at q2 ⊢
  generalize decide (x.tags = y.tags) = b3 at CT ⊢
  generalize decide (x.fields = y.fields) = b4 at CF ⊢
  obtain ⟨R, hR⟩ : ∃ R, R = (b1 && (b2 && (b3 && b4))) := ⟨_, rfl⟩
  rw [← hR]
  have HR := Lib.hid hR
  clear hR
  have HBx1 := Lib.hid hx1
  have HBx2 := Lib.hid hx2
  have HB := Lib.hid (fun n => below_drewN hB n)
  clear hB hx1 hx2 hW1 h1 h2 h3 h4
  go_enter Try.func13, Try.ntmps13
  go_upto_region 1 with fail
  rw [← HW.out]
  clear HW
  have c0 := HBx1.out.cell 0
  have c1 := HBx1.out.cell 1
  have c2 := HBx1.out.cell 2
  have d0 := HBx2.out.cell 0
  have d1 := HBx2.out.cell 1
  have d2 := HBx2.out.cell 2
  simp only [List.getElem?_cons_succ, List.getElem?_cons_zero] at c0 c1 c2 d0 d1 d2
  rcases b1 with _ | _ <;> rcases b2 with _ | _ <;> rcases b3 with _ | _ <;> rcases b4 with _ | _
  all_goals
    first
      | (have HT := Lib.hid (show R = true by rw [HR.out]; rfl))
      | (have HT := Lib.hid (show R = false by rw [HR.out]; rfl))
    clear HR
    go_wp2_with (first
      | (go_at_call 41; go_fit (CF.out _); rintro e w3 ⟨rfl, m, rfl⟩)
      | (go_at_call 40; go_fit CT.out; rintro e w2 ⟨rfl, n, rfl⟩; have k0 := (HBx1.out.drewN n).cell 3; have k1 := (HBx2.out.drewN n).cell 3; simp only [List.getElem?_cons_succ, List.getElem?_cons_zero] at k0 k1))
    go_ret
    first
      | exact ⟨by rw [HT.out]; rfl, HB.out 0⟩
      | exact ⟨by rw [HT.out]; rfl, HB.out _⟩
      | exact ⟨by rw [HT.out]; rfl, below_drewN (HB.out _) _⟩
end Go.Proofs.Ytfoghahidofegaa

namespace Go.Proofs.Ytfoghahidofegaa
open Go.RowKit

theorem Has_any {e : Event} {A B : Option Addr} {ca cb : Nat} {w : World} (h : SlS w A ca e.tags) (s : ByteArray) :
    Calls Try.prog 10 #[vEvent e A ca B cb, .string s] w fun r w' => r = .returned (.bool (hasS s e.tags)) ∧ Below w.heap.size w w' := by
  have H := Lib.hid (fun o => containsS_any s (h.alloc o))
  go_enter Try.func10, Try.ntmps10
  go_wp2_with fail
  refine (H.out _).mono ?_
  rintro r w' ⟨rfl, rfl⟩
  go_wp2
  go_ret
  exact ⟨rfl, (Below.refl _ _).alloc (Nat.le_refl _) _⟩

end Go.Proofs.Ytfoghahidofegaa

namespace Go.Proofs.Ytfoghahidofegaa
open Go.RowKit

def few12 (e : Event) : Event := ⟨e.stream, e.type, e.tags.take 12, e.fields.take 12⟩
theorem few04_box (w : World) (cs : List Value) : Bx ((w.alloc (.cells cs.toArray 25)).alloc (.cells cs.toArray 25)) (w.heap.size + 1) 25 cs := by
  have := Bx.new (w.alloc (.cells cs.toArray 25)) 25 cs
  rwa [show (w.alloc (.cells cs.toArray 25)).heap.size = w.heap.size + 1 by simp] at this
set_option maxHeartbeats 2000000 in
set_option maxRecDepth 8000 in
theorem few04_any {w : World} {e : Event} {T F : Option Addr} {ct cf : Nat} (hT : e.tags.length ≤ ct) (hF : e.fields.length ≤ cf) :
    Calls Try.prog 8 #[vEvent e T ct F cf] w fun r w' => r = .returned (vEvent (few12 e) T ct F cf) ∧ Below w.heap.size w w' := by
  have hbel : ∀ o : Obj, Below w.heap.size w ((w.alloc o).alloc o) := fun o => ((Below.refl _ _).alloc (Nat.le_refl _) o).alloc (by simp) o
  obtain ⟨n, hn⟩ : ∃ n, n = (e.tags.take 12).length := ⟨_, rfl⟩
  obtain ⟨m, hm⟩ : ∃ m, m = (e.fields.take 12).length := ⟨_, rfl⟩
  have hv : vEvent (few12 e) T ct F cf = .agg #[.string e.stream, .string e.type, .slice T n ct, .slice F m cf] := by simp only [vEvent, few12, hn, hm]
  rw [hv]
  rw [List.length_take] at hn hm
  have HB := Lib.hid (few04_box w [.string e.stream, .string e.type, .slice T n ct, .slice F m cf])
  have c0 := HB.out.cell 0
  have c1 := HB.out.cell 1
  have c2 := HB.out.cell 2
  have c3 := HB.out.cell 3
  simp only [List.getElem?_cons_succ, List.getElem?_cons_zero] at c0 c1 c2 c3
  have HBE := Lib.hid hbel
  clear hv hbel
  by_cases h12 : 12 < e.tags.length <;> by_cases g12 : 12 < e.fields.length
  · obtain rfl : n = 12 := by omega
    obtain rfl : m = 12 := by omega
    have b1' : (12 : Int) ≤ (ct : Int) := by omega
    have b2' : 12 ≤ ct := by omega
    have b3' : (12 : Int) ≤ (cf : Int) := by omega
    have b4' : 12 ≤ cf := by omega
    clear hn hm
    go_enter Try.func8, Try.ntmps8
    go_wp2_with fail
    exact bodyPost_ret (v := .agg #[.string e.stream, .string e.type, .slice T 12 ct, .slice F 12 cf]) (by simp [results, Try.results8, go_sem, c0, c1, c2, c3]) rfl ⟨rfl, HBE.out _⟩
  · obtain rfl : n = 12 := by omega
    obtain rfl : m = e.fields.length := by omega
    have b1' : (12 : Int) ≤ (ct : Int) := by omega
    have b2' : 12 ≤ ct := by omega
    clear hn hm
    go_enter Try.func8, Try.ntmps8
    go_wp2_with fail
    exact bodyPost_ret (v := .agg #[.string e.stream, .string e.type, .slice T 12 ct, .slice F e.fields.length cf]) (by simp [results, Try.results8, go_sem, c0, c1, c2, c3]) rfl ⟨rfl, HBE.out _⟩
  · obtain rfl : n = e.tags.length := by omega
    obtain rfl : m = 12 := by omega
    have b3' : (12 : Int) ≤ (cf : Int) := by omega
    have b4' : 12 ≤ cf := by omega
    clear hn hm
    go_enter Try.func8, Try.ntmps8
    go_wp2_with fail
    exact bodyPost_ret (v := .agg #[.string e.stream, .string e.type, .slice T e.tags.length ct, .slice F 12 cf]) (by simp [results, Try.results8, go_sem, c0, c1, c2, c3]) rfl ⟨rfl, HBE.out _⟩
  · obtain rfl : n = e.tags.length := by omega
    obtain rfl : m = e.fields.length := by omega
    clear hn hm
    go_enter Try.func8, Try.ntmps8
    go_wp2_with fail
    exact bodyPost_ret (v := .agg #[.string e.stream, .string e.type, .slice T e.tags.length ct, .slice F e.fields.length cf]) (by simp [results, Try.results8, go_sem, c0, c1, c2, c3]) rfl ⟨rfl, HBE.out _⟩
end Go.Proofs.Ytfoghahidofegaa

namespace Go.Proofs.Ytfoghahidofegaa
open Go.RowKit

/-- '[]api.Field{x, y, ..}'. -/
theorem fields_lit (w : World) (t : TypeId) (l : List (ByteArray × Int)) (hl : l.length ≤ maxLen) :
    Sl kField (fun k => w.heap.size ≤ k) (w.alloc (.cells (l.map (fun x => [Value.string x.1, .int .i64 x.2])).flatten.toArray t)) (some ⟨w.heap.size, 0, none⟩) l.length l := by
  refine ⟨Nat.le_refl _, hl, fun _ => ⟨_, rfl, Nat.le_refl _, by simp, fun j x hj => ⟨[.string x.1, .int .i64 x.2], rfl, ⟨[.string x.1], [.int .i64 x.2], rfl, rfl, rfl⟩, fun i u hu => ?_⟩⟩⟩
  have hf := flat_at (sz := 2) (l.map (fun x => [Value.string x.1, .int .i64 x.2])) (fun c hc => by obtain ⟨y, _, rfl⟩ := List.mem_map.1 hc; rfl) j i [.string x.1, .int .i64 x.2] u (by rw [List.getElem?_map, hj]; rfl) hu
  have e : (⟨w.heap.size, 0, none⟩ : Addr).add (j * kField.sz + i) = ⟨w.heap.size, j * 2 + i, none⟩ := by
    show (⟨w.heap.size, 0, none⟩ : Addr).add (j * 2 + i) = _
    unfold Addr.add
    split
    · rename_i h0; rw [h0]
    · simp
  rw [e, (Bx.new w t ((l.map (fun x => [Value.string x.1, .int .i64 x.2])).flatten)).cell]
  exact hf
def exE : Event := ⟨⟨#[115]⟩, ⟨#[116]⟩, [⟨#[98, 58, 120]⟩, ⟨#[97, 58, 121]⟩, ⟨#[98, 58, 120]⟩], [(⟨#[110]⟩, 1), (⟨#[109]⟩, 2), (⟨#[110]⟩, 3)]⟩
def exN : Event := ⟨⟨#[115]⟩, ⟨#[116]⟩, [⟨#[97, 58, 121]⟩, ⟨#[98, 58, 120]⟩], [(⟨#[109]⟩, 2), (⟨#[110]⟩, 3)]⟩
theorem exT : uniq exE.tags = exN.tags := riseB_eq (uniq_rise _) (by decide +kernel) (fun x => by rw [mem_uniq]; simp [exE, exN]; exact fun h => .inr h)
theorem exF : uniq (fnames exE.fields) = fnames exN.fields := riseB_eq (uniq_rise _) (by decide +kernel) (fun x => by rw [mem_uniq]; simp [exE, exN, fnames]; exact fun h => .inr h)
theorem exNorm : normE exE = exN := by
  refine event_ext rfl rfl exT ?_
  show normF exE.fields = exN.fields
  unfold normF
  rw [exF]
  decide +kernel
theorem exMay : mayE exN = 0 := by decide +kernel

set_option maxHeartbeats 4000000 in
set_option maxRecDepth 100000 in
theorem shown04 (w : World) : Calls Try.prog 7 #[] w fun r w' => r = .returned (.bool true) ∧ Below w.heap.size w w' := by
  have CM : Hid (∀ (W : World) (T F : Option Addr) (ct cf : Nat), SlS W T ct exN.tags → SlF W F cf exN.fields → Calls Try.prog 9 #[.agg #[.string ⟨#[115]⟩, .string ⟨#[116]⟩, .slice T 2 ct, .slice F 2 cf]] W fun r w' => r = .returned (.int .i64 0) ∧ Below W.heap.size W w') := Lib.hid (fun W T F ct cf hT hF => by
    have := mayE_any (e := exN) hT hF (by decide) (by decide +kernel)
    rw [exMay] at this
    exact this)
  have CN : Hid (∀ (W : World) (T F : Option Addr), SlS W T 3 exE.tags → SlF W F 3 exE.fields → Calls Try.prog 12 #[.agg #[.string ⟨#[115]⟩, .string ⟨#[116]⟩, .slice T 3 3, .slice F 3 3]] W fun r w' => ∃ (T' F' : Option Addr) (ct' cf' : Nat), r = .returned (.agg #[.string ⟨#[115]⟩, .string ⟨#[116]⟩, .slice T' 2 ct', .slice F' 2 cf']) ∧ SlS w' T' ct' exN.tags ∧ SlF w' F' cf' exN.fields ∧ Below W.heap.size W w') := Lib.hid (fun W T F hT hF => by
    refine (normE_any (e := exE) hT hF (by decide) (by decide) (by decide +kernel)).mono ?_
    rintro r w' ⟨vt, vf, M, rfl, h1, h2, _, _, hb⟩
    rw [exT] at h1
    rw [show normF exE.fields = exN.fields from congrArg Event.fields exNorm] at h2
    obtain ⟨T', ct', rfl, h3⟩ := h1.sl
    obtain ⟨F', cf', rfl, h4⟩ := h2.sl
    exact ⟨T', F', ct', cf', rfl, h3.any, h4.any, hb⟩)
  obtain ⟨Y, hY⟩ : ∃ Y, Y = ((w.alloc (.cells #[.string ⟨#[98, 58, 120]⟩, .string ⟨#[97, 58, 121]⟩, .string ⟨#[98, 58, 120]⟩] 9)).alloc (.cells #[.string ⟨#[110]⟩, .int .i64 1, .string ⟨#[109]⟩, .int .i64 2, .string ⟨#[110]⟩, .int .i64 3] 34)) := ⟨_, rfl⟩
  have hs1 : SlS Y (some ⟨w.heap.size, 0, none⟩) 3 exE.tags := by
    rw [hY]
    exact ((Sl.lit Value.string (fun _ => rfl) w 9 exE.tags (by decide +kernel)).any).alloc _
  have hs2 : SlF Y (some ⟨w.heap.size + 1, 0, none⟩) 3 exE.fields := by
    have := (fields_lit (w.alloc (.cells #[.string ⟨#[98, 58, 120]⟩, .string ⟨#[97, 58, 121]⟩, .string ⟨#[98, 58, 120]⟩] 9)) 34 exE.fields (by decide +kernel)).any
    rw [show (w.alloc (.cells #[.string ⟨#[98, 58, 120]⟩, .string ⟨#[97, 58, 121]⟩, .string ⟨#[98, 58, 120]⟩] 9)).heap.size = w.heap.size + 1 by simp] at this
    rw [hY]
    exact this
  have hYb : Below w.heap.size w Y := by rw [hY]; exact ((Below.refl _ _).alloc (Nat.le_refl _) _).alloc (by simp) _
  have HYB := Lib.hid hYb
  have C0 := Lib.hid (CN.out Y _ _ hs1 hs2)
  have HY := Lib.hid hY
  clear hY hs1 hs2 hYb CN
  go_enter Try.func7, Try.ntmps7
  go_upto_region 2 with (go_at_call 12; rw [← HY.out]; go_fit C0.out; rintro r w2 ⟨T', F', ct', cf', rfl, hT, hF, hb⟩; have HT := Lib.hid hT; have HF := Lib.hid hF; have HB := Lib.hid (bthen HYB.out hb); clear hT hF hb)
  obtain ⟨ad, rfl, hx⟩ := row_str_at HT.out.2.2 (j := 0) (by decide)
  obtain ⟨bd, rfl, hy0, hy⟩ := row_field_at HF.out.2.2 (j := 1) (by decide)
  have hct := HT.out.1
  have hcf := HF.out.1
  obtain ⟨W, hW⟩ : ∃ W, W = w2.alloc (.cells #[.string ⟨#[115]⟩, .string ⟨#[116]⟩, .slice (some ad) 2 ct', .slice (some bd) 2 cf'] 25) := ⟨_, rfl⟩
  have hWb : Below w2.heap.size w2 W := by rw [hW]; exact (Below.refl _ _).alloc (Nat.le_refl _) _
  have hbx : Bx W w2.heap.size 25 [.string ⟨#[115]⟩, .string ⟨#[116]⟩, .slice (some ad) 2 ct', .slice (some bd) 2 cf'] := by rw [hW]; exact Bx.new _ _ _
  obtain ⟨ad', had, hx⟩ := row_str_at (HT.out.below hWb).2.2 (j := 0) (by decide)
  obtain rfl := Option.some.inj had
  obtain ⟨bd', hbd, hy0, hy⟩ := row_field_at (HF.out.below hWb).2.2 (j := 1) (by decide)
  obtain rfl := Option.some.inj hbd
  rw [← hW]
  have C1 := Lib.hid (CM.out W _ _ ct' cf' (HT.out.below hWb) (HF.out.below hWb))
  have c0 := hbx.cell 0
  have c1 := hbx.cell 1
  have c2 := hbx.cell 2
  have c3 := hbx.cell 3
  simp only [List.getElem?_cons_succ, List.getElem?_cons_zero] at c0 c1 c2 c3
  have HBW := Lib.hid (bthen HB.out hWb)
  clear hW hbx hWb had hbd HT HF HB CM HY HYB C0
  have hx1 : W.cell? ad = some (.string ⟨#[97, 58, 121]⟩) := by
    have h0 : ad.add 0 = ad := by simp [Addr.add]
    rw [h0] at hx
    exact hx
  have hy1 : W.cell? ⟨bd.block, bd.off + 2 + 1, none⟩ = some (.int .i64 3) := hy
  have hct1 : 2 ≤ ct' := hct
  have hcf1 : 2 ≤ cf' := hcf
  clear hx hy hct hcf hy0
  go_wp2_with (go_at_call 9; go_fit C1.out; rintro r w3 ⟨rfl, h3⟩; have HB3 := Lib.hid h3; clear h3)
  go_ret
  exact ⟨rfl, bthen HBW.out HB3.out⟩
end Go.Proofs.Ytfoghahidofegaa

namespace Go.Proofs.Ytfoghahidofegaa
open Go.RowKit

theorem toL4' {c : Array Value} {v u x y : Value} (h : c.toList = [v, u, x, y]) : c = #[v, u, x, y] := by cases c; simpa using h
theorem event_in4 {w : World} {e : Event} {c1 : Array Value} (he : kEvent.K (fun _ => True) w e c1.toList) : ∃ A ca B cb, c1 = #[.string e.stream, .string e.type, .slice A e.tags.length ca, .slice B e.fields.length cb] ∧
    Sl Kn.str (fun k => k < w.heap.size) w A ca e.tags ∧ Sl kField (fun k => k < w.heap.size) w B cb e.fields := by
  obtain ⟨A, ca, B, cb, h0, h1, h2⟩ := kEvent_out he
  exact ⟨A, ca, B, cb, toL4' h0, h1.bound.mono (fun _ h => h.2), h2.bound.mono (fun _ h => h.2)⟩
/-- An event in a box of the call's own (block b), its rows handed in. -/
structure A04 (w : World) (b : Nat) (e : Event) (T F : Option Addr) (ct cf : Nat) (X : World) : Prop where
  bx : Bx X b 25 [.string e.stream, .string e.type, .slice T e.tags.length ct, .slice F e.fields.length cf]
  ts : Sl Kn.str (fun k => k < w.heap.size) X T ct e.tags
  fs : Sl kField (fun k => k < w.heap.size) X F cf e.fields
  bb : w.heap.size ≤ b
section
variable {w : World} {b : Nat} {e : Event} {T F : Option Addr} {ct cf : Nat} {X X' : World}
theorem A04.below (h : A04 w b e T F ct cf X) (hb : Below X.heap.size X X') : A04 w b e T F ct cf X' := ⟨h.bx.under hb, h.ts.below hb, h.fs.below hb, h.bb⟩
theorem A04.far (h : A04 w b e T F ct cf X) {p : Addr} (hp : b ≠ p.block) (hw : w.heap.size ≤ p.block) (u : Value) : A04 w b e T F ct cf (X.setCell p u) :=
  ⟨h.bx.far hp u, h.ts.setCell (fun k hk => by omega) u, h.fs.setCell (fun k hk => by omega) u, h.bb⟩
theorem A04.c0 (h : A04 w b e T F ct cf X) : X.cell? ⟨b, 0, none⟩ = some (.string e.stream) := h.bx.cell 0
theorem A04.c1 (h : A04 w b e T F ct cf X) : X.cell? ⟨b, 1, none⟩ = some (.string e.type) := h.bx.cell 1
theorem A04.c2 (h : A04 w b e T F ct cf X) : X.cell? ⟨b, 2, none⟩ = some (.slice T e.tags.length ct) := h.bx.cell 2
theorem A04.c3 (h : A04 w b e T F ct cf X) : X.cell? ⟨b, 3, none⟩ = some (.slice F e.fields.length cf) := h.bx.cell 3
/-- What few brings is stored. -/
theorem A04.few (h : A04 w b e T F ct cf X) : A04 w b (few12 e) T F ct cf ((((X.setCell ⟨b, 0, none⟩ (.string (few12 e).stream)).setCell ⟨b, 1, none⟩ (.string (few12 e).type)).setCell ⟨b, 2, none⟩ (.slice T (few12 e).tags.length ct)).setCell ⟨b, 3, none⟩ (.slice F (few12 e).fields.length cf)) := by
  have hb := h.bb
  refine ⟨?_, ?_, ?_, h.bb⟩
  · exact (((h.bx.set 0 _).set 1 _).set 2 _).set 3 _
  · exact ((((h.ts.take 12).setCell (fun k hk => by simp; omega) _).setCell (fun k hk => by simp; omega) _).setCell (fun k hk => by simp; omega) _).setCell (fun k hk => by simp; omega) _
  · exact ((((h.fs.take 12).setCell (fun k hk => by simp; omega) _).setCell (fun k hk => by simp; omega) _).setCell (fun k hk => by simp; omega) _).setCell (fun k hk => by simp; omega) _
/-- Four cells of another box of the call's own are written. -/
theorem A04.far4 (h : A04 w b e T F ct cf X) {g : Nat} (hg : b ≠ g) (hw : w.heap.size ≤ g) (u0 u1 u2 u3 : Value) : A04 w b e T F ct cf ((((X.setCell ⟨g, 0, none⟩ u0).setCell ⟨g, 1, none⟩ u1).setCell ⟨g, 2, none⟩ u2).setCell ⟨g, 3, none⟩ u3) :=
  (((h.far (by exact hg) (by exact hw) u0).far (by exact hg) (by exact hw) u1).far (by exact hg) (by exact hw) u2).far (by exact hg) (by exact hw) u3
end
theorem below4 {w X : World} (h : Below w.heap.size w X) {g : Nat} (hw : w.heap.size ≤ g) (u0 u1 u2 u3 : Value) : Below w.heap.size w ((((X.setCell ⟨g, 0, none⟩ u0).setCell ⟨g, 1, none⟩ u1).setCell ⟨g, 2, none⟩ u2).setCell ⟨g, 3, none⟩ u3) :=
  (((h.setCell (by exact hw) u0).setCell (by exact hw) u1).setCell (by exact hw) u2).setCell (by exact hw) u3
theorem few12_tags (e : Event) : (few12 e).tags.length ≤ 12 := by simp [few12]; omega
theorem few12_fields (e : Event) : (few12 e).fields.length ≤ 12 := by simp [few12]; omega
theorem good_few12 (e : Event) (h : goodEvent e) : goodEvent (few12 e) := ⟨h.1, h.2.1, fun x hx => h.2.2.1 x (List.mem_of_mem_take hx), fun x hx => h.2.2.2 x (List.mem_of_mem_take hx)⟩
end Go.Proofs.Ytfoghahidofegaa

namespace Go.Proofs.Ytfoghahidofegaa
open Go.RowKit

structure E4 (b : Nat) (e : Event) (T F : Option Addr) (ct cf : Nat) (X : World) : Prop where
  bx : Bx X b 25 [.string e.stream, .string e.type, .slice T e.tags.length ct, .slice F e.fields.length cf]
  ts : SlS X T ct e.tags
  fs : SlF X F cf e.fields
section
variable {w : World} {b : Nat} {e : Event} {T F : Option Addr} {ct cf : Nat} {X X' : World}
theorem A04.e4 (h : A04 w b e T F ct cf X) : E4 b e T F ct cf X := ⟨h.bx, h.ts.any, h.fs.any⟩
theorem E4.below (h : E4 b e T F ct cf X) (hb : Below X.heap.size X X') : E4 b e T F ct cf X' := ⟨h.bx.under hb, h.ts.below hb, h.fs.below hb⟩
theorem E4.c0 (h : E4 b e T F ct cf X) : X.cell? ⟨b, 0, none⟩ = some (.string e.stream) := h.bx.cell 0
theorem E4.c1 (h : E4 b e T F ct cf X) : X.cell? ⟨b, 1, none⟩ = some (.string e.type) := h.bx.cell 1
theorem E4.c2 (h : E4 b e T F ct cf X) : X.cell? ⟨b, 2, none⟩ = some (.slice T e.tags.length ct) := h.bx.cell 2
theorem E4.c3 (h : E4 b e T F ct cf X) : X.cell? ⟨b, 3, none⟩ = some (.slice F e.fields.length cf) := h.bx.cell 3
end
theorem made4 {B : Nat} {a w : World} (h : Below B a w) (hB : B ≤ a.heap.size) (o : Obj) : Below B a (w.alloc o) := h.alloc (Nat.le_trans hB h.size) o
theorem grown4 {t : TypeId} {cs : List Value} {W w1 : World} {b : Nat} {v v1 : Value} (hx : Bx W b t cs) (hn : v.ownBlock ≠ some b) (hg : W.grownBy w1 v.ownBlock) (hat : v1.ownBlock = v.ownBlock ∨ v1.ownBlock = some W.heap.size) : Bx w1 b t cs ∧ v1.ownBlock ≠ some b := by
  refine ⟨hx.grown hg (fun e => hn e.symm), ?_⟩
  rcases hat with h | h
  · rw [h]; exact hn
  · rw [h]
    intro e
    injection e with e
    have := hx.lt
    omega
theorem lit4 {α : Type} {d : Kn α} {e : TypeId} {base : Nat} {ok : Nat → Prop} {W : World} {b : Nat} (h : W.heap[b]? = some (.cells #[] e (0, 0))) (hb : base ≤ b) : Own d e base ok W (.slice (some ⟨b, 0, none⟩) 0 0) [] :=
  ⟨[], ⟨by simp, .inr ⟨b, 0, #[], rfl, hb, h, by simp, by simp [maxLen], by simp, by simp⟩⟩, rfl, by simp, by simp, by simp⟩
theorem row4 {α : Type} {d : Kn α} {X W : World} {A : Option Addr} {xs : List α} {ok : Nat → Prop} (h : Row d ok X A xs) (hb : Below X.heap.size X W) : Row d (fun k => k < X.heap.size) W A xs := (h.bound.below hb).mono (fun _ h => h.2)
theorem old4 (X : World) (o o' : Obj) : ((X.alloc o).alloc o').heap[X.heap.size]? = some o := by
  have h := (Below.refl (X.alloc o).heap.size (X.alloc o)).alloc (Nat.le_refl _) o'
  exact (h.block X.heap.size (by simp)).trans (heap_alloc_new X o)
theorem new4 (X : World) (o o' : Obj) : ((X.alloc o).alloc o').heap[X.heap.size + 1]? = some o' := by
  have := heap_alloc_new (X.alloc o) o'
  rwa [show (X.alloc o).heap.size = X.heap.size + 1 by simp] at this
theorem slOwn4 {α : Type} {d : Kn α} {e : TypeId} {base : Nat} {ok : Nat → Prop} {w : World} {A : Option Addr} {n c : Nat} {xs : List α} (h : Own d e base ok w (.slice A n c) xs) : Sl d (fun _ => True) w A c xs := by
  obtain ⟨A', c', hv, hs⟩ := h.sl
  simp only [Value.slice.injEq] at hv
  obtain ⟨rfl, _, rfl⟩ := hv
  exact hs.any
/-- A row of texts cut at its begin, the address as a walk leaves it. -/
theorem cutS4 {ok : Nat → Prop} {w : World} {A : Option Addr} {xs : List ByteArray} (h : Row Kn.str ok w A xs) {k cap : Nat} (hc : xs.length ≤ cap) : Row Kn.str ok w (if cap = k then A else A.map (·.add k)) (xs.drop k) := by
  have h2 := Row.cut (k := k) h hc
  have e : k * Kn.str.sz = k := Nat.mul_one k
  rw [e] at h2
  exact h2
end Go.Proofs.Ytfoghahidofegaa

namespace Go.Proofs.Ytfoghahidofegaa
open Go.RowKit
section
variable {α : Type} {d : Kn α} {P : Program} {ops : Array Oper} {rest : List Oper} {o : Oper} {a : Act} {Q : Exit → Act → World → Prop}
/-- 'append(v, ys...)' at a step of a region that draws. -/
theorem step_spread {W : World} {K : Act → World → Prop} {E : Prop} (hgd : o.guard = none) (s x : Operand) (t : TypeId)
    (ho : o.op = .call { callee := .builtin .append, args := #[s, x], argTypes := #[t, t] })
    (e : TypeId) (z : Value) (size bytes : Nat) (ht : P.underlying t = some (.slice e)) (hinfo : (P.info? e).map (fun i => (i.zero, i.size, i.bytes)) = some (some z, size, bytes)) (hz : z.cells.size = size) (hs0 : 0 < size) (hb0 : 0 < bytes)
    (hd : d.sz = size) (base : Nat) (ok : Nat → Prop) (v : Value) (xs : List α) (hs : a.eval s = v) (hown : Own d e base ok W v xs) (ys : List α) (B : Option Addr) (c : Nat) (hk : Row d (fun k => ok k ∧ some k ≠ v.ownBlock) W B ys)
    (hx : a.eval x = .slice B ys.length c) (hbase : base ≤ W.heap.size) (hl : (xs.length + ys.length) * bytes ≤ 140737488355328)
    (h : ∀ v1 w1, Own d e base ok w1 v1 (xs ++ ys) → W.grownBy w1 v.ownBlock → (v1.ownBlock = v.ownBlock ∨ v1.ownBlock = some W.heap.size) → (∀ w0 : World, Below base w0 W → Below base w0 w1) → K (a.put o.dst v1) w1) :
    if Region.wanted o (yielded ops a.tmps) = true then Oper.wp P o a W K Q else E := by
  have hw : Region.wanted o (yielded ops a.tmps) = true := by simp [Region.wanted, hgd]
  rw [if_pos hw]
  obtain ⟨i0, hi, hzz⟩ := Option.map_eq_some_iff.1 hinfo
  simp only [Prod.mk.injEq] at hzz
  obtain ⟨hz0, hz1, hz2⟩ := hzz
  subst hd
  cases B with
  | none =>
    have hy : ys = [] := by
      cases ys with
      | nil => rfl
      | cons y ys =>
        obtain ⟨ad, e1, _⟩ := hk (by simp)
        cases e1
    subst hy
    have hown' := hown
    obtain ⟨css, h1, h2, h3, h4, h5⟩ := hown'
    have hrun := run_append_owned_none' (P := P) (w := W) base t o.type e i0 d.sz ht hi v xs.length c css.flatten h1
    unfold Oper.wp execOp
    simp only [ho, resolve, invoke, builtin, Sem.run_bind, Sem.run_pure, Result.andThen_ok, List.map_toArray, List.map_cons, List.map_nil, hs, hx, List.length_nil, hrun]
    exact (h v W (by simpa using hown) ⟨rfl, rfl, rfl, Nat.le_refl _, fun _ _ _ => rfl⟩ (.inl rfl) (fun _ hb => hb))
  | some ad =>
    have hlen : xs.length + ys.length ≤ 140737488355328 := Nat.le_trans (Nat.le_mul_of_pos_right _ hb0) hl
    obtain ⟨css', hl', hs', h1', hk', hn'⟩ := Row.flat hs0 hk
    have hfl : css'.flatten.length = ys.length * d.sz := by
      rw [← hl']
      clear hl' h1' hk' hn'
      induction css' with
      | nil => simp
      | cons c css ih => rw [List.flatten_cons, List.length_append, hs' c List.mem_cons_self, ih (fun c hc => hs' c (List.mem_cons_of_mem _ hc)), List.length_cons, Nat.add_mul]; omega
    obtain ⟨css, h1, h2, h3, h4, h5⟩ := hown
    obtain ⟨v1, w1, hr, hown', hg, _, hat⟩ := run_append_own_at (P := P) W base t o.type e i0 z d.sz bytes ht hi hz0 hz1 hz2 hz hs0 v xs.length css.flatten h1 ad ys.length c css'.flatten hfl hn'
      (fun u hu => by obtain ⟨c, hc, hu⟩ := List.mem_flatten.1 hu; exact h1' c hc u hu) (by simp only [maxLen]; omega) hl hbase
    unfold Oper.wp execOp
    simp only [ho, resolve, invoke, builtin, Sem.run_bind, Sem.run_pure, Result.andThen_ok, List.map_toArray, List.map_cons, List.map_nil, hs, hx, hr]
    refine h v1 w1 ?_ hg hat (fun w0 hb => ⟨hg.os.trans hb.os, hg.tape.trans hb.tape, hg.output.trans hb.output, Nat.le_trans hb.size hg.size, fun k hk => (hg.block k (by have := hb.size; omega) (fun e1 => by
      have := own_base h1 k e1.symm
      omega)).trans (hb.block k hk)⟩)
    refine Own.pushedN ⟨css, h1, h2, h3, h4, h5⟩ hl' hs' h1' hk' (fun css2 hcss2 => ?_) hg (hat.imp id (fun e1 => ⟨_, e1, Nat.le_refl _⟩))
    have : css2.flatten = css.flatten := by
      rcases h1.2 with ⟨_, hn⟩ | ⟨g, cap, cur, hv, _, hh, _, _, _, ht1⟩
      · have a1 := h1.1; have a2 := hcss2.1
        rw [hn, Nat.zero_mul] at a1 a2
        rw [List.eq_nil_of_length_eq_zero a1, List.eq_nil_of_length_eq_zero a2]
      · rcases hcss2.2 with ⟨hv', _⟩ | ⟨g', cap', cur', hv', _, hh', _, _, _, ht2⟩
        · rw [hv] at hv'; cases hv'
        · rw [hv] at hv'
          injection hv' with e1 e2 e3
          injection e1 with e1
          injection e1 with e1
          subst e1
          rw [hh] at hh'
          injection hh' with hh'
          injection hh' with e4
          subst e4
          rw [← ht1, ← ht2]
    rw [this]
    exact hown'

end
end Go.Proofs.Ytfoghahidofegaa

namespace Go.Proofs.Ytfoghahidofegaa
open Go.RowKit

theorem below_made {B : Nat} {a w : World} (h : Below B a w) (hB : B ≤ a.heap.size) (o : Obj) : Below B a (w.alloc o) := h.alloc (Nat.le_trans hB h.size) o
theorem box_grown {t : TypeId} {cs : List Value} {W w1 : World} {b : Nat} {v v1 : Value} (hx : Bx W b t cs) (hn : v.ownBlock ≠ some b) (hg : W.grownBy w1 v.ownBlock) (hat : v1.ownBlock = v.ownBlock ∨ v1.ownBlock = some W.heap.size) : Bx w1 b t cs ∧ v1.ownBlock ≠ some b := by
  refine ⟨hx.grown hg (fun e => hn e.symm), ?_⟩
  rcases hat with h | h
  · rw [h]; exact hn
  · rw [h]
    intro e
    injection e with e
    have := hx.lt
    omega
theorem Own.lit_at {α : Type} {d : Kn α} {e : TypeId} {base : Nat} {ok : Nat → Prop} {W : World} {b : Nat} (h : W.heap[b]? = some (.cells #[] e (0, 0))) (hb : base ≤ b) : Own d e base ok W (.slice (some ⟨b, 0, none⟩) 0 0) [] :=
  ⟨[], ⟨by simp, .inr ⟨b, 0, #[], rfl, hb, h, by simp, by simp [maxLen], by simp, by simp⟩⟩, rfl, by simp, by simp, by simp⟩
section
variable {α : Type} {d : Kn α} {P : Program} {ops : Array Oper} {rest : List Oper} {o : Oper} {a : Act} {Q : Exit → Act → World → Prop}
/-- The same, in any world that stands above X. -/
theorem step_spreadX {W : World} {K : Act → World → Prop} {E : Prop} (hgd : o.guard = none) (s x : Operand) (t : TypeId)
    (ho : o.op = .call { callee := .builtin .append, args := #[s, x], argTypes := #[t, t] })
    (e : TypeId) (z : Value) (size bytes : Nat) (ht : P.underlying t = some (.slice e)) (hinfo : (P.info? e).map (fun i => (i.zero, i.size, i.bytes)) = some (some z, size, bytes)) (hz : z.cells.size = size) (hs0 : 0 < size) (hb0 : 0 < bytes)
    (hd : d.sz = size) (X : World) (v : Value) (xs : List α) (hs : a.eval s = v) (hown : Own d e X.heap.size (fun k => k < X.heap.size) W v xs) (ys : List α) (B : Option Addr) (c : Nat) (hrow : ∀ W, Below X.heap.size X W → Row d (fun k => k < X.heap.size) W B ys)
    (R : Prop) (hB : Below X.heap.size X W ∧ R) (hx : a.eval x = .slice B ys.length c) (hl : (xs.length + ys.length) * bytes ≤ 140737488355328)
    (h : ∀ v1 w1, Own d e X.heap.size (fun k => k < X.heap.size) w1 v1 (xs ++ ys) → W.grownBy w1 v.ownBlock → (v1.ownBlock = v.ownBlock ∨ v1.ownBlock = some W.heap.size) → Below X.heap.size X w1 → K (a.put o.dst v1) w1) :
    if Region.wanted o (yielded ops a.tmps) = true then Oper.wp P o a W K Q else E :=
  step_spread hgd s x t ho e z size bytes ht hinfo hz hs0 hb0 hd X.heap.size _ v xs hs hown ys B c ((hrow W hB.1).mono (fun k hk => ⟨hk, fun e1 => by have := hown.base_le k e1.symm; omega⟩)) hx hB.1.size hl (fun v1 w1 h1 h2 h3 h4 => h v1 w1 h1 h2 h3 (h4 X hB.1))
theorem step_spreadXn {W : World} {K : Act → World → Prop} {E : Prop} (hgd : o.guard = none) (s x : Operand) (t : TypeId)
    (ho : o.op = .call { callee := .builtin .append, args := #[s, x], argTypes := #[t, t] })
    (e : TypeId) (z : Value) (size bytes : Nat) (ht : P.underlying t = some (.slice e)) (hinfo : (P.info? e).map (fun i => (i.zero, i.size, i.bytes)) = some (some z, size, bytes)) (hz : z.cells.size = size) (hs0 : 0 < size) (hb0 : 0 < bytes)
    (hd : d.sz = size) (X : World) (v : Value) (xs : List α) (hs : a.eval s = v) (hown : Own d e X.heap.size (fun k => k < X.heap.size) W v xs) (ys : List α) (B : Option Addr) (c : Nat) (hrow : ∀ W, Below X.heap.size X W → Row d (fun k => k < X.heap.size) W B ys)
    (R : Prop) (hB : Below X.heap.size X W ∧ R) (n : Nat) (hn : ys.length = n) (hx : a.eval x = .slice B n c) (hl : (xs.length + n) * bytes ≤ 140737488355328)
    (h : ∀ v1 w1, Own d e X.heap.size (fun k => k < X.heap.size) w1 v1 (xs ++ ys) → W.grownBy w1 v.ownBlock → (v1.ownBlock = v.ownBlock ∨ v1.ownBlock = some W.heap.size) → Below X.heap.size X w1 → K (a.put o.dst v1) w1) :
    if Region.wanted o (yielded ops a.tmps) = true then Oper.wp P o a W K Q else E :=
  step_spreadX hgd s x t ho e z size bytes ht hinfo hz hs0 hb0 hd X v xs hs hown ys B c hrow R hB (by rw [hn]; exact hx) (by rw [hn]; exact hl) h
/-- append(v, ys...) at a step of a region that draws, in any world above X; the elements hang on OK. -/
theorem step_spreadO {W : World} {K : Act → World → Prop} {E : Prop} (hgd : o.guard = none) (s x : Operand) (t : TypeId)
    (ho : o.op = .call { callee := .builtin .append, args := #[s, x], argTypes := #[t, t] })
    (e : TypeId) (z : Value) (size bytes : Nat) (ht : P.underlying t = some (.slice e)) (hinfo : (P.info? e).map (fun i => (i.zero, i.size, i.bytes)) = some (some z, size, bytes)) (hz : z.cells.size = size) (hs0 : 0 < size) (hb0 : 0 < bytes)
    (hd : d.sz = size) (X : World) (OK : Nat → Prop) (hOK : ∀ k, OK k → k < X.heap.size) (v : Value) (xs : List α) (hs : a.eval s = v) (hown : Own d e X.heap.size OK W v xs) (ys : List α) (B : Option Addr) (c : Nat) (hrow : ∀ W, Below X.heap.size X W → Row d OK W B ys)
    (R : Prop) (hB : Below X.heap.size X W ∧ R) (n : Nat) (hn : ys.length = n) (hx : a.eval x = .slice B n c) (hl : (xs.length + n) * bytes ≤ 140737488355328)
    (h : ∀ v1 w1, Own d e X.heap.size OK w1 v1 (xs ++ ys) → W.grownBy w1 v.ownBlock → (v1.ownBlock = v.ownBlock ∨ v1.ownBlock = some W.heap.size) → Below X.heap.size X w1 → K (a.put o.dst v1) w1) :
    if Region.wanted o (yielded ops a.tmps) = true then Oper.wp P o a W K Q else E := by
  subst hn
  exact step_spread hgd s x t ho e z size bytes ht hinfo hz hs0 hb0 hd X.heap.size _ v xs hs hown ys B c ((hrow W hB.1).mono (fun k hk => ⟨hk, fun e1 => by have := hown.base_le k e1.symm; have := hOK k hk; omega⟩)) hx hB.1.size hl (fun v1 w1 h1 h2 h3 h4 => h v1 w1 h1 h2 h3 (h4 X hB.1))
/-- append(v, y), y's row made in block er at some earlier step. -/
theorem step_pushO {W : World} {K : Act → World → Prop} {E : Prop} (hgd : o.guard = none) (s x : Operand) (t : TypeId)
    (ho : o.op = .call { callee := .builtin .append, args := #[s, x], argTypes := #[t, t] })
    (e : TypeId) (z : Value) (size bytes : Nat) (ht : P.underlying t = some (.slice e)) (hinfo : (P.info? e).map (fun i => (i.zero, i.size, i.bytes)) = some (some z, size, bytes)) (hz : z.cells.size = size) (hs0 : 0 < size) (hb0 : 0 < bytes)
    (hd : d.sz = size) (X : World) (OK : Nat → Prop) (hOK : ∀ k, OK k → k < X.heap.size) (v : Value) (xs : List α) (hs : a.eval s = v) (hown : Own d e X.heap.size OK W v xs) (y : α) (cs : List Value) (er : Nat) (hbx : Bx W er e cs) (hne : some er ≠ v.ownBlock) (hk : d.K OK W y cs)
    (R : Prop) (hB : Below X.heap.size X W ∧ R) (hx : a.eval x = .slice (some ⟨er, 0, none⟩) 1 1) (hl : (xs.length + 1) * bytes ≤ 140737488355328)
    (h : ∀ v1 w1, Own d e X.heap.size (fun k => OK k ∨ k = er) w1 v1 (xs ++ [y]) → Below X.heap.size X w1 → K (a.put o.dst v1) w1) :
    if Region.wanted o (yielded ops a.tmps) = true then Oper.wp P o a W K Q else E := by
  refine step_spread hgd s x t ho e z size bytes ht hinfo hz hs0 hb0 hd X.heap.size (fun k => OK k ∨ k = er) v xs hs (hown.mono (fun _ h => .inl h)) [y] (some ⟨er, 0, none⟩) 1 (fun _ => ⟨⟨er, 0, none⟩, rfl, ⟨.inr rfl, hne⟩, hbx.lt, fun j x hj => ?_⟩) hx hB.1.size hl (fun v1 w1 h1 h2 h3 h4 => h v1 w1 h1 (h4 X hB.1))
  match j, hj with
  | 0, hj =>
    simp at hj
    subst hj
    refine ⟨cs, d.len hk, d.mono (fun k h => ⟨.inl h, fun e1 => by have := hown.base_le k e1.symm; have := hOK k h; omega⟩) hk, fun i u hu => ?_⟩
    have h1 := hbx.cell i
    rw [hu] at h1
    rw [Nat.zero_mul, Nat.zero_add]
    cases i with
    | zero => simpa [Addr.add] using h1
    | succ i => simpa [Addr.add] using h1
end
theorem rowX {α : Type} {d : Kn α} {X W : World} {A : Option Addr} {xs : List α} {ok : Nat → Prop} (h : Row d ok X A xs) (hk : ∀ k, ok k → k < X.heap.size) (hb : Below X.heap.size X W) : Row d (fun k => k < X.heap.size) W A xs := (h.below hb).mono hk
theorem two_old (X : World) (o o' : Obj) : ((X.alloc o).alloc o').heap[X.heap.size]? = some o := by
  have h := (Below.refl (X.alloc o).heap.size (X.alloc o)).alloc (Nat.le_refl _) o'
  exact (h.block X.heap.size (by simp)).trans (heap_alloc_new X o)
theorem own_slC {α : Type} {d : Kn α} {e : TypeId} {base : Nat} {ok : Nat → Prop} {w : World} {A : Option Addr} {n c : Nat} {xs : List α} (h : Own d e base ok w (.slice A n c) xs) : Sl d (fun _ => True) w A c xs := by
  obtain ⟨A', c', hv, hs⟩ := h.sl
  simp only [Value.slice.injEq] at hv
  obtain ⟨rfl, _, rfl⟩ := hv
  exact hs.any
end Go.Proofs.Ytfoghahidofegaa
