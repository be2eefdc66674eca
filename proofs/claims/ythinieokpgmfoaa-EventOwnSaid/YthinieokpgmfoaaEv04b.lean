/- event.not, May: what they come to (walks). -/
import Derived.Test.YthinieokpgmfoaaEv04a
import Derived.Deep.RegionHeld3
set_option linter.unusedVariables false
set_option linter.unusedSimpArgs false
namespace Go.Proofs.Ythinieokpgmfoaa
open Go.RowKit

def PredF1 (g : Nat) (lb : Array Value) (p : ByteArray × Int → Bool) (w : World) (x : ByteArray × Int) : Prop := ∀ (W : World), Below w.heap.size w W →
  Calls Try.prog g (#[.agg #[.string x.1, .int .i64 x.2]] ++ lb) W fun e w' => e = .returned (.bool (p x)) ∧ Below W.heap.size W w'

set_option maxHeartbeats 400000 in
theorem indexFuncF_in {A : Option Addr} {c : Nat} {xs : List (ByteArray × Int)} {w : World} (h : SlF w A c xs) (g : Nat) (lb : Array Value) (p : ByteArray × Int → Bool) (eg : ∀ (args : Array Value) (W : World), (callFunc g args).run Try.prog W = .ok (.enter g args) W) (hp : ∀ x ∈ xs, PredF1 g lb p w x) :
    Calls Try.prog 78 #[.slice A xs.length c, .func (.func g) #[] lb] w fun e w' => ∃ i : Int, e = .returned (.int .i64 i) ∧ Below w.heap.size w w' ∧ -1 ≤ i ∧ decide (0 ≤ i) = xs.any p := by
  obtain ⟨h1, h2, h3⟩ := h
  unfold maxLen at h2
  have HP := Lib.hid hp
  clear hp
  go_enter Try.func78, Try.ntmps78
  go_wp2
  go_loopw [8] (fun i wr => ∃ k : Nat, k ≤ xs.length ∧ i = .int .i64 k ∧ Hid ((xs.take k).any p = false) ∧ Below w.heap.size w wr) (fun i _ => xs.length - (intOf i).toNat)
  case atStart => exact ⟨0, Nat.zero_le _, rfl, by exact rfl, Below.refl _ _⟩
  case round =>
    obtain ⟨k, hk, rfl, hn, hb⟩ := hrel
    by_cases hlt : k < xs.length
    · obtain ⟨ad, rfl, hx, hy⟩ := row_field_at (h3.below hb) hlt
      have hmem := List.getElem_mem hlt
      generalize hye : xs[k] = y at hx hy hmem
      have HM := Lib.hid hmem
      clear hmem
      have HY := Lib.hid hye
      clear hye
      go_wp2_with fail
      refine (HP.out y HM.out wr hb).mono ?_
      rintro e w1 ⟨rfl, hb1⟩
      cases hpy : p y
      · go_wp2
        go_roundw
        case rel => exact ⟨k + 1, by omega, by go_num, by show _ = false; rw [any_take_succ _ _ _ hlt, hn.out, HY.out, hpy]; rfl, bthen hb hb1⟩
        case measure => simp [intOf]; omega
      · go_wp2
        go_ret
        exact ⟨k, rfl, bthen hb hb1, by omega, by rw [any_of_at hlt (by rw [HY.out]; exact hpy)]; simp⟩
    · go_wp2
      go_ret
      obtain rfl : k = xs.length := by omega
      have h4 : (xs.take xs.length).any p = false := hn.out
      rw [List.take_length] at h4
      exact ⟨-1, rfl, hb, by omega, by rw [h4]; rfl⟩

theorem containsFuncF_in {A : Option Addr} {c : Nat} {xs : List (ByteArray × Int)} {w : World} (h : SlF w A c xs) (g : Nat) (lb : Array Value) (p : ByteArray × Int → Bool) (eg : ∀ (args : Array Value) (W : World), (callFunc g args).run Try.prog W = .ok (.enter g args) W) (hp : ∀ x ∈ xs, PredF1 g lb p w x) :
    Calls Try.prog 56 #[.slice A xs.length c, .func (.func g) #[] lb] w fun e w' => e = .returned (.bool (xs.any p)) ∧ Below w.heap.size w w' := by
  have H := Lib.hid (indexFuncF_in h g lb p eg hp)
  clear hp
  go_enter Try.func56, Try.ntmps56
  go_wp2_with fail
  refine H.out.mono ?_
  rintro e w' ⟨i, rfl, hb, h1, h2⟩
  have H2 := Lib.hid h2
  clear h2
  go_wp2
  go_ret
  exact ⟨ret_bool H2.out, hb⟩


theorem not_any (f : Nat) (w : World) : Calls Try.prog 53 #[.func (.func f) #[] #[]] w fun e w' => ∃ b, e = .returned (.func (.func 76) #[] #[.pointer (some ⟨b, 0, none⟩)]) ∧ w'.cell? ⟨b, 0, none⟩ = some (.func (.func f) #[] #[]) ∧ b < w'.heap.size ∧ Below w.heap.size w w' := by
  have HB := Lib.hid (fun o => (Below.refl w.heap.size w).alloc (Nat.le_refl _) o)
  have HX := Lib.hid (Bx.new w 52 [.func (.func f) #[] #[]])
  go_enter Try.func53, Try.ntmps53
  go_wp2
  go_ret
  exact ⟨w.heap.size, rfl, HX.out.c0, HX.out.lt, HB.out _⟩
theorem not1_any {f : Nat} {b : Bool} {s : ByteArray} {k : Nat} {w : World} (hk : w.cell? ⟨k, 0, none⟩ = some (.func (.func f) #[] #[])) (ef : ∀ (args : Array Value) (W : World), (callFunc f args).run Try.prog W = .ok (.enter f args) W) (hf : Calls Try.prog f #[.string s] w fun e w' => e = .returned (.bool b) ∧ Below w.heap.size w w') :
    Calls Try.prog 76 #[.string s, .pointer (some ⟨k, 0, none⟩)] w fun e w' => e = .returned (.bool (!b)) ∧ Below w.heap.size w w' := by
  have HF := Lib.hid hf
  clear hf
  go_enter Try.func76, Try.ntmps76
  go_wp2_with fail
  refine HF.out.mono ?_
  rintro e w1 ⟨rfl, hb⟩
  go_wp2
  go_ret
  exact ⟨rfl, hb⟩
/-- A number of a field that is too great. -/
def overF (x : ByteArray × Int) : Bool := decide (x.2 < -1099511627776) || decide (1099511627776 < x.2)
theorem over_any (x : ByteArray × Int) (w : World) : Calls Try.prog 51 #[.agg #[.string x.1, .int .i64 x.2]] w fun e w' => e = .returned (.bool (overF x)) ∧ Below w.heap.size w w' := by
  have HB := Lib.hid (fun o => (Below.refl w.heap.size w).alloc (Nat.le_refl _) o)
  obtain ⟨s, n⟩ := x
  unfold overF
  simp only
  by_cases h1 : n < -1099511627776
  · rw [decide_eq_true h1]
    go_enter Try.func51, Try.ntmps51
    go_wp2
    go_ret
    exact ⟨rfl, HB.out _⟩
  · rw [decide_eq_false h1]
    by_cases h2 : 1099511627776 < n
    · rw [decide_eq_true h2]
      go_enter Try.func51, Try.ntmps51
      go_wp2
      go_ret
      exact ⟨by first | (simp; done) | (simp; omega), HB.out _⟩
    · rw [decide_eq_false h2]
      go_enter Try.func51, Try.ntmps51
      go_wp2
      go_ret
      exact ⟨by first | (simp; done) | (simp; omega), HB.out _⟩
theorem noTag_any {W : World} {T : Option Addr} {ct : Nat} {l : List ByteArray} (hT : SlS W T ct l) (hg : ∀ s ∈ l, s.size ≤ maxLen) {b : Nat} (hb : W.cell? ⟨b, 0, none⟩ = some (.func (.func 54) #[] #[])) (hbl : b < W.heap.size) :
    Calls Try.prog 37 #[.slice T l.length ct, .func (.func 76) #[] #[.pointer (some ⟨b, 0, none⟩)]] W fun e w' => e = .returned (.bool (l.any fun s => !tagN s)) ∧ Below W.heap.size W w' :=
  containsFuncS_in hT 76 #[.pointer (some ⟨b, 0, none⟩)] (fun s => !tagN s) (fun args W => enters_of Try.func76 (by kernel_rfl) rfl args W) (fun s hs W' hW => not1_any ((hW.cell (p := ⟨b, 0, none⟩) hbl).trans hb) (fun args W => enters_of Try.func54 (by kernel_rfl) rfl args W) (mayTag_any s (hg s hs) W'))
theorem noName_any {W : World} {T : Option Addr} {ct : Nat} {l : List ByteArray} (hT : SlS W T ct l) {b : Nat} (hb : W.cell? ⟨b, 0, none⟩ = some (.func (.func 52) #[] #[])) (hbl : b < W.heap.size) :
    Calls Try.prog 37 #[.slice T l.length ct, .func (.func 76) #[] #[.pointer (some ⟨b, 0, none⟩)]] W fun e w' => e = .returned (.bool (l.any fun s => !mayN s)) ∧ Below W.heap.size W w' :=
  containsFuncS_in hT 76 #[.pointer (some ⟨b, 0, none⟩)] (fun s => !mayN s) (fun args W => enters_of Try.func76 (by kernel_rfl) rfl args W) (fun s hs W' hW => not1_any ((hW.cell (p := ⟨b, 0, none⟩) hbl).trans hb) (fun args W => enters_of Try.func52 (by kernel_rfl) rfl args W) (nameMay_any s W'))
theorem overs_any {W : World} {F : Option Addr} {cf : Nat} {l : List (ByteArray × Int)} (hF : SlF W F cf l) :
    Calls Try.prog 56 #[.slice F l.length cf, .func (.func 51) #[] #[]] W fun e w' => e = .returned (.bool (l.any overF)) ∧ Below W.heap.size W w' :=
  containsFuncF_in hF 51 #[] overF (fun args W => enters_of Try.func51 (by kernel_rfl) rfl args W) (fun x hx W' hW => over_any x W')
/-- What is wrong with an event. -/
def mayE (e : Event) : Int :=
  if (!mayN e.stream || !mayN e.type) then 5 else if (decide (6 < e.tags.length) || decide (4 < e.fields.length)) then 3
  else if (e.tags.any (fun s => !tagN s) || (fnames e.fields).any (fun s => !mayN s)) then 5
  else if (!riseN e.tags || !riseN (fnames e.fields) || e.fields.any overF) then 1 else 0

set_option maxHeartbeats 4000000 in
set_option maxRecDepth 100000 in
theorem mayE_any {w : World} {e : Event} {T F : Option Addr} {ct cf : Nat} (hT : SlS w T ct e.tags) (hF : SlF w F cf e.fields) (hl : e.fields.length ≤ 1000000) (hg : ∀ s ∈ e.tags, s.size ≤ maxLen) :
    Calls Try.prog 23 #[vEvent e T ct F cf] w fun r w' => r = .returned (.int .i64 (mayE e)) ∧ Below w.heap.size w w' := by
  obtain ⟨W1, hW1⟩ : ∃ W1, W1 = w.alloc (.cells #[.string e.stream, .string e.type, .slice T e.tags.length ct, .slice F e.fields.length cf] 28) := ⟨_, rfl⟩
  have HW := Lib.hid hW1
  have hB : Below w.heap.size w W1 := by rw [hW1]; exact (Below.refl _ _).alloc (Nat.le_refl _) _
  have hx1 : Bx W1 w.heap.size 28 [.string e.stream, .string e.type, .slice T e.tags.length ct, .slice F e.fields.length cf] := by rw [hW1]; exact Bx.new w _ _
  have HT := Lib.hid (hT.below hB)
  have HF := Lib.hid (hF.below hB)
  have HX := Lib.hid hx1
  have HBl := Lib.hid hB
  have HG := Lib.hid hg
  have CN := Lib.hid (names_any (hF.below hB) hl)
  have c3 := hx1.cell 3
  simp only [List.getElem?_cons_succ, List.getElem?_cons_zero] at c3
  have hnl : (fnames e.fields).length = e.fields.length := by simp [fnames]
  have HNL := Lib.hid hnl
  clear hB hx1 hW1 hT hF hg hnl
  obtain ⟨R, hR⟩ : ∃ R, mayE e = R := ⟨_, rfl⟩
  have HR := Lib.hid hR
  rw [hR]
  clear hR
  go_enter Try.func23, Try.ntmps23
  go_upto_region 1 with fail
  rw [← HW.out]
  clear HW
  go_upto_region 3 with (go_at_call 50; go_fit CN.out; rintro r w2 ⟨N, cn, rfl, hn2, hb2⟩; have HN := Lib.hid hn2; have HB2 := Lib.hid hb2; clear hn2 hb2)
  clear c3 CN
  have HX2 := Lib.hid (HX.out.under HB2.out)
  have HT2 := Lib.hid (HT.out.below HB2.out)
  have HF2 := Lib.hid (HF.out.below HB2.out)
  have HB02 := Lib.hid (bthen HBl.out HB2.out)
  clear HX HT HF HBl HB2
  obtain ⟨X, hX⟩ : ∃ X, X = w2 := ⟨_, rfl⟩
  subst hX
  have HK := Lib.hid (fun W (hb : Below X.heap.size X W) => show W.cell? ⟨w.heap.size, 0, none⟩ = some (.string e.stream) ∧ W.cell? ⟨w.heap.size, 1, none⟩ = some (.string e.type) ∧ W.cell? ⟨w.heap.size, 2, none⟩ = some (.slice T e.tags.length ct) ∧ W.cell? ⟨w.heap.size, 3, none⟩ = some (.slice F e.fields.length cf) from
    ⟨(HX2.out.under hb).cell 0, (HX2.out.under hb).cell 1, (HX2.out.under hb).cell 2, (HX2.out.under hb).cell 3⟩)
  obtain ⟨k0, k1, k2, k3⟩ := HK.out X (Below.refl _ _)
  have C1 := Lib.hid (fun W => nameMay_any e.stream W)
  have C2 := Lib.hid (fun W => nameMay_any e.type W)
  unfold mayE at HR
  generalize mayN e.stream = m1 at C1 HR
  generalize mayN e.type = m2 at C2 HR
  go_cut [8] (fun v wx => v = .bool (!m1 || !m2) ∧ Below X.heap.size X wx)
  case first =>
    rcases m1 with _ | _ <;> rcases m2 with _ | _
    all_goals
      go_wp2_with (first
        | (go_at_call 52; go_fit (C2.out _); rintro r w4 ⟨rfl, hb4⟩)
        | (go_at_call 52; go_fit (C1.out _); rintro r w3 ⟨rfl, hb3⟩; have HB3 := Lib.hid hb3; obtain ⟨_, k11, _, _⟩ := HK.out _ hb3; clear hb3))
      go_meet
      first
        | exact ⟨rfl, bthen HB3.out hb4⟩
        | exact ⟨rfl, HB3.out⟩
  case rest =>
    obtain ⟨rfl, hbc⟩ := hcut
    have HBC := Lib.hid hbc
    clear hbc k0 k1 k2 k3 C1 C2
    obtain ⟨k0, k1, k2, k3⟩ := HK.out _ HBC.out
    generalize (!m1 || !m2) = m at HR
    rcases m with _ | _
    rotate_left
    · have HT := Lib.hid (show R = 5 by rw [← HR.out]; rfl)
      clear HR
      go_wp2_with fail
      go_ret
      exact ⟨by rw [HT.out]; rfl, bthen HB02.out HBC.out⟩
    have HR2 := Lib.hid (show (if (decide (6 < e.tags.length) || decide (4 < e.fields.length)) = true then (3 : Int) else if (e.tags.any (fun s => !tagN s) || (fnames e.fields).any (fun s => !mayN s)) = true then 5
      else if (!riseN e.tags || !riseN (fnames e.fields) || e.fields.any overF) = true then 1 else 0) = R by have := HR.out; rwa [if_neg (by decide)] at this)
    clear HR
    by_cases h6 : 6 < e.tags.length
    · have HT := Lib.hid (show R = 3 by rw [← HR2.out, decide_eq_true h6]; rfl)
      clear HR2
      go_wp2_with fail
      go_ret
      exact ⟨by rw [HT.out]; rfl, bthen HB02.out HBC.out⟩
    by_cases h4 : 4 < e.fields.length
    · have HT := Lib.hid (show R = 3 by rw [← HR2.out, decide_eq_true h4, Bool.or_true]; rfl)
      clear HR2
      go_wp2_with fail
      go_ret
      exact ⟨by rw [HT.out]; rfl, bthen HB02.out HBC.out⟩
    have HR3 := Lib.hid (show (if (e.tags.any (fun s => !tagN s) || (fnames e.fields).any (fun s => !mayN s)) = true then (5 : Int)
      else if (!riseN e.tags || !riseN (fnames e.fields) || e.fields.any overF) = true then 1 else 0) = R by have := HR2.out; rwa [decide_eq_false h6, decide_eq_false h4, if_neg (by decide)] at this)
    clear HR2
    have CT := Lib.hid (fun W (b : Nat) (hc : W.cell? ⟨b, 0, none⟩ = some (.func (.func 54) #[] #[])) (hl : b < W.heap.size) (R : Prop) (hb : Below X.heap.size X W ∧ R) => noTag_any (HT2.out.below hb.1) HG.out hc hl)
    have CM := Lib.hid (fun W (b : Nat) (hc : W.cell? ⟨b, 0, none⟩ = some (.func (.func 52) #[] #[])) (hl : b < W.heap.size) (R : Prop) (hb : Below X.heap.size X W ∧ R) => noName_any (HN.out.below hb.1) hc hl)
    rw [HNL.out] at CM
    have CO := Lib.hid (fun f W => not_any f W)
    have HK2 := Lib.hid (fun W (hb : Below X.heap.size X W) => show Below X.heap.size X W ∧ W.cell? ⟨w.heap.size, 2, none⟩ = some (.slice T e.tags.length ct) from ⟨hb, (HK.out W hb).2.2.1⟩)
    generalize (e.tags.any fun s => !tagN s) = t1 at CT HR3
    generalize ((fnames e.fields).any fun s => !mayN s) = t2 at CM HR3
    go_upto_region 7 with fail
    go_cut [29] (fun v wx => v = .bool (t1 || t2) ∧ Below X.heap.size X wx)
    case first =>
      rcases t1 with _ | _
      · clear k0 k1 k2 k3
        go_region_held3 (fun W => Below X.heap.size X W ∧ W.cell? ⟨w.heap.size, 2, none⟩ = some (.slice T e.tags.length ct))
          (first | assumption | exact HK2.out _ (below_drawn HBC.out) | exact HK2.out _ (bthen (And.left (by assumption : Below X.heap.size X _ ∧ _)) (by assumption)))
          (first
          | (go_at_call 37; refine (CT.out _ _ HC1.out HL1.out _ (by assumption)).mono ?_; rintro r w' ⟨rfl, hb⟩)
          | (go_at_call 37; refine (CM.out _ _ HC1.out HL1.out _ (by assumption)).mono ?_; rintro r w' ⟨rfl, hb⟩)
          | (go_at_call 53; refine (CO.out _ _).mono ?_; rintro r w' ⟨b1, rfl, hc1, hl1, hb⟩; have HC1 := Lib.hid hc1; have HL1 := Lib.hid hl1; clear hc1 hl1))
        all_goals go_wp2_with fail
        all_goals go_meet
        all_goals exact ⟨by simp, And.left (by assumption : Below X.heap.size X _ ∧ _)⟩
      · clear k0 k1 k2 k3
        refine wp_region_held_drew (S := (fun W => Below X.heap.size X W ∧ W.cell? ⟨w.heap.size, 2, none⟩ = some (.slice T e.tags.length ct))) (by kernel_rfl) (by first | assumption | exact HK2.out _ (below_drawn HBC.out)) (fun hHeld => ?_)
        refine wpAnyH_take (i := 0) (v := .pointer (some ⟨w.heap.size, 2, none⟩)) rfl (by kernel_rfl) (by kernel_rfl) (by kernel_rfl) (fun _ _ _ h => h) (Or.inl ⟨by rfl, ?_⟩) (by assumption) ?_
        · intro w hSw
          (try dsimp only at hSw)
          go_simp
        (try simp only [Act.put, List.setIfInBounds_toArray, List.set_cons_zero, List.set_cons_succ])
        refine wpAnyH_take (i := 1) (v := .slice T e.tags.length ct) rfl (by kernel_rfl) (by kernel_rfl) (by kernel_rfl) (fun _ _ _ h => h) (Or.inl ⟨by rfl, ?_⟩) (by assumption) ?_
        · intro w hSw
          (try dsimp only at hSw)
          go_simp
        (try simp only [Act.put, List.setIfInBounds_toArray, List.set_cons_zero, List.set_cons_succ])
        refine wpAnyH_ready (rs := [2]) (by kernel_rfl) (by simp) ?_
        refine AllReadyH.cons rfl (fun K hK => ?_) AllReadyH.nil
        go_simp
        go_at_call 53
        refine (CO.out _ _).mono ?_
        rintro r w5 ⟨b1, rfl, hc1, hl1, hb⟩
        (try go_wp2_with fail)
        refine hK.out _ _ (by first | assumption | exact HK2.out _ (below_drawn HBC.out) | exact HK2.out _ (bthen (And.left (by assumption : Below X.heap.size X _ ∧ _)) (by assumption))) (fun hHeld => ?_)
        clear hK K
        (try simp only [Act.put, List.setIfInBounds_toArray, List.set_cons_zero, List.set_cons_succ])
        refine wpAnyH_ready (rs := [3]) (by kernel_rfl) (by simp) ?_
        refine AllReadyH.cons rfl (fun K hK => ?_) AllReadyH.nil
        go_simp
        go_at_call 37
        refine (CT.out _ _ hc1 hl1 _ (by assumption)).mono ?_
        rintro r w6 ⟨rfl, hb6⟩
        (try go_wp2_with fail)
        refine hK.out _ _ (by first | assumption | exact HK2.out _ (below_drawn HBC.out) | exact HK2.out _ (bthen (And.left (by assumption : Below X.heap.size X _ ∧ _)) (by assumption))) (fun hHeld => ?_)
        clear hK K
        (try simp only [Act.put, List.setIfInBounds_toArray, List.set_cons_zero, List.set_cons_succ])
        refine wpAnyH_take (i := 4) (v := .bool true) rfl (by kernel_rfl) (by kernel_rfl) (by kernel_rfl) (fun _ _ _ h => h) (Or.inl ⟨by rfl, ?_⟩) (by assumption) ?_
        · intro w hSw
          (try dsimp only at hSw)
          go_simp
        (try simp only [Act.put, List.setIfInBounds_toArray, List.set_cons_zero, List.set_cons_succ])
        refine wpAnyH_take (i := 5) (v := undef) rfl (by kernel_rfl) (by kernel_rfl) (by kernel_rfl) (fun _ _ _ h => h) (Or.inr ⟨by rfl, rfl⟩) (by assumption) ?_
        (try simp only [Act.put, List.setIfInBounds_toArray, List.set_cons_zero, List.set_cons_succ])
        refine wpAnyH_take (i := 6) (v := undef) rfl (by kernel_rfl) (by kernel_rfl) (by kernel_rfl) (fun _ _ _ h => h) (Or.inr ⟨by rfl, rfl⟩) (by assumption) ?_
        (try simp only [Act.put, List.setIfInBounds_toArray, List.set_cons_zero, List.set_cons_succ])
        refine wpAnyH_take (i := 7) (v := undef) rfl (by kernel_rfl) (by kernel_rfl) (by kernel_rfl) (fun _ _ _ h => h) (Or.inr ⟨by rfl, rfl⟩) (by assumption) ?_
        (try simp only [Act.put, List.setIfInBounds_toArray, List.set_cons_zero, List.set_cons_succ])
        refine wpAnyH_take (i := 8) (v := .bool true) rfl (by kernel_rfl) (by kernel_rfl) (by kernel_rfl) (fun _ _ _ h => h) (Or.inl ⟨by rfl, ?_⟩) (by assumption) ?_
        · intro w hSw
          (try dsimp only at hSw)
          go_simp
        (try simp only [Act.put, List.setIfInBounds_toArray, List.set_cons_zero, List.set_cons_succ])
        refine wpAnyH_take (i := 9) (v := .bool true) rfl (by kernel_rfl) (by kernel_rfl) (by kernel_rfl) (fun _ _ _ h => h) (Or.inl ⟨by rfl, ?_⟩) (by assumption) ?_
        · intro w hSw
          (try dsimp only at hSw)
          go_simp
        (try simp only [Act.put, List.setIfInBounds_toArray, List.set_cons_zero, List.set_cons_succ])
        refine wpAnyH_done (by kernel_rfl) ?_ _
        simp only [List.getElem_toArray, List.getElem_cons_succ, List.getElem_cons_zero, Act.put, List.setIfInBounds_toArray, List.set_cons_zero, List.set_cons_succ]
        all_goals go_wp2_with fail
        all_goals go_meet
        all_goals exact ⟨rfl, And.left (by assumption : Below X.heap.size X _ ∧ _)⟩
    case rest =>
      obtain ⟨rfl, hbd⟩ := hcut
      have HBD := Lib.hid hbd
      clear hbd k0 k1 k2 k3 CT CM CO HK2
      obtain ⟨k0, k1, k2, k3⟩ := HK.out _ HBD.out
      have HB3 := Lib.hid (bthen HB02.out HBD.out)
      generalize (t1 || t2) = t at HR3
      rcases t with _ | _
      rotate_left
      · have HT := Lib.hid (show R = 5 by rw [← HR3.out]; rfl)
        clear HR3
        go_wp2_with fail
        go_ret
        exact ⟨by rw [HT.out]; rfl, HB3.out⟩
      have HR4 := Lib.hid (show (if (!riseN e.tags || !riseN (fnames e.fields) || e.fields.any overF) = true then (1 : Int) else 0) = R by have := HR3.out; rwa [if_neg (by decide)] at this)
      clear HR3
      have D1 := Lib.hid (riseE_any (HT2.out.below HBD.out))
      have D2 := Lib.hid (riseE_any (HN.out.below HBD.out))
      rw [HNL.out] at D2
      have D3 := Lib.hid (overs_any (HF2.out.below HBD.out))
      clear HX2 HK HG
      generalize riseN e.tags = r1 at D1 HR4
      generalize riseN (fnames e.fields) = r2 at D2 HR4
      generalize e.fields.any overF = o at D3 HR4
      rcases r1 with _ | _ <;> rcases r2 with _ | _ <;> rcases o with _ | _
      all_goals
        first
          | (have HT := Lib.hid (show R = 1 by rw [← HR4.out]; rfl))
          | (have HT := Lib.hid (show R = 0 by rw [← HR4.out]; rfl))
        clear HR4
        go_wp2_with (first
          | (go_at_call 55; go_fit D1.out; rintro r w6 ⟨rfl, rfl⟩)
          | (go_at_call 55; go_fit D2.out; rintro r w7 ⟨rfl, rfl⟩)
          | (go_at_call 56; go_fit D3.out; rintro r w8 ⟨rfl, hb8⟩; have HB8 := Lib.hid hb8; clear hb8))
        go_ret
        first
          | exact ⟨by rw [HT.out]; rfl, bthen HB3.out HB8.out⟩
          | exact ⟨by rw [HT.out]; rfl, HB3.out⟩
end Go.Proofs.Ythinieokpgmfoaa
