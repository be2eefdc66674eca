/- QueryAll: the law's walk. -/
import Derived.Test.YtohhapceeohhdaaHead06
set_option linter.unusedVariables false
set_option linter.unusedSimpArgs false
namespace Go.Proofs.Ytohhapceeohhdaa
open Go.RowKit

/-- The world of the law's last statement. -/
abbrev allW (w2 : World) (A2 : Option Addr) (n c2 : Nat) (s : ByteArray) : World :=
  ((((((w2.alloc (.cells #[.slice A2 (n + 1) c2] 30)).alloc (.cells #[.string s] 9)).alloc (.cells #[.slice none 0 0, .slice (some ⟨w2.heap.size + 1, 0, none⟩) 1 1] 36)).alloc
    (.cells #[.slice (some ⟨w2.heap.size + 1 + 1, 0, none⟩) 1 1] 30)).alloc (.cells #[.string s] 9)).alloc (.cells #[.slice (some ⟨w2.heap.size + 1 + 1 + 1 + 1, 0, none⟩) 1 1, .slice none 0 0] 36)).alloc
    (.cells #[.slice (some ⟨w2.heap.size + 1 + 1 + 1 + 1 + 1, 0, none⟩) 1 1] 30)
structure AllX (w : World) (e : Event) (B : Option Addr) (cb : Nat) (T : Option Addr) (ct : Nat) (A2 : Option Addr) (l : List Clause) (n c2 : Nat) (s : ByteArray) (g : Nat) (X : World) : Prop where
  b0 : Bx X g 30 [.slice A2 n c2]
  b1 : Bx X (g + 1 + 1 + 1) 30 [.slice (some ⟨g + 1 + 1, 0, none⟩) 1 1]
  b2 : Bx X (g + 1 + 1 + 1 + 1 + 1 + 1) 30 [.slice (some ⟨g + 1 + 1 + 1 + 1 + 1, 0, none⟩) 1 1]
  s0 : SlC X A2 c2 l
  s1 : SlC X (some ⟨g + 1 + 1, 0, none⟩) 1 [⟨[], [s]⟩]
  s2 : SlC X (some ⟨g + 1 + 1 + 1 + 1 + 1, 0, none⟩) 1 [⟨[s], []⟩]
  be : Bx X (w.heap.size + 1) 34 [.string e.stream, .string e.type, .slice T e.tags.length ct, .slice B e.fields.length cb]
  st : SlS X T ct e.tags
  bel : Below w.heap.size w X
theorem Bx.new' {w : World} {t : TypeId} {cs : List Value} {g : Nat} (h : w.heap.size = g) : Bx (w.alloc (.cells cs.toArray t)) g t cs := by subst h; exact Bx.new w t cs
theorem lit1' {w : World} (s : ByteArray) {g : Nat} (h : w.heap.size = g) : SlS (w.alloc (.cells #[.string s] 9)) (some ⟨g, 0, none⟩) 1 [s] := by
  subst h; exact (Sl.lit (α := ByteArray) Value.string (fun _ => rfl) w 9 [s] (by simp [maxLen])).any
theorem one' {w : World} {y : Clause} {cs : List Value} (hk : kClause.K (fun _ => True) w y cs) {g : Nat} (h : w.heap.size = g) : SlC (w.alloc (.cells cs.toArray 36)) (some ⟨g, 0, none⟩) 1 [y] := (Sl.one 36 hk g h).any
theorem allWorld {w wc w2 : World} {e : Event} {B : Option Addr} {cb : Nat} {T : Option Addr} {ct : Nat} {A2 : Option Addr} {q : List Clause} {c2 : Nat}
    (hbe : Bx wc (w.heap.size + 1) 34 [.string e.stream, .string e.type, .slice T e.tags.length ct, .slice B e.fields.length cb]) (hst : Sl Kn.str (fun k => k < w.heap.size) wc T ct e.tags)
    (h2 : Sl kClause (fun k => k < wc.heap.size ∨ wc.heap.size ≤ k) w2 A2 c2 (q ++ [⟨[], []⟩])) (hb : Below wc.heap.size wc w2) (hw : Below w.heap.size w wc) (s : ByteArray) :
    AllX w e B cb T ct A2 (q ++ [⟨[], []⟩]) (q.length + 1) c2 s w2.heap.size (allW w2 A2 q.length c2 s) where
  b0 := ((((((Bx.new w2 _ _).alloc _).alloc _).alloc _).alloc _).alloc _).alloc _
  b1 := (((Bx.new' (by simp)).alloc _).alloc _).alloc _
  b2 := Bx.new' (by simp)
  s0 := (((((((h2.any.alloc _).alloc _).alloc _).alloc _).alloc _).alloc _).alloc _)
  s1 := ((((one' (kClause_mk (c := ⟨[], [s]⟩) Sl.nil_ (lit1' s (by simp))) (by simp)).alloc _).alloc _).alloc _).alloc _
  s2 := (one' (kClause_mk (c := ⟨[s], []⟩) (lit1' s (by simp)) Sl.nil_) (by simp)).alloc _
  be := (((((((hbe.under hb).alloc _).alloc _).alloc _).alloc _).alloc _).alloc _).alloc _
  st := (((((((hst.any.below hb).alloc _).alloc _).alloc _).alloc _).alloc _).alloc _).alloc _
  bel := by
    have := bthen hw hb
    have hz := this.size
    exact (((((((this.alloc hz _).alloc (by simp; omega) _).alloc (by simp; omega) _).alloc (by simp; omega) _).alloc (by simp; omega) _).alloc (by simp; omega) _).alloc (by simp; omega) _)

theorem Match_n {q : List Clause} {n : Nat} (hn : q.length = n) {Q : Option Addr} {cq : Nat} {e : Event} {A B : Option Addr} {ca cb : Nat} {w : World} (hq : SlC w Q cq q) (h : SlS w A ca e.tags) :
    Calls Try.prog 44 #[.agg #[.slice Q n cq], vEvent e A ca B cb] w fun r w' => r = .returned (.bool (matchM q e)) ∧ Below w.heap.size w w' := by
  subst hn; exact Match_any hq h
theorem below_drew {B : Nat} {a w : World} (h : Below B a w) : Below B a w.drew := ⟨h.os, h.tape, h.output, h.size, h.block⟩
theorem AllX.kept {w : World} {e : Event} {B : Option Addr} {cb : Nat} {T : Option Addr} {ct : Nat} {A2 : Option Addr} {l : List Clause} {n c2 : Nat} {s : ByteArray} {g : Nat} {X : World} (h : AllX w e B cb T ct A2 l n c2 s g X) (W : World) (hb : Below X.heap.size X W) :
    Below X.heap.size X W ∧ W.cell? ⟨g, 0, none⟩ = some (.slice A2 n c2) ∧ W.cell? ⟨g + 1 + 1 + 1, 0, none⟩ = some (.slice (some ⟨g + 1 + 1, 0, none⟩) 1 1) ∧ W.cell? ⟨g + 1 + 1 + 1 + 1 + 1 + 1, 0, none⟩ = some (.slice (some ⟨g + 1 + 1 + 1 + 1 + 1, 0, none⟩) 1 1) ∧
            W.cell? ⟨w.heap.size + 1, 0, none⟩ = some (.string e.stream) ∧ W.cell? ⟨w.heap.size + 1, 1, none⟩ = some (.string e.type) ∧ W.cell? ⟨w.heap.size + 1, 2, none⟩ = some (.slice T e.tags.length ct) ∧ W.cell? ⟨w.heap.size + 1, 3, none⟩ = some (.slice B e.fields.length cb) :=
  ⟨hb, (h.b0.under hb).cell 0, (h.b1.under hb).cell 0, (h.b2.under hb).cell 0, (h.be.under hb).cell 0, (h.be.under hb).cell 1, (h.be.under hb).cell 2, (h.be.under hb).cell 3⟩
theorem AllX.c0 {w : World} {e : Event} {B : Option Addr} {cb : Nat} {T : Option Addr} {ct : Nat} {A2 : Option Addr} {l : List Clause} {n c2 : Nat} {s : ByteArray} {g : Nat} {X : World} (h : AllX w e B cb T ct A2 l n c2 s g X) {b : Bool} (hm : matchM l e = b) (hn : l.length = n) (W : World) (R : Prop) (hb : Below X.heap.size X W ∧ R) :
    Calls Try.prog 44 #[.agg #[.slice A2 n c2], .agg #[.string e.stream, .string e.type, .slice T e.tags.length ct, .slice B e.fields.length cb]] W fun r w' => r = .returned (.bool b) ∧ Below W.heap.size W w' := by
  subst hm; exact Match_n hn (h.s0.below hb.1) (h.st.below hb.1)
theorem AllX.c1 {w : World} {e : Event} {B : Option Addr} {cb : Nat} {T : Option Addr} {ct : Nat} {A2 : Option Addr} {l : List Clause} {n c2 : Nat} {s : ByteArray} {g : Nat} {X : World} (h : AllX w e B cb T ct A2 l n c2 s g X) {b : Bool} (hm : matchM [⟨[], [s]⟩] e = b) (W : World) (R : Prop) (hb : Below X.heap.size X W ∧ R) :
    Calls Try.prog 44 #[.agg #[.slice (some ⟨g + 1 + 1, 0, none⟩) 1 1], .agg #[.string e.stream, .string e.type, .slice T e.tags.length ct, .slice B e.fields.length cb]] W fun r w' => r = .returned (.bool b) ∧ Below W.heap.size W w' := by
  subst hm; exact Match_n (q := [⟨[], [s]⟩]) rfl (h.s1.below hb.1) (h.st.below hb.1)
theorem AllX.c2 {w : World} {e : Event} {B : Option Addr} {cb : Nat} {T : Option Addr} {ct : Nat} {A2 : Option Addr} {l : List Clause} {n c2 : Nat} {s : ByteArray} {g : Nat} {X : World} (h : AllX w e B cb T ct A2 l n c2 s g X) {b : Bool} (hm : matchM [⟨[s], []⟩] e = b) (W : World) (R : Prop) (hb : Below X.heap.size X W ∧ R) :
    Calls Try.prog 44 #[.agg #[.slice (some ⟨g + 1 + 1 + 1 + 1 + 1, 0, none⟩) 1 1], .agg #[.string e.stream, .string e.type, .slice T e.tags.length ct, .slice B e.fields.length cb]] W fun r w' => r = .returned (.bool b) ∧ Below W.heap.size W w' := by
  subst hm; exact Match_n (q := [⟨[s], []⟩]) rfl (h.s2.below hb.1) (h.st.below hb.1)
theorem mType (s : ByteArray) (e : Event) : matchM [⟨[], [s]⟩] e = decide (e.type = s) := by simp [matchM, clauseM, hasS]
theorem mTag (s : ByteArray) (e : Event) : matchM [⟨[s], []⟩] e = hasS s e.tags := by simp [matchM, clauseM]

set_option maxHeartbeats 4000000 in
set_option maxRecDepth 100000 in
theorem queryAll_walk (w : World) (c0 : Array Value) (q : List Clause) (hq : kQuery.K (fun _ => True) w q c0.toList) {G0 : Prop} (_ : G0) (c1 : Array Value) (e : Event) (he : kEvent.K (fun _ => True) w e c1.toList) {G1 : Prop} (_ : G1) (s : ByteArray) (hs : s.size ≤ maxLen) :
    Calls Try.prog 6 #[.agg c0, .agg c1, .string s] w fun r w' => r = .returned (.bool true) ∧ Below w.heap.size w w' := by
  obtain ⟨Q, cq, rfl, hQ⟩ := query_in hq
  obtain ⟨T, ct, B, cb, rfl, hT⟩ := event_in he
  clear hq he
  have HF := Lib.hid (fun (w1 w2 : World) (A : Option Addr) (c : Nat) => H06.few (w := w) (w1 := w1) (w2 := w2) (q := q) (e := e) (Q := Q) (A := A) (T := T) (B := B) (cq := cq) (c := c) (ct := ct) (cb := cb) hT)
  have HQ := Lib.hid (fun o o' => ((hQ.alloc o).alloc o'))
  clear hT hQ
  go_enter Try.func6, Try.ntmps6
  go_wp2_with fail
  refine (shown06 _).mono ?_
  rintro r w1 ⟨rfl, hb1⟩
  have hb1' : Below (w.heap.size + 1 + 1) ((w.alloc (.cells #[.slice Q q.length cq] 30)).alloc (.cells #[.string e.stream, .string e.type, .slice T e.tags.length ct, .slice B e.fields.length cb] 34)) w1 := by simpa using hb1
  have k1 : Bx w1 w.heap.size 30 [.slice Q q.length cq] := ((Bx.new w 30 [.slice Q q.length cq]).alloc _).below hb1' (by omega)
  have k1c := k1.c0
  have hq1 := (HQ.out _ _).stay (by simpa using hb1.size) (fun k hk hl => hb1.block k (by simp; omega))
  go_wp2_with fail
  refine (few_any _ hq1).mono ?_
  rintro r w2 ⟨A, c, rfl, hs2, hb2⟩
  have hH := HF.out w1 w2 A c hb1' hs2 hb2
  have m1 := (k1.under hb2).free 0
  have m0 := (k1.under hb2).c0
  clear HF HQ hq1 hs2 hb2 k1 k1c hb1 hb1'
  go_upto_region 3 with fail
  generalize w2.setCell ⟨w.heap.size, 0, none⟩ (.slice A (fewM q).length c) = w3 at hH ⊢
  clear m1 m0
  have j1 := hH.be.cell 1
  have j2 := hH.be.cell 2
  have jf := hH.be.free 2
  have j3 := hH.bq.c0
  simp only [List.getElem?_cons_succ, List.getElem?_cons_zero] at j1 j2
  go_upto_if 19 with fail
  go_cut [19] (fun _ wx => H06 w (fewM q) (cutE e) B cb wx A c T ct)
  case first =>
    have hcap := hH.st.1
    have hH := Lib.hid hH
    by_cases h20 : 20 < e.tags.length
    · have hH := Lib.hid (hH.out.cut h20)
      go_wp2_with fail
      go_meet
      case rel => exact hH.out
    · have hH := Lib.hid (hH.out.keep h20)
      go_wp2_with fail
      go_meet
      case rel => exact hH.out
  case rest =>
    have HC := Lib.hid hcut
    clear hcut hH j1 j2 j3 jf
    have hq8 : (fewM q).length ≤ 8 := by simp [fewM]; omega
    generalize fewM q = q at HC hq8
    generalize cutE e = e at HC
    have j2 := HC.out.be.cell 2
    simp only [List.getElem?_cons_succ, List.getElem?_cons_zero] at j2
    have hl1 := HC.out.st.1
    have hl2 := HC.out.st.2.1
    unfold maxLen at hl2
    have hlw : Hid (wc = wc) := by exact rfl
    go_wp2_with fail
    go_loopw [8, 9] (fun b i wr => ∃ k : Nat, k ≤ e.tags.length ∧ i = .int .i64 k ∧ b = .bool (hasS s (e.tags.take k)) ∧ wc = wr) (fun b i _ => e.tags.length - (intOf i).toNat)
    case atStart => exact ⟨0, Nat.zero_le _, rfl, rfl, rfl⟩
    case round =>
      obtain ⟨k, hk, rfl, rfl, rfl⟩ := hrel
      by_cases hlt : k < e.tags.length
      · obtain ⟨ad, rfl, hx⟩ := row_str_at HC.out.st.2.2 hlt
        have hS : Hid (hasS s (e.tags.take (k + 1)) = (hasS s (e.tags.take k) || decide (s = e.tags[k]))) := by exact any_take_succ _ _ _ hlt
        generalize e.tags[k] = y at hx hS
        cases hb : hasS s (e.tags.take k)
        · rw [hb] at hS
          by_cases hxy : s = y
          · have he : (y.toList == s.toList) = true := by rw [strEqL]; simp [hxy]
            have HXY := Lib.hid hxy
            clear hxy
            go_wp2_with fail
            go_roundw
            case rel => exact ⟨k + 1, by omega, by go_num, by rw [hS.out]; simp [HXY.out], trivial⟩
            case measure => simp [intOf]; omega
          · have he : (y.toList == s.toList) = false := by rw [strEqL]; simp [Ne.symm hxy]
            have HXY := Lib.hid hxy
            clear hxy
            go_wp2_with fail
            go_roundw
            case rel => exact ⟨k + 1, by omega, by go_num, by rw [hS.out]; simp [HXY.out], trivial⟩
            case measure => simp [intOf]; omega
        · rw [hb] at hS
          go_wp2_with fail
          go_roundw
          case rel => exact ⟨k + 1, by omega, by go_num, by rw [hS.out]; simp, trivial⟩
          case measure => simp [intOf]; omega
      · obtain rfl : k = e.tags.length := by omega
        rw [List.take_length]
        generalize hhs : hasS s e.tags = hs
        have HS := Lib.hid hhs
        clear hhs
        have HO := Lib.hid (Own.lit0 kClause 36 wc.heap.size (fun k => k < wc.heap.size) wc (Nat.le_refl _))
        have HR := Lib.hid (show Row kClause (fun k => k < wc.heap.size ∧ some k ≠ (Value.slice (some ⟨wc.heap.size, 0, none⟩) 0 0).ownBlock) (wc.alloc (.cells #[] 36)) A q from
          (HC.out.sq.2.2.bound.below ((Below.refl _ _).alloc (Nat.le_refl _) _)).mono (fun k hk => ⟨hk.2, fun e1 => by have h2 := hk.2; simp [Value.ownBlock] at e1; omega⟩))
        have j3 := HC.out.bq.c0
        have l1 := HC.out.bq.lt
        have l2 := HC.out.be.lt
        go_upto_region 11 with (at_builtin; first | (refine wpList_spread rfl _ _ _ rfl 36 _ 2 48 Try.underlying28 infoClause rfl (by decide) (by decide) rfl wc.heap.size (fun k => k < wc.heap.size) _ [] rfl HO.out q A c HR.out rfl (by simp) (by simp; omega) ?_; intro v1 w1 hown1 hg1 hat1 hbel1; have HO1 := Lib.hid hown1; have HB1 := Lib.hid (hbel1 wc ((Below.refl _ _).alloc (Nat.le_refl _) _)); clear hown1 hg1 hat1 hbel1) | (refine wpList_pushH rfl _ _ _ rfl 36 _ 2 48 Try.underlying28 infoClause rfl (by decide) (by decide) rfl wc.heap.size (fun k => k < wc.heap.size) _ q rfl HO1.out ⟨[], []⟩ [.slice none 0 0, .slice none 0 0] (kClause_mk Sl.nil_ Sl.nil_) w1.heap.size rfl rfl (by have := HB1.out.size; omega) (by omega) ?_; intro v2 w2 hown2 hg2 hat2 hbel2; obtain ⟨A2, c2, rfl, hsl2⟩ := hown2.sl; have HO2 := Lib.hid hsl2; have HB2 := Lib.hid (hbel2 wc HB1.out); clear hown2 hg2 hat2 hbel2 hsl2))
        have HW := Lib.hid (show Below wc.heap.size wc w2 from HB2.out)
        clear HO HR HB1 HO1 HB2 j3 j2
        go_upto_region 13 with fail
        have HX := Lib.hid (allWorld (w := w) HC.out.be HC.out.st HO2.out HW.out HC.out.bel s)
        clear HO2
        dsimp only [allW] at HX
        generalize ((((((w2.alloc (.cells #[.slice A2 (q.length + 1) c2] 30)).alloc (.cells #[.string s] 9)).alloc (.cells #[.slice none 0 0, .slice (some ⟨w2.heap.size + 1, 0, none⟩) 1 1] 36)).alloc (.cells #[.slice (some ⟨w2.heap.size + 1 + 1, 0, none⟩) 1 1] 30)).alloc (.cells #[.string s] 9)).alloc (.cells #[.slice (some ⟨w2.heap.size + 1 + 1 + 1 + 1, 0, none⟩) 1 1, .slice none 0 0] 36)).alloc (.cells #[.slice (some ⟨w2.heap.size + 1 + 1 + 1 + 1 + 1, 0, none⟩) 1 1] 30) = X at HX ⊢
        generalize w2.heap.size = g at HX ⊢
        have hl0 := Lib.hid (show (q ++ [(⟨[], []⟩ : Clause)]).length = q.length + 1 by simp)
        have HK := Lib.hid HX.out.kept
        have C0 := Lib.hid (HX.out.c0 (mTrue q e) (by simp))
        have C1 := Lib.hid (HX.out.c1 (mType s e))
        have C2 := Lib.hid (HX.out.c2 ((mTag s e).trans HS.out))
        have het : (e.type.toList == s.toList) = decide (e.type = s) := strEqL _ _
        clear HS
        generalize decide (e.type = s) = ts at het C1
        rcases hs with _ | _ <;> rcases ts with _ | _
        all_goals go_region_held3 (fun W => Below X.heap.size X W ∧ W.cell? ⟨g, 0, none⟩ = some (.slice A2 (q.length + 1) c2) ∧ W.cell? ⟨g + 1 + 1 + 1, 0, none⟩ = some (.slice (some ⟨g + 1 + 1, 0, none⟩) 1 1) ∧ W.cell? ⟨g + 1 + 1 + 1 + 1 + 1 + 1, 0, none⟩ = some (.slice (some ⟨g + 1 + 1 + 1 + 1 + 1, 0, none⟩) 1 1) ∧
            W.cell? ⟨w.heap.size + 1, 0, none⟩ = some (.string e.stream) ∧ W.cell? ⟨w.heap.size + 1, 1, none⟩ = some (.string e.type) ∧ W.cell? ⟨w.heap.size + 1, 2, none⟩ = some (.slice T e.tags.length ct) ∧ W.cell? ⟨w.heap.size + 1, 3, none⟩ = some (.slice B e.fields.length cb))
          (first | exact HK.out _ (below_drew (Below.refl _ _)) | exact HK.out _ (bthen (And.left (by assumption : Below X.heap.size X _ ∧ _)) (by assumption)))
          (first
            | (go_at_call 44; refine (C0.out _ _ (by assumption)).mono ?_; rintro r w' ⟨rfl, hb⟩)
            | (go_at_call 44; refine (C1.out _ _ (by assumption)).mono ?_; rintro r w' ⟨rfl, hb⟩)
            | (go_at_call 44; refine (C2.out _ _ (by assumption)).mono ?_; rintro r w' ⟨rfl, hb⟩))
        all_goals go_wp2_with fail
        all_goals go_ret
        all_goals exact ⟨rfl, bthen HX.out.bel (And.left (by assumption : Below X.heap.size X _ ∧ _))⟩
end Go.Proofs.Ytohhapceeohhdaa
