/- posting.Lists in a law, its box and maps by name; Clone whose copy keeps off the old one's blocks; Add that refuses. -/
import Derived.Test.YteahpkihkfkpfaaPstClone
set_option linter.unusedVariables false
set_option linter.unusedSimpArgs false
namespace Go.Proofs.Yteahpkihkfkpfaa
open Go.RowKit Go.Maps

theorem Mp.copy' {w w' : World} {ok ok' : Nat → Prop} {m m2 N : Nat} {D : DataW Value} {f : ByteArray → List Int} (h : Mp w ok m N D f) (hb : Below w.heap.size w w') (hm : w.heap.size ≤ m2) (hom : w'.ownsMap Try.prog 9 RV m2 N D) (hok : ∀ k, k < w.heap.size → ok k → k ≠ m → ok' k) : Mp w' ok' m2 N D f := by
  refine ⟨hom, fun s => ?_, h.has⟩
  obtain ⟨A, c, h1, h2⟩ := h.row s
  exact ⟨A, c, h1, (h2.below hb).mono (fun k hk => ⟨hok k hk.2.2 hk.1 hk.2.1, by omega, by have := hb.size; omega⟩)⟩
set_option maxHeartbeats 2000000 in
theorem PClone3_any {w : World} {p mt my M : Nat} {Dt Dy : DataW Value} {A : Option Addr} {c : Nat} {all : List Int} {ft fy : ByteArray → List Int} {X : Nat → Prop} (h : Ps w p mt my M Dt Dy A c all ft fy X) :
    Calls Try.prog 27 #[.pointer (some ⟨p, 0, none⟩)] w fun r w' => ∃ p2 mt2 my2, r = .returned (.pointer (some ⟨p2, 0, none⟩)) ∧ w.heap.size ≤ p2 ∧ w.heap.size ≤ mt2 ∧ w.heap.size ≤ my2 ∧ Below w.heap.size w w' ∧
      Ps w' p2 mt2 my2 M Dt Dy A c all ft fy (fun k => k = p ∨ k = mt ∨ k = my ∨ X k) ∧ Ps w' p mt my M Dt Dy A c all ft fy X := by
  have HK : Hid (∀ W, Below w.heap.size w W → Below w.heap.size w W ∧ W.cell? ⟨p, 0, none⟩ = some (.slice A all.length c) ∧ W.cell? ⟨p, 1, none⟩ = some (.map (some mt)) ∧ W.cell? ⟨p, 2, none⟩ = some (.map (some my))) :=
    Lib.hid (fun W hW => ⟨hW, (h.bx.under hW).cell 0, (h.bx.under hW).cell 1, (h.bx.under hW).cell 2⟩)
  have C1 : Hid (∀ W (R : Prop), Below w.heap.size w W ∧ R → Calls Try.prog 53 #[.map (some mt)] W fun e w' => (∃ m2, e = .returned (.map (some m2)) ∧ W.heap.size ≤ m2 ∧ m2 < w'.heap.size ∧ w'.ownsMap Try.prog 9 RV m2 M Dt) ∧ Below W.heap.size W w') :=
    Lib.hid (fun W R hW => pmapClone_owns _ _ _ _ _ _ (h.below hW.1).mpt.om)
  have C2 : Hid (∀ W (R : Prop), Below w.heap.size w W ∧ R → Calls Try.prog 53 #[.map (some my)] W fun e w' => (∃ m2, e = .returned (.map (some m2)) ∧ W.heap.size ≤ m2 ∧ m2 < w'.heap.size ∧ w'.ownsMap Try.prog 9 RV m2 M Dy) ∧ Below W.heap.size W w') :=
    Lib.hid (fun W R hW => pmapClone_owns _ _ _ _ _ _ (h.below hW.1).mpy.om)
  have H := Lib.hid h
  have hne : ¬ mt = my := h.d3
  clear h
  go_enter Try.func27, Try.ntmps27
  go_wp2_with fail
  go_region_held3 (fun W => Below w.heap.size w W ∧ W.cell? ⟨p, 0, none⟩ = some (.slice A all.length c) ∧ W.cell? ⟨p, 1, none⟩ = some (.map (some mt)) ∧ W.cell? ⟨p, 2, none⟩ = some (.map (some my))) (first | exact HK.out _ (below_drawn (Below.refl _ _)) | (assumption) | exact HK.out _ (bthen (And.left (by assumption : Below w.heap.size w _ ∧ _)) (by assumption)) | exact HK.out _ ((And.left (by assumption : Below w.heap.size w _ ∧ _)).alloc (And.left (by assumption : Below w.heap.size w _ ∧ _)).size _)) (first | (go_at_call 53; go_fit (C1.out _ _ (by assumption)); rintro r w3 ⟨⟨m2, rfl, hm1, hm2, hom⟩, hb⟩; have HO := Lib.hid hom; have HBA := Lib.hid hb; clear hom) | (go_at_call 53; go_fit (C2.out _ _ (by assumption)); rintro r w4 ⟨⟨m3, rfl, hn1, hn2, hom⟩, hb⟩; have HO2 := Lib.hid hom; have HBB := Lib.hid hb; clear hom))
  all_goals go_wp2
  all_goals go_ret
  all_goals
    have hB : Below w.heap.size w (w4.alloc (.cells #[.slice A all.length c, .map (some m2), .map (some m3)] 85)) := And.left (by assumption : Below w.heap.size w (w4.alloc _) ∧ _)
    have hs0 : w.drew.heap.size = w.heap.size := rfl
    have hs1 := HBA.out.size
    have hs2 := HBB.out.size
    have hz : (w4.alloc (.cells #[.slice A all.length c, .map (some m2), .map (some m3)] 85)).heap.size = w4.heap.size + 1 := by simp
    have ho1 := (HO.out.kept (row := none) ⟨HBB.out.os, HBB.out.tape, HBB.out.output, HBB.out.size, fun k hk _ => HBB.out.block k hk⟩ (by simp)).alloc (.cells #[.slice A all.length c, .map (some m2), .map (some m3)] 85)
    have ho2 := HO2.out.alloc (.cells #[.slice A all.length c, .map (some m2), .map (some m3)] 85)
    have hp := H.out.bx.lt
    have ht := H.out.mpt.om.lt
    have hy := H.out.mpy.om.lt
    have hx2 : ∀ k, (k = p ∨ k = mt ∨ k = my ∨ X k) → k < w.heap.size := fun k hk => by
      rcases hk with e | e | e | e
      · omega
      · omega
      · omega
      · exact H.out.xs k e
    have hno : ∀ k, k ≠ p → k ≠ mt → k ≠ my → ¬ X k → ¬ (k = p ∨ k = mt ∨ k = my ∨ X k) := fun k h1 h2 h3 h4 h => by
      rcases h with e | e | e | e
      · exact h1 e
      · exact h2 e
      · exact h3 e
      · exact h4 e
    refine ⟨w4.heap.size, m2, m3, rfl, by omega, by omega, by omega, hB, ⟨Bx.new w4 _ [.slice A all.length c, .map (some m2), .map (some m3)], (H.out.sl.bound.below hB).mono (fun k hk => ⟨by omega, by omega, by omega, hno k hk.1.1 hk.1.2.1 hk.1.2.2.1 hk.1.2.2.2⟩), H.out.nil_, H.out.mpt.copy' hB (by omega) ho1 (fun k hk h1 h2 => ⟨by omega, by omega, hno k h1.1 h2 h1.2.1 h1.2.2⟩), H.out.mpy.copy' hB (by omega) ho2 (fun k hk h1 h2 => ⟨by omega, by omega, hno k h1.1 h1.2.1 h2 h1.2.2⟩), by omega, by omega, by omega, fun h => ?_, fun h => ?_, fun h => ?_, fun k hk => ?_⟩, H.out.below hB⟩
    · have := hx2 _ h; omega
    · have := hx2 _ h; omega
    · have := hx2 _ h; omega
    · have := hx2 _ hk; omega

/-- The last position, or 0. -/
def lastI (l : List Int) : Int := l.getLast?.getD 0
set_option maxHeartbeats 1000000 in
set_option maxRecDepth 4000 in
theorem PAddNo_any {w : World} {p mt my M : Nat} {Dt Dy : DataW Value} {A : Option Addr} {c : Nat} {all : List Int} {ft fy : ByteArray → List Int} {X : Nat → Prop} (h : Ps w p mt my M Dt Dy A c all ft fy X) (hl : all.length ≤ 100000)
    {e : Event} {T F : Option Addr} {ct cf fl : Nat} {pos : Int} (hno : pos < 1 ∨ pos ≤ lastI all) :
    Calls Try.prog 21 #[.pointer (some ⟨p, 0, none⟩), .agg #[.string e.stream, .string e.type, .slice T e.tags.length ct, .slice F fl cf], .int .i64 pos] w fun r w' =>
      r = .returned (.int .i64 1) ∧ Below w.heap.size w w' := by
  have HP := Lib.hid h
  have hc1 := h.sl.1
  have hc2 := h.sl.2.1
  unfold maxLen at hc2
  clear h
  obtain ⟨W0, hW0⟩ : ∃ W0, W0 = w.alloc (.cells #[.string e.stream, .string e.type, .slice T e.tags.length ct, .slice F fl cf] 39) := ⟨_, rfl⟩
  have HW0 := Lib.hid hW0
  have HB0 := Lib.hid (show Below w.heap.size w W0 by rw [hW0]; exact (Below.refl _ _).alloc (Nat.le_refl _) _)
  go_enter Try.func21, Try.ntmps21
  go_upto_region 1 with fail
  rw [← HW0.out]
  clear hW0
  have hp0 : W0.cell? ⟨p, 0, none⟩ = some (.slice A all.length c) := (HP.out.bx.under HB0.out).c0
  go_upto_region 2 with fail
  go_cut [32] (fun v wx => v = .bool true ∧ Below W0.heap.size W0 wx)
  case first =>
    by_cases hp1 : pos < 1
    · have d0 : decide (pos < 1) = true := decide_eq_true hp1
      go_wp2_with fail
      go_meet
      case rel => exact ⟨rfl, Below.refl _ _⟩
    · have hlast : pos ≤ lastI all := hno.resolve_left hp1
      have hnn : all ≠ [] := fun e => by subst e; simp [lastI] at hlast; omega
      have hpos : 0 < all.length := List.length_pos_iff.2 hnn
      obtain ⟨k, hk⟩ : ∃ k, all.length = k + 1 := ⟨all.length - 1, by omega⟩
      have hkl : k < all.length := by omega
      obtain ⟨ad, rfl, hx⟩ := row_int_at (HP.out.sl.below HB0.out).2.2 hkl
      have hle : lastI all = all[k] := by
        unfold lastI
        rw [List.getLast?_eq_getElem?, show all.length - 1 = k by omega, List.getElem?_eq_getElem hkl]; rfl
      rw [hle] at hlast
      generalize all[k] = y at hx hlast
      have ew : IntKind.i64.wrap ((all.length : Int) - 1) = (k : Int) := by rw [IntWalk.i64_in _ (by omega)]; omega
      have b1 : (0 : Int) ≤ (k : Int) := Int.natCast_nonneg _
      have b2 : (k : Int) < (all.length : Int) := by omega
      have d0 : decide (pos < 1) = false := decide_eq_false hp1
      have d1 : decide (0 < all.length) = true := decide_eq_true (by omega)
      have d2 : decide (pos ≤ y) = true := decide_eq_true hlast
      have HK := Lib.hid hk
      clear hk hle hnn hno
      go_wp2_with fail
      go_meet
      case rel => exact ⟨rfl, Below.refl _ _⟩
  case rest =>
    obtain ⟨rfl, hbx⟩ := hcut
    go_wp2_with fail
    go_ret
    exact ⟨rfl, bthen HB0.out hbx⟩
theorem lastI_pos (es : List EP) : lastI (posE es) = ((es.getLast?.map (·.2)).getD 0) := by unfold lastI posE; rw [List.getLast?_map]

/-- A posting.Lists of the law's own, its blocks by name; its rows hang on no block of X, nor on its own three. -/
structure Q3 (w : World) (p mt my : Nat) (es : List EP) (X : Nat → Prop) : Prop where
  ps : ∃ M Dt Dy A c, Ps w p mt my M Dt Dy A c (posE es) (tagE es) (typeE es) X ∧ M ≤ 100 * es.length
  ok : EsOK es
  len : es.length ≤ 70
section
variable {w w' : World} {p mt my : Nat} {es : List EP} {X Y : Nat → Prop}
theorem Q3.below (h : Q3 w p mt my es X) (hb : Below w.heap.size w w') : Q3 w' p mt my es X := by
  obtain ⟨M, Dt, Dy, A, c, h1, h2⟩ := h.ps
  exact ⟨⟨M, Dt, Dy, A, c, h1.below hb, h2⟩, h.ok, h.len⟩
theorem Q3.move (h : Q3 w p mt my es X) (hb : But X w w') (hY : ∀ k, Y k → X k ∨ (w.heap.size ≤ k ∧ k < w'.heap.size)) : Q3 w' p mt my es Y := by
  obtain ⟨M, Dt, Dy, A, c, h1, h2⟩ := h.ps
  exact ⟨⟨M, Dt, Dy, A, c, h1.move hb hY, h2⟩, h.ok, h.len⟩
theorem Q3.plen (h : Q3 w p mt my es X) : (posE es).length ≤ 70 := by have := h.len; simpa [posE] using this
theorem Q3.tlen (h : Q3 w p mt my es X) (s : ByteArray) : (tagE es s).length ≤ 70 := Nat.le_trans (h.ok.pf.lt s) h.plen
theorem Q3.ylen (h : Q3 w p mt my es X) (s : ByteArray) : (typeE es s).length ≤ 70 := Nat.le_trans (h.ok.pf.ly s) h.plen
theorem Q3.lt (h : Q3 w p mt my es X) : p < w.heap.size ∧ mt < w.heap.size ∧ my < w.heap.size ∧ ¬ X p ∧ ¬ X mt ∧ ¬ X my := by
  obtain ⟨M, Dt, Dy, A, c, h1, h2⟩ := h.ps
  exact ⟨h1.bx.lt, h1.mpt.om.lt, h1.mpy.om.lt, h1.xp, h1.xt, h1.xy⟩
theorem c3New (w : World) (X : Nat → Prop) (hX : ∀ k, X k → k < w.heap.size) : Calls Try.prog 20 #[] w fun r w' => ∃ p mt my, r = .returned (.pointer (some ⟨p, 0, none⟩)) ∧ Q3 w' p mt my [] X ∧ Below w.heap.size w w' ∧ w.heap.size ≤ p ∧ w.heap.size ≤ mt ∧ w.heap.size ≤ my :=
  (PNew_any w X hX).mono fun r w' ⟨p, mt, my, Dt, Dy, e, h1, h2, h3, h4, h5⟩ =>
    ⟨p, mt, my, e, ⟨⟨0, Dt, Dy, none, 0, h1, by simp⟩, EsOK.nil, by simp⟩, h2, h3, h4, h5⟩
theorem c3Add (h : Q3 w p mt my es X) (hl : es.length < 70) {e : Event} {T F : Option Addr} {ct cf : Nat} (hT : Sl Kn.str (fun k => k ≠ p ∧ k ≠ mt ∧ k ≠ my) w T ct e.tags) (hts : e.tags.length ≤ 50) (hgt : ∀ x ∈ e.tags, x.size ≤ maxLen) (hgy : e.type.size ≤ maxLen) {pos : Int} (h1 : 1 ≤ pos) (h2 : ∀ q ∈ posE es, q < pos) :
    Calls Try.prog 21 #[.pointer (some ⟨p, 0, none⟩), vEvent e T ct F cf, .int .i64 pos] w fun r w' => r = .returned (.int .i64 0) ∧ Q3 w' p mt my (es ++ [(e, pos)]) X ∧ But (fun k => k = p ∨ k = mt ∨ k = my) w w' := by
  obtain ⟨M, Dt, Dy, A, c, h3, h8⟩ := h.ps
  refine (PAdd_any h3 (by omega) (by have := h.plen; omega) (fun s => by have := h.tlen s; omega) (fun s => by have := h.ylen s; omega) hT (by omega) hgt hgy h1 h2).mono fun r w' hr => ?_
  obtain ⟨e1, Dt', Dy', A', c', h9, h10⟩ := hr
  rw [tagE_add h.ok e h2, typeE_add h.ok e h2, ← posE_snoc es e pos] at h9
  exact ⟨e1, ⟨⟨_, Dt', Dy', A', c', h9, by simp; omega⟩, h.ok.snoc e h1 h2, by simp; omega⟩, h10⟩
theorem c3AddNo (h : Q3 w p mt my es X) {e : Event} {T F : Option Addr} {ct cf : Nat} {pos : Int} (hno : pos < 1 ∨ pos ≤ lastI (posE es)) :
    Calls Try.prog 21 #[.pointer (some ⟨p, 0, none⟩), vEvent e T ct F cf, .int .i64 pos] w fun r w' => r = .returned (.int .i64 1) ∧ Below w.heap.size w w' := by
  obtain ⟨M, Dt, Dy, A, c, h3, h8⟩ := h.ps
  exact PAddNo_any h3 (by have := h.plen; omega) hno
theorem c3Tag (h : Q3 w p mt my es X) {s : ByteArray} (hs : s.size ≤ maxLen) : Calls Try.prog 26 #[.pointer (some ⟨p, 0, none⟩), .string s] w (RetInts (tagE es s) w) := by
  obtain ⟨M, Dt, Dy, A, c, h3, _⟩ := h.ps
  exact Tag_any h3 hs (by have := h.tlen s; omega)
theorem c3Type (h : Q3 w p mt my es X) {s : ByteArray} (hs : s.size ≤ maxLen) : Calls Try.prog 25 #[.pointer (some ⟨p, 0, none⟩), .string s] w (RetInts (typeE es s) w) := by
  obtain ⟨M, Dt, Dy, A, c, h3, _⟩ := h.ps
  exact Type_any h3 hs (by have := h.ylen s; omega)
theorem c3Find (h : Q3 w p mt my es X) {q : List Clause} {Q : Option Addr} {cq : Nat} (hq : SlC w Q cq q) (hg : ∀ c ∈ q, goodClause c) (x : Int) : Calls Try.prog 31 #[.pointer (some ⟨p, 0, none⟩), .agg #[.slice Q q.length cq], .int .i64 x] w (RetInts (findE es q x) w) := by
  obtain ⟨M, Dt, Dy, A, c, h3, _⟩ := h.ps
  have := Find_any h3 h.ok.pf (by have := h.plen; omega) hq hg x
  rw [findE_eq h.ok] at this
  exact this
theorem c3Clone (h : Q3 w p mt my es X) : Calls Try.prog 27 #[.pointer (some ⟨p, 0, none⟩)] w fun r w' => ∃ p2 mt2 my2, r = .returned (.pointer (some ⟨p2, 0, none⟩)) ∧ w.heap.size ≤ p2 ∧ w.heap.size ≤ mt2 ∧ w.heap.size ≤ my2 ∧ Below w.heap.size w w' ∧ Q3 w' p2 mt2 my2 es (fun k => k = p ∨ k = mt ∨ k = my ∨ X k) ∧ Q3 w' p mt my es X := by
  obtain ⟨M, Dt, Dy, A, c, h3, h4⟩ := h.ps
  refine (PClone3_any h3).mono fun r w' hr => ?_
  obtain ⟨p2, mt2, my2, e, h5, h6, h7, hb, h8, h9⟩ := hr
  exact ⟨p2, mt2, my2, e, h5, h6, h7, hb, ⟨⟨M, Dt, Dy, A, c, h8, h4⟩, h.ok, h.len⟩, ⟨⟨M, Dt, Dy, A, c, h9, h4⟩, h.ok, h.len⟩⟩
end
end Go.Proofs.Yteahpkihkfkpfaa
