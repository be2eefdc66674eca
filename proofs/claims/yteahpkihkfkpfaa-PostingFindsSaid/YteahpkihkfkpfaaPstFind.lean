/- posting.Lists: Tag, Type, clause, Find (walks). -/
import Derived.Test.YteahpkihkfkpfaaPstAdd
import Derived.Test.YteahpkihkfkpfaaBsearch
import Derived.Test.YteahpkihkfkpfaaLawStreamsUpto
import Derived.Deep.DeepFit
set_option linter.unusedVariables false
set_option linter.unusedSimpArgs false
namespace Go.Proofs.Yteahpkihkfkpfaa
open Go.RowKit Go.Maps

theorem Mp.lookP {w : World} {ok : Nat → Prop} {m N : Nat} {D : DataW Value} {f : ByteArray → List Int} (h : Mp w ok m N D f) {s : ByteArray} (hs : s.size ≤ maxLen) :
    ∃ A c, (Instr.lookup 83 (.map (some m)) (.string s) false).run Try.prog w = .ok (.slice A (f s).length c) w ∧ SlI w A c (f s) := by
  obtain ⟨A, c, _, h1, h2, _⟩ := h.look Try.underlying83 hs
  exact ⟨A, c, h1, h2.any⟩
section
variable {w : World} {p mt my M : Nat} {Dt Dy : DataW Value} {A : Option Addr} {c : Nat} {all : List Int} {ft fy : ByteArray → List Int} {X : Nat → Prop}
theorem Tag_any (h : Ps w p mt my M Dt Dy A c all ft fy X) {s : ByteArray} (hs : s.size ≤ maxLen) (hl : (ft s).length ≤ 1000000) :
    Calls Try.prog 26 #[.pointer (some ⟨p, 0, none⟩), .string s] w (RetInts (ft s) w) := by
  obtain ⟨B, cb, hlk, hsl⟩ := h.mpt.lookP hs
  have hp1 : w.cell? ⟨p, 1, none⟩ = some (.map (some mt)) := h.bx.cell 1
  have C := Lib.hid (cloneInts_any hsl hl)
  clear h hsl
  go_enter Try.func26, Try.ntmps26
  go_wp2_with (first | (go_at_call 48; go_fit C.out; rintro r w6 ⟨A', c', rfl, h1, h2⟩))
  go_ret
  exact ⟨A', c', rfl, h1, h2⟩
theorem Type_any (h : Ps w p mt my M Dt Dy A c all ft fy X) {s : ByteArray} (hs : s.size ≤ maxLen) (hl : (fy s).length ≤ 1000000) :
    Calls Try.prog 25 #[.pointer (some ⟨p, 0, none⟩), .string s] w (RetInts (fy s) w) := by
  obtain ⟨B, cb, hlk, hsl⟩ := h.mpy.lookP hs
  have hp1 : w.cell? ⟨p, 2, none⟩ = some (.map (some my)) := h.bx.cell 2
  have C := Lib.hid (cloneInts_any hsl hl)
  clear h hsl
  go_enter Try.func25, Try.ntmps25
  go_wp2_with (first | (go_at_call 48; go_fit C.out; rintro r w6 ⟨A', c', rfl, h1, h2⟩))
  go_ret
  exact ⟨A', c', rfl, h1, h2⟩
end

/-- The positions of a clause. -/
def typesL (fy : ByteArray → List Int) (ts : List ByteArray) : List Int := ts.foldl (fun l s => either l (fy s)) []
def tagsL (ft : ByteArray → List Int) (ts : List ByteArray) (l : List Int) : List Int := ts.foldl (fun l s => both l (ft s)) l
def clauseL (all : List Int) (ft fy : ByteArray → List Int) (c : Clause) : List Int := tagsL ft c.tags (if c.types.length = 0 then all else typesL fy c.types)
theorem typesL_snoc (fy : ByteArray → List Int) (ts : List ByteArray) (s : ByteArray) : typesL fy (ts ++ [s]) = either (typesL fy ts) (fy s) := by simp [typesL, List.foldl_append]
theorem tagsL_snoc (ft : ByteArray → List Int) (ts : List ByteArray) (s : ByteArray) (l : List Int) : tagsL ft (ts ++ [s]) l = both (tagsL ft ts l) (ft s) := by simp [tagsL, List.foldl_append]
theorem sub_len {a b : List Int} (ha : Rise a) (hb : Rise b) (h : ∀ x ∈ a, x ∈ b) : a.length ≤ b.length := by
  have e : a = b.filter (fun x => decide (x ∈ a)) := rise_ext ha (List.Pairwise.filter _ hb) (fun x => by
    rw [List.mem_filter]; simp only [decide_eq_true_eq]; exact ⟨fun hx => ⟨h x hx, hx⟩, fun hx => hx.2⟩)
  rw [e]; exact List.length_filter_le _ _
theorem typesL_rm {fy : ByteArray → List Int} (hy : ∀ s, Rise (fy s)) (ts : List ByteArray) : Rise (typesL fy ts) ∧ ∀ x, x ∈ typesL fy ts ↔ ∃ s ∈ ts, x ∈ fy s := by
  have key : ∀ (ts : List ByteArray) (l : List Int), Rise l → Rise (ts.foldl (fun l s => either l (fy s)) l) ∧ ∀ x, x ∈ ts.foldl (fun l s => either l (fy s)) l ↔ x ∈ l ∨ ∃ s ∈ ts, x ∈ fy s := by
    intro ts
    induction ts with
    | nil => intro l hl; exact ⟨hl, fun x => by simp⟩
    | cons s ts ih =>
      intro l hl
      obtain ⟨h1, h2⟩ := ih (either l (fy s)) (either_rise hl (hy s))
      refine ⟨h1, fun x => ?_⟩
      rw [List.foldl_cons, h2, mem_either hl (hy s)]
      simp [or_assoc]
  obtain ⟨h1, h2⟩ := key ts [] List.Pairwise.nil
  exact ⟨h1, fun x => by rw [show typesL fy ts = ts.foldl (fun l s => either l (fy s)) [] from rfl, h2]; simp⟩
theorem tagsL_rm {ft : ByteArray → List Int} (ht : ∀ s, Rise (ft s)) : ∀ (ts : List ByteArray) {l : List Int} (_ : Rise l), Rise (tagsL ft ts l) ∧ ∀ x, x ∈ tagsL ft ts l ↔ x ∈ l ∧ ∀ s ∈ ts, x ∈ ft s
  | [], l, hl => ⟨hl, fun x => by simp [tagsL]⟩
  | s :: ts, l, hl => by
    obtain ⟨h1, h2⟩ := tagsL_rm ht ts (both_rise hl (ht s))
    refine ⟨h1, fun x => ?_⟩
    rw [show tagsL ft (s :: ts) l = tagsL ft ts (both l (ft s)) from rfl, h2, mem_both hl (ht s)]
    simp [and_assoc]
theorem clauseL_rm {all : List Int} {ft fy : ByteArray → List Int} (h : Pf all ft fy) (c : Clause) : Rise (clauseL all ft fy c) ∧ ∀ x, x ∈ clauseL all ft fy c ↔ (if c.types.length = 0 then x ∈ all else ∃ s ∈ c.types, x ∈ fy s) ∧ ∀ s ∈ c.tags, x ∈ ft s := by
  unfold clauseL
  by_cases hz : c.types.length = 0
  · simp only [hz, if_true]
    exact tagsL_rm h.rt c.tags h.rise
  · simp only [hz, if_false]
    obtain ⟨h1, h2⟩ := typesL_rm h.ry c.types
    obtain ⟨h3, h4⟩ := tagsL_rm h.rt c.tags h1
    exact ⟨h3, fun x => by rw [h4, h2]⟩
theorem clauseL_sub {all : List Int} {ft fy : ByteArray → List Int} (h : Pf all ft fy) (c : Clause) : ∀ x ∈ clauseL all ft fy c, x ∈ all := fun x hx => by
  obtain ⟨h1, _⟩ := ((clauseL_rm h c).2 x).1 hx
  split at h1
  · exact h1
  · obtain ⟨s, _, h2⟩ := h1; exact h.sy s x h2
/-- The positions of a query. -/
def queryL (all : List Int) (ft fy : ByteArray → List Int) (q : List Clause) : List Int := q.foldl (fun l c => either l (clauseL all ft fy c)) []
theorem queryL_snoc (all : List Int) (ft fy : ByteArray → List Int) (q : List Clause) (c : Clause) : queryL all ft fy (q ++ [c]) = either (queryL all ft fy q) (clauseL all ft fy c) := by simp [queryL, List.foldl_append]
theorem queryL_rm {all : List Int} {ft fy : ByteArray → List Int} (h : Pf all ft fy) (q : List Clause) : Rise (queryL all ft fy q) ∧ ∀ x, x ∈ queryL all ft fy q ↔ ∃ c ∈ q, x ∈ clauseL all ft fy c := by
  have key : ∀ (q : List Clause) (l : List Int), Rise l → Rise (q.foldl (fun l c => either l (clauseL all ft fy c)) l) ∧ ∀ x, x ∈ q.foldl (fun l c => either l (clauseL all ft fy c)) l ↔ x ∈ l ∨ ∃ c ∈ q, x ∈ clauseL all ft fy c := by
    intro q
    induction q with
    | nil => intro l hl; exact ⟨hl, fun x => by simp⟩
    | cons c q ih =>
      intro l hl
      obtain ⟨h1, h2⟩ := ih (either l (clauseL all ft fy c)) (either_rise hl (clauseL_rm h c).1)
      refine ⟨h1, fun x => ?_⟩
      rw [List.foldl_cons, h2, mem_either hl (clauseL_rm h c).1]
      simp [or_assoc]
  obtain ⟨h1, h2⟩ := key q [] List.Pairwise.nil
  exact ⟨h1, fun x => by rw [show queryL all ft fy q = q.foldl (fun l c => either l (clauseL all ft fy c)) [] from rfl, h2]; simp⟩
theorem queryL_sub {all : List Int} {ft fy : ByteArray → List Int} (h : Pf all ft fy) (q : List Clause) : ∀ x ∈ queryL all ft fy q, x ∈ all := fun x hx => by
  obtain ⟨c, _, h2⟩ := ((queryL_rm h q).2 x).1 hx
  exact clauseL_sub h c x h2

set_option maxHeartbeats 2000000 in
set_option maxRecDepth 4000 in
theorem pclause_any {w : World} {p mt my M : Nat} {Dt Dy : DataW Value} {A : Option Addr} {c : Nat} {all : List Int} {ft fy : ByteArray → List Int} {X : Nat → Prop} (h : Ps w p mt my M Dt Dy A c all ft fy X) (hp : Pf all ft fy) (hl : all.length ≤ 100000)
    {cl : Clause} {T Y : Option Addr} {ct cy : Nat} (hT : SlS w T ct cl.tags) (hY : SlS w Y cy cl.types) (hgT : ∀ x ∈ cl.tags, x.size ≤ maxLen) (hgY : ∀ x ∈ cl.types, x.size ≤ maxLen) :
    Calls Try.prog 55 #[.pointer (some ⟨p, 0, none⟩), .agg #[.slice T cl.tags.length ct, .slice Y cl.types.length cy]] w fun r w' => ∃ A' c', r = .returned (.slice A' (clauseL all ft fy cl).length c') ∧ SlI w' A' c' (clauseL all ft fy cl) ∧ Below w.heap.size w w' := by
  have HP := Lib.hid h
  have HPF := Lib.hid hp
  have HT := Lib.hid hT
  have HY := Lib.hid hY
  have HGT := Lib.hid hgT
  have HGY := Lib.hid hgY
  have hty := hY.1
  have htm := hY.2.1
  have hay := hT.1
  have ham := hT.2.1
  unfold maxLen at htm ham
  have HB0 := Lib.hid (show Below w.heap.size w (w.alloc (.cells #[.slice T cl.tags.length ct, .slice Y cl.types.length cy] 48)) from (Below.refl _ _).alloc (Nat.le_refl _) _)
  have HBX := Lib.hid (Bx.new w 48 [.slice T cl.tags.length ct, .slice Y cl.types.length cy])
  have hp0 : (w.alloc (.cells #[.slice T cl.tags.length ct, .slice Y cl.types.length cy] 48)).cell? ⟨p, 0, none⟩ = some (.slice A all.length c) := (h.bx.under HB0.out).c0
  have hc1 : (w.alloc (.cells #[.slice T cl.tags.length ct, .slice Y cl.types.length cy] 48)).cell? ⟨w.heap.size, 1, none⟩ = some (.slice Y cl.types.length cy) := HBX.out.cell 1
  have hAl := h.sl.1
  have hpl := h.bx.lt
  clear h hp hT hY hgT hgY
  obtain ⟨L, hL⟩ : ∃ L, L = (if cl.types.length = 0 then all else typesL fy cl.types) := ⟨_, rfl⟩
  have hcl : clauseL all ft fy cl = tagsL ft cl.tags L := by rw [hL]; rfl
  have hbl : L.length ≤ 100000 := by
    rw [hL]
    split
    · exact hl
    · exact Nat.le_trans (sub_len (typesL_rm HPF.out.ry _).1 HPF.out.rise (fun x hx => by obtain ⟨s, _, h2⟩ := ((typesL_rm HPF.out.ry _).2 x).1 hx; exact HPF.out.sy s x h2)) hl
  have hrl : Rise L := by
    rw [hL]
    split
    · exact HPF.out.rise
    · exact (typesL_rm HPF.out.ry _).1
  have HRL := Lib.hid hrl
  rw [hcl]
  have HLE := Lib.hid hL
  clear hrl hcl hL
  go_enter Try.func55, Try.ntmps55
  go_upto_if 17 with fail
  go_cut [5] (fun v wx => ∃ B cb, v = .slice B L.length cb ∧ SlI wx B cb L ∧ Below (w.heap.size + 1) (w.alloc (.cells #[.slice T cl.tags.length ct, .slice Y cl.types.length cy] 48)) wx)
  case first =>
    by_cases hz : cl.types.length = 0
    · have HLA := Lib.hid (show L = all by rw [HLE.out, if_pos hz])
      have d1 : decide (0 < cl.types.length) = false := decide_eq_false (by omega)
      have hz0 : ¬ 0 < cl.types.length := by omega
      clear hz
      go_wp2_with fail
      go_meet
      case rel => exact ⟨A, c, by rw [HLA.out], by rw [HLA.out]; exact (HP.out.sl.below HB0.out).any, Below.refl _ _⟩
    · have HLA := Lib.hid (show L = typesL fy cl.types by rw [HLE.out, if_neg hz])
      have d1 : decide (0 < cl.types.length) = true := decide_eq_true (by omega)
      have hz' : 0 < cl.types.length := by omega
      clear hz
      simp only [d1]
      go_wp2_with fail
      go_loopw [5, 21] (fun v i wr => ∃ (k : Nat) (B : Option Addr) (cb : Nat), k ≤ cl.types.length ∧ i = .int .i64 k ∧ v = .slice B (typesL fy (cl.types.take k)).length cb ∧ SlI wr B cb (typesL fy (cl.types.take k)) ∧ Below (w.heap.size + 1) (w.alloc (.cells #[.slice T cl.tags.length ct, .slice Y cl.types.length cy] 48)) wr) (fun _ i _ => cl.types.length - (intOf i).toNat)
      case atStart => exact ⟨0, none, 0, Nat.zero_le _, rfl, rfl, Sl.nil_, Below.refl _ _⟩
      case round =>
        obtain ⟨k, B, cb, hk, rfl, rfl, hs, hb⟩ := hrel
        have HS := Lib.hid hs
        have HB := Lib.hid hb
        have HB1 := Lib.hid (show Below w.heap.size w wr from HB0.out.trans (hb.mono (by omega)))
        clear hs hb
        by_cases hlt : k < cl.types.length
        · obtain ⟨ad, rfl, hx⟩ := row_str_at (HY.out.below HB1.out).2.2 hlt
          have hsz := HGY.out _ (List.getElem_mem hlt)
          have hsn := typesL_snoc fy (cl.types.take k) cl.types[k]
          rw [← List.take_succ_eq_append_getElem hlt] at hsn
          generalize cl.types[k] = s at *
          have HSN := Lib.hid hsn
          clear hsn
          have hp2 : wr.cell? ⟨p, 2, none⟩ = some (.map (some my)) := (HP.out.bx.under HB1.out).cell 2
          obtain ⟨E, ce, hlk, he⟩ := (HP.out.below HB1.out).mpy.lookP hsz
          have hb1 : (typesL fy (cl.types.take k)).length ≤ 100000 := Nat.le_trans (sub_len (typesL_rm HPF.out.ry _).1 HPF.out.rise (fun x hx => by obtain ⟨s, _, h2⟩ := ((typesL_rm HPF.out.ry _).2 x).1 hx; exact HPF.out.sy s x h2)) hl
          have hb2 := HPF.out.ly s
          have C := Lib.hid (cEither HS.out he (by omega))
          clear he
          go_wp2_with (first | (go_at_call 24; go_fit C.out; rintro r w6 ⟨A6, c6, rfl, h6, hb6⟩; have H6 := Lib.hid h6.any; have HB6 := Lib.hid (show Below (w.heap.size + 1) _ w6 from HB.out.trans (hb6.mono (by have := HB.out.size; simp at this; omega))); clear h6 hb6))
          go_roundw
          case rel => exact ⟨k + 1, A6, c6, by omega, by go_num, by rw [HSN.out], by rw [HSN.out]; exact H6.out, HB6.out⟩
          case measure => simp [intOf]; omega
        · obtain rfl : k = cl.types.length := by omega
          rw [List.take_length, ← HLA.out] at HS ⊢
          go_wp2_with fail
          go_meet
          case rel => exact ⟨B, cb, rfl, HS.out, HB.out⟩
  case rest =>
    obtain ⟨B, cb, rfl, hs, hb⟩ := hcut
    have HB := Lib.hid hb
    have HS := Lib.hid hs
    have HB1 := Lib.hid (show Below w.heap.size w wc from HB0.out.trans (hb.mono (by omega)))
    have hc0 : wc.cell? ⟨w.heap.size, 0, none⟩ = some (.slice T cl.tags.length ct) := (HBX.out.below HB.out (by omega)).c0
    clear hs hb hp0 hc1
    go_wp2_with fail
    go_loopw [5, 37] (fun v i wr => ∃ (k : Nat) (B : Option Addr) (cb : Nat), k ≤ cl.tags.length ∧ i = .int .i64 k ∧ v = .slice B (tagsL ft (cl.tags.take k) L).length cb ∧ SlI wr B cb (tagsL ft (cl.tags.take k) L) ∧ Below w.heap.size w wr) (fun _ i _ => cl.tags.length - (intOf i).toNat)
    case atStart => exact ⟨0, B, cb, Nat.zero_le _, rfl, rfl, HS.out, HB1.out⟩
    case round =>
      obtain ⟨k, B2, cb2, hk, rfl, rfl, hs, hb⟩ := hrel
      have HS2 := Lib.hid hs
      have HB2 := Lib.hid hb
      clear hs hb
      by_cases hlt : k < cl.tags.length
      · obtain ⟨ad, rfl, hx⟩ := row_str_at (HT.out.below HB2.out).2.2 hlt
        have hsz := HGT.out _ (List.getElem_mem hlt)
        have hsn := tagsL_snoc ft (cl.tags.take k) cl.tags[k] L
        rw [← List.take_succ_eq_append_getElem hlt] at hsn
        generalize cl.tags[k] = s at *
        have HSN := Lib.hid hsn
        clear hsn
        have hp1 : wr.cell? ⟨p, 1, none⟩ = some (.map (some mt)) := (HP.out.bx.under HB2.out).cell 1
        obtain ⟨E, ce, hlk, he⟩ := (HP.out.below HB2.out).mpt.lookP hsz
        have hb1 : (tagsL ft (cl.tags.take k) L).length ≤ 100000 := Nat.le_trans (sub_len (tagsL_rm HPF.out.rt _ HRL.out).1 HRL.out (fun x hx => (((tagsL_rm HPF.out.rt _ HRL.out).2 x).1 hx).1)) hbl
        have hb2 := HPF.out.lt s
        have C := Lib.hid (cBoth HS2.out he (by omega))
        clear he
        go_wp2_with (first | (go_at_call 49; go_fit C.out; rintro r w6 ⟨A6, c6, rfl, h6, hb6⟩; have H6 := Lib.hid h6.any; have HB6 := Lib.hid (bthen HB2.out hb6); clear h6 hb6))
        go_roundw
        case rel => exact ⟨k + 1, A6, c6, by omega, by go_num, by rw [HSN.out], by rw [HSN.out]; exact H6.out, HB6.out⟩
        case measure => simp [intOf]; omega
      · obtain rfl : k = cl.tags.length := by omega
        rw [List.take_length] at HS2 ⊢
        go_wp2_with fail
        go_ret
        exact ⟨B2, cb2, rfl, HS2.out, HB2.out⟩
end Go.Proofs.Yteahpkihkfkpfaa
