/- QueryParts: the law's walk. -/
import Derived.Test.YtohhapceeohhdaaHead06
import Derived.Test.YtohhapceeohhdaaStep
set_option linter.unusedVariables false
set_option linter.unusedSimpArgs false
namespace Go.Proofs.Ytohhapceeohhdaa
open Go.RowKit

theorem below_made {B : Nat} {a w : World} (h : Below B a w) (hB : B ≤ a.heap.size) (o : Obj) : Below B a (w.alloc o) := h.alloc (Nat.le_trans hB h.size) o
def tagsM (e : Event) (c : Clause) : Bool := c.tags.all (fun s => hasS s e.tags)
def typesM (e : Event) (c : Clause) : Bool := c.types.isEmpty || hasS e.type c.types
theorem mOne (e : Event) (c : Clause) : matchM [c] e = (tagsM e c && typesM e c) := by simp [matchM, clauseM, tagsM, typesM]
theorem mTags (e : Event) (c : Clause) : matchM [⟨c.tags, []⟩] e = tagsM e c := by simp [matchM, clauseM, tagsM]
theorem mTypes (e : Event) (c : Clause) : matchM [⟨[], c.types⟩] e = typesM e c := by simp [matchM, clauseM, typesM]
theorem mTake (e : Event) (q : List Clause) (k : Nat) (x : Clause) (h : q[k]? = some x) : matchM (q.take (k + 1)) e = (matchM (q.take k) e || (tagsM e x && typesM e x)) := by
  obtain ⟨hk, rfl⟩ := List.getElem?_eq_some_iff.1 h
  unfold matchM
  rw [any_take_succ _ _ _ hk]; rfl

theorem H06.kept {w : World} {q : List Clause} {e : Event} {B A T : Option Addr} {cb c ct : Nat} {wr : World} (h : H06 w q e B cb wr A c T ct) (W : World) (hb : Below wr.heap.size wr W) :
    Below wr.heap.size wr W ∧ W.cell? ⟨w.heap.size, 0, none⟩ = some (.slice A q.length c) ∧
            W.cell? ⟨w.heap.size + 1, 0, none⟩ = some (.string e.stream) ∧ W.cell? ⟨w.heap.size + 1, 1, none⟩ = some (.string e.type) ∧ W.cell? ⟨w.heap.size + 1, 2, none⟩ = some (.slice T e.tags.length ct) ∧ W.cell? ⟨w.heap.size + 1, 3, none⟩ = some (.slice B e.fields.length cb) :=
  ⟨hb, (h.bq.under hb).cell 0, (h.be.under hb).cell 0, (h.be.under hb).cell 1, (h.be.under hb).cell 2, (h.be.under hb).cell 3⟩
theorem H06.c0 {w : World} {q : List Clause} {e : Event} {B A T : Option Addr} {cb c ct : Nat} {wr : World} (h : H06 w q e B cb wr A c T ct) (W : World) (R : Prop) (hb : Below wr.heap.size wr W ∧ R) :
    Calls Try.prog 44 #[.agg #[.slice A q.length c], .agg #[.string e.stream, .string e.type, .slice T e.tags.length ct, .slice B e.fields.length cb]] W fun r w' => r = .returned (.bool (matchM q e)) ∧ Below W.heap.size W w' :=
  Match_any (h.sq.any.below hb.1) (h.st.any.below hb.1)
/-- What the regions of a round need of the clause x at k. -/
structure PartAt (w : World) (q : List Clause) (e : Event) (B : Option Addr) (cb : Nat) (X : World) (ad : Addr) (c : Nat) (T : Option Addr) (ct k : Nat) (x : Clause) (S : Option Addr) (sa : Nat) (U : Option Addr) (ua : Nat) : Prop where
  kept : ∀ W, Below X.heap.size X W → (Below X.heap.size X W ∧ W.cell? ⟨w.heap.size, 0, none⟩ = some (.slice (some ad) q.length c) ∧
    W.cell? ⟨w.heap.size + 1, 0, none⟩ = some (.string e.stream) ∧ W.cell? ⟨w.heap.size + 1, 1, none⟩ = some (.string e.type) ∧ W.cell? ⟨w.heap.size + 1, 2, none⟩ = some (.slice T e.tags.length ct) ∧ W.cell? ⟨w.heap.size + 1, 3, none⟩ = some (.slice B e.fields.length cb) ∧
    W.cell? (ad.add (k * 2)) = some (.slice S x.tags.length sa) ∧ W.cell? ⟨(ad.add (k * 2)).block, (ad.add (k * 2)).off + 1, none⟩ = some (.slice U x.types.length ua))
  c1 : ∀ (W : World) (R : Prop), Below X.heap.size X W ∧ R →
    Calls Try.prog 44 #[.agg #[.slice (some (ad.add (k * 2))) 1 (c - k)], .agg #[.string e.stream, .string e.type, .slice T e.tags.length ct, .slice B e.fields.length cb]] W fun r w' => r = .returned (.bool (tagsM e x && typesM e x)) ∧ Below W.heap.size W w'
  c2 : ∀ (W : World) (R : Prop), Below X.heap.size X W ∧ R →
    Calls Try.prog 44 #[.agg #[.slice (some ⟨W.heap.size, 0, none⟩) 1 1], .agg #[.string e.stream, .string e.type, .slice T e.tags.length ct, .slice B e.fields.length cb]] (W.alloc (.cells #[.slice S x.tags.length sa, .slice none 0 0] 36)) fun r w' => r = .returned (.bool (tagsM e x)) ∧ Below W.heap.size W w'
  c3 : ∀ (W : World) (R : Prop), Below X.heap.size X W ∧ R →
    Calls Try.prog 44 #[.agg #[.slice (some ⟨W.heap.size, 0, none⟩) 1 1], .agg #[.string e.stream, .string e.type, .slice T e.tags.length ct, .slice B e.fields.length cb]] (W.alloc (.cells #[.slice none 0 0, .slice U x.types.length ua] 36)) fun r w' => r = .returned (.bool (typesM e x)) ∧ Below W.heap.size W w'

theorem H06.part {w : World} {q : List Clause} {e : Event} {B A T : Option Addr} {cb c ct : Nat} {X : World} (h : H06 w q e B cb X A c T ct) {k : Nat} (hk : k < q.length) :
    ∃ ad x S sa U ua, A = some ad ∧ q[k]? = some x ∧ PartAt w q e B cb X ad c T ct k x S sa U ua := by
  obtain ⟨ad, S, sa, U, ua, rfl, hx, hy, hS, hU⟩ := row_clause_at h.sq.2.2 hk
  have hcc := h.sq.1
  have ha := fun (W : World) (o : Obj) => (Below.refl W.heap.size W).alloc (Nat.le_refl _) o
  have hblk : ad.block < X.heap.size := World.block_lt_of_cell? X _ hx |> fun h => by rwa [block_add] at h
  refine ⟨ad, q[k], S, sa, U, ua, rfl, List.getElem?_eq_getElem hk, ⟨fun W hb => ?_, fun W R hb => ?_, fun W R hb => ?_, fun W R hb => ?_⟩⟩
  · refine ⟨hb, (h.bq.under hb).cell 0, (h.be.under hb).cell 0, (h.be.under hb).cell 1, (h.be.under hb).cell 2, (h.be.under hb).cell 3, ?_, ?_⟩
    · exact (hb.cell (by rw [block_add]; exact hblk)).trans hx
    · exact (hb.cell (by simp only; rw [block_add]; exact hblk)).trans hy
  · rw [← mOne]
    have hs : SlC X (some (ad.add (k * 2))) (c - k) [q[k]] := by
      have h1 := Row.cut (k := k) (cap := c) h.sq.any.2.2 h.sq.1
      rw [if_neg (by omega)] at h1
      have h2 := h1.take 1
      rw [show (q.drop k).take 1 = [q[k]] by rw [List.drop_eq_getElem_cons hk]; rfl] at h2
      exact ⟨by simp; omega, by have := h.sq.2.1; omega, h2⟩
    exact Match_any (hs.below hb.1) (h.st.any.below hb.1)
  · rw [← mTags]
    have hs := (Sl.one 36 (kClause_mk (c := ⟨q[k].tags, []⟩) (hS.below hb.1) Sl.nil_) W.heap.size rfl).any
    exact (Match_any hs ((h.st.any.below hb.1).alloc _)).mono (fun r w' h => ⟨h.1, bthen (ha W _) h.2⟩)
  · rw [← mTypes]
    have hs := (Sl.one 36 (kClause_mk (c := ⟨[], q[k].types⟩) Sl.nil_ (hU.below hb.1)) W.heap.size rfl).any
    exact (Match_any hs ((h.st.any.below hb.1).alloc _)).mono (fun r w' h => ⟨h.1, bthen (ha W _) h.2⟩)

set_option maxHeartbeats 4000000 in
set_option maxRecDepth 100000 in
theorem queryParts_walk (w : World) (c0 : Array Value) (q : List Clause) (hq : kQuery.K (fun _ => True) w q c0.toList) {G0 : Prop} (_ : G0) (c1 : Array Value) (e : Event) (he : kEvent.K (fun _ => True) w e c1.toList) {G1 : Prop} (_ : G1) :
    Calls Try.prog 7 #[.agg c0, .agg c1] w fun r w' => r = .returned (.bool true) ∧ Below w.heap.size w w' := by
  obtain ⟨Q, cq, rfl, hQ⟩ := query_in hq
  obtain ⟨T, ct, B, cb, rfl, hT⟩ := event_in he
  clear hq he
  have HF := Lib.hid (fun (w1 w2 : World) (A : Option Addr) (c : Nat) => H06.few (w := w) (w1 := w1) (w2 := w2) (q := q) (e := e) (Q := Q) (A := A) (T := T) (B := B) (cq := cq) (c := c) (ct := ct) (cb := cb) hT)
  have HQ := Lib.hid (fun o o' => ((hQ.alloc o).alloc o'))
  clear hT hQ
  go_enter Try.func7, Try.ntmps7
  go_wp2_with fail
  refine (shown06 _).mono ?_
  rintro r w1 ⟨rfl, hb1⟩
  have hb1' : Below (w.heap.size + 1 + 1) ((w.alloc (.cells #[.slice Q q.length cq] 30)).alloc (.cells #[.string e.stream, .string e.type, .slice T e.tags.length ct, .slice B e.fields.length cb] 34)) w1 := by simpa using hb1
  have k1 : Bx w1 w.heap.size 30 [.slice Q q.length cq] := ((Bx.new w 30 [.slice Q q.length cq]).alloc _).below hb1' (by omega)
  have k1c := k1.c0
  have hq1 := (HQ.out _ _).stay (by simpa using hb1.size) (fun k hk hl => hb1.block k (by simp; omega))
  go_wp2_with fail
  refine (few_any _ hq1).mono ?_
  rintro r w2 ⟨A, c, rfl, hs2, hb2⟩
  have hH := HF.out w1 w2 A c hb1' hs2 hb2
  have m1 := (k1.under hb2).free 0
  have m0 := (k1.under hb2).c0
  clear HF HQ hq1 hs2 hb2 k1 k1c hb1 hb1'
  go_upto_region 3 with fail
  generalize w2.setCell ⟨w.heap.size, 0, none⟩ (.slice A (fewM q).length c) = w3 at hH ⊢
  clear m1 m0
  have j1 := hH.be.cell 1
  have j2 := hH.be.cell 2
  have jf := hH.be.free 2
  have j3 := hH.bq.c0
  simp only [List.getElem?_cons_succ, List.getElem?_cons_zero] at j1 j2
  go_upto_if 17 with fail
  go_cut [17] (fun _ wx => H06 w (fewM q) (cutE e) B cb wx A c T ct)
  case first =>
    have hcap := hH.st.1
    have hH := Lib.hid hH
    by_cases h20 : 20 < e.tags.length
    · have hH := Lib.hid (hH.out.cut h20)
      go_wp2_with fail
      go_meet
      case rel => exact hH.out
    · have hH := Lib.hid (hH.out.keep h20)
      go_wp2_with fail
      go_meet
      case rel => exact hH.out
  case rest =>
    have HC := Lib.hid hcut
    clear hcut hH j1 j2 j3 jf
    have hq8 : (fewM q).length ≤ 8 := by simp [fewM]; omega
    generalize fewM q = q at HC hq8
    generalize cutE e = e at HC
    go_wp2_with fail
    go_loopw [6, 7] (fun b i wr => ∃ k : Nat, k ≤ q.length ∧ i = .int .i64 k ∧ b = .bool (matchM (q.take k) e) ∧ H06 w q e B cb wr A c T ct) (fun b i _ => q.length - (intOf i).toNat)
    case atStart => exact ⟨0, Nat.zero_le _, rfl, rfl, HC.out⟩
    case round =>
      clear HC
      obtain ⟨k, hk, rfl, rfl, hf⟩ := hrel
      have HF := Lib.hid hf
      have c0 := hf.bq.c0
      clear hf
      by_cases hlt : k < q.length
      · obtain ⟨ad, x, S, sa, U, ua, rfl, hx, hp⟩ := HF.out.part hlt
        have HP := Lib.hid hp
        have HX := Lib.hid (mTake e q k x hx)
        have hcap := HF.out.sq.1
        have hcap2 := HF.out.sq.2.1
        have HK := Lib.hid hp.kept
        have C1 := Lib.hid hp.c1
        clear hp hx
        go_upto_region 9 with fail
        have p1 : (0 : Int) ≤ (k : Int) := by omega
        have p2 : IntKind.i64.wrap ((k : Int) + 1) = (k : Int) + 1 := by apply IntWalk.i64_in <;> (unfold maxLen at hcap2; omega)
        have p3 : (0 : Int) ≤ (k : Int) + 1 := by omega
        have p4 : (k : Int) + 1 ≤ (c : Int) := by omega
        have p5 : ((k : Int) + 1).toNat = k + 1 := by omega
        have p6 : (k : Int) ≤ (k : Int) + 1 := by omega
        have p7 : ¬ c = k := by omega
        go_region_held3 (fun W => Below wr.heap.size wr W ∧ W.cell? ⟨w.heap.size, 0, none⟩ = some (.slice (some ad) q.length c) ∧
    W.cell? ⟨w.heap.size + 1, 0, none⟩ = some (.string e.stream) ∧ W.cell? ⟨w.heap.size + 1, 1, none⟩ = some (.string e.type) ∧ W.cell? ⟨w.heap.size + 1, 2, none⟩ = some (.slice T e.tags.length ct) ∧ W.cell? ⟨w.heap.size + 1, 3, none⟩ = some (.slice B e.fields.length cb) ∧
    W.cell? (ad.add (k * 2)) = some (.slice S x.tags.length sa) ∧ W.cell? ⟨(ad.add (k * 2)).block, (ad.add (k * 2)).off + 1, none⟩ = some (.slice U x.types.length ua))
          (first | exact HK.out _ (below_drawn (Below.refl _ _)) | exact HK.out _ (bthen (below_drawn (Below.refl _ _)) (by assumption)))
          (first | (go_at_call 44; refine (C1.out _ _ (by assumption)).mono ?_; rintro r v1 ⟨rfl, hb⟩))
        go_upto_region 10 with fail
        have B1 := Lib.hid (And.left (by assumption : Below wr.heap.size wr v1 ∧ _))
        have C2 := Lib.hid (HP.out.c2 v1.drew True ⟨below_drawn B1.out, trivial⟩)
        go_region_held3 (fun W => Below wr.heap.size wr W ∧ W.cell? ⟨w.heap.size, 0, none⟩ = some (.slice (some ad) q.length c) ∧
    W.cell? ⟨w.heap.size + 1, 0, none⟩ = some (.string e.stream) ∧ W.cell? ⟨w.heap.size + 1, 1, none⟩ = some (.string e.type) ∧ W.cell? ⟨w.heap.size + 1, 2, none⟩ = some (.slice T e.tags.length ct) ∧ W.cell? ⟨w.heap.size + 1, 3, none⟩ = some (.slice B e.fields.length cb) ∧
    W.cell? (ad.add (k * 2)) = some (.slice S x.tags.length sa) ∧ W.cell? ⟨(ad.add (k * 2)).block, (ad.add (k * 2)).off + 1, none⟩ = some (.slice U x.types.length ua))
          (first | exact HK.out _ (below_drawn B1.out) | exact HK.out _ (below_drawn (below_made B1.out (Nat.le_refl _) _)) | exact HK.out _ (bthen (below_drawn B1.out) (by assumption)))
          (first | (go_at_call 44; refine C2.out.mono ?_; rintro r v2 ⟨rfl, hb⟩))
        go_upto_region 11 with fail
        have B2 := Lib.hid (And.left (by assumption : Below wr.heap.size wr v2 ∧ _))
        have C3 := Lib.hid (HP.out.c3 v2.drew True ⟨below_drawn B2.out, trivial⟩)
        go_region_held3 (fun W => Below wr.heap.size wr W ∧ W.cell? ⟨w.heap.size, 0, none⟩ = some (.slice (some ad) q.length c) ∧
    W.cell? ⟨w.heap.size + 1, 0, none⟩ = some (.string e.stream) ∧ W.cell? ⟨w.heap.size + 1, 1, none⟩ = some (.string e.type) ∧ W.cell? ⟨w.heap.size + 1, 2, none⟩ = some (.slice T e.tags.length ct) ∧ W.cell? ⟨w.heap.size + 1, 3, none⟩ = some (.slice B e.fields.length cb) ∧
    W.cell? (ad.add (k * 2)) = some (.slice S x.tags.length sa) ∧ W.cell? ⟨(ad.add (k * 2)).block, (ad.add (k * 2)).off + 1, none⟩ = some (.slice U x.types.length ua))
          (first | exact HK.out _ (below_drawn B2.out) | exact HK.out _ (below_drawn (below_made B2.out (Nat.le_refl _) _)) | exact HK.out _ (bthen (below_drawn B2.out) (by assumption)))
          (first | (go_at_call 44; refine C3.out.mono ?_; rintro r v3 ⟨rfl, hb⟩))
        go_upto_region 12 with fail
        have B3 := Lib.hid (And.left (by assumption : Below wr.heap.size wr v3 ∧ _))
        have HZ := Lib.hid (HF.out.under B3.out)
        clear HP HK C1 C2 C3 B1 B2 B3 c0 HF
        generalize tagsM e x = t at HX ⊢
        generalize typesM e x = y at HX ⊢
        generalize matchM (q.take k) e = m at HX ⊢
        rcases t with _ | _ <;> rcases y with _ | _ <;> rcases m with _ | _
        all_goals go_wp2_with fail
        all_goals go_roundw
        all_goals first | exact ⟨k + 1, by omega, by go_num, by rw [HX.out]; rfl, HZ.out⟩ | (simp [intOf]; omega)
      · obtain rfl : k = q.length := by omega
        rw [List.take_length]
        obtain ⟨_, k0, k1, k2, k3, k4⟩ := HF.out.kept wr (Below.refl _ _)
        have C0 := Lib.hid (HF.out.c0 wr True ⟨Below.refl _ _, trivial⟩)
        have HB := Lib.hid HF.out.bel
        clear HF
        generalize matchM q e = b at C0 ⊢
        rcases b with _ | _
        · go_wp2_with fail
          refine C0.out.mono ?_
          rintro r w' ⟨rfl, hb⟩
          go_wp2
          go_ret
          exact ⟨rfl, bthen HB.out hb⟩
        · go_wp2_with fail
          refine C0.out.mono ?_
          rintro r w' ⟨rfl, hb⟩
          go_wp2
          go_ret
          exact ⟨rfl, bthen HB.out hb⟩
end Go.Proofs.Ytohhapceeohhdaa
