/- registrarref04.Norm: what it comes to (walk). -/
import Derived.Test.YthinieokpgmfoaaNorm04
import Derived.Test.YthinieokpgmfoaaPut04
import Derived.Test.YthinieokpgmfoaaStep
set_option linter.unusedVariables false
set_option linter.unusedSimpArgs false
namespace Go.Proofs.Ythinieokpgmfoaa
open Go.RowKit

theorem put_uniq4 {xs l' : List ByteArray} {j : Nat} (hj : j < xs.length) (h : PutR (uniq (xs.take j)) xs[j] l') : l' = uniq (xs.take (j + 1)) := by
  refine riseB_eq h.rise (uniq_rise _) (fun x => ?_)
  rw [h.mem, mem_uniq, mem_uniq, List.take_succ_eq_append_getElem hj, List.mem_append, List.mem_singleton]
theorem uniq_nil4 : uniq [] = [] := List.eq_nil_of_length_eq_zero (Nat.le_zero.1 (uniq_len []))
/-- The last field of a name. -/
def curF (l : List (ByteArray × Int)) (s : ByteArray) : ByteArray × Int := l.foldl (fun a x => if x.1 = s then x else a) (⟨#[]⟩, 0)
theorem curF_snoc (l : List (ByteArray × Int)) (x : ByteArray × Int) (s : ByteArray) : curF (l ++ [x]) s = if x.1 = s then x else curF l s := by simp [curF, List.foldl_append]
theorem curF_two (s : ByteArray) : ∀ (l : List (ByteArray × Int)) (a : ByteArray × Int), (l.foldl (fun a x => if x.1 = s then x else a) a).2 = l.foldl (fun a x => if x.1 = s then x.2 else a) a.2
  | [], _ => rfl
  | x :: l, a => by
    rw [List.foldl_cons, List.foldl_cons, curF_two s l]
    congr 1
    split <;> rfl
theorem curF_one (s : ByteArray) : ∀ (l : List (ByteArray × Int)) (a : ByteArray × Int), (s ∈ l.map (·.1) ∨ a.1 = s) → (l.foldl (fun a x => if x.1 = s then x else a) a).1 = s
  | [], a, h => h.elim (fun h => by simp at h) id
  | x :: l, a, h => by
    rw [List.foldl_cons]
    apply curF_one s l
    by_cases hx : x.1 = s
    · right; rw [if_pos hx]; exact hx
    · rw [if_neg hx]
      rcases h with h | h
      · rw [List.map_cons, List.mem_cons] at h
        exact .inl (h.resolve_left (fun e => hx e.symm))
      · exact .inr h
theorem curF_eq {l : List (ByteArray × Int)} {s : ByteArray} (h : s ∈ l.map (·.1)) : curF l s = (s, lastF l s) :=
  Prod.ext (curF_one s l _ (.inl h)) (curF_two s l _)

/-- Norm's state ahead of its third loop. -/
structure Rn1 (w : World) (e : Event) (T F : Option Addr) (ct cf : Nat) (t : List ByteArray) (wr : World) : Prop where
  b1 : Bx wr w.heap.size 28 [.string e.stream, .string e.type, .slice T e.tags.length ct, .slice F e.fields.length cf]
  b2 : Bx wr (w.heap.size + 1) 28 [.string ⟨#[]⟩, .string ⟨#[]⟩, .slice none 0 0, .slice none 0 0]
  b3 : ∃ T' c', Bx wr (w.heap.size + 1 + 1) 28 [.string e.stream, .string e.type, .slice T' t.length c', .slice none 0 0] ∧ Sl Kn.str (fun k => w.heap.size + 3 ≤ k) wr T' c' t
  ts : Sl Kn.str (fun k => k < w.heap.size) wr T ct e.tags
  fs : Sl kField (fun k => k < w.heap.size) wr F cf e.fields
  size : w.heap.size + 3 ≤ wr.heap.size
  bel : Below w.heap.size w wr
theorem Rn1.below {w : World} {e : Event} {T F : Option Addr} {ct cf : Nat} {t : List ByteArray} {wr wr' : World} (h : Rn1 w e T F ct cf t wr) (hb : Below wr.heap.size wr wr') : Rn1 w e T F ct cf t wr' := by
  obtain ⟨T', c', h3, h4⟩ := h.b3
  exact ⟨h.b1.under hb, h.b2.under hb, ⟨T', c', h3.under hb, h4.below hb⟩, h.ts.below hb, h.fs.below hb, Nat.le_trans h.size hb.size, bthen h.bel hb⟩
theorem Rn1.put {w : World} {e : Event} {T F : Option Addr} {ct cf : Nat} {t t' : List ByteArray} {wr W : World} (h : Rn1 w e T F ct cf t wr) (hb : Below wr.heap.size wr W) {A : Option Addr} {c : Nat} (hs : Sl Kn.str (fun k => (w.heap.size + 3 ≤ k) ∨ wr.heap.size ≤ k) W A c t') :
    Rn1 w e T F ct cf t' (W.setCell ⟨w.heap.size + 1 + 1, 2, none⟩ (.slice A t'.length c)) := by
  obtain ⟨T', c', h3, h4⟩ := h.b3
  have hz := h.size
  have hz2 := hb.size
  refine ⟨(h.b1.under hb).far (by simp; omega) _, (h.b2.under hb).far (by simp) _, ⟨A, c, (h3.under hb).set 2 _, ?_⟩, (h.ts.below hb).setCell (fun k hk => by simp; omega) _, (h.fs.below hb).setCell (fun k hk => by simp; omega) _, by simp [World.setCell]; omega, (bthen h.bel hb).setCell (by simp; omega) _⟩
  exact (hs.setCell (fun k hk => by simp; omega) _).mono (fun k hk => by omega)
theorem Nm2.below {w : World} {e : Event} {vt : Value} {X : World} {j : Nat} {v : Value} {wr wr' : World} (h : Nm2 w e vt X j v wr) (hb : Below wr.heap.size wr wr') : Nm2 w e vt X j v wr' :=
  ⟨h.b3.under hb, h.own.below hb, ⟨hb.os.trans h.save.os, hb.tape.trans h.save.tape, hb.output.trans h.save.output, Nat.le_trans h.save.size hb.size, fun k hk hn => (hb.block k (Nat.lt_of_lt_of_le hk h.save.size)).trans (h.save.block k hk hn)⟩⟩

set_option maxHeartbeats 4000000 in
set_option maxRecDepth 100000 in
theorem refNormE_any {w : World} {e : Event} {T F : Option Addr} {ct cf : Nat} (hT : SlS w T ct e.tags) (hF : SlF w F cf e.fields) (hlt : e.tags.length ≤ 1000000) (hl : e.fields.length ≤ 1000000) :
    Calls Try.prog 22 #[vEvent e T ct F cf] w fun r w' => ∃ (T' F' : Option Addr) (ct' cf' : Nat), r = .returned (.agg #[.string e.stream, .string e.type, .slice T' (uniq e.tags).length ct', .slice F' (normF e.fields).length cf']) ∧ SlS w' T' ct' (uniq e.tags) ∧ SlF w' F' cf' (normF e.fields) ∧ Below w.heap.size w w' := by
  have h0 : Rn1 w e T F ct cf (uniq (e.tags.take 0)) (((w.alloc (.cells #[.string e.stream, .string e.type, .slice T e.tags.length ct, .slice F e.fields.length cf] 28)).alloc (.cells #[.string ⟨#[]⟩, .string ⟨#[]⟩, .slice none 0 0, .slice none 0 0] 28)).alloc (.cells #[.string e.stream, .string e.type, .slice none 0 0, .slice none 0 0] 28)) := by
    rw [List.take_zero, uniq_nil4]
    have hb3 : Below w.heap.size w (((w.alloc (.cells #[.string e.stream, .string e.type, .slice T e.tags.length ct, .slice F e.fields.length cf] 28)).alloc (.cells #[.string ⟨#[]⟩, .string ⟨#[]⟩, .slice none 0 0, .slice none 0 0] 28)).alloc (.cells #[.string e.stream, .string e.type, .slice none 0 0, .slice none 0 0] 28)) := (((Below.refl _ _).alloc (Nat.le_refl _) _).alloc (by simp) _).alloc (by simp; omega) _
    refine ⟨((Bx.new w _ _).alloc _).alloc _, ?_, ⟨none, 0, ?_, Sl.nil_⟩, (hT.bound.mono (fun k hk => hk.2)).below hb3, (hF.bound.mono (fun k hk => hk.2)).below hb3, by simp, hb3⟩
    · exact (by simpa using Bx.new (w.alloc (.cells #[.string e.stream, .string e.type, .slice T e.tags.length ct, .slice F e.fields.length cf] 28)) 28 [.string ⟨#[]⟩, .string ⟨#[]⟩, .slice none 0 0, .slice none 0 0] : Bx _ (w.heap.size + 1) _ _).alloc _
    · simpa using Bx.new ((w.alloc (.cells #[.string e.stream, .string e.type, .slice T e.tags.length ct, .slice F e.fields.length cf] 28)).alloc (.cells #[.string ⟨#[]⟩, .string ⟨#[]⟩, .slice none 0 0, .slice none 0 0] 28)) 28 [.string e.stream, .string e.type, .slice none 0 0, .slice none 0 0]
  have H0 := Lib.hid h0
  have ht1 := hT.1
  have ht2 := hT.2.1
  have hf1 := hF.1
  have hf2 := hF.2.1
  unfold maxLen at ht2 hf2
  clear h0 hT hF
  go_enter Try.func22, Try.ntmps22
  go_wp2
  go_loopw [4] (fun i wr => ∃ j : Nat, j ≤ e.tags.length ∧ i = .int .i64 j ∧ Rn1 w e T F ct cf (uniq (e.tags.take j)) wr) (fun i _ => e.tags.length - (intOf i).toNat)
  case atStart => exact ⟨0, Nat.zero_le _, rfl, H0.out⟩
  case round =>
    clear H0
    obtain ⟨j, hj, rfl, hi⟩ := hrel
    have k12 := hi.b1.cell 2
    simp only [List.getElem?_cons_succ, List.getElem?_cons_zero] at k12
    by_cases hjl : j < e.tags.length
    · obtain ⟨sd, rfl, hsx⟩ := row_str_at hi.ts.2.2 hjl
      obtain ⟨T1, c1, hbc, hst⟩ := hi.b3
      have hul := uniq_len (e.tags.take j)
      rw [List.length_take] at hul
      have CP := Lib.hid (fun W (hb : Below wr.heap.size wr W) => Put_any (hst.below hb) (by omega) (uniq_rise _) (e.tags[j]'hjl))
      have HPU := Lib.hid (fun l' (h : PutR (uniq (e.tags.take j)) (e.tags[j]'hjl) l') => put_uniq4 hjl h)
      have HI := Lib.hid hi
      have HBC := Lib.hid hbc
      have k32 := hbc.cell 2
      simp only [List.getElem?_cons_succ, List.getElem?_cons_zero] at k32
      have j1 : (0 : Int) ≤ (j : Int) := Int.natCast_nonneg _
      have j2 : (j : Int) < (e.tags.length : Int) := by omega
      generalize e.tags[j]'hjl = y at hsx CP HPU
      clear hbc hst hi hul
      go_upto_region 5 with fail
      go_region_law (first
        | (go_simp; go_at_call 49; go_fit (CP.out _ (below_drawn (Below.refl _ _))); rintro r w5 ⟨A5, c5, l5, rfl, hs5, hp5, hb5⟩; have HS5 := Lib.hid hs5; have HL5 := Lib.hid (HPU.out _ hp5); have HB5 := Lib.hid (show Below wr.heap.size wr w5 from bthen (below_drawn (Below.refl _ _)) hb5); have m0 := (HBC.out.under HB5.out).cell 2; simp only [List.getElem?_cons_succ, List.getElem?_cons_zero] at m0; have mf := (HBC.out.under HB5.out).free 2; clear hs5 hp5 hb5))
      all_goals go_wp2_with fail
      all_goals go_roundw
      all_goals first
        | exact ⟨j + 1, by omega, by go_num, by rw [← HL5.out]; exact HI.out.put HB5.out HS5.out⟩
        | (simp [intOf]; omega)
    · have HI := Lib.hid (show Rn1 w e T F ct cf (uniq e.tags) wr from by rwa [List.take_of_length_le (by omega)] at hi)
      clear hi
      obtain ⟨w1, hw1⟩ : ∃ w1, w1 = wr := ⟨_, rfl⟩
      subst hw1
      have HI0 := Lib.hid (HI.out.below ((Below.refl _ _).alloc (Nat.le_refl _) (.cells #[] 9)))
      go_wp2_with fail
      go_loopw [5, 6] (fun v i wr => ∃ (j : Nat) (N : Option Addr) (cn : Nat), j ≤ e.fields.length ∧ i = .int .i64 j ∧ v = .slice N (uniq (fnames (e.fields.take j))).length cn ∧ Sl Kn.str (fun k => w.heap.size + 3 ≤ k) wr N cn (uniq (fnames (e.fields.take j))) ∧ Rn1 w e T F ct cf (uniq e.tags) wr) (fun _ i _ => e.fields.length - (intOf i).toNat)
      case atStart => exact ⟨0, some ⟨w1.heap.size, 0, none⟩, 0, Nat.zero_le _, rfl, by show _ = Value.slice _ (uniq []).length 0; rw [uniq_nil4]; rfl, by show Sl _ _ _ _ _ (uniq []); rw [uniq_nil4]; exact ⟨Nat.le_refl _, by simp [maxLen], Row.nil_⟩, HI0.out⟩
      case round =>
        clear HI0
        obtain ⟨j, N, cn, hj, rfl, rfl, hn, hi⟩ := hrel
        have k13 := hi.b1.cell 3
        simp only [List.getElem?_cons_succ, List.getElem?_cons_zero] at k13
        by_cases hjl : j < e.fields.length
        · obtain ⟨fd, rfl, hfx, hfy⟩ := row_field_at hi.fs.2.2 hjl
          have hul := uniq_len (fnames (e.fields.take j))
          rw [show (fnames (e.fields.take j)).length = j by simp [fnames]; omega] at hul
          have CP := Lib.hid (Put_any hn (by omega) (uniq_rise _) (e.fields[j]'hjl).1)
          have HPU := Lib.hid (fun l' (h : PutR (uniq (fnames (e.fields.take j))) (e.fields[j]'hjl).1 l') => show l' = uniq (fnames (e.fields.take (j + 1))) from by
            refine riseB_eq h.rise (uniq_rise _) (fun x => ?_)
            rw [h.mem, mem_uniq, mem_uniq]
            unfold fnames
            rw [List.take_succ_eq_append_getElem hjl, List.map_append, List.mem_append]
            simp)
          have HI2 := Lib.hid hi
          have j1 : (0 : Int) ≤ (j : Int) := Int.natCast_nonneg _
          have j2 : (j : Int) < (e.fields.length : Int) := by omega
          generalize e.fields[j]'hjl = y at hfx hfy CP HPU
          have hzz := hi.size
          clear hn hi hul
          go_wp2_with (go_at_call 49; go_fit CP.out; rintro r w5 ⟨A5, c5, l5, rfl, hs5, hp5, hb5⟩; have HS5 := Lib.hid (hs5.mono (ok' := fun k => w.heap.size + 3 ≤ k) (fun k hk => by omega)); have HL5 := Lib.hid (HPU.out _ hp5); have HB5 := Lib.hid hb5; clear hs5 hp5 hb5)
          go_roundw
          case rel => exact ⟨j + 1, A5, c5, by omega, by go_num, by rw [← HL5.out], by rw [← HL5.out]; exact HS5.out, HI2.out.below HB5.out⟩
          case measure => simp [intOf]; omega
        · obtain rfl : j = e.fields.length := by omega
          have hfin : fnames (e.fields.take e.fields.length) = fnames e.fields := by rw [List.take_length]
          rw [hfin] at hn ⊢
          clear hfin
          obtain ⟨ns, hns⟩ : ∃ ns, ns = uniq (fnames e.fields) := ⟨_, rfl⟩
          have HNS := Lib.hid hns
          rw [← hns] at hn ⊢
          have hnl : ns.length ≤ 1000000 := by
            rw [hns]
            have := uniq_len (fnames e.fields)
            simp [fnames] at this
            simp [fnames]
            omega
          have HNL := Lib.hid hnl
          have HMEM := Lib.hid (show ∀ s ∈ ns, s ∈ e.fields.map (·.1) from fun s hs => by rw [hns, mem_uniq] at hs; exact hs)
          clear hns hnl
          obtain ⟨X, hX⟩ : ∃ X, X = wr := ⟨_, rfl⟩
          subst hX
          obtain ⟨T1, c1, hbc, hst⟩ := hi.b3
          have HX := Lib.hid hi
          have HKX := Lib.hid hn.bound
          have HST := Lib.hid hst.bound
          have HBC := Lib.hid hbc
          have hs1 := hn.1
          have hs2 := hn.2.1
          unfold maxLen at hs2
          have hsx := hi.size
          clear hi hn hbc hst HI
          go_wp2_with fail
          clear k13
          go_loopw [7] (fun i wr => ∃ (k : Nat) (v : Value), k ≤ ns.length ∧ i = .int .i64 k ∧ Nm2 w e (.slice T1 (uniq e.tags).length c1) X k v wr) (fun i _ => ns.length - (intOf i).toNat)
          case atStart => exact ⟨0, .slice none 0 0, Nat.zero_le _, rfl, HBC.out, Own.nil_ _ _ _ _ _, Save.refl _ _⟩
          case round =>
            obtain ⟨k, v, hk, rfl, hf⟩ := hrel
            obtain ⟨w2, hw2⟩ : ∃ w2, w2 = wr := ⟨_, rfl⟩
            subst hw2
            by_cases hkl : k < ns.length
            · have hsv : ∀ i, i < X.heap.size → i ≠ w.heap.size + 1 + 1 → w2.heap[i]? = X.heap[i]? := hf.save.block
              have hnr := (HKX.out.stay hf.save.size (fun i hi hl => hsv i hi.2 (by omega)))
              have hfr := (HX.out.fs.stay hf.save.size (fun i hi hl => hsv i (by omega) (by omega)))
              have hb1 := HX.out.b1.stay (fun hl => hsv _ hl (by omega))
              obtain ⟨nd, rfl, hnx⟩ := row_str_at hnr.2.2 hkl
              have HF2 := Lib.hid hf
              have HGE := Lib.hid (show (uniq (fnames e.fields))[k]? = some ns[k] by rw [← HNS.out]; exact List.getElem?_eq_getElem hkl)
              have HLN := Lib.hid (show ∀ y, (((uniq (fnames e.fields)).take k).map (fun s => (s, lastF e.fields s)) ++ [y]).length = k + 1 by intro y; rw [← HNS.out]; simp; omega)
              have HCE := Lib.hid (curF_eq (HMEM.out _ (List.getElem_mem hkl)))
              have HNK := Lib.hid (fun W (hb : Below w2.heap.size w2 W) => show W.cell? (nd.add k) = some (.string (ns[k]'hkl)) from by
                obtain ⟨nd', e1, h1⟩ := row_str_at (hnr.below hb).2.2 hkl
                obtain rfl := Option.some.inj e1
                exact h1)
              have HFR := Lib.hid hfr
              have HB1 := Lib.hid hb1
              generalize ns[k]'hkl = s at hnx HGE HCE HNK
              have e1 : (0 : Int) ≤ (k : Int) := Int.natCast_nonneg _
              have e2 : (k : Int) < (ns.length : Int) := by omega
              have hx0 := Bx.new w2 41 [.string ⟨#[]⟩, .int .i64 0]
              have hbY : Below w2.heap.size w2 (w2.alloc (.cells #[.string ⟨#[]⟩, .int .i64 0] 41)) := (Below.refl _ _).alloc (Nat.le_refl _) _
              have HX0 := Lib.hid hx0
              have HBY := Lib.hid hbY
              clear hf hnr hfr hb1 hx0 hbY hsv
              go_upto_region 15 with fail
              generalize w2.alloc (.cells #[.string ⟨#[]⟩, .int .i64 0] 41) = Y at HX0 HBY ⊢
              obtain ⟨g, hg⟩ : ∃ g, g = w2.heap.size := ⟨_, rfl⟩
              rw [← hg] at HX0 ⊢
              have HG := Lib.hid hg
              clear hg
              go_wp2_with fail
              go_loopw [9] (fun i wx => ∃ j : Nat, j ≤ e.fields.length ∧ i = .int .i64 j ∧ Bx wx g 41 [.string (curF (e.fields.take j) s).1, .int .i64 (curF (e.fields.take j) s).2] ∧ Below w2.heap.size w2 wx) (fun i _ => e.fields.length - (intOf i).toNat)
              case atStart => exact ⟨0, Nat.zero_le _, rfl, HX0.out, HBY.out⟩
              case round =>
                clear HX0 HBY
                obtain ⟨j, hj, rfl, hbx, hb⟩ := hrel
                have k13 := (HB1.out.under hb).cell 3
                simp only [List.getElem?_cons_succ, List.getElem?_cons_zero] at k13
                have hnx := HNK.out _ hb
                by_cases hjl : j < e.fields.length
                · obtain ⟨fd, rfl, hfx, hfy⟩ := row_field_at (HFR.out.below hb).2.2 hjl
                  have HCS := Lib.hid (curF_snoc (e.fields.take j) e.fields[j] s)
                  rw [← List.take_succ_eq_append_getElem hjl] at HCS
                  have j1 : (0 : Int) ≤ (j : Int) := Int.natCast_nonneg _
                  have j2 : (j : Int) < (e.fields.length : Int) := by omega
                  generalize e.fields[j] = y at hfx hfy HCS
                  have HBX := Lib.hid hbx
                  have HB := Lib.hid hb
                  have HFD := Lib.hid (fun n => show (wr.drewN n).cell? (fd.add (j * 2)) = some (.string y.1) ∧ (wr.drewN n).cell? ⟨(fd.add (j * 2)).block, (fd.add (j * 2)).off + 1, none⟩ = some (.int .i64 y.2) from ⟨hfx, hfy⟩)
                  have g0 := hbx.cell 0
                  have g1 := hbx.cell 1
                  simp only [List.getElem?_cons_succ, List.getElem?_cons_zero] at g0 g1
                  have gf0 := hbx.free 0
                  have gf1 := hbx.free 1
                  have hq := strEqL y.1 s
                  clear hbx hb
                  by_cases hys : y.1 = s
                  · rw [decide_eq_true hys] at hq
                    have HC := Lib.hid (show curF (e.fields.take (j + 1)) s = y by rw [HCS.out, if_pos hys])
                    clear hys HCS
                    have gg0 := (HBX.out.drewN 1).cell 0
                    go_upto_region 18 with fail
                    go_quiet (fail)
                    go_wp2_with fail
                    go_roundw
                    case rel => exact ⟨j + 1, by omega, by go_num, by rw [HC.out]; exact ((HBX.out.drewN _).set 0 _).set 1 _, ((below_drewN HB.out _).setCell (by rw [HG.out]; exact Nat.le_refl _) _).setCell (by rw [HG.out]; exact Nat.le_refl _) _⟩
                    case measure => simp [intOf]; omega
                  · rw [decide_eq_false hys] at hq
                    have HC := Lib.hid (show curF (e.fields.take (j + 1)) s = curF (e.fields.take j) s by rw [HCS.out, if_neg hys])
                    clear hys HCS
                    go_upto_region 18 with fail
                    go_quiet (fail)
                    go_wp2_with fail
                    go_roundw
                    case rel => exact ⟨j + 1, by omega, by go_num, by rw [HC.out]; exact HBX.out.drewN _, below_drewN HB.out _⟩
                    case measure => simp [intOf]; omega
                · obtain rfl : j = e.fields.length := by omega
                  rw [List.take_length, HCE.out] at hbx
                  have HBX := Lib.hid hbx
                  have HM2 := Lib.hid (HF2.out.below hb)
                  have g0 := hbx.cell 0
                  have g1 := hbx.cell 1
                  have k33 := HM2.out.b3.cell 3
                  simp only [List.getElem?_cons_succ, List.getElem?_cons_zero] at g0 g1 k33
                  have HSZ := Lib.hid hsx
                  clear hbx hb
                  go_wp2_with (at_builtin; refine wpList_pushH (d := kField) (W := wr) rfl _ _ _ rfl 41 _ 2 24 Try.underlying26 infoField rfl (by decide) (by decide) rfl X.heap.size (fun _ => False) v _ rfl HM2.out.own (s, lastF e.fields s) [.string s, .int .i64 (lastF e.fields s)] ⟨[.string s], [.int .i64 (lastF e.fields s)], rfl, rfl, rfl⟩ wr.heap.size rfl rfl HM2.out.save.size (by have h1 := HLN.out (s, 0); have h2 := HNL.out; simp only [List.length_append, List.length_cons, List.length_nil] at h1; omega) ?_; intro v1 w5 hown5 hg5 hat5 hbel5; obtain ⟨V5, cv5, hv5, _⟩ := hown5.sl; rw [HLN.out] at hv5; subst hv5; have j0 := (HM2.out.b3.grown hg5 (fun e => by have := HM2.out.own.base_le _ e.symm; have := HSZ.out; omega)).cell 3; simp only [List.getElem?_cons_succ, List.getElem?_cons_zero] at j0; have j1 := (HM2.out.b3.grown hg5 (fun e => by have := HM2.out.own.base_le _ e.symm; have := HSZ.out; omega)).free 3; have HST2 := Lib.hid (HM2.out.step HSZ.out hg5 HGE.out hown5); clear hown5 hg5 hat5 hbel5)
                  go_roundw
                  case rel => exact ⟨k + 1, _, by omega, by go_num, HST2.out⟩
                  case measure => simp [intOf]; omega
            · obtain rfl : k = ns.length := by omega
              have hown := hf.own
              rw [List.take_of_length_le (by rw [← HNS.out]; exact Nat.le_refl _)] at hown
              obtain ⟨V, cv, hv, hsl⟩ := hown.sl
              rw [List.length_map] at hv
              subst hv
              have HOW := Lib.hid (show Sl kField (fun k => X.heap.size ≤ k) w2 V cv (normF e.fields) from hsl.mono (fun k hk => hk.elim False.elim id))
              have HSV := Lib.hid hf.save
              have HOT := Lib.hid (HST.out.stay hf.save.size (fun i hi hl => hf.save.block i hl (by omega)))
              have hb2 := HX.out.b2.stay (fun hl => hf.save.block _ hl (by omega))
              have HB2 := Lib.hid hb2
              have c20 := hb2.cell 0
              have c21 := hb2.cell 1
              have c22 := hb2.cell 2
              have c23 := hb2.cell 3
              have f20 := hb2.free 0
              have f21 := hb2.free 1
              have f22 := hb2.free 2
              have f23 := hb2.free 3
              have c30 := hf.b3.cell 0
              have c31 := hf.b3.cell 1
              have c32 := hf.b3.cell 2
              have c33 := hf.b3.cell 3
              simp only [List.getElem?_cons_succ, List.getElem?_cons_zero] at c20 c21 c22 c23 c30 c31 c32 c33
              have hnn : (normF e.fields).length = (uniq (fnames e.fields)).length := by simp [normF]
              have HNN := Lib.hid hnn
              clear hf hown hsl hb2 hnn
              go_wp2_with fail
              have hR := Lib.hid (((((HB2.out.set 0 (.string e.stream)).set 1 (.string e.type)).set 2 (.slice T1 (uniq e.tags).length c1)).set 3 (.slice V (uniq (fnames e.fields)).length cv) : Bx _ _ _ _))
              have r0 := hR.out.cell 0
              have r1 := hR.out.cell 1
              have r2 := hR.out.cell 2
              have r3 := hR.out.cell 3
              simp only [List.set_cons_zero, List.set_cons_succ, List.getElem?_cons_succ, List.getElem?_cons_zero] at r0 r1 r2 r3
              have ho1 := (((HOT.out.setCell (p := ⟨w.heap.size + 1, 0, none⟩) (fun k h => by simp; omega) (.string e.stream)).setCell (p := ⟨w.heap.size + 1, 1, none⟩) (fun k h => by simp; omega) (.string e.type)).setCell (p := ⟨w.heap.size + 1, 2, none⟩) (fun k h => by simp; omega) (.slice T1 (uniq e.tags).length c1)).setCell (p := ⟨w.heap.size + 1, 3, none⟩) (fun k h => by simp; omega) (.slice V (uniq (fnames e.fields)).length cv)
              have ho2 := (((HOW.out.setCell (p := ⟨w.heap.size + 1, 0, none⟩) (fun k h => by simp; omega) (.string e.stream)).setCell (p := ⟨w.heap.size + 1, 1, none⟩) (fun k h => by simp; omega) (.string e.type)).setCell (p := ⟨w.heap.size + 1, 2, none⟩) (fun k h => by simp; omega) (.slice T1 (uniq e.tags).length c1)).setCell (p := ⟨w.heap.size + 1, 3, none⟩) (fun k h => by simp; omega) (.slice V (uniq (fnames e.fields)).length cv)
              have hbf := HSV.out.below HX.out.bel (by omega)
              have hb4 := (((hbf.setCell (p := ⟨w.heap.size + 1, 0, none⟩) (by simp) (.string e.stream)).setCell (p := ⟨w.heap.size + 1, 1, none⟩) (by simp) (.string e.type)).setCell (p := ⟨w.heap.size + 1, 2, none⟩) (by simp) (.slice T1 (uniq e.tags).length c1)).setCell (p := ⟨w.heap.size + 1, 3, none⟩) (by simp) (.slice V (uniq (fnames e.fields)).length cv)
              exact bodyPost_ret (v := .agg #[.string e.stream, .string e.type, .slice T1 (uniq e.tags).length c1, .slice V (uniq (fnames e.fields)).length cv]) (by simp [results, Try.results22, go_sem, r0, r1, r2, r3]) rfl ⟨T1, V, c1, cv, by rw [HNN.out], ho1.any, ho2.any, hb4⟩
end Go.Proofs.Ythinieokpgmfoaa
