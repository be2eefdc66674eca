/- event.Norm. -/
import Derived.Test.YthinieokpgmfoaaEv04b
import Derived.Test.YthinieokpgmfoaaSlTags
import Derived.Test.YthinieokpgmfoaaMapInt
import Derived.Deep.DeepFit
import Derived.Carry
set_option linter.unusedVariables false
set_option linter.unusedSimpArgs false
namespace Go.Proofs.Ythinieokpgmfoaa
open Go.RowKit Go.Maps Go.WideMaps Go.ChangeMaps

/-- All old blocks but g stay. -/
structure Save (g : Nat) (w w' : World) : Prop where
  os : w'.os = w.os
  tape : w'.tape = w.tape
  output : w'.output = w.output
  size : w.heap.size ≤ w'.heap.size
  block : ∀ k, k < w.heap.size → k ≠ g → w'.heap[k]? = w.heap[k]?
theorem Save.refl (g : Nat) (w : World) : Save g w w := ⟨rfl, rfl, rfl, Nat.le_refl _, fun _ _ _ => rfl⟩
theorem Save.below {g : Nat} {w0 w w' : World} (h : Save g w w') (hb : Below w0.heap.size w0 w) (hg : w0.heap.size ≤ g) : Below w0.heap.size w0 w' :=
  ⟨h.os.trans hb.os, h.tape.trans hb.tape, h.output.trans hb.output, Nat.le_trans hb.size h.size, fun k hk => (h.block k (by have := hb.size; omega) (by omega)).trans (hb.block k hk)⟩
theorem infoField : (Try.prog.info? 41).map (fun i => (i.zero, i.size, i.bytes)) = some (some (.agg #[.string ByteArray.empty, .int .i64 0]), 2, 24) := by kernel_rfl
/-- Fields in order: each name once, with its last number. -/
def normF (l : List (ByteArray × Int)) : List (ByteArray × Int) := (uniq (fnames l)).map (fun s => (s, lastF l s))
def normE (e : Event) : Event := ⟨e.stream, e.type, uniq e.tags, normF e.fields⟩
theorem normF_succ (l : List (ByteArray × Int)) (ns : List ByteArray) (k : Nat) (h : k < ns.length) : (ns.take (k + 1)).map (fun s => (s, lastF l s)) = (ns.take k).map (fun s => (s, lastF l s)) ++ [(ns[k], lastF l ns[k])] := by
  rw [List.take_succ_eq_append_getElem h, List.map_append]; rfl
/-- Norm's state at the head of its first loop. -/
structure Nm1 (w : World) (e : Event) (T F : Option Addr) (ct cf : Nat) (vt : Value) (m k : Nat) (wr : World) : Prop where
  b1 : Bx wr w.heap.size 28 [.string e.stream, .string e.type, .slice T e.tags.length ct, .slice F e.fields.length cf]
  b2 : Bx wr (w.heap.size + 1) 28 [.string ⟨#[]⟩, .string ⟨#[]⟩, .slice none 0 0, .slice none 0 0]
  b3 : Bx wr (w.heap.size + 1 + 1) 28 [.string e.stream, .string e.type, vt, .slice none 0 0]
  own : Own Kn.str 9 (w.heap.size + 3) (fun _ => False) wr vt (uniq e.tags)
  mi : ∃ D, Mi wr m k D (e.fields.take k)
  mb : w.heap.size + 3 ≤ m
  mt : ∀ j, vt.ownBlock = some j → j < m
  bel : Below w.heap.size w wr
theorem Nm1.below {w : World} {e : Event} {T F : Option Addr} {ct cf : Nat} {vt : Value} {m k : Nat} {wr wr' : World} (h : Nm1 w e T F ct cf vt m k wr) (hb : Below wr.heap.size wr wr') : Nm1 w e T F ct cf vt m k wr' :=
  ⟨h.b1.under hb, h.b2.under hb, h.b3.under hb, h.own.below hb, h.mi.imp (fun _ hm => hm.below hb), h.mb, h.mt, bthen h.bel hb⟩
theorem Nm1.step {w : World} {e : Event} {T F : Option Addr} {ct cf : Nat} {vt : Value} {m k : Nat} {wr wr' : World} (h : Nm1 w e T F ct cf vt m k wr) (hk : k < e.fields.length) {D : DataW Value} (hm : Mi wr' m (k + 1) D (e.fields.take k ++ [e.fields[k]])) (hg : wr.grownBy wr' (some m)) : Nm1 w e T F ct cf vt m (k + 1) wr' := by
  have hmb := h.mb
  have hne : ∀ j, j < m → some j ≠ some m := fun j hj e => by injection e with e; omega
  refine ⟨h.b1.grown hg (hne _ (by omega)), h.b2.grown hg (hne _ (by omega)), h.b3.grown hg (hne _ (by omega)), ?_, ⟨D, ?_⟩, h.mb, h.mt, ?_⟩
  · exact h.own.stay hg.size (fun j hj hl => hg.block j hl (hj.elim False.elim (fun hj => hne j (h.mt j hj))))
  · rw [List.take_succ_eq_append_getElem hk]; exact hm
  · exact ⟨hg.os.trans h.bel.os, hg.tape.trans h.bel.tape, hg.output.trans h.bel.output, Nat.le_trans h.bel.size hg.size, fun j hj => (hg.block j (by have := h.bel.size; omega) (hne j (by omega))).trans (h.bel.block j hj)⟩

theorem Nm1.put {w : World} {e : Event} {T F : Option Addr} {ct cf : Nat} {vt : Value} {m k : Nat} {wr : World} (h : Nm1 w e T F ct cf vt m k wr) (hk : k < e.fields.length) (hl : k ≤ 1000000) {t : TypeId} (ht : Try.prog.underlying t = some (.map 9 3)) (hs : (e.fields[k]).1.size ≤ maxLen) :
    ∃ w', (Instr.mapUpdate t (.map (some m)) (.string (e.fields[k]).1) (.int .i64 (e.fields[k]).2)).run Try.prog wr = .ok () w' ∧ Nm1 w e T F ct cf vt m (k + 1) w' := by
  obtain ⟨D, hm⟩ := h.mi
  obtain ⟨D', w', h1, h2, h3⟩ := hm.put hl ht hs
  exact ⟨w', h1, h.step hk h2 h3⟩

/-- Norm's state at the head of its second loop; X: the world ahead of it. -/
structure Nm2 (w : World) (e : Event) (vt : Value) (X : World) (j : Nat) (v : Value) (wr : World) : Prop where
  b3 : Bx wr (w.heap.size + 1 + 1) 28 [.string e.stream, .string e.type, vt, v]
  own : Own kField 41 X.heap.size (fun _ => False) wr v (((uniq (fnames e.fields)).take j).map (fun s => (s, lastF e.fields s)))
  save : Save (w.heap.size + 1 + 1) X wr
theorem Nm2.step {w : World} {e : Event} {vt : Value} {X : World} {j : Nat} {v v1 : Value} {wr w1 : World} (h : Nm2 w e vt X j v wr) (hX : w.heap.size + 3 ≤ X.heap.size) (hg : wr.grownBy w1 v.ownBlock) {s : ByteArray} (hs : (uniq (fnames e.fields))[j]? = some s)
    (hown : Own kField 41 X.heap.size (fun _ => False) w1 v1 (((uniq (fnames e.fields)).take j).map (fun s => (s, lastF e.fields s)) ++ [(s, lastF e.fields s)])) :
    Nm2 w e vt X (j + 1) v1 (w1.setCell ⟨w.heap.size + 1 + 1, 3, none⟩ v1) := by
  obtain ⟨hj, hs⟩ := List.getElem?_eq_some_iff.1 hs
  subst hs
  have hv : ∀ i, v.ownBlock = some i → X.heap.size ≤ i := h.own.base_le
  have hbl : ∀ i, i < X.heap.size → w1.heap[i]? = wr.heap[i]? := fun i hi => hg.block i (by have := h.save.size; omega) (fun e => by have := hv i e.symm; omega)
  refine ⟨(h.b3.stay (fun _ => hbl _ (by omega))).set 3 v1, ?_, ⟨hg.os.trans h.save.os, hg.tape.trans h.save.tape, hg.output.trans h.save.output, ?_, fun i hi hne => ?_⟩⟩
  · rw [normF_succ e.fields _ j hj]
    exact hown.setCell (fun _ hk => hk.elim) (fun i hi => by have := hown.base_le i hi; simp; omega) _
  · have := h.save.size; have := hg.size; simp [World.setCell]; omega
  · exact (heap_setCell_other w1 _ i v1 (by simpa using hne)).trans ((hbl i hi).trans (h.save.block i hi hne))

set_option maxHeartbeats 4000000 in
set_option maxRecDepth 100000 in
theorem normE_any {w : World} {e : Event} {T F : Option Addr} {ct cf : Nat} (hT : SlS w T ct e.tags) (hF : SlF w F cf e.fields) (hlt : e.tags.length ≤ 1000000) (hl : e.fields.length ≤ 1000000) (hg : ∀ x ∈ e.fields, x.1.size ≤ maxLen) :
    Calls Try.prog 21 #[vEvent e T ct F cf] w fun r w' => ∃ (vt vf : Value) (M : Nat), r = .returned (.agg #[.string e.stream, .string e.type, vt, vf]) ∧ Own Kn.str 9 w.heap.size (fun _ => False) w' vt (uniq e.tags) ∧
      Own kField 41 M (fun _ => False) w' vf (normF e.fields) ∧ w.heap.size ≤ M ∧ (∀ j, vt.ownBlock = some j → j < M) ∧ Below w.heap.size w w' := by
  have hmm := @run_makeMap Try.prog
  obtain ⟨W3, hW3⟩ : ∃ W3, W3 = (((w.alloc (.cells #[.string e.stream, .string e.type, .slice T e.tags.length ct, .slice F e.fields.length cf] 28)).alloc (.cells #[.string ⟨#[]⟩, .string ⟨#[]⟩, .slice none 0 0, .slice none 0 0] 28)).alloc (.cells #[.string e.stream, .string e.type, .slice none 0 0, .slice none 0 0] 28)) := ⟨_, rfl⟩
  have HW3 := Lib.hid hW3
  have hs3 : W3.heap.size = w.heap.size + 3 := by rw [hW3]; simp
  have hb3 : Below w.heap.size w W3 := by rw [hW3]; exact (((Below.refl _ _).alloc (Nat.le_refl _) _).alloc (by simp) _).alloc (by simp; omega) _
  have x1 : Bx W3 w.heap.size 28 [.string e.stream, .string e.type, .slice T e.tags.length ct, .slice F e.fields.length cf] := by rw [hW3]; exact ((Bx.new w _ _).alloc _).alloc _
  have x2 : Bx W3 (w.heap.size + 1) 28 [.string ⟨#[]⟩, .string ⟨#[]⟩, .slice none 0 0, .slice none 0 0] := by
    rw [hW3]
    exact (by simpa using Bx.new (w.alloc (.cells #[.string e.stream, .string e.type, .slice T e.tags.length ct, .slice F e.fields.length cf] 28)) 28 [.string ⟨#[]⟩, .string ⟨#[]⟩, .slice none 0 0, .slice none 0 0] : Bx _ (w.heap.size + 1) _ _).alloc _
  have x3 : Bx W3 (w.heap.size + 1 + 1) 28 [.string e.stream, .string e.type, .slice none 0 0, .slice none 0 0] := by
    rw [hW3]
    simpa using Bx.new ((w.alloc (.cells #[.string e.stream, .string e.type, .slice T e.tags.length ct, .slice F e.fields.length cf] 28)).alloc (.cells #[.string ⟨#[]⟩, .string ⟨#[]⟩, .slice none 0 0, .slice none 0 0] 28)) 28 [.string e.stream, .string e.type, .slice none 0 0, .slice none 0 0]
  have HT := Lib.hid (hT.below hb3)
  have HF := Lib.hid (hF.below hb3)
  have HF0 := Lib.hid hF
  have HG := Lib.hid hg
  have HS3 := Lib.hid hs3
  have HB3 := Lib.hid hb3
  have X1 := Lib.hid x1
  have X2 := Lib.hid x2
  have X3 := Lib.hid x3
  clear hT hF hg hW3 hs3 hb3 x1 x2 x3
  go_enter Try.func21, Try.ntmps21
  go_upto_region 2 with fail
  rw [← HW3.out]
  clear HW3
  have k2 := X1.out.cell 2
  simp only [List.getElem?_cons_succ, List.getElem?_cons_zero] at k2
  go_upto_region 4 with (first
    | (go_at_call 47; go_fit (tagsValues_any _ _ _ _); rintro r w4 ⟨rfl, rfl⟩)
    | (go_at_call 46; go_fit (tagsSorted_any HT.out hlt); rintro r w5 ⟨v5, rfl, hr5, hb5⟩; have HR5 := Lib.hid hr5; have HB5 := Lib.hid hb5; clear hr5 hb5)
    | (go_at_call 45; go_fit (tagsCompact_any HR5.out hlt); rintro r w6 ⟨vt, rfl, ho6, hb6⟩; have HO6 := Lib.hid ho6; have HB6 := Lib.hid (hb6 W3 HB5.out (Nat.le_refl _)); have f6 := (X3.out.under HB6.out).free 2; have e6 := (X3.out.under HB6.out).cell 2; simp only [List.getElem?_cons_succ, List.getElem?_cons_zero] at e6; obtain ⟨T6, c6, hv6, _⟩ := ho6.sl; subst hv6; clear ho6 hb6))
  have hse : (w6.setCell ⟨w.heap.size + 1 + 1, 2, none⟩ (.slice T6 (uniq e.tags).length c6)).heap.size = w6.heap.size := by simp [World.setCell]
  have h7 : Nm1 w e T F ct cf (.slice T6 (uniq e.tags).length c6) w6.heap.size 0 ((w6.setCell ⟨w.heap.size + 1 + 1, 2, none⟩ (.slice T6 (uniq e.tags).length c6)).alloc (.map #[] 0)) := by
    have hs3 := HS3.out
    have hs6 := HB6.out.size
    have ho := HO6.out.setCell (p := ⟨w.heap.size + 1 + 1, 2, none⟩) (fun k hk => hk.elim) (fun k hk => by have := HO6.out.base_le k hk; simp; omega) (.slice T6 (uniq e.tags).length c6)
    refine ⟨((X1.out.under HB6.out).far (by simp; omega) _).alloc _, ((X2.out.under HB6.out).far (by simp) _).alloc _, ((X3.out.under HB6.out).set 2 _).alloc _, (ho.alloc _).lower (by omega), ⟨.map [], ?_⟩, by omega, fun j hj => HO6.out.block_lt j hj, ?_⟩
    · have := Mi.new (w6.setCell ⟨w.heap.size + 1 + 1, 2, none⟩ (.slice T6 (uniq e.tags).length c6))
      rw [hse] at this
      exact this
    · exact ((bthen HB3.out HB6.out).setCell (by simp; omega) _).alloc (by rw [hse]; omega) _
  generalize (w6.setCell ⟨w.heap.size + 1 + 1, 2, none⟩ (.slice T6 (uniq e.tags).length c6)).alloc (.map #[] 0) = W7 at *
  obtain ⟨m, hm⟩ : ∃ m, m = w6.heap.size := ⟨_, rfl⟩
  rw [← hm] at h7 ⊢
  have H7 := Lib.hid h7
  clear h7 hse HB6 HO6 HB5 HR5 X1 X2 X3 HB3 HT HF HS3 f6 e6 k2 hmm hm
  have HF := HF0
  clear HF0
  have k3 := H7.out.b1.cell 3
  simp only [List.getElem?_cons_succ, List.getElem?_cons_zero] at k3
  have hf1 := HF.out.1
  have hf2 := HF.out.2.1
  unfold maxLen at hf2
  go_wp2_with fail
  clear k3
  go_loopw [24] (fun i wr => ∃ k : Nat, k ≤ e.fields.length ∧ i = .int .i64 k ∧ Nm1 w e T F ct cf (.slice T6 (uniq e.tags).length c6) m k wr) (fun i _ => e.fields.length - (intOf i).toNat)
  case atStart => exact ⟨0, Nat.zero_le _, rfl, H7.out⟩
  case round =>
    clear H7
    obtain ⟨k, hk, rfl, hf⟩ := hrel
    by_cases hlt : k < e.fields.length
    · obtain ⟨ad, rfl, hx, hy⟩ := row_field_at (HF.out.2.2.below hf.bel) hlt
      have hgk := HG.out _ (List.getElem_mem hlt)
      obtain ⟨w8, hrun, hn8⟩ := (hf.below (show Below wr.heap.size wr (wr.alloc (.cells #[.string (e.fields[k]).1, .int .i64 (e.fields[k]).2] 41)) from (Below.refl _ _).alloc (Nat.le_refl _) _)).put hlt (by omega) Try.underlying65 hgk
      have HN8 := Lib.hid hn8
      clear hn8
      generalize e.fields[k] = x at hx hy hgk hrun
      have b1 : (0 : Int) ≤ (k : Int) := Int.natCast_nonneg _
      have b2 : (k : Int) < (e.fields.length : Int) := by omega
      go_wp2_with fail
      go_roundw
      case rel => exact ⟨k + 1, by omega, by go_num, HN8.out⟩
      case measure => simp [intOf]; omega
    · obtain rfl : k = e.fields.length := by omega
      have HN := Lib.hid hf
      clear hf hlt
      go_upto_region 9 with fail
      obtain ⟨w1, hw1⟩ : ∃ w1, w1 = wr := ⟨_, rfl⟩
      subst hw1
      obtain ⟨D, hmi⟩ := HN.out.mi
      rw [List.take_length] at hmi
      have HMI := Lib.hid hmi
      have CS := Lib.hid (sortedKeys_any hmi (by omega))
      have hfn : e.fields.map (·.1) = fnames e.fields := rfl
      rw [hfn] at CS
      clear hmi hfn
      obtain ⟨ns, hns⟩ : ∃ ns, ns = uniq (fnames e.fields) := ⟨_, rfl⟩
      have HNS := Lib.hid hns
      have hgn : ∀ s ∈ ns, s.size ≤ maxLen := fun s hs => by
        rw [hns, mem_uniq] at hs
        obtain ⟨x, hx, rfl⟩ := List.mem_map.1 hs
        exact HG.out x hx
      have hnl : ns.length ≤ 1000000 := by
        rw [hns]
        have := uniq_len (fnames e.fields)
        simp [fnames] at this
        simp [fnames]
        omega
      have HGN := Lib.hid hgn
      have HNL := Lib.hid hnl
      rw [← hns] at CS
      clear hns hgn hnl
      go_upto_region 10 with (first
        | (go_at_call 48; go_fit (mapsKeys_any m _); rintro r w8 ⟨rfl, rfl⟩)
        | (go_at_call 46; go_fit CS.out; rintro r w9 ⟨A9, c9, rfl, hs9, hb9⟩; have HS9 := Lib.hid hs9; have HB9 := Lib.hid hb9; clear hs9 hb9))
      have HX := Lib.hid (HN.out.below HB9.out)
      have HMX := Lib.hid (HMI.out.below HB9.out)
      have HKX := Lib.hid HS9.out.bound
      have HSX := Lib.hid (show w.heap.size + 3 ≤ w1.heap.size ∧ w1.heap.size ≤ w9.heap.size from ⟨Nat.le_trans HN.out.mb (Nat.le_of_lt HMI.out.om.lt), HB9.out.size⟩)
      clear HN HMI HS9 HB9 CS
      have hs1 := HKX.out.1
      have hs2 := HKX.out.2.1
      unfold maxLen at hs2
      go_loopw [38] (fun i wr => ∃ (j : Nat) (v : Value), j ≤ ns.length ∧ i = .int .i64 j ∧ Nm2 w e (.slice T6 (uniq e.tags).length c6) w9 j v wr) (fun i _ => ns.length - (intOf i).toNat)
      case atStart => exact ⟨0, .slice none 0 0, Nat.zero_le _, rfl, HX.out.b3, Own.nil_ _ _ _ _ _, Save.refl _ _⟩
      case round =>
        obtain ⟨j, v, hj, rfl, hf⟩ := hrel
        by_cases hlt : j < ns.length
        · obtain ⟨ad, rfl, hx⟩ := row_str_at (HKX.out.stay hf.save.size (fun i hi hl => hf.save.block i hi.2 (by have := HSX.out; omega))).2.2 hlt
          have hgk := HGN.out _ (List.getElem_mem hlt)
          have hlook := (HMX.out.stay (hf.save.block m HMX.out.om.lt (by have := HX.out.mb; omega))).look Try.underlying65 hgk
          have HF2 := Lib.hid hf
          have HGE := Lib.hid (show (uniq (fnames e.fields))[j]? = some ns[j] by rw [← HNS.out]; exact List.getElem?_eq_getElem hlt)
          have HLN := Lib.hid (show ∀ y, (((uniq (fnames e.fields)).take j).map (fun s => (s, lastF e.fields s)) ++ [y]).length = j + 1 by intro y; rw [← HNS.out]; simp; omega)
          have k3 := hf.b3.cell 3
          simp only [List.getElem?_cons_succ, List.getElem?_cons_zero] at k3
          generalize ns[j] = s at hx hgk hlook HGE
          have e1 : (0 : Int) ≤ (j : Int) := Int.natCast_nonneg _
          have e2 : (j : Int) < (ns.length : Int) := by omega
          have hnl := HNL.out
          clear hf
          go_wp2_with (at_builtin; refine wpList_pushH (W := wr) rfl _ _ _ rfl 41 _ 2 24 Try.underlying26 infoField rfl (by decide) (by decide) rfl w9.heap.size (fun _ => False) v _ rfl HF2.out.own (s, lastF e.fields s) [.string s, .int .i64 (lastF e.fields s)] ⟨[.string s], [.int .i64 (lastF e.fields s)], rfl, rfl, rfl⟩ wr.heap.size rfl rfl HF2.out.save.size (by have := HLN.out (s, 0); simp only [List.length_append, List.length_cons, List.length_nil] at this; omega) ?_; intro v1 w5 hown5 hg5 hat5 hbel5; obtain ⟨V5, cv5, hv5, _⟩ := hown5.sl; rw [HLN.out] at hv5; subst hv5; have j0 := (HF2.out.b3.grown hg5 (fun e => by have := HF2.out.own.base_le _ e.symm; have := HSX.out; omega)).cell 3; simp only [List.getElem?_cons_succ, List.getElem?_cons_zero] at j0; have j1 := (HF2.out.b3.grown hg5 (fun e => by have := HF2.out.own.base_le _ e.symm; have := HSX.out; omega)).free 3; have HST := Lib.hid (HF2.out.step (by have := HSX.out; omega) hg5 HGE.out hown5); clear hown5 hg5 hat5 hbel5)
          go_roundw
          case rel => exact ⟨j + 1, _, by omega, by go_num, HST.out⟩
          case measure => simp [intOf]; omega
        · obtain rfl : j = ns.length := by omega
          have hown := hf.own
          rw [List.take_of_length_le (by rw [← HNS.out]; exact Nat.le_refl _)] at hown
          obtain ⟨V, cv, hv, hsl⟩ := hown.sl
          rw [List.length_map] at hv
          subst hv
          have HOW := Lib.hid (show Own kField 41 w9.heap.size (fun _ => False) wr _ (normF e.fields) from hown)
          have HSV := Lib.hid hf.save
          have HOT := Lib.hid (HX.out.own.stay hf.save.size (fun i hi hl => hf.save.block i hl (by rcases hi with hi | hi; exact hi.elim; have := HX.out.own.base_le i hi; omega)))
          have hb2 := HX.out.b2.stay (fun hl => hf.save.block _ hl (by omega))
          have HB2 := Lib.hid hb2
          have c20 := hb2.cell 0
          have c21 := hb2.cell 1
          have c22 := hb2.cell 2
          have c23 := hb2.cell 3
          have f20 := hb2.free 0
          have f21 := hb2.free 1
          have f22 := hb2.free 2
          have f23 := hb2.free 3
          have c30 := hf.b3.cell 0
          have c31 := hf.b3.cell 1
          have c32 := hf.b3.cell 2
          have c33 := hf.b3.cell 3
          simp only [List.getElem?_cons_succ, List.getElem?_cons_zero] at c20 c21 c22 c23 c30 c31 c32 c33
          clear hf hown hsl hb2
          go_wp2_with fail
          obtain ⟨vf, hvf⟩ : ∃ vf, vf = Value.slice V (uniq (fnames e.fields)).length cv := ⟨_, rfl⟩
          obtain ⟨vt, hvt⟩ : ∃ vt, vt = Value.slice T6 (uniq e.tags).length c6 := ⟨_, rfl⟩
          rw [← hvf] at HOW ⊢
          rw [← hvt] at HOT ⊢
          have hR := Lib.hid (((((HB2.out.set 0 (.string e.stream)).set 1 (.string e.type)).set 2 vt).set 3 vf : Bx _ _ _ _))
          have r0 := hR.out.cell 0
          have r1 := hR.out.cell 1
          have r2 := hR.out.cell 2
          have r3 := hR.out.cell 3
          simp only [List.set_cons_zero, List.set_cons_succ, List.getElem?_cons_succ, List.getElem?_cons_zero] at r0 r1 r2 r3
          have hsx := HSX.out
          have t1 : ∀ i, vt.ownBlock = some i → i ≠ w.heap.size + 1 := fun i hi => by have := HX.out.own.base_le i (by rw [← hvt]; exact hi); omega
          have t2 : ∀ i, vf.ownBlock = some i → i ≠ w.heap.size + 1 := fun i hi => by have := HOW.out.base_le i hi; omega
          have ho1 := (((HOT.out.setCell (p := ⟨w.heap.size + 1, 0, none⟩) (fun _ h => h.elim) t1 (.string e.stream)).setCell (p := ⟨w.heap.size + 1, 1, none⟩) (fun _ h => h.elim) t1 (.string e.type)).setCell (p := ⟨w.heap.size + 1, 2, none⟩) (fun _ h => h.elim) t1 vt).setCell (p := ⟨w.heap.size + 1, 3, none⟩) (fun _ h => h.elim) t1 vf
          have ho2 := (((HOW.out.setCell (p := ⟨w.heap.size + 1, 0, none⟩) (fun _ h => h.elim) t2 (.string e.stream)).setCell (p := ⟨w.heap.size + 1, 1, none⟩) (fun _ h => h.elim) t2 (.string e.type)).setCell (p := ⟨w.heap.size + 1, 2, none⟩) (fun _ h => h.elim) t2 vt).setCell (p := ⟨w.heap.size + 1, 3, none⟩) (fun _ h => h.elim) t2 vf
          have hbf := HSV.out.below HX.out.bel (by omega)
          have hb4 := (((hbf.setCell (p := ⟨w.heap.size + 1, 0, none⟩) (by simp) (.string e.stream)).setCell (p := ⟨w.heap.size + 1, 1, none⟩) (by simp) (.string e.type)).setCell (p := ⟨w.heap.size + 1, 2, none⟩) (by simp) vt).setCell (p := ⟨w.heap.size + 1, 3, none⟩) (by simp) vf
          exact bodyPost_ret (v := .agg #[.string e.stream, .string e.type, vt, vf]) (by simp [results, Try.results21, go_sem, r0, r1, r2, r3]) rfl ⟨vt, vf, w9.heap.size, rfl, ho1.lower (by omega), ho2, by omega, fun i hi => HX.out.own.block_lt i (by rw [← hvt]; exact hi), hb4⟩
end Go.Proofs.Ythinieokpgmfoaa
