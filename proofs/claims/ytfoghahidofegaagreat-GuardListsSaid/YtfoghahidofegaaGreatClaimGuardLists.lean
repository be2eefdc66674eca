/- registrarlaw18.some (walk); guards as a row. GuardLists: the law's walk. The closed facts that every row of this seat leans on, each proved for itself: the order's text is long, so it is read once as a list of signs. The row of the law GuardLists, over its walk: for every input the call returns true and each argument reads afterwards as it read before. No conditions. -/
import Derived.Test.YtfoghahidofegaaGreatBundK
import Derived.Deep.CutBlock
import Derived.Test.YtfoghahidofegaaGreatRows
import Derived.JoinedOf
import Derived.KernelRfl
import Derived.Test.YtfoghahidofegaaGreatBundA
import Derived.WalkKit
import Derived.ProofKit
import Derived.OpenShut
import Derived.ShutString
import Derived.ChangeOld
import Derived.Below
import Derived.SizedLaws
set_option linter.unusedVariables false
set_option linter.unusedSimpArgs false
namespace Go.Proofs.YtfoghahidofegaaGreat
open Go.RowKit Go.Maps

theorem opGuards : Opens Tryz.prog 50 (Kn.slice kGuard) (fun q => ∀ g ∈ q, goodGuard g) := Opens.slice Tryz.underlying50 (by kernel_rfl) (by decide) opGuard
def fewG (g : Grd) : Grd := (g.1, g.2.1, g.2.2.1.take 8, g.2.2.2)
def someG (l : List Grd) : List Grd := (l.take 20).map fewG
theorem someG_len (l : List Grd) : (someG l).length ≤ 20 := by unfold someG; simp; omega
theorem someG_in {l : List Grd} (h : ∀ g ∈ l, goodGuard g) : ∀ g ∈ someG l, GrdIn g := fun g hg => by
  obtain ⟨x, hx, rfl⟩ := List.mem_map.1 hg
  have := h x (List.mem_of_mem_take hx)
  exact ⟨this.1, fun c hc => this.2.2.1 c (List.mem_of_mem_take hc)⟩
theorem fewG_succ (l : List Grd) (k : Nat) (h : k < l.length) : (l.take (k + 1)).map fewG = (l.take k).map fewG ++ [fewG l[k]] := by
  rw [List.take_succ_eq_append_getElem h, List.map_append]; rfl
set_option maxHeartbeats 4000000 in
set_option maxRecDepth 8000 in
theorem some18_any {w : World} {ok : Nat → Prop} {A : Option Addr} {c : Nat} {l : List Grd} (hA : Sl kGuard ok w A c l) :
    Calls Tryz.prog 22 #[.slice A l.length c] w fun r w' => ∃ A' c', r = .returned (.slice A' (someG l).length c') ∧ Sl kGuard (fun k => ok k ∨ w.heap.size ≤ k) w' A' c' (someG l) ∧ Below w.heap.size w w' := by
  have HA := Lib.hid hA.bound
  have hc1 := hA.1
  have hc2 := hA.2.1
  unfold maxLen at hc2
  have HO0 := Lib.hid (Own.lit0 kGuard 52 w.heap.size (fun k => ok k ∧ k < w.heap.size) w (Nat.le_refl _))
  have HB0 := Lib.hid ((Below.refl w.heap.size w).alloc (Nat.le_refl _) (.cells #[] 52))
  clear hA
  go_enter Tryz.func22, Tryz.ntmps22
  go_wp2_with fail
  go_loopw [3, 4] (fun v i wr => ∃ k : Nat, k ≤ l.length ∧ k ≤ 20 ∧ i = .int .i64 k ∧ Own kGuard 52 w.heap.size (fun j => ok j ∧ j < w.heap.size) wr v ((l.take k).map fewG) ∧ Below w.heap.size w wr) (fun _ i _ => l.length - (intOf i).toNat)
  case atStart => exact ⟨0, Nat.zero_le _, Nat.zero_le _, rfl, HO0.out, HB0.out⟩
  case round =>
    clear HO0 HB0
    obtain ⟨k, hk, hk20, rfl, ho, hb⟩ := hrel
    by_cases hlt : k < l.length ∧ k < 20
    · obtain ⟨hlt, h20⟩ := hlt
      obtain ⟨ad, Q, cq, rfl, c0, c1, c2, c3, hq⟩ := row_guard_at (HA.out.stay hb.size (fun j hj _ => hb.block j hj.2)).2.2 hlt
      have HSC := Lib.hid (fewG_succ l k hlt)
      have HLN := Lib.hid (show ∀ y, ((l.take k).map fewG ++ [fewG y]).length = k + 1 by intro y; simp; omega)
      generalize l[k] = g at c0 c1 c2 c3 hq HSC
      obtain ⟨s, v, q, a⟩ := g
      simp only at c0 c1 c2 c3 hq
      obtain ⟨m, hm⟩ : ∃ m, (q.take 8).length = m := ⟨_, rfl⟩
      have CF := Lib.hid (few18_any (w := wr) s v hq.any a)
      rw [hm] at CF
      have HKM := Lib.hid (fun W (hW : Below wr.heap.size wr W) => show kGuard.K (fun j => (ok j ∧ j < w.heap.size) ∧ some j ≠ u3.ownBlock) W (fewG (s, v, q, a)) [.string s, .int .i64 v, .slice Q m cq, .bool a] from by
        rw [← hm]
        exact kGuard_mk (((hq.below hW).take 8).mono (fun j hj => ⟨hj, fun e => by have := ho.base_le j e.symm; omega⟩)))
      have HO := Lib.hid ho
      have HB := Lib.hid hb
      have HLK := Lib.hid (show ((l.take k).map fewG).length = k by simp; omega)
      have i1 : (0 : Int) ≤ (k : Int) := Int.natCast_nonneg _
      have i2 : (k : Int) < (l.length : Int) := by omega
      have hbs := hb.size
      clear hq ho hb hm
      go_wp2_with (first
        | (go_at_call 23; go_fit CF.out; rintro r w4 ⟨rfl, hb4⟩; have HB4 := Lib.hid hb4; have h4s := hb4.size; clear hb4)
        | (at_builtin; refine wpList_pushH (W := w4) rfl _ _ _ rfl 52 _ 4 56 Tryz.underlying50 infoGuard rfl (by decide) (by decide) rfl w.heap.size (fun j => ok j ∧ j < w.heap.size) _ ((l.take k).map fewG) rfl (HO.out.below HB4.out) (fewG (s, v, q, a)) [.string s, .int .i64 v, .slice Q m cq, .bool a] (HKM.out _ HB4.out) w4.heap.size rfl rfl (by omega) (by rw [HLK.out]; omega) ?_; intro v1 w5 hown1 hg1 hat1 hbel1; have HO5 := Lib.hid hown1; have HB5 := Lib.hid (hbel1 w (bthen HB.out HB4.out)); clear hown1 hg1 hat1 hbel1))
      go_roundw
      case rel => exact ⟨k + 1, by omega, by omega, by go_num, by rw [HSC.out]; exact HO5.out, HB5.out⟩
      case measure => simp [intOf]; omega
    · have hfin : (l.take k).map fewG = someG l := by
        unfold someG
        rcases Nat.lt_or_ge k 20 with h | h
        · rw [List.take_of_length_le (by omega), List.take_of_length_le (by omega)]
        · rw [show k = 20 by omega]
      rw [hfin] at ho
      obtain ⟨A', c', rfl, hsl⟩ := ho.sl
      have HSL := Lib.hid hsl
      have HB := Lib.hid hb
      have hstop : k < l.length → ¬ k < 20 := fun h h2 => hlt ⟨h, h2⟩
      clear ho hb hsl hfin hlt
      rcases Nat.lt_or_ge k l.length with hc | hc
      · have h10 := hstop hc
        clear hstop
        go_wp2_with fail
        go_ret
        exact ⟨A', c', rfl, HSL.out.mono (fun j hj => hj.imp And.left id), HB.out⟩
      · clear hstop
        go_wp2_with fail
        go_ret
        exact ⟨A', c', rfl, HSL.out.mono (fun j hj => hj.imp And.left id), HB.out⟩
end Go.Proofs.YtfoghahidofegaaGreat

namespace Go.Proofs.YtfoghahidofegaaGreat
open Go.RowKit Go.Maps

theorem addL_has {gs : List Grd} {g : Grd} (h : addE gs g = 0) (hh : hasG gs g = true) : addL gs g = gs := by unfold addL; rw [if_neg (by simp [h]), if_pos hh]
theorem add_twice {gs : List Grd} {g : Grd} (h : addE gs g = 0) : addE (addL gs g) g = 0 ∧ addL (addL gs g) g = addL gs g ∧ gs.length ≤ (addL gs g).length ∧ (addL gs g).length ≤ gs.length + 1 := by
  have hm := addE_may h
  have hl : addL gs g = gs ∨ addL gs g = gs ++ [g] := by
    unfold addL
    rw [if_neg (by simp [h])]
    split
    · exact .inl rfl
    · exact .inr rfl
  have hh : hasG (addL gs g) g = true := by
    by_cases h1 : hasG gs g = true
    · rw [addL_has h h1]; exact h1
    · rcases hl with hl | hl
      · unfold addL at hl
        rw [if_neg (by simp [h]), if_neg h1] at hl
        have := congrArg List.length hl
        simp at this
      · rw [hl, hasG_mem]; simp
  have h0 : addE (addL gs g) g = 0 := by
    rw [addE, if_neg (by simp [hm]), if_pos hh]
  refine ⟨h0, addL_has h0 hh, ?_, ?_⟩
  · rcases hl with hl | hl <;> rw [hl] <;> simp
  · rcases hl with hl | hl <;> rw [hl] <;> simp
theorem addL_no {gs : List Grd} {g : Grd} (h : addE gs g ≠ 0) : addL gs g = [] := by unfold addL; rw [if_pos h]
theorem addL_len {gs : List Grd} {g : Grd} : (addL gs g).length ≤ gs.length + 1 := by
  by_cases h : addE gs g = 0
  · exact (add_twice h).2.2.2
  · rw [addL_no h]; simp

set_option maxHeartbeats 8000000 in
set_option maxRecDepth 100000 in
theorem guardLists_walk (w : World) (A : Option Addr) (c : Nat) (l : List Event) (h : Sl kEvent (fun _ => True) w A c l) (hg : ∀ x ∈ l, goodEvent x) (A' : Option Addr) (c' : Nat) (gs : List Grd) (h' : Sl kGuard (fun _ => True) w A' c' gs) (hg' : ∀ x ∈ gs, goodGuard x)
    (c2 : Array Value) (g : Grd) (hgd : kGuard.K (fun _ => True) w g c2.toList) (gg : goodGuard g) :
    Calls Tryz.prog 4 #[.slice A l.length c, .slice A' gs.length c', .agg c2] w fun r w' => r = .returned (.bool true) ∧ Below w.heap.size w w' := by
  have HL0 := Lib.hid (show Sl kEvent (fun k => k < w.heap.size) w A c l from h.bound.mono (fun _ h => h.2))
  have HM0 := Lib.hid (show Sl kGuard (fun k => k < w.heap.size) w A' c' gs from h'.bound.mono (fun _ h => h.2))
  have HG := Lib.hid (ev_in hg)
  have HGG := Lib.hid (someG_in hg')
  obtain ⟨Q, cq, rfl, hQ⟩ := guard_in hgd
  obtain ⟨s, ver, q, ask⟩ := g
  have HQ := Lib.hid hQ
  have HGI := Lib.hid (show ∀ c ∈ q.take 8, ∀ t ∈ c.tags, t.size ≤ maxLen from fun c hc => (gg.2.2.1 c (List.mem_of_mem_take hc)).1)
  obtain ⟨W1, hW1⟩ : ∃ W1, W1 = w.alloc (.cells #[.string s, .int .i64 ver, .slice Q q.length cq, .bool ask] 52) := ⟨_, rfl⟩
  have HW1 := Lib.hid hW1
  have hb1 : Below w.heap.size w W1 := by rw [hW1]; exact (Below.refl _ _).alloc (Nat.le_refl _) _
  have hx1 : Bx W1 w.heap.size 52 [.string s, .int .i64 ver, .slice Q q.length cq, .bool ask] := by rw [hW1]; exact Bx.new w _ _
  have HB1 := Lib.hid hb1
  have HX1 := Lib.hid hx1
  have C1 := Lib.hid (shown18_any W1)
  have hlm := h'.2.1
  unfold maxLen at hlm
  clear h hg h' hg' hgd gg hQ hb1 hx1
  go_enter Tryz.func4, Tryz.ntmps4
  go_upto_region 1 with fail
  rw [← HW1.out]
  clear hW1 HW1
  go_upto_region 3 with (first
    | (go_at_call 21; go_fit C3.out; rintro r w3 ⟨B, y, rfl, h3⟩; have H3 := Lib.hid h3; clear h3)
    | (go_at_call 20; go_fit C1.out; rintro r w1 ⟨rfl, hb1⟩; have HB2 := Lib.hid hb1; have C3 := Lib.hid (filled_any (w := w1) ((HL0.out.below (bthen HB1.out HB2.out)).mono (fun j hj => Nat.lt_of_lt_of_le hj (bthen HB1.out HB2.out).size)) HG.out); clear hb1))
  go_upto_region 5 with fail
  clear C1 C3
  obtain ⟨es, hes⟩ : ∃ es, filE l = es := ⟨_, rfl⟩
  have HIX := Lib.hid (show Ix w3 B es (fun k => k < w1.heap.size ∨ k = y) by rw [← hes]; exact H3.out.ix)
  have HB3 := Lib.hid (bthen HB2.out H3.out.bel)
  have HYW := Lib.hid (show ¬ y = w.heap.size from fun e => by have := H3.out.yl; have := HX1.out.lt; have := HB2.out.size; omega)
  clear hes H3 HG HL0
  have CS := Lib.hid (some18_any (HM0.out.below (bthen HB1.out HB3.out)))
  obtain ⟨ls, hls⟩ : ∃ ls, someG gs = ls := ⟨_, rfl⟩
  rw [hls] at CS
  have HGG := Lib.hid (show ∀ g ∈ ls, GrdIn g by rw [← hls]; exact HGG.out)
  have hll : ls.length ≤ 20 := by rw [← hls]; exact someG_len gs
  obtain ⟨m, hm⟩ : ∃ m, (q.take 8).length = m := ⟨_, rfl⟩
  have CF := Lib.hid (fun W (hW : Below w3.heap.size w3 W) => show Calls Tryz.prog 23 #[.agg #[.string s, .int .i64 ver, .slice Q q.length cq, .bool ask]] W fun r w' => r = .returned (.agg #[.string s, .int .i64 ver, .slice Q m cq, .bool ask]) ∧ Below W.heap.size W w' from by
    rw [← hm]; exact few18_any (w := W) s ver ((HQ.out.any.below (bthen HB1.out HB3.out)).below hW) ask)
  have HM := Lib.hid hm
  clear hm hls
  have HXX := Lib.hid (fun W (hW : Below w3.heap.size w3 W) => HX1.out.under (bthen HB3.out hW))
  go_upto_region 7 with (first
    | (go_at_call 23; go_fit (CF.out _ HB4.out); rintro r w5 ⟨rfl, hb5⟩; have HB5 := Lib.hid (bthen HB4.out hb5); have HS5 := Lib.hid (HS4.out.below hb5); have hx4 := HXX.out _ (bthen HB4.out hb5); have l0 := hx4.cell 0; have l1 := hx4.cell 1; have l2 := hx4.cell 2; have l3 := hx4.cell 3; simp only [List.getElem?_cons_succ, List.getElem?_cons_zero] at l0 l1 l2 l3; have f0 := hx4.free 0; have f1 := hx4.free 1; have f2 := hx4.free 2; have f3 := hx4.free 3; clear hb5)
    | (go_at_call 22; go_fit CS.out; rintro r w4 ⟨A4, c4, rfl, hs4, hb4⟩; have HS4 := Lib.hid hs4; have HB4 := Lib.hid hb4; have hx4 := HXX.out _ hb4; have k0 := hx4.cell 0; have k1 := hx4.cell 1; have k2 := hx4.cell 2; have k3 := hx4.cell 3; simp only [List.getElem?_cons_succ, List.getElem?_cons_zero] at k0 k1 k2 k3; clear hs4 hb4))
  clear l0 l1 l2 l3 f0 f1 f2 f3 k0 k1 k2 k3 CF CS hx4
  obtain ⟨X6, hX6⟩ : ∃ X6, X6 = (((w5.setCell ⟨w.heap.size, 0, none⟩ (.string s)).setCell ⟨w.heap.size, 1, none⟩ (.int .i64 ver)).setCell ⟨w.heap.size, 2, none⟩ (.slice Q m cq)).setCell ⟨w.heap.size, 3, none⟩ (.bool ask) := ⟨_, rfl⟩
  rw [← hX6]
  have hset : ∀ (W : World) (n : Nat) (u : Value), But (fun k => k = w.heap.size) W (W.setCell ⟨w.heap.size, n, none⟩ u) := fun W n u => But.setCell (S := fun k => k = w.heap.size) W (p := ⟨w.heap.size, n, none⟩) rfl _
  have hbut : But (fun k => k = w.heap.size) w5 X6 := by rw [hX6]; exact (((hset _ _ _).trans (hset _ _ _)).trans (hset _ _ _)).trans (hset _ _ _)
  have hx6 : Bx X6 w.heap.size 52 [.string s, .int .i64 ver, .slice Q m cq, .bool ask] := by rw [hX6]; exact ((((HXX.out _ HB5.out).set 0 _).set 1 _).set 2 _).set 3 _
  have hw1 : w.heap.size < w1.heap.size := by have := HX1.out.lt; have := HB2.out.size; omega
  have hix : Ix X6 B es (fun k => k < w1.heap.size ∨ k = y) := (HIX.out.below HB5.out).far (hbut.mono (fun k hk => .inl (by omega)))
  have hbW : Below w.heap.size w w5 := bthen HB1.out (bthen HB3.out HB5.out)
  have hq6 : Sl kClause (fun k => k ≠ w.heap.size) X6 Q cq (q.take 8) := ((((HQ.out.below hbW).mono (fun k hk => (by omega : k ≠ w.heap.size))).stay hbut.size (fun k hk hl => hbut.block k hl hk))).take 8
  have hs6 : Sl kGuard (fun k => k ≠ w.heap.size) X6 A4 c4 ls := (HS5.out.mono (fun k hk => hk.elim (fun h => (by omega : k ≠ w.heap.size)) (fun h => by have := HB3.out.size; have := HX1.out.lt; omega))).stay hbut.size (fun k hk hl => hbut.block k hl hk)
  have HBT := Lib.hid (show Below w.heap.size w X6 by rw [hX6]; exact (((hbW.setCell (Nat.le_refl _) _).setCell (Nat.le_refl _) _).setCell (Nat.le_refl _) _).setCell (Nat.le_refl _) _)
  have HIX := Lib.hid hix
  have HX6 := Lib.hid hx6
  have HQ6 := Lib.hid hq6
  have HS6 := Lib.hid hs6
  clear hX6 hset hbut hx6 hix hbW hq6 hs6 HS4 HS5 HB4 HB5 HXX HM0 HX1 HQ
  have hc4 := HS6.out.2.1
  have hc3 := HS6.out.1
  unfold maxLen at hc4
  have HO0 := Lib.hid (Own.lit0 kGuard 52 X6.heap.size (fun j => j ≠ w.heap.size ∧ j < X6.heap.size) X6 (Nat.le_refl _))
  have HBA0 := Lib.hid ((Below.refl X6.heap.size X6).alloc (Nat.le_refl _) (.cells #[] 52))
  have ewl : IntKind.i64.wrap ((ls.length : Int) - 1) = (ls.length : Int) - 1 := IntWalk.i64_in _ (by omega)
  go_wp2_with fail
  go_loopw [10, 11, 12] (fun e b i wr => ∃ k : Nat, k ≤ ls.length ∧ e = .bool ((ls.drop k).all (holdsR es)) ∧ Own kGuard 52 X6.heap.size (fun j => j ≠ w.heap.size ∧ j < X6.heap.size) wr b (ls.drop k).reverse ∧ i = .int .i64 ((k : Int) - 1) ∧ Below X6.heap.size X6 wr) (fun _ _ i _ => (intOf i + 1).toNat)
  case atStart => exact ⟨ls.length, Nat.le_refl _, by rw [List.drop_length]; rfl, by rw [List.drop_length]; exact HO0.out, rfl, HBA0.out⟩
  case round =>
    clear HO0 HBA0 ewl
    obtain ⟨k, hk, rfl, ho, rfl, hb⟩ := hrel
    cases k with
    | succ j =>
      have ej : ((j + 1 : Nat) : Int) - 1 = (j : Int) := by omega
      rw [ej]
      have hjl : j < ls.length := by omega
      obtain ⟨ad, Q', cq', rfl, c0, c1, c2, c3, hq'⟩ := row_guard_at HS6.out.2.2 hjl
      have HIN := Lib.hid (HGG.out _ (List.getElem_mem hjl))
      have HDR := Lib.hid (show (ls.drop j).reverse = (ls.drop (j + 1)).reverse ++ [ls[j]] by rw [List.drop_eq_getElem_cons hjl, List.reverse_cons])
      have HAL := Lib.hid (show (ls.drop j).all (holdsR es) = (holdsR es ls[j] && (ls.drop (j + 1)).all (holdsR es)) by rw [List.drop_eq_getElem_cons hjl, List.all_cons])
      have HLR := Lib.hid (show (ls.drop (j + 1)).reverse.length ≤ 20 by rw [List.length_reverse, List.length_drop]; omega)
      generalize ls[j] = x at c0 c1 c2 c3 hq' HIN HDR HAL
      obtain ⟨xs, xv, xq, xa⟩ := x
      simp only at c0 c1 c2 c3 hq'
      obtain ⟨ea, hea⟩ : ∃ ea, (ls.drop (j + 1)).all (holdsR es) = ea := ⟨_, rfl⟩
      obtain ⟨t, ht⟩ : ∃ t, holdsR es (xs, xv, xq, xa) = t := ⟨_, rfl⟩
      have HAL := Lib.hid (show (ls.drop j).all (holdsR es) = (t && ea) by rw [HAL.out, ht, hea])
      rw [hea]
      have HC := Lib.hid (fun W (hW : Below X6.heap.size X6 W) => show W.cell? (ad.add (j * 4)) = some (.string xs) ∧ W.cell? ⟨(ad.add (j * 4)).block, (ad.add (j * 4)).off + 1, none⟩ = some (.int .i64 xv) ∧ W.cell? ⟨(ad.add (j * 4)).block, (ad.add (j * 4)).off + 2, none⟩ = some (.slice Q' xq.length cq') ∧ W.cell? ⟨(ad.add (j * 4)).block, (ad.add (j * 4)).off + 3, none⟩ = some (.bool xa) from
        ⟨(hW.cell (World.block_lt_of_cell? X6 _ c0)).trans c0, (hW.cell (World.block_lt_of_cell? X6 _ c1)).trans c1, (hW.cell (World.block_lt_of_cell? X6 _ c2)).trans c2, (hW.cell (World.block_lt_of_cell? X6 _ c3)).trans c3⟩)
      have CH := Lib.hid (fun W (hW : Below X6.heap.size X6 W) => show Calls Tryz.prog 24 #[.pointer (some ⟨B.b, 0, none⟩), .agg #[.string xs, .int .i64 xv, .slice Q' xq.length cq', .bool xa]] W fun r w' => r = .returned (.bool t) ∧ Below W.heap.size W w' from by
        rw [← ht]
        exact holds_any (HIX.out.below hW) HIN.out.1 (hq'.any.below hW) HIN.out.2 xv xa)
      have HKG := Lib.hid (fun W (hW : Below X6.heap.size X6 W) => show kGuard.K (fun i => (i ≠ w.heap.size ∧ i < X6.heap.size) ∧ some i ≠ u11.ownBlock) W (xs, xv, xq, xa) [.string xs, .int .i64 xv, .slice Q' xq.length cq', .bool xa] from
        kGuard_mk ((hq'.bound.below hW).mono (fun i hi => ⟨hi, fun e => by have := ho.base_le i e.symm; omega⟩)))
      obtain ⟨d0, d1, d2, d3⟩ := HC.out _ hb
      have HO := Lib.hid ho
      have HB := Lib.hid hb
      have e1 : (0 : Int) ≤ (j : Int) := Int.natCast_nonneg _
      have e2 : (j : Int) < (ls.length : Int) := by omega
      have e3 : IntKind.i64.wrap ((j : Int) - 1) = (j : Int) - 1 := IntWalk.i64_in _ (by omega)
      have hbs := hb.size
      clear c0 c1 c2 c3 hq' ho hb hea ht ej
      cases ea
      all_goals
        go_wp2_with (first
          | (go_at_call 24; go_fit (CH.out _ HB5.out); rintro r w6 ⟨rfl, hb6⟩; have HB6 := Lib.hid hb6; clear hb6)
          | (at_builtin; refine wpList_pushH (W := wr) rfl _ _ _ rfl 52 _ 4 56 Tryz.underlying50 infoGuard rfl (by decide) (by decide) rfl X6.heap.size (fun i => i ≠ w.heap.size ∧ i < X6.heap.size) _ (ls.drop (j + 1)).reverse rfl HO.out (xs, xv, xq, xa) [.string xs, .int .i64 xv, .slice Q' xq.length cq', .bool xa] (HKG.out _ HB.out) wr.heap.size rfl rfl hbs (by have := HLR.out; omega) ?_; intro v1 w5 hown1 hg1 hat1 hbel1; have HO5 := Lib.hid hown1; have HB5 := Lib.hid (hbel1 X6 HB.out); obtain ⟨g0, g1, g2, g3⟩ := HC.out _ (hbel1 X6 HB.out); clear hown1 hg1 hat1 hbel1))
        go_roundw
      · exact ⟨j, by omega, by rw [HAL.out]; simp, by rw [HDR.out]; exact HO5.out, by rfl, HB5.out⟩
      · simp [intOf]
      · exact ⟨j, by omega, by rw [HAL.out]; simp, by rw [HDR.out]; exact HO5.out.below HB6.out, by rfl, bthen HB5.out HB6.out⟩
      · simp [intOf]
    | zero =>
      rw [List.drop_zero] at ho ⊢
      have e0 : ((0 : Nat) : Int) - 1 = -1 := rfl
      rw [e0]
      have e1 : ¬ (0 : Int) ≤ -1 := by omega
      obtain ⟨A5, c5, rfl, hsb⟩ := ho.sl
      have HSB := Lib.hid hsb.any
      have HB := Lib.hid hb
      obtain ⟨ea, hea⟩ : ∃ ea, ls.all (holdsR es) = ea := ⟨_, rfl⟩
      rw [hea]
      have hany : ∀ xs : List Grd, (!xs.any (fun g => !holdsR es g)) = xs.all (holdsR es) := fun xs => by
        rw [List.any_eq_not_all_not]
        simp
      obtain ⟨n, hn⟩ : ∃ n, ls.length = n := ⟨_, rfl⟩
      obtain ⟨nb, hnb⟩ : ∃ nb, ls.reverse.length = nb := ⟨_, rfl⟩
      have CL := Lib.hid (fun W (hW : Below wr.heap.size wr W) => show Calls Tryz.prog 26 #[.pointer (some ⟨B.b, 0, none⟩), .slice A4 n c4] W fun r w' => r = .returned (.bool ea) ∧ Below W.heap.size W w' from by
        have := all_any (HIX.out.below (bthen HB.out hW)) (HS6.out.any.below (bthen HB.out hW)) HGG.out
        rw [hany, hea, hn] at this
        exact this)
      have CB := Lib.hid (fun W (hW : Below wr.heap.size wr W) => show Calls Tryz.prog 26 #[.pointer (some ⟨B.b, 0, none⟩), .slice A5 nb c5] W fun r w' => r = .returned (.bool ea) ∧ Below W.heap.size W w' from by
        have := all_any (HIX.out.below (bthen HB.out hW)) (HSB.out.below hW) (fun g hg => HGG.out g (List.mem_reverse.1 hg))
        rw [hany, List.all_reverse, hea, hnb] at this
        exact this)
      have CN := Lib.hid (fun W (hW : Below wr.heap.size wr W) => show Calls Tryz.prog 26 #[.pointer (some ⟨B.b, 0, none⟩), .slice none 0 0] W fun r w' => r = .returned (.bool true) ∧ Below W.heap.size W w' from
        all_any (gs := []) (HIX.out.below (bthen HB.out hW)) (Sl.nil_ (d := kGuard) (ok := fun _ => True)) (by simp))
      obtain ⟨R, hR⟩ : ∃ R, addL ls (s, ver, q.take 8, ask) = R := ⟨_, rfl⟩
      obtain ⟨f, hf⟩ : ∃ f, addE ls (s, ver, q.take 8, ask) = f := ⟨_, rfl⟩
      obtain ⟨R2, hR2⟩ : ∃ R2, addL R (s, ver, q.take 8, ask) = R2 := ⟨_, rfl⟩
      obtain ⟨f2, hf2⟩ : ∃ f2, addE R (s, ver, q.take 8, ask) = f2 := ⟨_, rfl⟩
      obtain ⟨n1, hn1⟩ : ∃ n1, R.length = n1 := ⟨_, rfl⟩
      obtain ⟨n2, hn2⟩ : ∃ n2, R2.length = n2 := ⟨_, rfl⟩
      have hn21 : R.length ≤ 30 := by rw [← hR]; have := addL_len (gs := ls) (g := (s, ver, q.take 8, ask)); omega
      have C1 := Lib.hid (show Calls Tryz.prog 25 #[.slice A4 n c4, .agg #[.string s, .int .i64 ver, .slice Q m cq, .bool ask]] wr fun r w' => ∃ (A' : Option Addr) (c' : Nat), r = .returned (.tuple #[.slice A' n1 c', .int .i64 f]) ∧ Sl kGuard (fun _ => True) w' A' c' R ∧ Below wr.heap.size wr w' from by
        have := guardAdd_any (HS6.out.any.below HB.out) (by omega) (HQ6.out.any.below HB.out) HGI.out (s := s) (v := ver) (a := ask)
        rw [hR, hf, hn, hn1, HM.out] at this
        exact this.mono (fun r w' ⟨A', c', e, h1, h2⟩ => ⟨A', c', e, h1.any, h2⟩))
      have C2 := Lib.hid (fun W (A' : Option Addr) (c' : Nat) (hW : Below wr.heap.size wr W) (hA : Sl kGuard (fun _ => True) W A' c' R) => show Calls Tryz.prog 25 #[.slice A' n1 c', .agg #[.string s, .int .i64 ver, .slice Q m cq, .bool ask]] W fun r w' => ∃ (A' : Option Addr) (c' : Nat), r = .returned (.tuple #[.slice A' n2 c', .int .i64 f2]) ∧ Below W.heap.size W w' from by
        have := guardAdd_any hA (by omega) (HQ6.out.any.below (bthen HB.out hW)) HGI.out (s := s) (v := ver) (a := ask)
        rw [hR2, hf2, hn2, hn1, HM.out] at this
        exact this.mono (fun r w' ⟨A', c', e, h1, h2⟩ => ⟨A', c', e, h2⟩))
      have HK := Lib.hid (fun W (hW : Below wr.heap.size wr W) => show W.cell? ⟨w.heap.size, 0, none⟩ = some (.string s) ∧ W.cell? ⟨w.heap.size, 1, none⟩ = some (.int .i64 ver) ∧ W.cell? ⟨w.heap.size, 2, none⟩ = some (.slice Q m cq) ∧ W.cell? ⟨w.heap.size, 3, none⟩ = some (.bool ask) from
        ⟨(HX6.out.under (bthen HB.out hW)).cell 0, (HX6.out.under (bthen HB.out hW)).cell 1, (HX6.out.under (bthen HB.out hW)).cell 2, (HX6.out.under (bthen HB.out hW)).cell 3⟩)
      obtain ⟨k0, k1, k2, k3⟩ := HK.out _ (Below.refl _ _)
      have hfin : (f = 0 ∧ f2 = 0 ∧ n2 = n1 ∧ n ≤ n1 ∧ n1 ≤ n + 1) ∨ (f ≠ 0 ∧ n1 = 0) := by
        by_cases h0 : f = 0
        · obtain ⟨h1, h2, h3, h4⟩ := add_twice (hf.trans h0)
          rw [hR] at h1 h2 h3 h4
          exact .inl ⟨h0, by rw [← hf2, h1], by rw [← hn2, ← hR2, h2, hn1], by omega, by omega⟩
        · refine .inr ⟨h0, ?_⟩
          rw [← hn1, ← hR, addL_no (by rw [hf]; exact h0)]
          rfl
      have ew : IntKind.i64.wrap ((n : Int) + 1) = (n : Int) + 1 := IntWalk.i64_in _ (by omega)
      have hrl : (ls.reverse.length : Int) = nb := by rw [hnb]
      rw [hnb, hn]
      clear ho hsb hb hea hany hR hf hR2 hf2 hn1 hn2 hn21 hrl hn hnb HS6 HSB HQ6 HX6
      rcases hfin with ⟨rfl, rfl, rfl, h3, h4⟩ | ⟨h0, rfl⟩
      · have d1 : ¬ n2 < n := by omega
        have d2 : ¬ n + 1 < n2 := by omega
        have d3 : ¬ (n : Int) + 1 < (n2 : Int) := by omega
        have d4 : ¬ (n2 : Int) < (n : Int) := by omega
        clear h3 h4
        cases ea
        all_goals
          go_wp2_with (first
            | (go_at_call 26; go_fit (CN.out _ HB11.out); rintro r w12 ⟨rfl, hb12⟩; have HB12 := Lib.hid (bthen HB11.out hb12); clear hb12)
            | (go_at_call 26; go_fit (CB.out _ HB10.out); rintro r w11 ⟨rfl, hb11⟩; have HB11 := Lib.hid (bthen HB10.out hb11); clear hb11)
            | (go_at_call 26; go_fit (CL.out _ HB9.out); rintro r w10 ⟨rfl, hb10⟩; have HB10 := Lib.hid (bthen HB9.out hb10); clear hb10)
            | (go_at_call 25; go_fit (C2.out _ _ _ HB8.out HS8.out); rintro r w9 ⟨A9, c9, rfl, hb9⟩; have HB9 := Lib.hid (bthen HB8.out hb9); clear hb9)
            | (go_at_call 25; go_fit C1.out; rintro r w8 ⟨A8, c8, rfl, hs8, hb8⟩; have HS8 := Lib.hid hs8; have HB8 := Lib.hid hb8; obtain ⟨j0, j1, j2, j3⟩ := HK.out _ hb8; clear hs8 hb8))
          go_ret
          exact ⟨rfl, bthen HBT.out (bthen HB.out HB12.out)⟩
      · have d0 : (f == 0) = false := by simp [h0]
        clear h0
        cases ea
        all_goals
          go_wp2_with (first
            | (go_at_call 26; go_fit (CN.out _ HB11.out); rintro r w12 ⟨rfl, hb12⟩; have HB12 := Lib.hid (bthen HB11.out hb12); clear hb12)
            | (go_at_call 26; go_fit (CB.out _ HB10.out); rintro r w11 ⟨rfl, hb11⟩; have HB11 := Lib.hid (bthen HB10.out hb11); clear hb11)
            | (go_at_call 26; go_fit (CL.out _ HB9.out); rintro r w10 ⟨rfl, hb10⟩; have HB10 := Lib.hid (bthen HB9.out hb10); clear hb10)
            | (go_at_call 25; go_fit (C2.out _ _ _ HB8.out HS8.out); rintro r w9 ⟨A9, c9, rfl, hb9⟩; have HB9 := Lib.hid (bthen HB8.out hb9); clear hb9)
            | (go_at_call 25; go_fit C1.out; rintro r w8 ⟨A8, c8, rfl, hs8, hb8⟩; have HS8 := Lib.hid hs8; have HB8 := Lib.hid hb8; obtain ⟨j0, j1, j2, j3⟩ := HK.out _ hb8; clear hs8 hb8))
          go_ret
          exact ⟨rfl, bthen HBT.out (bthen HB.out HB12.out)⟩
end Go.Proofs.YtfoghahidofegaaGreat

namespace Go.Proofs.YtfoghahidofegaaGreat

set_option maxRecDepth 100000 in
def ordN : List Nat := [104, 97, 114, 110, 101, 115, 115, 32, 52, 51, 57, 99, 56, 54, 52, 48, 57, 53, 57, 98, 54, 102, 49, 100, 98, 52, 54, 57, 49, 55, 52, 101, 99, 98, 102, 48, 52, 98, 98, 55, 55, 51, 55, 102, 97, 97, 102, 100, 101, 56, 102, 54, 51, 52, 56, 50, 52, 101, 56, 97, 49, 101, 54, 49, 52, 53, 52, 50, 54, 55, 97, 101, 32, 99, 117, 116, 32, 97, 116, 32, 114, 101, 103, 105, 115, 116, 114, 97, 114, 47, 114, 101, 103, 105, 115, 116, 114, 97, 114, 108, 97, 119, 49, 52, 46, 73, 110, 100, 101, 120, 80, 108, 97, 121, 115, 32, 114, 101, 103, 105, 115, 116, 114, 97, 114, 47, 114, 101, 103, 105, 115, 116, 114, 97, 114, 108, 97, 119, 49, 56, 46, 71, 117, 97, 114, 100, 76, 105, 115, 116, 115, 32, 114, 101, 103, 105, 115, 116, 114, 97, 114, 47, 114, 101, 103, 105, 115, 116, 114, 97, 114, 108, 97, 119, 49, 57, 46, 83, 101, 115, 115, 105, 111, 110, 77, 97, 110, 121, 32, 114, 101, 103, 105, 115, 116, 114, 97, 114, 47, 114, 101, 103, 105, 115, 116, 114, 97, 114, 108, 97, 119, 49, 57, 46, 83, 101, 115, 115, 105, 111, 110, 70, 114, 101, 101, 32, 114, 101, 103, 105, 115, 116, 114, 97, 114, 47, 114, 101, 103, 105, 115, 116, 114, 97, 114, 108, 97, 119, 49, 57, 46, 83, 101, 115, 115, 105, 111, 110, 83, 101, 101, 115, 32, 114, 101, 103, 105, 115, 116, 114, 97, 114, 47, 114, 101, 103, 105, 115, 116, 114, 97, 114, 108, 97, 119, 49, 57, 46, 83, 101, 115, 115, 105, 111, 110, 65, 116, 32, 114, 101, 103, 105, 115, 116, 114, 97, 114, 47, 114, 101, 103, 105, 115, 116, 114, 97, 114, 108, 97, 119, 49, 57, 46, 83, 101, 115, 115, 105, 111, 110, 82, 101, 102, 117, 115, 101, 115, 32, 114, 101, 103, 105, 115, 116, 114, 97, 114, 47, 114, 101, 103, 105, 115, 116, 114, 97, 114, 108, 97, 119, 49, 57, 46, 83, 101, 115, 115, 105, 111, 110, 80, 108, 97, 121, 115]
def ordL : List Char := ordN.map Char.ofNat
theorem order_eq : Tryz.prog.initOrder = String.ofList ordL := by kernel_rfl
theorem signs_eq : Tryz.prog.initOrder.toList = ordL := by rw [order_eq, String.toList_ofList]
def ordRest : List (List Char) := (behindMainWord (wordsSigns ordL)).tail
theorem words_eq : behindMainWord (wordsSigns ordL) = "cut".toList :: ordRest := by kernel_rfl
theorem strip_cut (r : List (List Char)) : stripLifts liftWords ("cut".toList :: r) = ([], "cut".toList :: r) := by kernel_rfl
theorem mayEnter_of (P : Program) (rest : List (List Char)) (h : behindMainWord (wordsSigns P.initOrder.toList) = "cut".toList :: rest) (h1 : P.laysLater = false) (h2 : P.bearsReflect = false) (h3 : P.doorFits [] = true) : P.mayEnter = true := by
  unfold Program.mayEnter
  rw [h]
  dsimp only
  rw [strip_cut, h1, h2, h3]
  simp
theorem lifts_of (P : Program) (rest : List (List Char)) (h : behindMainWord (wordsSigns P.initOrder.toList) = "cut".toList :: rest) : P.liftsFinal = false := by
  unfold Program.liftsFinal Program.headLifts
  rw [h, strip_cut]
  simp
theorem make_of (P : Program) (rest : List (List Char)) (h : behindMainWord (wordsSigns P.initOrder.toList) = "cut".toList :: rest) : P.make = some .cut := by
  unfold Program.make
  rw [h]
  dsimp only
  rw [if_neg (by decide), if_pos (by simp)]
theorem door_of (P : Program) (h : P.doorRows = []) : P.doorFits [] = true := by
  unfold Program.doorFits
  rw [h]
  simp
theorem head_eq : behindMainWord (wordsSigns Tryz.prog.initOrder.toList) = "cut".toList :: ordRest := by rw [signs_eq]; exact words_eq
theorem h_later : Tryz.prog.laysLater = false := by kernel_rfl
theorem h_refl : Tryz.prog.bearsReflect = false := by kernel_rfl
theorem h_rows : Tryz.prog.doorRows = [] := by kernel_rfl
theorem mayEnter_eq : Tryz.prog.mayEnter = true := mayEnter_of _ _ head_eq h_later h_refl (door_of _ h_rows)
theorem lifts_eq : Tryz.prog.liftsFinal = false := lifts_of _ _ head_eq
theorem make_eq : Tryz.prog.make = some .cut := make_of _ _ head_eq
theorem laidOut_eq : laidOutB Tryz.prog = true := by kernel_rfl
theorem mapsRowed_eq : mapsRowed Tryz.prog = true := by kernel_rfl
theorem stops_eq : (Tryz.prog.stops == []) = true := by kernel_rfl
theorem stopKnobs_eq : (Tryz.prog.stopKnobs == []) = true := by kernel_rfl
theorem heard_eq : Tryz.prog.stopsHeard = true := by kernel_rfl
theorem own_eq : ownKnob Tryz.prog.godebug = none := by kernel_rfl

/-- The rows' one great closed fact, out of its parts. -/
theorem joined_of {P : Program} {f : FuncId} {fn : Func} {s : ChangeSpec} {c : OpenClaim}
    (k1 : c.wf (OpenSpec.ofChange s) = true) (k2 : laidOutB P = true) (k3 : mapsRowed P = true) (k4 : fn.params.all (P.readableRec ·) = true) (k5 : namedTie P c.named s.vars = true)
    (k6 : (c.stops == []) = true) (k7 : (P.stops == []) = true) (k8 : (c.knobs == []) = true) (k9 : (P.stopKnobs == []) = true)
    (k10 : (c.inPlace == P.inPlace f) = true) (k11 : (c.unfollowed == P.unfollowed f) = true) (k12 : (c.recurses == P.recurses f) = true) (k13 : (c.named == P.varsNamed f) = true)
    (k14 : (c.maps == (fn.params.toList ++ s.plain.varTypes P).any (P.mapsRec ·)) = true) (k15 : (c.ifaces == (fn.params.toList ++ s.plain.varTypes P).any (P.ifacesRec ·)) = true) (k16 : (c.mapsOut == P.mapsAmong fn.resultTypes.toList) = true)
    (k17 : (c.loops == (fn.params.toList ++ s.plain.varTypes P).any (P.loopsFrom ·)) = true) (k18 : (c.wideKeys == (fn.params.toList ++ s.plain.varTypes P ++ fn.resultTypes.toList).any (P.wideKeysFrom ·)) = true)
    (k19 : s.vars.all (P.varReadable ·) = true) (k20 : fn.resultTypes.all (fun t => P.readableRec t && decide (t < P.types.size)) = true) (k21 : (c.ifacesOut == fn.resultTypes.toList.any (P.ifacesRec ·)) = true) (k22 : (c.loopsOut == fn.resultTypes.toList.any (P.loopsFrom ·)) = true)
    (k23 : (c.plainKeys == P.plainKeys) = true) (k24 : c.shortTexts.isNone = true) (k25 : P.stopsHeard = true) (k26 : P.mayEnter = true) (k27 : (c.lifted == P.liftsFinal) = true) (k28 : (P.make == some c.make) = true)
    (k29 : c.kinds = [] ∧ c.domain = []) (k30 : (c.pinned == c.pinnedBy) = true)
    (k31 : (c.veiled == (fn.params.toList ++ s.plain.varTypes P ++ fn.resultTypes.toList).any (P.veiledRec ·)) = true) (k32 : c.veiledFits P fn.params.toList (fn.params.toList ++ s.plain.varTypes P ++ fn.resultTypes.toList) = true) :
    joinedFacts P f fn s c = true := by
  unfold joinedFacts
  rw [k1, k2, k3, k4, k5, k6, k7, k8, k9, k10, k11, k12, k13, k14, k15, k16, k17, k18, k19, k20, k21, k22, k23, k24, k25, k26, k27, k28, k29.1, k29.2, k30, k31, k32]
  rfl
end Go.Proofs.YtfoghahidofegaaGreat

namespace Go.Proofs.YtfoghahidofegaaGreat.guardLists
open Go.ChangeShapes Go.WideShapes Go.ChangeAt Go.RowKit
open Go.ChangeMaps (open_string shut_string)
set_option maxRecDepth 100000 in
theorem lifted (os : Os) (started : os.Started) (H : Type) (enc : TypeId × Value → H) :
    ReturnsInHanded {} Tryz.checked os 4 .any (Rows.guardListsSpec.pre6 enc Tryz.prog Tryz.f4 Rows.guardListsRow.domain false) (Rows.guardListsSpec.post enc Tryz.prog Tryz.f4 false true false false) := by
  refine returnsInHanded_of_change_sized (C := Tryz.checked) own_eq started (by kernel_rfl) Tryz.func4
    (ChangeSpec.witness6 (enc := enc) (C := Tryz.checked) false ⟨#[], #[.slice none 0 0, .slice none 0 0, .agg #[.string ByteArray.empty, .int .i64 0, .slice none 0 0, .bool false]], []⟩ 8 (by kernel_rfl) (by kernel_rfl) (by kernel_rfl) (by kernel_rfl)) ?_
  intro W base args ds gs before hval0 hW hcnd hsz0 _
  have hval : ∀ (j : Nat) t v, Tryz.f4.params[j]? = some t → args[j]? = some v → Value.okWide Tryz.prog W .any base t v := hval0
  have hW' := hW
  obtain ⟨p, q, hA0, hV, rfl, hfz, hnd⟩ := hW
  have hA : DataW.TrodAll enc Tryz.prog W 0 (fun _ => true) true Tryz.f4.params.toList args.toList ds p := hA0
  rw [Tryz.params4] at hA hval
  obtain ⟨v0, vs0, d0, ds0, p0, q0, hargs, rfl, rfl, h0, r0⟩ := trodAll_cons hA
  obtain ⟨v1, vs1, d1, ds1, p1, q1, rfl, rfl, rfl, h1, r1⟩ := trodAll_cons r0
  obtain ⟨v2, vs2, d2, ds2, p2, q2, rfl, rfl, rfl, h2, r2⟩ := trodAll_cons r1
  obtain ⟨rfl, rfl, rfl⟩ := trodAll_nil r2
  obtain rfl : args = #[v0, v1, v2] := by cases args; simp_all
  obtain ⟨rfl, rfl⟩ := trodVars_none hV
  have k0 := h0
  have lt0 : ∀ x ∈ p0, x.block < W.heap.size := by obtain ⟨m, hm⟩ := k0; exact DataW.trod_lt m _ _ _ hm
  obtain ⟨a0, len0, cap0, rfl⟩ := okWide_slice Tryz.underlying43 (hval 0 43 v0 rfl rfl)
  obtain ⟨x0, ⟨A0, c0, e0, l0, m0, w0⟩, g0⟩ := (opEvs).arg h0
  simp only [Value.cells, List.cons.injEq, Value.slice.injEq, and_true] at e0
  obtain ⟨rfl, rfl, rfl⟩ := e0
  have k1 := h1
  have lt1 : ∀ x ∈ p1, x.block < W.heap.size := by obtain ⟨m, hm⟩ := k1; exact DataW.trod_lt m _ _ _ hm
  obtain ⟨a1, len1, cap1, rfl⟩ := okWide_slice Tryz.underlying50 (hval 1 50 v1 rfl rfl)
  obtain ⟨x1, ⟨A1, c1, e1, l1, m1, w1⟩, g1⟩ := (opGuards).arg h1
  simp only [Value.cells, List.cons.injEq, Value.slice.injEq, and_true] at e1
  obtain ⟨rfl, rfl, rfl⟩ := e1
  have k2 := h2
  have lt2 : ∀ x ∈ p2, x.block < W.heap.size := by obtain ⟨m, hm⟩ := k2; exact DataW.trod_lt m _ _ _ hm
  obtain ⟨cs2, rfl, _⟩ := okWide_struct Tryz.underlying52 (hval 2 52 v2 rfl rfl)
  obtain ⟨x2, w2, g2⟩ := (opGuard).arg h2
  clear hA0 hval0
  refine (guardLists_walk W _ _ x0 ⟨l0, m0, w0⟩ g0 _ _ x1 ⟨l1, m1, w1⟩ g1 cs2 x2 w2 g2).mono fun e W' ⟨he, bel⟩ => ?_
  subst he
  exact ⟨_, rfl, _, _, _, [], _, [], hW', trodAll_mk1 (shut_bool Tryz.underlying4 _), (trodAll_cons_mk (Below.trod laidOut_eq (by kernel_rfl) (of_decide_eq_true (by kernel_rfl)) k0 bel lt0) (trodAll_cons_mk (Below.trod laidOut_eq (by kernel_rfl) (of_decide_eq_true (by kernel_rfl)) k1 bel lt1) (trodAll_cons_mk (Below.trod laidOut_eq (by kernel_rfl) (of_decide_eq_true (by kernel_rfl)) k2 bel lt2) trodAll_mk0))), rfl, bel.frame _, fun h => by cases h⟩
theorem k10 : (Rows.guardListsRow.inPlace == Tryz.prog.inPlace 4) = true := by kernel_rfl
theorem k11 : (Rows.guardListsRow.unfollowed == Tryz.prog.unfollowed 4) = true := by kernel_rfl
theorem k12 : (Rows.guardListsRow.recurses == Tryz.prog.recurses 4) = true := by kernel_rfl
theorem k13 : (Rows.guardListsRow.named == Tryz.prog.varsNamed 4) = true := by kernel_rfl
theorem k23 : (Rows.guardListsRow.plainKeys == Tryz.prog.plainKeys) = true := by kernel_rfl
theorem kfn : Tryz.pinned.checked.prog.funcNamed Rows.guardListsRow.func = some 4 := by kernel_rfl
theorem closed : joinedFacts Tryz.prog 4 Tryz.f4 Rows.guardListsSpec Rows.guardListsRow = true :=
  joined_of (by kernel_rfl) laidOut_eq mapsRowed_eq (by kernel_rfl) (by kernel_rfl) rfl stops_eq rfl stopKnobs_eq k10 k11 k12 k13 (by kernel_rfl) (by kernel_rfl) (by kernel_rfl) (by kernel_rfl) (by kernel_rfl) (by kernel_rfl) (by kernel_rfl) (by kernel_rfl) (by kernel_rfl) k23 rfl heard_eq mayEnter_eq (by rw [lifts_eq]; rfl) (by rw [make_eq]; rfl) ⟨rfl, rfl⟩ (by kernel_rfl) (by kernel_rfl) (by kernel_rfl)
theorem over : Rows.guardListsRow.holds Tryz.pinned (OpenSpec.ofChange Rows.guardListsSpec) :=
  OpenClaim.holds_of_wide 4 Tryz.f4 rfl rfl rfl rfl rfl rfl rfl ⟨rfl, rfl, rfl, rfl, rfl⟩ rfl rfl rfl rfl rfl kfn Tryz.func4 closed
    (of_decide_eq_true (by kernel_rfl)) (by unfold Func.isWrapper; first | (rw [if_pos (by decide +kernel)]; kernel_rfl) | (rw [if_neg (by decide +kernel)]; exact ⟨rfl, rfl⟩))
    (fun os started H enc _ => lifted os started H enc)
theorem proved : Rows.GuardListsSaid := over
#print axioms proved
end Go.Proofs.YtfoghahidofegaaGreat.guardLists
