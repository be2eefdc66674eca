/- Guards as kinds of cells; guard.All (walk). registrarref04.Has. registrarref06.clause. registrarref06.Match. registrarref14.Index: Query (walk). GuardRead: the law's walk. GuardRead: the law's walk. The closed facts that every row of this seat leans on, each proved for itself: the order's text is long, so it is read once as a list of signs. The row of the law GuardRead, over its walk: for every input the call returns true and each argument reads afterwards as it read before. No conditions. -/
import Derived.Test.YtigejdnjdajbhaaGreatBundG
import Derived.Test.YtigejdnjdajbhaaGreatBundC
import Derived.Test.YtigejdnjdajbhaaGreatBundA
import Derived.Deep.RegionHeld3
import Derived.Deep.DeepFit
import Derived.Test.YtigejdnjdajbhaaGreatBundR
import Derived.Test.YtigejdnjdajbhaaGreatBundJ
import Derived.Test.YtigejdnjdajbhaaGreatRows
import Derived.JoinedOf
import Derived.KernelRfl
import Derived.WalkKit
import Derived.ProofKit
import Derived.OpenShut
import Derived.ShutString
import Derived.ChangeOld
import Derived.Below
import Derived.SizedLaws
set_option linter.unusedVariables false
set_option linter.unusedSimpArgs false
namespace Go.Proofs.YtigejdnjdajbhaaGreat
open Go.RowKit Go.Maps

abbrev Grd : Type := ByteArray × Int × List Clause × Bool
abbrev kGuard : Kn Grd := Kn.pair Kn.str (Kn.pair (Kn.int .i64) (Kn.pair kQuery Kn.bool))
abbrev goodGuard (g : Grd) : Prop := gS g.1 ∧ gN g.2.1 ∧ (∀ c ∈ g.2.2.1, goodClause c) ∧ True
theorem opGuard : Opens Tryz.prog 51 kGuard goodGuard :=
  Opens.struct (d := kGuard) (good := goodGuard) Tryz.underlying51 (by kernel_rfl)
    (OpensFs.cons (good := gS) (good' := fun (y : Int × List Clause × Bool) => gN y.1 ∧ (∀ c ∈ y.2.1, goodClause c) ∧ True) (d := Kn.str) opStr (by kernel_rfl)
      (OpensFs.cons (good := gN) (good' := fun (y : List Clause × Bool) => (∀ c ∈ y.1, goodClause c) ∧ True) (d := Kn.int .i64) opInt (by kernel_rfl)
        (OpensFs.cons (good := fun y : List Clause => ∀ c ∈ y, goodClause c) (good' := fun _ : Bool => True) (d := kQuery) opQuery (by kernel_rfl) (OpensFs.last (Opens.bool Tryz.underlying4) (by kernel_rfl)))))
theorem guard_in {w : World} {g : Grd} {c : Array Value} (h : kGuard.K (fun _ => True) w g c.toList) : ∃ Q cq, c = #[.string g.1, .int .i64 g.2.1, .slice Q g.2.2.1.length cq, .bool g.2.2.2] ∧ Sl kClause (fun k => k < w.heap.size) w Q cq g.2.2.1 := by
  obtain ⟨c0, c1, h0, h1, c2, c3, h2, h3, c4, c5, h4, h5, h6⟩ := h
  obtain ⟨Q, cq, h7, h8, h9, h10⟩ := h5
  have e0 : c0 = [.string g.1] := h1
  have e2 : c2 = [.int .i64 g.2.1] := h3
  have e5 : c5 = [.bool g.2.2.2] := h6
  have hs : Sl kClause (fun _ => True) w Q cq g.2.2.1 := ⟨h8, h9, h10⟩
  refine ⟨Q, cq, ?_, hs.bound.mono (fun _ h => h.2)⟩
  subst e0 e2 e5 h7 h4 h2
  cases c
  simpa using h0
theorem event_in18 {w : World} {e : Event} {c1 : Array Value} (he : kEvent.K (fun _ => True) w e c1.toList) : ∃ A ca B cb, c1 = #[.string e.stream, .string e.type, .slice A e.tags.length ca, .slice B e.fields.length cb] ∧
    Sl Kn.str (fun k => k < w.heap.size) w A ca e.tags ∧ Sl kField (fun k => k < w.heap.size) w B cb e.fields := by
  obtain ⟨A, ca, B, cb, h0, h1, h2⟩ := kEvent_out he
  exact ⟨A, ca, B, cb, (by cases c1; simpa using h0), h1.bound.mono (fun _ h => h.2), h2.bound.mono (fun _ h => h.2)⟩
theorem row_guard_at {ok : Nat → Prop} {w : World} {A : Option Addr} {xs : List Grd} (h : Row kGuard ok w A xs) {j : Nat} (hj : j < xs.length) :
    ∃ ad Q cq, A = some ad ∧ w.cell? (ad.add (j * 4)) = some (.string xs[j].1) ∧ w.cell? ⟨(ad.add (j * 4)).block, (ad.add (j * 4)).off + 1, none⟩ = some (.int .i64 xs[j].2.1) ∧
      w.cell? ⟨(ad.add (j * 4)).block, (ad.add (j * 4)).off + 2, none⟩ = some (.slice Q xs[j].2.2.1.length cq) ∧ w.cell? ⟨(ad.add (j * 4)).block, (ad.add (j * 4)).off + 3, none⟩ = some (.bool xs[j].2.2.2) ∧ Sl kClause ok w Q cq xs[j].2.2.1 := by
  obtain ⟨ad, cs, e, _, _, _, hk, hc⟩ := h.at_ hj
  obtain ⟨c0, c1, rfl, h1, c2, c3, rfl, h3, c4, c5, rfl, h5, h6⟩ := hk
  obtain ⟨Q, cq, h7, h8, h9, h10⟩ := h5
  have e0 : c0 = [.string xs[j].1] := h1
  have e2 : c2 = [.int .i64 xs[j].2.1] := h3
  have e5 : c5 = [.bool xs[j].2.2.2] := h6
  subst e0 e2 e5 h7
  have hs : kGuard.sz = 4 := rfl
  rw [hs] at hc
  have g : ∀ i u, 0 < i → [Value.string xs[j].1, .int .i64 xs[j].2.1, .slice Q xs[j].2.2.1.length cq, .bool xs[j].2.2.2][i]? = some u → w.cell? ⟨(ad.add (j * 4)).block, (ad.add (j * 4)).off + i, none⟩ = some u := fun i u hi hu => by
    have := hc i u hu
    rwa [add_field _ _ _ hi] at this
  exact ⟨ad, Q, cq, e, hc 0 _ rfl, g 1 _ (by omega) rfl, g 2 _ (by omega) rfl, g 3 _ (by omega) rfl, h8, h9, h10⟩
def holdsR (es : List Event) (g : Grd) : Bool := if g.2.2.2 then !sinceR es g.2.2.1 g.2.1 else decide ((verR es g.1 es.length : Int) = g.2.1)
def PredG1 (g : Nat) (lb : Array Value) (p : Grd → Bool) (w : World) (x : Grd) : Prop := ∀ (W : World) (Q : Option Addr) (cq : Nat), Below w.heap.size w W → SlC W Q cq x.2.2.1 →
  Calls Tryz.prog g (#[.agg #[.string x.1, .int .i64 x.2.1, .slice Q x.2.2.1.length cq, .bool x.2.2.2]] ++ lb) W fun e w' => e = .returned (.bool (p x)) ∧ Below W.heap.size W w'
set_option maxHeartbeats 1000000 in
theorem indexFuncG_in {A : Option Addr} {c : Nat} {xs : List Grd} {w : World} (h : Sl kGuard (fun _ => True) w A c xs) (g : Nat) (lb : Array Value) (p : Grd → Bool) (eg : ∀ (args : Array Value) (W : World), (callFunc g args).run Tryz.prog W = .ok (.enter g args) W) (hp : ∀ x ∈ xs, PredG1 g lb p w x) :
    Calls Tryz.prog 105 #[.slice A xs.length c, .func (.func g) #[] lb] w fun e w' => ∃ i : Int, e = .returned (.int .i64 i) ∧ Below w.heap.size w w' ∧ -1 ≤ i ∧ decide (0 ≤ i) = xs.any p := by
  obtain ⟨h1, h2, h3⟩ := h
  unfold maxLen at h2
  have HP := Lib.hid hp
  clear hp
  go_enter Tryz.func105, Tryz.ntmps105
  go_wp2
  go_loopw [8] (fun i wr => ∃ k : Nat, k ≤ xs.length ∧ i = .int .i64 k ∧ Hid ((xs.take k).any p = false) ∧ Below w.heap.size w wr) (fun i _ => xs.length - (intOf i).toNat)
  case atStart => exact ⟨0, Nat.zero_le _, rfl, by exact rfl, Below.refl _ _⟩
  case round =>
    obtain ⟨k, hk, rfl, hn, hb⟩ := hrel
    by_cases hlt : k < xs.length
    · obtain ⟨ad, Q, cq, rfl, hx, hy, hz, hu, hq⟩ := row_guard_at (h3.below hb) hlt
      have hmem := List.getElem_mem hlt
      have HQ := Lib.hid hq.any
      clear hq
      generalize hye : xs[k] = y at hx hy hz hu hmem HQ
      have HM := Lib.hid hmem
      clear hmem
      have HY := Lib.hid hye
      clear hye
      go_wp2_with fail
      refine (HP.out y HM.out wr Q cq hb HQ.out).mono ?_
      rintro e w1 ⟨rfl, hb1⟩
      cases hpy : p y
      · go_wp2
        go_roundw
        case rel => exact ⟨k + 1, by omega, by go_num, by show _ = false; rw [any_take_succ _ _ _ hlt, hn.out, HY.out, hpy]; rfl, bthen hb hb1⟩
        case measure => simp [intOf]; omega
      · go_wp2
        go_ret
        exact ⟨k, rfl, bthen hb hb1, by omega, by rw [any_of_at hlt (by rw [HY.out]; exact hpy)]; simp⟩
    · go_wp2
      go_ret
      obtain rfl : k = xs.length := by omega
      have h4 : (xs.take xs.length).any p = false := hn.out
      rw [List.take_length] at h4
      exact ⟨-1, rfl, hb, by omega, by rw [h4]; rfl⟩
theorem containsFuncG_in {A : Option Addr} {c : Nat} {xs : List Grd} {w : World} (h : Sl kGuard (fun _ => True) w A c xs) (g : Nat) (lb : Array Value) (p : Grd → Bool) (eg : ∀ (args : Array Value) (W : World), (callFunc g args).run Tryz.prog W = .ok (.enter g args) W) (hp : ∀ x ∈ xs, PredG1 g lb p w x) :
    Calls Tryz.prog 74 #[.slice A xs.length c, .func (.func g) #[] lb] w fun e w' => e = .returned (.bool (xs.any p)) ∧ Below w.heap.size w w' := by
  have H := Lib.hid (indexFuncG_in h g lb p eg hp)
  clear hp
  go_enter Tryz.func74, Tryz.ntmps74
  go_wp2_with fail
  refine H.out.mono ?_
  rintro e w' ⟨i, rfl, hb, h1, h2⟩
  have H2 := Lib.hid h2
  clear h2
  go_wp2
  go_ret
  exact ⟨ret_bool H2.out, hb⟩
set_option maxHeartbeats 1000000 in
theorem all1_any {w : World} {B : Six} {es : List Event} {X : Nat → Prop} (h : Ix w B es X) {b : Nat} (hb : w.cell? ⟨b, 0, none⟩ = some (.pointer (some ⟨B.b, 0, none⟩))) (g : Grd) (gg : g.1.size ≤ maxLen ∧ ∀ c ∈ g.2.2.1, goodClause c) {Q : Option Addr} {cq : Nat} (hq : SlC w Q cq g.2.2.1) :
    Calls Tryz.prog 75 #[.agg #[.string g.1, .int .i64 g.2.1, .slice Q g.2.2.1.length cq, .bool g.2.2.2], .pointer (some ⟨b, 0, none⟩)] w fun r w' => r = .returned (.bool (!holdsR es g)) ∧ Below w.heap.size w w' := by
  obtain ⟨s, v, q, a⟩ := g
  obtain ⟨W1, hW1⟩ : ∃ W1, W1 = w.alloc (.cells #[.string s, .int .i64 v, .slice Q q.length cq, .bool a] 51) := ⟨_, rfl⟩
  have HW1 := Lib.hid hW1
  have hb1 : Below w.heap.size w W1 := by rw [hW1]; exact (Below.refl _ _).alloc (Nat.le_refl _) _
  have hx : Bx W1 w.heap.size 51 [.string s, .int .i64 v, .slice Q q.length cq, .bool a] := by rw [hW1]; exact Bx.new w _ _
  have HB1 := Lib.hid hb1
  have C := Lib.hid (holds_any (h.below hb1) gg.1 (hq.below hb1) gg.2 v a)
  have k0 := hx.cell 0
  have k1 := hx.cell 1
  have k2 := hx.cell 2
  have k3 := hx.cell 3
  simp only [List.getElem?_cons_succ, List.getElem?_cons_zero] at k0 k1 k2 k3
  have kb := (hb1.cell (World.block_lt_of_cell? w _ hb)).trans hb
  unfold holdsR
  simp only
  obtain ⟨R, hR⟩ : ∃ R, (if a then !sinceR es q v else decide ((verR es s es.length : Int) = v)) = R := ⟨_, rfl⟩
  rw [hR] at C ⊢
  clear hR h gg hq hb1 hx hb
  go_enter Tryz.func75, Tryz.ntmps75
  go_upto_region 1 with fail
  rw [← HW1.out]
  clear hW1
  go_wp2_with (go_at_call 26; go_fit C.out; rintro r w2 ⟨rfl, hb2⟩; have HB2 := Lib.hid hb2; clear hb2)
  go_ret
  exact ⟨rfl, bthen HB1.out HB2.out⟩
set_option maxHeartbeats 1000000 in
theorem all_any {w : World} {B : Six} {es : List Event} {X : Nat → Prop} (h : Ix w B es X) {A : Option Addr} {c : Nat} {gs : List Grd} (hA : Sl kGuard (fun _ => True) w A c gs) (hg : ∀ g ∈ gs, g.1.size ≤ maxLen ∧ ∀ c ∈ g.2.2.1, goodClause c) :
    Calls Tryz.prog 30 #[.pointer (some ⟨B.b, 0, none⟩), .slice A gs.length c] w fun r w' => r = .returned (.bool (!gs.any (fun g => !holdsR es g))) ∧ Below w.heap.size w w' := by
  obtain ⟨W1, hW1⟩ : ∃ W1, W1 = w.alloc (.cells #[.pointer (some ⟨B.b, 0, none⟩)] 29) := ⟨_, rfl⟩
  have HW1 := Lib.hid hW1
  have hb1 : Below w.heap.size w W1 := by rw [hW1]; exact (Below.refl _ _).alloc (Nat.le_refl _) _
  have hx : Bx W1 w.heap.size 29 [.pointer (some ⟨B.b, 0, none⟩)] := by rw [hW1]; exact Bx.new w _ _
  have HB1 := Lib.hid hb1
  have H1 := Lib.hid (h.below hb1)
  have HX := Lib.hid hx
  have C := Lib.hid (containsFuncG_in (hA.below hb1) 75 #[.pointer (some ⟨w.heap.size, 0, none⟩)] (fun g => !holdsR es g) (fun args W => enters_of Tryz.func75 (by kernel_rfl) rfl args W)
    (fun x hx' W Q cq hW hQ => all1_any (H1.out.below hW) ((HX.out.under hW).cell 0) x (hg x hx') hQ))
  clear h hA hg hb1 hx
  go_enter Tryz.func30, Tryz.ntmps30
  go_upto_region 1 with fail
  rw [← HW1.out]
  clear hW1
  go_wp2_with (go_at_call 74; go_fit C.out; rintro r w2 ⟨rfl, hb2⟩; have HB2 := Lib.hid hb2; clear hb2)
  go_ret
  exact ⟨rfl, bthen HB1.out HB2.out⟩
end Go.Proofs.YtigejdnjdajbhaaGreat

namespace Go.Proofs.YtigejdnjdajbhaaGreat
open Go.RowKit

theorem hasS_take_no {s : ByteArray} {l : List ByteArray} (h : ∀ j (hj : j < l.length), l[j] ≠ s) : hasS s l = false := by
  rw [Bool.eq_false_iff]
  intro hh
  obtain ⟨j, hj, e⟩ := List.mem_iff_getElem.1 ((hasS_iff s l).1 hh)
  exact h j hj e
set_option maxHeartbeats 400000 in
theorem Has04_any {e : Event} {T F : Option Addr} {ct cf : Nat} {w : World} (h : Sl Kn.str (fun _ => True) w T ct e.tags) (s : ByteArray) :
    Calls Tryz.prog 104 #[vEvent e T ct F cf, .string s] w fun r w' => r = .returned (.bool (hasS s e.tags)) ∧ Below w.heap.size w w' := by
  have h1 := h.1
  have h2 := h.2.1
  unfold maxLen at h2
  unfold vEvent
  go_enter Tryz.func104, Tryz.ntmps104
  go_wp2
  have H1 := Lib.hid (h.alloc (.cells #[.string e.stream, .string e.type, .slice T e.tags.length ct, .slice F e.fields.length cf] 42))
  have hz := (Bx.new w 42 [.string e.stream, .string e.type, .slice T e.tags.length ct, .slice F e.fields.length cf]).cell 2
  have HB := Lib.hid (show Below w.heap.size w (w.alloc (.cells #[.string e.stream, .string e.type, .slice T e.tags.length ct, .slice F e.fields.length cf] 42)) from (Below.refl _ _).alloc (Nat.le_refl _) _)
  simp only [List.getElem?_cons_succ, List.getElem?_cons_zero] at hz
  clear h
  generalize w.alloc (.cells #[.string e.stream, .string e.type, .slice T e.tags.length ct, .slice F e.fields.length cf] 42) = X at *
  generalize w.heap.size = g at hz ⊢
  go_loopw [5] (fun i wr => ∃ k n : Nat, k ≤ e.tags.length ∧ i = .int .i64 k ∧ (∀ j (hj : j < e.tags.length), j < k → e.tags[j] ≠ s) ∧ wr = X.drewN n) (fun i _ => e.tags.length - (intOf i).toNat)
  case atStart => exact ⟨0, 0, Nat.zero_le _, rfl, fun j hj hk => by omega, rfl⟩
  case round =>
    obtain ⟨k, n, hk, rfl, hal, rfl⟩ := hrel
    have HAL := Lib.hid hal
    clear hal
    by_cases hlt : k < e.tags.length
    · obtain ⟨ad, rfl, hx⟩ := row_str_at H1.out.2.2 hlt
      generalize hxe : e.tags[k] = x at hx
      have HX := Lib.hid hxe
      clear hxe
      have b1 : (0 : Int) ≤ (k : Int) := Int.natCast_nonneg _
      have b2 : (k : Int) < (e.tags.length : Int) := by omega
      have hq := strEqL x s
      by_cases hxy : x = s
      · rw [decide_eq_true hxy] at hq
        have HXY := Lib.hid hxy
        clear hxy
        go_wp2
        go_ret
        refine ⟨?_, bthen HB.out (below_drewN (Below.refl _ _) _)⟩
        rw [(hasS_iff s e.tags).2 (by rw [← HXY.out, ← HX.out]; exact List.getElem_mem hlt)]
        rfl
      · rw [decide_eq_false hxy] at hq
        have HXY := Lib.hid hxy
        clear hxy
        go_wp2
        go_roundw
        case rel =>
          refine ⟨k + 1, _, by omega, by go_num, fun j hj hjk => ?_, rfl⟩
          rcases Nat.lt_or_ge j k with h | h
          · exact HAL.out j hj h
          · obtain rfl : j = k := by omega
            rw [HX.out]; exact HXY.out
        case measure => simp [intOf]; omega
    · go_wp2
      go_ret
      refine ⟨?_, bthen HB.out (below_drewN (Below.refl _ _) _)⟩
      rw [hasS_take_no (fun j hj => HAL.out j hj (by omega))]
      rfl
end Go.Proofs.YtigejdnjdajbhaaGreat
namespace Go.Proofs.YtigejdnjdajbhaaGreat
open Go.RowKit

theorem all_of {α : Type} {l : List α} {f : α → Bool} (h : ∀ j (hj : j < l.length), f l[j] = true) : l.all f = true := by
  rw [List.all_eq_true]
  intro x hx
  obtain ⟨j, hj, e⟩ := List.mem_iff_getElem.1 hx
  exact e ▸ h j hj
theorem all_no {α : Type} {l : List α} {f : α → Bool} {j : Nat} (hj : j < l.length) (h : f l[j] = false) : l.all f = false := by
  rw [Bool.eq_false_iff]
  intro hh
  rw [List.all_eq_true.1 hh _ (List.getElem_mem hj)] at h
  cases h
set_option maxHeartbeats 1000000 in
set_option maxRecDepth 4000 in
theorem clause06_any {c : Clause} {e : Event} {S U T F : Option Addr} {cs cu ct cf : Nat} {w : World} (hS : Sl Kn.str (fun _ => True) w S cs c.tags) (hU : Sl Kn.str (fun _ => True) w U cu c.types) (hT : Sl Kn.str (fun _ => True) w T ct e.tags) :
    Calls Tryz.prog 73 #[.agg #[.slice S c.tags.length cs, .slice U c.types.length cu], vEvent e T ct F cf] w fun r w' => r = .returned (.bool (clauseM e c)) ∧ Below w.heap.size w w' := by
  have hs1 := hS.1
  have hs2 := hS.2.1
  have hu1 := hU.1
  have hu2 := hU.2.1
  unfold maxLen at hs2 hu2
  unfold vEvent
  go_enter Tryz.func73, Tryz.ntmps73
  go_upto_region 2 with fail
  have ha : Below w.heap.size w (w.alloc (.cells #[.slice S c.tags.length cs, .slice U c.types.length cu] 122)) := (Below.refl _ _).alloc (Nat.le_refl _) _
  have hbx1 := (Bx.new w 122 [.slice S c.tags.length cs, .slice U c.types.length cu]).alloc (.cells #[.string e.stream, .string e.type, .slice T e.tags.length ct, .slice F e.fields.length cf] 42)
  have hbx2 := Bx.new (w.alloc (.cells #[.slice S c.tags.length cs, .slice U c.types.length cu] 122)) 42 [.string e.stream, .string e.type, .slice T e.tags.length ct, .slice F e.fields.length cf]
  rw [show (w.alloc (.cells #[.slice S c.tags.length cs, .slice U c.types.length cu] 122)).heap.size = w.heap.size + 1 by simp] at hbx2
  have HBW := Lib.hid (show Below w.heap.size w ((w.alloc (.cells #[.slice S c.tags.length cs, .slice U c.types.length cu] 122)).alloc (.cells #[.string e.stream, .string e.type, .slice T e.tags.length ct, .slice F e.fields.length cf] 42)) from ha.alloc (by simp) _)
  have HS := Lib.hid (hS.below HBW.out)
  have HU := Lib.hid (hU.below HBW.out)
  have HT := Lib.hid (hT.below HBW.out)
  have HX1 := Lib.hid hbx1
  have HX2 := Lib.hid hbx2
  clear hS hU hT ha hbx1 hbx2
  generalize (w.alloc (.cells #[.slice S c.tags.length cs, .slice U c.types.length cu] 122)).alloc (.cells #[.string e.stream, .string e.type, .slice T e.tags.length ct, .slice F e.fields.length cf] 42) = X at *
  generalize w.heap.size = g at HX1 HX2 ⊢
  have HK := Lib.hid (fun W (hb : Below X.heap.size X W) => show Below X.heap.size X W ∧ W.cell? ⟨g, 0, none⟩ = some (.slice S c.tags.length cs) ∧ W.cell? ⟨g, 1, none⟩ = some (.slice U c.types.length cu) ∧ W.cell? ⟨g + 1, 0, none⟩ = some (.string e.stream) ∧ W.cell? ⟨g + 1, 1, none⟩ = some (.string e.type) ∧ W.cell? ⟨g + 1, 2, none⟩ = some (.slice T e.tags.length ct) ∧ W.cell? ⟨g + 1, 3, none⟩ = some (.slice F e.fields.length cf) from
    ⟨hb, (HX1.out.under hb).cell 0, (HX1.out.under hb).cell 1, (HX2.out.under hb).cell 0, (HX2.out.under hb).cell 1, (HX2.out.under hb).cell 2, (HX2.out.under hb).cell 3⟩)
  have CH : Hid (∀ W (R : Prop) (x : ByteArray), Below X.heap.size X W ∧ R → Calls Tryz.prog 104 #[.agg #[.string e.stream, .string e.type, .slice T e.tags.length ct, .slice F e.fields.length cf], .string x] W fun r w' => r = .returned (.bool (hasS x e.tags)) ∧ Below W.heap.size W w') :=
    Lib.hid (fun W R x h => Has04_any (HT.out.below h.1) x)
  clear HX1 HX2
  go_loopw [5] (fun i wr => ∃ k : Nat, k ≤ c.tags.length ∧ i = .int .i64 k ∧ (∀ j (hj : j < c.tags.length), j < k → hasS c.tags[j] e.tags = true) ∧ Below X.heap.size X wr) (fun i _ => c.tags.length - (intOf i).toNat)
  case atStart => exact ⟨0, Nat.zero_le _, rfl, fun j hj hk => by omega, Below.refl _ _⟩
  case round =>
    obtain ⟨k, hk, rfl, hal, hb⟩ := hrel
    have HAL := Lib.hid hal
    have HB := Lib.hid hb
    obtain ⟨_, z0, z1, z2, z3, z4, z5⟩ := HK.out wr hb
    clear hal hb
    by_cases hlt : k < c.tags.length
    · obtain ⟨ad, rfl, hx⟩ := row_str_at HS.out.2.2 hlt
      have hxl : ad.block < X.heap.size := by have := World.block_lt_of_cell? X _ hx; rwa [block_add] at this
      generalize hxe : c.tags[k] = x at hx
      have HX := Lib.hid hxe
      have HKx := Lib.hid (fun W (hb : Below X.heap.size X W) => show Below X.heap.size X W ∧ W.cell? ⟨g, 0, none⟩ = some (.slice (some ad) c.tags.length cs) ∧ W.cell? ⟨g + 1, 0, none⟩ = some (.string e.stream) ∧ W.cell? ⟨g + 1, 1, none⟩ = some (.string e.type) ∧ W.cell? ⟨g + 1, 2, none⟩ = some (.slice T e.tags.length ct) ∧ W.cell? ⟨g + 1, 3, none⟩ = some (.slice F e.fields.length cf) ∧ W.cell? (ad.add k) = some (.string x) from by
        obtain ⟨a, a0, a1, a2, a3, a4, a5⟩ := HK.out W hb
        exact ⟨a, a0, a2, a3, a4, a5, (hb.cell (by rw [block_add]; exact hxl)).trans hx⟩)
      have CX := Lib.hid (fun W R h => CH.out W R x h)
      clear hxe hx
      have b1 : (0 : Int) ≤ (k : Int) := Int.natCast_nonneg _
      have b2 : (k : Int) < (c.tags.length : Int) := by omega
      generalize hhe : hasS x e.tags = hh at CX
      have HH := Lib.hid hhe
      clear hhe
      go_upto_region 4 with fail
      clear z0 z1 z2 z3 z4 z5
      rcases hh with _ | _
      all_goals go_region_held3 (fun W => Below X.heap.size X W ∧ W.cell? ⟨g, 0, none⟩ = some (.slice (some ad) c.tags.length cs) ∧ W.cell? ⟨g + 1, 0, none⟩ = some (.string e.stream) ∧ W.cell? ⟨g + 1, 1, none⟩ = some (.string e.type) ∧ W.cell? ⟨g + 1, 2, none⟩ = some (.slice T e.tags.length ct) ∧ W.cell? ⟨g + 1, 3, none⟩ = some (.slice F e.fields.length cf) ∧ W.cell? (ad.add k) = some (.string x)) (first | exact HKx.out _ (below_drawn HB.out) | (assumption) | exact HKx.out _ (bthen (And.left (by assumption : Below X.heap.size X _ ∧ _)) (by assumption))) (first | (go_at_call 104; go_fit (CX.out _ _ (by assumption)); rintro r w6 ⟨rfl, hb6⟩))
      · have HB6 := Lib.hid (bthen (below_drawn HB.out) hb6)
        clear hb6
        go_wp2
        go_ret
        refine ⟨?_, bthen HBW.out HB6.out⟩
        have : c.tags.all (fun s => hasS s e.tags) = false := all_no hlt (by rw [HX.out]; exact HH.out)
        unfold clauseM
        rw [this]
        rfl
      · have HB6 := Lib.hid (bthen (below_drawn HB.out) hb6)
        clear hb6
        go_wp2
        go_roundw
        case rel =>
          refine ⟨k + 1, by omega, by go_num, fun j hj hjk => ?_, HB6.out⟩
          rcases Nat.lt_or_ge j k with h | h
          · exact HAL.out j hj h
          · obtain rfl : j = k := by omega
            rw [HX.out]; exact HH.out
        case measure => simp [intOf]; omega
    · have HALL := Lib.hid (show c.tags.all (fun s => hasS s e.tags) = true from all_of (fun j hj => HAL.out j hj (by omega)))
      have HU' := Lib.hid (HU.out.below HB.out)
      clear CH HK
      go_wp2
      go_loopw [7] (fun i wq => ∃ k n : Nat, k ≤ c.types.length ∧ i = .int .i64 k ∧ (∀ j (hj : j < c.types.length), j < k → c.types[j] ≠ e.type) ∧ wq = wr.drewN n) (fun i _ => c.types.length - (intOf i).toNat)
      case atStart => exact ⟨0, 0, Nat.zero_le _, rfl, fun j hj hk => by omega, rfl⟩
      case round =>
        obtain ⟨k2, n, hk2, rfl, hal, rfl⟩ := hrel
        have HAL2 := Lib.hid hal
        clear hal
        by_cases hlt2 : k2 < c.types.length
        · obtain ⟨ad, rfl, hx⟩ := row_str_at HU'.out.2.2 hlt2
          generalize hxe : c.types[k2] = x at hx
          have HX := Lib.hid hxe
          clear hxe
          have b1 : (0 : Int) ≤ (k2 : Int) := Int.natCast_nonneg _
          have b2 : (k2 : Int) < (c.types.length : Int) := by omega
          have hq := strEqL x e.type
          by_cases hxy : x = e.type
          · rw [decide_eq_true hxy] at hq
            have HXY := Lib.hid hxy
            clear hxy
            go_wp2
            go_quiet (fail)
            go_wp2
            go_ret
            refine ⟨?_, bthen (bthen HBW.out HB.out) (below_drewN (below_drewN (Below.refl _ _) _) _)⟩
            have : hasS e.type c.types = true := (hasS_iff _ _).2 (by rw [← HXY.out, ← HX.out]; exact List.getElem_mem hlt2)
            unfold clauseM
            rw [this, HALL.out]
            simp
          · rw [decide_eq_false hxy] at hq
            have HXY := Lib.hid hxy
            clear hxy
            go_wp2
            go_quiet (fail)
            go_wp2
            go_roundw
            case rel =>
              refine ⟨k2 + 1, _, by omega, by go_num, fun j hj hjk => ?_, rfl⟩
              rcases Nat.lt_or_ge j k2 with h | h
              · exact HAL2.out j hj h
              · obtain rfl : j = k2 := by omega
                rw [HX.out]; exact HXY.out
            case measure => simp [intOf]; omega
        · go_wp2
          go_ret
          refine ⟨?_, bthen (bthen HBW.out HB.out) (below_drewN (Below.refl _ _) _)⟩
          have hno : hasS e.type c.types = false := hasS_take_no (fun j hj => HAL2.out j hj (by omega))
          unfold clauseM
          rw [hno, HALL.out]
          cases c.types with
          | nil => simp
          | cons y ys => simp; omega
end Go.Proofs.YtigejdnjdajbhaaGreat
namespace Go.Proofs.YtigejdnjdajbhaaGreat
open Go.RowKit

theorem any_no {α : Type} {l : List α} {f : α → Bool} (h : ∀ j (hj : j < l.length), f l[j] = false) : l.any f = false := by
  rw [Bool.eq_false_iff]
  intro hh
  obtain ⟨x, hx, e⟩ := List.any_eq_true.1 hh
  obtain ⟨j, hj, e2⟩ := List.mem_iff_getElem.1 hx
  rw [← e2, h j hj] at e
  cases e
set_option maxHeartbeats 1000000 in
set_option maxRecDepth 4000 in
theorem Match06_any {q : List Clause} {e : Event} {Q T F : Option Addr} {cq ct cf : Nat} {w : World} (hQ : SlC w Q cq q) (hT : Sl Kn.str (fun _ => True) w T ct e.tags) :
    Calls Tryz.prog 27 #[.agg #[.slice Q q.length cq], vEvent e T ct F cf] w fun r w' => r = .returned (.bool (matchM q e)) ∧ Below w.heap.size w w' := by
  have hs1 := hQ.1
  have hs2 := hQ.2.1
  unfold maxLen at hs2
  unfold vEvent
  go_enter Tryz.func27, Tryz.ntmps27
  go_upto_region 2 with fail
  have ha : Below w.heap.size w (w.alloc (.cells #[.slice Q q.length cq] 25)) := (Below.refl _ _).alloc (Nat.le_refl _) _
  have hbx1 := (Bx.new w 25 [.slice Q q.length cq]).alloc (.cells #[.string e.stream, .string e.type, .slice T e.tags.length ct, .slice F e.fields.length cf] 42)
  have hbx2 := Bx.new (w.alloc (.cells #[.slice Q q.length cq] 25)) 42 [.string e.stream, .string e.type, .slice T e.tags.length ct, .slice F e.fields.length cf]
  rw [show (w.alloc (.cells #[.slice Q q.length cq] 25)).heap.size = w.heap.size + 1 by simp] at hbx2
  have HBW := Lib.hid (show Below w.heap.size w ((w.alloc (.cells #[.slice Q q.length cq] 25)).alloc (.cells #[.string e.stream, .string e.type, .slice T e.tags.length ct, .slice F e.fields.length cf] 42)) from ha.alloc (by simp) _)
  have HQ := Lib.hid (hQ.below HBW.out)
  have HT := Lib.hid (hT.below HBW.out)
  have HX1 := Lib.hid hbx1
  have HX2 := Lib.hid hbx2
  clear hQ hT ha hbx1 hbx2
  generalize (w.alloc (.cells #[.slice Q q.length cq] 25)).alloc (.cells #[.string e.stream, .string e.type, .slice T e.tags.length ct, .slice F e.fields.length cf] 42) = X at *
  generalize w.heap.size = g at HX1 HX2 ⊢
  have HK := Lib.hid (fun W (hb : Below X.heap.size X W) => show Below X.heap.size X W ∧ W.cell? ⟨g, 0, none⟩ = some (.slice Q q.length cq) ∧ W.cell? ⟨g + 1, 0, none⟩ = some (.string e.stream) ∧ W.cell? ⟨g + 1, 1, none⟩ = some (.string e.type) ∧ W.cell? ⟨g + 1, 2, none⟩ = some (.slice T e.tags.length ct) ∧ W.cell? ⟨g + 1, 3, none⟩ = some (.slice F e.fields.length cf) from
    ⟨hb, (HX1.out.under hb).cell 0, (HX2.out.under hb).cell 0, (HX2.out.under hb).cell 1, (HX2.out.under hb).cell 2, (HX2.out.under hb).cell 3⟩)
  clear HX1 HX2
  go_loopw [5] (fun i wr => ∃ k : Nat, k ≤ q.length ∧ i = .int .i64 k ∧ (∀ j (hj : j < q.length), j < k → clauseM e q[j] = false) ∧ Below X.heap.size X wr) (fun i _ => q.length - (intOf i).toNat)
  case atStart => exact ⟨0, Nat.zero_le _, rfl, fun j hj hk => by omega, Below.refl _ _⟩
  case round =>
    obtain ⟨k, hk, rfl, hal, hb⟩ := hrel
    have HAL := Lib.hid hal
    have HB := Lib.hid hb
    obtain ⟨_, z0, z1, z2, z3, z4⟩ := HK.out wr hb
    clear hal hb
    by_cases hlt : k < q.length
    · obtain ⟨ad, S, sa, U, ua, rfl, hx, hy, hS, hU⟩ := row_clause_at HQ.out.2.2 hlt
      have hxl : ad.block < X.heap.size := by have := World.block_lt_of_cell? X _ hx; rwa [block_add] at this
      generalize hxe : q[k] = x at hx hy hS hU
      have HX := Lib.hid hxe
      have HKx := Lib.hid (fun W (hb : Below X.heap.size X W) => show Below X.heap.size X W ∧ W.cell? ⟨g, 0, none⟩ = some (.slice (some ad) q.length cq) ∧ W.cell? ⟨g + 1, 0, none⟩ = some (.string e.stream) ∧ W.cell? ⟨g + 1, 1, none⟩ = some (.string e.type) ∧ W.cell? ⟨g + 1, 2, none⟩ = some (.slice T e.tags.length ct) ∧ W.cell? ⟨g + 1, 3, none⟩ = some (.slice F e.fields.length cf) ∧ W.cell? (ad.add (k * 2)) = some (.slice S x.tags.length sa) ∧ W.cell? ⟨(ad.add (k * 2)).block, (ad.add (k * 2)).off + 1, none⟩ = some (.slice U x.types.length ua) from by
        obtain ⟨a, a0, a2, a3, a4, a5⟩ := HK.out W hb
        exact ⟨a, a0, a2, a3, a4, a5, (hb.cell (by rw [block_add]; exact hxl)).trans hx, (hb.cell (by simp only; rw [block_add]; exact hxl)).trans hy⟩)
      have CX : Hid (∀ W (R : Prop), Below X.heap.size X W ∧ R → Calls Tryz.prog 73 #[.agg #[.slice S x.tags.length sa, .slice U x.types.length ua], .agg #[.string e.stream, .string e.type, .slice T e.tags.length ct, .slice F e.fields.length cf]] W fun r w' => r = .returned (.bool (clauseM e x)) ∧ Below W.heap.size W w') :=
        Lib.hid (fun W R h => clause06_any (hS.any.below h.1) (hU.any.below h.1) (HT.out.below h.1))
      clear hxe hx hy hS hU
      have b1 : (0 : Int) ≤ (k : Int) := Int.natCast_nonneg _
      have b2 : (k : Int) < (q.length : Int) := by omega
      generalize hhe : clauseM e x = hh at CX
      have HH := Lib.hid hhe
      clear hhe
      go_upto_region 4 with fail
      clear z0 z1 z2 z3 z4
      rcases hh with _ | _
      all_goals go_region_held3 (fun W => Below X.heap.size X W ∧ W.cell? ⟨g, 0, none⟩ = some (.slice (some ad) q.length cq) ∧ W.cell? ⟨g + 1, 0, none⟩ = some (.string e.stream) ∧ W.cell? ⟨g + 1, 1, none⟩ = some (.string e.type) ∧ W.cell? ⟨g + 1, 2, none⟩ = some (.slice T e.tags.length ct) ∧ W.cell? ⟨g + 1, 3, none⟩ = some (.slice F e.fields.length cf) ∧ W.cell? (ad.add (k * 2)) = some (.slice S x.tags.length sa) ∧ W.cell? ⟨(ad.add (k * 2)).block, (ad.add (k * 2)).off + 1, none⟩ = some (.slice U x.types.length ua)) (first | exact HKx.out _ (below_drawn HB.out) | (assumption) | exact HKx.out _ (bthen (And.left (by assumption : Below X.heap.size X _ ∧ _)) (by assumption))) (first | (go_at_call 73; go_fit (CX.out _ _ (by assumption)); rintro r w6 ⟨rfl, hb6⟩))
      · have HB6 := Lib.hid (bthen (below_drawn HB.out) hb6)
        clear hb6
        go_wp2
        go_roundw
        case rel =>
          refine ⟨k + 1, by omega, by go_num, fun j hj hjk => ?_, HB6.out⟩
          rcases Nat.lt_or_ge j k with h | h
          · exact HAL.out j hj h
          · obtain rfl : j = k := by omega
            rw [HX.out]; exact HH.out
        case measure => simp [intOf]; omega
      · have HB6 := Lib.hid (bthen (below_drawn HB.out) hb6)
        clear hb6
        go_wp2
        go_ret
        refine ⟨?_, bthen HBW.out HB6.out⟩
        have : matchM q e = true := List.any_eq_true.2 ⟨_, List.getElem_mem hlt, by rw [HX.out]; exact HH.out⟩
        rw [this]
        rfl
    · go_wp2
      go_ret
      refine ⟨?_, bthen HBW.out HB.out⟩
      have : matchM q e = false := any_no (fun j hj => HAL.out j hj (by omega))
      rw [this]
      rfl
end Go.Proofs.YtigejdnjdajbhaaGreat

namespace Go.Proofs.YtigejdnjdajbhaaGreat
open Go.RowKit Go.Maps

section
variable {w : World} {y : Nat} {A : Option Addr} {c : Nat} {rs : List Rec} {X : Nat → Prop}
set_option maxHeartbeats 4000000 in
set_option maxRecDepth 100000 in
theorem ref14Query_any (h : Rx w y A c rs X) (hl : rs.length ≤ 100000) {q : List Clause} {Q : Option Addr} {cq : Nat} (hq : SlC w Q cq q) (x : Int) :
    Calls Tryz.prog 29 #[.pointer (some ⟨y, 0, none⟩), .agg #[.slice Q q.length cq], .int .i64 x] w (RetRef y (rs.filter (fun r => matchM q r.ev && decide (r.pos ≤ x))) w) := by
  have hc1 := h.sl.1
  have hc2 := h.sl.2.1
  unfold maxLen at hc2
  obtain ⟨W1, hW1⟩ : ∃ W1, W1 = w.alloc (.cells #[.slice Q q.length cq] 25) := ⟨_, rfl⟩
  have HW1 := Lib.hid hW1
  have hb1 : Below w.heap.size w W1 := by rw [hW1]; exact (Below.refl _ _).alloc (Nat.le_refl _) _
  have hxq : Bx W1 w.heap.size 25 [.slice Q q.length cq] := by rw [hW1]; exact Bx.new w _ _
  have HB1 := Lib.hid hb1
  have HXQ := Lib.hid hxq
  have HQ := Lib.hid (hq.below hb1)
  have H := Lib.hid (h.below hb1)
  obtain ⟨f, hf⟩ : ∃ f : Rec → Bool, f = fun r => matchM q r.ev && decide (r.pos ≤ x) := ⟨_, rfl⟩
  rw [← hf]
  have HF := Lib.hid hf
  have hyl := (h.below hb1).bx.lt
  have HO := Lib.hid (Own.lit0 kRec 105 W1.heap.size (fun j => j < W1.heap.size) W1 (Nat.le_refl _))
  clear h hf hq hb1 hxq
  go_enter Tryz.func29, Tryz.ntmps29
  go_upto_region 1 with fail
  rw [← HW1.out]
  clear hW1 HW1
  go_wp2_with fail
  go_loopw [7, 8] (fun v i wr => ∃ k : Nat, k ≤ rs.length ∧ i = .int .i64 k ∧ Own kRec 105 W1.heap.size (fun j => j < W1.heap.size) wr v ((rs.take k).filter f) ∧ Below W1.heap.size W1 wr) (fun _ i _ => rs.length - (intOf i).toNat)
  case atStart => exact ⟨0, Nat.zero_le _, rfl, HO.out, (Below.refl _ _).alloc (Nat.le_refl _) _⟩
  case round =>
    clear HO
    obtain ⟨k, hk, rfl, ho, hb⟩ := hrel
    have x0 := (H.out.bx.under hb).cell 0
    simp only [List.getElem?_cons_zero] at x0
    by_cases hlt : k < rs.length
    · obtain ⟨ad, S, sa, T, ta, rfl, c0, c1, c2, c3, c4, c5, hS, hT⟩ := row_rec_at ((H.out.sl.bound).below hb).2.2 hlt
      have HY := Lib.hid (fun hy => filter_take_yes (f := f) hlt hy)
      have HN := Lib.hid (fun hy => filter_take_no (f := f) hlt hy)
      have hfl : ((rs.take k).filter f).length ≤ k := by have := List.length_filter_le f (rs.take k); rw [List.length_take] at this; omega
      generalize rs[k] = r at c0 c1 c2 c3 c4 c5 hS hT HY HN
      have HS := Lib.hid hS
      have HT := Lib.hid hT
      have HOW := Lib.hid ho
      have HB := Lib.hid hb
      have e1 : (0 : Int) ≤ (k : Int) := Int.natCast_nonneg _
      have e2 : (k : Int) < (rs.length : Int) := by omega
      have hbs := hb.size
      obtain ⟨m, hm⟩ : ∃ m, matchM q r.ev = m := ⟨_, rfl⟩
      have hfr : f r = (m && decide (r.pos ≤ x)) := by rw [HF.out, ← hm]
      have HFR := Lib.hid hfr
      have HCF := Lib.hid (fun W (hw : Below wr.heap.size wr W) => show W.cell? (ad.add (k * 6)) = some (.int .i64 r.pos) ∧ W.cell? ⟨(ad.add (k * 6)).block, (ad.add (k * 6)).off + 1, none⟩ = some (.int .i64 r.ver) ∧ W.cell? ⟨w.heap.size, 0, none⟩ = some (.slice Q q.length cq) ∧ W.cell? ⟨y, 0, none⟩ = some (.slice (some ad) rs.length c) ∧ W.cell? ⟨(ad.add (k * 6)).block, (ad.add (k * 6)).off + 2, none⟩ = some (.string r.ev.stream) ∧ W.cell? ⟨(ad.add (k * 6)).block, (ad.add (k * 6)).off + 2 + 1, none⟩ = some (.string r.ev.type) ∧ W.cell? ⟨(ad.add (k * 6)).block, (ad.add (k * 6)).off + 2 + 2, none⟩ = some (.slice S r.ev.tags.length sa) ∧ W.cell? ⟨(ad.add (k * 6)).block, (ad.add (k * 6)).off + 2 + 3, none⟩ = some (.slice T r.ev.fields.length ta) from
        ⟨(hw.cell (World.block_lt_of_cell? wr _ c0)).trans c0, (hw.cell (World.block_lt_of_cell? wr _ c1)).trans c1, ((HXQ.out.under hb).under hw).cell 0, ((H.out.bx.under hb).under hw).cell 0, (hw.cell (World.block_lt_of_cell? wr _ c2)).trans c2, (hw.cell (World.block_lt_of_cell? wr _ c3)).trans c3, (hw.cell (World.block_lt_of_cell? wr _ c4)).trans c4, (hw.cell (World.block_lt_of_cell? wr _ c5)).trans c5⟩)
      have DM := Lib.hid (fun W (R : Prop) (hW : Below wr.heap.size wr W ∧ R) => show Calls Tryz.prog 27 #[.agg #[.slice Q q.length cq], .agg #[.string r.ev.stream, .string r.ev.type, .slice S r.ev.tags.length sa, .slice T r.ev.fields.length ta]] W fun r w' => r = .returned (.bool m) ∧ Below W.heap.size W w' from by
        have := Match06_any (e := r.ev) (F := T) (cf := ta) (HQ.out.below (bthen HB.out hW.1)) (HS.out.below hW.1).any
        rw [hm] at this
        exact this)
      clear hS hT ho hb hfr hm c0 c1 c2 c3 c4 c5
      go_upto_region 5 with fail
      go_cut [9] (fun v wx => v = .bool m ∧ Below wr.heap.size wr wx)
      case first =>
        have HK := Lib.hid (fun W (hw : Below wr.heap.size wr W) => show Below wr.heap.size wr W ∧ W.cell? ⟨w.heap.size, 0, none⟩ = some (.slice Q q.length cq) ∧ W.cell? ⟨y, 0, none⟩ = some (.slice (some ad) rs.length c) ∧ W.cell? ⟨(ad.add (k * 6)).block, (ad.add (k * 6)).off + 2, none⟩ = some (.string r.ev.stream) ∧ W.cell? ⟨(ad.add (k * 6)).block, (ad.add (k * 6)).off + 2 + 1, none⟩ = some (.string r.ev.type) ∧ W.cell? ⟨(ad.add (k * 6)).block, (ad.add (k * 6)).off + 2 + 2, none⟩ = some (.slice S r.ev.tags.length sa) ∧ W.cell? ⟨(ad.add (k * 6)).block, (ad.add (k * 6)).off + 2 + 3, none⟩ = some (.slice T r.ev.fields.length ta) from ⟨hw, (HCF.out W hw).2.2⟩)
        go_region_held3 (fun W => Below wr.heap.size wr W ∧ W.cell? ⟨w.heap.size, 0, none⟩ = some (.slice Q q.length cq) ∧ W.cell? ⟨y, 0, none⟩ = some (.slice (some ad) rs.length c) ∧ W.cell? ⟨(ad.add (k * 6)).block, (ad.add (k * 6)).off + 2, none⟩ = some (.string r.ev.stream) ∧ W.cell? ⟨(ad.add (k * 6)).block, (ad.add (k * 6)).off + 2 + 1, none⟩ = some (.string r.ev.type) ∧ W.cell? ⟨(ad.add (k * 6)).block, (ad.add (k * 6)).off + 2 + 2, none⟩ = some (.slice S r.ev.tags.length sa) ∧ W.cell? ⟨(ad.add (k * 6)).block, (ad.add (k * 6)).off + 2 + 3, none⟩ = some (.slice T r.ev.fields.length ta)) (first | exact HK.out _ (below_drawn (Below.refl _ _)) | exact HK.out _ HB5.out | (assumption))
          (first | (go_at_call 27; go_fit (DM.out _ _ (by assumption)); rintro r w5 ⟨rfl, hb5⟩; have HB5 := Lib.hid (bthen (below_drawn (Below.refl _ _)) hb5); clear hb5))
        all_goals go_wp2_with fail
        all_goals go_meet
        all_goals exact ⟨rfl, HB5.out⟩
      case rest =>
        obtain ⟨rfl, hbc⟩ := hcut
        have HBC := Lib.hid hbc
        obtain ⟨c0, c1, _, y0, c2, c3, c4, c5⟩ := HCF.out _ hbc
        have HOC := Lib.hid (HOW.out.below hbc)
        have hcs := hbc.size
        have hws : W1.heap.size ≤ wc.heap.size := by omega
        clear hbc x0
        cases m with
        | true =>
          by_cases h2 : r.pos ≤ x
          · have HTK := Lib.hid (HY.out (by rw [HFR.out, decide_eq_true h2]; rfl))
            go_wp2_with (at_builtin; refine wpList_pushH (W := wc) rfl _ _ _ rfl 105 _ 6 96 Tryz.underlying32 infoRec rfl (by decide) (by decide) rfl W1.heap.size (fun i => i < W1.heap.size) u7 _ rfl HOC.out r [.int .i64 r.pos, .int .i64 r.ver, .string r.ev.stream, .string r.ev.type, .slice S r.ev.tags.length sa, .slice T r.ev.fields.length ta] (kRec_mk ((HS.out.below HBC.out).mono (fun i hi => ⟨hi.2, own_far HOC.out i hi.2⟩)) ((HT.out.below HBC.out).mono (fun i hi => ⟨hi.2, own_far HOC.out i hi.2⟩))) wc.heap.size rfl rfl hws (by omega) ?_; intro v1 w6 hown1 hg1 hat1 hbel1; have HO5 := Lib.hid hown1; have HB5 := Lib.hid (hbel1 W1 (bthen HB.out HBC.out)); clear hown1 hg1 hat1 hbel1)
            go_roundw
            case rel => exact ⟨k + 1, by omega, by go_num, by rw [HTK.out]; exact HO5.out, HB5.out⟩
            case measure => simp [intOf]; omega
          · have HTK := Lib.hid (HN.out (by rw [HFR.out, decide_eq_false h2]; rfl))
            go_wp2_with fail
            go_roundw
            case rel => exact ⟨k + 1, by omega, by go_num, by rw [HTK.out]; exact HOC.out, bthen HB.out HBC.out⟩
            case measure => simp [intOf]; omega
        | false =>
          have HTK := Lib.hid (HN.out (by rw [HFR.out]; rfl))
          go_wp2_with fail
          go_roundw
          case rel => exact ⟨k + 1, by omega, by go_num, by rw [HTK.out]; exact HOC.out, bthen HB.out HBC.out⟩
          case measure => simp [intOf]; omega
    · obtain rfl : k = rs.length := by omega
      rw [List.take_length] at ho
      obtain ⟨A1, c1, rfl, hs⟩ := ho.sl
      have HS := Lib.hid hs.any
      have HB := Lib.hid hb
      clear ho hs hb
      go_wp2_with fail
      go_ret
      exact ⟨A1, c1, rfl, HS.out, bthen HB1.out HB.out⟩
end
end Go.Proofs.YtigejdnjdajbhaaGreat

namespace Go.Proofs.YtigejdnjdajbhaaGreat
open Go.RowKit Go.Maps

abbrev Rd : Type := ByteArray × List Clause × Int
abbrev kRead : Kn Rd := Kn.pair Kn.str (Kn.pair kQuery (Kn.int .i64))
abbrev goodRead (g : Rd) : Prop := gS g.1 ∧ (∀ c ∈ g.2.1, goodClause c) ∧ gN g.2.2
theorem opRead : Opens Tryz.prog 59 kRead goodRead :=
  Opens.struct (d := kRead) (good := goodRead) Tryz.underlying59 (by kernel_rfl)
    (OpensFs.cons (good := gS) (good' := fun (y : List Clause × Int) => (∀ c ∈ y.1, goodClause c) ∧ gN y.2) (d := Kn.str) opStr (by kernel_rfl)
      (OpensFs.cons (good := fun y : List Clause => ∀ c ∈ y, goodClause c) (good' := gN) (d := kQuery) opQuery (by kernel_rfl) (OpensFs.last opInt (by kernel_rfl))))
theorem read_in {w : World} {g : Rd} {c : Array Value} (h : kRead.K (fun _ => True) w g c.toList) : ∃ Q cq, c = #[.string g.1, .slice Q g.2.1.length cq, .int .i64 g.2.2] ∧ Sl kClause (fun k => k < w.heap.size) w Q cq g.2.1 := by
  obtain ⟨c0, c1, h0, h1, c2, c3, h2, h3, h4⟩ := h
  obtain ⟨Q, cq, h7, h8, h9, h10⟩ := h3
  have e0 : c0 = [.string g.1] := h1
  have e3 : c3 = [.int .i64 g.2.2] := h4
  have hs : Sl kClause (fun _ => True) w Q cq g.2.1 := ⟨h8, h9, h10⟩
  refine ⟨Q, cq, ?_, hs.bound.mono (fun _ h => h.2)⟩
  subst e0 e3 h7 h2
  cases c
  simpa using h0
theorem same_filter {rs : List Rec} (f : Rec → Bool) (g : Rec → Bool) (hfg : ∀ r ∈ rs, f r = true → g r = true) : sameRs (rs.filter f) (rs.filter g) = decide ((rs.filter g).length = (rs.filter f).length) := by
  have h1 : rs.filter f = (rs.filter g).filter f := by
    rw [List.filter_filter]
    refine List.filter_congr (fun r hr => ?_)
    by_cases h : f r = true
    · rw [h, hfg r hr h]; rfl
    · simp [h]
  rw [Bool.eq_iff_iff, sameRs_iff, decide_eq_true_eq]
  constructor
  · intro h; rw [h]
  · intro h
    rw [h1] at h ⊢
    exact List.filter_eq_self.2 (List.length_filter_eq_length_iff.1 h.symm)
theorem read_one (es : List Event) (s : ByteArray) {t : Nat} (ht : t ≤ es.length) : sameRs (strmR es s t) (strmR es s es.length) = decide ((verR es s es.length : Int) = (verR es s t : Int)) := by
  unfold strmR verR
  rw [same_filter _ _ (fun r _ h => by
    simp only [Bool.and_eq_true, decide_eq_true_eq] at h ⊢
    exact ⟨h.1, by omega⟩)]
  unfold strmR
  exact decide_eq_decide.2 (by omega)
theorem read_two (es : List Event) (q : List Clause) {t : Nat} (ht : t ≤ es.length) : sameRs (qryR es q t) (qryR es q es.length) = !sinceR es q t := by
  unfold qryR
  rw [same_filter _ _ (fun r _ h => by
    simp only [Bool.and_eq_true, decide_eq_true_eq] at h ⊢
    exact ⟨h.1, by omega⟩)]
  rw [Bool.eq_iff_iff, decide_eq_true_eq, Bool.not_eq_true']
  have h1 : (recsOf es).filter (fun r => matchM q r.ev && decide (r.pos ≤ (t : Int))) = ((recsOf es).filter (fun r => matchM q r.ev && decide (r.pos ≤ (es.length : Int)))).filter (fun r => decide (r.pos ≤ (t : Int))) := by
    rw [List.filter_filter]
    refine List.filter_congr (fun r hr => ?_)
    have := (recsOf_mem hr).2.1
    simp only [decide_eq_true this, Bool.and_true]
    rw [Bool.and_comm]
  rw [h1]
  constructor
  · intro h
    have h2 := List.length_filter_eq_length_iff.1 h.symm
    unfold sinceR
    rw [List.any_eq_false]
    intro r hr hc
    rw [Bool.and_eq_true, decide_eq_true_eq] at hc
    have h3 := h2 r (List.mem_filter.2 ⟨hr, by rw [hc.1, decide_eq_true (recsOf_mem hr).2.1]; rfl⟩)
    rw [decide_eq_true_eq] at h3
    omega
  · intro h
    refine (List.length_filter_eq_length_iff.2 (fun r hr => ?_)).symm
    obtain ⟨hr, hm⟩ := List.mem_filter.1 hr
    rw [Bool.and_eq_true] at hm
    unfold sinceR at h
    rw [List.any_eq_false] at h
    have h3 := h r hr
    rw [hm.1, Bool.true_and, decide_eq_true_eq] at h3
    rw [decide_eq_true_eq]
    omega
end Go.Proofs.YtigejdnjdajbhaaGreat

namespace Go.Proofs.YtigejdnjdajbhaaGreat
open Go.RowKit Go.Maps

set_option maxHeartbeats 8000000 in
set_option maxRecDepth 100000 in
theorem guardRead_walk (w : World) (A : Option Addr) (c : Nat) (l : List Event) (h : Sl kEvent (fun _ => True) w A c l) (hg : ∀ x ∈ l, goodEvent x) (c1 : Array Value) (x : Rd) (hx : kRead.K (fun _ => True) w x c1.toList) (gx : goodRead x) :
    Calls Tryz.prog 5 #[.slice A l.length c, .agg c1] w fun r w' => r = .returned (.bool true) ∧ Below w.heap.size w w' := by
  have HL0 := Lib.hid (show Sl kEvent (fun k => k < w.heap.size) w A c l from h.bound.mono (fun _ h => h.2))
  have HG := Lib.hid (ev_in hg)
  obtain ⟨Q, cq, rfl, hQ⟩ := read_in hx
  obtain ⟨s, q, a⟩ := x
  have HS := Lib.hid (show s.size ≤ maxLen from gx.1)
  have HQ := Lib.hid hQ
  have HGQ := Lib.hid (show ∀ x ∈ q.take 8, goodClause x from fun x hx => gx.2.1 x (List.mem_of_mem_take hx))
  obtain ⟨W1, hW1⟩ : ∃ W1, W1 = w.alloc (.cells #[.string s, .slice Q q.length cq, .int .i64 a] 59) := ⟨_, rfl⟩
  have HW1 := Lib.hid hW1
  have hb1 : Below w.heap.size w W1 := by rw [hW1]; exact (Below.refl _ _).alloc (Nat.le_refl _) _
  have hx1 : Bx W1 w.heap.size 59 [.string s, .slice Q q.length cq, .int .i64 a] := by rw [hW1]; exact Bx.new w _ _
  have HB1 := Lib.hid hb1
  have HX1 := Lib.hid hx1
  have C1 := Lib.hid (shown18_any W1)
  clear h hg hx gx hQ hb1 hx1
  go_enter Tryz.func5, Tryz.ntmps5
  go_upto_region 1 with fail
  rw [← HW1.out]
  clear hW1 HW1
  go_upto_region 3 with (first
    | (go_at_call 23; go_fit C3.out; rintro r w3 ⟨B, y, rfl, h3⟩; have H3 := Lib.hid h3; clear h3)
    | (go_at_call 22; go_fit C1.out; rintro r w1 ⟨rfl, hb1⟩; have HB2 := Lib.hid hb1; have C3 := Lib.hid (filled_any (w := w1) ((HL0.out.below (bthen HB1.out HB2.out)).mono (fun j hj => Nat.lt_of_lt_of_le hj (bthen HB1.out HB2.out).size)) HG.out); clear hb1))
  go_upto_region 5 with fail
  clear C1 C3
  obtain ⟨es, hes⟩ : ∃ es, filE l = es := ⟨_, rfl⟩
  have H3 := Lib.hid (show Fi w1 w3 B y es by rw [← hes]; exact H3.out)
  have hel : es.length ≤ 30 := by rw [← hes]; exact filter_len30 l 30
  clear hes
  have HB3 := Lib.hid (bthen HB2.out H3.out.bel)
  obtain ⟨A4, c4, hrx⟩ := H3.out.rx
  have HRX := Lib.hid hrx
  have hcr1 := hrx.sl.1
  have hcr2 := hrx.sl.2.1
  unfold maxLen at hcr2
  rw [recsOf_len] at hcr1
  clear hrx
  obtain ⟨n, hn⟩ : ∃ n, es.length = n := ⟨_, rfl⟩
  obtain ⟨t, ht⟩ : ∃ t : Nat, (t : Int) = min (max a 0) (n : Int) := ⟨(min (max a 0) (n : Int)).toNat, by omega⟩
  have htn : t ≤ n := by omega
  have HN := Lib.hid hn
  have HTV := Lib.hid ht
  rw [hn] at hel hcr1
  clear hn ht
  have HK := Lib.hid (fun W (hb : Below w3.heap.size w3 W) => show Below w3.heap.size w3 W ∧ W.cell? ⟨w.heap.size, 2, none⟩ = some (.int .i64 a) ∧ W.cell? ⟨y, 0, none⟩ = some (.slice A4 n c4) from
    ⟨hb, (HX1.out.under (bthen HB3.out hb)).cell 2, by have := (HRX.out.bx.under hb).cell 0; rw [recsOf_len, HN.out] at this; exact this⟩)
  go_cut [8] (fun v wx => v = .int .i64 (t : Int) ∧ Below w3.heap.size w3 wx)
  case first =>
    go_region_held3 (fun W => Below w3.heap.size w3 W ∧ W.cell? ⟨w.heap.size, 2, none⟩ = some (.int .i64 a) ∧ W.cell? ⟨y, 0, none⟩ = some (.slice A4 n c4)) (first | exact HK.out _ (below_drawn (Below.refl _ _)) | (assumption)) (fail)
    all_goals go_wp2_with fail
    all_goals go_meet
    all_goals exact ⟨congrArg (Value.int .i64) HTV.out.symm, below_drawn (Below.refl _ _)⟩
  case rest =>
    obtain ⟨rfl, hbc⟩ := hcut
    have HBC := Lib.hid (bthen HB3.out hbc)
    have HBC3 := Lib.hid hbc
    clear hbc HK
    obtain ⟨m, hm⟩ : ∃ m, (q.take 8).length = m := ⟨_, rfl⟩
    have CF := Lib.hid (show Calls Tryz.prog 24 #[.agg #[.string ByteArray.empty, .int .i64 0, .slice Q q.length cq, .bool false]] wc fun r w' => r = .returned (.agg #[.string ByteArray.empty, .int .i64 0, .slice Q m cq, .bool false]) ∧ Below wc.heap.size wc w' from by
      rw [← hm]; exact few18_any (w := wc) ByteArray.empty 0 ((HQ.out.any.below (bthen HB1.out HBC.out))) false)
    have hfd : ∀ W : World, (Instr.field 51 (.agg #[.string ByteArray.empty, .int .i64 0, .slice Q m cq, .bool false]) 2).run Tryz.prog W = .ok (.agg #[.slice Q m cq]) W := fun _ => by kernel_rfl
    have HM := Lib.hid hm
    clear hm
    have k1 := (HX1.out.under HBC.out).cell 1
    simp only [List.getElem?_cons_succ, List.getElem?_cons_zero] at k1
    go_upto_region 7 with (go_at_call 24; go_fit CF.out; rintro r w4 ⟨rfl, hb4⟩; have HB4 := Lib.hid hb4; clear hb4)
    clear k1 CF hfd
    obtain ⟨X, hX⟩ : ∃ X, X = w4.alloc (.cells #[.slice Q m cq] 25) := ⟨_, rfl⟩
    rw [← hX]
    have hbX : Below w4.heap.size w4 X := by rw [hX]; exact (Below.refl _ _).alloc (Nat.le_refl _) _
    have hxg : Bx X w4.heap.size 25 [.slice Q m cq] := by rw [hX]; exact Bx.new w4 _ _
    have HB3X := Lib.hid (bthen HBC3.out (bthen HB4.out hbX))
    have HWX := Lib.hid (bthen HB1.out (bthen HB3.out HB3X.out))
    clear hX hbX HB4
    generalize w4.heap.size = g at *
    have HXG := Lib.hid hxg
    have HIX := Lib.hid (H3.out.ix.below HB3X.out)
    have HRY := Lib.hid (HRX.out.below HB3X.out)
    have HQX := Lib.hid (show SlC X Q cq (q.take 8) from by
      have h1 := (HQ.out.below HWX.out).any
      exact ⟨by have := h1.1; rw [List.length_take]; omega, h1.2.1, h1.2.2.take 8⟩)
    have HXR := Lib.hid (HX1.out.under (bthen HB3.out HB3X.out))
    clear hxg
    have HK := Lib.hid (fun W (hb : Below X.heap.size X W) => show Below X.heap.size X W ∧ W.cell? ⟨w.heap.size, 0, none⟩ = some (.string s) ∧ W.cell? ⟨g, 0, none⟩ = some (.slice Q m cq) ∧ W.cell? ⟨y, 0, none⟩ = some (.slice A4 n c4) from
      ⟨hb, (HXR.out.under hb).cell 0, (HXG.out.under hb).cell 0, by have := (HRY.out.bx.under hb).cell 0; rw [recsOf_len, HN.out] at this; exact this⟩)
    have DS := Lib.hid (fun W (R : Prop) (hW : Below X.heap.size X W ∧ R) (z : Int) => show Calls Tryz.prog 28 #[.pointer (some ⟨y, 0, none⟩), .string s, .int .i64 z] W (RetRef y (strmR es s z) W) from
      ref14Stream_any (HRY.out.below hW.1) (by rw [recsOf_len, HN.out]; omega) s z)
    obtain ⟨N1, hN1⟩ : ∃ N1, (strmR es s t).length = N1 := ⟨_, rfl⟩
    have DS1 := Lib.hid (fun W (R : Prop) (hW : Below X.heap.size X W ∧ R) => show Calls Tryz.prog 28 #[.pointer (some ⟨y, 0, none⟩), .string s, .int .i64 (t : Int)] W fun r w' => ∃ A' c', r = .returned (.slice A' N1 c') ∧ Below W.heap.size W w' from
      (DS.out W R hW t).mono (fun r w' hr => by obtain ⟨A', c', e, _, hb⟩ := hr; rw [hN1] at e; exact ⟨A', c', e, hb⟩))
    have HN1 := Lib.hid hN1
    clear hN1
    go_cut [10] (fun p wx => ∃ k, p = .pointer (some ⟨k, 0, none⟩) ∧ Bx wx k 51 [.string s, .int .i64 (N1 : Int), .slice none 0 0, .bool false] ∧ Below X.heap.size X wx)
    case first =>
      go_region_held3 (fun W => Below X.heap.size X W ∧ W.cell? ⟨w.heap.size, 0, none⟩ = some (.string s) ∧ W.cell? ⟨g, 0, none⟩ = some (.slice Q m cq) ∧ W.cell? ⟨y, 0, none⟩ = some (.slice A4 n c4))
        (first | exact HK.out _ (below_drawn (Below.refl _ _)) | exact HK.out _ (below_drawn (below_made (Below.refl _ _) (Nat.le_refl _) _)) | exact HK.out _ (below_made (below_drawn (Below.refl _ _)) (Nat.le_refl _) _) | exact HK.out _ HB5.out | exact HK.out _ (below_made HB5.out (Nat.le_refl _) _) | exact HK.out _ ((((HB5.out.setCell (Nat.le_refl _) _).setCell (Nat.le_refl _) _).setCell (Nat.le_refl _) _).setCell (Nat.le_refl _) _) | (assumption))
        (first
          | (go_at_call 28; go_fit (DS1.out _ _ (by assumption)); rintro r w5 ⟨A5, c5, rfl, hb5⟩; have hz : Bx w5 X.heap.size 51 [.string ByteArray.empty, .int .i64 0, .slice none 0 0, .bool false] := Bx.under ((Bx.new X _ _).under (below_drawn (Below.refl _ _))) hb5; have z0 := hz.cell 0; have z1 := hz.cell 1; have z2 := hz.cell 2; have z3 := hz.cell 3; have f0 := hz.free 0; have f1 := hz.free 1; have f2 := hz.free 2; have f3 := hz.free 3; simp only [List.getElem?_cons_succ, List.getElem?_cons_zero] at z0 z1 z2 z3; have HZ := Lib.hid hz; have HB5 := Lib.hid (bthen (below_drawn (below_made (Below.refl _ _) (Nat.le_refl _) _)) (hb5 : Below _ _ w5)); clear hz hb5)
          | (go_at_call 28; go_fit (DS1.out _ _ (by assumption)); rintro r w5 ⟨A5, c5, rfl, hb5⟩; have HB5 := Lib.hid (bthen (below_drawn (Below.refl _ _)) hb5); clear hb5))
      all_goals go_wp2_with fail
      all_goals go_meet
      all_goals first
        | exact ⟨w5.heap.size, rfl, Bx.new w5 _ _, below_made HB5.out (Nat.le_refl _) _⟩
        | exact ⟨X.heap.size, rfl, (((HZ.out.set 0 _).set 1 _).set 2 _).set 3 _, ((((HB5.out.setCell (Nat.le_refl _) _).setCell (Nat.le_refl _) _).setCell (Nat.le_refl _) _).setCell (Nat.le_refl _) _)⟩
    case rest =>
      obtain ⟨k, rfl, hbk, hbc⟩ := hcut
      obtain ⟨v7, hv7⟩ : ∃ v7, v7 = wc := ⟨_, rfl⟩
      subst hv7
      have k9 := (HK.out _ hbc).2.2.1
      go_upto_region 9 with fail
      obtain ⟨Y, hY⟩ : ∃ Y, Y = v7.alloc (.cells #[.string ⟨#[]⟩, .int .i64 (t : Int), .slice Q m cq, .bool true] 51) := ⟨_, rfl⟩
      rw [← hY]
      have hbY : Below v7.heap.size v7 Y := by rw [hY]; exact (Below.refl _ _).alloc (Nat.le_refl _) _
      have hxa : Bx Y v7.heap.size 51 [.string ⟨#[]⟩, .int .i64 (t : Int), .slice Q m cq, .bool true] := by rw [hY]; exact Bx.new v7 _ _
      have HXS := Lib.hid (hbk.under hbY)
      have HBY := Lib.hid (bthen hbc hbY)
      have HXA := Lib.hid hxa
      clear hY hbY hbk hbc k9 DS1
      generalize v7.heap.size = ka at *
      clear hxa
      have HKX := HK
      have HK := Lib.hid (fun W (hb : Below Y.heap.size Y W) => show Below Y.heap.size Y W ∧ W.cell? ⟨w.heap.size, 0, none⟩ = some (.string s) ∧ W.cell? ⟨y, 0, none⟩ = some (.slice A4 n c4) from ⟨hb, (HKX.out _ (bthen HBY.out hb)).2.1, (HKX.out _ (bthen HBY.out hb)).2.2.2⟩)
      obtain ⟨N2, hN2⟩ : ∃ N2, (strmR es s n).length = N2 := ⟨_, rfl⟩
      have DA := Lib.hid (fun W (R : Prop) (hW : Below Y.heap.size Y W ∧ R) => show Calls Tryz.prog 28 #[.pointer (some ⟨y, 0, none⟩), .string s, .int .i64 (t : Int)] W fun r w' => ∃ A' c', r = .returned (.slice A' N1 c') ∧ SlR w' A' c' (strmR es s t) ∧ Below W.heap.size W w' from
        (DS.out W R ⟨bthen HBY.out hW.1, hW.2⟩ t).mono (fun r w' hr => by obtain ⟨A', c', e, h2, hb⟩ := hr; rw [HN1.out] at e; exact ⟨A', c', e, h2, hb⟩))
      have DB := Lib.hid (fun W (R : Prop) (hW : Below Y.heap.size Y W ∧ R) => show Calls Tryz.prog 28 #[.pointer (some ⟨y, 0, none⟩), .string s, .int .i64 (n : Int)] W fun r w' => ∃ A' c', r = .returned (.slice A' N2 c') ∧ SlR w' A' c' (strmR es s n) ∧ Below W.heap.size W w' from
        (DS.out W R ⟨bthen HBY.out hW.1, hW.2⟩ n).mono (fun r w' hr => by obtain ⟨A', c', e, h2, hb⟩ := hr; rw [hN2] at e; exact ⟨A', c', e, h2, hb⟩))
      obtain ⟨one, hone⟩ : ∃ one, sameRs (strmR es s t) (strmR es s n) = one := ⟨_, rfl⟩
      have DM := Lib.hid (fun W (R : Prop) (P P' : Option Addr) (p p' : Nat) (hW : Below Y.heap.size Y W ∧ R) (h1 : SlR W P p (strmR es s t)) (h2 : SlR W P' p' (strmR es s n)) => show Calls Tryz.prog 20 #[.slice P N1 p, .slice P' N2 p'] W fun r w' => r = .returned (.bool one) ∧ Below W.heap.size W w' from by
        have := ref14Same_any h1 h2
        rw [HN1.out, hN2, hone] at this
        exact this)
      have HONE := Lib.hid hone
      clear hone hN2 DS
      go_cut [12] (fun v wx => v = .bool one ∧ Below Y.heap.size Y wx)
      case first =>
          go_region_held3 (fun W => Below Y.heap.size Y W ∧ W.cell? ⟨w.heap.size, 0, none⟩ = some (.string s) ∧ W.cell? ⟨y, 0, none⟩ = some (.slice A4 n c4)) (first | exact HK.out _ (below_drawn (Below.refl _ _)) | (assumption) | exact HK.out _ (bthen (And.left (by assumption : Below Y.heap.size Y _ ∧ _)) (by assumption)))
            (first
              | (go_at_call 20; go_fit (DM.out _ _ _ _ _ _ (by assumption) HRA2.out HRB2.out); rintro r w9 ⟨rfl, hb9⟩; have HB9 := Lib.hid hb9)
              | (go_at_call 28; go_fit (DB.out _ _ (by assumption)); rintro r w8 ⟨P8, c8, rfl, hr8, hb8⟩; have HRA2 := Lib.hid (HRA1.out.below hb8); have HRB2 := Lib.hid hr8; clear hr8)
              | (go_at_call 28; go_fit (DA.out _ _ (by assumption)); rintro r w8 ⟨P8, c8, rfl, hr8, hb8⟩; have HRB2 := Lib.hid (HRB1.out.below hb8); have HRA2 := Lib.hid hr8; clear hr8)
              | (go_at_call 28; go_fit (DA.out _ _ (by assumption)); rintro r w7 ⟨P7, c7, rfl, hr7, hb7⟩; have HRA1 := Lib.hid hr7; clear hr7)
              | (go_at_call 28; go_fit (DB.out _ _ (by assumption)); rintro r w7 ⟨P7, c7, rfl, hr7, hb7⟩; have HRB1 := Lib.hid hr7; clear hr7))
          all_goals go_wp2_with fail
          all_goals go_meet
          all_goals exact ⟨rfl, And.left (by assumption : Below Y.heap.size Y w9 ∧ _)⟩
      case rest =>
        obtain ⟨rfl, hbz⟩ := hcut
        obtain ⟨Z, hZ⟩ : ∃ Z, Z = wc := ⟨_, rfl⟩
        subst hZ
        have HBZ := Lib.hid (bthen HBY.out hbz)
        have HBYZ := Lib.hid hbz
        clear hbz HK DA DB DM
        have HK := Lib.hid (fun W (hb : Below Z.heap.size Z W) => show Below Z.heap.size Z W ∧ W.cell? ⟨g, 0, none⟩ = some (.slice Q m cq) ∧ W.cell? ⟨y, 0, none⟩ = some (.slice A4 n c4) from ⟨hb, (HKX.out _ (bthen HBZ.out hb)).2.2.1, (HKX.out _ (bthen HBZ.out hb)).2.2.2⟩)
        obtain ⟨M1, hM1⟩ : ∃ M1, (qryR es (q.take 8) t).length = M1 := ⟨_, rfl⟩
        obtain ⟨M2, hM2⟩ : ∃ M2, (qryR es (q.take 8) n).length = M2 := ⟨_, rfl⟩
        have DQ := Lib.hid (fun W (R : Prop) (hW : Below Z.heap.size Z W ∧ R) (z : Int) => show Calls Tryz.prog 29 #[.pointer (some ⟨y, 0, none⟩), .agg #[.slice Q m cq], .int .i64 z] W (RetRef y (qryR es (q.take 8) z) W) from by
          have := ref14Query_any (HRY.out.below (bthen HBZ.out hW.1)) (by rw [recsOf_len, HN.out]; omega) (HQX.out.below (bthen HBZ.out hW.1)) z
          rw [HM.out] at this
          exact this)
        have DA := Lib.hid (fun W (R : Prop) (hW : Below Z.heap.size Z W ∧ R) => show Calls Tryz.prog 29 #[.pointer (some ⟨y, 0, none⟩), .agg #[.slice Q m cq], .int .i64 (t : Int)] W fun r w' => ∃ A' c', r = .returned (.slice A' M1 c') ∧ SlR w' A' c' (qryR es (q.take 8) t) ∧ Below W.heap.size W w' from
          (DQ.out W R hW t).mono (fun r w' hr => by obtain ⟨A', c', e, h2, hb⟩ := hr; rw [hM1] at e; exact ⟨A', c', e, h2, hb⟩))
        have DB := Lib.hid (fun W (R : Prop) (hW : Below Z.heap.size Z W ∧ R) => show Calls Tryz.prog 29 #[.pointer (some ⟨y, 0, none⟩), .agg #[.slice Q m cq], .int .i64 (n : Int)] W fun r w' => ∃ A' c', r = .returned (.slice A' M2 c') ∧ SlR w' A' c' (qryR es (q.take 8) n) ∧ Below W.heap.size W w' from
          (DQ.out W R hW n).mono (fun r w' hr => by obtain ⟨A', c', e, h2, hb⟩ := hr; rw [hM2] at e; exact ⟨A', c', e, h2, hb⟩))
        obtain ⟨two, htwo⟩ : ∃ two, sameRs (qryR es (q.take 8) t) (qryR es (q.take 8) n) = two := ⟨_, rfl⟩
        have DM := Lib.hid (fun W (R : Prop) (P P' : Option Addr) (p p' : Nat) (hW : Below Z.heap.size Z W ∧ R) (h1 : SlR W P p (qryR es (q.take 8) t)) (h2 : SlR W P' p' (qryR es (q.take 8) n)) => show Calls Tryz.prog 20 #[.slice P M1 p, .slice P' M2 p'] W fun r w' => r = .returned (.bool two) ∧ Below W.heap.size W w' from by
          have := ref14Same_any h1 h2
          rw [hM1, hM2, htwo] at this
          exact this)
        have HTWO := Lib.hid htwo
        clear htwo hM1 hM2 DQ
        go_upto_region 10 with fail
        go_cut [13] (fun v wx => v = .bool two ∧ Below Z.heap.size Z wx)
        case first =>
          go_region_held3 (fun W => Below Z.heap.size Z W ∧ W.cell? ⟨g, 0, none⟩ = some (.slice Q m cq) ∧ W.cell? ⟨y, 0, none⟩ = some (.slice A4 n c4)) (first | exact HK.out _ (below_drawn (Below.refl _ _)) | (assumption) | exact HK.out _ (bthen (And.left (by assumption : Below Z.heap.size Z _ ∧ _)) (by assumption)))
            (first
              | (go_at_call 20; go_fit (DM.out _ _ _ _ _ _ (by assumption) HRA2.out HRB2.out); rintro r w9 ⟨rfl, hb9⟩; have HB9 := Lib.hid hb9)
              | (go_at_call 29; go_fit (DB.out _ _ (by assumption)); rintro r w8 ⟨P8, c8, rfl, hr8, hb8⟩; have HRA2 := Lib.hid (HRA1.out.below hb8); have HRB2 := Lib.hid hr8; clear hr8)
              | (go_at_call 29; go_fit (DA.out _ _ (by assumption)); rintro r w8 ⟨P8, c8, rfl, hr8, hb8⟩; have HRB2 := Lib.hid (HRB1.out.below hb8); have HRA2 := Lib.hid hr8; clear hr8)
              | (go_at_call 29; go_fit (DA.out _ _ (by assumption)); rintro r w7 ⟨P7, c7, rfl, hr7, hb7⟩; have HRA1 := Lib.hid hr7; clear hr7)
              | (go_at_call 29; go_fit (DB.out _ _ (by assumption)); rintro r w7 ⟨P7, c7, rfl, hr7, hb7⟩; have HRB1 := Lib.hid hr7; clear hr7))
          all_goals go_wp2_with fail
          all_goals go_meet
          all_goals exact ⟨rfl, And.left (by assumption : Below Z.heap.size Z w9 ∧ _)⟩
        case rest =>
          obtain ⟨rfl, hbu⟩ := hcut
          obtain ⟨U, hU⟩ : ∃ U, U = wc := ⟨_, rfl⟩
          subst hU
          have HBU := Lib.hid (bthen HBZ.out hbu)
          have HYU := Lib.hid (bthen HBYZ.out hbu)
          clear hbu HK DA DB DM
          have HKB := Lib.hid (fun W (hb : Below U.heap.size U W) => show W.cell? ⟨k, 0, none⟩ = some (.string s) ∧ W.cell? ⟨k, 1, none⟩ = some (.int .i64 (N1 : Int)) ∧ W.cell? ⟨k, 2, none⟩ = some (.slice none 0 0) ∧ W.cell? ⟨k, 3, none⟩ = some (.bool false) ∧ W.cell? ⟨ka, 0, none⟩ = some (.string ⟨#[]⟩) ∧ W.cell? ⟨ka, 1, none⟩ = some (.int .i64 (t : Int)) ∧ W.cell? ⟨ka, 2, none⟩ = some (.slice Q m cq) ∧ W.cell? ⟨ka, 3, none⟩ = some (.bool true) from
            ⟨(HXS.out.under (bthen HYU.out hb)).cell 0, (HXS.out.under (bthen HYU.out hb)).cell 1, (HXS.out.under (bthen HYU.out hb)).cell 2, (HXS.out.under (bthen HYU.out hb)).cell 3, (HXA.out.under (bthen HYU.out hb)).cell 0, (HXA.out.under (bthen HYU.out hb)).cell 1, (HXA.out.under (bthen HYU.out hb)).cell 2, (HXA.out.under (bthen HYU.out hb)).cell 3⟩)
          have hr1 : holdsR es (s, (N1 : Int), [], false) = one := by
            rw [← HONE.out, ← HN.out, read_one es s (by rw [HN.out]; exact htn)]
            unfold holdsR verR
            rw [HN1.out]
            rfl
          have hr2 : holdsR es (⟨#[]⟩, (t : Int), q.take 8, true) = two := by
            rw [← HTWO.out, ← HN.out, read_two es (q.take 8) (by rw [HN.out]; exact htn)]
            rfl
          have HR1 := Lib.hid hr1
          have HR2 := Lib.hid hr2
          have E1 := Lib.hid (fun W (hb : Below U.heap.size U W) => show Calls Tryz.prog 26 #[.pointer (some ⟨B.b, 0, none⟩), .agg #[.string s, .int .i64 (N1 : Int), .slice none 0 0, .bool false]] W fun r w' => r = .returned (.bool one) ∧ Below W.heap.size W w' from by
            rw [← HR1.out]
            exact holds_any (HIX.out.below (bthen HBU.out hb)) HS.out (q := []) (Q := none) (cq := 0) Sl.nil_ (by simp) (N1 : Int) false)
          have E2 := Lib.hid (fun W (hb : Below U.heap.size U W) => show Calls Tryz.prog 26 #[.pointer (some ⟨B.b, 0, none⟩), .agg #[.string ⟨#[]⟩, .int .i64 (t : Int), .slice Q m cq, .bool true]] W fun r w' => r = .returned (.bool two) ∧ Below W.heap.size W w' from by
            rw [← HR2.out]
            have := holds_any (HIX.out.below (bthen HBU.out hb)) (s := ⟨#[]⟩) (by decide) (HQX.out.below (bthen HBU.out hb)) HGQ.out (t : Int) true
            rw [HM.out] at this
            exact this)
          have E3 := Lib.hid (fun W (hb : Below U.heap.size U W) (P : Option Addr) (hP : Sl kGuard (fun _ => True) W P 2 [(s, (N1 : Int), [], false), (⟨#[]⟩, (t : Int), q.take 8, true)]) => show Calls Tryz.prog 30 #[.pointer (some ⟨B.b, 0, none⟩), .slice P 2 2] W fun r w' => r = .returned (.bool (one && two)) ∧ Below W.heap.size W w' from by
            have := all_any (HIX.out.below (bthen HBU.out hb)) hP (by
              intro x hx
              rcases List.mem_cons.1 hx with rfl | hx
              · exact ⟨HS.out, by simp⟩
              · rw [List.mem_singleton.1 hx]
                exact ⟨(by decide : (⟨#[]⟩ : ByteArray).size ≤ maxLen), HGQ.out⟩)
            simp only [List.any_cons, List.any_nil, Bool.or_false, HR1.out, HR2.out, Bool.not_or, Bool.not_not] at this
            exact this)
          have HLIT := Lib.hid (fun W (hb : Below U.heap.size U W) => show Sl kGuard (fun _ => True) (W.alloc (.cells #[.string s, .int .i64 (N1 : Int), .slice none 0 0, .bool false, .string ⟨#[]⟩, .int .i64 (t : Int), .slice Q m cq, .bool true] 51)) (some ⟨W.heap.size, 0, none⟩) 2 [(s, (N1 : Int), [], false), (⟨#[]⟩, (t : Int), q.take 8, true)] from
            (Sl.litK (d := kGuard) (ok := fun _ => True) 51 [(s, (N1 : Int), [], false), (⟨#[]⟩, (t : Int), q.take 8, true)] [[.string s, .int .i64 (N1 : Int), .slice none 0 0, .bool false], [.string ⟨#[]⟩, .int .i64 (t : Int), .slice Q m cq, .bool true]] rfl (by simp [maxLen]) (fun j x cs hx hc => by
              match j, hx, hc with
              | 0, hx, hc =>
                simp only [List.getElem?_cons_zero, Option.some.injEq] at hx hc
                subst hx hc
                exact ⟨[.string s], _, rfl, rfl, [.int .i64 (N1 : Int)], _, rfl, rfl, [.slice none 0 0], [.bool false], rfl, ⟨none, 0, rfl, Nat.le_refl _, by simp [maxLen], Row.nil_⟩, rfl⟩
              | 1, hx, hc =>
                simp only [List.getElem?_cons_succ, List.getElem?_cons_zero, Option.some.injEq] at hx hc
                subst hx hc
                have hq := HQX.out.below (bthen HBU.out hb)
                exact ⟨[.string ⟨#[]⟩], _, rfl, rfl, [.int .i64 (t : Int)], _, rfl, rfl, [.slice Q m cq], [.bool true], rfl, ⟨Q, cq, by rw [HM.out], hq.1, hq.2.1, hq.2.2⟩, rfl⟩
              | j + 2, hx, hc => simp at hx)).any)
          clear hr1 hr2
          obtain ⟨u0, u1, u2, u3, a0, a1, a2, a3⟩ := HKB.out _ (Below.refl _ _)
          rcases one with _ | _ <;> rcases two with _ | _
          all_goals go_wp2_with (first
            | (go_at_call 30; go_fit (E3.out _ (below_made HB12.out (Nat.le_refl _) _) _ (HLIT.out _ HB12.out)); rintro r w13 ⟨rfl, hb13⟩; have HB13 := Lib.hid (bthen (below_made HB12.out (Nat.le_refl _) _) hb13); clear hb13)
            | (go_at_call 26; go_fit (E2.out _ HB11.out); rintro r w12 ⟨rfl, hb12⟩; have HB12 := Lib.hid (bthen HB11.out hb12); obtain ⟨m0, m1, m2, m3, n0, n1, n2, n3⟩ := HKB.out _ (bthen HB11.out hb12); clear hb12)
            | (go_at_call 26; go_fit (E1.out _ (Below.refl _ _)); rintro r w11 ⟨rfl, hb11⟩; have HB11 := Lib.hid hb11; obtain ⟨l0, l1, l2, l3, b0, b1, b2, b3⟩ := HKB.out _ hb11; clear hb11))
          all_goals go_ret
          all_goals exact ⟨rfl, bthen HWX.out (bthen HBU.out HB13.out)⟩
end Go.Proofs.YtigejdnjdajbhaaGreat

namespace Go.Proofs.YtigejdnjdajbhaaGreat

set_option maxRecDepth 100000 in
def ordN : List Nat := [104, 97, 114, 110, 101, 115, 115, 32, 48, 98, 56, 53, 55, 52, 49, 49, 99, 98, 49, 50, 57, 97, 97, 98, 100, 54, 57, 99, 51, 102, 52, 99, 53, 54, 54, 51, 100, 56, 99, 100, 102, 54, 102, 97, 57, 99, 97, 50, 52, 48, 56, 97, 98, 53, 100, 52, 99, 100, 52, 102, 57, 97, 50, 50, 53, 99, 100, 57, 51, 49, 56, 57, 32, 99, 117, 116, 32, 97, 116, 32, 114, 101, 103, 105, 115, 116, 114, 97, 114, 47, 114, 101, 103, 105, 115, 116, 114, 97, 114, 108, 97, 119, 49, 52, 46, 73, 110, 100, 101, 120, 80, 108, 97, 121, 115, 32, 114, 101, 103, 105, 115, 116, 114, 97, 114, 47, 114, 101, 103, 105, 115, 116, 114, 97, 114, 108, 97, 119, 49, 56, 46, 71, 117, 97, 114, 100, 66, 97, 116, 99, 104, 32, 114, 101, 103, 105, 115, 116, 114, 97, 114, 47, 114, 101, 103, 105, 115, 116, 114, 97, 114, 108, 97, 119, 49, 56, 46, 71, 117, 97, 114, 100, 82, 101, 97, 100, 32, 114, 101, 103, 105, 115, 116, 114, 97, 114, 47, 114, 101, 103, 105, 115, 116, 114, 97, 114, 108, 97, 119, 49, 56, 46, 71, 117, 97, 114, 100, 76, 105, 115, 116, 115, 32, 114, 101, 103, 105, 115, 116, 114, 97, 114, 47, 114, 101, 103, 105, 115, 116, 114, 97, 114, 108, 97, 119, 49, 57, 46, 83, 101, 115, 115, 105, 111, 110, 77, 97, 110, 121, 32, 114, 101, 103, 105, 115, 116, 114, 97, 114, 47, 114, 101, 103, 105, 115, 116, 114, 97, 114, 108, 97, 119, 49, 57, 46, 83, 101, 115, 115, 105, 111, 110, 70, 114, 101, 101, 32, 114, 101, 103, 105, 115, 116, 114, 97, 114, 47, 114, 101, 103, 105, 115, 116, 114, 97, 114, 108, 97, 119, 49, 57, 46, 83, 101, 115, 115, 105, 111, 110, 83, 101, 101, 115, 32, 114, 101, 103, 105, 115, 116, 114, 97, 114, 47, 114, 101, 103, 105, 115, 116, 114, 97, 114, 108, 97, 119, 49, 57, 46, 83, 101, 115, 115, 105, 111, 110, 65, 116, 32, 114, 101, 103, 105, 115, 116, 114, 97, 114, 47, 114, 101, 103, 105, 115, 116, 114, 97, 114, 108, 97, 119, 49, 57, 46, 83, 101, 115, 115, 105, 111, 110, 82, 101, 102, 117, 115, 101, 115, 32, 114, 101, 103, 105, 115, 116, 114, 97, 114, 47, 114, 101, 103, 105, 115, 116, 114, 97, 114, 108, 97, 119, 49, 57, 46, 83, 101, 115, 115, 105, 111, 110, 80, 108, 97, 121, 115]
def ordL : List Char := ordN.map Char.ofNat
theorem order_eq : Tryz.prog.initOrder = String.ofList ordL := by kernel_rfl
theorem signs_eq : Tryz.prog.initOrder.toList = ordL := by rw [order_eq, String.toList_ofList]
def ordRest : List (List Char) := (behindMainWord (wordsSigns ordL)).tail
theorem words_eq : behindMainWord (wordsSigns ordL) = "cut".toList :: ordRest := by kernel_rfl
theorem strip_cut (r : List (List Char)) : stripLifts liftWords ("cut".toList :: r) = ([], "cut".toList :: r) := by kernel_rfl
theorem mayEnter_of (P : Program) (rest : List (List Char)) (h : behindMainWord (wordsSigns P.initOrder.toList) = "cut".toList :: rest) (h1 : P.laysLater = false) (h2 : P.bearsReflect = false) (h3 : P.doorFits [] = true) : P.mayEnter = true := by
  unfold Program.mayEnter
  rw [h]
  dsimp only
  rw [strip_cut, h1, h2, h3]
  simp
theorem lifts_of (P : Program) (rest : List (List Char)) (h : behindMainWord (wordsSigns P.initOrder.toList) = "cut".toList :: rest) : P.liftsFinal = false := by
  unfold Program.liftsFinal Program.headLifts
  rw [h, strip_cut]
  simp
theorem make_of (P : Program) (rest : List (List Char)) (h : behindMainWord (wordsSigns P.initOrder.toList) = "cut".toList :: rest) : P.make = some .cut := by
  unfold Program.make
  rw [h]
  dsimp only
  rw [if_neg (by decide), if_pos (by simp)]
theorem door_of (P : Program) (h : P.doorRows = []) : P.doorFits [] = true := by
  unfold Program.doorFits
  rw [h]
  simp
theorem head_eq : behindMainWord (wordsSigns Tryz.prog.initOrder.toList) = "cut".toList :: ordRest := by rw [signs_eq]; exact words_eq
theorem h_later : Tryz.prog.laysLater = false := by kernel_rfl
theorem h_refl : Tryz.prog.bearsReflect = false := by kernel_rfl
theorem h_rows : Tryz.prog.doorRows = [] := by kernel_rfl
theorem mayEnter_eq : Tryz.prog.mayEnter = true := mayEnter_of _ _ head_eq h_later h_refl (door_of _ h_rows)
theorem lifts_eq : Tryz.prog.liftsFinal = false := lifts_of _ _ head_eq
theorem make_eq : Tryz.prog.make = some .cut := make_of _ _ head_eq
theorem laidOut_eq : laidOutB Tryz.prog = true := by kernel_rfl
theorem mapsRowed_eq : mapsRowed Tryz.prog = true := by kernel_rfl
theorem stops_eq : (Tryz.prog.stops == []) = true := by kernel_rfl
theorem stopKnobs_eq : (Tryz.prog.stopKnobs == []) = true := by kernel_rfl
theorem heard_eq : Tryz.prog.stopsHeard = true := by kernel_rfl
theorem own_eq : ownKnob Tryz.prog.godebug = none := by kernel_rfl

/-- The rows' one great closed fact, out of its parts. -/
theorem joined_of {P : Program} {f : FuncId} {fn : Func} {s : ChangeSpec} {c : OpenClaim}
    (k1 : c.wf (OpenSpec.ofChange s) = true) (k2 : laidOutB P = true) (k3 : mapsRowed P = true) (k4 : fn.params.all (P.readableRec ·) = true) (k5 : namedTie P c.named s.vars = true)
    (k6 : (c.stops == []) = true) (k7 : (P.stops == []) = true) (k8 : (c.knobs == []) = true) (k9 : (P.stopKnobs == []) = true)
    (k10 : (c.inPlace == P.inPlace f) = true) (k11 : (c.unfollowed == P.unfollowed f) = true) (k12 : (c.recurses == P.recurses f) = true) (k13 : (c.named == P.varsNamed f) = true)
    (k14 : (c.maps == (fn.params.toList ++ s.plain.varTypes P).any (P.mapsRec ·)) = true) (k15 : (c.ifaces == (fn.params.toList ++ s.plain.varTypes P).any (P.ifacesRec ·)) = true) (k16 : (c.mapsOut == P.mapsAmong fn.resultTypes.toList) = true)
    (k17 : (c.loops == (fn.params.toList ++ s.plain.varTypes P).any (P.loopsFrom ·)) = true) (k18 : (c.wideKeys == (fn.params.toList ++ s.plain.varTypes P ++ fn.resultTypes.toList).any (P.wideKeysFrom ·)) = true)
    (k19 : s.vars.all (P.varReadable ·) = true) (k20 : fn.resultTypes.all (fun t => P.readableRec t && decide (t < P.types.size)) = true) (k21 : (c.ifacesOut == fn.resultTypes.toList.any (P.ifacesRec ·)) = true) (k22 : (c.loopsOut == fn.resultTypes.toList.any (P.loopsFrom ·)) = true)
    (k23 : (c.plainKeys == P.plainKeys) = true) (k24 : c.shortTexts.isNone = true) (k25 : P.stopsHeard = true) (k26 : P.mayEnter = true) (k27 : (c.lifted == P.liftsFinal) = true) (k28 : (P.make == some c.make) = true)
    (k29 : c.kinds = [] ∧ c.domain = []) (k30 : (c.pinned == c.pinnedBy) = true)
    (k31 : (c.veiled == (fn.params.toList ++ s.plain.varTypes P ++ fn.resultTypes.toList).any (P.veiledRec ·)) = true) (k32 : c.veiledFits P fn.params.toList (fn.params.toList ++ s.plain.varTypes P ++ fn.resultTypes.toList) = true) :
    joinedFacts P f fn s c = true := by
  unfold joinedFacts
  rw [k1, k2, k3, k4, k5, k6, k7, k8, k9, k10, k11, k12, k13, k14, k15, k16, k17, k18, k19, k20, k21, k22, k23, k24, k25, k26, k27, k28, k29.1, k29.2, k30, k31, k32]
  rfl
end Go.Proofs.YtigejdnjdajbhaaGreat

namespace Go.Proofs.YtigejdnjdajbhaaGreat.guardRead
open Go.ChangeShapes Go.WideShapes Go.ChangeAt Go.RowKit
open Go.ChangeMaps (open_string shut_string)
set_option maxRecDepth 100000 in
theorem lifted (os : Os) (started : os.Started) (H : Type) (enc : TypeId × Value → H) :
    ReturnsInHanded {} Tryz.checked os 5 .any (Rows.guardReadSpec.pre6 enc Tryz.prog Tryz.f5 Rows.guardReadRow.domain false) (Rows.guardReadSpec.post enc Tryz.prog Tryz.f5 false true false false) := by
  refine returnsInHanded_of_change_sized (C := Tryz.checked) own_eq started (by kernel_rfl) Tryz.func5
    (ChangeSpec.witness6 (enc := enc) (C := Tryz.checked) false ⟨#[], #[.slice none 0 0, .agg #[.string ByteArray.empty, .slice none 0 0, .int .i64 0]], []⟩ 8 (by kernel_rfl) (by kernel_rfl) (by kernel_rfl) (by kernel_rfl)) ?_
  intro W base args ds gs before hval0 hW hcnd hsz0 _
  have hval : ∀ (j : Nat) t v, Tryz.f5.params[j]? = some t → args[j]? = some v → Value.okWide Tryz.prog W .any base t v := hval0
  have hW' := hW
  obtain ⟨p, q, hA0, hV, rfl, hfz, hnd⟩ := hW
  have hA : DataW.TrodAll enc Tryz.prog W 0 (fun _ => true) true Tryz.f5.params.toList args.toList ds p := hA0
  rw [Tryz.params5] at hA hval
  obtain ⟨v0, vs0, d0, ds0, p0, q0, hargs, rfl, rfl, h0, r0⟩ := trodAll_cons hA
  obtain ⟨v1, vs1, d1, ds1, p1, q1, rfl, rfl, rfl, h1, r1⟩ := trodAll_cons r0
  obtain ⟨rfl, rfl, rfl⟩ := trodAll_nil r1
  obtain rfl : args = #[v0, v1] := by cases args; simp_all
  obtain ⟨rfl, rfl⟩ := trodVars_none hV
  have k0 := h0
  have lt0 : ∀ x ∈ p0, x.block < W.heap.size := by obtain ⟨m, hm⟩ := k0; exact DataW.trod_lt m _ _ _ hm
  obtain ⟨a0, len0, cap0, rfl⟩ := okWide_slice Tryz.underlying43 (hval 0 43 v0 rfl rfl)
  obtain ⟨x0, ⟨A0, c0, e0, l0, m0, w0⟩, g0⟩ := (opEvs).arg h0
  simp only [Value.cells, List.cons.injEq, Value.slice.injEq, and_true] at e0
  obtain ⟨rfl, rfl, rfl⟩ := e0
  have k1 := h1
  have lt1 : ∀ x ∈ p1, x.block < W.heap.size := by obtain ⟨m, hm⟩ := k1; exact DataW.trod_lt m _ _ _ hm
  obtain ⟨cs1, rfl, _⟩ := okWide_struct Tryz.underlying59 (hval 1 59 v1 rfl rfl)
  obtain ⟨x1, w1, g1⟩ := (opRead).arg h1
  clear hA0 hval0
  refine (guardRead_walk W _ _ x0 ⟨l0, m0, w0⟩ g0 cs1 x1 w1 g1).mono fun e W' ⟨he, bel⟩ => ?_
  subst he
  exact ⟨_, rfl, _, _, _, [], _, [], hW', trodAll_mk1 (shut_bool Tryz.underlying4 _), (trodAll_cons_mk (Below.trod laidOut_eq (by kernel_rfl) (of_decide_eq_true (by kernel_rfl)) k0 bel lt0) (trodAll_cons_mk (Below.trod laidOut_eq (by kernel_rfl) (of_decide_eq_true (by kernel_rfl)) k1 bel lt1) trodAll_mk0)), rfl, bel.frame _, fun h => by cases h⟩
theorem k10 : (Rows.guardReadRow.inPlace == Tryz.prog.inPlace 5) = true := by kernel_rfl
theorem k11 : (Rows.guardReadRow.unfollowed == Tryz.prog.unfollowed 5) = true := by kernel_rfl
theorem k12 : (Rows.guardReadRow.recurses == Tryz.prog.recurses 5) = true := by kernel_rfl
theorem k13 : (Rows.guardReadRow.named == Tryz.prog.varsNamed 5) = true := by kernel_rfl
theorem k23 : (Rows.guardReadRow.plainKeys == Tryz.prog.plainKeys) = true := by kernel_rfl
theorem kfn : Tryz.pinned.checked.prog.funcNamed Rows.guardReadRow.func = some 5 := by kernel_rfl
theorem closed : joinedFacts Tryz.prog 5 Tryz.f5 Rows.guardReadSpec Rows.guardReadRow = true :=
  joined_of (by kernel_rfl) laidOut_eq mapsRowed_eq (by kernel_rfl) (by kernel_rfl) rfl stops_eq rfl stopKnobs_eq k10 k11 k12 k13 (by kernel_rfl) (by kernel_rfl) (by kernel_rfl) (by kernel_rfl) (by kernel_rfl) (by kernel_rfl) (by kernel_rfl) (by kernel_rfl) (by kernel_rfl) k23 rfl heard_eq mayEnter_eq (by rw [lifts_eq]; rfl) (by rw [make_eq]; rfl) ⟨rfl, rfl⟩ (by kernel_rfl) (by kernel_rfl) (by kernel_rfl)
theorem over : Rows.guardReadRow.holds Tryz.pinned (OpenSpec.ofChange Rows.guardReadSpec) :=
  OpenClaim.holds_of_wide 5 Tryz.f5 rfl rfl rfl rfl rfl rfl rfl ⟨rfl, rfl, rfl, rfl, rfl⟩ rfl rfl rfl rfl rfl kfn Tryz.func5 closed
    (of_decide_eq_true (by kernel_rfl)) (by unfold Func.isWrapper; first | (rw [if_pos (by decide +kernel)]; kernel_rfl) | (rw [if_neg (by decide +kernel)]; exact ⟨rfl, rfl⟩))
    (fun os started H enc _ => lifted os started H enc)
theorem proved : Rows.GuardReadSaid := over
#print axioms proved
end Go.Proofs.YtigejdnjdajbhaaGreat.guardRead
