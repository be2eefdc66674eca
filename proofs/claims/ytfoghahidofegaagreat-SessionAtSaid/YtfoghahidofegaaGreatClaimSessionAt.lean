/- Rows that may be written to: kinds that say so; what a spoiling write leaves. Own work. event.Norm and (*session.Session).Events: what is told may be written to (walks; as Ses4, Ses5). SessionAt: the law's walk. The closed facts that every row of this seat leans on, each proved for itself: the order's text is long, so it is read once as a list of signs. The row of the law SessionAt, over its walk: for every input the call returns true and each argument reads afterwards as it read before. No conditions. -/
import Derived.Test.YtfoghahidofegaaGreatBundI
import Derived.Test.YtfoghahidofegaaGreatBundL
import Derived.Test.YtfoghahidofegaaGreatBundO
import Derived.Test.YtfoghahidofegaaGreatBundR
import Derived.Deep.CutBlock
import Derived.Test.YtfoghahidofegaaGreatRows
import Derived.JoinedOf
import Derived.KernelRfl
import Derived.Test.YtfoghahidofegaaGreatBundA
import Derived.WalkKit
import Derived.ProofKit
import Derived.OpenShut
import Derived.ShutString
import Derived.ChangeOld
import Derived.Below
import Derived.SizedLaws
set_option linter.unusedVariables false
set_option linter.unusedSimpArgs false
namespace Go.Proofs.YtfoghahidofegaaGreat
open Go.RowKit

/-- No cell of the block is frozen. -/
def Fz (w : World) (k : Nat) : Prop := ∀ i, w.frozen? ⟨k, i, none⟩ = false
section
variable {w w' : World} {k : Nat}
theorem Fz.stay (h : Fz w k) (hb : w'.heap[k]? = w.heap[k]?) : Fz w' k := fun i => by
  have := h i
  unfold World.frozen? at this ⊢
  simp only at this ⊢
  rw [hb]; exact this
theorem Fz.set (h : Fz w k) (p : Addr) (u : Value) : Fz (w.setCell p u) k := fun i => by rw [World.frozen?_setCell]; exact h i
theorem Fz.of_bx {t : TypeId} {cs : List Value} (h : Bx w k t cs) : Fz w k := fun i => h.free i
end
theorem Fz.at_ {w : World} {ad : Addr} (h : Fz w ad.block) (k : Nat) : w.frozen? (ad.add k) = false := by
  have := h (ad.add k).off
  unfold World.frozen? at this ⊢
  rw [block_add]
  exact this
/-- A slice value whose row may be written to. -/
def SlW {α : Type} (d : Kn α) (ok : Nat → Prop) (w : World) (A : Option Addr) (c : Nat) (xs : List α) : Prop := Sl d ok w A c xs ∧ (0 < xs.length → ∀ ad, A = some ad → Fz w ad.block)
section
variable {α : Type} {d : Kn α} {ok ok' : Nat → Prop} {w w' : World} {A : Option Addr} {c : Nat} {xs : List α}
theorem SlW.stay (h : SlW d ok w A c xs) (hs : w.heap.size ≤ w'.heap.size) (hm : ∀ k, ok k → k < w.heap.size → w'.heap[k]? = w.heap[k]?) : SlW d ok w' A c xs :=
  ⟨h.1.stay hs hm, fun hn ad he => (h.2 hn ad he).stay (by
    obtain ⟨ad', e, h1, h2, _⟩ := h.1.2.2 hn
    rw [he] at e
    injection e with e
    subst e
    exact hm _ h1 h2)⟩
theorem SlW.below (h : SlW d ok w A c xs) (hb : Below w.heap.size w w') : SlW d ok w' A c xs := h.stay hb.size (fun k _ hk => hb.block k hk)
theorem SlW.mono (h : SlW d ok w A c xs) (hm : ∀ k, ok k → ok' k) : SlW d ok' w A c xs := ⟨h.1.mono hm, h.2⟩
theorem SlW.setCell (h : SlW d ok w A c xs) {p : Addr} (hp : ∀ k, ok k → k ≠ p.block) (u : Value) : SlW d ok (w.setCell p u) A c xs := ⟨h.1.setCell hp u, fun hn ad he => (h.2 hn ad he).set _ _⟩
theorem SlW.bound (h : SlW d ok w A c xs) : SlW d (fun k => ok k ∧ k < w.heap.size) w A c xs := ⟨h.1.bound, h.2⟩
theorem SlW.nil_ : SlW d ok w none 0 ([] : List α) := ⟨Sl.nil_, fun h => by simp at h⟩
theorem Own.slW {e : TypeId} {base : Nat} {v : Value} (h : Own d e base ok w v xs) : ∃ A c, v = .slice A xs.length c ∧ SlW d (fun k => ok k ∨ base ≤ k) w A c xs := by
  obtain ⟨A, c, rfl, hs⟩ := h.sl
  refine ⟨A, c, rfl, hs, fun hn ad he => ?_⟩
  subst he
  obtain ⟨css, ⟨_, hc⟩, _⟩ := h
  rcases hc with ⟨e1, _⟩ | ⟨g, cap, cur, e1, _, hh, _⟩
  · simp at e1
  · simp only [Value.slice.injEq, Option.some.injEq] at e1
    rw [e1.1]
    exact fun i => frozen_of_row _ _ _ _ _ hh
theorem Own.weak {d' : Kn α} {e : TypeId} {base : Nat} {v : Value} (hsz : d'.sz = d.sz) (hK : ∀ {ok : Nat → Prop} {w : World} {x : α} {cs : List Value}, d.K ok w x cs → d'.K ok w x cs) (h : Own d e base ok w v xs) : Own d' e base ok w v xs := by
  obtain ⟨css, h1, h2, h3, h4, h5⟩ := h
  rw [← hsz] at h1 h3
  exact ⟨css, h1, h2, h3, h4, fun j x hj => by obtain ⟨cs, h6, h7⟩ := h5 j x hj; exact ⟨cs, h6, hK h7⟩⟩
end
def Kn.sliceW {α : Type} (d : Kn α) : Kn (List α) where
  sz := 1
  K := fun ok w xs cs => ∃ A c, cs = [.slice A xs.length c] ∧ SlW d ok w A c xs
  len := by
    rintro ok w x cs ⟨A, c, rfl, _⟩
    rfl
  one := by
    rintro ok w x cs ⟨A, c, rfl, _⟩ u hu
    rw [List.mem_singleton.1 hu]
    rfl
  mono := by
    rintro ok ok' w x cs hm ⟨A, c, rfl, h1⟩
    exact ⟨A, c, rfl, h1.mono hm⟩
  bound := by
    rintro ok w x cs ⟨A, c, rfl, h1⟩
    exact ⟨A, c, rfl, h1.bound⟩
  move := by
    rintro ok w w' x cs hs hm ⟨A, c, rfl, h1⟩
    exact ⟨A, c, rfl, h1.stay hs (fun k hk _ => hm k hk)⟩
def kEventW : Kn Event := Kn.iso (Kn.pair Kn.str (Kn.pair Kn.str (Kn.pair (Kn.sliceW Kn.str) (Kn.sliceW kField)))) (fun e => (e.stream, e.type, e.tags, e.fields))
theorem kEventW_sz : kEventW.sz = 4 := rfl
theorem kEventW_out {ok : Nat → Prop} {w : World} {e : Event} {cs : List Value} (h : kEventW.K ok w e cs) :
    ∃ A ca B cb, cs = [.string e.stream, .string e.type, .slice A e.tags.length ca, .slice B e.fields.length cb] ∧ SlW Kn.str ok w A ca e.tags ∧ SlW kField ok w B cb e.fields := by
  obtain ⟨c0, c1, rfl, h0, c2, c3, rfl, h1, c4, c5, rfl, ⟨A, ca, h2, h3⟩, ⟨B, cb, h4, h5⟩⟩ := h
  have e0 : c0 = [.string e.stream] := h0
  have e1 : c2 = [.string e.type] := h1
  subst e0; subst e1; subst h2; subst h4
  exact ⟨A, ca, B, cb, rfl, h3, h5⟩
theorem kEventW_mk {ok : Nat → Prop} {w : World} {e : Event} {A B : Option Addr} {ca cb : Nat} (h1 : SlW Kn.str ok w A ca e.tags) (h2 : SlW kField ok w B cb e.fields) :
    kEventW.K ok w e [.string e.stream, .string e.type, .slice A e.tags.length ca, .slice B e.fields.length cb] :=
  ⟨[_], _, rfl, rfl, [_], _, rfl, rfl, [_], [_], rfl, ⟨A, ca, rfl, h1⟩, ⟨B, cb, rfl, h2⟩⟩
theorem kEventW_weak {ok : Nat → Prop} {w : World} {e : Event} {cs : List Value} (h : kEventW.K ok w e cs) : kEvent.K ok w e cs := by
  obtain ⟨A, ca, B, cb, rfl, h1, h2⟩ := kEventW_out h
  exact kEvent_mk h1.1 h2.1
def kRecW : Kn Rec := Kn.iso (Kn.pair (Kn.int .i64) (Kn.pair (Kn.int .i64) kEventW)) (fun r => (r.pos, r.ver, r.ev))
theorem kRecW_sz : kRecW.sz = 6 := rfl
theorem kRecW_out {ok : Nat → Prop} {w : World} {r : Rec} {cs : List Value} (h : kRecW.K ok w r cs) :
    ∃ A ca B cb, cs = [.int .i64 r.pos, .int .i64 r.ver, .string r.ev.stream, .string r.ev.type, .slice A r.ev.tags.length ca, .slice B r.ev.fields.length cb] ∧ SlW Kn.str ok w A ca r.ev.tags ∧ SlW kField ok w B cb r.ev.fields := by
  obtain ⟨c0, c1, rfl, h0, c2, c3, rfl, h1, h2⟩ := h
  have e0 : c0 = [.int .i64 r.pos] := h0
  have e1 : c2 = [.int .i64 r.ver] := h1
  subst e0; subst e1
  obtain ⟨A, ca, B, cb, rfl, h3, h4⟩ := kEventW_out h2
  exact ⟨A, ca, B, cb, rfl, h3, h4⟩
theorem kRecW_mk {ok : Nat → Prop} {w : World} {r : Rec} {A B : Option Addr} {ca cb : Nat} (h1 : SlW Kn.str ok w A ca r.ev.tags) (h2 : SlW kField ok w B cb r.ev.fields) :
    kRecW.K ok w r [.int .i64 r.pos, .int .i64 r.ver, .string r.ev.stream, .string r.ev.type, .slice A r.ev.tags.length ca, .slice B r.ev.fields.length cb] :=
  ⟨[_], _, rfl, rfl, [_], _, rfl, rfl, kEventW_mk h1 h2⟩
theorem kRecW_weak {ok : Nat → Prop} {w : World} {r : Rec} {cs : List Value} (h : kRecW.K ok w r cs) : kRec.K ok w r cs := by
  obtain ⟨A, ca, B, cb, rfl, h1, h2⟩ := kRecW_out h
  exact kRec_mk h1.1 h2.1

/-- n cells from A on may be written to; their block is of P. -/
def Sp (w : World) (A : Option Addr) (n : Nat) (P : Nat → Prop) : Prop := ∀ i, i < n → ∃ ad u, A = some ad ∧ P ad.block ∧ ad.block < w.heap.size ∧ Fz w ad.block ∧ w.cell? (ad.add i) = some u
/-- Cells of P are written, nothing else. -/
structure Spoil (P : Nat → Prop) (w w' : World) : Prop where
  but : But P w w'
  fz : ∀ k, k < w.heap.size → Fz w k → Fz w' k
  cell : ∀ (p : Addr) (u : Value), w.cell? p = some u → ∃ u', w'.cell? p = some u'
section
variable {w w' w'' : World} {P Q : Nat → Prop} {A : Option Addr} {n : Nat}
theorem Spoil.refl (P : Nat → Prop) (w : World) : Spoil P w w := ⟨But.of_below (Below.refl _ _), fun _ _ h => h, fun _ u h => ⟨u, h⟩⟩
theorem Spoil.of_below (h : Below w.heap.size w w') : Spoil P w w' := ⟨But.of_below h, fun k hk hf => hf.stay (h.block k hk), fun p u hu => ⟨u, (h.cell (World.block_lt_of_cell? w _ hu)).trans hu⟩⟩
theorem Spoil.trans (h : Spoil P w w') (h' : Spoil P w' w'') : Spoil P w w'' :=
  ⟨h.but.trans h'.but, fun k hk hf => h'.fz k (Nat.lt_of_lt_of_le hk h.but.size) (h.fz k hk hf), fun p u hu => by obtain ⟨u', h1⟩ := h.cell p u hu; exact h'.cell p u' h1⟩
theorem Spoil.mono (h : Spoil P w w') (hm : ∀ k, P k → Q k) : Spoil Q w w' := ⟨h.but.mono hm, h.fz, h.cell⟩
theorem Spoil.set {p : Addr} (hp : P p.block) (u : Value) : Spoil P w (w.setCell p u) :=
  ⟨But.setCell (S := P) w hp u, fun _ _ h => h.set _ _, fun q v hv => by
    by_cases hq : p = q
    · subst hq
      exact ⟨u, World.cell?_setCell_same (w := w) (a := p) (v := u) hv⟩
    · exact ⟨v, (World.cell?_setCell_other (w := w) (a := p) (b := q) (v := u) hq).trans hv⟩⟩
theorem Sp.spoil (h : Sp w A n P) (hs : Spoil Q w w') : Sp w' A n P := fun i hi => by
  obtain ⟨ad, u, e, h1, h2, h3, h4⟩ := h i hi
  obtain ⟨u', h5⟩ := hs.cell _ _ h4
  exact ⟨ad, u', e, h1, Nat.lt_of_lt_of_le h2 hs.but.size, hs.fz _ h2 h3, h5⟩
theorem Sp.below (h : Sp w A n P) (hb : Below w.heap.size w w') : Sp w' A n P := h.spoil (Spoil.of_below (P := fun _ => False) hb)
theorem Sp.mono (h : Sp w A n P) (hm : ∀ k, P k → Q k) : Sp w A n Q := fun i hi => by
  obtain ⟨ad, u, e, h1, h2⟩ := h i hi
  exact ⟨ad, u, e, hm _ h1, h2⟩
theorem SlW.sp {α : Type} {d : Kn α} {c : Nat} {xs : List α} (h : SlW d P w A c xs) (h0 : 0 < d.sz) : Sp w A (xs.length * d.sz) P := fun i hi => by
  have hn : 0 < xs.length := by
    rcases Nat.eq_zero_or_pos xs.length with e | e
    · rw [e, Nat.zero_mul] at hi; omega
    · exact e
  obtain ⟨ad, e, h1, h2, h3⟩ := h.1.2.2 hn
  have hj : i / d.sz < xs.length := Nat.div_lt_of_lt_mul (by rw [Nat.mul_comm]; exact hi)
  obtain ⟨cs, h4, _, h6⟩ := h3 (i / d.sz) _ (List.getElem?_eq_getElem hj)
  have hm : i % d.sz < cs.length := by rw [h4]; exact Nat.mod_lt _ h0
  have := h6 (i % d.sz) _ (List.getElem?_eq_getElem hm)
  rw [Nat.mul_comm (i / d.sz), Nat.div_add_mod] at this
  exact ⟨ad, _, e, h1, h2, h.2 hn ad e, this⟩
end
/-- A row of the call's own, its block known whole; what an element hangs on is not the row. -/
theorem Own.at_own {α : Type} {d : Kn α} {e : TypeId} {base : Nat} {ok : Nat → Prop} {w : World} {v : Value} {xs : List α} (h : Own d e base ok w v xs) (hn : 0 < xs.length) :
    ∃ (g c : Nat) (cs0 : List Value), v = .slice (some ⟨g, 0, none⟩) xs.length c ∧ xs.length ≤ c ∧ c ≤ maxLen ∧ base ≤ g ∧ g < w.heap.size ∧ Bx w g e cs0 ∧
      ∀ j x, xs[j]? = some x → ∃ cs, d.K (fun k => ok k ∧ k ≠ g) w x cs ∧ ∀ i u, cs[i]? = some u → cs0[j * d.sz + i]? = some u := by
  obtain ⟨css, ⟨hl, hc⟩, h2, h3, h4, h5⟩ := h
  rcases hc with ⟨_, e1⟩ | ⟨g, cap, cur, rfl, hg, hh, hncap, hcap, hcur, htake⟩
  · omega
  · refine ⟨g, cap, cur.toList, rfl, hncap, hcap, hg, (Array.getElem?_eq_some_iff.1 hh).1, by unfold Bx; simpa using hh, fun j x hj => ?_⟩
    obtain ⟨cs, hcs, hk⟩ := h5 j x hj
    refine ⟨cs, d.mono (fun k hk => ⟨hk.1, fun e1 => hk.2 (by rw [e1]; rfl)⟩) hk, fun i u hu => ?_⟩
    have hf := flat_at css h3 j i cs u hcs hu
    rw [← htake, List.getElem?_take] at hf
    split at hf
    · exact hf
    · cases hf
end Go.Proofs.YtfoghahidofegaaGreat

namespace Go.Proofs.YtfoghahidofegaaGreat
open Go.RowKit Go.Maps

theorem normOkW_any {w : World} {e : Event} {T F : Option Addr} {ct cf : Nat} (hT : SlS w T ct e.tags) (hF : SlF w F cf e.fields) (hok : OkE e) (hin : EvIn e) :
    Calls Tryz.prog 83 #[vEvent e T ct F cf] w fun r w' => ∃ (T' F' : Option Addr) (ct' cf' : Nat), r = .returned (.agg #[.string e.stream, .string e.type, .slice T' e.tags.length ct', .slice F' e.fields.length cf']) ∧ SlW Kn.str (fun k => w.heap.size ≤ k) w' T' ct' e.tags ∧ SlW kField (fun k => w.heap.size ≤ k) w' F' cf' e.fields ∧ Below w.heap.size w w' := by
  refine (normE_any hT hF hin.tl hin.fl hin.fs).mono ?_
  rintro r w' ⟨vt, vf, M, rfl, h1, h2, h3, _, hb⟩
  rw [uniq_of_rise hok.rt] at h1
  rw [normF_of_rise hok.rf] at h2
  obtain ⟨T', ct', rfl, h4⟩ := h1.slW
  obtain ⟨F', cf', rfl, h5⟩ := h2.slW
  exact ⟨T', F', ct', cf', rfl, h4.mono (fun k hk => hk.elim False.elim id), h5.mono (fun k hk => hk.elim False.elim (fun h => by omega)), hb⟩
section
variable {w : World} {b at_ : Nat} {gs : List Grd} {vs : List Event} {X : Nat → Prop}
set_option maxHeartbeats 4000000 in
set_option maxRecDepth 8000 in
theorem sEventsW (h : Ss w 127 b at_ gs vs X) :
    Calls Tryz.prog 35 #[.pointer (some ⟨b, 0, none⟩)] w fun r w' => ∃ v, r = .returned v ∧ Own kEventW 42 w.heap.size (fun k => w.heap.size ≤ k) w' v vs ∧ Below w.heap.size w w' := by
  obtain ⟨G, cg, E, ce, hbx, _, hE, _⟩ := h.bx
  have x2 := hbx.cell 2
  simp only [List.getElem?_cons_succ, List.getElem?_cons_zero] at x2
  have hvl := h.vl
  have HVI := Lib.hid h.vin
  have HE := Lib.hid hE.bound
  have hc1 := hE.1
  have hc2 := hE.2.1
  unfold maxLen at hc2
  clear h hbx hE
  go_enter Tryz.func35, Tryz.ntmps35
  go_wp2_with fail
  go_loopw [3, 11] (fun v i wr => ∃ k : Nat, k ≤ vs.length ∧ i = .int .i64 k ∧ Own kEventW 42 w.heap.size (fun k => w.heap.size ≤ k) wr v (vs.take k) ∧ Below w.heap.size w wr) (fun _ i _ => vs.length - (intOf i).toNat)
  case atStart => exact ⟨0, Nat.zero_le _, rfl, Own.nil_ _ _ _ _ _, Below.refl _ _⟩
  case round =>
    obtain ⟨k, hk, rfl, ho, hb⟩ := hrel
    by_cases hlt : k < vs.length
    · obtain ⟨ad, S, sa, T, ta, rfl, c0, c1, c2, c3, hS, hT⟩ := row_ev_at (HE.out.stay hb.size (fun j hj _ => hb.block j hj.2)).2.2 hlt
      obtain ⟨hin, hmv⟩ := HVI.out _ (List.getElem_mem hlt)
      have HTK := Lib.hid (show vs.take (k + 1) = vs.take k ++ [vs[k]] from List.take_succ_eq_append_getElem hlt)
      have HTL := Lib.hid (show (vs.take k).length = k by rw [List.length_take]; omega)
      generalize vs[k] = v at c0 c1 c2 c3 hS hT hin hmv HTK
      have hA : ∀ o : Obj, Below wr.heap.size wr (wr.alloc o) := fun o => (Below.refl _ _).alloc (Nat.le_refl _) o
      have CN := Lib.hid (fun o => normOkW_any (w := wr.alloc o) (hS.any.below (hA o)) (hT.any.below (hA o)) ((mayE_iff v).1 hmv) hin)
      unfold vEvent at CN
      have HO := Lib.hid ho
      have HB := Lib.hid hb
      have HA := Lib.hid hA
      have i1 : (0 : Int) ≤ (k : Int) := Int.natCast_nonneg _
      have i2 : (k : Int) < (vs.length : Int) := by omega
      have i3 : IntKind.i64.wrap ((k : Int) + 1) = (k : Int) + 1 := IntWalk.i64_in _ (by omega)
      have hbs := hb.size
      clear hS hT hin hmv hA ho hb
      go_wp2_with (first
        | (go_at_call 83; go_fit (CN.out _); rintro r w5 ⟨T5, F5, ct5, cf5, rfl, ht5, hf5, hb5⟩; have HB5 := Lib.hid (bthen (HA.out _) hb5); have h5s := (bthen (HA.out _) hb5).size; have HT5 := Lib.hid (ht5.mono (ok' := fun k => wr.heap.size ≤ k) (fun j hj => by have h9 := (HA.out (.cells #[.string v.stream, .string v.type, .slice S v.tags.length sa, .slice T v.fields.length ta] 42)).size; omega)); have HF5 := Lib.hid (hf5.mono (ok' := fun k => wr.heap.size ≤ k) (fun j hj => by have h9 := (HA.out (.cells #[.string v.stream, .string v.type, .slice S v.tags.length sa, .slice T v.fields.length ta] 42)).size; omega)); clear ht5 hf5 hb5)
        | (at_builtin; refine wpList_pushH (W := w5) rfl _ _ _ rfl 42 _ 4 80 Tryz.underlying43 infoEv rfl (by decide) (by decide) rfl w.heap.size (fun k => w.heap.size ≤ k) _ (vs.take k) rfl (HO.out.below HB5.out) v [.string v.stream, .string v.type, .slice T5 v.tags.length ct5, .slice F5 v.fields.length cf5] (kEventW_mk (HT5.out.mono (fun j hj => ⟨by omega, fun e => by have := HO.out.block_lt j e.symm; omega⟩)) (HF5.out.mono (fun j hj => ⟨by omega, fun e => by have := HO.out.block_lt j e.symm; omega⟩))) w5.heap.size rfl rfl (by omega) (by rw [HTL.out]; omega) ?_; intro v1 w6 hown1 hg1 hat1 hbel1; have HO6 := Lib.hid hown1; have HB6 := Lib.hid (hbel1 w (bthen HB.out HB5.out)); clear hown1 hg1 hat1 hbel1))
      go_roundw
      case rel => exact ⟨k + 1, by omega, by go_num, by rw [HTK.out]; exact HO6.out, HB6.out⟩
      case measure => simp [intOf]; omega
    · obtain rfl : k = vs.length := by omega
      rw [List.take_length] at ho
      have HO := Lib.hid ho
      have HB := Lib.hid hb
      clear ho hb
      go_wp2_with fail
      go_ret
      exact ⟨_, rfl, HO.out, HB.out⟩
end
end Go.Proofs.YtfoghahidofegaaGreat

namespace Go.Proofs.YtfoghahidofegaaGreat
open Go.RowKit Go.Maps

/-- What is held may be made more of, within a region. -/
theorem wpAnyH_strong {P : Program} {ops : Array Oper} {Q : Exit → Act → World → Prop} {md : Region.Mode} {S S' : World → Prop} (h : ∀ w, S' w → S w) : ∀ (fuel : Nat) (listed : Array Bool) (a : Act) (w : World), wpAnyH P md ops Q S' fuel listed a w → wpAnyH P md ops Q S fuel listed a w
  | 0, _, _, _, hw => hw
  | fuel + 1, _, _, _, hw => ⟨hw.1, fun i hi => wpOp_mono (fun a' w' h' => ⟨h _ h'.1, wpAnyH_strong h fuel _ a' w' h'.2⟩) (hw.2 i hi)⟩
/-- A session and its copy. -/
theorem S1.two {w wr w' : World} {B : Six} {y n b b2 : Nat} {es : List Event} {gs : List Grd} {vs : List Event} (h : S1 w wr B y es n b gs vs) (hc : Ss w' 127 b2 n gs vs (fun k => (B.has k ∨ k = y) ∨ k = b)) (hb : Below wr.heap.size wr w') (hl : wr.heap.size ≤ b2) : Sf w w' B y es n b gs vs b2 gs vs := by
  have l2 := hc.lt
  refine ⟨h.f.fence hb (fun k hk => hk.elim .inl (fun e => .inr (by rw [e]; exact ⟨hl, l2⟩))), h.s.move (But.of_below hb) (fun k hk => ?_), hc.less (fun k hk => ?_)⟩
  · rcases hk with hk | hk | hk
    · exact .inl (.inl hk)
    · exact .inl (.inr hk)
    · exact .inr (by rw [hk]; exact ⟨hl, l2⟩)
  · rcases hk with hk | hk | hk
    · exact .inl (.inl hk)
    · exact .inl (.inr hk)
    · exact .inr hk

set_option maxHeartbeats 16000000 in
set_option maxRecDepth 100000 in
theorem sessionAt_walk (w : World) (A : Option Addr) (c : Nat) (l : List Event) (h : Sl kEvent (fun _ => True) w A c l) (hg : ∀ x ∈ l, goodEvent x)
    (c2 : Array Value) (v : Event) (hv : kEvent.K (fun _ => True) w v c2.toList) (gv : goodEvent v) (st : ByteArray) (hst : st.size ≤ maxLen) :
    Calls Tryz.prog 8 #[.slice A l.length c, .agg c2, .string st] w fun r w' => r = .returned (.bool true) ∧ Below w.heap.size w w' := by
  have HL0 := Lib.hid (show Sl kEvent (fun k => k < w.heap.size) w A c l from h.bound.mono (fun _ h => h.2))
  have HG := Lib.hid (ev_in hg)
  have HV := Lib.hid (ev_in (l := [v]) (fun x hx => by rw [List.mem_singleton.1 hx]; exact gv) v (List.mem_singleton.2 rfl))
  have HSTR := Lib.hid hst
  obtain ⟨T, ct, F, cf, rfl, hT, hF⟩ := event_in18 hv
  have HT := Lib.hid hT
  have HF := Lib.hid hF
  obtain ⟨W1, hW1⟩ : ∃ W1, W1 = w.alloc (.cells #[.string v.stream, .string v.type, .slice T v.tags.length ct, .slice F v.fields.length cf] 42) := ⟨_, rfl⟩
  have HW1 := Lib.hid hW1
  have hb1 : Below w.heap.size w W1 := by rw [hW1]; exact (Below.refl _ _).alloc (Nat.le_refl _) _
  have hx1 : Bx W1 w.heap.size 42 [.string v.stream, .string v.type, .slice T v.tags.length ct, .slice F v.fields.length cf] := by rw [hW1]; exact Bx.new w _ _
  have hlx := hx1.lt
  have HB1 := Lib.hid hb1
  have C1 := Lib.hid (shown19_any W1)
  have HC := Lib.hid (fun W (hW : Below W1.heap.size W1 W) => show W.cell? ⟨w.heap.size, 0, none⟩ = some (.string v.stream) ∧ W.cell? ⟨w.heap.size, 1, none⟩ = some (.string v.type) ∧ W.cell? ⟨w.heap.size, 2, none⟩ = some (.slice T v.tags.length ct) ∧ W.cell? ⟨w.heap.size, 3, none⟩ = some (.slice F v.fields.length cf) from
    ⟨(hx1.under hW).cell 0, (hx1.under hW).cell 1, (hx1.under hW).cell 2, (hx1.under hW).cell 3⟩)
  have HTW := Lib.hid (fun W (hW : Below W1.heap.size W1 W) => show Sl Kn.str (fun k => k < W1.heap.size) W T ct v.tags from ((hT.below hb1).mono (fun k hk => (by have := hb1.size; omega : k < W1.heap.size))).stay hW.size (fun k hk _ => hW.block k hk))
  have HFW := Lib.hid (fun W (hW : Below W1.heap.size W1 W) => show Sl kField (fun k => k < W1.heap.size) W F cf v.fields from ((hF.below hb1).mono (fun k hk => (by have := hb1.size; omega : k < W1.heap.size))).stay hW.size (fun k hk _ => hW.block k hk))
  obtain ⟨m, hm⟩ : ∃ m, mayE v = m := ⟨_, rfl⟩
  have CM := Lib.hid (fun W (hW : Below W1.heap.size W1 W) => show Calls Tryz.prog 33 #[.agg #[.string v.stream, .string v.type, .slice T v.tags.length ct, .slice F v.fields.length cf]] W fun r w' => r = .returned (.int .i64 m) ∧ Below W.heap.size W w' from by rw [← hm]; exact refMayE_any (HTW.out W hW).any (HFW.out W hW).any HV.out.1)
  have HM := Lib.hid hm
  have HL1 := Lib.hid (HL0.out.below hb1 |>.mono (fun k hk => (by have := hb1.size; omega : k < W1.heap.size)))
  clear h hg hv gv hT hF hb1 hx1 hm HL0 HT HF hst
  go_enter Tryz.func8, Tryz.ntmps8
  go_upto_region 1 with fail
  rw [← HW1.out]
  clear hW1 HW1
  go_upto_region 4 with (first
    | (go_at_call 12; go_fit C2.out; rintro r w3 ⟨B, rfl, h3, hb3⟩; have H3 := Lib.hid h3; have HB3 := Lib.hid (bthen HB2.out hb3); clear h3 hb3)
    | (go_at_call 27; go_fit C1.out; rintro r w2 ⟨rfl, hb2⟩; have HB2 := Lib.hid hb2; have C2 := Lib.hid (lNew W1 (wr := w2) hb2.size); clear hb2))
  have HF4 := Lib.hid (f2_new H3.out HB3.out)
  generalize w3.heap.size = y at HF4 ⊢
  generalize (w3.alloc (.cells #[.slice none 0 0] 34)) = w4 at HF4 ⊢
  clear H3 HB3 HB2 C1 C2
  obtain ⟨es, hes⟩ : ∃ es, (l.take 20).filter okE = es := ⟨_, rfl⟩
  have hel : es.length ≤ 20 := by rw [← hes]; exact filE20 l
  obtain ⟨n, hn⟩ : ∃ n, es.length = n := ⟨_, rfl⟩
  have HN := Lib.hid hn
  have CA1 := Lib.hid (show Calls Tryz.prog 36 #[.pointer (some ⟨B.b, 0, none⟩), .pointer (some ⟨y, 0, none⟩), .slice A l.length c] w4 fun r w' => r = .returned (.tuple #[]) ∧ F2 W1 w' B y es (fun _ => False) from by
    have := add19_any HF4.out HL1.out HG.out (by simp)
    rw [hes, List.nil_append] at this
    exact this.mono (fun r w' h => ⟨h.1, h.2.1⟩))
  clear hes hn
  go_upto_region 8 with (first
    | (go_at_call 28; go_fit C8.out; rintro r w8 ⟨b, rfl, h8, hb8, hl8⟩; have H8 := Lib.hid (S1.start H7.out h8 hb8 hl8); clear h8 hb8 hl8)
    | (go_at_call 36; go_fit CA1.out; rintro r w7 ⟨rfl, h7⟩; have H7 := Lib.hid h7; have C8 := Lib.hid (sNew h7.ix (X := fun k => B.has k ∨ k = y) h7.xs0); clear h7))
  have H8 := Lib.hid (show S1 W1 w8 B y es n b [] [] by rw [← HN.out]; exact H8.out)
  clear CA1 C8 H7 HF4 HL1 HG
  obtain ⟨k0, k1, k2, k3⟩ := HC.out _ H8.out.f.bel
  by_cases hm0 : m = 0
  rotate_left
  · have d0 : (m == 0) = false := by simp [hm0]
    have d1 : (m != 0) = true := by simp [hm0]
    clear hm0
    go_wp2_with (go_at_call 33; go_fit (CM.out _ H8.out.f.bel); rintro r w9 ⟨rfl, hb9⟩; have HB9 := Lib.hid hb9; clear hb9)
    go_ret
    exact ⟨rfl, bthen HB1.out (bthen H8.out.f.bel HB9.out)⟩
  subst hm0
  have HIN := Lib.hid (HV.out.2 HM.out)
  have CAP := Lib.hid (fun W (hS : S1 W1 W B y es n b [] []) => show Calls Tryz.prog 34 #[.pointer (some ⟨b, 0, none⟩), .pointer (some ⟨B.b, 0, none⟩), .agg #[.string v.stream, .string v.type, .slice T v.tags.length ct, .slice F v.fields.length cf], .int .i64 (-1)] W fun r w' => (∃ u, r = .returned u) ∧ S1 W1 w' B y es n b [] [v] from by
    have hb := hS.f.bel
    have hl := hS.f.zl b rfl
    have := sAppend hS.s hS.f.ix (.inr (.inr rfl)) (v := v) (T := T) (F := F) (ct := ct) (cf := cf) ((HTW.out _ hb).mono (fun k hk => by omega)) ((HFW.out _ hb).mono (fun k hk => by omega)) (by have := HIN.out.fl; omega) HV.out.1 HV.out.2 (-1)
    obtain ⟨e1, e2, e3⟩ := app_any (es := es) (at_ := n) (gs := []) (vs := []) (v := v) HM.out (by simp)
    rw [e1, e2, e3] at this
    exact this.mono (fun r w' h => ⟨⟨_, h.1⟩, hS.step h.2.1 h.2.2⟩))
  have CBP := Lib.hid (fun W b2 (hS : Sf W1 W B y es n b [] [v] b2 [] [v]) => show Calls Tryz.prog 34 #[.pointer (some ⟨b2, 0, none⟩), .pointer (some ⟨B.b, 0, none⟩), .agg #[.string v.stream, .string v.type, .slice T v.tags.length ct, .slice F v.fields.length cf], .int .i64 (-1)] W fun r w' => (∃ u, r = .returned u) ∧ Sf W1 w' B y es n b [] [v] b2 [] [v, v] from by
    have hb := hS.f.bel
    have hl := hS.f.zl b2 (.inr rfl)
    have := sAppend hS.b hS.f.ix (.inr (.inr (.inr rfl))) (v := v) (T := T) (F := F) (ct := ct) (cf := cf) ((HTW.out _ hb).mono (fun k hk => by omega)) ((HFW.out _ hb).mono (fun k hk => by omega)) (by have := HIN.out.fl; omega) HV.out.1 HV.out.2 (-1)
    obtain ⟨e1, e2, e3⟩ := app_any (es := es) (at_ := n) (gs := []) (vs := [v]) (v := v) HM.out (by simp)
    rw [e1, e2, e3] at this
    exact this.mono (fun r w' h => ⟨⟨_, h.1⟩, hS.stepB h.2.1 h.2.2⟩))
  have CRD := Lib.hid (fun W b2 (hS : Sf W1 W B y es n b [] [v] b2 [] [v, v]) => show Calls Tryz.prog 31 #[.pointer (some ⟨b2, 0, none⟩), .pointer (some ⟨B.b, 0, none⟩), .string st] W fun r w' => (∃ u, r = .returned u) ∧ ∃ g2, Sf W1 w' B y es n b [] [v] b2 g2 [v, v] from
    (sRead hS.b hS.f.ix (.inr (.inr (.inr rfl))) HSTR.out).mono (fun r w' ⟨A, c, e, _, h2, h3⟩ => ⟨⟨_, e⟩, _, hS.stepB h2 h3⟩))
  go_upto_region 17 with (first
    | (go_at_call 35; go_fit (sEventsW H13.out.a); rintro r w14 ⟨x14, rfl, h14, hb14⟩; have H14 := Lib.hid h14; have HB14 := Lib.hid hb14; clear h14 hb14)
    | (go_at_call 31; go_fit (CRD.out _ _ H12.out); rintro r w13 ⟨⟨u13, rfl⟩, g2, h13⟩; have H13 := Lib.hid h13; clear h13)
    | (go_at_call 34; go_fit (CBP.out _ _ H11.out); rintro r w12 ⟨⟨u12, rfl⟩, h12⟩; have H12 := Lib.hid h12; clear h12)
    | (go_at_call 42; go_fit (sClone H10.out.s); rintro r w11 ⟨b2, rfl, h11, hb11, hl11⟩; have H11 := Lib.hid (S1.two H10.out h11 hb11 hl11); obtain ⟨m0, m1, m2, m3⟩ := HC.out _ (bthen H10.out.f.bel hb11); clear h11 hb11 hl11)
    | (go_at_call 34; go_fit (CAP.out _ (H8.out.below HB9.out)); rintro r w10 ⟨⟨u10, rfl⟩, h10⟩; have H10 := Lib.hid h10; clear h10)
    | (go_at_call 33; go_fit (CM.out _ H8.out.f.bel); rintro r w9 ⟨rfl, hb9⟩; have HB9 := Lib.hid hb9; obtain ⟨l0, l1, l2, l3⟩ := HC.out _ (bthen H8.out.f.bel hb9); clear hb9))
  obtain ⟨g, cg, cs0, hv14, hcg, hcgm, hgl, hgw, hgx, hgat⟩ := H14.out.at_own (by simp)
  rw [List.length_singleton] at hv14 hcg
  subst hv14
  obtain ⟨cs, hK, hcs⟩ := hgat 0 v rfl
  obtain ⟨T', ct', F', cf', rfl, hT', hF'⟩ := kEventW_out hK
  have hx2 : cs0[2]? = some (.slice T' v.tags.length ct') := by have := hcs 2 _ rfl; simpa using this
  have HSP := Lib.hid (show Sp w14 T' v.tags.length (fun k => w13.heap.size ≤ k ∧ k ≠ g) by have := hT'.sp (by decide); rwa [show v.tags.length * Kn.str.sz = v.tags.length by show v.tags.length * 1 = _; omega] at this)
  have HGX := Lib.hid hgx
  have HX2 := Lib.hid hx2
  obtain ⟨nt, hnt⟩ : ∃ nt, v.tags.length = nt := ⟨_, rfl⟩
  have HNT := Lib.hid hnt
  have hntl : nt ≤ 1000000 := by rw [← hnt]; exact HIN.out.tl
  have HSP := Lib.hid (show Sp w14 T' nt (fun k => w13.heap.size ≤ k ∧ k ≠ g) by rw [← hnt]; exact HSP.out)
  have HX2 := Lib.hid (show cs0[2]? = some (.slice T' nt ct') by rw [← hnt]; exact HX2.out)
  obtain ⟨ad0, had0⟩ : ∃ ad0 : Addr, ad0 = ⟨g, 0, none⟩ := ⟨_, rfl⟩
  have HAD0 := Lib.hid had0
  unfold maxLen at hcgm
  clear hK hcs hT' hF' hgat hgx hx2 hnt CAP CBP CRD CM H8 H10 H11 H12 HB9 k0 k1 k2 k3 l0 l1 l2 l3 m0 m1 m2 m3
  rw [← had0]
  clear had0
  go_upto_block 0 with fail
  go_cut [13] (fun _ wx => Below w13.heap.size w13 wx)
  case first =>
    go_wp2_with fail
    go_loopw [13] (fun i wr => ∃ k : Nat, k ≤ 1 ∧ i = .int .i64 k ∧ Below w13.heap.size w13 wr ∧ Bx wr g 42 cs0 ∧ Sp wr T' nt (fun k => w13.heap.size ≤ k ∧ k ≠ g)) (fun i _ => 1 - (intOf i).toNat)
    case atStart => exact ⟨0, Nat.zero_le _, rfl, HB14.out, HGX.out, HSP.out⟩
    case round =>
      obtain ⟨k, hk, rfl, hb, hx, hsp⟩ := hrel
      obtain ⟨w15, hw15⟩ : ∃ w15, w15 = wr := ⟨_, rfl⟩
      subst hw15
      have HB := Lib.hid hb
      have HX := Lib.hid hx
      have HS := Lib.hid hsp
      clear hb hx hsp
      by_cases hlt : k < 1
      · have i1 : (0 : Int) ≤ (k : Int) := Int.natCast_nonneg _
        have i2 : (k : Int) < (1 : Int) := by omega
        have HCELL := Lib.hid (fun W (hW : Bx W g 42 cs0) => show W.cell? ⟨(ad0.add (k * 4)).block, (ad0.add (k * 4)).off + 2, none⟩ = some (.slice T' nt ct') from by
          obtain rfl : k = 0 := by omega
          rw [HAD0.out, add0']
          show W.cell? ⟨g, 2, none⟩ = _
          rw [hW.cell]
          exact HX2.out)
        go_upto_block 1 with fail
        go_cut [14] (fun _ wx => Below w13.heap.size w13 wx ∧ Bx wx g 42 cs0 ∧ Sp wx T' nt (fun k => w13.heap.size ≤ k ∧ k ≠ g))
        case first =>
          go_wp2_with fail
          go_loopw [14] (fun i wr => ∃ j : Nat, j ≤ nt ∧ i = .int .i64 j ∧ Below w13.heap.size w13 wr ∧ Bx wr g 42 cs0 ∧ Sp wr T' nt (fun k => w13.heap.size ≤ k ∧ k ≠ g)) (fun i _ => nt - (intOf i).toNat)
          case atStart => exact ⟨0, Nat.zero_le _, rfl, HB.out, HX.out, HS.out⟩
          case round =>
            clear HB HX HS
            obtain ⟨j, hj, rfl, hb, hx, hsp⟩ := hrel
            have x2 := HCELL.out _ hx
            have HB := Lib.hid hb
            have HX := Lib.hid hx
            have HS := Lib.hid hsp
            clear hb hx hsp
            by_cases hlt2 : j < nt
            · obtain ⟨ad, u, rfl, ⟨hp1, hp2⟩, hbl, hz, hc⟩ := HS.out j hlt2
              have hfr := hz.at_ j
              have hbk : (ad.add j).block = ad.block := block_add _ _
              have HBS := Lib.hid (fun v => HB.out.setCell (p := ad.add j) (by rw [hbk]; exact hp1) v)
              have HXS := Lib.hid (fun v => HX.out.far (p := ad.add j) (by rw [hbk]; exact fun e => hp2 e.symm) v)
              have HSS := Lib.hid (fun v => HS.out.spoil (Spoil.set (P := fun _ => True) (p := ad.add j) trivial v))
              have j1 : (0 : Int) ≤ (j : Int) := Int.natCast_nonneg _
              have j2 : (j : Int) < (nt : Int) := by omega
              clear hz
              go_wp2_with fail
              go_roundw
              case rel => exact ⟨j + 1, by omega, by go_num, HBS.out _, HXS.out _, HSS.out _⟩
              case measure => simp [intOf]; omega
            · obtain rfl : j = nt := by omega
              go_wp2_with fail
              go_meet
              exact ⟨HB.out, HX.out, HS.out⟩
        case rest =>
          obtain ⟨hb, hx, hsp⟩ := hcut
          have HB3 := Lib.hid hb
          have HX3 := Lib.hid hx
          have HS3 := Lib.hid hsp
          clear hb hx hsp HB HX HS HCELL
          go_wp2_with fail
          go_roundw
          case rel => exact ⟨k + 1, by omega, by go_num, HB3.out, HX3.out, HS3.out⟩
          case measure => simp [intOf]; omega
      · obtain rfl : k = 1 := by omega
        go_wp2_with fail
        go_meet
        exact HB.out
  case rest =>
    obtain ⟨v15, hv15⟩ : ∃ v15, v15 = wc := ⟨_, rfl⟩
    subst hv15
    have H15 := Lib.hid (H13.out.below hcut)
    obtain ⟨nf, hnf⟩ : ∃ nf, v.fields.length = nf := ⟨_, rfl⟩
    have HNF := Lib.hid hnf
    obtain ⟨A3, c3, hrx⟩ := H15.out.f.rx
    have HK := Lib.hid (fun W (hb : Below v15.heap.size v15 W) => show Below v15.heap.size v15 W ∧ W.cell? ⟨y, 0, none⟩ = some (.slice A3 n c3) ∧ W.cell? ⟨w.heap.size, 0, none⟩ = some (.string v.stream) ∧ W.cell? ⟨w.heap.size, 1, none⟩ = some (.string v.type) ∧ W.cell? ⟨w.heap.size, 2, none⟩ = some (.slice T nt ct) ∧ W.cell? ⟨w.heap.size, 3, none⟩ = some (.slice F nf cf) from
      ⟨hb, by have := (hrx.bx.under hb).cell 0; rw [recsOf_len, HN.out] at this; exact this, by have := HC.out W (bthen H15.out.f.bel hb); rw [HNT.out, HNF.out] at this; exact this⟩)
    have E1 := Lib.hid (fun W (hW : Below v15.heap.size v15 W) => sAt (H15.out.below hW).a)
    have E2 := Lib.hid (fun W (hW : Below v15.heap.size v15 W) => sAt (H15.out.below hW).b)
    have E3 := Lib.hid (fun W (hW : Below v15.heap.size v15 W) => show Calls Tryz.prog 35 #[.pointer (some ⟨b, 0, none⟩)] W fun r w' => (∃ A c, r = .returned (.slice A 1 c)) ∧ Below W.heap.size W w' from
      (sEvents (H15.out.below hW).a).mono (fun r w' ⟨A, c, e, _, h⟩ => ⟨⟨A, c, e⟩, h⟩))
    have E4 := Lib.hid (fun W (hW : Below v15.heap.size v15 W) => show Calls Tryz.prog 35 #[.pointer (some ⟨b2, 0, none⟩)] W fun r w' => (∃ A c, r = .returned (.slice A 2 c)) ∧ Below W.heap.size W w' from
      (sEvents (H15.out.below hW).b).mono (fun r w' ⟨A, c, e, _, h⟩ => ⟨⟨A, c, e⟩, h⟩))
    have E5 := Lib.hid (fun W (hW : Below v15.heap.size v15 W) => show Calls Tryz.prog 32 #[.pointer (some ⟨b, 0, none⟩)] W fun r w' => (∃ A c, r = .returned (.slice A 0 c)) ∧ Below W.heap.size W w' from
      (sGuards (H15.out.below hW).a).mono (fun r w' ⟨A, c, e, _, h⟩ => ⟨⟨A, c, e⟩, h⟩))
    have E6 := Lib.hid (fun W (hW : Below v15.heap.size v15 W) => show Calls Tryz.prog 35 #[.pointer (some ⟨b, 0, none⟩)] W fun r w' => ∃ (g9 c9 : Nat) (T9 : Option Addr) (ct9 : Nat) (F9 : Option Addr) (cf9 : Nat), r = .returned (.slice (some ⟨g9, 0, none⟩) 1 c9) ∧ 1 ≤ c9 ∧
        w'.cell? ⟨g9, 0, none⟩ = some (.string v.stream) ∧ w'.cell? ⟨g9, 1, none⟩ = some (.string v.type) ∧ w'.cell? ⟨g9, 2, none⟩ = some (.slice T9 nt ct9) ∧ w'.cell? ⟨g9, 3, none⟩ = some (.slice F9 nf cf9) ∧ Sl Kn.str (fun _ => True) w' T9 ct9 v.tags ∧ Sl kField (fun _ => True) w' F9 cf9 v.fields ∧ Below W.heap.size W w' from by
      refine (sEventsW (H15.out.below hW).a).mono ?_
      rintro r w' ⟨x9, rfl, h9, hb9⟩
      obtain ⟨g9, c9, cs9, hv9, hc9, _, _, _, hx9, hat⟩ := h9.at_own (by simp)
      rw [List.length_singleton] at hv9 hc9
      subst hv9
      obtain ⟨cs, hK, hcs⟩ := hat 0 v rfl
      obtain ⟨T9, ct9, F9, cf9, rfl, hT9, hF9⟩ := kEventW_out hK
      rw [HNT.out, HNF.out] at hcs
      exact ⟨g9, c9, T9, ct9, F9, cf9, rfl, hc9, by rw [hx9.cell]; simpa using hcs 0 _ rfl, by rw [hx9.cell]; simpa using hcs 1 _ rfl, by rw [hx9.cell]; simpa using hcs 2 _ rfl, by rw [hx9.cell]; simpa using hcs 3 _ rfl, hT9.1.any, hF9.1.any, hb9⟩)
    have E7 := Lib.hid (fun W T9 ct9 F9 cf9 (hW : Below v15.heap.size v15 W) (ht : Sl Kn.str (fun _ => True) W T9 ct9 v.tags) (hf : Sl kField (fun _ => True) W F9 cf9 v.fields) => show Calls Tryz.prog 45 #[.agg #[.string v.stream, .string v.type, .slice T9 nt ct9, .slice F9 nf cf9], .agg #[.string v.stream, .string v.type, .slice T nt ct, .slice F nf cf]] W fun r w' => r = .returned (.bool true) ∧ Below W.heap.size W w' from by
      have hb := bthen H15.out.f.bel hW
      have := refSameE_any ht hf (HTW.out W hb).any (HFW.out W hb).any
      unfold vEvent at this
      rw [sameE_refl, HNT.out, HNF.out] at this
      exact this)
    clear hcut hrx hnf H13 H14 HB14 HSP HGX HX2 HAD0
    go_upto_region 24 with fail
    refine wp_region_held_drew (S := (fun W => Below v15.heap.size v15 W ∧ W.cell? ⟨y, 0, none⟩ = some (.slice A3 n c3) ∧ W.cell? ⟨w.heap.size, 0, none⟩ = some (.string v.stream) ∧ W.cell? ⟨w.heap.size, 1, none⟩ = some (.string v.type) ∧ W.cell? ⟨w.heap.size, 2, none⟩ = some (.slice T nt ct) ∧ W.cell? ⟨w.heap.size, 3, none⟩ = some (.slice F nf cf))) (by kernel_rfl) (HK.out _ (below_drawn (Below.refl _ _))) (fun hHeld => ?_)
    have HQ0 := Lib.hid (show Below v15.heap.size v15 v15.drew from below_drawn (Below.refl _ _))
    refine wpAnyH_take (i := 0) (oi := { dst := some 81, op := Op.move (Operand.tmp 10), type := 62, pos := "more.go:106", after := #[], guard := none }) (v := ?_) rfl (by kernel_rfl) (by kernel_rfl) (by kernel_rfl) (fun _ _ _ h => h) (Or.inl ⟨by rfl, ?_⟩) (by assumption) ?_
    rotate_left
    · (intro W hSw; (try dsimp only at hSw); go_simp) <;> with_reducible rfl
    try simp only [Act.put, List.setIfInBounds_toArray, List.set_cons_zero, List.set_cons_succ]
    refine wpAnyH_take (i := 2) (oi := { dst := some 83, op := Op.move (Operand.tmp 9), type := 31, pos := "more.go:106", after := #[], guard := none }) (v := ?_) rfl (by kernel_rfl) (by kernel_rfl) (by kernel_rfl) (fun _ _ _ h => h) (Or.inl ⟨by rfl, ?_⟩) (by assumption) ?_
    rotate_left
    · (intro W hSw; (try dsimp only at hSw); go_simp) <;> with_reducible rfl
    try simp only [Act.put, List.setIfInBounds_toArray, List.set_cons_zero, List.set_cons_succ]
    refine wpAnyH_take (i := 3) (oi := { dst := some 84, op := Op.nilCheck (Operand.tmp 83), type := 0, pos := "more.go:106", after := #[{ on := 2, ground := Ground.data }], guard := none }) (v := ?_) rfl (by kernel_rfl) (by kernel_rfl) (by kernel_rfl) (fun _ _ _ h => h) (Or.inl ⟨by rfl, ?_⟩) (by assumption) ?_
    rotate_left
    · (intro W hSw; (try dsimp only at hSw); go_simp) <;> with_reducible rfl
    try simp only [Act.put, List.setIfInBounds_toArray, List.set_cons_zero, List.set_cons_succ]
    refine wpAnyH_take (i := 4) (oi := { dst := some 85, op := Op.fieldAddr 34 (Operand.tmp 84) 0, type := 0, pos := "more.go:106", after := #[{ on := 3, ground := Ground.data }], guard := none }) (v := ?_) rfl (by kernel_rfl) (by kernel_rfl) (by kernel_rfl) (fun _ _ _ h => h) (Or.inl ⟨by rfl, ?_⟩) (by assumption) ?_
    rotate_left
    · (intro W hSw; (try dsimp only at hSw); go_simp) <;> with_reducible rfl
    try simp only [Act.put, List.setIfInBounds_toArray, List.set_cons_zero, List.set_cons_succ]
    refine wpAnyH_take (i := 5) (oi := { dst := some 86, op := Op.load 32 (Operand.tmp 85), type := 32, pos := "more.go:106", after := #[{ on := 4, ground := Ground.data }], guard := none }) (v := ?_) rfl (by kernel_rfl) (by kernel_rfl) (by kernel_rfl) (fun _ _ _ h => h) (Or.inl ⟨by rfl, ?_⟩) (by assumption) ?_
    rotate_left
    · (intro W hSw; (try dsimp only at hSw); go_simp) <;> with_reducible rfl
    try simp only [Act.put, List.setIfInBounds_toArray, List.set_cons_zero, List.set_cons_succ]
    refine wpAnyH_take (i := 6) (oi := { dst := some 87, op := Op.call { callee := Callee.builtin Builtin.len, args := #[Operand.tmp 86], argTypes := #[32] }, type := 3, pos := "more.go:106", after := #[{ on := 5, ground := Ground.data }], guard := none }) (v := ?_) rfl (by kernel_rfl) (by kernel_rfl) (by kernel_rfl) (fun _ _ _ h => h) (Or.inl ⟨by rfl, ?_⟩) (by assumption) ?_
    rotate_left
    · (intro W hSw; (try dsimp only at hSw); go_simp) <;> with_reducible rfl
    try simp only [Act.put, List.setIfInBounds_toArray, List.set_cons_zero, List.set_cons_succ]
    refine wpAnyH_ready (rs := [1]) (by kernel_rfl) (by simp) ?_
    refine AllReadyH.cons (o := { dst := some 82, op := Op.call { callee := Callee.value (Operand.func 40), args := #[Operand.tmp 81], argTypes := #[62] }, type := 3, pos := "more.go:106", after := #[{ on := 0, ground := Ground.data }], guard := none }) rfl (fun K hK => ?_) AllReadyH.nil
    go_simp
    go_at_call 40
    go_fit (E1.out _ HQ0.out)
    rintro r x1 ⟨rfl, rfl⟩
    have HQ1 := HQ0
    go_wp2_with fail
    refine hK.out _ _ (HK.out _ HQ1.out) (fun hHeld1 => ?_)
    clear hK K
    try simp only [Act.put, List.setIfInBounds_toArray, List.set_cons_zero, List.set_cons_succ]
    refine wpAnyH_take (i := 7) (oi := { dst := some 88, op := Op.binOp BinOp.eql 3 (Operand.tmp 82) (Operand.tmp 87) 3, type := 4, pos := "more.go:106", after := #[{ on := 1, ground := Ground.data }, { on := 6, ground := Ground.data }], guard := none }) (v := ?_) rfl (by kernel_rfl) (by kernel_rfl) (by kernel_rfl) (fun _ _ _ h => h) (Or.inl ⟨by rfl, ?_⟩) (by assumption) ?_
    rotate_left
    · (intro W hSw; (try dsimp only at hSw); go_simp) <;> with_reducible rfl
    try simp only [Act.put, List.setIfInBounds_toArray, List.set_cons_zero, List.set_cons_succ]
    refine wpAnyH_take (i := 8) (oi := { dst := some 89, op := Op.move (Operand.tmp 88), type := 4, pos := "more.go:106", after := #[{ on := 7, ground := Ground.data }, { on := 1, ground := Ground.chain }], guard := none }) (v := ?_) rfl (by kernel_rfl) (by kernel_rfl) (by kernel_rfl) (fun _ _ _ h => h) (Or.inl ⟨by rfl, ?_⟩) (by assumption) ?_
    rotate_left
    · (intro W hSw; (try dsimp only at hSw); go_simp) <;> with_reducible rfl
    try simp only [Act.put, List.setIfInBounds_toArray, List.set_cons_zero, List.set_cons_succ]
    refine wpAnyH_take (i := 9) (oi := { dst := some 90, op := Op.move (Operand.tmp 11), type := 62, pos := "more.go:106", after := #[{ on := 8, ground := Ground.guard }], guard := some (8, true) }) (v := ?_) rfl (by kernel_rfl) (by kernel_rfl) (by kernel_rfl) (fun _ _ _ h => h) (Or.inl ⟨by rfl, ?_⟩) (by assumption) ?_
    rotate_left
    · (intro W hSw; (try dsimp only at hSw); go_simp) <;> with_reducible rfl
    try simp only [Act.put, List.setIfInBounds_toArray, List.set_cons_zero, List.set_cons_succ]
    refine wpAnyH_take (i := 11) (oi := { dst := some 92, op := Op.move (Operand.tmp 10), type := 62, pos := "more.go:106", after := #[{ on := 8, ground := Ground.guard }], guard := some (8, true) }) (v := ?_) rfl (by kernel_rfl) (by kernel_rfl) (by kernel_rfl) (fun _ _ _ h => h) (Or.inl ⟨by rfl, ?_⟩) (by assumption) ?_
    rotate_left
    · (intro W hSw; (try dsimp only at hSw); go_simp) <;> with_reducible rfl
    try simp only [Act.put, List.setIfInBounds_toArray, List.set_cons_zero, List.set_cons_succ]
    refine wpAnyH_ready (rs := [10]) (by kernel_rfl) (by simp) ?_
    refine AllReadyH.cons (o := { dst := some 91, op := Op.call { callee := Callee.value (Operand.func 40), args := #[Operand.tmp 90], argTypes := #[62] }, type := 3, pos := "more.go:106", after := #[{ on := 9, ground := Ground.data }, { on := 8, ground := Ground.chain }, { on := 8, ground := Ground.guard }], guard := some (8, true) }) rfl (fun K hK => ?_) AllReadyH.nil
    go_simp
    go_at_call 40
    go_fit (E2.out _ HQ1.out)
    rintro r x2 ⟨rfl, rfl⟩
    have HQ2 := HQ1
    go_wp2_with fail
    refine hK.out _ _ (HK.out _ HQ2.out) (fun hHeld10 => ?_)
    clear hK K
    try simp only [Act.put, List.setIfInBounds_toArray, List.set_cons_zero, List.set_cons_succ]
    refine wpAnyH_ready (rs := [12]) (by kernel_rfl) (by simp) ?_
    refine AllReadyH.cons (o := { dst := some 93, op := Op.call { callee := Callee.value (Operand.func 40), args := #[Operand.tmp 92], argTypes := #[62] }, type := 3, pos := "more.go:106", after := #[{ on := 11, ground := Ground.data }, { on := 10, ground := Ground.chain }, { on := 8, ground := Ground.guard }], guard := some (8, true) }) rfl (fun K hK => ?_) AllReadyH.nil
    go_simp
    go_at_call 40
    go_fit (E1.out _ HQ2.out)
    rintro r x3 ⟨rfl, rfl⟩
    have HQ3 := HQ2
    go_wp2_with fail
    refine hK.out _ _ (HK.out _ HQ3.out) (fun hHeld12 => ?_)
    clear hK K
    try simp only [Act.put, List.setIfInBounds_toArray, List.set_cons_zero, List.set_cons_succ]
    refine wpAnyH_take (i := 13) (oi := { dst := some 94, op := Op.binOp BinOp.eql 3 (Operand.tmp 91) (Operand.tmp 93) 3, type := 4, pos := "more.go:106", after := #[{ on := 10, ground := Ground.data }, { on := 12, ground := Ground.data }, { on := 8, ground := Ground.guard }], guard := some (8, true) }) (v := ?_) rfl (by kernel_rfl) (by kernel_rfl) (by kernel_rfl) (fun _ _ _ h => h) (Or.inl ⟨by rfl, ?_⟩) (by assumption) ?_
    rotate_left
    · (intro W hSw; (try dsimp only at hSw); go_simp) <;> with_reducible rfl
    try simp only [Act.put, List.setIfInBounds_toArray, List.set_cons_zero, List.set_cons_succ]
    refine wpAnyH_take (i := 14) (oi := { dst := some 95, op := Op.pick (Operand.tmp 89) (Operand.tmp 94) (Operand.const (Value.bool false)), type := 4, pos := "more.go:106", after := #[{ on := 8, ground := Ground.data }, { on := 13, ground := Ground.data }], guard := none }) (v := ?_) rfl (by kernel_rfl) (by kernel_rfl) (by kernel_rfl) (fun _ _ _ h => h) (Or.inl ⟨by rfl, ?_⟩) (by assumption) ?_
    rotate_left
    · (intro W hSw; (try dsimp only at hSw); go_simp) <;> with_reducible rfl
    try simp only [Act.put, List.setIfInBounds_toArray, List.set_cons_zero, List.set_cons_succ]
    refine wpAnyH_take (i := 15) (oi := { dst := some 96, op := Op.move (Operand.tmp 95), type := 4, pos := "more.go:106", after := #[{ on := 14, ground := Ground.data }, { on := 12, ground := Ground.chain }], guard := none }) (v := ?_) rfl (by kernel_rfl) (by kernel_rfl) (by kernel_rfl) (fun _ _ _ h => h) (Or.inl ⟨by rfl, ?_⟩) (by assumption) ?_
    rotate_left
    · (intro W hSw; (try dsimp only at hSw); go_simp) <;> with_reducible rfl
    try simp only [Act.put, List.setIfInBounds_toArray, List.set_cons_zero, List.set_cons_succ]
    refine wpAnyH_take (i := 16) (oi := { dst := some 97, op := Op.move (Operand.tmp 10), type := 62, pos := "more.go:106", after := #[{ on := 15, ground := Ground.guard }], guard := some (15, true) }) (v := ?_) rfl (by kernel_rfl) (by kernel_rfl) (by kernel_rfl) (fun _ _ _ h => h) (Or.inl ⟨by rfl, ?_⟩) (by assumption) ?_
    rotate_left
    · (intro W hSw; (try dsimp only at hSw); go_simp) <;> with_reducible rfl
    try simp only [Act.put, List.setIfInBounds_toArray, List.set_cons_zero, List.set_cons_succ]
    refine wpAnyH_ready (rs := [17]) (by kernel_rfl) (by simp) ?_
    refine AllReadyH.cons (o := { dst := some 98, op := Op.call { callee := Callee.value (Operand.func 35), args := #[Operand.tmp 97], argTypes := #[62] }, type := 43, pos := "more.go:106", after := #[{ on := 16, ground := Ground.data }, { on := 15, ground := Ground.chain }, { on := 15, ground := Ground.guard }], guard := some (15, true) }) rfl (fun K hK => ?_) AllReadyH.nil
    go_simp
    go_at_call 35
    go_fit (E3.out _ HQ3.out)
    rintro r x4 ⟨⟨A4, c4, rfl⟩, hb2⟩
    have HQ4 := Lib.hid (bthen HQ3.out hb2)
    clear hb2
    go_wp2_with fail
    refine hK.out _ _ (HK.out _ HQ4.out) (fun hHeld17 => ?_)
    clear hK K
    try simp only [Act.put, List.setIfInBounds_toArray, List.set_cons_zero, List.set_cons_succ]
    refine wpAnyH_take (i := 18) (oi := { dst := some 99, op := Op.call { callee := Callee.builtin Builtin.len, args := #[Operand.tmp 98], argTypes := #[43] }, type := 3, pos := "more.go:106", after := #[{ on := 17, ground := Ground.data }, { on := 15, ground := Ground.guard }], guard := some (15, true) }) (v := ?_) rfl (by kernel_rfl) (by kernel_rfl) (by kernel_rfl) (fun _ _ _ h => h) (Or.inl ⟨by rfl, ?_⟩) (by assumption) ?_
    rotate_left
    · (intro W hSw; (try dsimp only at hSw); go_simp) <;> with_reducible rfl
    try simp only [Act.put, List.setIfInBounds_toArray, List.set_cons_zero, List.set_cons_succ]
    refine wpAnyH_take (i := 19) (oi := { dst := some 100, op := Op.binOp BinOp.eql 3 (Operand.tmp 99) (Operand.const (Value.int IntKind.i64 1)) 3, type := 4, pos := "more.go:106", after := #[{ on := 18, ground := Ground.data }, { on := 15, ground := Ground.guard }], guard := some (15, true) }) (v := ?_) rfl (by kernel_rfl) (by kernel_rfl) (by kernel_rfl) (fun _ _ _ h => h) (Or.inl ⟨by rfl, ?_⟩) (by assumption) ?_
    rotate_left
    · (intro W hSw; (try dsimp only at hSw); go_simp) <;> with_reducible rfl
    try simp only [Act.put, List.setIfInBounds_toArray, List.set_cons_zero, List.set_cons_succ]
    refine wpAnyH_take (i := 20) (oi := { dst := some 101, op := Op.pick (Operand.tmp 96) (Operand.tmp 100) (Operand.const (Value.bool false)), type := 4, pos := "more.go:106", after := #[{ on := 15, ground := Ground.data }, { on := 19, ground := Ground.data }], guard := none }) (v := ?_) rfl (by kernel_rfl) (by kernel_rfl) (by kernel_rfl) (fun _ _ _ h => h) (Or.inl ⟨by rfl, ?_⟩) (by assumption) ?_
    rotate_left
    · (intro W hSw; (try dsimp only at hSw); go_simp) <;> with_reducible rfl
    try simp only [Act.put, List.setIfInBounds_toArray, List.set_cons_zero, List.set_cons_succ]
    refine wpAnyH_take (i := 21) (oi := { dst := some 102, op := Op.move (Operand.tmp 101), type := 4, pos := "more.go:106", after := #[{ on := 20, ground := Ground.data }, { on := 17, ground := Ground.chain }], guard := none }) (v := ?_) rfl (by kernel_rfl) (by kernel_rfl) (by kernel_rfl) (fun _ _ _ h => h) (Or.inl ⟨by rfl, ?_⟩) (by assumption) ?_
    rotate_left
    · (intro W hSw; (try dsimp only at hSw); go_simp) <;> with_reducible rfl
    try simp only [Act.put, List.setIfInBounds_toArray, List.set_cons_zero, List.set_cons_succ]
    refine wpAnyH_take (i := 22) (oi := { dst := some 103, op := Op.move (Operand.tmp 11), type := 62, pos := "more.go:106", after := #[{ on := 21, ground := Ground.guard }], guard := some (21, true) }) (v := ?_) rfl (by kernel_rfl) (by kernel_rfl) (by kernel_rfl) (fun _ _ _ h => h) (Or.inl ⟨by rfl, ?_⟩) (by assumption) ?_
    rotate_left
    · (intro W hSw; (try dsimp only at hSw); go_simp) <;> with_reducible rfl
    try simp only [Act.put, List.setIfInBounds_toArray, List.set_cons_zero, List.set_cons_succ]
    refine wpAnyH_ready (rs := [23]) (by kernel_rfl) (by simp) ?_
    refine AllReadyH.cons (o := { dst := some 104, op := Op.call { callee := Callee.value (Operand.func 35), args := #[Operand.tmp 103], argTypes := #[62] }, type := 43, pos := "more.go:106", after := #[{ on := 22, ground := Ground.data }, { on := 21, ground := Ground.chain }, { on := 21, ground := Ground.guard }], guard := some (21, true) }) rfl (fun K hK => ?_) AllReadyH.nil
    go_simp
    go_at_call 35
    go_fit (E4.out _ HQ4.out)
    rintro r x5 ⟨⟨A5, c5, rfl⟩, hb2⟩
    have HQ5 := Lib.hid (bthen HQ4.out hb2)
    clear hb2
    go_wp2_with fail
    refine hK.out _ _ (HK.out _ HQ5.out) (fun hHeld23 => ?_)
    clear hK K
    try simp only [Act.put, List.setIfInBounds_toArray, List.set_cons_zero, List.set_cons_succ]
    refine wpAnyH_take (i := 24) (oi := { dst := some 105, op := Op.call { callee := Callee.builtin Builtin.len, args := #[Operand.tmp 104], argTypes := #[43] }, type := 3, pos := "more.go:106", after := #[{ on := 23, ground := Ground.data }, { on := 21, ground := Ground.guard }], guard := some (21, true) }) (v := ?_) rfl (by kernel_rfl) (by kernel_rfl) (by kernel_rfl) (fun _ _ _ h => h) (Or.inl ⟨by rfl, ?_⟩) (by assumption) ?_
    rotate_left
    · (intro W hSw; (try dsimp only at hSw); go_simp) <;> with_reducible rfl
    try simp only [Act.put, List.setIfInBounds_toArray, List.set_cons_zero, List.set_cons_succ]
    refine wpAnyH_take (i := 25) (oi := { dst := some 106, op := Op.binOp BinOp.eql 3 (Operand.tmp 105) (Operand.const (Value.int IntKind.i64 2)) 3, type := 4, pos := "more.go:106", after := #[{ on := 24, ground := Ground.data }, { on := 21, ground := Ground.guard }], guard := some (21, true) }) (v := ?_) rfl (by kernel_rfl) (by kernel_rfl) (by kernel_rfl) (fun _ _ _ h => h) (Or.inl ⟨by rfl, ?_⟩) (by assumption) ?_
    rotate_left
    · (intro W hSw; (try dsimp only at hSw); go_simp) <;> with_reducible rfl
    try simp only [Act.put, List.setIfInBounds_toArray, List.set_cons_zero, List.set_cons_succ]
    refine wpAnyH_take (i := 26) (oi := { dst := some 107, op := Op.pick (Operand.tmp 102) (Operand.tmp 106) (Operand.const (Value.bool false)), type := 4, pos := "more.go:106", after := #[{ on := 21, ground := Ground.data }, { on := 25, ground := Ground.data }], guard := none }) (v := ?_) rfl (by kernel_rfl) (by kernel_rfl) (by kernel_rfl) (fun _ _ _ h => h) (Or.inl ⟨by rfl, ?_⟩) (by assumption) ?_
    rotate_left
    · (intro W hSw; (try dsimp only at hSw); go_simp) <;> with_reducible rfl
    try simp only [Act.put, List.setIfInBounds_toArray, List.set_cons_zero, List.set_cons_succ]
    refine wpAnyH_take (i := 27) (oi := { dst := some 108, op := Op.move (Operand.tmp 107), type := 4, pos := "more.go:106", after := #[{ on := 26, ground := Ground.data }, { on := 23, ground := Ground.chain }], guard := none }) (v := ?_) rfl (by kernel_rfl) (by kernel_rfl) (by kernel_rfl) (fun _ _ _ h => h) (Or.inl ⟨by rfl, ?_⟩) (by assumption) ?_
    rotate_left
    · (intro W hSw; (try dsimp only at hSw); go_simp) <;> with_reducible rfl
    try simp only [Act.put, List.setIfInBounds_toArray, List.set_cons_zero, List.set_cons_succ]
    refine wpAnyH_take (i := 28) (oi := { dst := some 109, op := Op.move (Operand.tmp 10), type := 62, pos := "more.go:106", after := #[{ on := 27, ground := Ground.guard }], guard := some (27, true) }) (v := ?_) rfl (by kernel_rfl) (by kernel_rfl) (by kernel_rfl) (fun _ _ _ h => h) (Or.inl ⟨by rfl, ?_⟩) (by assumption) ?_
    rotate_left
    · (intro W hSw; (try dsimp only at hSw); go_simp) <;> with_reducible rfl
    try simp only [Act.put, List.setIfInBounds_toArray, List.set_cons_zero, List.set_cons_succ]
    refine wpAnyH_ready (rs := [29]) (by kernel_rfl) (by simp) ?_
    refine AllReadyH.cons (o := { dst := some 110, op := Op.call { callee := Callee.value (Operand.func 32), args := #[Operand.tmp 109], argTypes := #[62] }, type := 50, pos := "more.go:106", after := #[{ on := 28, ground := Ground.data }, { on := 27, ground := Ground.chain }, { on := 27, ground := Ground.guard }], guard := some (27, true) }) rfl (fun K hK => ?_) AllReadyH.nil
    go_simp
    go_at_call 32
    go_fit (E5.out _ HQ5.out)
    rintro r x6 ⟨⟨A6, c6, rfl⟩, hb2⟩
    have HQ6 := Lib.hid (bthen HQ5.out hb2)
    clear hb2
    go_wp2_with fail
    refine hK.out _ _ (HK.out _ HQ6.out) (fun hHeld29 => ?_)
    clear hK K
    try simp only [Act.put, List.setIfInBounds_toArray, List.set_cons_zero, List.set_cons_succ]
    refine wpAnyH_take (i := 30) (oi := { dst := some 111, op := Op.call { callee := Callee.builtin Builtin.len, args := #[Operand.tmp 110], argTypes := #[50] }, type := 3, pos := "more.go:106", after := #[{ on := 29, ground := Ground.data }, { on := 27, ground := Ground.guard }], guard := some (27, true) }) (v := ?_) rfl (by kernel_rfl) (by kernel_rfl) (by kernel_rfl) (fun _ _ _ h => h) (Or.inl ⟨by rfl, ?_⟩) (by assumption) ?_
    rotate_left
    · (intro W hSw; (try dsimp only at hSw); go_simp) <;> with_reducible rfl
    try simp only [Act.put, List.setIfInBounds_toArray, List.set_cons_zero, List.set_cons_succ]
    refine wpAnyH_take (i := 31) (oi := { dst := some 112, op := Op.binOp BinOp.eql 3 (Operand.tmp 111) (Operand.const (Value.int IntKind.i64 0)) 3, type := 4, pos := "more.go:106", after := #[{ on := 30, ground := Ground.data }, { on := 27, ground := Ground.guard }], guard := some (27, true) }) (v := ?_) rfl (by kernel_rfl) (by kernel_rfl) (by kernel_rfl) (fun _ _ _ h => h) (Or.inl ⟨by rfl, ?_⟩) (by assumption) ?_
    rotate_left
    · (intro W hSw; (try dsimp only at hSw); go_simp) <;> with_reducible rfl
    try simp only [Act.put, List.setIfInBounds_toArray, List.set_cons_zero, List.set_cons_succ]
    refine wpAnyH_take (i := 32) (oi := { dst := some 113, op := Op.pick (Operand.tmp 108) (Operand.tmp 112) (Operand.const (Value.bool false)), type := 4, pos := "more.go:106", after := #[{ on := 27, ground := Ground.data }, { on := 31, ground := Ground.data }], guard := none }) (v := ?_) rfl (by kernel_rfl) (by kernel_rfl) (by kernel_rfl) (fun _ _ _ h => h) (Or.inl ⟨by rfl, ?_⟩) (by assumption) ?_
    rotate_left
    · (intro W hSw; (try dsimp only at hSw); go_simp) <;> with_reducible rfl
    try simp only [Act.put, List.setIfInBounds_toArray, List.set_cons_zero, List.set_cons_succ]
    refine wpAnyH_take (i := 33) (oi := { dst := some 114, op := Op.move (Operand.tmp 113), type := 4, pos := "more.go:106", after := #[{ on := 32, ground := Ground.data }, { on := 29, ground := Ground.chain }], guard := none }) (v := ?_) rfl (by kernel_rfl) (by kernel_rfl) (by kernel_rfl) (fun _ _ _ h => h) (Or.inl ⟨by rfl, ?_⟩) (by assumption) ?_
    rotate_left
    · (intro W hSw; (try dsimp only at hSw); go_simp) <;> with_reducible rfl
    try simp only [Act.put, List.setIfInBounds_toArray, List.set_cons_zero, List.set_cons_succ]
    refine wpAnyH_take (i := 34) (oi := { dst := some 115, op := Op.move (Operand.tmp 10), type := 62, pos := "more.go:106", after := #[{ on := 33, ground := Ground.guard }], guard := some (33, true) }) (v := ?_) rfl (by kernel_rfl) (by kernel_rfl) (by kernel_rfl) (fun _ _ _ h => h) (Or.inl ⟨by rfl, ?_⟩) (by assumption) ?_
    rotate_left
    · (intro W hSw; (try dsimp only at hSw); go_simp) <;> with_reducible rfl
    try simp only [Act.put, List.setIfInBounds_toArray, List.set_cons_zero, List.set_cons_succ]
    refine wpAnyH_take (i := 38) (oi := { dst := some 119, op := Op.load 42 (Operand.tmp 4), type := 42, pos := "more.go:106", after := #[{ on := 33, ground := Ground.guard }], guard := some (33, true) }) (v := ?_) rfl (by kernel_rfl) (by kernel_rfl) (by kernel_rfl) (fun _ _ _ h => h) (Or.inl ⟨by rfl, ?_⟩) (by assumption) ?_
    rotate_left
    · (intro W hSw; (try dsimp only at hSw); go_simp) <;> with_reducible rfl
    try simp only [Act.put, List.setIfInBounds_toArray, List.set_cons_zero, List.set_cons_succ]
    refine wpAnyH_ready (rs := [35]) (by kernel_rfl) (by simp) ?_
    refine AllReadyH.cons (o := { dst := some 116, op := Op.call { callee := Callee.value (Operand.func 35), args := #[Operand.tmp 115], argTypes := #[62] }, type := 43, pos := "more.go:106", after := #[{ on := 34, ground := Ground.data }, { on := 33, ground := Ground.chain }, { on := 33, ground := Ground.guard }], guard := some (33, true) }) rfl (fun K hK => ?_) AllReadyH.nil
    go_simp
    go_at_call 35
    go_fit (E6.out _ HQ6.out)
    rintro r x7 ⟨g9, c9, T9, ct9, F9, cf9, rfl, hc9, q0, q1, q2, q3, ht9, hf9, hb2⟩
    have HQ7 := Lib.hid (bthen HQ6.out hb2)
    have HT9 := Lib.hid ht9
    have HF9 := Lib.hid hf9
    have Q0 := Lib.hid q0
    have Q1 := Lib.hid q1
    have Q2 := Lib.hid q2
    have Q3 := Lib.hid q3
    clear hb2 ht9 hf9 q0 q1 q2 q3
    go_wp2_with fail
    refine hK.out _ _ (HK.out _ HQ7.out) (fun hHeld35 => ?_)
    clear hK K
    try simp only [Act.put, List.setIfInBounds_toArray, List.set_cons_zero, List.set_cons_succ]
    have HK9 := Lib.hid (fun W (hW : Below x7.heap.size x7 W) => show W.cell? ⟨g9, 0, none⟩ = some (.string v.stream) ∧ W.cell? ⟨g9, 1, none⟩ = some (.string v.type) ∧ W.cell? ⟨g9, 2, none⟩ = some (.slice T9 nt ct9) ∧ W.cell? ⟨g9, 3, none⟩ = some (.slice F9 nf cf9) from ⟨(hW.cell (World.block_lt_of_cell? _ _ Q0.out)).trans Q0.out, (hW.cell (World.block_lt_of_cell? _ _ Q1.out)).trans Q1.out, (hW.cell (World.block_lt_of_cell? _ _ Q2.out)).trans Q2.out, (hW.cell (World.block_lt_of_cell? _ _ Q3.out)).trans Q3.out⟩)
    refine wpAnyH_strong (S' := fun W => (Below v15.heap.size v15 W ∧ W.cell? ⟨y, 0, none⟩ = some (.slice A3 n c3) ∧ W.cell? ⟨w.heap.size, 0, none⟩ = some (.string v.stream) ∧ W.cell? ⟨w.heap.size, 1, none⟩ = some (.string v.type) ∧ W.cell? ⟨w.heap.size, 2, none⟩ = some (.slice T nt ct) ∧ W.cell? ⟨w.heap.size, 3, none⟩ = some (.slice F nf cf)) ∧ W.cell? ⟨g9, 0, none⟩ = some (.string v.stream) ∧ W.cell? ⟨g9, 1, none⟩ = some (.string v.type) ∧ W.cell? ⟨g9, 2, none⟩ = some (.slice T9 nt ct9) ∧ W.cell? ⟨g9, 3, none⟩ = some (.slice F9 nf cf9)) (fun _ h => h.1) _ _ _ _ ?_
    have hS9 : (Below v15.heap.size v15 x7 ∧ x7.cell? ⟨y, 0, none⟩ = some (.slice A3 n c3) ∧ x7.cell? ⟨w.heap.size, 0, none⟩ = some (.string v.stream) ∧ x7.cell? ⟨w.heap.size, 1, none⟩ = some (.string v.type) ∧ x7.cell? ⟨w.heap.size, 2, none⟩ = some (.slice T nt ct) ∧ x7.cell? ⟨w.heap.size, 3, none⟩ = some (.slice F nf cf)) ∧ x7.cell? ⟨g9, 0, none⟩ = some (.string v.stream) ∧ x7.cell? ⟨g9, 1, none⟩ = some (.string v.type) ∧ x7.cell? ⟨g9, 2, none⟩ = some (.slice T9 nt ct9) ∧ x7.cell? ⟨g9, 3, none⟩ = some (.slice F9 nf cf9) := ⟨HK.out _ HQ7.out, HK9.out _ (Below.refl _ _)⟩
    refine wpAnyH_take (i := 36) (oi := { dst := some 117, op := Op.indexAddr 43 (Operand.tmp 116) (Operand.const (Value.int IntKind.i64 0)), type := 0, pos := "more.go:106", after := #[{ on := 35, ground := Ground.data }, { on := 33, ground := Ground.guard }], guard := some (33, true) }) (v := ?_) rfl (by kernel_rfl) (by kernel_rfl) (by kernel_rfl) (fun _ _ _ h => h) (Or.inl ⟨by rfl, ?_⟩) (by assumption) ?_
    rotate_left
    · (intro W hSw; (try dsimp only at hSw); go_simp) <;> with_reducible rfl
    try simp only [Act.put, List.setIfInBounds_toArray, List.set_cons_zero, List.set_cons_succ]
    refine wpAnyH_take (i := 37) (oi := { dst := some 118, op := Op.load 42 (Operand.tmp 117), type := 42, pos := "more.go:106", after := #[{ on := 36, ground := Ground.data }, { on := 33, ground := Ground.guard }], guard := some (33, true) }) (v := ?_) rfl (by kernel_rfl) (by kernel_rfl) (by kernel_rfl) (fun _ _ _ h => h) (Or.inl ⟨by rfl, ?_⟩) (by assumption) ?_
    rotate_left
    · (intro W hSw; (try dsimp only at hSw); go_simp) <;> with_reducible rfl
    try simp only [Act.put, List.setIfInBounds_toArray, List.set_cons_zero, List.set_cons_succ]
    refine wpAnyH_ready (rs := [39]) (by kernel_rfl) (by simp) ?_
    refine AllReadyH.cons (o := { dst := some 120, op := Op.call { callee := Callee.value (Operand.func 45), args := #[Operand.tmp 118, Operand.tmp 119], argTypes := #[42, 42] }, type := 4, pos := "more.go:106", after := #[{ on := 37, ground := Ground.data }, { on := 38, ground := Ground.data }, { on := 35, ground := Ground.chain }, { on := 33, ground := Ground.guard }], guard := some (33, true) }) rfl (fun K hK => ?_) AllReadyH.nil
    go_simp
    go_at_call 45
    go_fit (E7.out _ _ _ _ _ HQ7.out HT9.out HF9.out)
    rintro r x8 ⟨rfl, hb2⟩
    have HQ8 := Lib.hid (bthen HQ7.out hb2)
    have HB9 := Lib.hid hb2
    clear hb2
    go_wp2_with fail
    refine hK.out _ _ (⟨HK.out _ HQ8.out, HK9.out _ HB9.out⟩) (fun hHeld39 => ?_)
    clear hK K
    try simp only [Act.put, List.setIfInBounds_toArray, List.set_cons_zero, List.set_cons_succ]
    refine wpAnyH_take (i := 40) (oi := { dst := some 121, op := Op.pick (Operand.tmp 114) (Operand.tmp 120) (Operand.const (Value.bool false)), type := 4, pos := "more.go:106", after := #[{ on := 33, ground := Ground.data }, { on := 39, ground := Ground.data }], guard := none }) (v := ?_) rfl (by kernel_rfl) (by kernel_rfl) (by kernel_rfl) (fun _ _ _ h => h) (Or.inl ⟨by rfl, ?_⟩) (by assumption) ?_
    rotate_left
    · (intro W hSw; (try dsimp only at hSw); go_simp) <;> with_reducible rfl
    try simp only [Act.put, List.setIfInBounds_toArray, List.set_cons_zero, List.set_cons_succ]
    refine wpAnyH_take (i := 41) (oi := { dst := some 6, op := Op.assign (Operand.tmp 121), type := 4, pos := "more.go:106", after := #[{ on := 40, ground := Ground.data }, { on := 39, ground := Ground.chain }, { on := 0, ground := Ground.phase }, { on := 1, ground := Ground.phase }, { on := 2, ground := Ground.phase }, { on := 3, ground := Ground.phase }, { on := 4, ground := Ground.phase }, { on := 5, ground := Ground.phase }, { on := 6, ground := Ground.phase }, { on := 7, ground := Ground.phase }, { on := 8, ground := Ground.phase }, { on := 9, ground := Ground.phase }, { on := 10, ground := Ground.phase }, { on := 11, ground := Ground.phase }, { on := 12, ground := Ground.phase }, { on := 13, ground := Ground.phase }, { on := 14, ground := Ground.phase }, { on := 15, ground := Ground.phase }, { on := 16, ground := Ground.phase }, { on := 17, ground := Ground.phase }, { on := 18, ground := Ground.phase }, { on := 19, ground := Ground.phase }, { on := 20, ground := Ground.phase }, { on := 21, ground := Ground.phase }, { on := 22, ground := Ground.phase }, { on := 23, ground := Ground.phase }, { on := 24, ground := Ground.phase }, { on := 25, ground := Ground.phase }, { on := 26, ground := Ground.phase }, { on := 27, ground := Ground.phase }, { on := 28, ground := Ground.phase }, { on := 29, ground := Ground.phase }, { on := 30, ground := Ground.phase }, { on := 31, ground := Ground.phase }, { on := 32, ground := Ground.phase }, { on := 33, ground := Ground.phase }, { on := 34, ground := Ground.phase }, { on := 35, ground := Ground.phase }, { on := 36, ground := Ground.phase }, { on := 37, ground := Ground.phase }, { on := 38, ground := Ground.phase }, { on := 39, ground := Ground.phase }, { on := 40, ground := Ground.phase }], guard := none }) (v := ?_) rfl (by kernel_rfl) (by kernel_rfl) (by kernel_rfl) (fun _ _ _ h => h) (Or.inl ⟨by rfl, ?_⟩) (by assumption) ?_
    rotate_left
    · (intro W hSw; (try dsimp only at hSw); go_simp) <;> with_reducible rfl
    try simp only [Act.put, List.setIfInBounds_toArray, List.set_cons_zero, List.set_cons_succ]
    refine wpAnyH_done (by kernel_rfl) ?_ _
    go_wp2_with fail
    go_ret
    exact ⟨rfl, bthen HB1.out (bthen H15.out.f.bel HQ8.out)⟩
end Go.Proofs.YtfoghahidofegaaGreat

namespace Go.Proofs.YtfoghahidofegaaGreat

set_option maxRecDepth 100000 in
def ordN : List Nat := [104, 97, 114, 110, 101, 115, 115, 32, 52, 51, 57, 99, 56, 54, 52, 48, 57, 53, 57, 98, 54, 102, 49, 100, 98, 52, 54, 57, 49, 55, 52, 101, 99, 98, 102, 48, 52, 98, 98, 55, 55, 51, 55, 102, 97, 97, 102, 100, 101, 56, 102, 54, 51, 52, 56, 50, 52, 101, 56, 97, 49, 101, 54, 49, 52, 53, 52, 50, 54, 55, 97, 101, 32, 99, 117, 116, 32, 97, 116, 32, 114, 101, 103, 105, 115, 116, 114, 97, 114, 47, 114, 101, 103, 105, 115, 116, 114, 97, 114, 108, 97, 119, 49, 52, 46, 73, 110, 100, 101, 120, 80, 108, 97, 121, 115, 32, 114, 101, 103, 105, 115, 116, 114, 97, 114, 47, 114, 101, 103, 105, 115, 116, 114, 97, 114, 108, 97, 119, 49, 56, 46, 71, 117, 97, 114, 100, 76, 105, 115, 116, 115, 32, 114, 101, 103, 105, 115, 116, 114, 97, 114, 47, 114, 101, 103, 105, 115, 116, 114, 97, 114, 108, 97, 119, 49, 57, 46, 83, 101, 115, 115, 105, 111, 110, 77, 97, 110, 121, 32, 114, 101, 103, 105, 115, 116, 114, 97, 114, 47, 114, 101, 103, 105, 115, 116, 114, 97, 114, 108, 97, 119, 49, 57, 46, 83, 101, 115, 115, 105, 111, 110, 70, 114, 101, 101, 32, 114, 101, 103, 105, 115, 116, 114, 97, 114, 47, 114, 101, 103, 105, 115, 116, 114, 97, 114, 108, 97, 119, 49, 57, 46, 83, 101, 115, 115, 105, 111, 110, 83, 101, 101, 115, 32, 114, 101, 103, 105, 115, 116, 114, 97, 114, 47, 114, 101, 103, 105, 115, 116, 114, 97, 114, 108, 97, 119, 49, 57, 46, 83, 101, 115, 115, 105, 111, 110, 65, 116, 32, 114, 101, 103, 105, 115, 116, 114, 97, 114, 47, 114, 101, 103, 105, 115, 116, 114, 97, 114, 108, 97, 119, 49, 57, 46, 83, 101, 115, 115, 105, 111, 110, 82, 101, 102, 117, 115, 101, 115, 32, 114, 101, 103, 105, 115, 116, 114, 97, 114, 47, 114, 101, 103, 105, 115, 116, 114, 97, 114, 108, 97, 119, 49, 57, 46, 83, 101, 115, 115, 105, 111, 110, 80, 108, 97, 121, 115]
def ordL : List Char := ordN.map Char.ofNat
theorem order_eq : Tryz.prog.initOrder = String.ofList ordL := by kernel_rfl
theorem signs_eq : Tryz.prog.initOrder.toList = ordL := by rw [order_eq, String.toList_ofList]
def ordRest : List (List Char) := (behindMainWord (wordsSigns ordL)).tail
theorem words_eq : behindMainWord (wordsSigns ordL) = "cut".toList :: ordRest := by kernel_rfl
theorem strip_cut (r : List (List Char)) : stripLifts liftWords ("cut".toList :: r) = ([], "cut".toList :: r) := by kernel_rfl
theorem mayEnter_of (P : Program) (rest : List (List Char)) (h : behindMainWord (wordsSigns P.initOrder.toList) = "cut".toList :: rest) (h1 : P.laysLater = false) (h2 : P.bearsReflect = false) (h3 : P.doorFits [] = true) : P.mayEnter = true := by
  unfold Program.mayEnter
  rw [h]
  dsimp only
  rw [strip_cut, h1, h2, h3]
  simp
theorem lifts_of (P : Program) (rest : List (List Char)) (h : behindMainWord (wordsSigns P.initOrder.toList) = "cut".toList :: rest) : P.liftsFinal = false := by
  unfold Program.liftsFinal Program.headLifts
  rw [h, strip_cut]
  simp
theorem make_of (P : Program) (rest : List (List Char)) (h : behindMainWord (wordsSigns P.initOrder.toList) = "cut".toList :: rest) : P.make = some .cut := by
  unfold Program.make
  rw [h]
  dsimp only
  rw [if_neg (by decide), if_pos (by simp)]
theorem door_of (P : Program) (h : P.doorRows = []) : P.doorFits [] = true := by
  unfold Program.doorFits
  rw [h]
  simp
theorem head_eq : behindMainWord (wordsSigns Tryz.prog.initOrder.toList) = "cut".toList :: ordRest := by rw [signs_eq]; exact words_eq
theorem h_later : Tryz.prog.laysLater = false := by kernel_rfl
theorem h_refl : Tryz.prog.bearsReflect = false := by kernel_rfl
theorem h_rows : Tryz.prog.doorRows = [] := by kernel_rfl
theorem mayEnter_eq : Tryz.prog.mayEnter = true := mayEnter_of _ _ head_eq h_later h_refl (door_of _ h_rows)
theorem lifts_eq : Tryz.prog.liftsFinal = false := lifts_of _ _ head_eq
theorem make_eq : Tryz.prog.make = some .cut := make_of _ _ head_eq
theorem laidOut_eq : laidOutB Tryz.prog = true := by kernel_rfl
theorem mapsRowed_eq : mapsRowed Tryz.prog = true := by kernel_rfl
theorem stops_eq : (Tryz.prog.stops == []) = true := by kernel_rfl
theorem stopKnobs_eq : (Tryz.prog.stopKnobs == []) = true := by kernel_rfl
theorem heard_eq : Tryz.prog.stopsHeard = true := by kernel_rfl
theorem own_eq : ownKnob Tryz.prog.godebug = none := by kernel_rfl

/-- The rows' one great closed fact, out of its parts. -/
theorem joined_of {P : Program} {f : FuncId} {fn : Func} {s : ChangeSpec} {c : OpenClaim}
    (k1 : c.wf (OpenSpec.ofChange s) = true) (k2 : laidOutB P = true) (k3 : mapsRowed P = true) (k4 : fn.params.all (P.readableRec ·) = true) (k5 : namedTie P c.named s.vars = true)
    (k6 : (c.stops == []) = true) (k7 : (P.stops == []) = true) (k8 : (c.knobs == []) = true) (k9 : (P.stopKnobs == []) = true)
    (k10 : (c.inPlace == P.inPlace f) = true) (k11 : (c.unfollowed == P.unfollowed f) = true) (k12 : (c.recurses == P.recurses f) = true) (k13 : (c.named == P.varsNamed f) = true)
    (k14 : (c.maps == (fn.params.toList ++ s.plain.varTypes P).any (P.mapsRec ·)) = true) (k15 : (c.ifaces == (fn.params.toList ++ s.plain.varTypes P).any (P.ifacesRec ·)) = true) (k16 : (c.mapsOut == P.mapsAmong fn.resultTypes.toList) = true)
    (k17 : (c.loops == (fn.params.toList ++ s.plain.varTypes P).any (P.loopsFrom ·)) = true) (k18 : (c.wideKeys == (fn.params.toList ++ s.plain.varTypes P ++ fn.resultTypes.toList).any (P.wideKeysFrom ·)) = true)
    (k19 : s.vars.all (P.varReadable ·) = true) (k20 : fn.resultTypes.all (fun t => P.readableRec t && decide (t < P.types.size)) = true) (k21 : (c.ifacesOut == fn.resultTypes.toList.any (P.ifacesRec ·)) = true) (k22 : (c.loopsOut == fn.resultTypes.toList.any (P.loopsFrom ·)) = true)
    (k23 : (c.plainKeys == P.plainKeys) = true) (k24 : c.shortTexts.isNone = true) (k25 : P.stopsHeard = true) (k26 : P.mayEnter = true) (k27 : (c.lifted == P.liftsFinal) = true) (k28 : (P.make == some c.make) = true)
    (k29 : c.kinds = [] ∧ c.domain = []) (k30 : (c.pinned == c.pinnedBy) = true)
    (k31 : (c.veiled == (fn.params.toList ++ s.plain.varTypes P ++ fn.resultTypes.toList).any (P.veiledRec ·)) = true) (k32 : c.veiledFits P fn.params.toList (fn.params.toList ++ s.plain.varTypes P ++ fn.resultTypes.toList) = true) :
    joinedFacts P f fn s c = true := by
  unfold joinedFacts
  rw [k1, k2, k3, k4, k5, k6, k7, k8, k9, k10, k11, k12, k13, k14, k15, k16, k17, k18, k19, k20, k21, k22, k23, k24, k25, k26, k27, k28, k29.1, k29.2, k30, k31, k32]
  rfl
end Go.Proofs.YtfoghahidofegaaGreat

namespace Go.Proofs.YtfoghahidofegaaGreat.sessionAt
open Go.ChangeShapes Go.WideShapes Go.ChangeAt Go.RowKit
open Go.ChangeMaps (open_string shut_string)
set_option maxRecDepth 100000 in
theorem lifted (os : Os) (started : os.Started) (H : Type) (enc : TypeId × Value → H) :
    ReturnsInHanded {} Tryz.checked os 8 .any (Rows.sessionAtSpec.pre6 enc Tryz.prog Tryz.f8 Rows.sessionAtRow.domain false) (Rows.sessionAtSpec.post enc Tryz.prog Tryz.f8 false true false false) := by
  refine returnsInHanded_of_change_sized (C := Tryz.checked) own_eq started (by kernel_rfl) Tryz.func8
    (ChangeSpec.witness6 (enc := enc) (C := Tryz.checked) false ⟨#[], #[.slice none 0 0, .agg #[.string ByteArray.empty, .string ByteArray.empty, .slice none 0 0, .slice none 0 0], .string ByteArray.empty], []⟩ 8 (by kernel_rfl) (by kernel_rfl) (by kernel_rfl) (by kernel_rfl)) ?_
  intro W base args ds gs before hval0 hW hcnd hsz0 _
  have hval : ∀ (j : Nat) t v, Tryz.f8.params[j]? = some t → args[j]? = some v → Value.okWide Tryz.prog W .any base t v := hval0
  have hW' := hW
  obtain ⟨p, q, hA0, hV, rfl, hfz, hnd⟩ := hW
  have hA : DataW.TrodAll enc Tryz.prog W 0 (fun _ => true) true Tryz.f8.params.toList args.toList ds p := hA0
  rw [Tryz.params8] at hA hval
  obtain ⟨v0, vs0, d0, ds0, p0, q0, hargs, rfl, rfl, h0, r0⟩ := trodAll_cons hA
  obtain ⟨v1, vs1, d1, ds1, p1, q1, rfl, rfl, rfl, h1, r1⟩ := trodAll_cons r0
  obtain ⟨v2, vs2, d2, ds2, p2, q2, rfl, rfl, rfl, h2, r2⟩ := trodAll_cons r1
  obtain ⟨rfl, rfl, rfl⟩ := trodAll_nil r2
  obtain rfl : args = #[v0, v1, v2] := by cases args; simp_all
  obtain ⟨rfl, rfl⟩ := trodVars_none hV
  have k0 := h0
  have lt0 : ∀ x ∈ p0, x.block < W.heap.size := by obtain ⟨m, hm⟩ := k0; exact DataW.trod_lt m _ _ _ hm
  obtain ⟨a0, len0, cap0, rfl⟩ := okWide_slice Tryz.underlying43 (hval 0 43 v0 rfl rfl)
  obtain ⟨x0, ⟨A0, c0, e0, l0, m0, w0⟩, g0⟩ := (opEvs).arg h0
  simp only [Value.cells, List.cons.injEq, Value.slice.injEq, and_true] at e0
  obtain ⟨rfl, rfl, rfl⟩ := e0
  have k1 := h1
  have lt1 : ∀ x ∈ p1, x.block < W.heap.size := by obtain ⟨m, hm⟩ := k1; exact DataW.trod_lt m _ _ _ hm
  obtain ⟨cs1, rfl, _⟩ := okWide_struct Tryz.underlying42 (hval 1 42 v1 rfl rfl)
  obtain ⟨x1, w1, g1⟩ := (opEvent).arg h1
  have k2 := h2
  have lt2 : ∀ x ∈ p2, x.block < W.heap.size := by obtain ⟨m, hm⟩ := k2; exact DataW.trod_lt m _ _ _ hm
  obtain ⟨a2, rfl, _, _, w2⟩ := open_string Tryz.underlying9 (hval 2 9 v2 rfl rfl) h2
  clear hA0 hval0
  refine (sessionAt_walk W _ _ x0 ⟨l0, m0, w0⟩ g0 cs1 x1 w1 g1 a2 w2).mono fun e W' ⟨he, bel⟩ => ?_
  subst he
  exact ⟨_, rfl, _, _, _, [], _, [], hW', trodAll_mk1 (shut_bool Tryz.underlying4 _), (trodAll_cons_mk (Below.trod laidOut_eq (by kernel_rfl) (of_decide_eq_true (by kernel_rfl)) k0 bel lt0) (trodAll_cons_mk (Below.trod laidOut_eq (by kernel_rfl) (of_decide_eq_true (by kernel_rfl)) k1 bel lt1) (trodAll_cons_mk (Below.trod laidOut_eq (by kernel_rfl) (of_decide_eq_true (by kernel_rfl)) k2 bel lt2) trodAll_mk0))), rfl, bel.frame _, fun h => by cases h⟩
theorem k10 : (Rows.sessionAtRow.inPlace == Tryz.prog.inPlace 8) = true := by kernel_rfl
theorem k11 : (Rows.sessionAtRow.unfollowed == Tryz.prog.unfollowed 8) = true := by kernel_rfl
theorem k12 : (Rows.sessionAtRow.recurses == Tryz.prog.recurses 8) = true := by kernel_rfl
theorem k13 : (Rows.sessionAtRow.named == Tryz.prog.varsNamed 8) = true := by kernel_rfl
theorem k23 : (Rows.sessionAtRow.plainKeys == Tryz.prog.plainKeys) = true := by kernel_rfl
theorem kfn : Tryz.pinned.checked.prog.funcNamed Rows.sessionAtRow.func = some 8 := by kernel_rfl
theorem closed : joinedFacts Tryz.prog 8 Tryz.f8 Rows.sessionAtSpec Rows.sessionAtRow = true :=
  joined_of (by kernel_rfl) laidOut_eq mapsRowed_eq (by kernel_rfl) (by kernel_rfl) rfl stops_eq rfl stopKnobs_eq k10 k11 k12 k13 (by kernel_rfl) (by kernel_rfl) (by kernel_rfl) (by kernel_rfl) (by kernel_rfl) (by kernel_rfl) (by kernel_rfl) (by kernel_rfl) (by kernel_rfl) k23 rfl heard_eq mayEnter_eq (by rw [lifts_eq]; rfl) (by rw [make_eq]; rfl) ⟨rfl, rfl⟩ (by kernel_rfl) (by kernel_rfl) (by kernel_rfl)
theorem over : Rows.sessionAtRow.holds Tryz.pinned (OpenSpec.ofChange Rows.sessionAtSpec) :=
  OpenClaim.holds_of_wide 8 Tryz.f8 rfl rfl rfl rfl rfl rfl rfl ⟨rfl, rfl, rfl, rfl, rfl⟩ rfl rfl rfl rfl rfl kfn Tryz.func8 closed
    (of_decide_eq_true (by kernel_rfl)) (by unfold Func.isWrapper; first | (rw [if_pos (by decide +kernel)]; kernel_rfl) | (rw [if_neg (by decide +kernel)]; exact ⟨rfl, rfl⟩))
    (fun os started H enc _ => lifted os started H enc)
theorem proved : Rows.SessionAtSaid := over
#print axioms proved
end Go.Proofs.YtfoghahidofegaaGreat.sessionAt
