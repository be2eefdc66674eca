/- streams.Table: its state as Lean data. Own work. append(l[:len(l):len(l)], x). slices.BinarySearch at []int; cmp.Less, isNaN at int (walks). (*streams.Table).Version. How many positions are at most x: plain facts. slices.Clone at []int; (*streams.Table).Positions. (*streams.Table).Add. streams.New. -/
import Derived.Test.YtfoghahidofegaaBundA
import Derived.Test.YtfoghahidofegaaProg
import Derived.Maps.OwnSet
import Derived.Maps.Views
import Derived.ArgAppend
import Derived.WideKeyEntry
import Derived.Test.YtfoghahidofegaaBundB
import Derived.Deep.RegionHeld3
import Derived.Lib.SliceRun
import Derived.Deep.RegionLaw
import Derived.Carry
set_option linter.unusedVariables false
set_option linter.unusedSimpArgs false
namespace Go.Proofs.Ytfoghahidofegaa
open Go.RowKit Go.Maps Go.WideMaps Go.ChangeMaps

/-- All blocks but some stay. -/
structure But (S : Nat → Prop) (w w' : World) : Prop where
  os : w'.os = w.os
  tape : w'.tape = w.tape
  output : w'.output = w.output
  size : w.heap.size ≤ w'.heap.size
  block : ∀ k, k < w.heap.size → ¬ S k → w'.heap[k]? = w.heap[k]?
theorem But.refl (S : Nat → Prop) (w : World) : But S w w := ⟨rfl, rfl, rfl, Nat.le_refl _, fun _ _ _ => rfl⟩
theorem But.trans {S : Nat → Prop} {a b c : World} (h : But S a b) (k : But S b c) : But S a c :=
  ⟨k.os.trans h.os, k.tape.trans h.tape, k.output.trans h.output, Nat.le_trans h.size k.size, fun i hi hn => (k.block i (Nat.lt_of_lt_of_le hi h.size) hn).trans (h.block i hi hn)⟩
theorem But.of_below {S : Nat → Prop} {a b : World} (h : Below a.heap.size a b) : But S a b := ⟨h.os, h.tape, h.output, h.size, fun k hk _ => h.block k hk⟩
theorem But.below {S : Nat → Prop} {B : Nat} {w0 a b : World} (h : But S a b) (h0 : Below B w0 a) (hB : B ≤ a.heap.size) (hS : ∀ k, S k → B ≤ k) : Below B w0 b :=
  ⟨h.os.trans h0.os, h.tape.trans h0.tape, h.output.trans h0.output, Nat.le_trans h0.size h.size, fun k hk => (h.block k (by omega) (fun hs => by have := hS k hs; omega)).trans (h0.block k hk)⟩

abbrev RV : Value → Option (DataW Value × List MemPlace) := fun v => some (.held v, [])
abbrev keyS (s : ByteArray) : Lit := .string s.data.toList
/-- A map of rows of positions, in block m: what its rows hang on is ok. -/
structure Mp (w : World) (ok : Nat → Prop) (m N : Nat) (D : DataW Value) (f : ByteArray → List Int) : Prop where
  om : w.ownsMap Try.prog 9 RV m N D
  row : ∀ s, ∃ A c, D.atKey (keyS s) (.held (.slice none 0 0)) = .held (.slice A (f s).length c) ∧ Sl (Kn.int .i64) (fun k => ok k ∧ k ≠ m ∧ k < w.heap.size) w A c (f s)
  has : ∀ s, Maps.has D (keyS s) = true ↔ f s ≠ []
theorem Mp.stay {w w' : World} {ok : Nat → Prop} {m N : Nat} {D : DataW Value} {f : ByteArray → List Int} (h : Mp w ok m N D f) {S : Nat → Prop} (hb : But S w w') (hS : ∀ k, k < w.heap.size → (ok k ∨ k = m) → ¬ S k) : Mp w' ok m N D f := by
  refine ⟨?_, fun s => ?_, h.has⟩
  · obtain ⟨es, clock, hh, r⟩ := h.om
    exact ⟨es, clock, (hb.block m h.om.lt (hS m h.om.lt (.inr rfl))).trans hh, r⟩
  · obtain ⟨A, c, h1, h2⟩ := h.row s
    exact ⟨A, c, h1, (h2.stay hb.size (fun k hk hl => hb.block k hl (hS k hl (.inl hk.1)))).mono (fun k hk => ⟨hk.1, hk.2.1, by have := hb.size; omega⟩)⟩
theorem zero_ints (w : World) : (zeroValue 97).run Try.prog w = .ok (.slice none 0 0) w := by kernel_rfl
/-- What the map gives at a key. -/
theorem Mp.look_at {w : World} {ok : Nat → Prop} {m N : Nat} {D : DataW Value} {f : ByteArray → List Int} (h : Mp w ok m N D f) {t : TypeId} (ht : Try.prog.underlying t = some (.map 9 97)) {s : ByteArray} (hs : s.size ≤ maxLen) {u : Value} (hu : D.atKey (keyS s) (.held (.slice none 0 0)) = .held u) :
    (Instr.lookup t (.map (some m)) (.string s) false).run Try.prog w = .ok u w := by
  obtain ⟨v, ps, hrun, hv⟩ := h.om.lookup (string_keyed Try.underlying9) ht (zero_ints w) (zd := .held (.slice none 0 0)) (zp := []) rfl (keyOf_string_mk Try.underlying9 hs)
  simp only [RV, Option.some.injEq, Prod.mk.injEq] at hv
  have hu2 : DataW.held v = .held u := hv.1.trans hu
  have e : v = u := DataW.held.inj hu2
  rw [← e]
  exact hrun
theorem Mp.look {w : World} {ok : Nat → Prop} {m N : Nat} {D : DataW Value} {f : ByteArray → List Int} (h : Mp w ok m N D f) {t : TypeId} (ht : Try.prog.underlying t = some (.map 9 97)) {s : ByteArray} (hs : s.size ≤ maxLen) :
    ∃ A c, D.atKey (keyS s) (.held (.slice none 0 0)) = .held (.slice A (f s).length c) ∧ (Instr.lookup t (.map (some m)) (.string s) false).run Try.prog w = .ok (.slice A (f s).length c) w ∧ Sl (Kn.int .i64) (fun k => ok k ∧ k ≠ m ∧ k < w.heap.size) w A c (f s) ∧ (f s = [] → A = none) := by
  obtain ⟨A, c, h1, h2⟩ := h.row s
  refine ⟨A, c, h1, h.look_at ht hs h1, h2, fun hn => ?_⟩
  have hh : Maps.has D (keyS s) = false := by
    cases hq : Maps.has D (keyS s) with
    | false => rfl
    | true => exact absurd hn ((h.has s).1 hq)
  rw [atKey_of_not_has hh] at h1
  have h3 := DataW.held.inj h1
  exact (Value.slice.inj h3).1.symm
def upd (f : ByteArray → List Int) (s : ByteArray) (l : List Int) : ByteArray → List Int := fun k => if k = s then l else f k
theorem upd_same (f : ByteArray → List Int) (s : ByteArray) (l : List Int) : upd f s l s = l := if_pos rfl
theorem upd_other (f : ByteArray → List Int) {s k : ByteArray} (l : List Int) (h : k ≠ s) : upd f s l k = f k := if_neg h
theorem keyS_ne {s k : ByteArray} (h : k ≠ s) : keyS k ≠ keyS s := fun e => by
  injection e with e
  exact h (ByteArray.ext (Array.ext' e))
theorem Mp.put {w w' : World} {ok : Nat → Prop} {m N N' : Nat} {D : DataW Value} {f : ByteArray → List Int} (h : Mp w ok m N D f) {s : ByteArray} {l : List Int} (hl : l ≠ []) {A' : Option Addr} {c' : Nat}
    (hom : w'.ownsMap Try.prog 9 RV m N' (D.put (keyS s) (.held (.slice A' l.length c')))) {ok2 : Nat → Prop}
    (hsl : Sl (Kn.int .i64) ok2 w' A' c' l) (hok : ∀ k, ok2 k → k < w'.heap.size → ok k ∧ k ≠ m) {S : Nat → Prop} (hb : But S w w') (hS : ∀ k, k < w.heap.size → ok k → k ≠ m → ¬ S k) :
    Mp w' ok m N' (D.put (keyS s) (.held (.slice A' l.length c'))) (upd f s l) := by
  refine ⟨hom, fun k => ?_, fun k => ?_⟩
  · by_cases hk : k = s
    · subst hk
      rw [upd_same]
      exact ⟨A', c', atKey_put_same h.om.isMap (by trivial) _ _, hsl.bound.mono (fun i hi => ⟨(hok i hi.1 hi.2).1, (hok i hi.1 hi.2).2, hi.2⟩)⟩
    · rw [upd_other _ _ hk]
      obtain ⟨A, c, h1, h2⟩ := h.row k
      exact ⟨A, c, (atKey_put_other (keyS_ne hk) _ _).trans h1, (h2.stay hb.size (fun i hi hlt => hb.block i hlt (hS i hlt hi.1 hi.2.1))).mono (fun i hi => ⟨hi.1, hi.2.1, by have := hb.size; omega⟩)⟩
  · by_cases hk : k = s
    · subst hk
      rw [upd_same, has_put_same h.om.isMap (by trivial)]
      simp [hl]
    · rw [upd_other _ _ hk, has_put_other (keyS_ne hk)]
      exact h.has k

/-- A table in block b, its map in block m; its rows hang on no block of X (blocks of other tables). -/
structure Tb (w : World) (b m N : Nat) (D : DataW Value) (last : Int) (f : ByteArray → List Int) (X : Nat → Prop) : Prop where
  bx : Bx w b 110 [.int .i64 last, .map (some m)]
  mp : Mp w (fun k => k ≠ b ∧ ¬ X k) m N D f
  ne : b ≠ m
  rise : ∀ s, (f s).Pairwise (· < ·)
  top : ∀ s, ∀ p ∈ f s, p ≤ last
  len : ∀ s, (f s).length ≤ N
  xb : ¬ X b
  xm : ¬ X m
  xs : ∀ k, X k → k < w.heap.size
section
variable {w w' : World} {b m N : Nat} {D : DataW Value} {last : Int} {f : ByteArray → List Int} {X Y : Nat → Prop}
/-- Blocks of X alone turn. -/
theorem Tb.far (h : Tb w b m N D last f X) (hb : But X w w') : Tb w' b m N D last f X :=
  ⟨h.bx.stay (fun hk => hb.block _ hk h.xb), h.mp.stay hb (fun k _ hk hx => hk.elim (fun h1 => h1.2 hx) (fun e => h.xm (e ▸ hx))), h.ne, h.rise, h.top, h.len, h.xb, h.xm, fun k hk => Nat.lt_of_lt_of_le (h.xs k hk) hb.size⟩
theorem Tb.below (h : Tb w b m N D last f X) (hb : Below w.heap.size w w') : Tb w' b m N D last f X := h.far (But.of_below hb)
/-- New blocks are fenced off. -/
theorem Tb.fence (h : Tb w b m N D last f X) (hb : Below w.heap.size w w') (hY : ∀ k, Y k → X k ∨ (w.heap.size ≤ k ∧ k < w'.heap.size)) : Tb w' b m N D last f Y := by
  have hbl := h.bx.lt
  have hml := h.mp.om.lt
  refine ⟨h.bx.under hb, ⟨(h.mp.stay (But.of_below (S := fun _ => False) hb) (fun _ _ _ h => h)).om, fun s => ?_, h.mp.has⟩, h.ne, h.rise, h.top, h.len, fun hx => (hY _ hx).elim h.xb (fun h => by omega), fun hx => (hY _ hx).elim h.xm (fun h => by omega), fun k hk => (hY k hk).elim (fun h1 => Nat.lt_of_lt_of_le (h.xs k h1) hb.size) (fun h => h.2)⟩
  obtain ⟨A, c, h1, h2⟩ := h.mp.row s
  exact ⟨A, c, h1, (h2.below hb).mono (fun k hk => ⟨⟨hk.1.1, fun hx => (hY _ hx).elim hk.1.2 (fun h => by omega)⟩, hk.2.1, by have := hb.size; omega⟩)⟩
theorem Tb.less (h : Tb w b m N D last f X) (hY : ∀ k, Y k → X k) : Tb w b m N D last f Y := h.fence (Below.refl _ _) (fun k hk => .inl (hY k hk))
/-- A copy: the same rows, another box and map. -/
theorem Tb.copy (h : Tb w b m N D last f X) (hb : Below w.heap.size w w') {b2 m2 : Nat} (hb2 : w.heap.size ≤ b2) (hm2 : w.heap.size ≤ m2) (hne : b2 ≠ m2) (hbx : Bx w' b2 110 [.int .i64 last, .map (some m2)]) (hom : w'.ownsMap Try.prog 9 RV m2 N D) :
    Tb w' b2 m2 N D last f (fun k => k = b ∨ k = m ∨ X k) := by
  have hbl := h.bx.lt
  have hml := h.mp.om.lt
  have hx := h.xs
  refine ⟨hbx, ⟨hom, fun s => ?_, h.mp.has⟩, hne, h.rise, h.top, h.len, ?_, ?_, fun k hk => ?_⟩
  · obtain ⟨A, c, h1, h2⟩ := h.mp.row s
    exact ⟨A, c, h1, (h2.below hb).mono (fun k hk => ⟨⟨by omega, fun h => h.elim hk.1.1 (fun h => h.elim hk.2.1 hk.1.2)⟩, by omega, by have := hb.size; omega⟩)⟩
  · rintro (h | h | h)
    · omega
    · omega
    · have := hx _ h; omega
  · rintro (h | h | h)
    · omega
    · omega
    · have := hx _ h; omega
  · have := hb.size
    rcases hk with rfl | rfl | h
    · omega
    · omega
    · have := hx _ h; omega
theorem Tb.added (h : Tb w b m N D last f X) {s : ByteArray} {pos : Int} (hlt : last < pos) {A' : Option Addr} {c' : Nat}
    (hbx : Bx w' b 110 [.int .i64 pos, .map (some m)]) (hom : w'.ownsMap Try.prog 9 RV m (N + 1) (D.put (keyS s) (.held (.slice A' (f s ++ [pos]).length c'))))
    (hsl : Sl (Kn.int .i64) (fun k => w.heap.size ≤ k) w' A' c' (f s ++ [pos])) (hb : But (fun k => k = b ∨ k = m) w w') :
    Tb w' b m (N + 1) (D.put (keyS s) (.held (.slice A' (f s ++ [pos]).length c'))) pos (upd f s (f s ++ [pos])) X := by
  have hbl := h.bx.lt
  have hml := h.mp.om.lt
  refine ⟨hbx, h.mp.put (by simp) hom hsl (fun k hk _ => ⟨⟨by omega, fun hx => by have := h.xs k hx; omega⟩, by omega⟩) hb (fun k _ h1 h2 h3 => h3.elim h1.1 h2), h.ne, fun k => ?_, fun k p hp => ?_, fun k => ?_, h.xb, h.xm, fun k hk => Nat.lt_of_lt_of_le (h.xs k hk) hb.size⟩
  · by_cases hk : k = s
    · subst hk
      rw [upd_same, List.pairwise_append]
      exact ⟨h.rise k, by simp, fun x hx y hy => by have := h.top k x hx; simp at hy; omega⟩
    · rw [upd_other _ _ hk]; exact h.rise k
  · by_cases hk : k = s
    · subst hk
      rw [upd_same] at hp
      rcases List.mem_append.1 hp with hp | hp
      · have := h.top k p hp; omega
      · simp at hp; omega
    · rw [upd_other _ _ hk] at hp; have := h.top k p hp; omega
  · by_cases hk : k = s
    · subst hk
      rw [upd_same]; have := h.len k; simp; omega
    · rw [upd_other _ _ hk]; have := h.len k; omega
end
end Go.Proofs.Ytfoghahidofegaa

namespace Go.Proofs.Ytfoghahidofegaa
open Go.RowKit Go.Maps Go.WideMaps Go.ChangeMaps

theorem flat_ones : ∀ l : List Int, (l.map (fun y => [Value.int .i64 y])).flatten = l.map (Value.int .i64)
  | [] => rfl
  | y :: ys => by rw [List.map_cons, List.flatten_cons, flat_ones ys]; rfl
/-- append(l[:len(l):len(l)], x): always a new row. -/
theorem run_append_full {P : Program} {W : World} (t ty e : TypeId) (ht : P.underlying t = some (.slice e)) (hinfo : (P.info? e).map (fun i => (i.zero, i.size, i.bytes)) = some (some (.int .i64 0), 1, 8))
    {ok : Nat → Prop} {A : Option Addr} {c : Nat} {l : List Int} (h : Sl (Kn.int .i64) ok W A c l) (h0 : l = [] → A = none) (x : Int) {B : Nat} {c2 : Nat} (hx : W.cell? ⟨B, 0, none⟩ = some (.int .i64 x)) (hl : l.length ≤ 1000000) :
    ∃ A' c' w', (Builtin.append_ #[t, t] ty #[.slice A l.length l.length, .slice (some ⟨B, 0, none⟩) 1 c2]).run P W = .ok (.slice A' (l ++ [x]).length c') w' ∧ Sl (Kn.int .i64) (fun k => W.heap.size ≤ k) w' A' c' (l ++ [x]) ∧ Below W.heap.size W w' := by
  obtain ⟨i0, hi, hzz⟩ := Option.map_eq_some_iff.1 hinfo
  simp only [Prod.mk.injEq] at hzz
  obtain ⟨hz0, hz1, hz2⟩ := hzz
  have hnews : ∀ (j : Nat) (u : Value), [Value.int .i64 x][j]? = some u → W.cell? ((⟨B, 0, none⟩ : Addr).add j) = some u := by
    intro j u hj
    match j, hj with
    | 0, hj => simp at hj; subst hj; exact hx
  have key : ∃ v' w', (Builtin.append_ #[t, t] ty #[.slice A l.length l.length, .slice (some ⟨B, 0, none⟩) 1 c2]).run P W = .ok v' w' ∧ w'.ownsRow W.heap.size e 1 v' (l.length + 1) (l.map (Value.int .i64) ++ [.int .i64 x]) ∧ W.grownBy w' none := by
    by_cases hn : l = []
    · subst hn
      obtain rfl := h0 rfl
      obtain ⟨v', w', h1, h2, h3, _⟩ := run_append_own_at (P := P) W W.heap.size t ty e i0 _ 1 8 ht hi hz0 hz1 hz2 rfl (by decide) (.slice none 0 0) 0 [] (World.ownsRow_nil _ _ _ _) ⟨B, 0, none⟩ 1 c2 [.int .i64 x] rfl hnews (by simp; rfl) (by simp [maxLen]) (by omega) (Nat.le_refl _)
      exact ⟨v', w', h1, h2, h3⟩
    · obtain ⟨ad, rfl, _, _, hc⟩ := h.2.2 (List.length_pos_iff.2 hn)
      exact run_append_arg_grows (P := P) W t ty e i0 _ 1 8 ht hi hz0 hz1 hz2 rfl (by decide) ad l.length l.length (l.map (Value.int .i64)) (by simp) (fun j u hj => by
        rw [List.getElem?_map] at hj
        obtain ⟨y, hy, rfl⟩ := Option.map_eq_some_iff.1 hj
        obtain ⟨cs, _, hk, hcc⟩ := hc j y hy
        have : cs = [.int .i64 y] := hk
        subst this
        have := hcc 0 _ rfl
        simpa [Kn.int, Kn.scalar] using this) ⟨B, 0, none⟩ 1 c2 [.int .i64 x] rfl hnews (by omega) (by simp [maxLen]; omega) (by omega)
  obtain ⟨v', w', h1, h2, h3⟩ := key
  have ho : Own (Kn.int .i64) e W.heap.size (fun _ => False) w' v' (l ++ [x]) := by
    refine ⟨(l ++ [x]).map (fun y => [Value.int .i64 y]), ?_, by simp, by simp; rintro _ (⟨y, _, rfl⟩ | rfl) <;> rfl, by simp; rintro _ (⟨y, _, rfl⟩ | rfl) u hu <;> (simp at hu; subst hu; rfl), fun j y hj => ⟨[.int .i64 y], by rw [List.getElem?_map, hj]; rfl, rfl⟩⟩
    have e1 : ((l ++ [x]).map (fun y => [Value.int .i64 y])).flatten = l.map (Value.int .i64) ++ [.int .i64 x] := by
      rw [List.map_append, List.flatten_append]
      congr 1
      exact flat_ones l
    rw [e1, show (l ++ [x]).length = l.length + 1 by simp]
    exact h2
  obtain ⟨A', c', rfl, hs⟩ := ho.sl
  exact ⟨A', c', w', h1, hs.mono (fun k hk => hk.elim False.elim id), ⟨h3.os, h3.tape, h3.output, h3.size, fun k hk => h3.block k hk (by simp)⟩⟩

/-- What m[k] = v turns, in two steps (the entry, then its value). -/
theorem Mp.steps {w : World} {ok : Nat → Prop} {m N : Nat} {D : DataW Value} {f : ByteArray → List Int} (h : Mp w ok m N D f) (hN : N ≤ 1000000) {t : TypeId} (ht : Try.prog.underlying t = some (.map 9 97)) {s : ByteArray} (hs : s.size ≤ maxLen) (val : Value) :
    ∃ (v0 : Value) (st : Nat) (w2 w3 : World), (Instr.mapEntry t (.map (some m)) (.string s)).run Try.prog w = .ok (.tuple #[v0, .int .i64 st]) w2 ∧ (Instr.entryStore t (.map (some m)) (.int .i64 st) val).run Try.prog w2 = .ok () w3 ∧
      (Instr.mapUpdate t (.map (some m)) (.string s) val).run Try.prog w = .ok () w3 ∧ w3.ownsMap Try.prog 9 RV m (N + 1) (D.put (keyS s) (.held val)) ∧ w.grownBy w3 (some m) := by
  obtain ⟨w', hrun, hom, hg⟩ := h.om.update (string_keyed Try.underlying9) ht (by unfold maxLen; omega) (val := val) (d := .held val) (ps := []) (keyOf_string_mk Try.underlying9 hs) rfl
  have hom0 := h.om
  obtain ⟨es, clock, hb, F, hsz, hD⟩ := hom0
  obtain ⟨v0, st, es1, clock1, h1, _, h3⟩ := WideElems.entry_then_store (string_law Try.underlying9) ht (z := .slice none 0 0) (fun u => zero_ints u) hb F (keyOf_string_mk Try.underlying9 hs)
  obtain ⟨es', clock', h4, h5⟩ := h3 (setBlock w m (.map es1 clock1)) val (heap_setBlock_same hb _)
  have e : w' = setBlock w m (.map es' clock') := by
    rw [hrun] at h5
    injection h5
  have e2 : setBlock (setBlock w m (.map es1 clock1)) m (.map es' clock') = w' := by rw [e]; simp [setBlock]
  refine ⟨v0, st, _, w', h1, ?_, hrun, hom, hg⟩
  rw [← e2]
  exact h4
end Go.Proofs.Ytfoghahidofegaa

namespace Go.Proofs.Ytfoghahidofegaa
open Go.RowKit

theorem isNaN1_any (x : Int) (w : World) : Calls Try.prog 82 #[.int .i64 x] w fun r w' => r = .returned (.bool false) ∧ w = w' := by
  go_enter Try.func82, Try.ntmps82
  go_wp2
  go_ret
  simp
theorem isNaN2_any (x : Int) (w : World) : Calls Try.prog 96 #[.int .i64 x] w fun r w' => r = .returned (.bool false) ∧ w = w' := by
  go_enter Try.func96, Try.ntmps96
  go_wp2
  go_ret
  simp
theorem less_any (x y : Int) (w : World) : Calls Try.prog 81 #[.int .i64 x, .int .i64 y] w fun r w' => r = .returned (.bool (decide (x < y))) ∧ w = w' := by
  go_enter Try.func81, Try.ntmps81
  go_wp2_with fail
  refine (isNaN2_any x _).mono ?_
  rintro r w' ⟨rfl, rfl⟩
  go_wp2
  go_ret
  exact ⟨rfl, rfl⟩

/-- Where x stands, or would stand, in a rising row. -/
structure Cut (l : List Int) (x : Int) (i j : Nat) : Prop where
  ij : i ≤ j
  jn : j ≤ l.length
  lo : ∀ k y, l[k]? = some y → k < i → y < x
  hi : ∀ k y, l[k]? = some y → j ≤ k → x ≤ y

theorem rise_at {l : List Int} (h : l.Pairwise (· < ·)) {i j : Nat} {y z : Int} (hi : l[i]? = some y) (hj : l[j]? = some z) (hij : i < j) : y < z := by
  obtain ⟨h1, rfl⟩ := List.getElem?_eq_some_iff.1 hi
  obtain ⟨h2, rfl⟩ := List.getElem?_eq_some_iff.1 hj
  exact List.pairwise_iff_getElem.1 h i j h1 h2 hij
theorem cut_lo {l : List Int} (h : l.Pairwise (· < ·)) {m k : Nat} {x y z : Int} (hm : l[m]? = some y) (hyx : y < x) (hk : l[k]? = some z) (hkm : k ≤ m) : z < x := by
  rcases Nat.lt_or_eq_of_le hkm with hlt | rfl
  · have := rise_at h hk hm hlt; omega
  · rw [hm] at hk; injection hk with hk; omega
theorem cut_hi {l : List Int} (h : l.Pairwise (· < ·)) {m k : Nat} {x y z : Int} (hm : l[m]? = some y) (hyx : ¬ y < x) (hk : l[k]? = some z) (hkm : m ≤ k) : x ≤ z := by
  rcases Nat.lt_or_eq_of_le hkm with hlt | rfl
  · have := rise_at h hm hk hlt; omega
  · rw [hm] at hk; injection hk with hk; omega

set_option maxHeartbeats 1000000 in
theorem bsearch_any {A : Option Addr} {c : Nat} {l : List Int} {ok : Nat → Prop} {w : World} (h : Sl (Kn.int .i64) ok w A c l) (hr : l.Pairwise (· < ·)) (hl : l.length ≤ 1000000) (x : Int) :
    Calls Try.prog 72 #[.slice A l.length c, .int .i64 x] w fun r w' => ∃ n : Nat, r = .returned (.tuple #[.int .i64 n, .bool (decide (l[n]? = some x))]) ∧ w = w' ∧ Cut l x n n := by
  have HR := Lib.hid hr
  clear hr
  have h1 := h.1
  have h2 := h.2.1
  unfold maxLen at h2
  go_enter Try.func72, Try.ntmps72
  go_wp2_with fail
  go_loop [7, 8] (fun i j => ∃ a b : Nat, i = .int .i64 a ∧ j = .int .i64 b ∧ Hid (Cut l x a b)) (fun i j => (intOf j - intOf i).toNat)
  case atStart => exact ⟨0, l.length, rfl, rfl, ⟨Nat.zero_le _, Nat.le_refl _, by simp, fun k y hk hn => by have := (List.getElem?_eq_some_iff.1 hk).1; omega⟩⟩
  case round =>
    obtain ⟨a, b, rfl, rfl, hc⟩ := hrel
    have hij := hc.out.ij
    have hjn := hc.out.jn
    by_cases hlt : a < b
    · go_upto_region 5 with fail
      obtain ⟨m, hm⟩ : ∃ m : Nat, m = (a + b) / 2 := ⟨_, rfl⟩
      have em : ((a : Int) + (b : Int)) / 2 = (m : Int) := by omega
      rw [em]
      have hml : m < l.length := by omega
      have ham : a ≤ m := by omega
      have hmb : m < b := by omega
      clear em hm
      obtain ⟨ad, rfl, hx⟩ := row_int_at h.2.2 hml
      have hye : l[m]? = some l[m] := List.getElem?_eq_getElem hml
      generalize l[m] = y at hx hye
      have HY := Lib.hid hye
      clear hye
      go_wp2_with fail
      refine (less_any y x _).mono ?_
      rintro r w' ⟨rfl, rfl⟩
      by_cases hyx : y < x
      · go_wp2
        go_round
        case rel => exact ⟨m + 1, b, by go_num, rfl, ⟨by omega, hjn, fun k z hk hn => cut_lo HR.out HY.out hyx hk (by omega), hc.out.hi⟩⟩
        case measure => simp [intOf]; omega
      · go_wp2
        go_round
        case rel => exact ⟨a, m, rfl, rfl, ⟨by omega, by omega, hc.out.lo, fun k z hk hn => cut_hi HR.out HY.out (by omega) hk hn⟩⟩
        case measure => simp [intOf]; omega
    · obtain rfl : a = b := by omega
      by_cases han : a < l.length
      · obtain ⟨ad, rfl, hx⟩ := row_int_at h.2.2 han
        have hye : l[a]? = some l[a] := List.getElem?_eq_getElem han
        generalize l[a] = y at hx hye
        have HY := Lib.hid hye
        clear hye
        by_cases hyx : y = x
        · subst hyx
          go_wp2
          go_ret2
          exact ⟨a, by rw [HY.out]; simp, rfl, hc.out⟩
        · go_wp2_with fail
          refine (isNaN1_any y _).mono ?_
          rintro r w' ⟨rfl, rfl⟩
          go_wp2
          go_ret2
          exact ⟨a, by rw [HY.out]; simp [hyx], rfl, hc.out⟩
      · go_wp2
        go_ret2
        have hnn : l[a]? = none := by rw [List.getElem?_eq_none_iff]; omega
        exact ⟨a, by rw [hnn]; simp, rfl, hc.out⟩
end Go.Proofs.Ytfoghahidofegaa

namespace Go.Proofs.Ytfoghahidofegaa
open Go.RowKit Go.Maps

/-- How many positions are at most x. -/
def upTo (l : List Int) (x : Int) : Nat := (l.filter (fun p => decide (p ≤ x))).length
theorem Cut.counts {l : List Int} {x : Int} {n : Nat} (h : Cut l x n n) (hr : l.Pairwise (· < ·)) : upTo l x = if l[n]? = some x then n + 1 else n := by
  have key : ∀ m : Nat, (∀ k y, l[k]? = some y → k < m → y ≤ x) → (∀ k y, l[k]? = some y → m ≤ k → x < y) → m ≤ l.length → upTo l x = m := by
    intro m hlo hhi hm
    unfold upTo
    have hs : l.filter (fun p => decide (p ≤ x)) = l.take m := by
      conv => lhs; rw [← List.take_append_drop m l]
      rw [List.filter_append]
      have h1 : (l.take m).filter (fun p => decide (p ≤ x)) = l.take m := by
        rw [List.filter_eq_self]
        intro y hy
        obtain ⟨k, hk⟩ := List.getElem?_of_mem hy
        rw [List.getElem?_take] at hk
        split at hk
        · simpa using hlo k y hk (by assumption)
        · cases hk
      have h2 : (l.drop m).filter (fun p => decide (p ≤ x)) = [] := by
        rw [List.filter_eq_nil_iff]
        intro y hy
        obtain ⟨k, hk⟩ := List.getElem?_of_mem hy
        rw [List.getElem?_drop] at hk
        have := hhi _ y hk (by omega)
        simp; omega
      rw [h1, h2, List.append_nil]
    rw [hs, List.length_take]
    omega
  split
  · rename_i hx
    refine key (n + 1) (fun k y hk hn => ?_) (fun k y hk hn => rise_at hr hx hk (by omega)) (by have := (List.getElem?_eq_some_iff.1 hx).1; omega)
    rcases Nat.lt_or_ge k n with hlt | hge
    · have := h.lo k y hk hlt; omega
    · obtain rfl : k = n := by omega
      rw [hx] at hk; injection hk with hk; omega
  · rename_i hx
    refine key n (fun k y hk hn => by have := h.lo k y hk hn; omega) (fun k y hk hn => ?_) h.jn
    have := h.hi k y hk hn
    rcases Nat.lt_or_eq_of_le hn with hlt | rfl
    · have hn' : n < l.length := by have := (List.getElem?_eq_some_iff.1 hk).1; omega
      have h1 := h.hi n _ (List.getElem?_eq_getElem hn') (Nat.le_refl _)
      have h2 := rise_at hr (List.getElem?_eq_getElem hn') hk hlt
      omega
    · have : y ≠ x := fun e => hx (by rw [hk, e])
      omega

set_option maxHeartbeats 1000000 in
theorem Version_any {w : World} {b m N : Nat} {D : DataW Value} {last : Int} {f : ByteArray → List Int} {X : Nat → Prop} (h : Tb w b m N D last f X) (hN : N ≤ 1000000) {s : ByteArray} (hs : s.size ≤ maxLen) (x : Int) :
    Calls Try.prog 65 #[.pointer (some ⟨b, 0, none⟩), .string s, .int .i64 x] w fun r w' => r = .returned (.int .i64 (upTo (f s) x)) ∧ w = w' := by
  obtain ⟨A, c, _, hl, hsl, _⟩ := h.mp.look Try.underlying108 hs
  have hb := h.bx.cell 1
  simp only [List.getElem?_cons_succ, List.getElem?_cons_zero] at hb
  have hlen := h.len s
  have HB := Lib.hid (bsearch_any hsl (h.rise s) (by omega) x)
  have HR := Lib.hid (h.rise s)
  have HN := Lib.hid hlen
  clear hlen hsl h
  go_enter Try.func65, Try.ntmps65
  go_wp2_with fail
  refine HB.out.mono ?_
  rintro r w' ⟨n, rfl, rfl, hc⟩
  have HC := Lib.hid (hc.counts HR.out)
  have hn := hc.jn
  have hn2 := HN.out
  clear hc
  by_cases hx : (f s)[n]? = some x
  · rw [if_pos hx] at HC
    have hd : decide ((f s)[n]? = some x) = true := by simp [hx]
    have HX := Lib.hid hx
    clear hx
    rw [hd]
    go_wp2
    go_ret
    exact ⟨by rw [HC.out]; go_num, rfl⟩
  · rw [if_neg hx] at HC
    have hd : decide ((f s)[n]? = some x) = false := by simp [hx]
    rw [hd]
    clear hx
    go_wp2
    go_ret
    exact ⟨by rw [HC.out]; rfl, rfl⟩
end Go.Proofs.Ytfoghahidofegaa

namespace Go.Proofs.Ytfoghahidofegaa
open Go.RowKit Go.Maps

theorem upTo_nil (x : Int) : upTo [] x = 0 := rfl
theorem upTo_cons (y : Int) (l : List Int) (x : Int) : upTo (y :: l) x = (if y ≤ x then 1 else 0) + upTo l x := by
  unfold upTo
  rw [List.filter_cons]
  by_cases h : y ≤ x
  · simp [h]; omega
  · simp [h]
theorem upTo_append (a b : List Int) (x : Int) : upTo (a ++ b) x = upTo a x + upTo b x := by simp [upTo, List.filter_append]
theorem upTo_none {l : List Int} {x : Int} (h : ∀ p ∈ l, x < p) : upTo l x = 0 := by
  unfold upTo
  rw [List.filter_eq_nil_iff.2 (fun p hp => by have := h p hp; simp; omega)]
  rfl
theorem upTo_all {l : List Int} {x : Int} (h : ∀ p ∈ l, p ≤ x) : upTo l x = l.length := by
  unfold upTo
  rw [List.filter_eq_self.2 (fun p hp => by simpa using h p hp)]
theorem upTo_iff : ∀ {l : List Int} (_ : l.Pairwise (· < ·)) (x : Int) {i : Nat} {y : Int}, l[i]? = some y → (y ≤ x ↔ i < upTo l x)
  | [], _, _, i, y, h => by simp at h
  | z :: l, hr, x, i, y, h => by
    rw [List.pairwise_cons] at hr
    rw [upTo_cons]
    match i, h with
    | 0, h =>
      simp at h
      subst h
      by_cases hz : z ≤ x
      · simp only [hz, if_true, true_iff]; omega
      · simp only [hz, if_false]
        rw [upTo_none (fun p hp => by have := hr.1 p hp; omega)]
        simp
    | i + 1, h =>
      have h' : l[i]? = some y := by simpa using h
      have ih := upTo_iff hr.2 x h'
      by_cases hz : z ≤ x
      · simp only [hz, if_true]; rw [ih]; omega
      · simp only [hz, if_false]
        rw [upTo_none (fun p hp => by have := hr.1 p hp; omega)]
        have := hr.1 y (List.mem_of_getElem? h')
        constructor <;> intro h <;> omega
theorem upTo_upd (f : ByteArray → List Int) (s k : ByteArray) {p x : Int} (h : x < p) : upTo (upd f s (f s ++ [p]) k) x = upTo (f k) x := by
  by_cases hk : k = s
  · subst hk
    rw [upd_same, upTo_append, upTo_none (l := [p]) (by simpa using h)]; rfl
  · rw [upd_other _ _ hk]

theorem take_upTo {l : List Int} (hr : l.Pairwise (· < ·)) (x : Int) : l.take (upTo l x) = l.filter (fun p => decide (p ≤ x)) := by
  induction l with
  | nil => rfl
  | cons y l ih =>
    rw [List.pairwise_cons] at hr
    rw [upTo_cons, List.filter_cons]
    by_cases h : y ≤ x
    · rw [if_pos h, if_pos (by simpa using h), Nat.add_comm, List.take_succ_cons, ih hr.2]
    · rw [if_neg h, if_neg (by simpa using h), Nat.zero_add, ← ih hr.2, upTo_none (fun p hp => by have := hr.1 p hp; omega)]
      rfl

end Go.Proofs.Ytfoghahidofegaa

namespace Go.Proofs.Ytfoghahidofegaa
open Go.RowKit Go.Maps

set_option maxHeartbeats 1000000 in
theorem cloneInts_any {A : Option Addr} {c : Nat} {l : List Int} {w : World} (h : Sl (Kn.int .i64) (fun _ => True) w A c l) (hl : l.length ≤ 1000000) :
    Calls Try.prog 69 #[.slice A l.length c] w fun r w' => ∃ A' c', r = .returned (.slice A' l.length c') ∧ Sl (Kn.int .i64) (fun k => w.heap.size ≤ k) w' A' c' l ∧ Below w.heap.size w w' := by
  have HO := Lib.hid (Own.lit0 (Kn.int .i64) 3 w.heap.size (fun k => k < w.heap.size) w (Nat.le_refl _))
  have HR := Lib.hid (show Row (Kn.int .i64) (fun k => k < w.heap.size ∧ some k ≠ (Value.slice (some ⟨w.heap.size, 0, none⟩) 0 0).ownBlock) (w.alloc (.cells #[] 3)) A l from
    (h.2.2.bound.below ((Below.refl _ _).alloc (Nat.le_refl _) _)).mono (fun k hk => ⟨hk.2, fun e1 => by have h2 := hk.2; simp [Value.ownBlock] at e1; omega⟩))
  have h3 := h.2.2
  cases A with
  | none =>
    have hn : l = [] := by
      cases l with
      | nil => rfl
      | cons y ys => obtain ⟨ad, e1, _⟩ := h3 (by simp); cases e1
    subst hn
    have hq := fun W => Lib.run_eql_slice_nil (P := Try.prog) W 97 _ none 0 c 0 0 Try.underlying97
    go_enter Try.func69, Try.ntmps69
    go_wp2_with fail
    go_ret
    exact ⟨none, 0, rfl, Sl.nil_, Below.refl _ _⟩
  | some ad =>
    clear h h3
    have hq := fun W => Lib.run_eql_slice_nil (P := Try.prog) W 97 _ (some ad) l.length c 0 0 Try.underlying97
    go_enter Try.func69, Try.ntmps69
    go_wp2_with (at_builtin; refine wpList_spread rfl _ _ _ rfl 3 _ 1 8 Try.underlying97 infoInt rfl (by decide) (by decide) rfl w.heap.size (fun k => k < w.heap.size) _ [] rfl HO.out l (some ad) c HR.out rfl (by simp) (by simp; omega) ?_; intro v1 w1 hown1 hg1 hat1 hbel1; have HO1 := Lib.hid (show Own (Kn.int .i64) 3 w.heap.size (fun _ => False) w1 v1 l from hown1); have HB1 := Lib.hid (hbel1 w ((Below.refl _ _).alloc (Nat.le_refl _) _)); clear hown1 hg1 hat1 hbel1)
    obtain ⟨A', c', rfl, hs⟩ := HO1.out.sl
    go_wp2
    go_ret
    exact ⟨A', c', rfl, hs.mono (fun k hk => hk.elim False.elim id), HB1.out⟩

theorem upTo_le (l : List Int) (x : Int) : upTo l x ≤ l.length := List.length_filter_le _ _
set_option maxHeartbeats 1000000 in
theorem Positions_any {w : World} {b m N : Nat} {D : DataW Value} {last : Int} {f : ByteArray → List Int} {X : Nat → Prop} (h : Tb w b m N D last f X) (hN : N ≤ 900000) {s : ByteArray} (hs : s.size ≤ maxLen) (x : Int) :
    Calls Try.prog 52 #[.pointer (some ⟨b, 0, none⟩), .string s, .int .i64 x] w fun r w' =>
      ∃ A' c', r = .returned (.slice A' ((f s).take (upTo (f s) x)).length c') ∧ Sl (Kn.int .i64) (fun k => w.heap.size ≤ k) w' A' c' ((f s).take (upTo (f s) x)) ∧ Below w.heap.size w w' := by
  obtain ⟨A, c, hat, _, hsl, _⟩ := h.mp.look Try.underlying108 hs
  have hlen := h.len s
  have hc1 := hsl.1
  have hc2 := hsl.2.1
  unfold maxLen at hc2
  have HV := Lib.hid (fun W (hW : Below w.heap.size w W) => Version_any (h.below hW) (by omega) hs x)
  have hul := upTo_le (f s) x
  have HT := Lib.hid (fun W (hW : Below w.heap.size w W) => cloneInts_any (l := (f s).take (upTo (f s) x)) ((hsl.below hW).any.take _) (by rw [List.length_take]; omega))
  have hlt : ((f s).take (upTo (f s) x)).length = upTo (f s) x := by rw [List.length_take]; omega
  rw [hlt] at HT ⊢
  generalize hne : upTo (f s) x = n at *
  have HK : Hid (∀ W, Below w.heap.size w W → Below w.heap.size w W ∧ W.cell? ⟨b, 1, none⟩ = some (.map (some m)) ∧ (Instr.lookup 108 (.map (some m)) (.string s) false).run Try.prog W = .ok (.slice A (f s).length c) W) :=
    Lib.hid (fun W hW => ⟨hW, (h.bx.under hW).cell 1, (h.below hW).mp.look_at Try.underlying108 hs hat⟩)
  have C1 : Hid (∀ W, Below w.heap.size w W ∧ W.cell? ⟨b, 1, none⟩ = some (.map (some m)) ∧ (Instr.lookup 108 (.map (some m)) (.string s) false).run Try.prog W = .ok (.slice A (f s).length c) W → Calls Try.prog 65 #[.pointer (some ⟨b, 0, none⟩), .string s, .int .i64 x] W fun r w' => r = .returned (.int .i64 n) ∧ W = w') := Lib.hid (fun W hW => HV.out W hW.1)
  have C2 : Hid (∀ W, Below w.heap.size w W ∧ W.cell? ⟨b, 1, none⟩ = some (.map (some m)) ∧ (Instr.lookup 108 (.map (some m)) (.string s) false).run Try.prog W = .ok (.slice A (f s).length c) W → Calls Try.prog 69 #[.slice A n c] W fun r w' => (∃ A' c', r = .returned (.slice A' n c') ∧ Sl (Kn.int .i64) (fun k => W.heap.size ≤ k) w' A' c' ((f s).take n)) ∧ Below W.heap.size W w') :=
    Lib.hid (fun W hW => (HT.out W hW.1).mono (fun r w' ⟨A', c', h1, h2, h3⟩ => ⟨⟨A', c', h1, h2⟩, h3⟩))
  have hz1 : (0 : Int) ≤ (n : Int) := Int.natCast_nonneg n
  have hz2 : (n : Int) ≤ (c : Int) := by omega
  have hz3 : n ≤ c := by omega
  clear HV HT h hsl
  go_enter Try.func52, Try.ntmps52
  go_wp2_with fail
  go_region_held3 (fun W => Below w.heap.size w W ∧ W.cell? ⟨b, 1, none⟩ = some (.map (some m)) ∧ (Instr.lookup 108 (.map (some m)) (.string s) false).run Try.prog W = .ok (.slice A (f s).length c) W) (first | exact HK.out _ (below_drawn (Below.refl _ _)) | (assumption) | exact HK.out _ (bthen (And.left (by assumption : Below w.heap.size w _ ∧ _)) (by assumption))) (first | (go_at_call 65; refine (C1.out _ (by assumption)).mono ?_; rintro r w' ⟨rfl, rfl⟩) | (go_at_call 69; refine (C2.out _ (by assumption)).mono ?_; rintro r w' ⟨⟨A', c', rfl, hsl'⟩, hb⟩; have HSL := Lib.hid hsl'; clear hsl'))
  all_goals go_wp2
  all_goals go_ret
  all_goals exact ⟨A', c', rfl, HSL.out.mono (fun k hk => hk), And.left (by assumption : Below w.heap.size w w' ∧ _)⟩
end Go.Proofs.Ytfoghahidofegaa

namespace Go.Proofs.Ytfoghahidofegaa
open Go.RowKit Go.Maps Go.WideMaps Go.ChangeMaps

section
variable {P : Program} {ops : Array Oper} {o : Oper} {a : Act} {Q : Exit → Act → World → Prop}
/-- 'append(l[:len(l):len(l)], x)' at a step of a region that draws. -/
theorem step_full {W : World} {K : Act → World → Prop} {E : Prop} (hgd : o.guard = none) (s x : Operand) (t : TypeId)
    (ho : o.op = .call { callee := .builtin .append, args := #[s, x], argTypes := #[t, t] })
    (e : TypeId) (ht : P.underlying t = some (.slice e)) (hinfo : (P.info? e).map (fun i => (i.zero, i.size, i.bytes)) = some (some (.int .i64 0), 1, 8))
    {ok : Nat → Prop} {A : Option Addr} {c : Nat} {l : List Int} (h : Sl (Kn.int .i64) ok W A c l) (h0 : l = [] → A = none) (y : Int) (B c2 : Nat) (hs : a.eval s = .slice A l.length l.length) (hx : a.eval x = .slice (some ⟨B, 0, none⟩) 1 c2)
    (hc : W.cell? ⟨B, 0, none⟩ = some (.int .i64 y)) (hl : l.length ≤ 1000000)
    (hK : ∀ A' c' w1, Sl (Kn.int .i64) (fun k => W.heap.size ≤ k) w1 A' c' (l ++ [y]) → Below W.heap.size W w1 → K (a.put o.dst (.slice A' (l.length + 1) c')) w1) :
    if Region.wanted o (yielded ops a.tmps) = true then Oper.wp P o a W K Q else E := by
  have hw : Region.wanted o (yielded ops a.tmps) = true := by simp [Region.wanted, hgd]
  rw [if_pos hw]
  obtain ⟨A', c', w1, hr, h1, h2⟩ := run_append_full (P := P) t o.type e ht hinfo h h0 y (c2 := c2) hc hl
  rw [show (l ++ [y]).length = l.length + 1 by simp] at hr
  unfold Oper.wp execOp
  simp only [ho, resolve, invoke, builtin, Sem.run_bind, Sem.run_pure, Result.andThen_ok, List.map_toArray, List.map_cons, List.map_nil, hs, hx]
  rw [hr]
  simp only [Result.andThen_ok]
  exact hK A' c' w1 h1 h2
end

theorem But.grown {S : Nat → Prop} {w w' : World} {row : Option Nat} (h : w.grownBy w' row) (hS : ∀ k, row = some k → S k) : But S w w' :=
  ⟨h.os, h.tape, h.output, h.size, fun k hk hn => h.block k hk (fun e => hn (hS k e.symm))⟩
theorem But.setCell {S : Nat → Prop} (w : World) {p : Addr} (hp : S p.block) (u : Value) : But S w (w.setCell p u) :=
  ⟨rfl, rfl, rfl, by simp [World.setCell], fun k _ hn => heap_setCell_other w p k u (fun e => hn (e ▸ hp))⟩
theorem Tb.finish {w w1 w3 : World} {b m N : Nat} {D : DataW Value} {last : Int} {f : ByteArray → List Int} {X : Nat → Prop} (h : Tb w b m N D last f X) {s : ByteArray} {pos : Int} (hlt : last < pos) {A' : Option Addr} {c' H : Nat} (hb : Below w.heap.size w w1)
    (hsl : Sl (Kn.int .i64) (fun k => H ≤ k) w1 A' c' (f s ++ [pos])) (hH : w.heap.size ≤ H) (hom : w3.ownsMap Try.prog 9 RV m (N + 1) (D.put (keyS s) (.held (.slice A' ((f s).length + 1) c')))) (hg : w1.grownBy w3 (some m))
    (hx : Bx w3 b 110 [.int .i64 last, .map (some m)]) :
    ∃ D', Tb (w3.setCell ⟨b, 0, none⟩ (.int .i64 pos)) b m (N + 1) D' pos (upd f s (f s ++ [pos])) X ∧ But (fun k => k = b ∨ k = m) w (w3.setCell ⟨b, 0, none⟩ (.int .i64 pos)) := by
  have hbut : But (fun k => k = b ∨ k = m) w (w3.setCell ⟨b, 0, none⟩ (.int .i64 pos)) :=
    ((But.of_below hb).trans (But.grown hg (fun k e => .inr (Option.some.inj e).symm))).trans (But.setCell _ (.inl rfl) _)
  rw [show (f s).length + 1 = (f s ++ [pos]).length by simp] at hom
  refine ⟨_, h.added hlt (hx.set 0 _) (hom.setCell (fun e => h.ne e.symm) _) ?_ hbut, hbut⟩
  have hbl := h.bx.lt
  have hml := h.mp.om.lt
  exact ((hsl.grown hg (fun k hk e => by have := Option.some.inj e; omega)).setCell (fun k hk e => by simp at e; omega) _).mono (fun k hk => by omega)

set_option maxHeartbeats 1000000 in
theorem Add_any {w : World} {b m N : Nat} {D : DataW Value} {last : Int} {f : ByteArray → List Int} {X : Nat → Prop} (h : Tb w b m N D last f X) (hN : N ≤ 900000) {s : ByteArray} (hs : s.size ≤ maxLen) (pos : Int) :
    Calls Try.prog 46 #[.pointer (some ⟨b, 0, none⟩), .string s, .int .i64 pos] w fun r w' =>
      (pos ≤ last → r = .returned (.tuple #[.int .i64 0, .int .i64 1]) ∧ w = w') ∧
      (last < pos → ∃ D', r = .returned (.tuple #[.int .i64 ((f s).length + 1), .int .i64 0]) ∧ Tb w' b m (N + 1) D' pos (upd f s (f s ++ [pos])) X ∧ But (fun k => k = b ∨ k = m) w w') := by
  obtain ⟨A, c, _, hl, hsl, hnil⟩ := h.mp.look Try.underlying108 hs
  have hb0 := h.bx.cell 0
  have hb1 := h.bx.cell 1
  simp only [List.getElem?_cons_succ, List.getElem?_cons_zero] at hb0 hb1
  have hf0 := h.bx.free 0
  have hlen := h.len s
  have hc1 := hsl.1
  have hc2 := hsl.2.1
  unfold maxLen at hc2
  go_enter Try.func46, Try.ntmps46
  by_cases hp : pos ≤ last
  · go_wp2_with fail
    go_ret2
    exact ⟨fun _ => ⟨rfl, rfl⟩, fun h => absurd h (by omega)⟩
  · go_wp2_with fail
    have hbl := h.bx.lt
    have hW : Below w.heap.size w (w.alloc (.cells #[.int .i64 pos] 3)).drew := below_drawn ((Below.refl _ _).alloc (Nat.le_refl _) _)
    have HC := Lib.hid (show World.cell? (w.alloc (.cells #[.int .i64 pos] 3)).drew ⟨w.heap.size, 0, none⟩ = some (.int .i64 pos) from (Bx.new w 3 [.int .i64 pos]).c0)
    have HSL := Lib.hid (hsl.below hW)
    go_region_law (refine step_full (W := (w.alloc (.cells #[.int .i64 pos] 3)).drew) rfl _ _ _ rfl 3 Try.underlying97 infoInt HSL.out hnil pos w.heap.size 1 rfl rfl HC.out (by omega) ?_; intro A' c' w1 hs1 hb1; have HB := Lib.hid (show Below w.heap.size w w1 from bthen hW hb1); have HS := Lib.hid hs1; clear hs1 hb1; obtain ⟨v0, st, w2, w3, hm1, hm2, _, hm3, hm4⟩ := Mp.steps (h.mp.stay (But.of_below (S := fun _ => False) HB.out) (fun _ _ _ h => h)) (by omega) Try.underlying108 hs (.slice A' ((f s).length + 1) c'); have HM := Lib.hid hm3; have HG := Lib.hid hm4; clear hm3 hm4; have hx0 : Bx w3 b 110 [.int .i64 last, .map (some m)] := (h.bx.under HB.out).grown HG.out (fun e => h.ne (Option.some.inj e)); have hc0 := hx0.c0; have hq1 : w1.cell? ⟨b, 1, none⟩ = some (.map (some m)) := (h.bx.under HB.out).cell 1; have hf3 := hx0.free 0)
    all_goals
      go_wp2
      go_ret2
      refine ⟨fun h => absurd h (by omega), fun _ => ?_⟩
      obtain ⟨D', h1, h2⟩ := h.finish hp HB.out HS.out (by simp) HM.out HG.out hx0
      exact ⟨D', rfl, h1, h2⟩
end Go.Proofs.Ytfoghahidofegaa

namespace Go.Proofs.Ytfoghahidofegaa
open Go.RowKit Go.Maps Go.WideMaps Go.ChangeMaps

theorem New_any (w : World) : Calls Try.prog 43 #[] w fun r w' => ∃ b m D, r = .returned (.pointer (some ⟨b, 0, none⟩)) ∧ Tb w' b m 0 D 0 (fun _ => []) (fun _ => False) ∧ Below w.heap.size w w' ∧ w.heap.size ≤ b ∧ w.heap.size ≤ m := by
  have hmm := @run_makeMap Try.prog
  go_enter Try.func43, Try.ntmps43
  go_wp2

  go_ret
  refine ⟨w.heap.size + 1, w.heap.size, .map [], rfl, ⟨?_, ⟨?_, fun s => ⟨none, 0, ?_, Sl.nil_⟩, fun s => ?_⟩, by omega, fun _ => List.Pairwise.nil, fun _ p hp => by simp at hp, fun _ => Nat.zero_le _, fun h => h, fun h => h, fun _ h => h.elim⟩, ((Below.refl _ _).alloc (Nat.le_refl _) _).alloc (by simp) _, by omega, Nat.le_refl _⟩
  · have := Bx.new (w.alloc (.map #[] 0)) 110 [.int .i64 0, .map (some w.heap.size)]
    rwa [show (w.alloc (.map #[] 0)).heap.size = w.heap.size + 1 by simp] at this
  · exact (World.ownsMap_made w _ _ _).alloc _
  · simp [DataW.atKey]
  · simp [Maps.has]
end Go.Proofs.Ytfoghahidofegaa
