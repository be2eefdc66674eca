/- streams.Table: its state as Lean data. Own work. -/
import Derived.Test.YteahpkihkfkpfaaBox
import Derived.Test.YteahpkihkfkpfaaProg
import Derived.Maps.OwnSet
import Derived.Maps.Views
set_option linter.unusedVariables false
set_option linter.unusedSimpArgs false
namespace Go.Proofs.Yteahpkihkfkpfaa
open Go.RowKit Go.Maps Go.WideMaps Go.ChangeMaps

/-- All blocks but some stay. -/
structure But (S : Nat → Prop) (w w' : World) : Prop where
  os : w'.os = w.os
  tape : w'.tape = w.tape
  output : w'.output = w.output
  size : w.heap.size ≤ w'.heap.size
  block : ∀ k, k < w.heap.size → ¬ S k → w'.heap[k]? = w.heap[k]?
theorem But.refl (S : Nat → Prop) (w : World) : But S w w := ⟨rfl, rfl, rfl, Nat.le_refl _, fun _ _ _ => rfl⟩
theorem But.trans {S : Nat → Prop} {a b c : World} (h : But S a b) (k : But S b c) : But S a c :=
  ⟨k.os.trans h.os, k.tape.trans h.tape, k.output.trans h.output, Nat.le_trans h.size k.size, fun i hi hn => (k.block i (Nat.lt_of_lt_of_le hi h.size) hn).trans (h.block i hi hn)⟩
theorem But.of_below {S : Nat → Prop} {a b : World} (h : Below a.heap.size a b) : But S a b := ⟨h.os, h.tape, h.output, h.size, fun k hk _ => h.block k hk⟩
theorem But.below {S : Nat → Prop} {B : Nat} {w0 a b : World} (h : But S a b) (h0 : Below B w0 a) (hB : B ≤ a.heap.size) (hS : ∀ k, S k → B ≤ k) : Below B w0 b :=
  ⟨h.os.trans h0.os, h.tape.trans h0.tape, h.output.trans h0.output, Nat.le_trans h0.size h.size, fun k hk => (h.block k (by omega) (fun hs => by have := hS k hs; omega)).trans (h0.block k hk)⟩

abbrev RV : Value → Option (DataW Value × List MemPlace) := fun v => some (.held v, [])
abbrev keyS (s : ByteArray) : Lit := .string s.data.toList
/-- A map of rows of positions, in block m: what its rows hang on is ok. -/
structure Mp (w : World) (ok : Nat → Prop) (m N : Nat) (D : DataW Value) (f : ByteArray → List Int) : Prop where
  om : w.ownsMap Try.prog 9 RV m N D
  row : ∀ s, ∃ A c, D.atKey (keyS s) (.held (.slice none 0 0)) = .held (.slice A (f s).length c) ∧ Sl (Kn.int .i64) (fun k => ok k ∧ k ≠ m ∧ k < w.heap.size) w A c (f s)
  has : ∀ s, Maps.has D (keyS s) = true ↔ f s ≠ []
theorem Mp.stay {w w' : World} {ok : Nat → Prop} {m N : Nat} {D : DataW Value} {f : ByteArray → List Int} (h : Mp w ok m N D f) {S : Nat → Prop} (hb : But S w w') (hS : ∀ k, k < w.heap.size → (ok k ∨ k = m) → ¬ S k) : Mp w' ok m N D f := by
  refine ⟨?_, fun s => ?_, h.has⟩
  · obtain ⟨es, clock, hh, r⟩ := h.om
    exact ⟨es, clock, (hb.block m h.om.lt (hS m h.om.lt (.inr rfl))).trans hh, r⟩
  · obtain ⟨A, c, h1, h2⟩ := h.row s
    exact ⟨A, c, h1, (h2.stay hb.size (fun k hk hl => hb.block k hl (hS k hl (.inl hk.1)))).mono (fun k hk => ⟨hk.1, hk.2.1, by have := hb.size; omega⟩)⟩
theorem zero_ints (w : World) : (zeroValue 30).run Try.prog w = .ok (.slice none 0 0) w := by kernel_rfl
/-- What the map gives at a key. -/
theorem Mp.look_at {w : World} {ok : Nat → Prop} {m N : Nat} {D : DataW Value} {f : ByteArray → List Int} (h : Mp w ok m N D f) {t : TypeId} (ht : Try.prog.underlying t = some (.map 9 30)) {s : ByteArray} (hs : s.size ≤ maxLen) {u : Value} (hu : D.atKey (keyS s) (.held (.slice none 0 0)) = .held u) :
    (Instr.lookup t (.map (some m)) (.string s) false).run Try.prog w = .ok u w := by
  obtain ⟨v, ps, hrun, hv⟩ := h.om.lookup (string_keyed Try.underlying9) ht (zero_ints w) (zd := .held (.slice none 0 0)) (zp := []) rfl (keyOf_string_mk Try.underlying9 hs)
  simp only [RV, Option.some.injEq, Prod.mk.injEq] at hv
  have hu2 : DataW.held v = .held u := hv.1.trans hu
  have e : v = u := DataW.held.inj hu2
  rw [← e]
  exact hrun
theorem Mp.look {w : World} {ok : Nat → Prop} {m N : Nat} {D : DataW Value} {f : ByteArray → List Int} (h : Mp w ok m N D f) {t : TypeId} (ht : Try.prog.underlying t = some (.map 9 30)) {s : ByteArray} (hs : s.size ≤ maxLen) :
    ∃ A c, D.atKey (keyS s) (.held (.slice none 0 0)) = .held (.slice A (f s).length c) ∧ (Instr.lookup t (.map (some m)) (.string s) false).run Try.prog w = .ok (.slice A (f s).length c) w ∧ Sl (Kn.int .i64) (fun k => ok k ∧ k ≠ m ∧ k < w.heap.size) w A c (f s) ∧ (f s = [] → A = none) := by
  obtain ⟨A, c, h1, h2⟩ := h.row s
  refine ⟨A, c, h1, h.look_at ht hs h1, h2, fun hn => ?_⟩
  have hh : Maps.has D (keyS s) = false := by
    cases hq : Maps.has D (keyS s) with
    | false => rfl
    | true => exact absurd hn ((h.has s).1 hq)
  rw [atKey_of_not_has hh] at h1
  have h3 := DataW.held.inj h1
  exact (Value.slice.inj h3).1.symm
def upd (f : ByteArray → List Int) (s : ByteArray) (l : List Int) : ByteArray → List Int := fun k => if k = s then l else f k
theorem upd_same (f : ByteArray → List Int) (s : ByteArray) (l : List Int) : upd f s l s = l := if_pos rfl
theorem upd_other (f : ByteArray → List Int) {s k : ByteArray} (l : List Int) (h : k ≠ s) : upd f s l k = f k := if_neg h
theorem keyS_ne {s k : ByteArray} (h : k ≠ s) : keyS k ≠ keyS s := fun e => by
  injection e with e
  exact h (ByteArray.ext (Array.ext' e))
theorem Mp.put {w w' : World} {ok : Nat → Prop} {m N N' : Nat} {D : DataW Value} {f : ByteArray → List Int} (h : Mp w ok m N D f) {s : ByteArray} {l : List Int} (hl : l ≠ []) {A' : Option Addr} {c' : Nat}
    (hom : w'.ownsMap Try.prog 9 RV m N' (D.put (keyS s) (.held (.slice A' l.length c')))) {ok2 : Nat → Prop}
    (hsl : Sl (Kn.int .i64) ok2 w' A' c' l) (hok : ∀ k, ok2 k → k < w'.heap.size → ok k ∧ k ≠ m) {S : Nat → Prop} (hb : But S w w') (hS : ∀ k, k < w.heap.size → ok k → k ≠ m → ¬ S k) :
    Mp w' ok m N' (D.put (keyS s) (.held (.slice A' l.length c'))) (upd f s l) := by
  refine ⟨hom, fun k => ?_, fun k => ?_⟩
  · by_cases hk : k = s
    · subst hk
      rw [upd_same]
      exact ⟨A', c', atKey_put_same h.om.isMap (by trivial) _ _, hsl.bound.mono (fun i hi => ⟨(hok i hi.1 hi.2).1, (hok i hi.1 hi.2).2, hi.2⟩)⟩
    · rw [upd_other _ _ hk]
      obtain ⟨A, c, h1, h2⟩ := h.row k
      exact ⟨A, c, (atKey_put_other (keyS_ne hk) _ _).trans h1, (h2.stay hb.size (fun i hi hlt => hb.block i hlt (hS i hlt hi.1 hi.2.1))).mono (fun i hi => ⟨hi.1, hi.2.1, by have := hb.size; omega⟩)⟩
  · by_cases hk : k = s
    · subst hk
      rw [upd_same, has_put_same h.om.isMap (by trivial)]
      simp [hl]
    · rw [upd_other _ _ hk, has_put_other (keyS_ne hk)]
      exact h.has k

/-- A table in block b, its map in block m; its rows hang on no block of X (blocks of other tables). -/
structure Tb (w : World) (b m N : Nat) (D : DataW Value) (last : Int) (f : ByteArray → List Int) (X : Nat → Prop) : Prop where
  bx : Bx w b 79 [.int .i64 last, .map (some m)]
  mp : Mp w (fun k => k ≠ b ∧ ¬ X k) m N D f
  ne : b ≠ m
  rise : ∀ s, (f s).Pairwise (· < ·)
  top : ∀ s, ∀ p ∈ f s, p ≤ last
  len : ∀ s, (f s).length ≤ N
  xb : ¬ X b
  xm : ¬ X m
  xs : ∀ k, X k → k < w.heap.size
section
variable {w w' : World} {b m N : Nat} {D : DataW Value} {last : Int} {f : ByteArray → List Int} {X Y : Nat → Prop}
/-- Blocks of X alone turn. -/
theorem Tb.far (h : Tb w b m N D last f X) (hb : But X w w') : Tb w' b m N D last f X :=
  ⟨h.bx.stay (fun hk => hb.block _ hk h.xb), h.mp.stay hb (fun k _ hk hx => hk.elim (fun h1 => h1.2 hx) (fun e => h.xm (e ▸ hx))), h.ne, h.rise, h.top, h.len, h.xb, h.xm, fun k hk => Nat.lt_of_lt_of_le (h.xs k hk) hb.size⟩
theorem Tb.below (h : Tb w b m N D last f X) (hb : Below w.heap.size w w') : Tb w' b m N D last f X := h.far (But.of_below hb)
/-- New blocks are fenced off. -/
theorem Tb.fence (h : Tb w b m N D last f X) (hb : Below w.heap.size w w') (hY : ∀ k, Y k → X k ∨ (w.heap.size ≤ k ∧ k < w'.heap.size)) : Tb w' b m N D last f Y := by
  have hbl := h.bx.lt
  have hml := h.mp.om.lt
  refine ⟨h.bx.under hb, ⟨(h.mp.stay (But.of_below (S := fun _ => False) hb) (fun _ _ _ h => h)).om, fun s => ?_, h.mp.has⟩, h.ne, h.rise, h.top, h.len, fun hx => (hY _ hx).elim h.xb (fun h => by omega), fun hx => (hY _ hx).elim h.xm (fun h => by omega), fun k hk => (hY k hk).elim (fun h1 => Nat.lt_of_lt_of_le (h.xs k h1) hb.size) (fun h => h.2)⟩
  obtain ⟨A, c, h1, h2⟩ := h.mp.row s
  exact ⟨A, c, h1, (h2.below hb).mono (fun k hk => ⟨⟨hk.1.1, fun hx => (hY _ hx).elim hk.1.2 (fun h => by omega)⟩, hk.2.1, by have := hb.size; omega⟩)⟩
theorem Tb.less (h : Tb w b m N D last f X) (hY : ∀ k, Y k → X k) : Tb w b m N D last f Y := h.fence (Below.refl _ _) (fun k hk => .inl (hY k hk))
/-- A copy: the same rows, another box and map. -/
theorem Tb.copy (h : Tb w b m N D last f X) (hb : Below w.heap.size w w') {b2 m2 : Nat} (hb2 : w.heap.size ≤ b2) (hm2 : w.heap.size ≤ m2) (hne : b2 ≠ m2) (hbx : Bx w' b2 79 [.int .i64 last, .map (some m2)]) (hom : w'.ownsMap Try.prog 9 RV m2 N D) :
    Tb w' b2 m2 N D last f (fun k => k = b ∨ k = m ∨ X k) := by
  have hbl := h.bx.lt
  have hml := h.mp.om.lt
  have hx := h.xs
  refine ⟨hbx, ⟨hom, fun s => ?_, h.mp.has⟩, hne, h.rise, h.top, h.len, ?_, ?_, fun k hk => ?_⟩
  · obtain ⟨A, c, h1, h2⟩ := h.mp.row s
    exact ⟨A, c, h1, (h2.below hb).mono (fun k hk => ⟨⟨by omega, fun h => h.elim hk.1.1 (fun h => h.elim hk.2.1 hk.1.2)⟩, by omega, by have := hb.size; omega⟩)⟩
  · rintro (h | h | h)
    · omega
    · omega
    · have := hx _ h; omega
  · rintro (h | h | h)
    · omega
    · omega
    · have := hx _ h; omega
  · have := hb.size
    rcases hk with rfl | rfl | h
    · omega
    · omega
    · have := hx _ h; omega
theorem Tb.added (h : Tb w b m N D last f X) {s : ByteArray} {pos : Int} (hlt : last < pos) {A' : Option Addr} {c' : Nat}
    (hbx : Bx w' b 79 [.int .i64 pos, .map (some m)]) (hom : w'.ownsMap Try.prog 9 RV m (N + 1) (D.put (keyS s) (.held (.slice A' (f s ++ [pos]).length c'))))
    (hsl : Sl (Kn.int .i64) (fun k => w.heap.size ≤ k) w' A' c' (f s ++ [pos])) (hb : But (fun k => k = b ∨ k = m) w w') :
    Tb w' b m (N + 1) (D.put (keyS s) (.held (.slice A' (f s ++ [pos]).length c'))) pos (upd f s (f s ++ [pos])) X := by
  have hbl := h.bx.lt
  have hml := h.mp.om.lt
  refine ⟨hbx, h.mp.put (by simp) hom hsl (fun k hk _ => ⟨⟨by omega, fun hx => by have := h.xs k hx; omega⟩, by omega⟩) hb (fun k _ h1 h2 h3 => h3.elim h1.1 h2), h.ne, fun k => ?_, fun k p hp => ?_, fun k => ?_, h.xb, h.xm, fun k hk => Nat.lt_of_lt_of_le (h.xs k hk) hb.size⟩
  · by_cases hk : k = s
    · subst hk
      rw [upd_same, List.pairwise_append]
      exact ⟨h.rise k, by simp, fun x hx y hy => by have := h.top k x hx; simp at hy; omega⟩
    · rw [upd_other _ _ hk]; exact h.rise k
  · by_cases hk : k = s
    · subst hk
      rw [upd_same] at hp
      rcases List.mem_append.1 hp with hp | hp
      · have := h.top k p hp; omega
      · simp at hp; omega
    · rw [upd_other _ _ hk] at hp; have := h.top k p hp; omega
  · by_cases hk : k = s
    · subst hk
      rw [upd_same]; have := h.len k; simp; omega
    · rw [upd_other _ _ hk]; have := h.len k; omega
end
end Go.Proofs.Yteahpkihkfkpfaa
