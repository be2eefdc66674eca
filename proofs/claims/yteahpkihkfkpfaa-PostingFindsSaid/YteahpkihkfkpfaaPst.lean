/- posting.Lists: its state as Lean data; lists.add. -/
import Derived.Test.YteahpkihkfkpfaaLaw13s
import Derived.Test.YteahpkihkfkpfaaTabAdded
import Derived.Test.YteahpkihkfkpfaaTabPositions
import Derived.Test.YteahpkihkfkpfaaTabAdd
set_option linter.unusedVariables false
set_option linter.unusedSimpArgs false
namespace Go.Proofs.Yteahpkihkfkpfaa
open Go.RowKit Go.Maps

/-- A position behind a row, once. -/
def addP (l : List Int) (pos : Int) : List Int := if l.getLast? = some pos then l else l ++ [pos]
theorem upd_id (f : ByteArray → List Int) (s : ByteArray) : upd f s (f s) = f := by
  funext k
  by_cases h : k = s
  · subst h; exact upd_same _ _ _
  · exact upd_other _ _ h
theorem Mp.grow {w : World} {ok : Nat → Prop} {m N N' : Nat} {D : DataW Value} {f : ByteArray → List Int} (h : Mp w ok m N D f) (hN : N ≤ N') : Mp w ok m N' D f := ⟨h.om.mono hN, h.row, h.has⟩
theorem addFull {w w1 w3 : World} {ok : Nat → Prop} {m N : Nat} {D : DataW Value} {f : ByteArray → List Int} (h : Mp w ok m N D f) (hok : ∀ k, w.heap.size ≤ k → ok k) {s : ByteArray} {l : List Int} (hl : l ≠ []) {A' : Option Addr} {c' n : Nat} (hn : l.length = n)
    (hb : Below w.heap.size w w1) (hsl : Sl (Kn.int .i64) (fun k => w.heap.size ≤ k) w1 A' c' l) (hom : w3.ownsMap Try.prog 9 RV m (N + 1) (D.put (keyS s) (.held (.slice A' n c')))) (hg : w1.grownBy w3 (some m)) :
    Mp w3 ok m (N + 1) (D.put (keyS s) (.held (.slice A' n c'))) (upd f s l) ∧ But (fun k => k = m) w w3 := by
  subst hn
  have hml := h.om.lt
  have hbut : But (fun k => k = m) w w3 := (But.of_below hb).trans (But.grown hg (fun k e => (Option.some.inj e).symm))
  exact ⟨h.put hl hom (hsl.grown hg (fun k hk e => by have := Option.some.inj e; omega)) (fun k hk _ => ⟨hok k hk, by omega⟩) hbut (fun k _ _ h1 h2 => h1 h2), hbut⟩

section
variable {P : Program} {ops : Array Oper} {rest : List Oper} {o : Oper} {a : Act} {Q : Exit → Act → World → Prop}
/-- 'append(l[:len(l):len(l)], x)' at the operation. -/
theorem wpList_full {W : World} (hgd : o.guard = none) (s x : Operand) (t : TypeId)
    (ho : o.op = .call { callee := .builtin .append, args := #[s, x], argTypes := #[t, t] })
    (e : TypeId) (ht : P.underlying t = some (.slice e)) (hinfo : (P.info? e).map (fun i => (i.zero, i.size, i.bytes)) = some (some (.int .i64 0), 1, 8))
    {ok : Nat → Prop} {A : Option Addr} {c : Nat} {l : List Int} (h : Sl (Kn.int .i64) ok W A c l) (h0 : l = [] → A = none) (y : Int) (B c2 : Nat) (hs : a.eval s = .slice A l.length l.length) (hx : a.eval x = .slice (some ⟨B, 0, none⟩) 1 c2)
    (hc : W.cell? ⟨B, 0, none⟩ = some (.int .i64 y)) (hl : l.length ≤ 1000000)
    (hK : ∀ A' c' w1, Sl (Kn.int .i64) (fun k => W.heap.size ≤ k) w1 A' c' (l ++ [y]) → Below W.heap.size W w1 → wpList P ops Q rest (a.put o.dst (.slice A' (l.length + 1) c')) w1) :
    wpList P ops Q (o :: rest) a W := by
  obtain ⟨A', c', w1, hr, h1, h2⟩ := run_append_full (P := P) t o.type e ht hinfo h h0 y (c2 := c2) hc hl
  rw [show (l ++ [y]).length = l.length + 1 by simp] at hr
  refine wpList_plain hgd fun K hK' => ?_
  unfold Oper.wp execOp
  simp only [ho, resolve, invoke, builtin, Sem.run_bind, Sem.run_pure, Result.andThen_ok, List.map_toArray, List.map_cons, List.map_nil, hs, hx]
  rw [hr]
  simp only [Result.andThen_ok]
  exact hK' _ _ (hK A' c' w1 h1 h2)
end

set_option maxHeartbeats 1000000 in
theorem addL_any {w : World} {ok : Nat → Prop} {m N : Nat} {D : DataW Value} {f : ByteArray → List Int} (h : Mp w ok m N D f) (hok : ∀ k, w.heap.size ≤ k → ok k) (hN : N ≤ 900000) {s : ByteArray} (hs : s.size ≤ maxLen) (hlen : (f s).length ≤ 900000) (pos : Int) :
    Calls Try.prog 50 #[.map (some m), .string s, .int .i64 pos] w fun r w' => r = .returned (.tuple #[]) ∧ ∃ D', Mp w' ok m (N + 1) D' (upd f s (addP (f s) pos)) ∧ But (fun k => k = m) w w' := by
  obtain ⟨A, c, _, hl, hsl, hnil⟩ := h.look Try.underlying83 hs
  have HM := Lib.hid h
  have HSL := Lib.hid hsl
  have hc1 := hsl.1
  have hc2 := hsl.2.1
  have HN := Lib.hid hnil
  unfold maxLen at hc2
  have HOK := Lib.hid hok
  clear h hsl hnil hok
  have hfin : ∀ (h2 : ¬ (f s).getLast? = some pos), Hid (∀ (w1 w3 : World) (A' : Option Addr) (c' : Nat), Below w.heap.size w w1 → Sl (Kn.int .i64) (fun k => w.heap.size ≤ k) w1 A' c' (f s ++ [pos]) → w3.ownsMap Try.prog 9 RV m (N + 1) (D.put (keyS s) (.held (.slice A' ((f s).length + 1) c'))) → w1.grownBy w3 (some m) → ∃ D', Mp w3 ok m (N + 1) D' (upd f s (addP (f s) pos)) ∧ But (fun k => k = m) w w3) := fun h2 => Lib.hid (fun w1 w3 A' c' hb hsl hom hg => by
    have e : addP (f s) pos = f s ++ [pos] := if_neg h2
    rw [e]
    exact ⟨_, addFull HM.out HOK.out (by simp) (by simp) hb hsl hom hg⟩)
  go_enter Try.func50, Try.ntmps50
  have HA := Lib.hid (show Below w.heap.size w (w.alloc (.cells #[.int .i64 pos] 3)) from (Below.refl _ _).alloc (Nat.le_refl _) _)
  have HSLA := Lib.hid (HSL.out.below HA.out)
  have HC := Lib.hid (show World.cell? (w.alloc (.cells #[.int .i64 pos] 3)) ⟨w.heap.size, 0, none⟩ = some (.int .i64 pos) from (Bx.new w 3 [.int .i64 pos]).c0)
  by_cases hz : (f s).length = 0
  · have HF := hfin (by rw [List.eq_nil_of_length_eq_zero hz]; simp)
    have d1 : decide (0 < (f s).length) = false := decide_eq_false (by omega)
    have HZ := Lib.hid hz
    clear hfin hz
    go_wp2_with (at_builtin; refine wpList_full (W := w.alloc (.cells #[.int .i64 pos] 3)) rfl _ _ _ rfl 3 Try.underlying30 infoInt HSLA.out HN.out pos w.heap.size 1 rfl rfl HC.out (by omega) ?_; intro A' c' w1 hs1 hb1; have HB := Lib.hid (show Below w.heap.size w w1 from bthen HA.out hb1); have HS1 := Lib.hid (hs1.mono (fun k hk => show w.heap.size ≤ k by simp at hk; omega)); clear hs1 hb1; obtain ⟨v0, st, w2, w3, _, _, hm, hom, hgr⟩ := Mp.steps (HM.out.stay (But.of_below (S := fun _ => False) HB.out) (fun _ _ _ h => h)) (by omega) Try.underlying83 hs (.slice A' ((f s).length + 1) c'); have HOM := Lib.hid hom; have HGR := Lib.hid hgr; clear hom hgr)
    go_end0
    exact ⟨rfl, HF.out _ _ _ _ HB.out HS1.out HOM.out HGR.out⟩
  · obtain ⟨k, hk⟩ : ∃ k, (f s).length = k + 1 := ⟨(f s).length - 1, by omega⟩
    have hkl : k < (f s).length := by omega
    obtain ⟨ad, rfl, hx⟩ := row_int_at HSL.out.2.2 hkl
    have hlast : (f s).getLast? = some (f s)[k] := by rw [List.getLast?_eq_getElem?, show (f s).length - 1 = k by omega, List.getElem?_eq_getElem hkl]
    generalize (f s)[k] = y at hx hlast
    have ew : IntKind.i64.wrap (((f s).length : Int) - 1) = (k : Int) := by rw [IntWalk.i64_in _ (by omega)]; omega
    have b1 : (0 : Int) ≤ (k : Int) := Int.natCast_nonneg _
    have b2 : (k : Int) < ((f s).length : Int) := by omega
    have d1 : decide (0 < (f s).length) = true := decide_eq_true (by omega)
    have hz' : 0 < (f s).length := by omega
    have HK := Lib.hid hk
    clear hk hz
    by_cases hy : y = pos
    · have e : upd f s (addP (f s) pos) = f := by
        rw [show addP (f s) pos = f s from if_pos (by rw [hlast, hy])]
        exact upd_id f s
      have HE := Lib.hid e
      subst hy
      clear hfin e hlast
      go_wp2_with fail
      refine bodyPost_ret (results_none rfl _ _ _) rfl ?_
      exact ⟨rfl, D, by rw [HE.out]; exact HM.out.grow (by omega), But.refl _ _⟩
    · have HF := hfin (by rw [hlast]; intro e; exact hy (Option.some.inj e))
      have d2 : (y == pos) = false := by simp [hy]
      clear hfin hlast
      go_wp2_with (at_builtin; refine wpList_full (W := w.alloc (.cells #[.int .i64 pos] 3)) rfl _ _ _ rfl 3 Try.underlying30 infoInt HSLA.out HN.out pos w.heap.size 1 rfl rfl HC.out (by omega) ?_; intro A' c' w1 hs1 hb1; have HB := Lib.hid (show Below w.heap.size w w1 from bthen HA.out hb1); have HS1 := Lib.hid (hs1.mono (fun k hk => show w.heap.size ≤ k by simp at hk; omega)); clear hs1 hb1; obtain ⟨v0, st, w2, w3, _, _, hm, hom, hgr⟩ := Mp.steps (HM.out.stay (But.of_below (S := fun _ => False) HB.out) (fun _ _ _ h => h)) (by omega) Try.underlying83 hs (.slice A' ((f s).length + 1) c'); have HOM := Lib.hid hom; have HGR := Lib.hid hgr; clear hom hgr)
      go_end0
      exact ⟨rfl, HF.out _ _ _ _ HB.out HS1.out HOM.out HGR.out⟩
end Go.Proofs.Yteahpkihkfkpfaa
