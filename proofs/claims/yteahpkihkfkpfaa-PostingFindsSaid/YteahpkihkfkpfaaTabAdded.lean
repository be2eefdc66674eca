/- append(l[:len(l):len(l)], x). -/
import Derived.Test.YteahpkihkfkpfaaTab
import Derived.ArgAppend
import Derived.WideKeyEntry
set_option linter.unusedVariables false
set_option linter.unusedSimpArgs false
namespace Go.Proofs.Yteahpkihkfkpfaa
open Go.RowKit Go.Maps Go.WideMaps Go.ChangeMaps

theorem flat_ones : ∀ l : List Int, (l.map (fun y => [Value.int .i64 y])).flatten = l.map (Value.int .i64)
  | [] => rfl
  | y :: ys => by rw [List.map_cons, List.flatten_cons, flat_ones ys]; rfl
/-- append(l[:len(l):len(l)], x): always a new row. -/
theorem run_append_full {P : Program} {W : World} (t ty e : TypeId) (ht : P.underlying t = some (.slice e)) (hinfo : (P.info? e).map (fun i => (i.zero, i.size, i.bytes)) = some (some (.int .i64 0), 1, 8))
    {ok : Nat → Prop} {A : Option Addr} {c : Nat} {l : List Int} (h : Sl (Kn.int .i64) ok W A c l) (h0 : l = [] → A = none) (x : Int) {B : Nat} {c2 : Nat} (hx : W.cell? ⟨B, 0, none⟩ = some (.int .i64 x)) (hl : l.length ≤ 1000000) :
    ∃ A' c' w', (Builtin.append_ #[t, t] ty #[.slice A l.length l.length, .slice (some ⟨B, 0, none⟩) 1 c2]).run P W = .ok (.slice A' (l ++ [x]).length c') w' ∧ Sl (Kn.int .i64) (fun k => W.heap.size ≤ k) w' A' c' (l ++ [x]) ∧ Below W.heap.size W w' := by
  obtain ⟨i0, hi, hzz⟩ := Option.map_eq_some_iff.1 hinfo
  simp only [Prod.mk.injEq] at hzz
  obtain ⟨hz0, hz1, hz2⟩ := hzz
  have hnews : ∀ (j : Nat) (u : Value), [Value.int .i64 x][j]? = some u → W.cell? ((⟨B, 0, none⟩ : Addr).add j) = some u := by
    intro j u hj
    match j, hj with
    | 0, hj => simp at hj; subst hj; exact hx
  have key : ∃ v' w', (Builtin.append_ #[t, t] ty #[.slice A l.length l.length, .slice (some ⟨B, 0, none⟩) 1 c2]).run P W = .ok v' w' ∧ w'.ownsRow W.heap.size e 1 v' (l.length + 1) (l.map (Value.int .i64) ++ [.int .i64 x]) ∧ W.grownBy w' none := by
    by_cases hn : l = []
    · subst hn
      obtain rfl := h0 rfl
      obtain ⟨v', w', h1, h2, h3, _⟩ := run_append_own_at (P := P) W W.heap.size t ty e i0 _ 1 8 ht hi hz0 hz1 hz2 rfl (by decide) (.slice none 0 0) 0 [] (World.ownsRow_nil _ _ _ _) ⟨B, 0, none⟩ 1 c2 [.int .i64 x] rfl hnews (by simp; rfl) (by simp [maxLen]) (by omega) (Nat.le_refl _)
      exact ⟨v', w', h1, h2, h3⟩
    · obtain ⟨ad, rfl, _, _, hc⟩ := h.2.2 (List.length_pos_iff.2 hn)
      exact run_append_arg_grows (P := P) W t ty e i0 _ 1 8 ht hi hz0 hz1 hz2 rfl (by decide) ad l.length l.length (l.map (Value.int .i64)) (by simp) (fun j u hj => by
        rw [List.getElem?_map] at hj
        obtain ⟨y, hy, rfl⟩ := Option.map_eq_some_iff.1 hj
        obtain ⟨cs, _, hk, hcc⟩ := hc j y hy
        have : cs = [.int .i64 y] := hk
        subst this
        have := hcc 0 _ rfl
        simpa [Kn.int, Kn.scalar] using this) ⟨B, 0, none⟩ 1 c2 [.int .i64 x] rfl hnews (by omega) (by simp [maxLen]; omega) (by omega)
  obtain ⟨v', w', h1, h2, h3⟩ := key
  have ho : Own (Kn.int .i64) e W.heap.size (fun _ => False) w' v' (l ++ [x]) := by
    refine ⟨(l ++ [x]).map (fun y => [Value.int .i64 y]), ?_, by simp, by simp; rintro _ (⟨y, _, rfl⟩ | rfl) <;> rfl, by simp; rintro _ (⟨y, _, rfl⟩ | rfl) u hu <;> (simp at hu; subst hu; rfl), fun j y hj => ⟨[.int .i64 y], by rw [List.getElem?_map, hj]; rfl, rfl⟩⟩
    have e1 : ((l ++ [x]).map (fun y => [Value.int .i64 y])).flatten = l.map (Value.int .i64) ++ [.int .i64 x] := by
      rw [List.map_append, List.flatten_append]
      congr 1
      exact flat_ones l
    rw [e1, show (l ++ [x]).length = l.length + 1 by simp]
    exact h2
  obtain ⟨A', c', rfl, hs⟩ := ho.sl
  exact ⟨A', c', w', h1, hs.mono (fun k hk => hk.elim False.elim id), ⟨h3.os, h3.tape, h3.output, h3.size, fun k hk => h3.block k hk (by simp)⟩⟩

/-- What m[k] = v turns, in two steps (the entry, then its value). -/
theorem Mp.steps {w : World} {ok : Nat → Prop} {m N : Nat} {D : DataW Value} {f : ByteArray → List Int} (h : Mp w ok m N D f) (hN : N ≤ 1000000) {t : TypeId} (ht : Try.prog.underlying t = some (.map 9 30)) {s : ByteArray} (hs : s.size ≤ maxLen) (val : Value) :
    ∃ (v0 : Value) (st : Nat) (w2 w3 : World), (Instr.mapEntry t (.map (some m)) (.string s)).run Try.prog w = .ok (.tuple #[v0, .int .i64 st]) w2 ∧ (Instr.entryStore t (.map (some m)) (.int .i64 st) val).run Try.prog w2 = .ok () w3 ∧
      (Instr.mapUpdate t (.map (some m)) (.string s) val).run Try.prog w = .ok () w3 ∧ w3.ownsMap Try.prog 9 RV m (N + 1) (D.put (keyS s) (.held val)) ∧ w.grownBy w3 (some m) := by
  obtain ⟨w', hrun, hom, hg⟩ := h.om.update (string_keyed Try.underlying9) ht (by unfold maxLen; omega) (val := val) (d := .held val) (ps := []) (keyOf_string_mk Try.underlying9 hs) rfl
  have hom0 := h.om
  obtain ⟨es, clock, hb, F, hsz, hD⟩ := hom0
  obtain ⟨v0, st, es1, clock1, h1, _, h3⟩ := WideElems.entry_then_store (string_law Try.underlying9) ht (z := .slice none 0 0) (fun u => zero_ints u) hb F (keyOf_string_mk Try.underlying9 hs)
  obtain ⟨es', clock', h4, h5⟩ := h3 (setBlock w m (.map es1 clock1)) val (heap_setBlock_same hb _)
  have e : w' = setBlock w m (.map es' clock') := by
    rw [hrun] at h5
    injection h5
  have e2 : setBlock (setBlock w m (.map es1 clock1)) m (.map es' clock') = w' := by rw [e]; simp [setBlock]
  refine ⟨v0, st, _, w', h1, ?_, hrun, hom, hg⟩
  rw [← e2]
  exact h4
end Go.Proofs.Yteahpkihkfkpfaa
