/- GuardEmpty: the law's walk. Arrays of two, handed in. GuardLater: the law's walk. The closed facts that every row of this seat leans on, each proved for itself: the order's text is long, so it is read once as a list of signs. The row of the law GuardLater, over its walk: for every input the call returns true and each argument reads afterwards as it read before. No conditions. -/
import Derived.Test.YtigejdnjdajbhaaBundG
import Derived.Test.YtigejdnjdajbhaaBundA
import Derived.Deep.RegionHeld3
import Derived.Test.YtigejdnjdajbhaaRows
import Derived.JoinedOf
import Derived.KernelRfl
import Derived.WalkKit
import Derived.ProofKit
import Derived.OpenShut
import Derived.ShutString
import Derived.ChangeOld
import Derived.Below
import Derived.SizedLaws
set_option linter.unusedVariables false
set_option linter.unusedSimpArgs false
namespace Go.Proofs.Ytigejdnjdajbhaa
open Go.RowKit Go.Maps

theorem qAll_good : ∀ c ∈ qAll, goodClause c := by
  intro c hc
  simp only [qAll, List.mem_cons, List.not_mem_nil, or_false] at hc
  rw [hc]; exact ⟨by simp, by simp⟩
theorem ev_in {l : List Event} (h : ∀ x ∈ l, goodEvent x) : ∀ x ∈ l, (∀ s ∈ x.tags, s.size ≤ maxLen) ∧ (mayE x = 0 → EvIn x) := fun x hx => ⟨(h x hx).2.2.1, fun h0 => have ho := (mayE_iff x).1 h0; ⟨(h x hx).1, (h x hx).2.1, (h x hx).2.2.1, fun q hq => ((h x hx).2.2.2 q hq).1, by have := ho.nt; omega, by have := ho.nf; omega⟩⟩
theorem since_nil (es : List Event) (a : Int) : sinceR es [] a = false := by
  unfold sinceR
  rw [List.any_eq_false]
  intro r _
  simp [matchM]
set_option maxHeartbeats 8000000 in
set_option maxRecDepth 100000 in
theorem guardEmpty_walk (w : World) (A : Option Addr) (c : Nat) (l : List Event) (h : Sl kEvent (fun _ => True) w A c l) (hg : ∀ x ∈ l, goodEvent x) (s : ByteArray) (hs : s.size ≤ maxLen) (v : Int) (hv : (Lit.int .i64 v).wf = true) :
    Calls Try.prog 8 #[.slice A l.length c, .string s, .int .i64 v] w fun r w' => r = .returned (.bool true) ∧ Below w.heap.size w w' := by
  have HL0 := Lib.hid (show Sl kEvent (fun k => k < w.heap.size) w A c l from h.bound.mono (fun _ h => h.2))
  have HG := Lib.hid (ev_in hg)
  have HS := Lib.hid hs
  have C1 := Lib.hid (shown18_any w)
  clear h hg hs
  go_enter Try.func8, Try.ntmps8
  go_upto_region 4 with (first
    | (go_at_call 29; go_fit C3.out; rintro r w3 ⟨B, y, rfl, h3⟩; have H3 := Lib.hid h3; clear h3)
    | (go_at_call 11; go_fit C2.out; rintro r w2 ⟨B0, rfl, h2, hb2⟩; have H2 := Lib.hid h2; have HB2 := Lib.hid (bthen HB1.out hb2); have C3 := Lib.hid (filled_any (w := w2) ((HL0.out.below HB2.out).mono (fun j hj => Nat.lt_of_lt_of_le hj HB2.out.size)) HG.out); clear hb2 h2)
    | (go_at_call 28; go_fit C1.out; rintro r w1 ⟨rfl, hb1⟩; have HB1 := Lib.hid hb1; have C2 := Lib.hid (lNew w1 (Nat.le_refl _)); clear hb1))
  go_upto_region 6 with fail
  clear C1 C2 C3
  obtain ⟨es, hes⟩ : ∃ es, filE l = es := ⟨_, rfl⟩
  have H3 := Lib.hid (show Fi w2 w3 B y es by rw [← hes]; exact H3.out)
  have HB3 := Lib.hid (bthen HB2.out H3.out.bel)
  have HY := Lib.hid (H2.out.ix.below H3.out.bel)
  have D1 := Lib.hid (fun W (hb : Below w3.heap.size w3 W) => show Calls Try.prog 30 #[.pointer (some ⟨B0.b, 0, none⟩), .agg #[.string s, .int .i64 v, .slice none 0 0, .bool false]] W fun r w' => r = .returned (.bool (decide ((0 : Int) = v))) ∧ Below W.heap.size W w' from holds_any (HY.out.below hb) HS.out (q := []) (Q := none) (cq := 0) Sl.nil_ (by simp) v false)
  have D2 := Lib.hid (fun W (hb : Below w3.heap.size w3 W) (Q : Option Addr) (hq : SlC W Q 1 qAll) => show Calls Try.prog 30 #[.pointer (some ⟨B0.b, 0, none⟩), .agg #[.string ByteArray.empty, .int .i64 v, .slice Q 1 1, .bool true]] W fun r w' => r = .returned (.bool (true)) ∧ Below W.heap.size W w' from holds_any (HY.out.below hb) (by decide) hq qAll_good v true)
  have D3 := Lib.hid (fun W (hb : Below w3.heap.size w3 W) => show Calls Try.prog 30 #[.pointer (some ⟨B.b, 0, none⟩), .agg #[.string ByteArray.empty, .int .i64 v, .slice none 0 0, .bool true]] W fun r w' => r = .returned (.bool (true)) ∧ Below W.heap.size W w' from by
    have := holds_any (H3.out.ix.below hb) (s := ByteArray.empty) (by decide) (q := []) (Q := none) (cq := 0) Sl.nil_ (by simp) v true
    rw [since_nil] at this
    exact this)
  obtain ⟨b, hbq⟩ : ∃ b, (decide (es.length ≤ v) || decide ((es.length : Int) = 0)) = b := ⟨_, rfl⟩
  have D4 := Lib.hid (fun W (hb : Below w3.heap.size w3 W) (Q : Option Addr) (hq : SlC W Q 1 qAll) => show Calls Try.prog 30 #[.pointer (some ⟨B.b, 0, none⟩), .agg #[.string ByteArray.empty, .int .i64 v, .slice Q 1 1, .bool true]] W fun r w' => r = .returned (.bool (b)) ∧ Below W.heap.size W w' from by
    have := holds_any (H3.out.ix.below hb) (s := ByteArray.empty) (by decide) hq qAll_good v true
    rw [sinceR_qAll] at this
    rw [← hbq]
    simp only [if_true] at this
    rw [show (!(decide (v < (es.length : Int)) && decide (0 < es.length))) = (decide (es.length ≤ v) || decide ((es.length : Int) = 0)) from by
      rw [Bool.eq_iff_iff]
      simp only [Bool.not_eq_true', Bool.and_eq_false_iff, Bool.or_eq_true, decide_eq_true_eq, decide_eq_false_iff_not]
      omega] at this
    exact this)
  have DL := Lib.hid (fun W (hb : Below w3.heap.size w3 W) => iLast (H3.out.ix.below hb))
  have hel : es.length ≤ 30 := by rw [← hes]; exact filter_len30 l 30
  clear hes
  have HBQ := Lib.hid hbq
  obtain ⟨n, hn⟩ : ∃ n, es.length = n := ⟨_, rfl⟩
  rw [hn] at DL HBQ hel
  clear hbq hn HB1 HG HL0
  go_cut [11] (fun b wx => b = .bool true ∧ Below w3.heap.size w3 wx)
  case first =>
    have D := Lib.hid (D1.out _ (Below.refl _ _))
    clear D1 D2 D3 D4 DL
    by_cases hz : v = 0
    · subst hz
      go_wp2_with (go_at_call 30; go_fit D.out; rintro r w4 ⟨rfl, hb4⟩; have HB4 := Lib.hid hb4; clear hb4)
      go_meet
      exact ⟨rfl, HB4.out⟩
    · have d1 : decide ((0 : Int) = v) = false := decide_eq_false (fun e => hz e.symm)
      have d0 : (v == 0) = false := by simp [hz]
      rw [d1] at D
      go_wp2_with (go_at_call 30; go_fit D.out; rintro r w4 ⟨rfl, hb4⟩; have HB4 := Lib.hid hb4; clear hb4)
      go_meet
      exact ⟨rfl, HB4.out⟩
  case rest =>
    obtain ⟨rfl, hbc⟩ := hcut
    have HBC := Lib.hid hbc
    clear hbc D1
    go_upto_region 8 with fail
    obtain ⟨W6, hW6⟩ : ∃ W6, W6 = (wc.alloc (.cells #[.slice none 0 0, .slice none 0 0] 52)).alloc (.cells #[.slice (some ⟨wc.heap.size, 0, none⟩) 1 1] 55) := ⟨_, rfl⟩
    rw [← hW6]
    have hq5 : Sl kClause (fun _ => True) (wc.alloc (.cells #[.slice none 0 0, .slice none 0 0] 52)) (some ⟨wc.heap.size, 0, none⟩) 1 qAll := (Sl.one (d := kClause) (ok := fun _ => True) (y := ⟨[], []⟩) (cs := [.slice none 0 0, .slice none 0 0]) 52 (kClause_mk (c := ⟨[], []⟩) Sl.nil_ Sl.nil_) wc.heap.size rfl).any
    have hbA : Below wc.heap.size wc (wc.alloc (.cells #[.slice none 0 0, .slice none 0 0] 52)) := (Below.refl _ _).alloc (Nat.le_refl _) _
    have hb6 : Below wc.heap.size wc W6 := by rw [hW6]; exact hbA.alloc (by simp) _
    have hx6 : Bx W6 (wc.heap.size + 1) 55 [.slice (some ⟨wc.heap.size, 0, none⟩) 1 1] := by
      rw [hW6]
      simpa using Bx.new (wc.alloc (.cells #[.slice none 0 0, .slice none 0 0] 52)) 55 [.slice (some ⟨wc.heap.size, 0, none⟩) 1 1]
    have hq6 : SlC W6 (some ⟨wc.heap.size, 0, none⟩) 1 qAll := by rw [hW6]; exact hq5.alloc _
    have HQ6 := Lib.hid hq6
    have HX6 := Lib.hid hx6
    have HB6 := Lib.hid (bthen HBC.out hb6)
    have k0 := hx6.cell 0
    simp only [List.getElem?_cons_zero] at k0
    generalize wc.heap.size = g at *
    clear hq5 hbA hb6 hx6 hq6 hW6
    go_cut [13] (fun b wx => b = .bool true ∧ Below W6.heap.size W6 wx)
    case first =>
      have D := Lib.hid (D2.out _ HB6.out _ HQ6.out)
      clear D2 D3 D4 DL
      by_cases hz : v < 0
      · go_wp2_with fail
        go_meet
        exact ⟨rfl, Below.refl _ _⟩
      · go_wp2_with (go_at_call 30; go_fit D.out; rintro r w4 ⟨rfl, hb4⟩; have HB4 := Lib.hid hb4; clear hb4)
        go_meet
        exact ⟨rfl, HB4.out⟩
    case rest =>
      obtain ⟨rfl, hbc⟩ := hcut
      have E3 := Lib.hid (D3.out _ (bthen HB6.out hbc))
      have HB7 := Lib.hid hbc
      clear D2 D3 hbc
      clear k0
      go_upto_region 10 with (go_at_call 30; go_fit E3.out; rintro r w8 ⟨rfl, hb8⟩; have HB8 := Lib.hid (bthen HB7.out hb8); clear hb8)
      have k0 := (HX6.out.under HB8.out).cell 0
      simp only [List.getElem?_cons_zero] at k0
      have E4 := Lib.hid (D4.out _ (bthen HB6.out HB8.out) _ (HQ6.out.below HB8.out))
      have DL := Lib.hid (fun W (hb : Below w8.heap.size w8 W) => DL.out W (bthen HB6.out (bthen HB8.out hb)))
      have HBW := Lib.hid (bthen HB3.out (bthen HB6.out HB8.out))
      clear D4
      by_cases h1 : (n : Int) ≤ v
      · have hb : b = true := by rw [← HBQ.out, decide_eq_true h1]; rfl
        subst hb
        go_wp2_with (first
          | (go_at_call 13; go_fit (DL.out _ HB9.out); rintro r w10 ⟨rfl, rfl⟩)
          | (go_at_call 30; go_fit E4.out; rintro r w9 ⟨rfl, hb9⟩; have HB9 := Lib.hid hb9; clear hb9))
        go_ret
        exact ⟨rfl, bthen HBW.out HB9.out⟩
      · by_cases h2 : (n : Int) = 0
        · have hb : b = true := by rw [← HBQ.out, decide_eq_true h2, Bool.or_true]
          subst hb
          have d2 : ((n : Int) == 0) = true := by rw [h2]; rfl
          go_wp2_with (first
            | (go_at_call 13; go_fit (DL.out _ HB9.out); rintro r w10 ⟨rfl, rfl⟩)
            | (go_at_call 30; go_fit E4.out; rintro r w9 ⟨rfl, hb9⟩; have HB9 := Lib.hid hb9; clear hb9))
          go_ret
          exact ⟨rfl, bthen HBW.out HB9.out⟩
        · have hb : b = false := by rw [← HBQ.out, decide_eq_false h1, decide_eq_false h2]; rfl
          subst hb
          have d2 : ((n : Int) == 0) = false := by simpa using h2
          go_wp2_with (first
            | (go_at_call 13; go_fit (DL.out _ HB9.out); rintro r w10 ⟨rfl, rfl⟩)
            | (go_at_call 30; go_fit E4.out; rintro r w9 ⟨rfl, hb9⟩; have HB9 := Lib.hid hb9; clear hb9))
          go_ret
          exact ⟨by show Ending.returned (.bool (!decide ((n : Int) ≤ v))) = _; rw [decide_eq_false (by omega : ¬ (n : Int) ≤ v)]; rfl, bthen HBW.out HB9.out⟩
end Go.Proofs.Ytigejdnjdajbhaa

namespace Go.Proofs.Ytigejdnjdajbhaa
open Go.RowKit
theorem Opens.array2 {α : Type} {P : Program} {t e : TypeId} {d : Kn α} {good : α → Prop} (ht : P.underlying t = some (.array 2 e)) (hCt : P.cellsOf t = d.sz + d.sz) (hC : P.cellsOf e = d.sz) (he : Opens P e d good) : Opens P t (Kn.pair d d) (fun y => good y.1 ∧ good y.2) := by
  intro H enc w base spare held fuel cs x hx
  obtain ⟨xs, m, rfl, _, hl, hxl, hf⟩ := DataW.trod_array ht hx
  rw [hC] at hf
  have h0 := hf 0 (by omega)
  have h1 := hf 1 (by omega)
  rw [List.getElem?_eq_getElem (by omega)] at h0 h1
  obtain ⟨y0, k0, g0⟩ := he _ _ _ _ _ _ _ _ _ h0
  obtain ⟨y1, k1, g1⟩ := he _ _ _ _ _ _ _ _ _ h1
  refine ⟨(y0, y1), ⟨_, _, ?_, k0, k1⟩, g0, g1⟩
  rw [Nat.zero_mul, Nat.one_mul, List.drop_zero, List.take_of_length_le (l := cs.drop d.sz) (by rw [List.length_drop, hl, hCt]; omega)]
  exact (List.take_append_drop _ _).symm
theorem okWide_array {P : Program} {w : World} {r : Reach} {base n : Nat} {t e : TypeId} {v : Value} (ht : P.underlying t = some (.array n e)) (h : Value.okWide P w r base t v) : ∃ cs, v = .agg cs ∧ cs.size = P.cellsOf t := by
  simp only [Value.okWide, ht] at h
  obtain ⟨cs, h1, h2, _⟩ := h
  exact ⟨cs, h1, h2⟩
end Go.Proofs.Ytigejdnjdajbhaa

namespace Go.Proofs.Ytigejdnjdajbhaa
open Go.RowKit Go.Maps

theorem opTwoI : Opens Try.prog 72 (Kn.pair (Kn.int .i64) (Kn.int .i64)) (fun y => gN y.1 ∧ gN y.2) := Opens.array2 Try.underlying72 (by kernel_rfl) (by kernel_rfl) opInt
theorem query_in18 {w : World} {q : List Clause} {c0 : Array Value} (hq : kQuery.K (fun _ => True) w q c0.toList) : ∃ Q cq, c0 = #[.slice Q q.length cq] ∧ Sl kClause (fun k => True ∧ k < w.heap.size) w Q cq q := by
  obtain ⟨Q, cq, h0, h1, h2, h3⟩ := hq
  have : Sl kClause (fun _ => True) w Q cq q := ⟨h1, h2, h3⟩
  exact ⟨Q, cq, (by cases c0; simpa using h0), this.bound⟩
theorem twoI_in {w : World} {x : Int × Int} {c : Array Value} (h : (Kn.pair (Kn.int .i64) (Kn.int .i64)).K (fun _ => True) w x c.toList) : c = #[.int .i64 x.1, .int .i64 x.2] := by
  obtain ⟨a, b, e, ha, hb⟩ := h
  obtain rfl : a = [.int .i64 x.1] := ha
  obtain rfl : b = [.int .i64 x.2] := hb
  obtain ⟨l⟩ := c
  simp at e
  rw [e]
theorem since_mono {es : List Event} {q : List Clause} {a b : Int} (hab : a ≤ b) (h : sinceR es q b = true) : sinceR es q a = true := by
  unfold sinceR at *
  rw [List.any_eq_true] at *
  obtain ⟨r, hr, h⟩ := h
  rw [Bool.and_eq_true, decide_eq_true_eq] at h
  exact ⟨r, hr, by rw [Bool.and_eq_true, decide_eq_true_eq]; exact ⟨h.1, by omega⟩⟩
theorem since_len (es : List Event) (q : List Clause) : sinceR es q es.length = false := by
  unfold sinceR
  rw [List.any_eq_false]
  intro r hr
  have := (recsOf_mem hr).2.1
  simp
  omega
theorem few18_box (w : World) (cs : List Value) : Bx ((w.alloc (.cells cs.toArray 70)).alloc (.cells cs.toArray 70)) (w.heap.size + 1) 70 cs := by
  have := Bx.new (w.alloc (.cells cs.toArray 70)) 70 cs
  rwa [show (w.alloc (.cells cs.toArray 70)).heap.size = w.heap.size + 1 by simp] at this
set_option maxHeartbeats 4000000 in
set_option maxRecDepth 100000 in
theorem few18_any {w : World} (s : ByteArray) (v : Int) {q : List Clause} {Q : Option Addr} {cq : Nat} (hq : SlC w Q cq q) (b : Bool) :
    Calls Try.prog 31 #[.agg #[.string s, .int .i64 v, .slice Q q.length cq, .bool b]] w fun r w' => r = .returned (.agg #[.string s, .int .i64 v, .slice Q (q.take 8).length cq, .bool b]) ∧ Below w.heap.size w w' := by
  have hc := hq.1
  have hc2 := hq.2.1
  unfold maxLen at hc2
  clear hq
  have hbel : ∀ o : Obj, Below w.heap.size w ((w.alloc o).alloc o) := fun o => ((Below.refl _ _).alloc (Nat.le_refl _) o).alloc (by simp) o
  have HBE := Lib.hid hbel
  obtain ⟨n, hn⟩ : ∃ n, q.length = n := ⟨_, rfl⟩
  rw [List.length_take]
  rw [hn] at hc ⊢
  clear hn hbel
  by_cases h8 : 8 < n
  · rw [Nat.min_eq_left (by omega)]
    have HB := Lib.hid (few18_box w [.string s, .int .i64 v, .slice Q 8 cq, .bool b])
    have c0 := HB.out.cell 0
    have c1 := HB.out.cell 1
    have c2 := HB.out.cell 2
    have c3 := HB.out.cell 3
    simp only [List.getElem?_cons_succ, List.getElem?_cons_zero] at c0 c1 c2 c3
    have b1' : (8 : Int) ≤ (cq : Int) := by omega
    have b2' : 8 ≤ cq := by omega
    go_enter Try.func31, Try.ntmps31
    go_wp2_with fail
    exact bodyPost_ret (v := .agg #[.string s, .int .i64 v, .slice Q 8 cq, .bool b]) (by simp [results, Try.results31, go_sem, c0, c1, c2, c3]) rfl ⟨rfl, HBE.out _⟩
  · rw [Nat.min_eq_right (by omega)]
    have HB := Lib.hid (few18_box w [.string s, .int .i64 v, .slice Q n cq, .bool b])
    have c0 := HB.out.cell 0
    have c1 := HB.out.cell 1
    have c2 := HB.out.cell 2
    have c3 := HB.out.cell 3
    simp only [List.getElem?_cons_succ, List.getElem?_cons_zero] at c0 c1 c2 c3
    go_enter Try.func31, Try.ntmps31
    go_wp2_with fail
    exact bodyPost_ret (v := .agg #[.string s, .int .i64 v, .slice Q n cq, .bool b]) (by simp [results, Try.results31, go_sem, c0, c1, c2, c3]) rfl ⟨rfl, HBE.out _⟩
set_option maxHeartbeats 8000000 in
set_option maxRecDepth 100000 in
theorem guardLater_walk (w : World) (A : Option Addr) (c : Nat) (l : List Event) (h : Sl kEvent (fun _ => True) w A c l) (hg : ∀ x ∈ l, goodEvent x) (c1 : Array Value) (q : List Clause) (hq : kQuery.K (fun _ => True) w q c1.toList) (gq : ∀ x ∈ q, goodClause x) (c2 : Array Value) (at_ : Int × Int) (hat : (Kn.pair (Kn.int .i64) (Kn.int .i64)).K (fun _ => True) w at_ c2.toList) (gat : gN at_.1 ∧ gN at_.2) :
    Calls Try.prog 9 #[.slice A l.length c, .agg c1, .agg c2] w fun r w' => r = .returned (.bool true) ∧ Below w.heap.size w w' := by
  have HL0 := Lib.hid (show Sl kEvent (fun k => k < w.heap.size) w A c l from h.bound.mono (fun _ h => h.2))
  have HG := Lib.hid (ev_in hg)
  obtain ⟨Q, cq, rfl, hQ⟩ := query_in18 hq
  obtain rfl := twoI_in hat
  obtain ⟨a, b⟩ := at_
  have HQ := Lib.hid hQ
  have HGQ := Lib.hid (show ∀ x ∈ q.take 8, goodClause x from fun x hx => gq x (List.mem_of_mem_take hx))
  obtain ⟨W1, hW1⟩ : ∃ W1, W1 = (w.alloc (.cells #[.slice Q q.length cq] 55)).alloc (.cells #[.int .i64 a, .int .i64 b] 72) := ⟨_, rfl⟩
  have HW1 := Lib.hid hW1
  have hbA : Below w.heap.size w (w.alloc (.cells #[.slice Q q.length cq] 55)) := (Below.refl _ _).alloc (Nat.le_refl _) _
  have hb1 : Below w.heap.size w W1 := by rw [hW1]; exact hbA.alloc (by simp) _
  have hx1 : Bx W1 w.heap.size 55 [.slice Q q.length cq] := by
    rw [hW1]
    exact (Bx.new w _ _).alloc _
  have hx2 : Bx W1 (w.heap.size + 1) 72 [.int .i64 a, .int .i64 b] := by
    rw [hW1]
    simpa using Bx.new (w.alloc (.cells #[.slice Q q.length cq] 55)) 72 [.int .i64 a, .int .i64 b]
  have HB1 := Lib.hid hb1
  have HX1 := Lib.hid hx1
  have HX2 := Lib.hid hx2
  have C1 := Lib.hid (shown18_any W1)
  clear h hg hq gq hat gat hQ hbA hb1 hx1 hx2
  go_enter Try.func9, Try.ntmps9
  go_upto_region 1 with fail
  rw [← HW1.out]
  clear hW1 HW1
  go_upto_region 3 with (first
    | (go_at_call 29; go_fit C3.out; rintro r w3 ⟨B, y, rfl, h3⟩; have H3 := Lib.hid h3; clear h3)
    | (go_at_call 28; go_fit C1.out; rintro r w1 ⟨rfl, hb1⟩; have HB2 := Lib.hid hb1; have C3 := Lib.hid (filled_any (w := w1) ((HL0.out.below (bthen HB1.out HB2.out)).mono (fun j hj => Nat.lt_of_lt_of_le hj (bthen HB1.out HB2.out).size)) HG.out); clear hb1))
  go_upto_region 5 with fail
  clear C1 C3
  obtain ⟨es, hes⟩ : ∃ es, filE l = es := ⟨_, rfl⟩
  have H3 := Lib.hid (show Fi w1 w3 B y es by rw [← hes]; exact H3.out)
  have hel : es.length ≤ 30 := by rw [← hes]; exact filter_len30 l 30
  clear hes
  have HB3 := Lib.hid (bthen HB2.out H3.out.bel)
  have hx1 := HX1.out.under HB3.out
  have k0 := hx1.cell 0
  simp only [List.getElem?_cons_zero] at k0
  have kf := hx1.free 0
  obtain ⟨m, hm⟩ : ∃ m, (q.take 8).length = m := ⟨_, rfl⟩
  have CF := Lib.hid (fun W (hb : Below w3.heap.size w3 W) => show Calls Try.prog 31 #[.agg #[.string ByteArray.empty, .int .i64 0, .slice Q q.length cq, .bool false]] W fun r w' => r = .returned (.agg #[.string ByteArray.empty, .int .i64 0, .slice Q m cq, .bool false]) ∧ Below W.heap.size W w' from by
    rw [← hm]; exact few18_any (w := W) ByteArray.empty 0 ((HQ.out.any.below (bthen HB1.out (bthen HB3.out hb)))) false)
  have hfd : ∀ W : World, (Instr.field 70 (.agg #[.string ByteArray.empty, .int .i64 0, .slice Q m cq, .bool false]) 2).run Try.prog W = .ok (.agg #[.slice Q m cq]) W := fun _ => by kernel_rfl
  have HM := Lib.hid hm
  clear hm
  clear hx1
  go_upto_region 6 with (go_at_call 31; go_fit (CF.out _ (Below.refl _ _)); rintro r w4 ⟨rfl, hb4⟩; have HB4 := Lib.hid hb4; have kx := (HX1.out.under (bthen HB3.out hb4)).cell 0; simp only [List.getElem?_cons_zero] at kx; have kff := (HX1.out.under (bthen HB3.out hb4)).free 0; clear hb4)
  clear kx kff kf k0 CF hfd
  obtain ⟨X6, hX6⟩ : ∃ X6, X6 = w4.setCell ⟨w.heap.size, 0, none⟩ (.slice Q m cq) := ⟨_, rfl⟩
  have hbut : But (fun k => k = w.heap.size) w4 X6 := by rw [hX6]; exact But.setCell (S := fun k => k = w.heap.size) w4 (p := ⟨w.heap.size, 0, none⟩) rfl _
  have hx1 : Bx X6 w.heap.size 55 [.slice Q m cq] := by rw [hX6]; exact (HX1.out.under (bthen HB3.out HB4.out)).set 0 _
  have hx2 := (HX2.out.under (bthen HB3.out HB4.out)).stay (fun hk => hbut.block _ hk (by omega))
  have hw1 : w.heap.size + 1 < w1.heap.size := by have := HX2.out.lt; have := HB2.out.size; omega
  have hix : Ix X6 B es (fun k => k < w1.heap.size ∨ k = y) := (H3.out.ix.below HB4.out).far (hbut.mono (fun k hk => .inl (by omega)))
  obtain ⟨A4, c4, hrx⟩ := H3.out.rx
  have hyw := H3.out.yl
  have hy : Bx X6 y 75 [.slice A4 es.length c4] := by
    have := (hrx.bx.under HB4.out).stay (w' := X6) (fun hk => hbut.block _ hk (by omega))
    rw [recsOf_len] at this
    exact this
  have hq6 : SlC X6 Q cq (q.take 8) := by
    have h1 := ((HQ.out.below (bthen HB1.out (bthen HB3.out HB4.out))).stay hbut.size (fun k hk hl => hbut.block k hl (by omega))).any
    exact ⟨by have := h1.1; rw [List.length_take]; omega, h1.2.1, h1.2.2.take 8⟩
  have HBT := Lib.hid (show Below w.heap.size w X6 by rw [hX6]; exact Below.setCell (bthen HB1.out (bthen HB3.out HB4.out)) (Nat.le_refl _) _)
  have D := Lib.hid (fun W (hb : Below X6.heap.size X6 W) (v : Int) => show Calls Try.prog 30 #[.pointer (some ⟨B.b, 0, none⟩), .agg #[.string ByteArray.empty, .int .i64 v, .slice Q m cq, .bool true]] W fun r w' => r = .returned (.bool (!sinceR es (q.take 8) v)) ∧ Below W.heap.size W w' from by
    have := holds_any (hix.below hb) (s := ByteArray.empty) (by decide) (hq6.below hb) HGQ.out v true
    rw [HM.out] at this
    exact this)
  have D2 : Hid (∀ W (R : Prop), Below X6.heap.size X6 W ∧ R → Calls Try.prog 30 #[.pointer (some ⟨B.b, 0, none⟩), .agg #[.string ByteArray.empty, .int .i64 es.length, .slice Q m cq, .bool true]] W fun r w' => r = .returned (.bool true) ∧ Below W.heap.size W w') := Lib.hid (fun W R hb => by
    have := D.out W hb.1 es.length
    rw [since_len] at this
    exact this)
  have HY := Lib.hid hy
  have HX1 := Lib.hid hx1
  have HX2 := Lib.hid hx2
  obtain ⟨s1, hs1⟩ : ∃ s1, sinceR es (q.take 8) (min a b) = s1 := ⟨_, rfl⟩
  obtain ⟨s2, hs2⟩ : ∃ s2, sinceR es (q.take 8) (max a b) = s2 := ⟨_, rfl⟩
  have hmono : s2 = true → s1 = true := fun h => by rw [← hs1]; rw [← hs2] at h; exact since_mono (by omega) h
  have k0 := hx1.cell 0
  have k1 := hx2.cell 0
  have k2 := hx2.cell 1
  simp only [List.getElem?_cons_succ, List.getElem?_cons_zero] at k0 k1 k2
  rw [← hX6]
  clear hX6 hbut hx1 hx2 hix hrx hy hq6
  have E1 := Lib.hid (D.out X6 (Below.refl _ _) (min a b))
  rw [hs1] at E1
  go_upto_region 7 with (go_at_call 30; go_fit E1.out; rintro r w7 ⟨rfl, hb7⟩; have HB7 := Lib.hid hb7; have l0 := (HX1.out.under hb7).cell 0; have l1 := (HX2.out.under hb7).cell 0; have l2 := (HX2.out.under hb7).cell 1; simp only [List.getElem?_cons_succ, List.getElem?_cons_zero] at l0 l1 l2; clear hb7)
  have E2 := Lib.hid (D.out w7 HB7.out (max a b))
  rw [hs2] at E2
  clear k0 k1 k2
  go_upto_region 8 with (go_at_call 30; go_fit E2.out; rintro r w8 ⟨rfl, hb8⟩; have HB8 := Lib.hid (bthen HB7.out hb8); clear hb8)
  clear l0 l1 l2 E1 E2 hs1 hs2
  have HK := Lib.hid (fun W (hb : Below w8.heap.size w8 W) => show Below X6.heap.size X6 W ∧ W.cell? ⟨w.heap.size, 0, none⟩ = some (.slice Q m cq) ∧ W.cell? ⟨y, 0, none⟩ = some (.slice A4 es.length c4) from ⟨bthen HB8.out hb, (HX1.out.under (bthen HB8.out hb)).cell 0, (HY.out.under (bthen HB8.out hb)).cell 0⟩)
  generalize es.length = n at *
  go_cut [12] (fun b wx => b = .bool true ∧ Below w8.heap.size w8 wx)
  case first =>
    go_region_held3 (fun W => Below X6.heap.size X6 W ∧ W.cell? ⟨w.heap.size, 0, none⟩ = some (.slice Q m cq) ∧ W.cell? ⟨y, 0, none⟩ = some (.slice A4 n c4)) (first | exact HK.out _ (below_drawn (Below.refl _ _)) | exact HK.out _ HB9.out | (assumption))
      (first | (go_at_call 30; go_fit (D2.out _ _ (by assumption)); rintro r w9 ⟨rfl, hb9⟩; have HB9 := Lib.hid (bthen (below_drawn (Below.refl _ _)) hb9); clear hb9))
    all_goals go_wp2_with fail
    all_goals go_meet
    all_goals exact ⟨rfl, HB9.out⟩
  case rest =>
    obtain ⟨rfl, hbc⟩ := hcut
    have HBW := Lib.hid (bthen HBT.out (bthen HB8.out hbc))
    clear hbc
    rcases s1 with _ | _ <;> rcases s2 with _ | _
    rotate_left
    · exact absurd (hmono rfl) (by decide)
    all_goals go_wp2_with fail
    all_goals go_ret
    all_goals exact ⟨rfl, HBW.out⟩
end Go.Proofs.Ytigejdnjdajbhaa

namespace Go.Proofs.Ytigejdnjdajbhaa

set_option maxRecDepth 100000 in
def ordN : List Nat := [104, 97, 114, 110, 101, 115, 115, 32, 51, 51, 99, 100, 49, 48, 101, 102, 99, 49, 100, 49, 57, 100, 101, 100, 50, 102, 57, 100, 97, 101, 101, 51, 54, 49, 54, 56, 48, 102, 48, 49, 97, 51, 102, 55, 56, 102, 54, 99, 100, 55, 53, 100, 50, 54, 97, 99, 102, 50, 50, 56, 51, 51, 48, 100, 55, 53, 56, 53, 54, 48, 55, 97, 32, 99, 117, 116, 32, 97, 116, 32, 114, 101, 103, 105, 115, 116, 114, 97, 114, 47, 114, 101, 103, 105, 115, 116, 114, 97, 114, 108, 97, 119, 49, 52, 46, 73, 110, 100, 101, 120, 82, 101, 102, 117, 115, 101, 115, 32, 114, 101, 103, 105, 115, 116, 114, 97, 114, 47, 114, 101, 103, 105, 115, 116, 114, 97, 114, 108, 97, 119, 49, 52, 46, 73, 110, 100, 101, 120, 79, 119, 110, 32, 114, 101, 103, 105, 115, 116, 114, 97, 114, 47, 114, 101, 103, 105, 115, 116, 114, 97, 114, 108, 97, 119, 49, 52, 46, 73, 110, 100, 101, 120, 67, 111, 112, 105, 101, 115, 32, 114, 101, 103, 105, 115, 116, 114, 97, 114, 47, 114, 101, 103, 105, 115, 116, 114, 97, 114, 108, 97, 119, 49, 52, 46, 73, 110, 100, 101, 120, 87, 104, 111, 108, 101, 32, 114, 101, 103, 105, 115, 116, 114, 97, 114, 47, 114, 101, 103, 105, 115, 116, 114, 97, 114, 108, 97, 119, 49, 52, 46, 73, 110, 100, 101, 120, 83, 116, 97, 121, 115, 32, 114, 101, 103, 105, 115, 116, 114, 97, 114, 47, 114, 101, 103, 105, 115, 116, 114, 97, 114, 108, 97, 119, 49, 56, 46, 71, 117, 97, 114, 100, 69, 109, 112, 116, 121, 32, 114, 101, 103, 105, 115, 116, 114, 97, 114, 47, 114, 101, 103, 105, 115, 116, 114, 97, 114, 108, 97, 119, 49, 56, 46, 71, 117, 97, 114, 100, 76, 97, 116, 101, 114]
def ordL : List Char := ordN.map Char.ofNat
theorem order_eq : Try.prog.initOrder = String.ofList ordL := by kernel_rfl
theorem signs_eq : Try.prog.initOrder.toList = ordL := by rw [order_eq, String.toList_ofList]
def ordRest : List (List Char) := (behindMainWord (wordsSigns ordL)).tail
theorem words_eq : behindMainWord (wordsSigns ordL) = "cut".toList :: ordRest := by kernel_rfl
theorem strip_cut (r : List (List Char)) : stripLifts liftWords ("cut".toList :: r) = ([], "cut".toList :: r) := by kernel_rfl
theorem mayEnter_of (P : Program) (rest : List (List Char)) (h : behindMainWord (wordsSigns P.initOrder.toList) = "cut".toList :: rest) (h1 : P.laysLater = false) (h2 : P.bearsReflect = false) (h3 : P.doorFits [] = true) : P.mayEnter = true := by
  unfold Program.mayEnter
  rw [h]
  dsimp only
  rw [strip_cut, h1, h2, h3]
  simp
theorem lifts_of (P : Program) (rest : List (List Char)) (h : behindMainWord (wordsSigns P.initOrder.toList) = "cut".toList :: rest) : P.liftsFinal = false := by
  unfold Program.liftsFinal Program.headLifts
  rw [h, strip_cut]
  simp
theorem make_of (P : Program) (rest : List (List Char)) (h : behindMainWord (wordsSigns P.initOrder.toList) = "cut".toList :: rest) : P.make = some .cut := by
  unfold Program.make
  rw [h]
  dsimp only
  rw [if_neg (by decide), if_pos (by simp)]
theorem door_of (P : Program) (h : P.doorRows = []) : P.doorFits [] = true := by
  unfold Program.doorFits
  rw [h]
  simp
theorem head_eq : behindMainWord (wordsSigns Try.prog.initOrder.toList) = "cut".toList :: ordRest := by rw [signs_eq]; exact words_eq
theorem h_later : Try.prog.laysLater = false := by kernel_rfl
theorem h_refl : Try.prog.bearsReflect = false := by kernel_rfl
theorem h_rows : Try.prog.doorRows = [] := by kernel_rfl
theorem mayEnter_eq : Try.prog.mayEnter = true := mayEnter_of _ _ head_eq h_later h_refl (door_of _ h_rows)
theorem lifts_eq : Try.prog.liftsFinal = false := lifts_of _ _ head_eq
theorem make_eq : Try.prog.make = some .cut := make_of _ _ head_eq
theorem laidOut_eq : laidOutB Try.prog = true := by kernel_rfl
theorem mapsRowed_eq : mapsRowed Try.prog = true := by kernel_rfl
theorem stops_eq : (Try.prog.stops == []) = true := by kernel_rfl
theorem stopKnobs_eq : (Try.prog.stopKnobs == []) = true := by kernel_rfl
theorem heard_eq : Try.prog.stopsHeard = true := by kernel_rfl
theorem own_eq : ownKnob Try.prog.godebug = none := by kernel_rfl

/-- The rows' one great closed fact, out of its parts. -/
theorem joined_of {P : Program} {f : FuncId} {fn : Func} {s : ChangeSpec} {c : OpenClaim}
    (k1 : c.wf (OpenSpec.ofChange s) = true) (k2 : laidOutB P = true) (k3 : mapsRowed P = true) (k4 : fn.params.all (P.readableRec ·) = true) (k5 : namedTie P c.named s.vars = true)
    (k6 : (c.stops == []) = true) (k7 : (P.stops == []) = true) (k8 : (c.knobs == []) = true) (k9 : (P.stopKnobs == []) = true)
    (k10 : (c.inPlace == P.inPlace f) = true) (k11 : (c.unfollowed == P.unfollowed f) = true) (k12 : (c.recurses == P.recurses f) = true) (k13 : (c.named == P.varsNamed f) = true)
    (k14 : (c.maps == (fn.params.toList ++ s.plain.varTypes P).any (P.mapsRec ·)) = true) (k15 : (c.ifaces == (fn.params.toList ++ s.plain.varTypes P).any (P.ifacesRec ·)) = true) (k16 : (c.mapsOut == P.mapsAmong fn.resultTypes.toList) = true)
    (k17 : (c.loops == (fn.params.toList ++ s.plain.varTypes P).any (P.loopsFrom ·)) = true) (k18 : (c.wideKeys == (fn.params.toList ++ s.plain.varTypes P ++ fn.resultTypes.toList).any (P.wideKeysFrom ·)) = true)
    (k19 : s.vars.all (P.varReadable ·) = true) (k20 : fn.resultTypes.all (fun t => P.readableRec t && decide (t < P.types.size)) = true) (k21 : (c.ifacesOut == fn.resultTypes.toList.any (P.ifacesRec ·)) = true) (k22 : (c.loopsOut == fn.resultTypes.toList.any (P.loopsFrom ·)) = true)
    (k23 : (c.plainKeys == P.plainKeys) = true) (k24 : c.shortTexts.isNone = true) (k25 : P.stopsHeard = true) (k26 : P.mayEnter = true) (k27 : (c.lifted == P.liftsFinal) = true) (k28 : (P.make == some c.make) = true)
    (k29 : c.kinds = [] ∧ c.domain = []) (k30 : (c.pinned == c.pinnedBy) = true)
    (k31 : (c.veiled == (fn.params.toList ++ s.plain.varTypes P ++ fn.resultTypes.toList).any (P.veiledRec ·)) = true) (k32 : c.veiledFits P fn.params.toList (fn.params.toList ++ s.plain.varTypes P ++ fn.resultTypes.toList) = true) :
    joinedFacts P f fn s c = true := by
  unfold joinedFacts
  rw [k1, k2, k3, k4, k5, k6, k7, k8, k9, k10, k11, k12, k13, k14, k15, k16, k17, k18, k19, k20, k21, k22, k23, k24, k25, k26, k27, k28, k29.1, k29.2, k30, k31, k32]
  rfl
end Go.Proofs.Ytigejdnjdajbhaa

namespace Go.Proofs.Ytigejdnjdajbhaa.guardLater
open Go.ChangeShapes Go.WideShapes Go.ChangeAt Go.RowKit
open Go.ChangeMaps (open_string shut_string)
set_option maxRecDepth 100000 in
theorem lifted (os : Os) (started : os.Started) (H : Type) (enc : TypeId × Value → H) :
    ReturnsInHanded {} Try.checked os 9 .any (Rows.guardLaterSpec.pre6 enc Try.prog Try.f9 Rows.guardLaterRow.domain false) (Rows.guardLaterSpec.post enc Try.prog Try.f9 false true false false) := by
  refine returnsInHanded_of_change_sized (C := Try.checked) own_eq started (by kernel_rfl) Try.func9
    (ChangeSpec.witness6 (enc := enc) (C := Try.checked) false ⟨#[], #[.slice none 0 0, .agg #[.slice none 0 0], .agg #[.int .i64 0, .int .i64 0]], []⟩ 8 (by kernel_rfl) (by kernel_rfl) (by kernel_rfl) (by kernel_rfl)) ?_
  intro W base args ds gs before hval0 hW hcnd hsz0 _
  have hval : ∀ (j : Nat) t v, Try.f9.params[j]? = some t → args[j]? = some v → Value.okWide Try.prog W .any base t v := hval0
  have hW' := hW
  obtain ⟨p, q, hA0, hV, rfl, hfz, hnd⟩ := hW
  have hA : DataW.TrodAll enc Try.prog W 0 (fun _ => true) true Try.f9.params.toList args.toList ds p := hA0
  rw [Try.params9] at hA hval
  obtain ⟨v0, vs0, d0, ds0, p0, q0, hargs, rfl, rfl, h0, r0⟩ := trodAll_cons hA
  obtain ⟨v1, vs1, d1, ds1, p1, q1, rfl, rfl, rfl, h1, r1⟩ := trodAll_cons r0
  obtain ⟨v2, vs2, d2, ds2, p2, q2, rfl, rfl, rfl, h2, r2⟩ := trodAll_cons r1
  obtain ⟨rfl, rfl, rfl⟩ := trodAll_nil r2
  obtain rfl : args = #[v0, v1, v2] := by cases args; simp_all
  obtain ⟨rfl, rfl⟩ := trodVars_none hV
  have k0 := h0
  have lt0 : ∀ x ∈ p0, x.block < W.heap.size := by obtain ⟨m, hm⟩ := k0; exact DataW.trod_lt m _ _ _ hm
  obtain ⟨a0, len0, cap0, rfl⟩ := okWide_slice Try.underlying23 (hval 0 23 v0 rfl rfl)
  obtain ⟨x0, ⟨A0, c0, e0, l0, m0, w0⟩, g0⟩ := (opEvs).arg h0
  simp only [Value.cells, List.cons.injEq, Value.slice.injEq, and_true] at e0
  obtain ⟨rfl, rfl, rfl⟩ := e0
  have k1 := h1
  have lt1 : ∀ x ∈ p1, x.block < W.heap.size := by obtain ⟨m, hm⟩ := k1; exact DataW.trod_lt m _ _ _ hm
  obtain ⟨cs1, rfl, _⟩ := okWide_struct Try.underlying55 (hval 1 55 v1 rfl rfl)
  obtain ⟨x1, w1, g1⟩ := (opQuery).arg h1
  have k2 := h2
  have lt2 : ∀ x ∈ p2, x.block < W.heap.size := by obtain ⟨m, hm⟩ := k2; exact DataW.trod_lt m _ _ _ hm
  obtain ⟨cs2, rfl, _⟩ := okWide_array Try.underlying72 (hval 2 72 v2 rfl rfl)
  obtain ⟨x2, w2, g2⟩ := (opTwoI).arg h2
  clear hA0 hval0
  refine (guardLater_walk W _ _ x0 ⟨l0, m0, w0⟩ g0 cs1 x1 w1 g1 cs2 x2 w2 g2).mono fun e W' ⟨he, bel⟩ => ?_
  subst he
  exact ⟨_, rfl, _, _, _, [], _, [], hW', trodAll_mk1 (shut_bool Try.underlying4 _), (trodAll_cons_mk (Below.trod laidOut_eq (by kernel_rfl) (of_decide_eq_true (by kernel_rfl)) k0 bel lt0) (trodAll_cons_mk (Below.trod laidOut_eq (by kernel_rfl) (of_decide_eq_true (by kernel_rfl)) k1 bel lt1) (trodAll_cons_mk (Below.trod laidOut_eq (by kernel_rfl) (of_decide_eq_true (by kernel_rfl)) k2 bel lt2) trodAll_mk0))), rfl, bel.frame _, fun h => by cases h⟩
theorem k10 : (Rows.guardLaterRow.inPlace == Try.prog.inPlace 9) = true := by kernel_rfl
theorem k11 : (Rows.guardLaterRow.unfollowed == Try.prog.unfollowed 9) = true := by kernel_rfl
theorem k12 : (Rows.guardLaterRow.recurses == Try.prog.recurses 9) = true := by kernel_rfl
theorem k13 : (Rows.guardLaterRow.named == Try.prog.varsNamed 9) = true := by kernel_rfl
theorem k23 : (Rows.guardLaterRow.plainKeys == Try.prog.plainKeys) = true := by kernel_rfl
theorem kfn : Try.pinned.checked.prog.funcNamed Rows.guardLaterRow.func = some 9 := by kernel_rfl
theorem closed : joinedFacts Try.prog 9 Try.f9 Rows.guardLaterSpec Rows.guardLaterRow = true :=
  joined_of (by kernel_rfl) laidOut_eq mapsRowed_eq (by kernel_rfl) (by kernel_rfl) rfl stops_eq rfl stopKnobs_eq k10 k11 k12 k13 (by kernel_rfl) (by kernel_rfl) (by kernel_rfl) (by kernel_rfl) (by kernel_rfl) (by kernel_rfl) (by kernel_rfl) (by kernel_rfl) (by kernel_rfl) k23 rfl heard_eq mayEnter_eq (by rw [lifts_eq]; rfl) (by rw [make_eq]; rfl) ⟨rfl, rfl⟩ (by kernel_rfl) (by kernel_rfl) (by kernel_rfl)
theorem over : Rows.guardLaterRow.holds Try.pinned (OpenSpec.ofChange Rows.guardLaterSpec) :=
  OpenClaim.holds_of_wide 9 Try.f9 rfl rfl rfl rfl rfl rfl rfl ⟨rfl, rfl, rfl, rfl, rfl⟩ rfl rfl rfl rfl rfl kfn Try.func9 closed
    (of_decide_eq_true (by kernel_rfl)) (by unfold Func.isWrapper; first | (rw [if_pos (by decide +kernel)]; kernel_rfl) | (rw [if_neg (by decide +kernel)]; exact ⟨rfl, rfl⟩))
    (fun os started H enc _ => lifted os started H enc)
theorem proved : Rows.GuardLaterSaid := over
#print axioms proved
end Go.Proofs.Ytigejdnjdajbhaa.guardLater
