/- StreamsPlays: the law's walk. -/
import Derived.Test.YteahpkihkfkpfaaLawStreamsRefuse
import Derived.Test.YteahpkihkfkpfaaRef12t
import Derived.Test.YteahpkihkfkpfaaTexts04
import Derived.Test.YteahpkihkfkpfaaTypes
import Derived.Deep.RegionHeld3
set_option linter.unusedVariables false
set_option linter.unusedSimpArgs false
namespace Go.Proofs.Yteahpkihkfkpfaa
open Go.RowKit Go.Maps

/-- A table and the reference's, beside one another. -/
structure Pq (w0 w : World) (b y N : Nat) (last : Int) (f : ByteArray → List Int) (ps : List At) : Prop where
  tb : ∃ m D A c, Tb w b m N D last f (fun k => k = y) ∧ Rt w y A c ps (fun k => k = b ∨ k = m) ∧ w0.heap.size ≤ m
  lo : w0.heap.size ≤ b
  ly : w0.heap.size ≤ y
  up : Below w0.heap.size w0 w
section
variable {w0 w w' : World} {b y N : Nat} {last : Int} {f : ByteArray → List Int} {ps : List At}
theorem Pq.ts (h : Pq w0 w b y N last f ps) : Ts w0 w b N last f := by
  obtain ⟨m, D, A, c, h1, h2, h3⟩ := h.tb
  exact ⟨⟨m, D, _, h1, h3⟩, h.lo, h.up⟩
theorem Pq.below (h : Pq w0 w b y N last f ps) (hb : Below w.heap.size w w') : Pq w0 w' b y N last f ps := by
  obtain ⟨m, D, A, c, h1, h2, h3⟩ := h.tb
  exact ⟨⟨m, D, A, c, h1.below hb, h2.below hb, h3⟩, h.lo, h.ly, bthen h.up hb⟩
theorem plStart (h : Ts w0 w b 0 0 (fun _ => [])) : Pq w0 (w.alloc (.cells #[.slice none 0 0] 71)) b w.heap.size 0 0 (fun _ => []) [] := by
  have hb : Below w.heap.size w (w.alloc (.cells #[.slice none 0 0] 71)) := (Below.refl _ _).alloc (Nat.le_refl _) _
  obtain ⟨m, D, X, h1, h2⟩ := h.tb
  have hbl := h1.bx.lt
  have hml := h1.mp.om.lt
  refine ⟨⟨m, D, none, 0, h1.fence hb (fun k hk => .inr ⟨by omega, by simp; omega⟩), ⟨Bx.new w _ [.slice none 0 0], Sl.nil_, by omega, fun k hk => by simp; omega⟩, h2⟩, h.lo, h.up.size, bthen h.up hb⟩
theorem plAdd (h : Pq w0 w b y N last f ps) (hN : N ≤ 900000) {s : ByteArray} (hs : s.size ≤ maxLen) {pos : Int} (hlt : last < pos) :
    Calls Try.prog 17 #[.pointer (some ⟨b, 0, none⟩), .string s, .int .i64 pos] w fun r w' => r = .returned (.tuple #[.int .i64 ((f s).length + 1), .int .i64 0]) ∧ Pq w0 w' b y (N + 1) pos (upd f s (f s ++ [pos])) ps := by
  obtain ⟨m, D, A, c, h1, h2, h3⟩ := h.tb
  refine (Add_any h1 hN hs pos).mono fun r w' hr => ?_
  obtain ⟨D', e, h5, h6⟩ := hr.2 hlt
  exact ⟨e, ⟨m, D', A, c, h5, h2.far h6, h3⟩, h.lo, h.ly, h6.below h.up h.up.size (fun k hk => hk.elim (fun e => e ▸ h.lo) (fun e => e ▸ h3))⟩
theorem plAddNo (h : Pq w0 w b y N last f ps) (hN : N ≤ 900000) {s : ByteArray} (hs : s.size ≤ maxLen) {pos : Int} (hle : pos ≤ last) :
    Calls Try.prog 17 #[.pointer (some ⟨b, 0, none⟩), .string s, .int .i64 pos] w fun r w' => r = .returned (.tuple #[.int .i64 0, .int .i64 1]) ∧ w = w' := cAddNo h.ts hN hs hle
theorem plRef (h : Pq w0 w b y N last f ps) (hl : ps.length ≤ 900000) (s : ByteArray) {pos : Int} (h1 : ¬ pos < 1) (h2 : ¬ pos ≤ lastP ps) :
    Calls Try.prog 38 #[.pointer (some ⟨y, 0, none⟩), .string s, .int .i64 pos] w fun r w' => r = .returned (.tuple #[.int .i64 (posF (ps ++ [(s, pos)]) s pos).length, .int .i64 0]) ∧ Pq w0 w' b y N last f (ps ++ [(s, pos)]) := by
  obtain ⟨m, D, A, c, h3, h4, h5⟩ := h.tb
  refine (refAdd_any h4 hl s pos).mono fun r w' hr => ?_
  obtain ⟨A', c', e, h6, h7⟩ := hr.2 h1 h2
  exact ⟨e, ⟨m, D, A', c', h3.far h7, h6, h5⟩, h.lo, h.ly, h7.below h.up h.up.size (fun k hk => hk ▸ h.ly)⟩
theorem plRefNo (h : Pq w0 w b y N last f ps) (hl : ps.length ≤ 900000) (s : ByteArray) {pos : Int} (h1 : pos < 1 ∨ pos ≤ lastP ps) :
    Calls Try.prog 38 #[.pointer (some ⟨y, 0, none⟩), .string s, .int .i64 pos] w fun r w' => r = .returned (.tuple #[.int .i64 0, .int .i64 1]) ∧ Pq w0 w' b y N last f ps := by
  obtain ⟨m, D, A, c, h3, h4, h5⟩ := h.tb
  refine (refAdd_any h4 hl s pos).mono fun r w' hr => ?_
  obtain ⟨e, n, rfl⟩ := hr.1 h1
  exact ⟨e, h.below (below_drewN (Below.refl _ _) n)⟩
/-- Behind a copy: the elder table (m, D: its map), the copy. -/
structure Pc (w0 w : World) (b0 b y N : Nat) (last : Int) (f : ByteArray → List Int) (ps : List At) : Prop where
  tb : ∃ m0 D0 m D A c, Tb w b0 m0 N D0 last f (fun k => k = b ∨ k = m ∨ k = y) ∧ Tb w b m N D last f (fun k => k = b0 ∨ k = m0 ∨ k = y) ∧ Rt w y A c ps (fun k => k = b0 ∨ k = m0 ∨ k = b ∨ k = m) ∧ w0.heap.size ≤ m0 ∧ w0.heap.size ≤ m
  lo0 : w0.heap.size ≤ b0
  lo : w0.heap.size ≤ b
  ly : w0.heap.size ≤ y
  up : Below w0.heap.size w0 w
theorem plClone (h : Pq w0 w b y N last f ps) : Calls Try.prog 29 #[.pointer (some ⟨b, 0, none⟩)] w fun r w' => ∃ b2, r = .returned (.pointer (some ⟨b2, 0, none⟩)) ∧ Pc w0 w' b b2 y N last f ps := by
  obtain ⟨m, D, A, c, h1, h2, h3⟩ := h.tb
  refine (Clone_any h1).mono fun r w' hr => ?_
  obtain ⟨b2, m2, e, h4, h5, hb, h6, h7⟩ := hr
  have hs := h.up.size
  have hl6 := h6.bx.lt
  have hm6 := h6.mp.om.lt
  refine ⟨b2, e, ⟨⟨m, D, m2, D, A, c, h7, h6, h2.fence hb (fun k hk => ?_), h3, by omega⟩, h.lo, by omega, h.ly, bthen h.up hb⟩⟩
  rcases hk with hk | hk | hk | hk
  · exact .inl (.inl hk)
  · exact .inl (.inr hk)
  · exact .inr ⟨by omega, by omega⟩
  · exact .inr ⟨by omega, by omega⟩
theorem plOld {b0 : Nat} (h : Pc w0 w b0 b y N last f ps) (hN : N ≤ 900000) {s : ByteArray} (hs : s.size ≤ maxLen) (pos : Int) :
    Calls Try.prog 17 #[.pointer (some ⟨b0, 0, none⟩), .string s, .int .i64 pos] w fun r w' => (∃ v, r = .returned v) ∧ Pq w0 w' b y N last f ps := by
  obtain ⟨m0, D0, m, D, A, c, h1, h2, h3, h4, h5⟩ := h.tb
  refine (Add_any h1 hN hs pos).mono fun r w' hr => ?_
  by_cases hp : pos ≤ last
  · obtain ⟨e, rfl⟩ := hr.1 hp
    exact ⟨⟨_, e⟩, ⟨m, D, A, c, h2.less (fun k hk => .inr (.inr hk)), h3.less (fun k hk => .inr (.inr hk)), h5⟩, h.lo, h.ly, h.up⟩
  · obtain ⟨D', e, _, h6⟩ := hr.2 (by omega)
    have k2 : But (fun k => k = b0 ∨ k = m0 ∨ k = y) w w' := ⟨h6.os, h6.tape, h6.output, h6.size, fun k hk hn => h6.block k hk (fun h => hn (h.elim .inl (fun h => .inr (.inl h))))⟩
    have k3 : But (fun k => k = b0 ∨ k = m0 ∨ k = b ∨ k = m) w w' := ⟨h6.os, h6.tape, h6.output, h6.size, fun k hk hn => h6.block k hk (fun h => hn (h.elim .inl (fun h => .inr (.inl h))))⟩
    exact ⟨⟨_, e⟩, ⟨m, D, A, c, (h2.far k2).less (fun k hk => .inr (.inr hk)), (h3.far k3).less (fun k hk => .inr (.inr hk)), h5⟩, h.lo, h.ly, h6.below h.up h.up.size (fun k hk => hk.elim (fun e => e ▸ h.lo0) (fun e => e ▸ h4))⟩
end

section
variable {w0 w w' : World} {b y N : Nat} {last : Int} {f : ByteArray → List Int} {ps : List At}
theorem plRefNames (h : Pq w0 w b y N last f ps) (hl : ps.length ≤ 900000) : Calls Try.prog 40 #[.pointer (some ⟨y, 0, none⟩)] w fun r w' => ∃ A' c' ns, r = .returned (.slice A' ns.length c') ∧ Sl Kn.str (fun _ => True) w' A' c' ns ∧ ns.Pairwise ltB ∧ (∀ x, x ∈ ns ↔ x ∈ ps.map (·.1)) ∧ Below w.heap.size w w' := by
  obtain ⟨m, D, A, c, h3, h4, h5⟩ := h.tb
  exact (refNames_any h4 (by omega)).mono fun r w' ⟨A', c', ns, e, h6, h7⟩ => ⟨A', c', ns, e, h6.any, h7⟩
theorem plRefPos (h : Pq w0 w b y N last f ps) (hl : ps.length ≤ 900000) (s : ByteArray) (x : Int) : Calls Try.prog 41 #[.pointer (some ⟨y, 0, none⟩), .string s, .int .i64 x] w fun r w' => ∃ A' c', r = .returned (.slice A' (posF ps s x).length c') ∧ Sl (Kn.int .i64) (fun _ => True) w' A' c' (posF ps s x) ∧ Below w.heap.size w w' := by
  obtain ⟨m, D, A, c, h3, h4, h5⟩ := h.tb
  exact (refPositions_any h4 (by omega) s x).mono fun r w' ⟨A', c', e, h6, h7⟩ => ⟨A', c', e, h6.any, h7⟩
theorem cTexts {w : World} {A B : Option Addr} {ca cb : Nat} {a : List ByteArray} (ha : Sl Kn.str (fun _ => True) w A ca a) (hb : Sl Kn.str (fun _ => True) w B cb a) : Calls Try.prog 39 #[.slice A a.length ca, .slice B a.length cb] w fun e w' => e = .returned (.bool true) ∧ Below w.heap.size w w' :=
  (Texts_any A B ca cb a a w ha.1 hb.1 ha.2.1 hb.2.1 ha.2.2 hb.2.2).mono fun r w' ⟨e, n, h⟩ => ⟨by rw [e]; simp, h ▸ below_drewN (Below.refl _ _) n⟩
theorem cIntsEq {w : World} {A B : Option Addr} {ca cb : Nat} {a : List Int} (ha : Sl (Kn.int .i64) (fun _ => True) w A ca a) (hb : Sl (Kn.int .i64) (fun _ => True) w B cb a) : Calls Try.prog 28 #[.slice A a.length ca, .slice B a.length cb] w fun e w' => e = .returned (.bool true) ∧ Below w.heap.size w w' :=
  (Ints_any A B ca cb a a w ha.1 hb.1 ha.2.1 hb.2.1 ha.2.2 hb.2.2).mono fun r w' ⟨e, n, h⟩ => ⟨by rw [e]; simp, h ▸ below_drewN (Below.refl _ _) n⟩
end
/-- What the two say is one. -/
structure Corr (N : Nat) (last : Int) (f : ByteArray → List Int) (ps : List At) : Prop where
  at_ : ∀ s, f s = (ps.filter (fun a => decide (a.1 = s))).map (·.2)
  lst : lastP ps = last
  nn : 0 ≤ last
  len : ps.length = N
theorem Corr.start : Corr 0 0 (fun _ => []) [] := ⟨fun _ => rfl, rfl, by omega, rfl⟩
theorem Corr.step {N : Nat} {last : Int} {f : ByteArray → List Int} {ps : List At} (h : Corr N last f ps) (s : ByteArray) {pos : Int} (hlt : last < pos) : Corr (N + 1) pos (upd f s (f s ++ [pos])) (ps ++ [(s, pos)]) := by
  refine ⟨fun t => ?_, by simp [lastP], by have := h.nn; omega, by simp [h.len]⟩
  rw [List.filter_append, List.map_append]
  by_cases ht : t = s
  · subst ht
    rw [upd_same, h.at_ t]
    simp
  · rw [upd_other _ _ ht, h.at_ t]
    simp [Ne.symm ht]
theorem Corr.mm {N : Nat} {last : Int} {f : ByteArray → List Int} {ps : List At} (h : Corr N last f ps) (x : ByteArray) : x ∈ ps.map (·.1) ↔ f x ≠ [] := by
  rw [h.at_ x, List.mem_map]
  constructor
  · rintro ⟨a, ha, rfl⟩ he
    have : a.2 ∈ (ps.filter (fun a' => decide (a'.1 = a.1))).map (·.2) := List.mem_map.2 ⟨a, List.mem_filter.2 ⟨ha, by simp⟩, rfl⟩
    rw [he] at this
    cases this
  · intro hne
    obtain ⟨p, hp⟩ := List.exists_mem_of_ne_nil _ hne
    obtain ⟨a, ha, _⟩ := List.mem_map.1 hp
    obtain ⟨h1, h2⟩ := List.mem_filter.1 ha
    exact ⟨a, h1, by simpa using h2⟩
theorem Corr.pf {N : Nat} {last : Int} {f : ByteArray → List Int} {ps : List At} (h : Corr N last f ps) (s : ByteArray) (x : Int) : posF ps s x = (f s).filter (fun p => decide (p ≤ x)) := by
  rw [h.at_ s, List.filter_map, List.filter_filter]
  unfold posF
  congr 1
  exact List.filter_congr (fun a _ => by simp [hit, Bool.and_comm])
theorem take_upTo {l : List Int} (hr : l.Pairwise (· < ·)) (x : Int) : l.take (upTo l x) = l.filter (fun p => decide (p ≤ x)) := by
  induction l with
  | nil => rfl
  | cons y l ih =>
    rw [List.pairwise_cons] at hr
    rw [upTo_cons, List.filter_cons]
    by_cases h : y ≤ x
    · rw [if_pos h, if_pos (by simpa using h), Nat.add_comm, List.take_succ_cons, ih hr.2]
    · rw [if_neg h, if_neg (by simpa using h), Nat.zero_add, ← ih hr.2, upTo_none (fun p hp => by have := hr.1 p hp; omega)]
      rfl

theorem opAt : Opens Try.prog 73 kField goodField :=
  Opens.struct (d := kField) (good := fun (y : ByteArray × Int) => gS y.1 ∧ gN y.2) Try.underlying73 (by kernel_rfl) (OpensFs.cons (good := gS) (good' := gN) (d := Kn.str) opStr (by kernel_rfl) (OpensFs.last opInt (by kernel_rfl)))
theorem opAts : Opens Try.prog 68 (Kn.slice kField) (fun q => ∀ c ∈ q, goodField c) := Opens.slice Try.underlying68 (by kernel_rfl) (by decide) opAt
def sZZ : ByteArray := ⟨#[122, 122]⟩
set_option maxHeartbeats 2000000 in
set_option maxRecDepth 4000 in
theorem streamsPlays_walk (w : World) (A : Option Addr) (c : Nat) (l : List At) (h : Sl kField (fun _ => True) w A c l) (hg : ∀ x ∈ l, goodField x) (stream : ByteArray) (hs : stream.size ≤ maxLen) (upto : Int) (hu : (Lit.int .i64 upto).wf = true) :
    Calls Try.prog 12 #[.slice A l.length c, .string stream, .int .i64 upto] w fun r w' => r = .returned (.bool true) ∧ Below w.heap.size w w' := by
  have HS := Lib.hid (shown12 w)
  have HL := Lib.hid h
  have HG := Lib.hid hs
  have hc1 := h.1
  have hc2 := h.2.1
  unfold maxLen at hc2
  clear h hs hu
  go_enter Try.func12, Try.ntmps12
  go_wp2_with (first | (go_at_call 14; refine HS.out.mono ?_; rintro r w1 ⟨rfl, h1⟩) | (go_at_call 15; refine (cNew h1).mono ?_; rintro r w2 ⟨b, rfl, h2⟩; have H2 := Lib.hid (plStart h2); clear h2))
  generalize w2.heap.size = y at *
  clear h1
  go_loopw [8, 10] (fun t i wr => ∃ (k b N : Nat) (last : Int) (f : ByteArray → List Int) (ps : List At), k ≤ l.length ∧ k ≤ 80 ∧ t = .pointer (some ⟨b, 0, none⟩) ∧ i = .int .i64 k ∧ N ≤ k ∧ Pq w wr b y N last f ps ∧ Corr N last f ps) (fun _ i _ => l.length - (intOf i).toNat)
  case atStart => exact ⟨0, b, 0, 0, _, [], by omega, by omega, rfl, rfl, by omega, H2.out, Corr.start⟩
  case round =>
    obtain ⟨k, b, N, last, f, ps, hkl, hk8, rfl, rfl, hNk, hP, hC⟩ := hrel
    have HP := Lib.hid hP
    have HC := Lib.hid hC
    clear hP hC
    by_cases hlt : k < l.length ∧ k < 80
    · obtain ⟨hlt, hlt8⟩ := hlt
      obtain ⟨ad, rfl, _, _⟩ := row_field_at (HL.out.below HP.out.up).2.2 hlt
      have HF := Lib.hid (fun W (hW : Below w.heap.size w W) => show W.cell? (ad.add (k * 2)) = some (.string l[k].1) ∧ W.cell? ⟨(ad.add (k * 2)).block, (ad.add (k * 2)).off + 1, none⟩ = some (.int .i64 l[k].2) by
        obtain ⟨ad', e, h1, h2⟩ := row_field_at (HL.out.below hW).2.2 hlt
        have : ad = ad' := Option.some.inj e
        subst this
        exact ⟨h1, h2⟩)
      have hgf := hg _ (List.getElem_mem hlt)
      have hsz := hgf.1
      generalize l[k].1 = s at *
      generalize l[k].2 = pos at *
      go_upto_if 40 with fail
      go_cut [8] (fun t wx => ∃ b', t = .pointer (some ⟨b', 0, none⟩) ∧ Pq w wx b' y N last f ps)
      case first =>
        go_wp2_with (first | (go_at_call 29; go_fit (plClone HP.out); rintro r w3 ⟨b2, rfl, h3⟩; have H3 := Lib.hid h3; clear h3) | (go_at_call 17; go_fit (plOld H3.out (by omega) (s := sZZ) (by decide) 1099511627776); rintro r w4 ⟨⟨v, rfl⟩, h4⟩; have H4 := Lib.hid h4; clear h4))
        all_goals go_meet
        all_goals first | exact ⟨b2, rfl, H4.out⟩ | exact ⟨b, rfl, HP.out⟩
      case rest =>
        obtain ⟨b', rfl, hP'⟩ := hcut
        have HK : Hid (∀ W, Below w.heap.size w W → Below w.heap.size w W ∧ W.cell? (ad.add (k * 2)) = some (.string s) ∧ W.cell? ⟨(ad.add (k * 2)).block, (ad.add (k * 2)).off + 1, none⟩ = some (.int .i64 pos)) := Lib.hid (fun W hW => ⟨hW, HF.out W hW⟩)
        have HP1 := Lib.hid (hP'.below (below_drawn (Below.refl wc.heap.size wc)))
        clear hP' HF
        have hlen := HC.out.len
        have b1 : (0 : Int) ≤ (k : Int) := Int.natCast_nonneg _
        have b2 : (k : Int) < (l.length : Int) := by omega
        by_cases hpos : pos ≤ last
        · have C1 := Lib.hid (plAddNo HP1.out (by omega) hsz hpos)
          have C2 := Lib.hid (fun W (hW : Pq w W b' y N last f ps) => plRefNo hW (by omega) s (pos := pos) (by rw [HC.out.lst]; exact .inr hpos))
          go_wp2_with fail
          go_region_held3 (fun W => Below w.heap.size w W ∧ W.cell? (ad.add (k * 2)) = some (.string s) ∧ W.cell? ⟨(ad.add (k * 2)).block, (ad.add (k * 2)).off + 1, none⟩ = some (.int .i64 pos)) (first | (assumption) | exact HK.out _ HP1.out.up) (first | (go_at_call 17; go_fit C1.out; rintro r w6 ⟨rfl, rfl⟩))
          all_goals
            go_wp2_with fail
            have HP2 := Lib.hid (HP1.out.below (below_drawn (Below.refl _ _)))
            go_region_held3 (fun W => Below w.heap.size w W ∧ W.cell? (ad.add (k * 2)) = some (.string s) ∧ W.cell? ⟨(ad.add (k * 2)).block, (ad.add (k * 2)).off + 1, none⟩ = some (.int .i64 pos)) (first | (assumption) | exact HK.out _ HP2.out.up | exact HK.out _ (Pq.up (by assumption))) (first | (go_at_call 38; go_fit (C2.out _ HP2.out); rintro r w7 ⟨rfl, h7⟩))
            all_goals
              go_wp2_with fail
              go_roundw
              case rel => exact ⟨k + 1, b', N, last, f, ps, by omega, by omega, rfl, by go_num, by omega, h7, HC.out⟩
              case measure => simp [intOf]; omega
        · have hlp : lastP ps = last := HC.out.lst
          have hnn := HC.out.nn
          have hrf : (posF (ps ++ [(s, pos)]) s pos).length = (f s).length + 1 := by
            rw [(HC.out.step s (by omega : last < pos)).pf, upd_same, List.filter_append]
            rw [List.filter_eq_self.2 (fun p hp => by have := HP1.out.ts.top s p hp; simp; omega)]
            simp
          have C1 := Lib.hid (plAdd HP1.out (by omega) hsz (pos := pos) (by omega))
          have C2 := Lib.hid (fun W N' l' f' (hW : Pq w W b' y N' l' f' ps) => plRef hW (by omega) s (pos := pos) (by omega) (by rw [hlp]; omega))
          have hfl := HP1.out.ts.len s
          rw [hrf] at C2
          have HCS := Lib.hid (HC.out.step s (by omega : last < pos))
          clear hrf
          generalize (f s).length = x at *
          go_wp2_with fail
          go_region_held3 (fun W => Below w.heap.size w W ∧ W.cell? (ad.add (k * 2)) = some (.string s) ∧ W.cell? ⟨(ad.add (k * 2)).block, (ad.add (k * 2)).off + 1, none⟩ = some (.int .i64 pos)) (first | (assumption) | exact HK.out _ HP1.out.up | exact HK.out _ (Pq.up (by assumption))) (first | (go_at_call 17; go_fit C1.out; rintro r w6 ⟨rfl, h6⟩))
          all_goals
            go_wp2_with fail
            have HP2 := Lib.hid (Pq.below h6 (below_drawn (Below.refl _ _)))
            go_region_held3 (fun W => Below w.heap.size w W ∧ W.cell? (ad.add (k * 2)) = some (.string s) ∧ W.cell? ⟨(ad.add (k * 2)).block, (ad.add (k * 2)).off + 1, none⟩ = some (.int .i64 pos)) (first | (assumption) | exact HK.out _ HP2.out.up | exact HK.out _ (Pq.up (by assumption))) (first | (go_at_call 38; go_fit (C2.out _ _ _ _ HP2.out); rintro r w7 ⟨rfl, h7⟩))
            all_goals
              go_wp2_with fail
              go_roundw
              case rel => exact ⟨k + 1, b', N + 1, pos, _, _, by omega, by omega, rfl, by go_num, by omega, h7, HCS.out⟩
              case measure => simp [intOf]; omega
    · have hlen := HC.out.len
      obtain ⟨L, hL⟩ : ∃ L, L = (f stream).take (upTo (f stream) upto) := ⟨_, rfl⟩
      have hLp : posF ps stream upto = L := by rw [HC.out.pf, hL, take_upTo (HP.out.ts.rise stream)]
      have hLn : upTo (f stream) upto = L.length := by rw [hL, List.length_take]; have := upTo_le (f stream) upto; omega
      have C6 : Hid (∀ W, Pq w W b y N last f ps → Calls Try.prog 18 #[.pointer (some ⟨b, 0, none⟩), .string stream, .int .i64 upto] W fun r w' => ∃ A' c', r = .returned (.slice A' L.length c') ∧ Sl (Kn.int .i64) (fun _ => True) w' A' c' L ∧ Below W.heap.size W w') :=
        Lib.hid (fun W hW => (cPositions hW.ts (by omega) HG.out upto).mono fun r w' ⟨A', c', e, h1, _, h2⟩ => ⟨A', c', by rw [hL]; exact e, by rw [hL]; exact h1, h2⟩)
      have C7 : Hid (∀ W, Pq w W b y N last f ps → Calls Try.prog 16 #[.pointer (some ⟨b, 0, none⟩), .string stream, .int .i64 upto] W fun r w' => r = .returned (.int .i64 L.length) ∧ W = w') :=
        Lib.hid (fun W hW => (cVersion hW.ts (by omega) HG.out upto).mono fun r w' ⟨e, h1⟩ => ⟨by rw [← hLn]; exact e, h1⟩)
      have C8 : Hid (∀ W, Pq w W b y N last f ps → Calls Try.prog 41 #[.pointer (some ⟨y, 0, none⟩), .string stream, .int .i64 upto] W fun r w' => ∃ A' c', r = .returned (.slice A' L.length c') ∧ Sl (Kn.int .i64) (fun _ => True) w' A' c' L ∧ Below W.heap.size W w') :=
        Lib.hid (fun W hW => (plRefPos hW (by omega) stream upto).mono fun r w' ⟨A', c', e, h1, h2⟩ => ⟨A', c', by rw [← hLp]; exact e, by rw [← hLp]; exact h1, h2⟩)
      clear hL hLp hLn
      by_cases hk1 : k < l.length
      · obtain rfl : k = 80 := by omega
        go_wp2_with (first
          | (go_at_call 16; go_fit (C7.out _ HP9.out); rintro r w10 ⟨rfl, rfl⟩)
          | (go_at_call 41; go_fit (C8.out _ HP9.out); rintro r w11 ⟨Q11, c11, rfl, _, hb11⟩; have HB11 := Lib.hid hb11; clear hb11)
          | (go_at_call 28; go_fit (cIntsEq (HL7.out.below HB8.out) HL8.out); rintro r w9 ⟨rfl, hb9⟩; have HP9 := Lib.hid (HP8.out.below hb9); clear hb9)
          | (go_at_call 41; go_fit (C8.out _ HP7.out); rintro r w8 ⟨Q8, c8, rfl, hs8, hb8⟩; have HP8 := Lib.hid (HP7.out.below hb8); have HB8 := Lib.hid hb8; have HL8 := Lib.hid hs8; clear hb8 hs8)
          | (go_at_call 18; go_fit (C6.out _ HP6.out); rintro r w7 ⟨Q7, c7, rfl, hs7, hb7⟩; have HP7 := Lib.hid (HP6.out.below hb7); have HL7 := Lib.hid hs7; clear hb7 hs7)
          | (go_at_call 39; go_fit (cTexts (HN4.out.below HB5.out) HN5.out); rintro r w6 ⟨rfl, hb6⟩; have HP6 := Lib.hid (HP5.out.below hb6); clear hb6)
          | (go_at_call 40; go_fit (plRefNames HP4.out (by omega)); rintro r w5 ⟨B5, cb5, ns5, rfl, hs5, hr5, hm5, hb5⟩; obtain rfl := riseB_eq hr5 HM4.out.rise (fun x => (hm5 x).trans (HMM.out x)); have HP5 := Lib.hid (HP4.out.below hb5); have HB5 := Lib.hid hb5; have HN5 := Lib.hid hs5; clear hb5 hs5 hr5 hm5)
          | (go_at_call 37; go_fit (cNames HP.out.ts (by omega)); rintro r w4 ⟨B4, cb4, ns4, rfl, hs4, hn4, _, _, hb4⟩; have HP4 := Lib.hid (HP.out.below hb4); have HN4 := Lib.hid hs4; have HM4 := Lib.hid hn4; have HMM := Lib.hid (fun x => (HC.out.mm x).trans (hn4.mem x).symm); clear hb4 hs4 hn4))
        go_ret
        exact ⟨rfl, bthen HP9.out.up HB11.out⟩
      · obtain rfl : k = l.length := by omega
        go_wp2_with (first
          | (go_at_call 16; go_fit (C7.out _ HP9.out); rintro r w10 ⟨rfl, rfl⟩)
          | (go_at_call 41; go_fit (C8.out _ HP9.out); rintro r w11 ⟨Q11, c11, rfl, _, hb11⟩; have HB11 := Lib.hid hb11; clear hb11)
          | (go_at_call 28; go_fit (cIntsEq (HL7.out.below HB8.out) HL8.out); rintro r w9 ⟨rfl, hb9⟩; have HP9 := Lib.hid (HP8.out.below hb9); clear hb9)
          | (go_at_call 41; go_fit (C8.out _ HP7.out); rintro r w8 ⟨Q8, c8, rfl, hs8, hb8⟩; have HP8 := Lib.hid (HP7.out.below hb8); have HB8 := Lib.hid hb8; have HL8 := Lib.hid hs8; clear hb8 hs8)
          | (go_at_call 18; go_fit (C6.out _ HP6.out); rintro r w7 ⟨Q7, c7, rfl, hs7, hb7⟩; have HP7 := Lib.hid (HP6.out.below hb7); have HL7 := Lib.hid hs7; clear hb7 hs7)
          | (go_at_call 39; go_fit (cTexts (HN4.out.below HB5.out) HN5.out); rintro r w6 ⟨rfl, hb6⟩; have HP6 := Lib.hid (HP5.out.below hb6); clear hb6)
          | (go_at_call 40; go_fit (plRefNames HP4.out (by omega)); rintro r w5 ⟨B5, cb5, ns5, rfl, hs5, hr5, hm5, hb5⟩; obtain rfl := riseB_eq hr5 HM4.out.rise (fun x => (hm5 x).trans (HMM.out x)); have HP5 := Lib.hid (HP4.out.below hb5); have HB5 := Lib.hid hb5; have HN5 := Lib.hid hs5; clear hb5 hs5 hr5 hm5)
          | (go_at_call 37; go_fit (cNames HP.out.ts (by omega)); rintro r w4 ⟨B4, cb4, ns4, rfl, hs4, hn4, _, _, hb4⟩; have HP4 := Lib.hid (HP.out.below hb4); have HN4 := Lib.hid hs4; have HM4 := Lib.hid hn4; have HMM := Lib.hid (fun x => (HC.out.mm x).trans (hn4.mem x).symm); clear hb4 hs4 hn4))
        go_ret
        exact ⟨rfl, bthen HP9.out.up HB11.out⟩
end Go.Proofs.Yteahpkihkfkpfaa
