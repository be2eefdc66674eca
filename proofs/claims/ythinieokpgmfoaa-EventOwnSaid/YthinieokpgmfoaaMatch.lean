/- slices.IndexFunc, ContainsFunc at []api.Clause; event.Has; query.some, Match: what they come to (walks). -/
import Derived.Test.YthinieokpgmfoaaStrs
import Derived.Test.YthinieokpgmfoaaQTypes
import Derived.Laws.EntriesVeiled
set_option linter.unusedVariables false
set_option linter.unusedSimpArgs false
namespace Go.Proofs.Ythinieokpgmfoaa
open Go.RowKit

abbrev SlC (w : World) (A : Option Addr) (c : Nat) (xs : List Clause) : Prop := Sl kClause (fun _ => True) w A c xs
/-- A function value on clauses. -/
def PredC (g : Nat) (lb : Array Value) (p : Clause → Bool) (w : World) : Prop := ∀ (x : Clause) (S T : Option Addr) (sa ta : Nat) (W : World), Below w.heap.size w W → SlS W S sa x.tags → SlS W T ta x.types →
  Calls Try.prog g (#[.agg #[.slice S x.tags.length sa, .slice T x.types.length ta]] ++ lb) W fun e w' => e = .returned (.bool (p x)) ∧ Below W.heap.size W w'

set_option maxHeartbeats 400000 in
theorem indexFuncC_any {A : Option Addr} {c : Nat} {xs : List Clause} {w : World} (h : SlC w A c xs) (g : Nat) (lb : Array Value) (p : Clause → Bool) (eg : ∀ (args : Array Value) (W : World), (callFunc g args).run Try.prog W = .ok (.enter g args) W) (hp : PredC g lb p w) :
    Calls Try.prog 82 #[.slice A xs.length c, .func (.func g) #[] lb] w fun e w' => ∃ i : Int, e = .returned (.int .i64 i) ∧ Below w.heap.size w w' ∧ -1 ≤ i ∧ decide (0 ≤ i) = xs.any p := by
  obtain ⟨h1, h2, h3⟩ := h
  unfold maxLen at h2
  have HP := Lib.hid hp
  clear hp
  go_enter Try.func82, Try.ntmps82
  go_wp2
  go_loopw [8] (fun i wr => ∃ k : Nat, k ≤ xs.length ∧ i = .int .i64 k ∧ Hid ((xs.take k).any p = false) ∧ Below w.heap.size w wr) (fun i _ => xs.length - (intOf i).toNat)
  case atStart => exact ⟨0, Nat.zero_le _, rfl, by exact rfl, Below.refl _ _⟩
  case round =>
    obtain ⟨k, hk, rfl, hn, hb⟩ := hrel
    by_cases hlt : k < xs.length
    · obtain ⟨ad, S, sa, T, ta, rfl, hx, hy, hS, hT⟩ := row_clause_at (h3.below hb) hlt
      generalize hye : xs[k] = y at hx hy hS hT
      have HY := Lib.hid hye
      clear hye
      go_wp2_with fail
      refine (HP.out y S T sa ta wr hb ⟨hS.1, hS.2.1, hS.2.2⟩ hT).mono ?_
      rintro e w1 ⟨rfl, hb1⟩
      cases hpy : p y
      · go_wp2
        go_roundw
        case rel => exact ⟨k + 1, by omega, by go_num, by show _ = false; rw [any_take_succ _ _ _ hlt, hn.out, HY.out, hpy]; rfl, bthen hb hb1⟩
        case measure => simp [intOf]; omega
      · go_wp2
        go_ret
        exact ⟨k, rfl, bthen hb hb1, by omega, by rw [any_of_at hlt (by rw [HY.out]; exact hpy)]; simp⟩
    · go_wp2
      go_ret
      obtain rfl : k = xs.length := by omega
      have h4 : (xs.take xs.length).any p = false := hn.out
      rw [List.take_length] at h4
      exact ⟨-1, rfl, hb, by omega, by rw [h4]; rfl⟩

theorem containsFuncC_any {A : Option Addr} {c : Nat} {xs : List Clause} {w : World} (h : SlC w A c xs) (g : Nat) (lb : Array Value) (p : Clause → Bool) (eg : ∀ (args : Array Value) (W : World), (callFunc g args).run Try.prog W = .ok (.enter g args) W) (hp : PredC g lb p w) :
    Calls Try.prog 68 #[.slice A xs.length c, .func (.func g) #[] lb] w fun e w' => e = .returned (.bool (xs.any p)) ∧ Below w.heap.size w w' := by
  have H := Lib.hid (indexFuncC_any h g lb p eg hp)
  clear hp
  go_enter Try.func68, Try.ntmps68
  go_wp2_with fail
  refine H.out.mono ?_
  rintro e w' ⟨i, rfl, hb, h1, h2⟩
  have H2 := Lib.hid h2
  clear h2
  go_wp2
  go_ret
  exact ⟨ret_bool H2.out, hb⟩

/-- An event as a value. -/
abbrev vEvent (e : Event) (A : Option Addr) (ca : Nat) (B : Option Addr) (cb : Nat) : Value := .agg #[.string e.stream, .string e.type, .slice A e.tags.length ca, .slice B e.fields.length cb]

theorem Has_any {e : Event} {A B : Option Addr} {ca cb : Nat} {w : World} (h : SlS w A ca e.tags) (s : ByteArray) :
    Calls Try.prog 26 #[vEvent e A ca B cb, .string s] w fun r w' => r = .returned (.bool (hasS s e.tags)) ∧ Below w.heap.size w w' := by
  have H := Lib.hid (fun o => containsS_any s (h.alloc o))
  go_enter Try.func26, Try.ntmps26
  go_wp2_with fail
  refine (H.out _).mono ?_
  rintro r w' ⟨rfl, rfl⟩
  go_wp2
  go_ret
  exact ⟨rfl, (Below.refl _ _).alloc (Nat.le_refl _) _⟩

theorem some_any {A : Option Addr} {c : Nat} {xs : List Clause} {w : World} (h : SlC w A c xs) (g : Nat) (lb : Array Value) (p : Clause → Bool) (eg : ∀ (args : Array Value) (W : World), (callFunc g args).run Try.prog W = .ok (.enter g args) W) (hp : PredC g lb p w) :
    Calls Try.prog 34 #[.agg #[.slice A xs.length c], .func (.func g) #[] lb] w fun e w' => e = .returned (.bool (xs.any p)) ∧ Below w.heap.size w w' := by
  have H := Lib.hid (fun (o : Obj) => containsFuncC_any (h.alloc o) g lb p eg (fun x S T sa ta W hb => hp x S T sa ta W (bthen ((Below.refl _ _).alloc (Nat.le_refl _) o) hb)))
  clear hp
  go_enter Try.func34, Try.ntmps34
  go_wp2_with fail
  refine (H.out _).mono ?_
  rintro r w' ⟨rfl, hb⟩
  go_wp2
  go_ret
  exact ⟨rfl, bthen ((Below.refl _ _).alloc (Nat.le_refl _) _) hb⟩

/-- An event in a block of its own. -/
structure EvBox (W : World) (b : Nat) (e : Event) (A : Option Addr) (ca : Nat) (B : Option Addr) (cb : Nat) : Prop where
  blk : W.heap[b]? = some (.cells #[.string e.stream, .string e.type, .slice A e.tags.length ca, .slice B e.fields.length cb] 28 (0, 0))
  tags : SlS W A ca e.tags
theorem EvBox.lt {W : World} {b : Nat} {e : Event} {A B : Option Addr} {ca cb : Nat} (h : EvBox W b e A ca B cb) : b < W.heap.size := (Array.getElem?_eq_some_iff.1 h.blk).1
theorem EvBox.below {W W' : World} {b : Nat} {e : Event} {A B : Option Addr} {ca cb : Nat} (h : EvBox W b e A ca B cb) (hb : Below W.heap.size W W') : EvBox W' b e A ca B cb := ⟨(hb.block _ h.lt).trans h.blk, h.tags.below hb⟩
theorem EvBox.cells {W : World} {b : Nat} {e : Event} {A B : Option Addr} {ca cb : Nat} (h : EvBox W b e A ca B cb) : W.cell? ⟨b, 0, none⟩ = some (.string e.stream) ∧ W.cell? ⟨b, 1, none⟩ = some (.string e.type) ∧ W.cell? ⟨b, 2, none⟩ = some (.slice A e.tags.length ca) ∧ W.cell? ⟨b, 3, none⟩ = some (.slice B e.fields.length cb) :=
  ⟨cell_of_row _ _ _ _ _ _ h.blk, cell_of_row _ _ _ _ _ _ h.blk, cell_of_row _ _ _ _ _ _ h.blk, cell_of_row _ _ _ _ _ _ h.blk⟩

theorem without_any {W : World} {b : Nat} {e : Event} {A B : Option Addr} {ca cb : Nat} (h : EvBox W b e A ca B cb) (s : ByteArray) :
    Calls Try.prog 36 #[.string s, .pointer (some ⟨b, 0, none⟩)] W fun r w' => r = .returned (.bool (!hasS s e.tags)) ∧ Below W.heap.size W w' := by
  obtain ⟨c0, c1, c2, c3⟩ := h.cells
  have H := Lib.hid (Has_any (B := B) (cb := cb) (e := e) h.tags s)
  go_enter Try.func36, Try.ntmps36
  go_wp2_with fail
  refine H.out.mono ?_
  rintro r w' ⟨rfl, hb⟩
  go_wp2
  go_ret
  exact ⟨rfl, hb⟩

/-- A clause is true of an event. -/
def clauseM (e : Event) (c : Clause) : Bool := c.tags.all (fun s => hasS s e.tags) && (c.types.isEmpty || hasS e.type c.types)
def matchM (q : List Clause) (e : Event) : Bool := q.any (clauseM e)
theorem any_not_all (e : Event) (l : List ByteArray) : l.any (fun s => !hasS s e.tags) = !l.all (fun s => hasS s e.tags) := by
  induction l with
  | nil => rfl
  | cons x l ih => simp [ih]

set_option maxHeartbeats 1000000 in
theorem clause_any {W : World} {b : Nat} {e : Event} {A B : Option Addr} {ca cb : Nat} (h : EvBox W b e A ca B cb) (x : Clause) {S T : Option Addr} {sa ta : Nat} (hS : SlS W S sa x.tags) (hT : SlS W T ta x.types) :
    Calls Try.prog 35 #[.agg #[.slice S x.tags.length sa, .slice T x.types.length ta], .pointer (some ⟨b, 0, none⟩)] W fun r w' => r = .returned (.bool (clauseM e x)) ∧ Below W.heap.size W w' := by
  have hal := fun o => (Below.refl W.heap.size W).alloc (Nat.le_refl _) o
  have H := Lib.hid (fun o => containsFuncS_any (hS.alloc o) 36 #[.pointer (some ⟨b, 0, none⟩)] (fun s => !hasS s e.tags) (enters_of Try.func36 (by kernel_rfl) rfl)
    (fun s W' hb => without_any (h.below (bthen (hal o) hb)) s))
  have HM : Hid (clauseM e x = (!(x.tags.any (fun s => !hasS s e.tags)) && (x.types.isEmpty || hasS e.type x.types))) := by rw [any_not_all]; simp [clauseM, Hid]
  have hlt := h.lt
  go_enter Try.func35, Try.ntmps35
  go_wp2_with fail
  refine (H.out _).mono ?_
  rintro r w1 ⟨rfl, hb⟩
  have hbW := bthen (hal _) hb
  have hx1 : w1.cell? ⟨W.heap.size, 1, none⟩ = some (.slice T x.types.length ta) := (hb.cell (p := ⟨W.heap.size, 1, none⟩) (by simp)).trans (cell_of_row _ _ _ _ _ _ (heap_alloc_new W _))
  obtain ⟨c0, c1, c2, c3⟩ := (h.below hbW).cells
  have hT1 := hT.below hbW
  cases ha : x.tags.any (fun s => !hasS s e.tags)
  · rw [ha] at HM
    cases ht : x.types with
    | nil =>
      rw [ht] at HM hx1
      have e0 : ((([] : List ByteArray).length : Int) == 0) = true := rfl
      go_wp2
      go_ret
      exact ⟨ret_bool (by rw [HM.out]; rfl), hbW⟩
    | cons y ys =>
      rw [ht] at HM hx1 hT1
      have e0 : ((ys.length : Int) + 1 == 0) = false := by rw [beq_eq_false_iff_ne]; omega
      go_wp2_with fail
      refine (containsS_any e.type hT1).mono ?_
      rintro r w2 ⟨rfl, rfl⟩
      go_wp2
      go_ret
      exact ⟨ret_bool (by rw [HM.out]; rfl), hbW⟩
  · rw [ha] at HM
    go_wp2
    go_ret
    exact ⟨ret_bool (by rw [HM.out]; rfl), hbW⟩

theorem Match_any {q : List Clause} {Q : Option Addr} {cq : Nat} {e : Event} {A B : Option Addr} {ca cb : Nat} {w : World} (hq : SlC w Q cq q) (h : SlS w A ca e.tags) :
    Calls Try.prog 14 #[.agg #[.slice Q q.length cq], vEvent e A ca B cb] w fun r w' => r = .returned (.bool (matchM q e)) ∧ Below w.heap.size w w' := by
  have ha := fun (o o' : Obj) => ((Below.refl w.heap.size w).alloc (Nat.le_refl _) o).alloc (by simp) o'
  have hbox : EvBox ((w.alloc (.cells #[.slice Q q.length cq] 24)).alloc (.cells #[.string e.stream, .string e.type, .slice A e.tags.length ca, .slice B e.fields.length cb] 28)) (w.heap.size + 1) e A ca B cb :=
    ⟨heap_alloc2_new w _ _, (h.alloc _).alloc _⟩
  have H := Lib.hid (some_any ((hq.alloc (.cells #[.slice Q q.length cq] 24)).alloc (.cells #[.string e.stream, .string e.type, .slice A e.tags.length ca, .slice B e.fields.length cb] 28)) 35 #[.pointer (some ⟨w.heap.size + 1, 0, none⟩)] (clauseM e)
    (enters_of Try.func35 (by kernel_rfl) rfl) (fun x S T sa ta W hb hS hT => clause_any (hbox.below hb) x hS hT))
  clear hbox
  go_enter Try.func14, Try.ntmps14
  go_wp2_with fail
  refine H.out.mono ?_
  rintro r w' ⟨rfl, hb⟩
  go_wp2
  go_ret
  exact ⟨rfl, bthen (ha _ _) hb⟩
end Go.Proofs.Ythinieokpgmfoaa
