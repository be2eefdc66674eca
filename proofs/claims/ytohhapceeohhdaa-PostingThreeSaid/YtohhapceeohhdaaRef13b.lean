/- registrarlaw13.rising, registrarref13.Either: what they come to (walks). -/
import Derived.Test.YtohhapceeohhdaaProg
import Derived.Test.YtohhapceeohhdaaRef12a
set_option linter.unusedVariables false
set_option linter.unusedSimpArgs false
namespace Go.Proofs.Ytohhapceeohhdaa
open Go.RowKit

theorem rise_snoc {r : List Int} {z x : Int} (h : Rise (r ++ [z])) (hx : z < x) : Rise (r ++ [z] ++ [x]) := by
  refine List.pairwise_append.2 ⟨h, by simp, fun a ha b hb => ?_⟩
  have : b = x := by simpa using hb
  subst this
  rcases List.mem_append.1 ha with h1 | h1
  · have := (List.pairwise_append.1 h).2.2 a h1 z (by simp); omega
  · have : a = z := by simpa using h1
    omega

set_option maxHeartbeats 1000000 in
theorem rising_any (A : Option Addr) (ca : Nat) (a : List Int) (w : World) (hca : a.length ≤ ca) (hma : ca ≤ maxLen) (ha : Row (Kn.int .i64) (fun _ => True) w A a) :
    Calls Try.prog 36 #[.slice A a.length ca] w fun e w' =>
      ∃ v r, e = .returned v ∧ Rise r ∧ r.length ≤ 60 ∧ Own (Kn.int .i64) 3 w.heap.size (fun _ => False) w' v r ∧ Below w.heap.size w w' := by
  unfold maxLen at hma
  go_enter Try.func36, Try.ntmps36
  go_wp2
  go_loopw [3, 4] (fun v i wr => ∃ (k : Nat) (r : List Int), k ≤ 60 ∧ k ≤ a.length ∧ i = .int .i64 k ∧ Rise r ∧ r.length ≤ k ∧ Own (Kn.int .i64) 3 w.heap.size (fun _ => False) wr v r ∧ Below w.heap.size w wr) (fun _ i _ => a.length - (intOf i).toNat)
  case atStart => exact ⟨0, [], Nat.zero_le _, Nat.zero_le _, rfl, List.Pairwise.nil, Nat.zero_le _, Own.lit0 _ _ _ _ _ (Nat.le_refl _), (Below.refl _ _).alloc (Nat.le_refl _) _⟩
  case round =>
    obtain ⟨k, r, hk60, hk, rfl, hr, hrk, hown, hbel⟩ := hrel
    by_cases hlt : k < a.length ∧ k < 60
    · obtain ⟨hlt, h60⟩ := hlt
      obtain ⟨ad, rfl, hx⟩ := row_int_at (ha.below hbel) hlt
      generalize hye : a[k] = y at hx
      clear hye
      rcases List.eq_nil_or_concat r with rfl | ⟨r, z, rfl⟩
      · obtain ⟨B, c, rfl, _, _, _⟩ := hown.reads
        go_wp2
        go_quiet (fail)
        go_wp2_with (at_builtin; refine wpList_push rfl _ _ _ rfl 3 _ 1 8 Try.underlying22 infoInt rfl (by decide) (by decide) rfl w.heap.size (fun _ => False) _ [] rfl (hown.drewN _) y _ rfl rfl hbel.size (by simp) ?_; intro v1 w1 hown1 hg1 hat1 hbel1)
        go_roundw
        case rel => exact ⟨k + 1, [y], by omega, by omega, by go_num, by simp, by simp, by simpa using hown1, hbel1 _ (below_drewN hbel _)⟩
        case measure => simp [intOf]; omega
      · rw [List.concat_eq_append] at *
        obtain ⟨B, c, rfl, hc1, hc2, hrow⟩ := hown.reads
        obtain ⟨bd, rfl, hz⟩ := row_int_at hrow (j := r.length) (by simp)
        rw [List.getElem_append_right (Nat.le_refl _)] at hz
        simp only [Nat.sub_self, List.getElem_cons_zero] at hz
        have e0 : ((r.length : Int) + 1 == 0) = false := by rw [beq_eq_false_iff_ne]; omega
        have hlr : (r ++ [z]).length = r.length + 1 := by simp
        rw [hlr] at hown hrk hc1 ⊢
        unfold maxLen at hc2
        have hrl : r.length ≤ 60 := by omega
        have ew : IntKind.i64.wrap (r.length : Int) = (r.length : Int) := IntWalk.i64_in _ (by omega)
        go_wp2
        go_quiet (fail)
        by_cases hzy : z < y
        · go_wp2_with (at_builtin; refine wpList_push rfl _ _ _ rfl 3 _ 1 8 Try.underlying22 infoInt rfl (by decide) (by decide) rfl w.heap.size (fun _ => False) _ (r ++ [z]) rfl (hown.drewN _) y _ rfl rfl hbel.size (by simp; omega) ?_; intro v1 w1 hown1 hg1 hat1 hbel1)
          go_roundw
          case rel => exact ⟨k + 1, r ++ [z] ++ [y], by omega, by omega, by go_num, rise_snoc hr hzy, by simp; omega, hown1, hbel1 _ (below_drewN hbel _)⟩
          case measure => simp [intOf]; omega
        · go_wp2
          go_roundw
          case rel => exact ⟨k + 1, r ++ [z], by omega, by omega, by go_num, hr, by simp; omega, hown.drewN _, below_drewN hbel _⟩
          case measure => simp [intOf]; omega
    · by_cases hl : k < a.length
      · have h60 : ¬ k < 60 := fun h => hlt ⟨hl, h⟩
        go_wp2
        go_ret
        exact ⟨_, r, rfl, hr, by omega, hown, hbel⟩
      · go_wp2
        go_ret
        exact ⟨_, r, rfl, hr, by omega, hown, hbel⟩

def loOf (b : List Int) (k : Nat) : Option Int := if k = 0 then none else b[k - 1]?
def midF (a : List Int) (lo : Option Int) (y : Int) : List Int := a.filter (fun x => decide (x < y) && lo.all (fun l => decide (l < x)))
def endF (a : List Int) (lo : Option Int) : List Int := a.filter (fun x => lo.all (fun l => decide (l < x)))
theorem refE_nil (a : List Int) (lo : Option Int) : refE a lo [] = endF a lo := rfl
theorem refE_cons (a : List Int) (lo : Option Int) (y : Int) (b : List Int) : refE a lo (y :: b) = midF a lo y ++ y :: refE a (some y) b := rfl
theorem midF_snoc (a : List Int) (x : Int) (lo : Option Int) (y : Int) : midF (a ++ [x]) lo y = midF a lo y ++ if (decide (x < y) && lo.all (fun l => decide (l < x))) = true then [x] else [] := by
  unfold midF; rw [List.filter_append]; congr 1; simp only [List.filter_cons, List.filter_nil]
theorem endF_snoc (a : List Int) (x : Int) (lo : Option Int) : endF (a ++ [x]) lo = endF a lo ++ if lo.all (fun l => decide (l < x)) = true then [x] else [] := by
  unfold endF; rw [List.filter_append]; congr 1; simp only [List.filter_cons, List.filter_nil]
theorem midF_le (a : List Int) (lo : Option Int) (y : Int) : (midF a lo y).length ≤ a.length := List.length_filter_le _ _
theorem endF_le (a : List Int) (lo : Option Int) : (endF a lo).length ≤ a.length := List.length_filter_le _ _

/-- The outer loop's state. -/
def EitherAt (a b : List Int) (w : World) (v i : Value) (wr : World) : Prop := ∃ (k : Nat) (done : List Int), k ≤ b.length ∧ i = .int .i64 k ∧ done ++ refE a (loOf b k) (b.drop k) = refE a none b ∧
  done.length ≤ k * (a.length + 1) ∧ Own (Kn.int .i64) 3 w.heap.size (fun _ => False) wr v done ∧ Below w.heap.size w wr

set_option maxHeartbeats 8000000 in
set_option maxRecDepth 100000 in
theorem refEither_any (A B : Option Addr) (ca cb : Nat) (a b : List Int) (w : World) (hca : a.length ≤ ca) (hcb : b.length ≤ cb) (hma : ca ≤ maxLen) (hmb : cb ≤ maxLen)
    (ha : Row (Kn.int .i64) (fun _ => True) w A a) (hb : Row (Kn.int .i64) (fun _ => True) w B b) (hla : a.length ≤ 1000000) (hlb : b.length ≤ 1000000) :
    Calls Try.prog 41 #[.slice A a.length ca, .slice B b.length cb] w fun e w' =>
      ∃ v, e = .returned v ∧ Own (Kn.int .i64) 3 w.heap.size (fun _ => False) w' v (refE a none b) ∧ Below w.heap.size w w' := by
  unfold maxLen at hma hmb
  go_enter Try.func41, Try.ntmps41
  go_wp2
  go_loopw [5, 6] (fun v i wr => EitherAt a b w v i wr) (fun _ i _ => b.length - (intOf i).toNat)
  case atStart => exact ⟨0, [], Nat.zero_le _, rfl, by simp [loOf], by simp, Own.lit0 _ _ _ _ _ (Nat.le_refl _), (Below.refl _ _).alloc (Nat.le_refl _) _⟩
  case round =>
    obtain ⟨k, done, hk, rfl, hdone, hdl, hown, hbel⟩ := hrel
    by_cases hlt : k < b.length
    · have hdk : k * (a.length + 1) ≤ 1000000 * 1000001 := Nat.mul_le_mul (by omega) (by omega)
      obtain ⟨bd, rfl, hy⟩ := row_int_at (hb.below hbel) hlt
      have hz : ∀ k0, k = k0 + 1 → ∃ z, b[k0]? = some z ∧ wr.cell? (bd.add k0) = some (.int .i64 z) := by
        intro k0 e
        obtain ⟨bd', e', hz⟩ := row_int_at (hb.below hbel) (j := k0) (by omega)
        injection e' with e'
        subst e'
        exact ⟨_, List.getElem?_eq_getElem (by omega), hz⟩
      have hnext : done ++ midF a (loOf b k) b[k] ++ [b[k]] ++ refE a (loOf b (k + 1)) (b.drop (k + 1)) = refE a none b := by
        rw [← hdone, List.drop_eq_getElem_cons hlt, refE_cons]
        simp [loOf, hlt]
      generalize hye : b[k] = y at hy hnext
      have HN := Lib.hid hnext
      have HY := Lib.hid hye
      have HD := Lib.hid hdone
      clear hye hnext hdone
      have hbr : Below wr.heap.size wr wr := Below.refl _ _
      go_wp2
      obtain ⟨wo, hwo⟩ : ∃ wo : World, wo = wr := ⟨_, rfl⟩
      go_loopw [5, 7] (fun v j wq => ∃ m : Nat, m ≤ a.length ∧ j = .int .i64 m ∧ Own (Kn.int .i64) 3 w.heap.size (fun _ => False) wq v (done ++ midF (a.take m) (loOf b k) y) ∧ Below w.heap.size w wq ∧ Below w.heap.size wo wq) (fun _ j _ => a.length - (intOf j).toNat)
      case atStart => exact ⟨0, Nat.zero_le _, rfl, by simpa [midF] using hown, hbel, by rw [hwo]; exact Below.refl _ _⟩
      case round =>
        subst hwo
        obtain ⟨m, hm, rfl, hown2, hbel2, hbo⟩ := hrel
        by_cases hltm : m < a.length
        · obtain ⟨ad, rfl, hx⟩ := row_int_at (ha.below hbel2) hltm
          have hb2 := (hb.below hbel2)
          obtain ⟨bd', e', hy2⟩ := row_int_at hb2 hlt
          injection e' with e'
          subst e'
          rw [HY.out] at hy2
          generalize hxe : a[m] = x at hx
          have HS := Lib.hid (show a.take (m + 1) = a.take m ++ [x] by rw [List.take_succ_eq_append_getElem hltm, hxe])
          clear hxe
          have hmf : (done ++ midF (a.take m) (loOf b k) y).length ≤ 1000000 * 1000001 + 1000000 := by
            have := midF_le (a.take m) (loOf b k) y
            rw [List.length_take] at this
            rw [List.length_append]; omega
          have HG := Lib.hid (show done ++ midF (a.take m ++ [x]) (loOf b k) y = (done ++ midF (a.take m) (loOf b k) y) ++ if (decide (x < y) && (loOf b k).all (fun l => decide (l < x))) = true then [x] else [] by rw [midF_snoc, List.append_assoc])
          generalize done ++ midF (a.take m) (loOf b k) y = dd at hown2 hmf HG
          by_cases hk0 : k = 0
          · have e0 : ((k : Int) == 0) = true := by rw [hk0]; rfl
            have HK0 := Lib.hid hk0
            have hall : (loOf b k).all (fun l => decide (l < x)) = true := by simp [loOf, hk0]
            rw [hall] at HG
            clear hk0 hall
            by_cases hxy : x < y
            · rw [decide_eq_true hxy] at HG
              have hxy' : decide (x < y) = true := decide_eq_true hxy
              go_wp2
              go_quiet (fail)
              go_wp2
              go_quiet (fail)
              go_wp2_with (at_builtin; refine wpList_push rfl _ _ _ rfl 3 _ 1 8 Try.underlying22 infoInt rfl (by decide) (by decide) rfl w.heap.size (fun _ => False) _ dd rfl (hown2.drewN _) x _ rfl rfl hbel2.size (by omega) ?_; intro v1 w1 hown1 hg1 hat1 hbel1)
              go_roundw
              case rel => exact ⟨m + 1, by omega, by go_num, by rw [HS.out, HG.out]; simpa using hown1, hbel1 _ (below_drewN hbel2 _), hbel1 _ (below_drewN hbo _)⟩
              case measure => simp [intOf]; omega
            · rw [decide_eq_false hxy] at HG
              have hxy' : decide (x < y) = false := decide_eq_false hxy
              go_wp2
              go_quiet (fail)
              go_wp2
              go_quiet (fail)
              go_wp2
              go_roundw
              case rel => exact ⟨m + 1, by omega, by go_num, by rw [HS.out, HG.out]; simpa using hown2.drewN _, below_drewN hbel2 _, below_drewN hbo _⟩
              case measure => simp [intOf]; omega
          · obtain ⟨k0, hkk⟩ : ∃ k0, k = k0 + 1 := ⟨k - 1, by omega⟩
            have e0 : ((k : Int) == 0) = false := by rw [beq_eq_false_iff_ne]; omega
            have ew : IntKind.i64.wrap ((k : Int) - 1) = (k0 : Int) := by rw [IntWalk.i64_in _ (by omega)]; omega
            have hk0b : k0 < b.length := by omega
            obtain ⟨bd', e', hz⟩ := row_int_at hb2 hk0b
            injection e' with e'
            subst e'
            generalize hze : b[k0] = z at hz
            have hall : (loOf b k).all (fun l => decide (l < x)) = decide (z < x) := by simp [loOf, hkk, List.getElem?_eq_getElem hk0b, hze]
            rw [hall] at HG
            clear hall hze hkk
            by_cases hxy : x < y
            · rw [decide_eq_true hxy] at HG
              by_cases hzx : z < x
              · rw [decide_eq_true hzx] at HG
                go_wp2
                go_quiet (fail)
                go_wp2
                go_quiet (fail)
                go_wp2_with (at_builtin; refine wpList_push rfl _ _ _ rfl 3 _ 1 8 Try.underlying22 infoInt rfl (by decide) (by decide) rfl w.heap.size (fun _ => False) _ dd rfl (hown2.drewN _) x _ rfl rfl hbel2.size (by omega) ?_; intro v1 w1 hown1 hg1 hat1 hbel1)
                go_roundw
                case rel => exact ⟨m + 1, by omega, by go_num, by rw [HS.out, HG.out]; simpa using hown1, hbel1 _ (below_drewN hbel2 _), hbel1 _ (below_drewN hbo _)⟩
                case measure => simp [intOf]; omega
              · rw [decide_eq_false hzx] at HG
                have hzx' : decide (z < x) = false := decide_eq_false hzx
                go_wp2
                go_quiet (fail)
                go_wp2
                go_quiet (fail)
                go_wp2
                go_roundw
                case rel => exact ⟨m + 1, by omega, by go_num, by rw [HS.out, HG.out]; simpa using hown2.drewN _, below_drewN hbel2 _, below_drewN hbo _⟩
                case measure => simp [intOf]; omega
            · rw [decide_eq_false hxy] at HG
              have hxy' : decide (x < y) = false := decide_eq_false hxy
              go_wp2
              go_quiet (fail)
              go_wp2
              go_quiet (fail)
              go_wp2
              go_roundw
              case rel => exact ⟨m + 1, by omega, by go_num, by rw [HS.out, HG.out]; simpa using hown2.drewN _, below_drewN hbel2 _, below_drewN hbo _⟩
              case measure => simp [intOf]; omega
        · obtain rfl : m = a.length := by omega
          rw [List.take_length] at hown2
          obtain ⟨bd', e', hy2⟩ := row_int_at (hb.below hbel2) hlt
          injection e' with e'
          subst e'
          rw [HY.out] at hy2
          have hmf : (done ++ midF a (loOf b k) y).length ≤ 1000000 * 1000001 + 1000000 := by
            have := midF_le a (loOf b k) y
            rw [List.length_append]; omega
          have hmg : (done ++ midF a (loOf b k) y ++ [y]).length ≤ (k + 1) * (a.length + 1) := by
            have := midF_le a (loOf b k) y
            rw [List.length_append, List.length_append, List.length_singleton, Nat.add_mul]; omega
          have HM := Lib.hid hmg
          clear hmg
          generalize done ++ midF a (loOf b k) y = dd at hown2 hmf HN HM
          go_wp2_with (at_builtin; refine wpList_push rfl _ _ _ rfl 3 _ 1 8 Try.underlying22 infoInt rfl (by decide) (by decide) rfl w.heap.size (fun _ => False) _ dd rfl hown2 y _ rfl rfl hbel2.size (by omega) ?_; intro v1 w1 hown1 hg1 hat1 hbel1)
          go_roundw
          case rel => exact ⟨k + 1, dd ++ [y], by omega, by go_num, HN.out, HM.out, hown1, hbel1 _ hbel2⟩
          case measure => simp [intOf]; omega
    · obtain rfl : k = b.length := by omega
      rw [List.drop_length, refE_nil] at hdone
      have HD := Lib.hid hdone
      have hdk : b.length * (a.length + 1) ≤ 1000000 * 1000001 := Nat.mul_le_mul (by omega) (by omega)
      clear hdone
      go_wp2
      obtain ⟨wo, hwo⟩ : ∃ wo : World, wo = wr := ⟨_, rfl⟩
      go_loopw [5, 9] (fun v j wq => ∃ m : Nat, m ≤ a.length ∧ j = .int .i64 m ∧ Own (Kn.int .i64) 3 w.heap.size (fun _ => False) wq v (done ++ endF (a.take m) (loOf b b.length)) ∧ Below w.heap.size w wq) (fun _ j _ => a.length - (intOf j).toNat)
      case atStart => exact ⟨0, Nat.zero_le _, rfl, by simpa [endF] using hown, hbel⟩
      case round =>
        subst hwo
        obtain ⟨m, hm, rfl, hown2, hbel2⟩ := hrel
        by_cases hltm : m < a.length
        · obtain ⟨ad, rfl, hx⟩ := row_int_at (ha.below hbel2) hltm
          have hb2 := (hb.below hbel2)
          generalize hxe : a[m] = x at hx
          have HS := Lib.hid (show a.take (m + 1) = a.take m ++ [x] by rw [List.take_succ_eq_append_getElem hltm, hxe])
          clear hxe
          have hmf : (done ++ endF (a.take m) (loOf b b.length)).length ≤ 1000000 * 1000001 + 1000000 := by
            have := endF_le (a.take m) (loOf b b.length)
            rw [List.length_take] at this
            rw [List.length_append]; omega
          have HG := Lib.hid (show done ++ endF (a.take m ++ [x]) (loOf b b.length) = (done ++ endF (a.take m) (loOf b b.length)) ++ if (loOf b b.length).all (fun l => decide (l < x)) = true then [x] else [] by rw [endF_snoc, List.append_assoc])
          generalize done ++ endF (a.take m) (loOf b b.length) = dd at hown2 hmf HG
          rcases Nat.eq_zero_or_pos b.length with hk0 | hk0
          · have e0 : ((b.length : Int) == 0) = true := by rw [hk0]; rfl
            have hall : (loOf b b.length).all (fun l => decide (l < x)) = true := by simp [loOf, hk0]
            rw [hall] at HG
            clear hk0 hall
            go_wp2
            go_quiet (fail)
            go_wp2_with (at_builtin; refine wpList_push rfl _ _ _ rfl 3 _ 1 8 Try.underlying22 infoInt rfl (by decide) (by decide) rfl w.heap.size (fun _ => False) _ dd rfl (hown2.drewN _) x _ rfl rfl hbel2.size (by omega) ?_; intro v1 w1 hown1 hg1 hat1 hbel1)
            go_roundw
            case rel => exact ⟨m + 1, by omega, by go_num, by rw [HS.out, HG.out]; simpa using hown1, hbel1 _ (below_drewN hbel2 _)⟩
            case measure => simp [intOf]; omega
          · obtain ⟨k0, hk0⟩ : ∃ k0, b.length = k0 + 1 := ⟨b.length - 1, by omega⟩
            have hk0b : k0 < b.length := by omega
            obtain ⟨bd, rfl, hz⟩ := row_int_at hb2 hk0b
            generalize hze : b[k0] = z at hz
            have hall : (loOf b b.length).all (fun l => decide (l < x)) = decide (z < x) := by simp [loOf, hk0, List.getElem?_eq_getElem hk0b, hze]
            rw [hall] at HG
            clear hall hze
            have e0 : ((b.length : Int) == 0) = false := by rw [beq_eq_false_iff_ne]; omega
            have ew : IntKind.i64.wrap ((b.length : Int) - 1) = (k0 : Int) := by rw [IntWalk.i64_in _ (by omega)]; omega
            have HK0 := Lib.hid hk0
            clear hk0
            by_cases hzx : z < x
            · rw [decide_eq_true hzx] at HG
              go_wp2
              go_quiet (fail)
              go_wp2_with (at_builtin; refine wpList_push rfl _ _ _ rfl 3 _ 1 8 Try.underlying22 infoInt rfl (by decide) (by decide) rfl w.heap.size (fun _ => False) _ dd rfl (hown2.drewN _) x _ rfl rfl hbel2.size (by omega) ?_; intro v1 w1 hown1 hg1 hat1 hbel1)
              go_roundw
              case rel => exact ⟨m + 1, by omega, by go_num, by rw [HS.out, HG.out]; simpa using hown1, hbel1 _ (below_drewN hbel2 _)⟩
              case measure => simp [intOf]; omega
            · rw [decide_eq_false hzx] at HG
              have hzx' : decide (z < x) = false := decide_eq_false hzx
              go_wp2
              go_quiet (fail)
              go_wp2
              go_roundw
              case rel => exact ⟨m + 1, by omega, by go_num, by rw [HS.out, HG.out]; simpa using hown2.drewN _, below_drewN hbel2 _⟩
              case measure => simp [intOf]; omega
        · obtain rfl : m = a.length := by omega
          rw [List.take_length, HD.out] at hown2
          go_wp2
          go_ret
          exact ⟨_, rfl, hown2, hbel2⟩
end Go.Proofs.Ytohhapceeohhdaa
