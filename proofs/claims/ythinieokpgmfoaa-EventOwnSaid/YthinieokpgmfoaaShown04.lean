/- registrarlaw04.shown: the document's example. -/
import Derived.Test.YthinieokpgmfoaaNorm04
import Derived.Test.YthinieokpgmfoaaSame04
import Derived.Test.YthinieokpgmfoaaFew04
set_option linter.unusedVariables false
set_option linter.unusedSimpArgs false
namespace Go.Proofs.Ythinieokpgmfoaa
open Go.RowKit

/-- '[]api.Field{x, y, ..}'. -/
theorem fields_lit (w : World) (t : TypeId) (l : List (ByteArray × Int)) (hl : l.length ≤ maxLen) :
    Sl kField (fun k => w.heap.size ≤ k) (w.alloc (.cells (l.map (fun x => [Value.string x.1, .int .i64 x.2])).flatten.toArray t)) (some ⟨w.heap.size, 0, none⟩) l.length l := by
  refine ⟨Nat.le_refl _, hl, fun _ => ⟨_, rfl, Nat.le_refl _, by simp, fun j x hj => ⟨[.string x.1, .int .i64 x.2], rfl, ⟨[.string x.1], [.int .i64 x.2], rfl, rfl, rfl⟩, fun i u hu => ?_⟩⟩⟩
  have hf := flat_at (sz := 2) (l.map (fun x => [Value.string x.1, .int .i64 x.2])) (fun c hc => by obtain ⟨y, _, rfl⟩ := List.mem_map.1 hc; rfl) j i [.string x.1, .int .i64 x.2] u (by rw [List.getElem?_map, hj]; rfl) hu
  have e : (⟨w.heap.size, 0, none⟩ : Addr).add (j * kField.sz + i) = ⟨w.heap.size, j * 2 + i, none⟩ := by
    show (⟨w.heap.size, 0, none⟩ : Addr).add (j * 2 + i) = _
    unfold Addr.add
    split
    · rename_i h0; rw [h0]
    · simp
  rw [e, (Bx.new w t ((l.map (fun x => [Value.string x.1, .int .i64 x.2])).flatten)).cell]
  exact hf
def exE : Event := ⟨⟨#[115]⟩, ⟨#[116]⟩, [⟨#[98, 58, 120]⟩, ⟨#[97, 58, 121]⟩, ⟨#[98, 58, 120]⟩], [(⟨#[110]⟩, 1), (⟨#[109]⟩, 2), (⟨#[110]⟩, 3)]⟩
def exN : Event := ⟨⟨#[115]⟩, ⟨#[116]⟩, [⟨#[97, 58, 121]⟩, ⟨#[98, 58, 120]⟩], [(⟨#[109]⟩, 2), (⟨#[110]⟩, 3)]⟩
theorem exT : uniq exE.tags = exN.tags := riseB_eq (uniq_rise _) (by decide +kernel) (fun x => by rw [mem_uniq]; simp [exE, exN]; exact fun h => .inr h)
theorem exF : uniq (fnames exE.fields) = fnames exN.fields := riseB_eq (uniq_rise _) (by decide +kernel) (fun x => by rw [mem_uniq]; simp [exE, exN, fnames]; exact fun h => .inr h)
theorem exNorm : normE exE = exN := by
  refine event_ext rfl rfl exT ?_
  show normF exE.fields = exN.fields
  unfold normF
  rw [exF]
  decide +kernel
theorem exMay : mayE exN = 0 := by decide +kernel

set_option maxHeartbeats 4000000 in
set_option maxRecDepth 100000 in
theorem shown04 (w : World) : Calls Try.prog 18 #[] w fun r w' => r = .returned (.bool true) ∧ Below w.heap.size w w' := by
  have CM : Hid (∀ (W : World) (T F : Option Addr) (ct cf : Nat), SlS W T ct exN.tags → SlF W F cf exN.fields → Calls Try.prog 23 #[.agg #[.string ⟨#[115]⟩, .string ⟨#[116]⟩, .slice T 2 ct, .slice F 2 cf]] W fun r w' => r = .returned (.int .i64 0) ∧ Below W.heap.size W w') := Lib.hid (fun W T F ct cf hT hF => by
    have := mayE_any (e := exN) hT hF (by decide) (by decide +kernel)
    rw [exMay] at this
    exact this)
  have CN : Hid (∀ (W : World) (T F : Option Addr), SlS W T 3 exE.tags → SlF W F 3 exE.fields → Calls Try.prog 21 #[.agg #[.string ⟨#[115]⟩, .string ⟨#[116]⟩, .slice T 3 3, .slice F 3 3]] W fun r w' => ∃ (T' F' : Option Addr) (ct' cf' : Nat), r = .returned (.agg #[.string ⟨#[115]⟩, .string ⟨#[116]⟩, .slice T' 2 ct', .slice F' 2 cf']) ∧ SlS w' T' ct' exN.tags ∧ SlF w' F' cf' exN.fields ∧ Below W.heap.size W w') := Lib.hid (fun W T F hT hF => by
    refine (normE_any (e := exE) hT hF (by decide) (by decide) (by decide +kernel)).mono ?_
    rintro r w' ⟨vt, vf, M, rfl, h1, h2, _, _, hb⟩
    rw [exT] at h1
    rw [show normF exE.fields = exN.fields from congrArg Event.fields exNorm] at h2
    obtain ⟨T', ct', rfl, h3⟩ := h1.sl
    obtain ⟨F', cf', rfl, h4⟩ := h2.sl
    exact ⟨T', F', ct', cf', rfl, h3.any, h4.any, hb⟩)
  obtain ⟨Y, hY⟩ : ∃ Y, Y = ((w.alloc (.cells #[.string ⟨#[98, 58, 120]⟩, .string ⟨#[97, 58, 121]⟩, .string ⟨#[98, 58, 120]⟩] 9)).alloc (.cells #[.string ⟨#[110]⟩, .int .i64 1, .string ⟨#[109]⟩, .int .i64 2, .string ⟨#[110]⟩, .int .i64 3] 41)) := ⟨_, rfl⟩
  have hs1 : SlS Y (some ⟨w.heap.size, 0, none⟩) 3 exE.tags := by
    rw [hY]
    exact ((Sl.lit Value.string (fun _ => rfl) w 9 exE.tags (by decide +kernel)).any).alloc _
  have hs2 : SlF Y (some ⟨w.heap.size + 1, 0, none⟩) 3 exE.fields := by
    have := (fields_lit (w.alloc (.cells #[.string ⟨#[98, 58, 120]⟩, .string ⟨#[97, 58, 121]⟩, .string ⟨#[98, 58, 120]⟩] 9)) 41 exE.fields (by decide +kernel)).any
    rw [show (w.alloc (.cells #[.string ⟨#[98, 58, 120]⟩, .string ⟨#[97, 58, 121]⟩, .string ⟨#[98, 58, 120]⟩] 9)).heap.size = w.heap.size + 1 by simp] at this
    rw [hY]
    exact this
  have hYb : Below w.heap.size w Y := by rw [hY]; exact ((Below.refl _ _).alloc (Nat.le_refl _) _).alloc (by simp) _
  have HYB := Lib.hid hYb
  have C0 := Lib.hid (CN.out Y _ _ hs1 hs2)
  have HY := Lib.hid hY
  clear hY hs1 hs2 hYb CN
  go_enter Try.func18, Try.ntmps18
  go_upto_region 2 with (go_at_call 21; rw [← HY.out]; go_fit C0.out; rintro r w2 ⟨T', F', ct', cf', rfl, hT, hF, hb⟩; have HT := Lib.hid hT; have HF := Lib.hid hF; have HB := Lib.hid (bthen HYB.out hb); clear hT hF hb)
  obtain ⟨ad, rfl, hx⟩ := row_str_at HT.out.2.2 (j := 0) (by decide)
  obtain ⟨bd, rfl, hy0, hy⟩ := row_field_at HF.out.2.2 (j := 1) (by decide)
  have hct := HT.out.1
  have hcf := HF.out.1
  obtain ⟨W, hW⟩ : ∃ W, W = w2.alloc (.cells #[.string ⟨#[115]⟩, .string ⟨#[116]⟩, .slice (some ad) 2 ct', .slice (some bd) 2 cf'] 28) := ⟨_, rfl⟩
  have hWb : Below w2.heap.size w2 W := by rw [hW]; exact (Below.refl _ _).alloc (Nat.le_refl _) _
  have hbx : Bx W w2.heap.size 28 [.string ⟨#[115]⟩, .string ⟨#[116]⟩, .slice (some ad) 2 ct', .slice (some bd) 2 cf'] := by rw [hW]; exact Bx.new _ _ _
  obtain ⟨ad', had, hx⟩ := row_str_at (HT.out.below hWb).2.2 (j := 0) (by decide)
  obtain rfl := Option.some.inj had
  obtain ⟨bd', hbd, hy0, hy⟩ := row_field_at (HF.out.below hWb).2.2 (j := 1) (by decide)
  obtain rfl := Option.some.inj hbd
  rw [← hW]
  have C1 := Lib.hid (CM.out W _ _ ct' cf' (HT.out.below hWb) (HF.out.below hWb))
  have c0 := hbx.cell 0
  have c1 := hbx.cell 1
  have c2 := hbx.cell 2
  have c3 := hbx.cell 3
  simp only [List.getElem?_cons_succ, List.getElem?_cons_zero] at c0 c1 c2 c3
  have HBW := Lib.hid (bthen HB.out hWb)
  clear hW hbx hWb had hbd HT HF HB CM HY HYB C0
  have hx1 : W.cell? ad = some (.string ⟨#[97, 58, 121]⟩) := by
    have h0 : ad.add 0 = ad := by simp [Addr.add]
    rw [h0] at hx
    exact hx
  have hy1 : W.cell? ⟨bd.block, bd.off + 2 + 1, none⟩ = some (.int .i64 3) := hy
  have hct1 : 2 ≤ ct' := hct
  have hcf1 : 2 ≤ cf' := hcf
  clear hx hy hct hcf hy0
  go_wp2_with (go_at_call 23; go_fit C1.out; rintro r w3 ⟨rfl, h3⟩; have HB3 := Lib.hid h3; clear h3)
  go_ret
  exact ⟨rfl, bthen HBW.out HB3.out⟩
end Go.Proofs.Ythinieokpgmfoaa
