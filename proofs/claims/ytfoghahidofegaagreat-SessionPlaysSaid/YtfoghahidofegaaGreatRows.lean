/-
  No cell of these rows narrows 'for every input' (looked for: loops, veiled, ifaces, maps, wideKeys, modest, calm, conditions, laid).
  DERIVED. THE GIVEN ROWS OF THIS SEAT. 8 by the template 'for every input the law returns true; each argument reads behind the call as it read before'; 0 by the template 'total and deterministic' (their statements: YtfoghahidofegaaGreatTotals.lean).
  GIVEN WITH THE SEED: the statements are not yours to turn. If you find one false, say at which input.
  Laid BY PROGRAM, IN A SANDBOX (cutbox-rows.mjs): the forced cells as the released guide's own fill.sh prints them over the translation b321119afa22a84a… (all of the seat's roots in one cut). By AI agents, Wed Nov 11 2026. No macro, syntax, notation, axiom, sorry.
-/
import Derived.Test.YtfoghahidofegaaGreatChecked
import GoSem.Claim
import GoSem.ClaimJoined
import GoSem.ClaimMapViews
import Derived.JoinedTies
import Derived.KernelRfl
namespace Go.Proofs.YtfoghahidofegaaGreat
/- THE CELL 'sum', in the pinned program and in every row, IS THE sha256 OF THE DUMP (.gsa) THAT YtfoghahidofegaaGreatProg.lean LOADS. Nothing in Lean hashes anything: it is a label: what it is worth is what the hold of that sum in a sandbox is worth. -/
noncomputable def Tryz.pinned : Pinned := { name := "ytfoghahidofegaagreat", sum := "b321119afa22a84a1254f20c398adb25a340db525b382dfc398782a1ee7baebe", checked := Tryz.checked }
namespace Rows
def none {H : Type} : Left H := { results := [], args := [] }

/-- 'registrarlaw14.IndexPlays': WHATEVER THE INPUT: true; the input reads as it did. -/
def indexPlaysSpec : ChangeSpec := { name := "indexPlays", fn := fun _ => fun
  | [d1, d2] => { results := [.lit (.bool true)], args := [d1, d2] }
  | _ => none }
def indexPlaysRow : OpenClaim := { program := "ytfoghahidofegaagreat", sum := "b321119afa22a84a1254f20c398adb25a340db525b382dfc398782a1ee7baebe", func := "registrar/registrarlaw14.IndexPlays", spec := "indexPlays", inPlace := ["internal/bytealg.IndexByteString", "internal/bytealg.IndexString", "maps.clone"], unfollowed := true, recurses := true, named := ["internal/bytealg.MaxLen"], apart := false }
def IndexPlaysSaid : Prop := indexPlaysRow.holds Tryz.pinned (OpenSpec.ofChange indexPlaysSpec)

/-- ITS FALSE NEIGHBOUR: 'it returns false'. Refute it at one input. -/
def indexPlaysWrong : ChangeSpec := { name := "indexPlays", fn := fun _ => fun
  | [d1, d2] => { results := [.lit (.bool false)], args := [d1, d2] }
  | _ => none }
def IndexPlaysWrongFalsely : Prop := indexPlaysRow.holds Tryz.pinned (OpenSpec.ofChange indexPlaysWrong)

/-- 'registrarlaw18.GuardLists': WHATEVER THE INPUT: true; the input reads as it did. -/
def guardListsSpec : ChangeSpec := { name := "guardLists", fn := fun _ => fun
  | [d1, d2, d3] => { results := [.lit (.bool true)], args := [d1, d2, d3] }
  | _ => none }
def guardListsRow : OpenClaim := { program := "ytfoghahidofegaagreat", sum := "b321119afa22a84a1254f20c398adb25a340db525b382dfc398782a1ee7baebe", func := "registrar/registrarlaw18.GuardLists", spec := "guardLists", inPlace := ["internal/bytealg.IndexByteString", "internal/bytealg.IndexString"], unfollowed := true, recurses := true, named := ["internal/bytealg.MaxLen"], apart := false }
def GuardListsSaid : Prop := guardListsRow.holds Tryz.pinned (OpenSpec.ofChange guardListsSpec)

/-- ITS FALSE NEIGHBOUR: 'it returns false'. Refute it at one input. -/
def guardListsWrong : ChangeSpec := { name := "guardLists", fn := fun _ => fun
  | [d1, d2, d3] => { results := [.lit (.bool false)], args := [d1, d2, d3] }
  | _ => none }
def GuardListsWrongFalsely : Prop := guardListsRow.holds Tryz.pinned (OpenSpec.ofChange guardListsWrong)

/-- 'registrarlaw19.SessionMany': WHATEVER THE INPUT: true; the input reads as it did. -/
def sessionManySpec : ChangeSpec := { name := "sessionMany", fn := fun _ => fun
  | [d1, d2, d3] => { results := [.lit (.bool true)], args := [d1, d2, d3] }
  | _ => none }
def sessionManyRow : OpenClaim := { program := "ytfoghahidofegaagreat", sum := "b321119afa22a84a1254f20c398adb25a340db525b382dfc398782a1ee7baebe", func := "registrar/registrarlaw19.SessionMany", spec := "sessionMany", inPlace := ["internal/bytealg.IndexByteString", "internal/bytealg.IndexString"], unfollowed := true, recurses := true, named := ["internal/bytealg.MaxLen"], apart := false }
def SessionManySaid : Prop := sessionManyRow.holds Tryz.pinned (OpenSpec.ofChange sessionManySpec)

/-- ITS FALSE NEIGHBOUR: 'it returns false'. Refute it at one input. -/
def sessionManyWrong : ChangeSpec := { name := "sessionMany", fn := fun _ => fun
  | [d1, d2, d3] => { results := [.lit (.bool false)], args := [d1, d2, d3] }
  | _ => none }
def SessionManyWrongFalsely : Prop := sessionManyRow.holds Tryz.pinned (OpenSpec.ofChange sessionManyWrong)

/-- 'registrarlaw19.SessionFree': WHATEVER THE INPUT: true; the input reads as it did. -/
def sessionFreeSpec : ChangeSpec := { name := "sessionFree", fn := fun _ => fun
  | [d1, d2, d3] => { results := [.lit (.bool true)], args := [d1, d2, d3] }
  | _ => none }
def sessionFreeRow : OpenClaim := { program := "ytfoghahidofegaagreat", sum := "b321119afa22a84a1254f20c398adb25a340db525b382dfc398782a1ee7baebe", func := "registrar/registrarlaw19.SessionFree", spec := "sessionFree", inPlace := ["internal/bytealg.IndexByteString", "internal/bytealg.IndexString"], unfollowed := true, recurses := true, named := ["internal/bytealg.MaxLen"], apart := false }
def SessionFreeSaid : Prop := sessionFreeRow.holds Tryz.pinned (OpenSpec.ofChange sessionFreeSpec)

/-- ITS FALSE NEIGHBOUR: 'it returns false'. Refute it at one input. -/
def sessionFreeWrong : ChangeSpec := { name := "sessionFree", fn := fun _ => fun
  | [d1, d2, d3] => { results := [.lit (.bool false)], args := [d1, d2, d3] }
  | _ => none }
def SessionFreeWrongFalsely : Prop := sessionFreeRow.holds Tryz.pinned (OpenSpec.ofChange sessionFreeWrong)

/-- 'registrarlaw19.SessionSees': WHATEVER THE INPUT: true; the input reads as it did. -/
def sessionSeesSpec : ChangeSpec := { name := "sessionSees", fn := fun _ => fun
  | [d1, d2, d3] => { results := [.lit (.bool true)], args := [d1, d2, d3] }
  | _ => none }
def sessionSeesRow : OpenClaim := { program := "ytfoghahidofegaagreat", sum := "b321119afa22a84a1254f20c398adb25a340db525b382dfc398782a1ee7baebe", func := "registrar/registrarlaw19.SessionSees", spec := "sessionSees", inPlace := ["internal/bytealg.IndexByteString", "internal/bytealg.IndexString"], unfollowed := true, recurses := true, named := ["internal/bytealg.MaxLen"], apart := false }
def SessionSeesSaid : Prop := sessionSeesRow.holds Tryz.pinned (OpenSpec.ofChange sessionSeesSpec)

/-- ITS FALSE NEIGHBOUR: 'it returns false'. Refute it at one input. -/
def sessionSeesWrong : ChangeSpec := { name := "sessionSees", fn := fun _ => fun
  | [d1, d2, d3] => { results := [.lit (.bool false)], args := [d1, d2, d3] }
  | _ => none }
def SessionSeesWrongFalsely : Prop := sessionSeesRow.holds Tryz.pinned (OpenSpec.ofChange sessionSeesWrong)

/-- 'registrarlaw19.SessionAt': WHATEVER THE INPUT: true; the input reads as it did. -/
def sessionAtSpec : ChangeSpec := { name := "sessionAt", fn := fun _ => fun
  | [d1, d2, d3] => { results := [.lit (.bool true)], args := [d1, d2, d3] }
  | _ => none }
def sessionAtRow : OpenClaim := { program := "ytfoghahidofegaagreat", sum := "b321119afa22a84a1254f20c398adb25a340db525b382dfc398782a1ee7baebe", func := "registrar/registrarlaw19.SessionAt", spec := "sessionAt", inPlace := ["internal/bytealg.IndexByteString", "internal/bytealg.IndexString"], unfollowed := true, recurses := true, named := ["internal/bytealg.MaxLen"], apart := false }
def SessionAtSaid : Prop := sessionAtRow.holds Tryz.pinned (OpenSpec.ofChange sessionAtSpec)

/-- ITS FALSE NEIGHBOUR: 'it returns false'. Refute it at one input. -/
def sessionAtWrong : ChangeSpec := { name := "sessionAt", fn := fun _ => fun
  | [d1, d2, d3] => { results := [.lit (.bool false)], args := [d1, d2, d3] }
  | _ => none }
def SessionAtWrongFalsely : Prop := sessionAtRow.holds Tryz.pinned (OpenSpec.ofChange sessionAtWrong)

/-- 'registrarlaw19.SessionRefuses': WHATEVER THE INPUT: true; the input reads as it did. -/
def sessionRefusesSpec : ChangeSpec := { name := "sessionRefuses", fn := fun _ => fun
  | [d1, d2] => { results := [.lit (.bool true)], args := [d1, d2] }
  | _ => none }
def sessionRefusesRow : OpenClaim := { program := "ytfoghahidofegaagreat", sum := "b321119afa22a84a1254f20c398adb25a340db525b382dfc398782a1ee7baebe", func := "registrar/registrarlaw19.SessionRefuses", spec := "sessionRefuses", inPlace := ["internal/bytealg.IndexByteString", "internal/bytealg.IndexString"], unfollowed := true, recurses := true, named := ["internal/bytealg.MaxLen"], apart := false }
def SessionRefusesSaid : Prop := sessionRefusesRow.holds Tryz.pinned (OpenSpec.ofChange sessionRefusesSpec)

/-- ITS FALSE NEIGHBOUR: 'it returns false'. Refute it at one input. -/
def sessionRefusesWrong : ChangeSpec := { name := "sessionRefuses", fn := fun _ => fun
  | [d1, d2] => { results := [.lit (.bool false)], args := [d1, d2] }
  | _ => none }
def SessionRefusesWrongFalsely : Prop := sessionRefusesRow.holds Tryz.pinned (OpenSpec.ofChange sessionRefusesWrong)

/-- 'registrarlaw19.SessionPlays': WHATEVER THE INPUT: true; the input reads as it did. -/
def sessionPlaysSpec : ChangeSpec := { name := "sessionPlays", fn := fun _ => fun
  | [d1, d2] => { results := [.lit (.bool true)], args := [d1, d2] }
  | _ => none }
def sessionPlaysRow : OpenClaim := { program := "ytfoghahidofegaagreat", sum := "b321119afa22a84a1254f20c398adb25a340db525b382dfc398782a1ee7baebe", func := "registrar/registrarlaw19.SessionPlays", spec := "sessionPlays", inPlace := ["internal/bytealg.IndexByteString", "internal/bytealg.IndexString"], unfollowed := true, recurses := true, named := ["internal/bytealg.MaxLen"], apart := false }
def SessionPlaysSaid : Prop := sessionPlaysRow.holds Tryz.pinned (OpenSpec.ofChange sessionPlaysSpec)

/-- ITS FALSE NEIGHBOUR: 'it returns false'. Refute it at one input. -/
def sessionPlaysWrong : ChangeSpec := { name := "sessionPlays", fn := fun _ => fun
  | [d1, d2] => { results := [.lit (.bool false)], args := [d1, d2] }
  | _ => none }
def SessionPlaysWrongFalsely : Prop := sessionPlaysRow.holds Tryz.pinned (OpenSpec.ofChange sessionPlaysWrong)

/- THE SECOND FORM. 'bulk': how many values and letters a reading holds, each counted each time it is reached (what is shared counts as often as it is met; a slice's spare places count too). A statement '..UptoSaid' is the law's where the arguments, and the package variables that the reading takes, are together of bulk at most 1048576: NARROWER than '..Said'. Prove '..Said' where nothing that the law and all that it calls make is longer than what came in: it says more and counts as full. Else prove '..UptoSaid'. A law counts once. -/
mutual
def uptoBulk {H : Type} : DataW H → Nat
  | .lit (.string bytes) => bytes.length + 1
  | .lit _ => 1
  | .nil => 1
  | .ptr d => uptoBulk d + 1
  | .slice elems spare => uptoBulkAll elems + uptoBulkAll spare + 1
  | .agg parts => uptoBulkAll parts + 1
  | .iface _ d => uptoBulk d + 1
  | .map entries => uptoBulkEntries entries + 1
  | .held _ => 1
def uptoBulkAll {H : Type} : List (DataW H) → Nat
  | [] => 0
  | d :: r => uptoBulk d + uptoBulkAll r
def uptoBulkEntries {H : Type} : List (Lit × DataW H) → Nat
  | [] => 0
  | x :: r => uptoBulkEntry x + uptoBulkEntries r
def uptoBulkEntry {H : Type} : Lit × DataW H → Nat
  | (.string bytes, d) => bytes.length + uptoBulk d + 1
  | (_, d) => uptoBulk d + 1
 end
def uptoSmall : (H : Type) → List (DataW H) → Bool := fun _ ds => decide (uptoBulkAll ds ≤ 1048576)
def OpenSpec.upto (s : _root_.Go.ChangeSpec) : _root_.Go.OpenSpec := { _root_.Go.OpenSpec.ofChange s with cond := some uptoSmall }

/-- 'registrarlaw14.IndexPlays', WHERE WHAT IT READS IS OF BULK AT MOST 1048576: true; the input reads as it did. -/
def indexPlaysUptoRow : OpenClaim := { program := "ytfoghahidofegaagreat", sum := "b321119afa22a84a1254f20c398adb25a340db525b382dfc398782a1ee7baebe", func := "registrar/registrarlaw14.IndexPlays", spec := "indexPlays", inPlace := ["internal/bytealg.IndexByteString", "internal/bytealg.IndexString", "maps.clone"], unfollowed := true, recurses := true, named := ["internal/bytealg.MaxLen"], apart := false, narrowed := true }
def IndexPlaysUptoSaid : Prop := indexPlaysUptoRow.holds Tryz.pinned (OpenSpec.upto indexPlaysSpec)

/-- 'registrarlaw18.GuardLists', WHERE WHAT IT READS IS OF BULK AT MOST 1048576: true; the input reads as it did. -/
def guardListsUptoRow : OpenClaim := { program := "ytfoghahidofegaagreat", sum := "b321119afa22a84a1254f20c398adb25a340db525b382dfc398782a1ee7baebe", func := "registrar/registrarlaw18.GuardLists", spec := "guardLists", inPlace := ["internal/bytealg.IndexByteString", "internal/bytealg.IndexString"], unfollowed := true, recurses := true, named := ["internal/bytealg.MaxLen"], apart := false, narrowed := true }
def GuardListsUptoSaid : Prop := guardListsUptoRow.holds Tryz.pinned (OpenSpec.upto guardListsSpec)

/-- 'registrarlaw19.SessionMany', WHERE WHAT IT READS IS OF BULK AT MOST 1048576: true; the input reads as it did. -/
def sessionManyUptoRow : OpenClaim := { program := "ytfoghahidofegaagreat", sum := "b321119afa22a84a1254f20c398adb25a340db525b382dfc398782a1ee7baebe", func := "registrar/registrarlaw19.SessionMany", spec := "sessionMany", inPlace := ["internal/bytealg.IndexByteString", "internal/bytealg.IndexString"], unfollowed := true, recurses := true, named := ["internal/bytealg.MaxLen"], apart := false, narrowed := true }
def SessionManyUptoSaid : Prop := sessionManyUptoRow.holds Tryz.pinned (OpenSpec.upto sessionManySpec)

/-- 'registrarlaw19.SessionFree', WHERE WHAT IT READS IS OF BULK AT MOST 1048576: true; the input reads as it did. -/
def sessionFreeUptoRow : OpenClaim := { program := "ytfoghahidofegaagreat", sum := "b321119afa22a84a1254f20c398adb25a340db525b382dfc398782a1ee7baebe", func := "registrar/registrarlaw19.SessionFree", spec := "sessionFree", inPlace := ["internal/bytealg.IndexByteString", "internal/bytealg.IndexString"], unfollowed := true, recurses := true, named := ["internal/bytealg.MaxLen"], apart := false, narrowed := true }
def SessionFreeUptoSaid : Prop := sessionFreeUptoRow.holds Tryz.pinned (OpenSpec.upto sessionFreeSpec)

/-- 'registrarlaw19.SessionSees', WHERE WHAT IT READS IS OF BULK AT MOST 1048576: true; the input reads as it did. -/
def sessionSeesUptoRow : OpenClaim := { program := "ytfoghahidofegaagreat", sum := "b321119afa22a84a1254f20c398adb25a340db525b382dfc398782a1ee7baebe", func := "registrar/registrarlaw19.SessionSees", spec := "sessionSees", inPlace := ["internal/bytealg.IndexByteString", "internal/bytealg.IndexString"], unfollowed := true, recurses := true, named := ["internal/bytealg.MaxLen"], apart := false, narrowed := true }
def SessionSeesUptoSaid : Prop := sessionSeesUptoRow.holds Tryz.pinned (OpenSpec.upto sessionSeesSpec)

/-- 'registrarlaw19.SessionAt', WHERE WHAT IT READS IS OF BULK AT MOST 1048576: true; the input reads as it did. -/
def sessionAtUptoRow : OpenClaim := { program := "ytfoghahidofegaagreat", sum := "b321119afa22a84a1254f20c398adb25a340db525b382dfc398782a1ee7baebe", func := "registrar/registrarlaw19.SessionAt", spec := "sessionAt", inPlace := ["internal/bytealg.IndexByteString", "internal/bytealg.IndexString"], unfollowed := true, recurses := true, named := ["internal/bytealg.MaxLen"], apart := false, narrowed := true }
def SessionAtUptoSaid : Prop := sessionAtUptoRow.holds Tryz.pinned (OpenSpec.upto sessionAtSpec)

/-- 'registrarlaw19.SessionRefuses', WHERE WHAT IT READS IS OF BULK AT MOST 1048576: true; the input reads as it did. -/
def sessionRefusesUptoRow : OpenClaim := { program := "ytfoghahidofegaagreat", sum := "b321119afa22a84a1254f20c398adb25a340db525b382dfc398782a1ee7baebe", func := "registrar/registrarlaw19.SessionRefuses", spec := "sessionRefuses", inPlace := ["internal/bytealg.IndexByteString", "internal/bytealg.IndexString"], unfollowed := true, recurses := true, named := ["internal/bytealg.MaxLen"], apart := false, narrowed := true }
def SessionRefusesUptoSaid : Prop := sessionRefusesUptoRow.holds Tryz.pinned (OpenSpec.upto sessionRefusesSpec)

/-- 'registrarlaw19.SessionPlays', WHERE WHAT IT READS IS OF BULK AT MOST 1048576: true; the input reads as it did. -/
def sessionPlaysUptoRow : OpenClaim := { program := "ytfoghahidofegaagreat", sum := "b321119afa22a84a1254f20c398adb25a340db525b382dfc398782a1ee7baebe", func := "registrar/registrarlaw19.SessionPlays", spec := "sessionPlays", inPlace := ["internal/bytealg.IndexByteString", "internal/bytealg.IndexString"], unfollowed := true, recurses := true, named := ["internal/bytealg.MaxLen"], apart := false, narrowed := true }
def SessionPlaysUptoSaid : Prop := sessionPlaysUptoRow.holds Tryz.pinned (OpenSpec.upto sessionPlaysSpec)

end Rows
end Go.Proofs.YtfoghahidofegaaGreat
