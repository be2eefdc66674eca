/-
  No cell of these rows narrows 'for every input' (looked for: loops, veiled, ifaces, maps, wideKeys, modest, calm, conditions, laid).
  DERIVED. THE GIVEN ROWS OF THIS SEAT. 9 by the template 'for every input the law returns true; each argument reads behind the call as it read before'; 0 by the template 'total and deterministic' (their statements: YthinieokpgmfoaaTotals.lean).
  GIVEN WITH THE SEED: the statements are not yours to turn. If you find one false, say at which input.
  Laid BY PROGRAM, IN A SANDBOX (cutbox-rows.mjs): the forced cells as the released guide's own fill.sh prints them over the translation d6f1a79fffa96bd8… (all of the seat's roots in one cut). By AI agents, Wed Nov 11 2026. No macro, syntax, notation, axiom, sorry.
-/
import Derived.Test.YthinieokpgmfoaaChecked
import GoSem.Claim
import GoSem.ClaimJoined
import GoSem.ClaimMapViews
import Derived.JoinedTies
import Derived.KernelRfl
namespace Go.Proofs.Ythinieokpgmfoaa
/- THE CELL 'sum', in the pinned program and in every row, IS THE sha256 OF THE DUMP (.gsa) THAT YthinieokpgmfoaaProg.lean LOADS. Nothing in Lean hashes anything: it is a label: what it is worth is what the hold of that sum in a sandbox is worth. -/
noncomputable def Try.pinned : Pinned := { name := "ythinieokpgmfoaa", sum := "d6f1a79fffa96bd83ce04e0e528e45b95763bc9ac9ff37693a3fa8c6e14ee017", checked := Try.checked }
namespace Rows
def none {H : Type} : Left H := { results := [], args := [] }

/-- 'registrarlaw06.QueryMatches': WHATEVER THE INPUT: true; the input reads as it did. -/
def queryMatchesSpec : ChangeSpec := { name := "queryMatches", fn := fun _ => fun
  | [d1, d2] => { results := [.lit (.bool true)], args := [d1, d2] }
  | _ => none }
def queryMatchesRow : OpenClaim := { program := "ythinieokpgmfoaa", sum := "d6f1a79fffa96bd83ce04e0e528e45b95763bc9ac9ff37693a3fa8c6e14ee017", func := "registrar/registrarlaw06.QueryMatches", spec := "queryMatches", unfollowed := true, recurses := true, apart := false }
def QueryMatchesSaid : Prop := queryMatchesRow.holds Try.pinned (OpenSpec.ofChange queryMatchesSpec)

/-- ITS FALSE NEIGHBOUR: 'it returns false'. Refute it at one input. -/
def queryMatchesWrong : ChangeSpec := { name := "queryMatches", fn := fun _ => fun
  | [d1, d2] => { results := [.lit (.bool false)], args := [d1, d2] }
  | _ => none }
def QueryMatchesWrongFalsely : Prop := queryMatchesRow.holds Try.pinned (OpenSpec.ofChange queryMatchesWrong)

/-- 'registrarlaw04.EventMay': WHATEVER THE INPUT: true; the input reads as it did. -/
def eventMaySpec : ChangeSpec := { name := "eventMay", fn := fun _ => fun
  | [d] => { results := [.lit (.bool true)], args := [d] }
  | _ => none }
def eventMayRow : OpenClaim := { program := "ythinieokpgmfoaa", sum := "d6f1a79fffa96bd83ce04e0e528e45b95763bc9ac9ff37693a3fa8c6e14ee017", func := "registrar/registrarlaw04.EventMay", spec := "eventMay", inPlace := ["internal/bytealg.IndexByteString", "internal/bytealg.IndexString"], unfollowed := true, recurses := true, named := ["internal/bytealg.MaxLen"], apart := false }
def EventMaySaid : Prop := eventMayRow.holds Try.pinned (OpenSpec.ofChange eventMaySpec)

/-- ITS FALSE NEIGHBOUR: 'it returns false'. Refute it at one input. -/
def eventMayWrong : ChangeSpec := { name := "eventMay", fn := fun _ => fun
  | [d] => { results := [.lit (.bool false)], args := [d] }
  | _ => none }
def EventMayWrongFalsely : Prop := eventMayRow.holds Try.pinned (OpenSpec.ofChange eventMayWrong)

/-- 'registrarlaw04.EventSame': WHATEVER THE INPUT: true; the input reads as it did. -/
def eventSameSpec : ChangeSpec := { name := "eventSame", fn := fun _ => fun
  | [d1, d2, d3] => { results := [.lit (.bool true)], args := [d1, d2, d3] }
  | _ => none }
def eventSameRow : OpenClaim := { program := "ythinieokpgmfoaa", sum := "d6f1a79fffa96bd83ce04e0e528e45b95763bc9ac9ff37693a3fa8c6e14ee017", func := "registrar/registrarlaw04.EventSame", spec := "eventSame", inPlace := ["internal/bytealg.IndexByteString", "internal/bytealg.IndexString"], unfollowed := true, recurses := true, named := ["internal/bytealg.MaxLen"], apart := false }
def EventSameSaid : Prop := eventSameRow.holds Try.pinned (OpenSpec.ofChange eventSameSpec)

/-- ITS FALSE NEIGHBOUR: 'it returns false'. Refute it at one input. -/
def eventSameWrong : ChangeSpec := { name := "eventSame", fn := fun _ => fun
  | [d1, d2, d3] => { results := [.lit (.bool false)], args := [d1, d2, d3] }
  | _ => none }
def EventSameWrongFalsely : Prop := eventSameRow.holds Try.pinned (OpenSpec.ofChange eventSameWrong)

/-- 'registrarlaw04.EventOwn': WHATEVER THE INPUT: true; the input reads as it did. -/
def eventOwnSpec : ChangeSpec := { name := "eventOwn", fn := fun _ => fun
  | [d] => { results := [.lit (.bool true)], args := [d] }
  | _ => none }
def eventOwnRow : OpenClaim := { program := "ythinieokpgmfoaa", sum := "d6f1a79fffa96bd83ce04e0e528e45b95763bc9ac9ff37693a3fa8c6e14ee017", func := "registrar/registrarlaw04.EventOwn", spec := "eventOwn", inPlace := ["internal/bytealg.IndexByteString", "internal/bytealg.IndexString"], unfollowed := true, recurses := true, named := ["internal/bytealg.MaxLen"], apart := false }
def EventOwnSaid : Prop := eventOwnRow.holds Try.pinned (OpenSpec.ofChange eventOwnSpec)

/-- ITS FALSE NEIGHBOUR: 'it returns false'. Refute it at one input. -/
def eventOwnWrong : ChangeSpec := { name := "eventOwn", fn := fun _ => fun
  | [d] => { results := [.lit (.bool false)], args := [d] }
  | _ => none }
def EventOwnWrongFalsely : Prop := eventOwnRow.holds Try.pinned (OpenSpec.ofChange eventOwnWrong)

/-- 'registrarlaw04.EventParts': WHATEVER THE INPUT: true; the input reads as it did. -/
def eventPartsSpec : ChangeSpec := { name := "eventParts", fn := fun _ => fun
  | [d1, d2, d3] => { results := [.lit (.bool true)], args := [d1, d2, d3] }
  | _ => none }
def eventPartsRow : OpenClaim := { program := "ythinieokpgmfoaa", sum := "d6f1a79fffa96bd83ce04e0e528e45b95763bc9ac9ff37693a3fa8c6e14ee017", func := "registrar/registrarlaw04.EventParts", spec := "eventParts", inPlace := ["internal/bytealg.IndexByteString", "internal/bytealg.IndexString"], unfollowed := true, recurses := true, named := ["internal/bytealg.MaxLen"], apart := false }
def EventPartsSaid : Prop := eventPartsRow.holds Try.pinned (OpenSpec.ofChange eventPartsSpec)

/-- ITS FALSE NEIGHBOUR: 'it returns false'. Refute it at one input. -/
def eventPartsWrong : ChangeSpec := { name := "eventParts", fn := fun _ => fun
  | [d1, d2, d3] => { results := [.lit (.bool false)], args := [d1, d2, d3] }
  | _ => none }
def EventPartsWrongFalsely : Prop := eventPartsRow.holds Try.pinned (OpenSpec.ofChange eventPartsWrong)

/-- 'registrarlaw04.EventHas': WHATEVER THE INPUT: true; the input reads as it did. -/
def eventHasSpec : ChangeSpec := { name := "eventHas", fn := fun _ => fun
  | [d1, d2, d3] => { results := [.lit (.bool true)], args := [d1, d2, d3] }
  | _ => none }
def eventHasRow : OpenClaim := { program := "ythinieokpgmfoaa", sum := "d6f1a79fffa96bd83ce04e0e528e45b95763bc9ac9ff37693a3fa8c6e14ee017", func := "registrar/registrarlaw04.EventHas", spec := "eventHas", inPlace := ["internal/bytealg.IndexByteString", "internal/bytealg.IndexString"], unfollowed := true, recurses := true, named := ["internal/bytealg.MaxLen"], apart := false }
def EventHasSaid : Prop := eventHasRow.holds Try.pinned (OpenSpec.ofChange eventHasSpec)

/-- ITS FALSE NEIGHBOUR: 'it returns false'. Refute it at one input. -/
def eventHasWrong : ChangeSpec := { name := "eventHas", fn := fun _ => fun
  | [d1, d2, d3] => { results := [.lit (.bool false)], args := [d1, d2, d3] }
  | _ => none }
def EventHasWrongFalsely : Prop := eventHasRow.holds Try.pinned (OpenSpec.ofChange eventHasWrong)

/-- 'registrarlaw04.EventNorm': WHATEVER THE INPUT: true; the input reads as it did. -/
def eventNormSpec : ChangeSpec := { name := "eventNorm", fn := fun _ => fun
  | [d1, d2] => { results := [.lit (.bool true)], args := [d1, d2] }
  | _ => none }
def eventNormRow : OpenClaim := { program := "ythinieokpgmfoaa", sum := "d6f1a79fffa96bd83ce04e0e528e45b95763bc9ac9ff37693a3fa8c6e14ee017", func := "registrar/registrarlaw04.EventNorm", spec := "eventNorm", inPlace := ["internal/bytealg.IndexByteString", "internal/bytealg.IndexString"], unfollowed := true, recurses := true, named := ["internal/bytealg.MaxLen"], apart := false }
def EventNormSaid : Prop := eventNormRow.holds Try.pinned (OpenSpec.ofChange eventNormSpec)

/-- ITS FALSE NEIGHBOUR: 'it returns false'. Refute it at one input. -/
def eventNormWrong : ChangeSpec := { name := "eventNorm", fn := fun _ => fun
  | [d1, d2] => { results := [.lit (.bool false)], args := [d1, d2] }
  | _ => none }
def EventNormWrongFalsely : Prop := eventNormRow.holds Try.pinned (OpenSpec.ofChange eventNormWrong)

/-- 'registrarlaw06.QueryMay': WHATEVER THE INPUT: true; the input reads as it did. -/
def queryMaySpec : ChangeSpec := { name := "queryMay", fn := fun _ => fun
  | [d1, d2] => { results := [.lit (.bool true)], args := [d1, d2] }
  | _ => none }
def queryMayRow : OpenClaim := { program := "ythinieokpgmfoaa", sum := "d6f1a79fffa96bd83ce04e0e528e45b95763bc9ac9ff37693a3fa8c6e14ee017", func := "registrar/registrarlaw06.QueryMay", spec := "queryMay", inPlace := ["internal/bytealg.IndexByteString", "internal/bytealg.IndexString"], unfollowed := true, recurses := true, named := ["internal/bytealg.MaxLen"], apart := false }
def QueryMaySaid : Prop := queryMayRow.holds Try.pinned (OpenSpec.ofChange queryMaySpec)

/-- ITS FALSE NEIGHBOUR: 'it returns false'. Refute it at one input. -/
def queryMayWrong : ChangeSpec := { name := "queryMay", fn := fun _ => fun
  | [d1, d2] => { results := [.lit (.bool false)], args := [d1, d2] }
  | _ => none }
def QueryMayWrongFalsely : Prop := queryMayRow.holds Try.pinned (OpenSpec.ofChange queryMayWrong)

/-- 'registrarlaw06.QueryFits': WHATEVER THE INPUT: true; the input reads as it did. -/
def queryFitsSpec : ChangeSpec := { name := "queryFits", fn := fun _ => fun
  | [d1, d2] => { results := [.lit (.bool true)], args := [d1, d2] }
  | _ => none }
def queryFitsRow : OpenClaim := { program := "ythinieokpgmfoaa", sum := "d6f1a79fffa96bd83ce04e0e528e45b95763bc9ac9ff37693a3fa8c6e14ee017", func := "registrar/registrarlaw06.QueryFits", spec := "queryFits", inPlace := ["internal/bytealg.IndexByteString", "internal/bytealg.IndexString"], unfollowed := true, recurses := true, named := ["internal/bytealg.MaxLen"], apart := false }
def QueryFitsSaid : Prop := queryFitsRow.holds Try.pinned (OpenSpec.ofChange queryFitsSpec)

/-- ITS FALSE NEIGHBOUR: 'it returns false'. Refute it at one input. -/
def queryFitsWrong : ChangeSpec := { name := "queryFits", fn := fun _ => fun
  | [d1, d2] => { results := [.lit (.bool false)], args := [d1, d2] }
  | _ => none }
def QueryFitsWrongFalsely : Prop := queryFitsRow.holds Try.pinned (OpenSpec.ofChange queryFitsWrong)

/- THE SECOND FORM. 'bulk': how many values and letters a reading holds, each counted each time it is reached (what is shared counts as often as it is met; a slice's spare places count too). A statement '..UptoSaid' is the law's where the arguments, and the package variables that the reading takes, are together of bulk at most 1048576: NARROWER than '..Said'. Prove '..Said' where nothing that the law and all that it calls make is longer than what came in: it says more and counts as full. Else prove '..UptoSaid'. A law counts once. -/
mutual
def uptoBulk {H : Type} : DataW H → Nat
  | .lit (.string bytes) => bytes.length + 1
  | .lit _ => 1
  | .nil => 1
  | .ptr d => uptoBulk d + 1
  | .slice elems spare => uptoBulkAll elems + uptoBulkAll spare + 1
  | .agg parts => uptoBulkAll parts + 1
  | .iface _ d => uptoBulk d + 1
  | .map entries => uptoBulkEntries entries + 1
  | .held _ => 1
def uptoBulkAll {H : Type} : List (DataW H) → Nat
  | [] => 0
  | d :: r => uptoBulk d + uptoBulkAll r
def uptoBulkEntries {H : Type} : List (Lit × DataW H) → Nat
  | [] => 0
  | x :: r => uptoBulkEntry x + uptoBulkEntries r
def uptoBulkEntry {H : Type} : Lit × DataW H → Nat
  | (.string bytes, d) => bytes.length + uptoBulk d + 1
  | (_, d) => uptoBulk d + 1
 end
def uptoSmall : (H : Type) → List (DataW H) → Bool := fun _ ds => decide (uptoBulkAll ds ≤ 1048576)
def OpenSpec.upto (s : _root_.Go.ChangeSpec) : _root_.Go.OpenSpec := { _root_.Go.OpenSpec.ofChange s with cond := some uptoSmall }

/-- 'registrarlaw06.QueryMatches', WHERE WHAT IT READS IS OF BULK AT MOST 1048576: true; the input reads as it did. -/
def queryMatchesUptoRow : OpenClaim := { program := "ythinieokpgmfoaa", sum := "d6f1a79fffa96bd83ce04e0e528e45b95763bc9ac9ff37693a3fa8c6e14ee017", func := "registrar/registrarlaw06.QueryMatches", spec := "queryMatches", unfollowed := true, recurses := true, apart := false, narrowed := true }
def QueryMatchesUptoSaid : Prop := queryMatchesUptoRow.holds Try.pinned (OpenSpec.upto queryMatchesSpec)

/-- 'registrarlaw04.EventMay', WHERE WHAT IT READS IS OF BULK AT MOST 1048576: true; the input reads as it did. -/
def eventMayUptoRow : OpenClaim := { program := "ythinieokpgmfoaa", sum := "d6f1a79fffa96bd83ce04e0e528e45b95763bc9ac9ff37693a3fa8c6e14ee017", func := "registrar/registrarlaw04.EventMay", spec := "eventMay", inPlace := ["internal/bytealg.IndexByteString", "internal/bytealg.IndexString"], unfollowed := true, recurses := true, named := ["internal/bytealg.MaxLen"], apart := false, narrowed := true }
def EventMayUptoSaid : Prop := eventMayUptoRow.holds Try.pinned (OpenSpec.upto eventMaySpec)

/-- 'registrarlaw04.EventSame', WHERE WHAT IT READS IS OF BULK AT MOST 1048576: true; the input reads as it did. -/
def eventSameUptoRow : OpenClaim := { program := "ythinieokpgmfoaa", sum := "d6f1a79fffa96bd83ce04e0e528e45b95763bc9ac9ff37693a3fa8c6e14ee017", func := "registrar/registrarlaw04.EventSame", spec := "eventSame", inPlace := ["internal/bytealg.IndexByteString", "internal/bytealg.IndexString"], unfollowed := true, recurses := true, named := ["internal/bytealg.MaxLen"], apart := false, narrowed := true }
def EventSameUptoSaid : Prop := eventSameUptoRow.holds Try.pinned (OpenSpec.upto eventSameSpec)

/-- 'registrarlaw04.EventOwn', WHERE WHAT IT READS IS OF BULK AT MOST 1048576: true; the input reads as it did. -/
def eventOwnUptoRow : OpenClaim := { program := "ythinieokpgmfoaa", sum := "d6f1a79fffa96bd83ce04e0e528e45b95763bc9ac9ff37693a3fa8c6e14ee017", func := "registrar/registrarlaw04.EventOwn", spec := "eventOwn", inPlace := ["internal/bytealg.IndexByteString", "internal/bytealg.IndexString"], unfollowed := true, recurses := true, named := ["internal/bytealg.MaxLen"], apart := false, narrowed := true }
def EventOwnUptoSaid : Prop := eventOwnUptoRow.holds Try.pinned (OpenSpec.upto eventOwnSpec)

/-- 'registrarlaw04.EventParts', WHERE WHAT IT READS IS OF BULK AT MOST 1048576: true; the input reads as it did. -/
def eventPartsUptoRow : OpenClaim := { program := "ythinieokpgmfoaa", sum := "d6f1a79fffa96bd83ce04e0e528e45b95763bc9ac9ff37693a3fa8c6e14ee017", func := "registrar/registrarlaw04.EventParts", spec := "eventParts", inPlace := ["internal/bytealg.IndexByteString", "internal/bytealg.IndexString"], unfollowed := true, recurses := true, named := ["internal/bytealg.MaxLen"], apart := false, narrowed := true }
def EventPartsUptoSaid : Prop := eventPartsUptoRow.holds Try.pinned (OpenSpec.upto eventPartsSpec)

/-- 'registrarlaw04.EventHas', WHERE WHAT IT READS IS OF BULK AT MOST 1048576: true; the input reads as it did. -/
def eventHasUptoRow : OpenClaim := { program := "ythinieokpgmfoaa", sum := "d6f1a79fffa96bd83ce04e0e528e45b95763bc9ac9ff37693a3fa8c6e14ee017", func := "registrar/registrarlaw04.EventHas", spec := "eventHas", inPlace := ["internal/bytealg.IndexByteString", "internal/bytealg.IndexString"], unfollowed := true, recurses := true, named := ["internal/bytealg.MaxLen"], apart := false, narrowed := true }
def EventHasUptoSaid : Prop := eventHasUptoRow.holds Try.pinned (OpenSpec.upto eventHasSpec)

/-- 'registrarlaw04.EventNorm', WHERE WHAT IT READS IS OF BULK AT MOST 1048576: true; the input reads as it did. -/
def eventNormUptoRow : OpenClaim := { program := "ythinieokpgmfoaa", sum := "d6f1a79fffa96bd83ce04e0e528e45b95763bc9ac9ff37693a3fa8c6e14ee017", func := "registrar/registrarlaw04.EventNorm", spec := "eventNorm", inPlace := ["internal/bytealg.IndexByteString", "internal/bytealg.IndexString"], unfollowed := true, recurses := true, named := ["internal/bytealg.MaxLen"], apart := false, narrowed := true }
def EventNormUptoSaid : Prop := eventNormUptoRow.holds Try.pinned (OpenSpec.upto eventNormSpec)

/-- 'registrarlaw06.QueryMay', WHERE WHAT IT READS IS OF BULK AT MOST 1048576: true; the input reads as it did. -/
def queryMayUptoRow : OpenClaim := { program := "ythinieokpgmfoaa", sum := "d6f1a79fffa96bd83ce04e0e528e45b95763bc9ac9ff37693a3fa8c6e14ee017", func := "registrar/registrarlaw06.QueryMay", spec := "queryMay", inPlace := ["internal/bytealg.IndexByteString", "internal/bytealg.IndexString"], unfollowed := true, recurses := true, named := ["internal/bytealg.MaxLen"], apart := false, narrowed := true }
def QueryMayUptoSaid : Prop := queryMayUptoRow.holds Try.pinned (OpenSpec.upto queryMaySpec)

/-- 'registrarlaw06.QueryFits', WHERE WHAT IT READS IS OF BULK AT MOST 1048576: true; the input reads as it did. -/
def queryFitsUptoRow : OpenClaim := { program := "ythinieokpgmfoaa", sum := "d6f1a79fffa96bd83ce04e0e528e45b95763bc9ac9ff37693a3fa8c6e14ee017", func := "registrar/registrarlaw06.QueryFits", spec := "queryFits", inPlace := ["internal/bytealg.IndexByteString", "internal/bytealg.IndexString"], unfollowed := true, recurses := true, named := ["internal/bytealg.MaxLen"], apart := false, narrowed := true }
def QueryFitsUptoSaid : Prop := queryFitsUptoRow.holds Try.pinned (OpenSpec.upto queryFitsSpec)

end Rows
end Go.Proofs.Ythinieokpgmfoaa
