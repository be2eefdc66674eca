/-
  No cell of these rows narrows 'for every input' (looked for: loops, veiled, ifaces, maps, wideKeys, modest, calm, conditions, laid).
  DERIVED. THE GIVEN ROWS OF THIS SEAT. 11 by the template 'for every input the law returns true; each argument reads behind the call as it read before'; 0 by the template 'total and deterministic' (their statements: YteahpkihkfkpfaaTotals.lean).
  GIVEN WITH THE SEED: the statements are not yours to turn. If you find one false, say at which input.
  Laid BY PROGRAM, IN A SANDBOX (cutbox-rows.mjs): the forced cells as the released guide's own fill.sh prints them over the translation 6c131b1561821a59… (all of the seat's roots in one cut). By AI agents, Wed Nov 11 2026. No macro, syntax, notation, axiom, sorry.
-/
import Derived.Test.YteahpkihkfkpfaaChecked
import GoSem.Claim
import GoSem.ClaimJoined
import GoSem.ClaimMapViews
import Derived.JoinedTies
import Derived.KernelRfl
namespace Go.Proofs.Yteahpkihkfkpfaa
/- THE CELL 'sum', in the pinned program and in every row, IS THE sha256 OF THE DUMP (.gsa) THAT YteahpkihkfkpfaaProg.lean LOADS. Nothing in Lean hashes anything: it is a label: what it is worth is what the hold of that sum in a sandbox is worth. -/
noncomputable def Try.pinned : Pinned := { name := "yteahpkihkfkpfaa", sum := "6c131b1561821a59857eebc697fe8dd41825d69202c794d35ee90d1e78c248b2", checked := Try.checked }
namespace Rows
def none {H : Type} : Left H := { results := [], args := [] }

/-- 'registrarlaw12.StreamsUpto': WHATEVER THE INPUT: true; the input reads as it did. -/
def streamsUptoSpec : ChangeSpec := { name := "streamsUpto", fn := fun _ => fun
  | [d1, d2, d3] => { results := [.lit (.bool true)], args := [d1, d2, d3] }
  | _ => none }
def streamsUptoRow : OpenClaim := { program := "yteahpkihkfkpfaa", sum := "6c131b1561821a59857eebc697fe8dd41825d69202c794d35ee90d1e78c248b2", func := "registrar/registrarlaw12.StreamsUpto", spec := "streamsUpto", apart := false }
def StreamsUptoSaid : Prop := streamsUptoRow.holds Try.pinned (OpenSpec.ofChange streamsUptoSpec)

/-- ITS FALSE NEIGHBOUR: 'it returns false'. Refute it at one input. -/
def streamsUptoWrong : ChangeSpec := { name := "streamsUpto", fn := fun _ => fun
  | [d1, d2, d3] => { results := [.lit (.bool false)], args := [d1, d2, d3] }
  | _ => none }
def StreamsUptoWrongFalsely : Prop := streamsUptoRow.holds Try.pinned (OpenSpec.ofChange streamsUptoWrong)

/-- 'registrarlaw13.PostingLists': WHATEVER THE INPUT: true; the input reads as it did. -/
def postingListsSpec : ChangeSpec := { name := "postingLists", fn := fun _ => fun
  | [d1, d2] => { results := [.lit (.bool true)], args := [d1, d2] }
  | _ => none }
def postingListsRow : OpenClaim := { program := "yteahpkihkfkpfaa", sum := "6c131b1561821a59857eebc697fe8dd41825d69202c794d35ee90d1e78c248b2", func := "registrar/registrarlaw13.PostingLists", spec := "postingLists", inPlace := ["maps.clone"], unfollowed := true, recurses := true, apart := false }
def PostingListsSaid : Prop := postingListsRow.holds Try.pinned (OpenSpec.ofChange postingListsSpec)

/-- ITS FALSE NEIGHBOUR: 'it returns false'. Refute it at one input. -/
def postingListsWrong : ChangeSpec := { name := "postingLists", fn := fun _ => fun
  | [d1, d2] => { results := [.lit (.bool false)], args := [d1, d2] }
  | _ => none }
def PostingListsWrongFalsely : Prop := postingListsRow.holds Try.pinned (OpenSpec.ofChange postingListsWrong)

/-- 'registrarlaw12.StreamsCopies': WHATEVER THE INPUT: true; the input reads as it did. -/
def streamsCopiesSpec : ChangeSpec := { name := "streamsCopies", fn := fun _ => fun
  | [d1, d2, d3] => { results := [.lit (.bool true)], args := [d1, d2, d3] }
  | _ => none }
def streamsCopiesRow : OpenClaim := { program := "yteahpkihkfkpfaa", sum := "6c131b1561821a59857eebc697fe8dd41825d69202c794d35ee90d1e78c248b2", func := "registrar/registrarlaw12.StreamsCopies", spec := "streamsCopies", inPlace := ["maps.clone"], apart := false }
def StreamsCopiesSaid : Prop := streamsCopiesRow.holds Try.pinned (OpenSpec.ofChange streamsCopiesSpec)

/-- ITS FALSE NEIGHBOUR: 'it returns false'. Refute it at one input. -/
def streamsCopiesWrong : ChangeSpec := { name := "streamsCopies", fn := fun _ => fun
  | [d1, d2, d3] => { results := [.lit (.bool false)], args := [d1, d2, d3] }
  | _ => none }
def StreamsCopiesWrongFalsely : Prop := streamsCopiesRow.holds Try.pinned (OpenSpec.ofChange streamsCopiesWrong)

/-- 'registrarlaw13.PostingSome': WHATEVER THE INPUT: true; the input reads as it did. -/
def postingSomeSpec : ChangeSpec := { name := "postingSome", fn := fun _ => fun
  | [d1, d2, d3] => { results := [.lit (.bool true)], args := [d1, d2, d3] }
  | _ => none }
def postingSomeRow : OpenClaim := { program := "yteahpkihkfkpfaa", sum := "6c131b1561821a59857eebc697fe8dd41825d69202c794d35ee90d1e78c248b2", func := "registrar/registrarlaw13.PostingSome", spec := "postingSome", unfollowed := true, recurses := true, apart := false }
def PostingSomeSaid : Prop := postingSomeRow.holds Try.pinned (OpenSpec.ofChange postingSomeSpec)

/-- ITS FALSE NEIGHBOUR: 'it returns false'. Refute it at one input. -/
def postingSomeWrong : ChangeSpec := { name := "postingSome", fn := fun _ => fun
  | [d1, d2, d3] => { results := [.lit (.bool false)], args := [d1, d2, d3] }
  | _ => none }
def PostingSomeWrongFalsely : Prop := postingSomeRow.holds Try.pinned (OpenSpec.ofChange postingSomeWrong)

/-- 'registrarlaw13.PostingFinds': WHATEVER THE INPUT: true; the input reads as it did. -/
def postingFindsSpec : ChangeSpec := { name := "postingFinds", fn := fun _ => fun
  | [d1, d2, d3] => { results := [.lit (.bool true)], args := [d1, d2, d3] }
  | _ => none }
def postingFindsRow : OpenClaim := { program := "yteahpkihkfkpfaa", sum := "6c131b1561821a59857eebc697fe8dd41825d69202c794d35ee90d1e78c248b2", func := "registrar/registrarlaw13.PostingFinds", spec := "postingFinds", inPlace := ["maps.clone"], unfollowed := true, recurses := true, apart := false }
def PostingFindsSaid : Prop := postingFindsRow.holds Try.pinned (OpenSpec.ofChange postingFindsSpec)

/-- ITS FALSE NEIGHBOUR: 'it returns false'. Refute it at one input. -/
def postingFindsWrong : ChangeSpec := { name := "postingFinds", fn := fun _ => fun
  | [d1, d2, d3] => { results := [.lit (.bool false)], args := [d1, d2, d3] }
  | _ => none }
def PostingFindsWrongFalsely : Prop := postingFindsRow.holds Try.pinned (OpenSpec.ofChange postingFindsWrong)

/-- 'registrarlaw13.PostingMatch': WHATEVER THE INPUT: true; the input reads as it did. -/
def postingMatchSpec : ChangeSpec := { name := "postingMatch", fn := fun _ => fun
  | [d1, d2, d3] => { results := [.lit (.bool true)], args := [d1, d2, d3] }
  | _ => none }
def postingMatchRow : OpenClaim := { program := "yteahpkihkfkpfaa", sum := "6c131b1561821a59857eebc697fe8dd41825d69202c794d35ee90d1e78c248b2", func := "registrar/registrarlaw13.PostingMatch", spec := "postingMatch", unfollowed := true, recurses := true, apart := false }
def PostingMatchSaid : Prop := postingMatchRow.holds Try.pinned (OpenSpec.ofChange postingMatchSpec)

/-- ITS FALSE NEIGHBOUR: 'it returns false'. Refute it at one input. -/
def postingMatchWrong : ChangeSpec := { name := "postingMatch", fn := fun _ => fun
  | [d1, d2, d3] => { results := [.lit (.bool false)], args := [d1, d2, d3] }
  | _ => none }
def PostingMatchWrongFalsely : Prop := postingMatchRow.holds Try.pinned (OpenSpec.ofChange postingMatchWrong)

/-- 'registrarlaw12.StreamsRefuse': WHATEVER THE INPUT: true; the input reads as it did. -/
def streamsRefuseSpec : ChangeSpec := { name := "streamsRefuse", fn := fun _ => fun
  | [d1, d2, d3] => { results := [.lit (.bool true)], args := [d1, d2, d3] }
  | _ => none }
def streamsRefuseRow : OpenClaim := { program := "yteahpkihkfkpfaa", sum := "6c131b1561821a59857eebc697fe8dd41825d69202c794d35ee90d1e78c248b2", func := "registrar/registrarlaw12.StreamsRefuse", spec := "streamsRefuse", unfollowed := true, recurses := true, apart := false }
def StreamsRefuseSaid : Prop := streamsRefuseRow.holds Try.pinned (OpenSpec.ofChange streamsRefuseSpec)

/-- ITS FALSE NEIGHBOUR: 'it returns false'. Refute it at one input. -/
def streamsRefuseWrong : ChangeSpec := { name := "streamsRefuse", fn := fun _ => fun
  | [d1, d2, d3] => { results := [.lit (.bool false)], args := [d1, d2, d3] }
  | _ => none }
def StreamsRefuseWrongFalsely : Prop := streamsRefuseRow.holds Try.pinned (OpenSpec.ofChange streamsRefuseWrong)

/-- 'registrarlaw12.StreamsOrder': WHATEVER THE INPUT: true; the input reads as it did. -/
def streamsOrderSpec : ChangeSpec := { name := "streamsOrder", fn := fun _ => fun
  | [d] => { results := [.lit (.bool true)], args := [d] }
  | _ => none }
def streamsOrderRow : OpenClaim := { program := "yteahpkihkfkpfaa", sum := "6c131b1561821a59857eebc697fe8dd41825d69202c794d35ee90d1e78c248b2", func := "registrar/registrarlaw12.StreamsOrder", spec := "streamsOrder", unfollowed := true, recurses := true, apart := false }
def StreamsOrderSaid : Prop := streamsOrderRow.holds Try.pinned (OpenSpec.ofChange streamsOrderSpec)

/-- ITS FALSE NEIGHBOUR: 'it returns false'. Refute it at one input. -/
def streamsOrderWrong : ChangeSpec := { name := "streamsOrder", fn := fun _ => fun
  | [d] => { results := [.lit (.bool false)], args := [d] }
  | _ => none }
def StreamsOrderWrongFalsely : Prop := streamsOrderRow.holds Try.pinned (OpenSpec.ofChange streamsOrderWrong)

/-- 'registrarlaw12.StreamsWhole': WHATEVER THE INPUT: true; the input reads as it did. -/
def streamsWholeSpec : ChangeSpec := { name := "streamsWhole", fn := fun _ => fun
  | [d] => { results := [.lit (.bool true)], args := [d] }
  | _ => none }
def streamsWholeRow : OpenClaim := { program := "yteahpkihkfkpfaa", sum := "6c131b1561821a59857eebc697fe8dd41825d69202c794d35ee90d1e78c248b2", func := "registrar/registrarlaw12.StreamsWhole", spec := "streamsWhole", unfollowed := true, recurses := true, apart := false }
def StreamsWholeSaid : Prop := streamsWholeRow.holds Try.pinned (OpenSpec.ofChange streamsWholeSpec)

/-- ITS FALSE NEIGHBOUR: 'it returns false'. Refute it at one input. -/
def streamsWholeWrong : ChangeSpec := { name := "streamsWhole", fn := fun _ => fun
  | [d] => { results := [.lit (.bool false)], args := [d] }
  | _ => none }
def StreamsWholeWrongFalsely : Prop := streamsWholeRow.holds Try.pinned (OpenSpec.ofChange streamsWholeWrong)

/-- 'registrarlaw12.StreamsPlays': WHATEVER THE INPUT: true; the input reads as it did. -/
def streamsPlaysSpec : ChangeSpec := { name := "streamsPlays", fn := fun _ => fun
  | [d1, d2, d3] => { results := [.lit (.bool true)], args := [d1, d2, d3] }
  | _ => none }
def streamsPlaysRow : OpenClaim := { program := "yteahpkihkfkpfaa", sum := "6c131b1561821a59857eebc697fe8dd41825d69202c794d35ee90d1e78c248b2", func := "registrar/registrarlaw12.StreamsPlays", spec := "streamsPlays", inPlace := ["maps.clone"], unfollowed := true, recurses := true, apart := false }
def StreamsPlaysSaid : Prop := streamsPlaysRow.holds Try.pinned (OpenSpec.ofChange streamsPlaysSpec)

/-- ITS FALSE NEIGHBOUR: 'it returns false'. Refute it at one input. -/
def streamsPlaysWrong : ChangeSpec := { name := "streamsPlays", fn := fun _ => fun
  | [d1, d2, d3] => { results := [.lit (.bool false)], args := [d1, d2, d3] }
  | _ => none }
def StreamsPlaysWrongFalsely : Prop := streamsPlaysRow.holds Try.pinned (OpenSpec.ofChange streamsPlaysWrong)

/-- 'registrarlaw06.QueryMatches': WHATEVER THE INPUT: true; the input reads as it did. -/
def queryMatchesSpec : ChangeSpec := { name := "queryMatches", fn := fun _ => fun
  | [d1, d2] => { results := [.lit (.bool true)], args := [d1, d2] }
  | _ => none }
def queryMatchesRow : OpenClaim := { program := "yteahpkihkfkpfaa", sum := "6c131b1561821a59857eebc697fe8dd41825d69202c794d35ee90d1e78c248b2", func := "registrar/registrarlaw06.QueryMatches", spec := "queryMatches", unfollowed := true, recurses := true, apart := false }
def QueryMatchesSaid : Prop := queryMatchesRow.holds Try.pinned (OpenSpec.ofChange queryMatchesSpec)

/-- ITS FALSE NEIGHBOUR: 'it returns false'. Refute it at one input. -/
def queryMatchesWrong : ChangeSpec := { name := "queryMatches", fn := fun _ => fun
  | [d1, d2] => { results := [.lit (.bool false)], args := [d1, d2] }
  | _ => none }
def QueryMatchesWrongFalsely : Prop := queryMatchesRow.holds Try.pinned (OpenSpec.ofChange queryMatchesWrong)

/- THE SECOND FORM. 'bulk': how many values and letters a reading holds, each counted each time it is reached (what is shared counts as often as it is met; a slice's spare places count too). A statement '..UptoSaid' is the law's where the arguments, and the package variables that the reading takes, are together of bulk at most 1048576: NARROWER than '..Said'. Prove '..Said' where nothing that the law and all that it calls make is longer than what came in: it says more and counts as full. Else prove '..UptoSaid'. A law counts once. -/
mutual
def uptoBulk {H : Type} : DataW H → Nat
  | .lit (.string bytes) => bytes.length + 1
  | .lit _ => 1
  | .nil => 1
  | .ptr d => uptoBulk d + 1
  | .slice elems spare => uptoBulkAll elems + uptoBulkAll spare + 1
  | .agg parts => uptoBulkAll parts + 1
  | .iface _ d => uptoBulk d + 1
  | .map entries => uptoBulkEntries entries + 1
  | .held _ => 1
def uptoBulkAll {H : Type} : List (DataW H) → Nat
  | [] => 0
  | d :: r => uptoBulk d + uptoBulkAll r
def uptoBulkEntries {H : Type} : List (Lit × DataW H) → Nat
  | [] => 0
  | x :: r => uptoBulkEntry x + uptoBulkEntries r
def uptoBulkEntry {H : Type} : Lit × DataW H → Nat
  | (.string bytes, d) => bytes.length + uptoBulk d + 1
  | (_, d) => uptoBulk d + 1
 end
def uptoSmall : (H : Type) → List (DataW H) → Bool := fun _ ds => decide (uptoBulkAll ds ≤ 1048576)
def OpenSpec.upto (s : _root_.Go.ChangeSpec) : _root_.Go.OpenSpec := { _root_.Go.OpenSpec.ofChange s with cond := some uptoSmall }

/-- 'registrarlaw12.StreamsUpto', WHERE WHAT IT READS IS OF BULK AT MOST 1048576: true; the input reads as it did. -/
def streamsUptoUptoRow : OpenClaim := { program := "yteahpkihkfkpfaa", sum := "6c131b1561821a59857eebc697fe8dd41825d69202c794d35ee90d1e78c248b2", func := "registrar/registrarlaw12.StreamsUpto", spec := "streamsUpto", apart := false, narrowed := true }
def StreamsUptoUptoSaid : Prop := streamsUptoUptoRow.holds Try.pinned (OpenSpec.upto streamsUptoSpec)

/-- 'registrarlaw13.PostingLists', WHERE WHAT IT READS IS OF BULK AT MOST 1048576: true; the input reads as it did. -/
def postingListsUptoRow : OpenClaim := { program := "yteahpkihkfkpfaa", sum := "6c131b1561821a59857eebc697fe8dd41825d69202c794d35ee90d1e78c248b2", func := "registrar/registrarlaw13.PostingLists", spec := "postingLists", inPlace := ["maps.clone"], unfollowed := true, recurses := true, apart := false, narrowed := true }
def PostingListsUptoSaid : Prop := postingListsUptoRow.holds Try.pinned (OpenSpec.upto postingListsSpec)

/-- 'registrarlaw12.StreamsCopies', WHERE WHAT IT READS IS OF BULK AT MOST 1048576: true; the input reads as it did. -/
def streamsCopiesUptoRow : OpenClaim := { program := "yteahpkihkfkpfaa", sum := "6c131b1561821a59857eebc697fe8dd41825d69202c794d35ee90d1e78c248b2", func := "registrar/registrarlaw12.StreamsCopies", spec := "streamsCopies", inPlace := ["maps.clone"], apart := false, narrowed := true }
def StreamsCopiesUptoSaid : Prop := streamsCopiesUptoRow.holds Try.pinned (OpenSpec.upto streamsCopiesSpec)

/-- 'registrarlaw13.PostingSome', WHERE WHAT IT READS IS OF BULK AT MOST 1048576: true; the input reads as it did. -/
def postingSomeUptoRow : OpenClaim := { program := "yteahpkihkfkpfaa", sum := "6c131b1561821a59857eebc697fe8dd41825d69202c794d35ee90d1e78c248b2", func := "registrar/registrarlaw13.PostingSome", spec := "postingSome", unfollowed := true, recurses := true, apart := false, narrowed := true }
def PostingSomeUptoSaid : Prop := postingSomeUptoRow.holds Try.pinned (OpenSpec.upto postingSomeSpec)

/-- 'registrarlaw13.PostingFinds', WHERE WHAT IT READS IS OF BULK AT MOST 1048576: true; the input reads as it did. -/
def postingFindsUptoRow : OpenClaim := { program := "yteahpkihkfkpfaa", sum := "6c131b1561821a59857eebc697fe8dd41825d69202c794d35ee90d1e78c248b2", func := "registrar/registrarlaw13.PostingFinds", spec := "postingFinds", inPlace := ["maps.clone"], unfollowed := true, recurses := true, apart := false, narrowed := true }
def PostingFindsUptoSaid : Prop := postingFindsUptoRow.holds Try.pinned (OpenSpec.upto postingFindsSpec)

/-- 'registrarlaw13.PostingMatch', WHERE WHAT IT READS IS OF BULK AT MOST 1048576: true; the input reads as it did. -/
def postingMatchUptoRow : OpenClaim := { program := "yteahpkihkfkpfaa", sum := "6c131b1561821a59857eebc697fe8dd41825d69202c794d35ee90d1e78c248b2", func := "registrar/registrarlaw13.PostingMatch", spec := "postingMatch", unfollowed := true, recurses := true, apart := false, narrowed := true }
def PostingMatchUptoSaid : Prop := postingMatchUptoRow.holds Try.pinned (OpenSpec.upto postingMatchSpec)

/-- 'registrarlaw12.StreamsRefuse', WHERE WHAT IT READS IS OF BULK AT MOST 1048576: true; the input reads as it did. -/
def streamsRefuseUptoRow : OpenClaim := { program := "yteahpkihkfkpfaa", sum := "6c131b1561821a59857eebc697fe8dd41825d69202c794d35ee90d1e78c248b2", func := "registrar/registrarlaw12.StreamsRefuse", spec := "streamsRefuse", unfollowed := true, recurses := true, apart := false, narrowed := true }
def StreamsRefuseUptoSaid : Prop := streamsRefuseUptoRow.holds Try.pinned (OpenSpec.upto streamsRefuseSpec)

/-- 'registrarlaw12.StreamsOrder', WHERE WHAT IT READS IS OF BULK AT MOST 1048576: true; the input reads as it did. -/
def streamsOrderUptoRow : OpenClaim := { program := "yteahpkihkfkpfaa", sum := "6c131b1561821a59857eebc697fe8dd41825d69202c794d35ee90d1e78c248b2", func := "registrar/registrarlaw12.StreamsOrder", spec := "streamsOrder", unfollowed := true, recurses := true, apart := false, narrowed := true }
def StreamsOrderUptoSaid : Prop := streamsOrderUptoRow.holds Try.pinned (OpenSpec.upto streamsOrderSpec)

/-- 'registrarlaw12.StreamsWhole', WHERE WHAT IT READS IS OF BULK AT MOST 1048576: true; the input reads as it did. -/
def streamsWholeUptoRow : OpenClaim := { program := "yteahpkihkfkpfaa", sum := "6c131b1561821a59857eebc697fe8dd41825d69202c794d35ee90d1e78c248b2", func := "registrar/registrarlaw12.StreamsWhole", spec := "streamsWhole", unfollowed := true, recurses := true, apart := false, narrowed := true }
def StreamsWholeUptoSaid : Prop := streamsWholeUptoRow.holds Try.pinned (OpenSpec.upto streamsWholeSpec)

/-- 'registrarlaw12.StreamsPlays', WHERE WHAT IT READS IS OF BULK AT MOST 1048576: true; the input reads as it did. -/
def streamsPlaysUptoRow : OpenClaim := { program := "yteahpkihkfkpfaa", sum := "6c131b1561821a59857eebc697fe8dd41825d69202c794d35ee90d1e78c248b2", func := "registrar/registrarlaw12.StreamsPlays", spec := "streamsPlays", inPlace := ["maps.clone"], unfollowed := true, recurses := true, apart := false, narrowed := true }
def StreamsPlaysUptoSaid : Prop := streamsPlaysUptoRow.holds Try.pinned (OpenSpec.upto streamsPlaysSpec)

/-- 'registrarlaw06.QueryMatches', WHERE WHAT IT READS IS OF BULK AT MOST 1048576: true; the input reads as it did. -/
def queryMatchesUptoRow : OpenClaim := { program := "yteahpkihkfkpfaa", sum := "6c131b1561821a59857eebc697fe8dd41825d69202c794d35ee90d1e78c248b2", func := "registrar/registrarlaw06.QueryMatches", spec := "queryMatches", unfollowed := true, recurses := true, apart := false, narrowed := true }
def QueryMatchesUptoSaid : Prop := queryMatchesUptoRow.holds Try.pinned (OpenSpec.upto queryMatchesSpec)

end Rows
end Go.Proofs.Yteahpkihkfkpfaa
