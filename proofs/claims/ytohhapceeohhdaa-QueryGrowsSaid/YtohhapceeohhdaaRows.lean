/-
  No cell of these rows narrows 'for every input' (looked for: loops, veiled, ifaces, maps, wideKeys, modest, calm, conditions, laid).
  DERIVED. THE GIVEN ROWS OF THIS SEAT. 32 by the template 'for every input the law returns true; each argument reads behind the call as it read before'; 0 by the template 'total and deterministic' (their statements: YtohhapceeohhdaaTotals.lean).
  GIVEN WITH THE SEED: the statements are not yours to turn. If you find one false, say at which input.
  Laid BY PROGRAM, IN A SANDBOX (cutbox-rows.mjs): the forced cells as the released guide's own fill.sh prints them over the translation a1b65cbef4943472… (all of the seat's roots in one cut). By AI agents, Wed Nov 11 2026. No macro, syntax, notation, axiom, sorry.
-/
import Derived.Test.YtohhapceeohhdaaChecked
import GoSem.Claim
import GoSem.ClaimJoined
import GoSem.ClaimMapViews
import Derived.JoinedTies
import Derived.KernelRfl
namespace Go.Proofs.Ytohhapceeohhdaa
/- THE CELL 'sum', in the pinned program and in every row, IS THE sha256 OF THE DUMP (.gsa) THAT YtohhapceeohhdaaProg.lean LOADS. Nothing in Lean hashes anything: it is a label: what it is worth is what the hold of that sum in a sandbox is worth. -/
noncomputable def Try.pinned : Pinned := { name := "ytohhapceeohhdaa", sum := "a1b65cbef494347275e61150ad55ea25bcbf868a52ec640b3fb934897340ff49", checked := Try.checked }
namespace Rows
def none {H : Type} : Left H := { results := [], args := [] }

/-- 'registrarlaw13.PostingTwo': WHATEVER THE INPUT: true; the input reads as it did. -/
def postingTwoSpec : ChangeSpec := { name := "postingTwo", fn := fun _ => fun
  | [d1, d2] => { results := [.lit (.bool true)], args := [d1, d2] }
  | _ => none }
def postingTwoRow : OpenClaim := { program := "ytohhapceeohhdaa", sum := "a1b65cbef494347275e61150ad55ea25bcbf868a52ec640b3fb934897340ff49", func := "registrar/registrarlaw13.PostingTwo", spec := "postingTwo", unfollowed := true, recurses := true, apart := false }
def PostingTwoSaid : Prop := postingTwoRow.holds Try.pinned (OpenSpec.ofChange postingTwoSpec)

/-- ITS FALSE NEIGHBOUR: 'it returns false'. Refute it at one input. -/
def postingTwoWrong : ChangeSpec := { name := "postingTwo", fn := fun _ => fun
  | [d1, d2] => { results := [.lit (.bool false)], args := [d1, d2] }
  | _ => none }
def PostingTwoWrongFalsely : Prop := postingTwoRow.holds Try.pinned (OpenSpec.ofChange postingTwoWrong)

/-- 'registrarlaw13.PostingThree': WHATEVER THE INPUT: true; the input reads as it did. -/
def postingThreeSpec : ChangeSpec := { name := "postingThree", fn := fun _ => fun
  | [d1, d2, d3] => { results := [.lit (.bool true)], args := [d1, d2, d3] }
  | _ => none }
def postingThreeRow : OpenClaim := { program := "ytohhapceeohhdaa", sum := "a1b65cbef494347275e61150ad55ea25bcbf868a52ec640b3fb934897340ff49", func := "registrar/registrarlaw13.PostingThree", spec := "postingThree", unfollowed := true, recurses := true, apart := false }
def PostingThreeSaid : Prop := postingThreeRow.holds Try.pinned (OpenSpec.ofChange postingThreeSpec)

/-- ITS FALSE NEIGHBOUR: 'it returns false'. Refute it at one input. -/
def postingThreeWrong : ChangeSpec := { name := "postingThree", fn := fun _ => fun
  | [d1, d2, d3] => { results := [.lit (.bool false)], args := [d1, d2, d3] }
  | _ => none }
def PostingThreeWrongFalsely : Prop := postingThreeRow.holds Try.pinned (OpenSpec.ofChange postingThreeWrong)

/-- 'registrarlaw06.QueryGrows': WHATEVER THE INPUT: true; the input reads as it did. -/
def queryGrowsSpec : ChangeSpec := { name := "queryGrows", fn := fun _ => fun
  | [d1, d2, d3] => { results := [.lit (.bool true)], args := [d1, d2, d3] }
  | _ => none }
def queryGrowsRow : OpenClaim := { program := "ytohhapceeohhdaa", sum := "a1b65cbef494347275e61150ad55ea25bcbf868a52ec640b3fb934897340ff49", func := "registrar/registrarlaw06.QueryGrows", spec := "queryGrows", unfollowed := true, recurses := true, apart := false }
def QueryGrowsSaid : Prop := queryGrowsRow.holds Try.pinned (OpenSpec.ofChange queryGrowsSpec)

/-- ITS FALSE NEIGHBOUR: 'it returns false'. Refute it at one input. -/
def queryGrowsWrong : ChangeSpec := { name := "queryGrows", fn := fun _ => fun
  | [d1, d2, d3] => { results := [.lit (.bool false)], args := [d1, d2, d3] }
  | _ => none }
def QueryGrowsWrongFalsely : Prop := queryGrowsRow.holds Try.pinned (OpenSpec.ofChange queryGrowsWrong)

/-- 'registrarlaw06.QueryAll': WHATEVER THE INPUT: true; the input reads as it did. -/
def queryAllSpec : ChangeSpec := { name := "queryAll", fn := fun _ => fun
  | [d1, d2, d3] => { results := [.lit (.bool true)], args := [d1, d2, d3] }
  | _ => none }
def queryAllRow : OpenClaim := { program := "ytohhapceeohhdaa", sum := "a1b65cbef494347275e61150ad55ea25bcbf868a52ec640b3fb934897340ff49", func := "registrar/registrarlaw06.QueryAll", spec := "queryAll", unfollowed := true, recurses := true, apart := false }
def QueryAllSaid : Prop := queryAllRow.holds Try.pinned (OpenSpec.ofChange queryAllSpec)

/-- ITS FALSE NEIGHBOUR: 'it returns false'. Refute it at one input. -/
def queryAllWrong : ChangeSpec := { name := "queryAll", fn := fun _ => fun
  | [d1, d2, d3] => { results := [.lit (.bool false)], args := [d1, d2, d3] }
  | _ => none }
def QueryAllWrongFalsely : Prop := queryAllRow.holds Try.pinned (OpenSpec.ofChange queryAllWrong)

/-- 'registrarlaw06.QueryParts': WHATEVER THE INPUT: true; the input reads as it did. -/
def queryPartsSpec : ChangeSpec := { name := "queryParts", fn := fun _ => fun
  | [d1, d2] => { results := [.lit (.bool true)], args := [d1, d2] }
  | _ => none }
def queryPartsRow : OpenClaim := { program := "ytohhapceeohhdaa", sum := "a1b65cbef494347275e61150ad55ea25bcbf868a52ec640b3fb934897340ff49", func := "registrar/registrarlaw06.QueryParts", spec := "queryParts", unfollowed := true, recurses := true, apart := false }
def QueryPartsSaid : Prop := queryPartsRow.holds Try.pinned (OpenSpec.ofChange queryPartsSpec)

/-- ITS FALSE NEIGHBOUR: 'it returns false'. Refute it at one input. -/
def queryPartsWrong : ChangeSpec := { name := "queryParts", fn := fun _ => fun
  | [d1, d2] => { results := [.lit (.bool false)], args := [d1, d2] }
  | _ => none }
def QueryPartsWrongFalsely : Prop := queryPartsRow.holds Try.pinned (OpenSpec.ofChange queryPartsWrong)

/-- 'registrarlaw06.QueryBlind': WHATEVER THE INPUT: true; the input reads as it did. -/
def queryBlindSpec : ChangeSpec := { name := "queryBlind", fn := fun _ => fun
  | [d1, d2, d3] => { results := [.lit (.bool true)], args := [d1, d2, d3] }
  | _ => none }
def queryBlindRow : OpenClaim := { program := "ytohhapceeohhdaa", sum := "a1b65cbef494347275e61150ad55ea25bcbf868a52ec640b3fb934897340ff49", func := "registrar/registrarlaw06.QueryBlind", spec := "queryBlind", unfollowed := true, recurses := true, apart := false }
def QueryBlindSaid : Prop := queryBlindRow.holds Try.pinned (OpenSpec.ofChange queryBlindSpec)

/-- ITS FALSE NEIGHBOUR: 'it returns false'. Refute it at one input. -/
def queryBlindWrong : ChangeSpec := { name := "queryBlind", fn := fun _ => fun
  | [d1, d2, d3] => { results := [.lit (.bool false)], args := [d1, d2, d3] }
  | _ => none }
def QueryBlindWrongFalsely : Prop := queryBlindRow.holds Try.pinned (OpenSpec.ofChange queryBlindWrong)

/-- 'registrarlaw12.StreamsUpto': WHATEVER THE INPUT: true; the input reads as it did. -/
def streamsUptoSpec : ChangeSpec := { name := "streamsUpto", fn := fun _ => fun
  | [d1, d2, d3] => { results := [.lit (.bool true)], args := [d1, d2, d3] }
  | _ => none }
def streamsUptoRow : OpenClaim := { program := "ytohhapceeohhdaa", sum := "a1b65cbef494347275e61150ad55ea25bcbf868a52ec640b3fb934897340ff49", func := "registrar/registrarlaw12.StreamsUpto", spec := "streamsUpto", apart := false }
def StreamsUptoSaid : Prop := streamsUptoRow.holds Try.pinned (OpenSpec.ofChange streamsUptoSpec)

/-- ITS FALSE NEIGHBOUR: 'it returns false'. Refute it at one input. -/
def streamsUptoWrong : ChangeSpec := { name := "streamsUpto", fn := fun _ => fun
  | [d1, d2, d3] => { results := [.lit (.bool false)], args := [d1, d2, d3] }
  | _ => none }
def StreamsUptoWrongFalsely : Prop := streamsUptoRow.holds Try.pinned (OpenSpec.ofChange streamsUptoWrong)

/-- 'registrarlaw13.PostingLists': WHATEVER THE INPUT: true; the input reads as it did. -/
def postingListsSpec : ChangeSpec := { name := "postingLists", fn := fun _ => fun
  | [d1, d2] => { results := [.lit (.bool true)], args := [d1, d2] }
  | _ => none }
def postingListsRow : OpenClaim := { program := "ytohhapceeohhdaa", sum := "a1b65cbef494347275e61150ad55ea25bcbf868a52ec640b3fb934897340ff49", func := "registrar/registrarlaw13.PostingLists", spec := "postingLists", inPlace := ["maps.clone"], unfollowed := true, recurses := true, apart := false }
def PostingListsSaid : Prop := postingListsRow.holds Try.pinned (OpenSpec.ofChange postingListsSpec)

/-- ITS FALSE NEIGHBOUR: 'it returns false'. Refute it at one input. -/
def postingListsWrong : ChangeSpec := { name := "postingLists", fn := fun _ => fun
  | [d1, d2] => { results := [.lit (.bool false)], args := [d1, d2] }
  | _ => none }
def PostingListsWrongFalsely : Prop := postingListsRow.holds Try.pinned (OpenSpec.ofChange postingListsWrong)

/-- 'registrarlaw12.StreamsCopies': WHATEVER THE INPUT: true; the input reads as it did. -/
def streamsCopiesSpec : ChangeSpec := { name := "streamsCopies", fn := fun _ => fun
  | [d1, d2, d3] => { results := [.lit (.bool true)], args := [d1, d2, d3] }
  | _ => none }
def streamsCopiesRow : OpenClaim := { program := "ytohhapceeohhdaa", sum := "a1b65cbef494347275e61150ad55ea25bcbf868a52ec640b3fb934897340ff49", func := "registrar/registrarlaw12.StreamsCopies", spec := "streamsCopies", inPlace := ["maps.clone"], apart := false }
def StreamsCopiesSaid : Prop := streamsCopiesRow.holds Try.pinned (OpenSpec.ofChange streamsCopiesSpec)

/-- ITS FALSE NEIGHBOUR: 'it returns false'. Refute it at one input. -/
def streamsCopiesWrong : ChangeSpec := { name := "streamsCopies", fn := fun _ => fun
  | [d1, d2, d3] => { results := [.lit (.bool false)], args := [d1, d2, d3] }
  | _ => none }
def StreamsCopiesWrongFalsely : Prop := streamsCopiesRow.holds Try.pinned (OpenSpec.ofChange streamsCopiesWrong)

/-- 'registrarlaw13.PostingSome': WHATEVER THE INPUT: true; the input reads as it did. -/
def postingSomeSpec : ChangeSpec := { name := "postingSome", fn := fun _ => fun
  | [d1, d2, d3] => { results := [.lit (.bool true)], args := [d1, d2, d3] }
  | _ => none }
def postingSomeRow : OpenClaim := { program := "ytohhapceeohhdaa", sum := "a1b65cbef494347275e61150ad55ea25bcbf868a52ec640b3fb934897340ff49", func := "registrar/registrarlaw13.PostingSome", spec := "postingSome", unfollowed := true, recurses := true, apart := false }
def PostingSomeSaid : Prop := postingSomeRow.holds Try.pinned (OpenSpec.ofChange postingSomeSpec)

/-- ITS FALSE NEIGHBOUR: 'it returns false'. Refute it at one input. -/
def postingSomeWrong : ChangeSpec := { name := "postingSome", fn := fun _ => fun
  | [d1, d2, d3] => { results := [.lit (.bool false)], args := [d1, d2, d3] }
  | _ => none }
def PostingSomeWrongFalsely : Prop := postingSomeRow.holds Try.pinned (OpenSpec.ofChange postingSomeWrong)

/-- 'registrarlaw13.PostingFinds': WHATEVER THE INPUT: true; the input reads as it did. -/
def postingFindsSpec : ChangeSpec := { name := "postingFinds", fn := fun _ => fun
  | [d1, d2, d3] => { results := [.lit (.bool true)], args := [d1, d2, d3] }
  | _ => none }
def postingFindsRow : OpenClaim := { program := "ytohhapceeohhdaa", sum := "a1b65cbef494347275e61150ad55ea25bcbf868a52ec640b3fb934897340ff49", func := "registrar/registrarlaw13.PostingFinds", spec := "postingFinds", inPlace := ["maps.clone"], unfollowed := true, recurses := true, apart := false }
def PostingFindsSaid : Prop := postingFindsRow.holds Try.pinned (OpenSpec.ofChange postingFindsSpec)

/-- ITS FALSE NEIGHBOUR: 'it returns false'. Refute it at one input. -/
def postingFindsWrong : ChangeSpec := { name := "postingFinds", fn := fun _ => fun
  | [d1, d2, d3] => { results := [.lit (.bool false)], args := [d1, d2, d3] }
  | _ => none }
def PostingFindsWrongFalsely : Prop := postingFindsRow.holds Try.pinned (OpenSpec.ofChange postingFindsWrong)

/-- 'registrarlaw13.PostingMatch': WHATEVER THE INPUT: true; the input reads as it did. -/
def postingMatchSpec : ChangeSpec := { name := "postingMatch", fn := fun _ => fun
  | [d1, d2, d3] => { results := [.lit (.bool true)], args := [d1, d2, d3] }
  | _ => none }
def postingMatchRow : OpenClaim := { program := "ytohhapceeohhdaa", sum := "a1b65cbef494347275e61150ad55ea25bcbf868a52ec640b3fb934897340ff49", func := "registrar/registrarlaw13.PostingMatch", spec := "postingMatch", unfollowed := true, recurses := true, apart := false }
def PostingMatchSaid : Prop := postingMatchRow.holds Try.pinned (OpenSpec.ofChange postingMatchSpec)

/-- ITS FALSE NEIGHBOUR: 'it returns false'. Refute it at one input. -/
def postingMatchWrong : ChangeSpec := { name := "postingMatch", fn := fun _ => fun
  | [d1, d2, d3] => { results := [.lit (.bool false)], args := [d1, d2, d3] }
  | _ => none }
def PostingMatchWrongFalsely : Prop := postingMatchRow.holds Try.pinned (OpenSpec.ofChange postingMatchWrong)

/-- 'registrarlaw12.StreamsRefuse': WHATEVER THE INPUT: true; the input reads as it did. -/
def streamsRefuseSpec : ChangeSpec := { name := "streamsRefuse", fn := fun _ => fun
  | [d1, d2, d3] => { results := [.lit (.bool true)], args := [d1, d2, d3] }
  | _ => none }
def streamsRefuseRow : OpenClaim := { program := "ytohhapceeohhdaa", sum := "a1b65cbef494347275e61150ad55ea25bcbf868a52ec640b3fb934897340ff49", func := "registrar/registrarlaw12.StreamsRefuse", spec := "streamsRefuse", unfollowed := true, recurses := true, apart := false }
def StreamsRefuseSaid : Prop := streamsRefuseRow.holds Try.pinned (OpenSpec.ofChange streamsRefuseSpec)

/-- ITS FALSE NEIGHBOUR: 'it returns false'. Refute it at one input. -/
def streamsRefuseWrong : ChangeSpec := { name := "streamsRefuse", fn := fun _ => fun
  | [d1, d2, d3] => { results := [.lit (.bool false)], args := [d1, d2, d3] }
  | _ => none }
def StreamsRefuseWrongFalsely : Prop := streamsRefuseRow.holds Try.pinned (OpenSpec.ofChange streamsRefuseWrong)

/-- 'registrarlaw12.StreamsOrder': WHATEVER THE INPUT: true; the input reads as it did. -/
def streamsOrderSpec : ChangeSpec := { name := "streamsOrder", fn := fun _ => fun
  | [d] => { results := [.lit (.bool true)], args := [d] }
  | _ => none }
def streamsOrderRow : OpenClaim := { program := "ytohhapceeohhdaa", sum := "a1b65cbef494347275e61150ad55ea25bcbf868a52ec640b3fb934897340ff49", func := "registrar/registrarlaw12.StreamsOrder", spec := "streamsOrder", unfollowed := true, recurses := true, apart := false }
def StreamsOrderSaid : Prop := streamsOrderRow.holds Try.pinned (OpenSpec.ofChange streamsOrderSpec)

/-- ITS FALSE NEIGHBOUR: 'it returns false'. Refute it at one input. -/
def streamsOrderWrong : ChangeSpec := { name := "streamsOrder", fn := fun _ => fun
  | [d] => { results := [.lit (.bool false)], args := [d] }
  | _ => none }
def StreamsOrderWrongFalsely : Prop := streamsOrderRow.holds Try.pinned (OpenSpec.ofChange streamsOrderWrong)

/-- 'registrarlaw12.StreamsWhole': WHATEVER THE INPUT: true; the input reads as it did. -/
def streamsWholeSpec : ChangeSpec := { name := "streamsWhole", fn := fun _ => fun
  | [d] => { results := [.lit (.bool true)], args := [d] }
  | _ => none }
def streamsWholeRow : OpenClaim := { program := "ytohhapceeohhdaa", sum := "a1b65cbef494347275e61150ad55ea25bcbf868a52ec640b3fb934897340ff49", func := "registrar/registrarlaw12.StreamsWhole", spec := "streamsWhole", unfollowed := true, recurses := true, apart := false }
def StreamsWholeSaid : Prop := streamsWholeRow.holds Try.pinned (OpenSpec.ofChange streamsWholeSpec)

/-- ITS FALSE NEIGHBOUR: 'it returns false'. Refute it at one input. -/
def streamsWholeWrong : ChangeSpec := { name := "streamsWhole", fn := fun _ => fun
  | [d] => { results := [.lit (.bool false)], args := [d] }
  | _ => none }
def StreamsWholeWrongFalsely : Prop := streamsWholeRow.holds Try.pinned (OpenSpec.ofChange streamsWholeWrong)

/-- 'registrarlaw12.StreamsPlays': WHATEVER THE INPUT: true; the input reads as it did. -/
def streamsPlaysSpec : ChangeSpec := { name := "streamsPlays", fn := fun _ => fun
  | [d1, d2, d3] => { results := [.lit (.bool true)], args := [d1, d2, d3] }
  | _ => none }
def streamsPlaysRow : OpenClaim := { program := "ytohhapceeohhdaa", sum := "a1b65cbef494347275e61150ad55ea25bcbf868a52ec640b3fb934897340ff49", func := "registrar/registrarlaw12.StreamsPlays", spec := "streamsPlays", inPlace := ["maps.clone"], unfollowed := true, recurses := true, apart := false }
def StreamsPlaysSaid : Prop := streamsPlaysRow.holds Try.pinned (OpenSpec.ofChange streamsPlaysSpec)

/-- ITS FALSE NEIGHBOUR: 'it returns false'. Refute it at one input. -/
def streamsPlaysWrong : ChangeSpec := { name := "streamsPlays", fn := fun _ => fun
  | [d1, d2, d3] => { results := [.lit (.bool false)], args := [d1, d2, d3] }
  | _ => none }
def StreamsPlaysWrongFalsely : Prop := streamsPlaysRow.holds Try.pinned (OpenSpec.ofChange streamsPlaysWrong)

/-- 'registrarlaw06.QueryMatches': WHATEVER THE INPUT: true; the input reads as it did. -/
def queryMatchesSpec : ChangeSpec := { name := "queryMatches", fn := fun _ => fun
  | [d1, d2] => { results := [.lit (.bool true)], args := [d1, d2] }
  | _ => none }
def queryMatchesRow : OpenClaim := { program := "ytohhapceeohhdaa", sum := "a1b65cbef494347275e61150ad55ea25bcbf868a52ec640b3fb934897340ff49", func := "registrar/registrarlaw06.QueryMatches", spec := "queryMatches", unfollowed := true, recurses := true, apart := false }
def QueryMatchesSaid : Prop := queryMatchesRow.holds Try.pinned (OpenSpec.ofChange queryMatchesSpec)

/-- ITS FALSE NEIGHBOUR: 'it returns false'. Refute it at one input. -/
def queryMatchesWrong : ChangeSpec := { name := "queryMatches", fn := fun _ => fun
  | [d1, d2] => { results := [.lit (.bool false)], args := [d1, d2] }
  | _ => none }
def QueryMatchesWrongFalsely : Prop := queryMatchesRow.holds Try.pinned (OpenSpec.ofChange queryMatchesWrong)

/-- 'registrarlaw04.EventMay': WHATEVER THE INPUT: true; the input reads as it did. -/
def eventMaySpec : ChangeSpec := { name := "eventMay", fn := fun _ => fun
  | [d] => { results := [.lit (.bool true)], args := [d] }
  | _ => none }
def eventMayRow : OpenClaim := { program := "ytohhapceeohhdaa", sum := "a1b65cbef494347275e61150ad55ea25bcbf868a52ec640b3fb934897340ff49", func := "registrar/registrarlaw04.EventMay", spec := "eventMay", inPlace := ["internal/bytealg.IndexByteString", "internal/bytealg.IndexString"], unfollowed := true, recurses := true, named := ["internal/bytealg.MaxLen"], apart := false }
def EventMaySaid : Prop := eventMayRow.holds Try.pinned (OpenSpec.ofChange eventMaySpec)

/-- ITS FALSE NEIGHBOUR: 'it returns false'. Refute it at one input. -/
def eventMayWrong : ChangeSpec := { name := "eventMay", fn := fun _ => fun
  | [d] => { results := [.lit (.bool false)], args := [d] }
  | _ => none }
def EventMayWrongFalsely : Prop := eventMayRow.holds Try.pinned (OpenSpec.ofChange eventMayWrong)

/-- 'registrarlaw04.EventSame': WHATEVER THE INPUT: true; the input reads as it did. -/
def eventSameSpec : ChangeSpec := { name := "eventSame", fn := fun _ => fun
  | [d1, d2, d3] => { results := [.lit (.bool true)], args := [d1, d2, d3] }
  | _ => none }
def eventSameRow : OpenClaim := { program := "ytohhapceeohhdaa", sum := "a1b65cbef494347275e61150ad55ea25bcbf868a52ec640b3fb934897340ff49", func := "registrar/registrarlaw04.EventSame", spec := "eventSame", inPlace := ["internal/bytealg.IndexByteString", "internal/bytealg.IndexString"], unfollowed := true, recurses := true, named := ["internal/bytealg.MaxLen"], apart := false }
def EventSameSaid : Prop := eventSameRow.holds Try.pinned (OpenSpec.ofChange eventSameSpec)

/-- ITS FALSE NEIGHBOUR: 'it returns false'. Refute it at one input. -/
def eventSameWrong : ChangeSpec := { name := "eventSame", fn := fun _ => fun
  | [d1, d2, d3] => { results := [.lit (.bool false)], args := [d1, d2, d3] }
  | _ => none }
def EventSameWrongFalsely : Prop := eventSameRow.holds Try.pinned (OpenSpec.ofChange eventSameWrong)

/-- 'registrarlaw04.EventOwn': WHATEVER THE INPUT: true; the input reads as it did. -/
def eventOwnSpec : ChangeSpec := { name := "eventOwn", fn := fun _ => fun
  | [d] => { results := [.lit (.bool true)], args := [d] }
  | _ => none }
def eventOwnRow : OpenClaim := { program := "ytohhapceeohhdaa", sum := "a1b65cbef494347275e61150ad55ea25bcbf868a52ec640b3fb934897340ff49", func := "registrar/registrarlaw04.EventOwn", spec := "eventOwn", inPlace := ["internal/bytealg.IndexByteString", "internal/bytealg.IndexString"], unfollowed := true, recurses := true, named := ["internal/bytealg.MaxLen"], apart := false }
def EventOwnSaid : Prop := eventOwnRow.holds Try.pinned (OpenSpec.ofChange eventOwnSpec)

/-- ITS FALSE NEIGHBOUR: 'it returns false'. Refute it at one input. -/
def eventOwnWrong : ChangeSpec := { name := "eventOwn", fn := fun _ => fun
  | [d] => { results := [.lit (.bool false)], args := [d] }
  | _ => none }
def EventOwnWrongFalsely : Prop := eventOwnRow.holds Try.pinned (OpenSpec.ofChange eventOwnWrong)

/-- 'registrarlaw04.EventParts': WHATEVER THE INPUT: true; the input reads as it did. -/
def eventPartsSpec : ChangeSpec := { name := "eventParts", fn := fun _ => fun
  | [d1, d2, d3] => { results := [.lit (.bool true)], args := [d1, d2, d3] }
  | _ => none }
def eventPartsRow : OpenClaim := { program := "ytohhapceeohhdaa", sum := "a1b65cbef494347275e61150ad55ea25bcbf868a52ec640b3fb934897340ff49", func := "registrar/registrarlaw04.EventParts", spec := "eventParts", inPlace := ["internal/bytealg.IndexByteString", "internal/bytealg.IndexString"], unfollowed := true, recurses := true, named := ["internal/bytealg.MaxLen"], apart := false }
def EventPartsSaid : Prop := eventPartsRow.holds Try.pinned (OpenSpec.ofChange eventPartsSpec)

/-- ITS FALSE NEIGHBOUR: 'it returns false'. Refute it at one input. -/
def eventPartsWrong : ChangeSpec := { name := "eventParts", fn := fun _ => fun
  | [d1, d2, d3] => { results := [.lit (.bool false)], args := [d1, d2, d3] }
  | _ => none }
def EventPartsWrongFalsely : Prop := eventPartsRow.holds Try.pinned (OpenSpec.ofChange eventPartsWrong)

/-- 'registrarlaw04.EventHas': WHATEVER THE INPUT: true; the input reads as it did. -/
def eventHasSpec : ChangeSpec := { name := "eventHas", fn := fun _ => fun
  | [d1, d2, d3] => { results := [.lit (.bool true)], args := [d1, d2, d3] }
  | _ => none }
def eventHasRow : OpenClaim := { program := "ytohhapceeohhdaa", sum := "a1b65cbef494347275e61150ad55ea25bcbf868a52ec640b3fb934897340ff49", func := "registrar/registrarlaw04.EventHas", spec := "eventHas", inPlace := ["internal/bytealg.IndexByteString", "internal/bytealg.IndexString"], unfollowed := true, recurses := true, named := ["internal/bytealg.MaxLen"], apart := false }
def EventHasSaid : Prop := eventHasRow.holds Try.pinned (OpenSpec.ofChange eventHasSpec)

/-- ITS FALSE NEIGHBOUR: 'it returns false'. Refute it at one input. -/
def eventHasWrong : ChangeSpec := { name := "eventHas", fn := fun _ => fun
  | [d1, d2, d3] => { results := [.lit (.bool false)], args := [d1, d2, d3] }
  | _ => none }
def EventHasWrongFalsely : Prop := eventHasRow.holds Try.pinned (OpenSpec.ofChange eventHasWrong)

/-- 'registrarlaw04.EventNorm': WHATEVER THE INPUT: true; the input reads as it did. -/
def eventNormSpec : ChangeSpec := { name := "eventNorm", fn := fun _ => fun
  | [d1, d2] => { results := [.lit (.bool true)], args := [d1, d2] }
  | _ => none }
def eventNormRow : OpenClaim := { program := "ytohhapceeohhdaa", sum := "a1b65cbef494347275e61150ad55ea25bcbf868a52ec640b3fb934897340ff49", func := "registrar/registrarlaw04.EventNorm", spec := "eventNorm", inPlace := ["internal/bytealg.IndexByteString", "internal/bytealg.IndexString"], unfollowed := true, recurses := true, named := ["internal/bytealg.MaxLen"], apart := false }
def EventNormSaid : Prop := eventNormRow.holds Try.pinned (OpenSpec.ofChange eventNormSpec)

/-- ITS FALSE NEIGHBOUR: 'it returns false'. Refute it at one input. -/
def eventNormWrong : ChangeSpec := { name := "eventNorm", fn := fun _ => fun
  | [d1, d2] => { results := [.lit (.bool false)], args := [d1, d2] }
  | _ => none }
def EventNormWrongFalsely : Prop := eventNormRow.holds Try.pinned (OpenSpec.ofChange eventNormWrong)

/-- 'registrarlaw06.QueryMay': WHATEVER THE INPUT: true; the input reads as it did. -/
def queryMaySpec : ChangeSpec := { name := "queryMay", fn := fun _ => fun
  | [d1, d2] => { results := [.lit (.bool true)], args := [d1, d2] }
  | _ => none }
def queryMayRow : OpenClaim := { program := "ytohhapceeohhdaa", sum := "a1b65cbef494347275e61150ad55ea25bcbf868a52ec640b3fb934897340ff49", func := "registrar/registrarlaw06.QueryMay", spec := "queryMay", inPlace := ["internal/bytealg.IndexByteString", "internal/bytealg.IndexString"], unfollowed := true, recurses := true, named := ["internal/bytealg.MaxLen"], apart := false }
def QueryMaySaid : Prop := queryMayRow.holds Try.pinned (OpenSpec.ofChange queryMaySpec)

/-- ITS FALSE NEIGHBOUR: 'it returns false'. Refute it at one input. -/
def queryMayWrong : ChangeSpec := { name := "queryMay", fn := fun _ => fun
  | [d1, d2] => { results := [.lit (.bool false)], args := [d1, d2] }
  | _ => none }
def QueryMayWrongFalsely : Prop := queryMayRow.holds Try.pinned (OpenSpec.ofChange queryMayWrong)

/-- 'registrarlaw06.QueryFits': WHATEVER THE INPUT: true; the input reads as it did. -/
def queryFitsSpec : ChangeSpec := { name := "queryFits", fn := fun _ => fun
  | [d1, d2] => { results := [.lit (.bool true)], args := [d1, d2] }
  | _ => none }
def queryFitsRow : OpenClaim := { program := "ytohhapceeohhdaa", sum := "a1b65cbef494347275e61150ad55ea25bcbf868a52ec640b3fb934897340ff49", func := "registrar/registrarlaw06.QueryFits", spec := "queryFits", inPlace := ["internal/bytealg.IndexByteString", "internal/bytealg.IndexString"], unfollowed := true, recurses := true, named := ["internal/bytealg.MaxLen"], apart := false }
def QueryFitsSaid : Prop := queryFitsRow.holds Try.pinned (OpenSpec.ofChange queryFitsSpec)

/-- ITS FALSE NEIGHBOUR: 'it returns false'. Refute it at one input. -/
def queryFitsWrong : ChangeSpec := { name := "queryFits", fn := fun _ => fun
  | [d1, d2] => { results := [.lit (.bool false)], args := [d1, d2] }
  | _ => none }
def QueryFitsWrongFalsely : Prop := queryFitsRow.holds Try.pinned (OpenSpec.ofChange queryFitsWrong)

/-- 'registrarlaw14.IndexRefuses': WHATEVER THE INPUT: true; the input reads as it did. -/
def indexRefusesSpec : ChangeSpec := { name := "indexRefuses", fn := fun _ => fun
  | [d1, d2] => { results := [.lit (.bool true)], args := [d1, d2] }
  | _ => none }
def indexRefusesRow : OpenClaim := { program := "ytohhapceeohhdaa", sum := "a1b65cbef494347275e61150ad55ea25bcbf868a52ec640b3fb934897340ff49", func := "registrar/registrarlaw14.IndexRefuses", spec := "indexRefuses", inPlace := ["internal/bytealg.IndexByteString", "internal/bytealg.IndexString"], unfollowed := true, recurses := true, named := ["internal/bytealg.MaxLen"], apart := false }
def IndexRefusesSaid : Prop := indexRefusesRow.holds Try.pinned (OpenSpec.ofChange indexRefusesSpec)

/-- ITS FALSE NEIGHBOUR: 'it returns false'. Refute it at one input. -/
def indexRefusesWrong : ChangeSpec := { name := "indexRefuses", fn := fun _ => fun
  | [d1, d2] => { results := [.lit (.bool false)], args := [d1, d2] }
  | _ => none }
def IndexRefusesWrongFalsely : Prop := indexRefusesRow.holds Try.pinned (OpenSpec.ofChange indexRefusesWrong)

/-- 'registrarlaw14.IndexOwn': WHATEVER THE INPUT: true; the input reads as it did. -/
def indexOwnSpec : ChangeSpec := { name := "indexOwn", fn := fun _ => fun
  | [d] => { results := [.lit (.bool true)], args := [d] }
  | _ => none }
def indexOwnRow : OpenClaim := { program := "ytohhapceeohhdaa", sum := "a1b65cbef494347275e61150ad55ea25bcbf868a52ec640b3fb934897340ff49", func := "registrar/registrarlaw14.IndexOwn", spec := "indexOwn", inPlace := ["internal/bytealg.IndexByteString", "internal/bytealg.IndexString"], unfollowed := true, recurses := true, named := ["internal/bytealg.MaxLen"], apart := false }
def IndexOwnSaid : Prop := indexOwnRow.holds Try.pinned (OpenSpec.ofChange indexOwnSpec)

/-- ITS FALSE NEIGHBOUR: 'it returns false'. Refute it at one input. -/
def indexOwnWrong : ChangeSpec := { name := "indexOwn", fn := fun _ => fun
  | [d] => { results := [.lit (.bool false)], args := [d] }
  | _ => none }
def IndexOwnWrongFalsely : Prop := indexOwnRow.holds Try.pinned (OpenSpec.ofChange indexOwnWrong)

/-- 'registrarlaw14.IndexCopies': WHATEVER THE INPUT: true; the input reads as it did. -/
def indexCopiesSpec : ChangeSpec := { name := "indexCopies", fn := fun _ => fun
  | [d1, d2, d3] => { results := [.lit (.bool true)], args := [d1, d2, d3] }
  | _ => none }
def indexCopiesRow : OpenClaim := { program := "ytohhapceeohhdaa", sum := "a1b65cbef494347275e61150ad55ea25bcbf868a52ec640b3fb934897340ff49", func := "registrar/registrarlaw14.IndexCopies", spec := "indexCopies", inPlace := ["internal/bytealg.IndexByteString", "internal/bytealg.IndexString", "maps.clone"], unfollowed := true, recurses := true, named := ["internal/bytealg.MaxLen"], apart := false }
def IndexCopiesSaid : Prop := indexCopiesRow.holds Try.pinned (OpenSpec.ofChange indexCopiesSpec)

/-- ITS FALSE NEIGHBOUR: 'it returns false'. Refute it at one input. -/
def indexCopiesWrong : ChangeSpec := { name := "indexCopies", fn := fun _ => fun
  | [d1, d2, d3] => { results := [.lit (.bool false)], args := [d1, d2, d3] }
  | _ => none }
def IndexCopiesWrongFalsely : Prop := indexCopiesRow.holds Try.pinned (OpenSpec.ofChange indexCopiesWrong)

/-- 'registrarlaw18.GuardEmpty': WHATEVER THE INPUT: true; the input reads as it did. -/
def guardEmptySpec : ChangeSpec := { name := "guardEmpty", fn := fun _ => fun
  | [d1, d2, d3] => { results := [.lit (.bool true)], args := [d1, d2, d3] }
  | _ => none }
def guardEmptyRow : OpenClaim := { program := "ytohhapceeohhdaa", sum := "a1b65cbef494347275e61150ad55ea25bcbf868a52ec640b3fb934897340ff49", func := "registrar/registrarlaw18.GuardEmpty", spec := "guardEmpty", inPlace := ["internal/bytealg.IndexByteString", "internal/bytealg.IndexString"], unfollowed := true, recurses := true, named := ["internal/bytealg.MaxLen"], apart := false }
def GuardEmptySaid : Prop := guardEmptyRow.holds Try.pinned (OpenSpec.ofChange guardEmptySpec)

/-- ITS FALSE NEIGHBOUR: 'it returns false'. Refute it at one input. -/
def guardEmptyWrong : ChangeSpec := { name := "guardEmpty", fn := fun _ => fun
  | [d1, d2, d3] => { results := [.lit (.bool false)], args := [d1, d2, d3] }
  | _ => none }
def GuardEmptyWrongFalsely : Prop := guardEmptyRow.holds Try.pinned (OpenSpec.ofChange guardEmptyWrong)

/-- 'registrarlaw18.GuardLater': WHATEVER THE INPUT: true; the input reads as it did. -/
def guardLaterSpec : ChangeSpec := { name := "guardLater", fn := fun _ => fun
  | [d1, d2, d3] => { results := [.lit (.bool true)], args := [d1, d2, d3] }
  | _ => none }
def guardLaterRow : OpenClaim := { program := "ytohhapceeohhdaa", sum := "a1b65cbef494347275e61150ad55ea25bcbf868a52ec640b3fb934897340ff49", func := "registrar/registrarlaw18.GuardLater", spec := "guardLater", inPlace := ["internal/bytealg.IndexByteString", "internal/bytealg.IndexString"], unfollowed := true, recurses := true, named := ["internal/bytealg.MaxLen"], apart := false }
def GuardLaterSaid : Prop := guardLaterRow.holds Try.pinned (OpenSpec.ofChange guardLaterSpec)

/-- ITS FALSE NEIGHBOUR: 'it returns false'. Refute it at one input. -/
def guardLaterWrong : ChangeSpec := { name := "guardLater", fn := fun _ => fun
  | [d1, d2, d3] => { results := [.lit (.bool false)], args := [d1, d2, d3] }
  | _ => none }
def GuardLaterWrongFalsely : Prop := guardLaterRow.holds Try.pinned (OpenSpec.ofChange guardLaterWrong)

/-- 'registrarlaw14.IndexWhole': WHATEVER THE INPUT: true; the input reads as it did. -/
def indexWholeSpec : ChangeSpec := { name := "indexWhole", fn := fun _ => fun
  | [d1, d2] => { results := [.lit (.bool true)], args := [d1, d2] }
  | _ => none }
def indexWholeRow : OpenClaim := { program := "ytohhapceeohhdaa", sum := "a1b65cbef494347275e61150ad55ea25bcbf868a52ec640b3fb934897340ff49", func := "registrar/registrarlaw14.IndexWhole", spec := "indexWhole", inPlace := ["internal/bytealg.IndexByteString", "internal/bytealg.IndexString"], unfollowed := true, recurses := true, named := ["internal/bytealg.MaxLen"], apart := false }
def IndexWholeSaid : Prop := indexWholeRow.holds Try.pinned (OpenSpec.ofChange indexWholeSpec)

/-- ITS FALSE NEIGHBOUR: 'it returns false'. Refute it at one input. -/
def indexWholeWrong : ChangeSpec := { name := "indexWhole", fn := fun _ => fun
  | [d1, d2] => { results := [.lit (.bool false)], args := [d1, d2] }
  | _ => none }
def IndexWholeWrongFalsely : Prop := indexWholeRow.holds Try.pinned (OpenSpec.ofChange indexWholeWrong)

/-- 'registrarlaw14.IndexStays': WHATEVER THE INPUT: true; the input reads as it did. -/
def indexStaysSpec : ChangeSpec := { name := "indexStays", fn := fun _ => fun
  | [d1, d2, d3] => { results := [.lit (.bool true)], args := [d1, d2, d3] }
  | _ => none }
def indexStaysRow : OpenClaim := { program := "ytohhapceeohhdaa", sum := "a1b65cbef494347275e61150ad55ea25bcbf868a52ec640b3fb934897340ff49", func := "registrar/registrarlaw14.IndexStays", spec := "indexStays", inPlace := ["internal/bytealg.IndexByteString", "internal/bytealg.IndexString"], unfollowed := true, recurses := true, named := ["internal/bytealg.MaxLen"], apart := false }
def IndexStaysSaid : Prop := indexStaysRow.holds Try.pinned (OpenSpec.ofChange indexStaysSpec)

/-- ITS FALSE NEIGHBOUR: 'it returns false'. Refute it at one input. -/
def indexStaysWrong : ChangeSpec := { name := "indexStays", fn := fun _ => fun
  | [d1, d2, d3] => { results := [.lit (.bool false)], args := [d1, d2, d3] }
  | _ => none }
def IndexStaysWrongFalsely : Prop := indexStaysRow.holds Try.pinned (OpenSpec.ofChange indexStaysWrong)

/- THE SECOND FORM. 'bulk': how many values and letters a reading holds, each counted each time it is reached (what is shared counts as often as it is met; a slice's spare places count too). A statement '..UptoSaid' is the law's where the arguments, and the package variables that the reading takes, are together of bulk at most 1048576: NARROWER than '..Said'. Prove '..Said' where nothing that the law and all that it calls make is longer than what came in: it says more and counts as full. Else prove '..UptoSaid'. A law counts once. -/
mutual
def uptoBulk {H : Type} : DataW H → Nat
  | .lit (.string bytes) => bytes.length + 1
  | .lit _ => 1
  | .nil => 1
  | .ptr d => uptoBulk d + 1
  | .slice elems spare => uptoBulkAll elems + uptoBulkAll spare + 1
  | .agg parts => uptoBulkAll parts + 1
  | .iface _ d => uptoBulk d + 1
  | .map entries => uptoBulkEntries entries + 1
  | .held _ => 1
def uptoBulkAll {H : Type} : List (DataW H) → Nat
  | [] => 0
  | d :: r => uptoBulk d + uptoBulkAll r
def uptoBulkEntries {H : Type} : List (Lit × DataW H) → Nat
  | [] => 0
  | x :: r => uptoBulkEntry x + uptoBulkEntries r
def uptoBulkEntry {H : Type} : Lit × DataW H → Nat
  | (.string bytes, d) => bytes.length + uptoBulk d + 1
  | (_, d) => uptoBulk d + 1
 end
def uptoSmall : (H : Type) → List (DataW H) → Bool := fun _ ds => decide (uptoBulkAll ds ≤ 1048576)
def OpenSpec.upto (s : _root_.Go.ChangeSpec) : _root_.Go.OpenSpec := { _root_.Go.OpenSpec.ofChange s with cond := some uptoSmall }

/-- 'registrarlaw13.PostingTwo', WHERE WHAT IT READS IS OF BULK AT MOST 1048576: true; the input reads as it did. -/
def postingTwoUptoRow : OpenClaim := { program := "ytohhapceeohhdaa", sum := "a1b65cbef494347275e61150ad55ea25bcbf868a52ec640b3fb934897340ff49", func := "registrar/registrarlaw13.PostingTwo", spec := "postingTwo", unfollowed := true, recurses := true, apart := false, narrowed := true }
def PostingTwoUptoSaid : Prop := postingTwoUptoRow.holds Try.pinned (OpenSpec.upto postingTwoSpec)

/-- 'registrarlaw13.PostingThree', WHERE WHAT IT READS IS OF BULK AT MOST 1048576: true; the input reads as it did. -/
def postingThreeUptoRow : OpenClaim := { program := "ytohhapceeohhdaa", sum := "a1b65cbef494347275e61150ad55ea25bcbf868a52ec640b3fb934897340ff49", func := "registrar/registrarlaw13.PostingThree", spec := "postingThree", unfollowed := true, recurses := true, apart := false, narrowed := true }
def PostingThreeUptoSaid : Prop := postingThreeUptoRow.holds Try.pinned (OpenSpec.upto postingThreeSpec)

/-- 'registrarlaw06.QueryGrows', WHERE WHAT IT READS IS OF BULK AT MOST 1048576: true; the input reads as it did. -/
def queryGrowsUptoRow : OpenClaim := { program := "ytohhapceeohhdaa", sum := "a1b65cbef494347275e61150ad55ea25bcbf868a52ec640b3fb934897340ff49", func := "registrar/registrarlaw06.QueryGrows", spec := "queryGrows", unfollowed := true, recurses := true, apart := false, narrowed := true }
def QueryGrowsUptoSaid : Prop := queryGrowsUptoRow.holds Try.pinned (OpenSpec.upto queryGrowsSpec)

/-- 'registrarlaw06.QueryAll', WHERE WHAT IT READS IS OF BULK AT MOST 1048576: true; the input reads as it did. -/
def queryAllUptoRow : OpenClaim := { program := "ytohhapceeohhdaa", sum := "a1b65cbef494347275e61150ad55ea25bcbf868a52ec640b3fb934897340ff49", func := "registrar/registrarlaw06.QueryAll", spec := "queryAll", unfollowed := true, recurses := true, apart := false, narrowed := true }
def QueryAllUptoSaid : Prop := queryAllUptoRow.holds Try.pinned (OpenSpec.upto queryAllSpec)

/-- 'registrarlaw06.QueryParts', WHERE WHAT IT READS IS OF BULK AT MOST 1048576: true; the input reads as it did. -/
def queryPartsUptoRow : OpenClaim := { program := "ytohhapceeohhdaa", sum := "a1b65cbef494347275e61150ad55ea25bcbf868a52ec640b3fb934897340ff49", func := "registrar/registrarlaw06.QueryParts", spec := "queryParts", unfollowed := true, recurses := true, apart := false, narrowed := true }
def QueryPartsUptoSaid : Prop := queryPartsUptoRow.holds Try.pinned (OpenSpec.upto queryPartsSpec)

/-- 'registrarlaw06.QueryBlind', WHERE WHAT IT READS IS OF BULK AT MOST 1048576: true; the input reads as it did. -/
def queryBlindUptoRow : OpenClaim := { program := "ytohhapceeohhdaa", sum := "a1b65cbef494347275e61150ad55ea25bcbf868a52ec640b3fb934897340ff49", func := "registrar/registrarlaw06.QueryBlind", spec := "queryBlind", unfollowed := true, recurses := true, apart := false, narrowed := true }
def QueryBlindUptoSaid : Prop := queryBlindUptoRow.holds Try.pinned (OpenSpec.upto queryBlindSpec)

/-- 'registrarlaw12.StreamsUpto', WHERE WHAT IT READS IS OF BULK AT MOST 1048576: true; the input reads as it did. -/
def streamsUptoUptoRow : OpenClaim := { program := "ytohhapceeohhdaa", sum := "a1b65cbef494347275e61150ad55ea25bcbf868a52ec640b3fb934897340ff49", func := "registrar/registrarlaw12.StreamsUpto", spec := "streamsUpto", apart := false, narrowed := true }
def StreamsUptoUptoSaid : Prop := streamsUptoUptoRow.holds Try.pinned (OpenSpec.upto streamsUptoSpec)

/-- 'registrarlaw13.PostingLists', WHERE WHAT IT READS IS OF BULK AT MOST 1048576: true; the input reads as it did. -/
def postingListsUptoRow : OpenClaim := { program := "ytohhapceeohhdaa", sum := "a1b65cbef494347275e61150ad55ea25bcbf868a52ec640b3fb934897340ff49", func := "registrar/registrarlaw13.PostingLists", spec := "postingLists", inPlace := ["maps.clone"], unfollowed := true, recurses := true, apart := false, narrowed := true }
def PostingListsUptoSaid : Prop := postingListsUptoRow.holds Try.pinned (OpenSpec.upto postingListsSpec)

/-- 'registrarlaw12.StreamsCopies', WHERE WHAT IT READS IS OF BULK AT MOST 1048576: true; the input reads as it did. -/
def streamsCopiesUptoRow : OpenClaim := { program := "ytohhapceeohhdaa", sum := "a1b65cbef494347275e61150ad55ea25bcbf868a52ec640b3fb934897340ff49", func := "registrar/registrarlaw12.StreamsCopies", spec := "streamsCopies", inPlace := ["maps.clone"], apart := false, narrowed := true }
def StreamsCopiesUptoSaid : Prop := streamsCopiesUptoRow.holds Try.pinned (OpenSpec.upto streamsCopiesSpec)

/-- 'registrarlaw13.PostingSome', WHERE WHAT IT READS IS OF BULK AT MOST 1048576: true; the input reads as it did. -/
def postingSomeUptoRow : OpenClaim := { program := "ytohhapceeohhdaa", sum := "a1b65cbef494347275e61150ad55ea25bcbf868a52ec640b3fb934897340ff49", func := "registrar/registrarlaw13.PostingSome", spec := "postingSome", unfollowed := true, recurses := true, apart := false, narrowed := true }
def PostingSomeUptoSaid : Prop := postingSomeUptoRow.holds Try.pinned (OpenSpec.upto postingSomeSpec)

/-- 'registrarlaw13.PostingFinds', WHERE WHAT IT READS IS OF BULK AT MOST 1048576: true; the input reads as it did. -/
def postingFindsUptoRow : OpenClaim := { program := "ytohhapceeohhdaa", sum := "a1b65cbef494347275e61150ad55ea25bcbf868a52ec640b3fb934897340ff49", func := "registrar/registrarlaw13.PostingFinds", spec := "postingFinds", inPlace := ["maps.clone"], unfollowed := true, recurses := true, apart := false, narrowed := true }
def PostingFindsUptoSaid : Prop := postingFindsUptoRow.holds Try.pinned (OpenSpec.upto postingFindsSpec)

/-- 'registrarlaw13.PostingMatch', WHERE WHAT IT READS IS OF BULK AT MOST 1048576: true; the input reads as it did. -/
def postingMatchUptoRow : OpenClaim := { program := "ytohhapceeohhdaa", sum := "a1b65cbef494347275e61150ad55ea25bcbf868a52ec640b3fb934897340ff49", func := "registrar/registrarlaw13.PostingMatch", spec := "postingMatch", unfollowed := true, recurses := true, apart := false, narrowed := true }
def PostingMatchUptoSaid : Prop := postingMatchUptoRow.holds Try.pinned (OpenSpec.upto postingMatchSpec)

/-- 'registrarlaw12.StreamsRefuse', WHERE WHAT IT READS IS OF BULK AT MOST 1048576: true; the input reads as it did. -/
def streamsRefuseUptoRow : OpenClaim := { program := "ytohhapceeohhdaa", sum := "a1b65cbef494347275e61150ad55ea25bcbf868a52ec640b3fb934897340ff49", func := "registrar/registrarlaw12.StreamsRefuse", spec := "streamsRefuse", unfollowed := true, recurses := true, apart := false, narrowed := true }
def StreamsRefuseUptoSaid : Prop := streamsRefuseUptoRow.holds Try.pinned (OpenSpec.upto streamsRefuseSpec)

/-- 'registrarlaw12.StreamsOrder', WHERE WHAT IT READS IS OF BULK AT MOST 1048576: true; the input reads as it did. -/
def streamsOrderUptoRow : OpenClaim := { program := "ytohhapceeohhdaa", sum := "a1b65cbef494347275e61150ad55ea25bcbf868a52ec640b3fb934897340ff49", func := "registrar/registrarlaw12.StreamsOrder", spec := "streamsOrder", unfollowed := true, recurses := true, apart := false, narrowed := true }
def StreamsOrderUptoSaid : Prop := streamsOrderUptoRow.holds Try.pinned (OpenSpec.upto streamsOrderSpec)

/-- 'registrarlaw12.StreamsWhole', WHERE WHAT IT READS IS OF BULK AT MOST 1048576: true; the input reads as it did. -/
def streamsWholeUptoRow : OpenClaim := { program := "ytohhapceeohhdaa", sum := "a1b65cbef494347275e61150ad55ea25bcbf868a52ec640b3fb934897340ff49", func := "registrar/registrarlaw12.StreamsWhole", spec := "streamsWhole", unfollowed := true, recurses := true, apart := false, narrowed := true }
def StreamsWholeUptoSaid : Prop := streamsWholeUptoRow.holds Try.pinned (OpenSpec.upto streamsWholeSpec)

/-- 'registrarlaw12.StreamsPlays', WHERE WHAT IT READS IS OF BULK AT MOST 1048576: true; the input reads as it did. -/
def streamsPlaysUptoRow : OpenClaim := { program := "ytohhapceeohhdaa", sum := "a1b65cbef494347275e61150ad55ea25bcbf868a52ec640b3fb934897340ff49", func := "registrar/registrarlaw12.StreamsPlays", spec := "streamsPlays", inPlace := ["maps.clone"], unfollowed := true, recurses := true, apart := false, narrowed := true }
def StreamsPlaysUptoSaid : Prop := streamsPlaysUptoRow.holds Try.pinned (OpenSpec.upto streamsPlaysSpec)

/-- 'registrarlaw06.QueryMatches', WHERE WHAT IT READS IS OF BULK AT MOST 1048576: true; the input reads as it did. -/
def queryMatchesUptoRow : OpenClaim := { program := "ytohhapceeohhdaa", sum := "a1b65cbef494347275e61150ad55ea25bcbf868a52ec640b3fb934897340ff49", func := "registrar/registrarlaw06.QueryMatches", spec := "queryMatches", unfollowed := true, recurses := true, apart := false, narrowed := true }
def QueryMatchesUptoSaid : Prop := queryMatchesUptoRow.holds Try.pinned (OpenSpec.upto queryMatchesSpec)

/-- 'registrarlaw04.EventMay', WHERE WHAT IT READS IS OF BULK AT MOST 1048576: true; the input reads as it did. -/
def eventMayUptoRow : OpenClaim := { program := "ytohhapceeohhdaa", sum := "a1b65cbef494347275e61150ad55ea25bcbf868a52ec640b3fb934897340ff49", func := "registrar/registrarlaw04.EventMay", spec := "eventMay", inPlace := ["internal/bytealg.IndexByteString", "internal/bytealg.IndexString"], unfollowed := true, recurses := true, named := ["internal/bytealg.MaxLen"], apart := false, narrowed := true }
def EventMayUptoSaid : Prop := eventMayUptoRow.holds Try.pinned (OpenSpec.upto eventMaySpec)

/-- 'registrarlaw04.EventSame', WHERE WHAT IT READS IS OF BULK AT MOST 1048576: true; the input reads as it did. -/
def eventSameUptoRow : OpenClaim := { program := "ytohhapceeohhdaa", sum := "a1b65cbef494347275e61150ad55ea25bcbf868a52ec640b3fb934897340ff49", func := "registrar/registrarlaw04.EventSame", spec := "eventSame", inPlace := ["internal/bytealg.IndexByteString", "internal/bytealg.IndexString"], unfollowed := true, recurses := true, named := ["internal/bytealg.MaxLen"], apart := false, narrowed := true }
def EventSameUptoSaid : Prop := eventSameUptoRow.holds Try.pinned (OpenSpec.upto eventSameSpec)

/-- 'registrarlaw04.EventOwn', WHERE WHAT IT READS IS OF BULK AT MOST 1048576: true; the input reads as it did. -/
def eventOwnUptoRow : OpenClaim := { program := "ytohhapceeohhdaa", sum := "a1b65cbef494347275e61150ad55ea25bcbf868a52ec640b3fb934897340ff49", func := "registrar/registrarlaw04.EventOwn", spec := "eventOwn", inPlace := ["internal/bytealg.IndexByteString", "internal/bytealg.IndexString"], unfollowed := true, recurses := true, named := ["internal/bytealg.MaxLen"], apart := false, narrowed := true }
def EventOwnUptoSaid : Prop := eventOwnUptoRow.holds Try.pinned (OpenSpec.upto eventOwnSpec)

/-- 'registrarlaw04.EventParts', WHERE WHAT IT READS IS OF BULK AT MOST 1048576: true; the input reads as it did. -/
def eventPartsUptoRow : OpenClaim := { program := "ytohhapceeohhdaa", sum := "a1b65cbef494347275e61150ad55ea25bcbf868a52ec640b3fb934897340ff49", func := "registrar/registrarlaw04.EventParts", spec := "eventParts", inPlace := ["internal/bytealg.IndexByteString", "internal/bytealg.IndexString"], unfollowed := true, recurses := true, named := ["internal/bytealg.MaxLen"], apart := false, narrowed := true }
def EventPartsUptoSaid : Prop := eventPartsUptoRow.holds Try.pinned (OpenSpec.upto eventPartsSpec)

/-- 'registrarlaw04.EventHas', WHERE WHAT IT READS IS OF BULK AT MOST 1048576: true; the input reads as it did. -/
def eventHasUptoRow : OpenClaim := { program := "ytohhapceeohhdaa", sum := "a1b65cbef494347275e61150ad55ea25bcbf868a52ec640b3fb934897340ff49", func := "registrar/registrarlaw04.EventHas", spec := "eventHas", inPlace := ["internal/bytealg.IndexByteString", "internal/bytealg.IndexString"], unfollowed := true, recurses := true, named := ["internal/bytealg.MaxLen"], apart := false, narrowed := true }
def EventHasUptoSaid : Prop := eventHasUptoRow.holds Try.pinned (OpenSpec.upto eventHasSpec)

/-- 'registrarlaw04.EventNorm', WHERE WHAT IT READS IS OF BULK AT MOST 1048576: true; the input reads as it did. -/
def eventNormUptoRow : OpenClaim := { program := "ytohhapceeohhdaa", sum := "a1b65cbef494347275e61150ad55ea25bcbf868a52ec640b3fb934897340ff49", func := "registrar/registrarlaw04.EventNorm", spec := "eventNorm", inPlace := ["internal/bytealg.IndexByteString", "internal/bytealg.IndexString"], unfollowed := true, recurses := true, named := ["internal/bytealg.MaxLen"], apart := false, narrowed := true }
def EventNormUptoSaid : Prop := eventNormUptoRow.holds Try.pinned (OpenSpec.upto eventNormSpec)

/-- 'registrarlaw06.QueryMay', WHERE WHAT IT READS IS OF BULK AT MOST 1048576: true; the input reads as it did. -/
def queryMayUptoRow : OpenClaim := { program := "ytohhapceeohhdaa", sum := "a1b65cbef494347275e61150ad55ea25bcbf868a52ec640b3fb934897340ff49", func := "registrar/registrarlaw06.QueryMay", spec := "queryMay", inPlace := ["internal/bytealg.IndexByteString", "internal/bytealg.IndexString"], unfollowed := true, recurses := true, named := ["internal/bytealg.MaxLen"], apart := false, narrowed := true }
def QueryMayUptoSaid : Prop := queryMayUptoRow.holds Try.pinned (OpenSpec.upto queryMaySpec)

/-- 'registrarlaw06.QueryFits', WHERE WHAT IT READS IS OF BULK AT MOST 1048576: true; the input reads as it did. -/
def queryFitsUptoRow : OpenClaim := { program := "ytohhapceeohhdaa", sum := "a1b65cbef494347275e61150ad55ea25bcbf868a52ec640b3fb934897340ff49", func := "registrar/registrarlaw06.QueryFits", spec := "queryFits", inPlace := ["internal/bytealg.IndexByteString", "internal/bytealg.IndexString"], unfollowed := true, recurses := true, named := ["internal/bytealg.MaxLen"], apart := false, narrowed := true }
def QueryFitsUptoSaid : Prop := queryFitsUptoRow.holds Try.pinned (OpenSpec.upto queryFitsSpec)

/-- 'registrarlaw14.IndexRefuses', WHERE WHAT IT READS IS OF BULK AT MOST 1048576: true; the input reads as it did. -/
def indexRefusesUptoRow : OpenClaim := { program := "ytohhapceeohhdaa", sum := "a1b65cbef494347275e61150ad55ea25bcbf868a52ec640b3fb934897340ff49", func := "registrar/registrarlaw14.IndexRefuses", spec := "indexRefuses", inPlace := ["internal/bytealg.IndexByteString", "internal/bytealg.IndexString"], unfollowed := true, recurses := true, named := ["internal/bytealg.MaxLen"], apart := false, narrowed := true }
def IndexRefusesUptoSaid : Prop := indexRefusesUptoRow.holds Try.pinned (OpenSpec.upto indexRefusesSpec)

/-- 'registrarlaw14.IndexOwn', WHERE WHAT IT READS IS OF BULK AT MOST 1048576: true; the input reads as it did. -/
def indexOwnUptoRow : OpenClaim := { program := "ytohhapceeohhdaa", sum := "a1b65cbef494347275e61150ad55ea25bcbf868a52ec640b3fb934897340ff49", func := "registrar/registrarlaw14.IndexOwn", spec := "indexOwn", inPlace := ["internal/bytealg.IndexByteString", "internal/bytealg.IndexString"], unfollowed := true, recurses := true, named := ["internal/bytealg.MaxLen"], apart := false, narrowed := true }
def IndexOwnUptoSaid : Prop := indexOwnUptoRow.holds Try.pinned (OpenSpec.upto indexOwnSpec)

/-- 'registrarlaw14.IndexCopies', WHERE WHAT IT READS IS OF BULK AT MOST 1048576: true; the input reads as it did. -/
def indexCopiesUptoRow : OpenClaim := { program := "ytohhapceeohhdaa", sum := "a1b65cbef494347275e61150ad55ea25bcbf868a52ec640b3fb934897340ff49", func := "registrar/registrarlaw14.IndexCopies", spec := "indexCopies", inPlace := ["internal/bytealg.IndexByteString", "internal/bytealg.IndexString", "maps.clone"], unfollowed := true, recurses := true, named := ["internal/bytealg.MaxLen"], apart := false, narrowed := true }
def IndexCopiesUptoSaid : Prop := indexCopiesUptoRow.holds Try.pinned (OpenSpec.upto indexCopiesSpec)

/-- 'registrarlaw18.GuardEmpty', WHERE WHAT IT READS IS OF BULK AT MOST 1048576: true; the input reads as it did. -/
def guardEmptyUptoRow : OpenClaim := { program := "ytohhapceeohhdaa", sum := "a1b65cbef494347275e61150ad55ea25bcbf868a52ec640b3fb934897340ff49", func := "registrar/registrarlaw18.GuardEmpty", spec := "guardEmpty", inPlace := ["internal/bytealg.IndexByteString", "internal/bytealg.IndexString"], unfollowed := true, recurses := true, named := ["internal/bytealg.MaxLen"], apart := false, narrowed := true }
def GuardEmptyUptoSaid : Prop := guardEmptyUptoRow.holds Try.pinned (OpenSpec.upto guardEmptySpec)

/-- 'registrarlaw18.GuardLater', WHERE WHAT IT READS IS OF BULK AT MOST 1048576: true; the input reads as it did. -/
def guardLaterUptoRow : OpenClaim := { program := "ytohhapceeohhdaa", sum := "a1b65cbef494347275e61150ad55ea25bcbf868a52ec640b3fb934897340ff49", func := "registrar/registrarlaw18.GuardLater", spec := "guardLater", inPlace := ["internal/bytealg.IndexByteString", "internal/bytealg.IndexString"], unfollowed := true, recurses := true, named := ["internal/bytealg.MaxLen"], apart := false, narrowed := true }
def GuardLaterUptoSaid : Prop := guardLaterUptoRow.holds Try.pinned (OpenSpec.upto guardLaterSpec)

/-- 'registrarlaw14.IndexWhole', WHERE WHAT IT READS IS OF BULK AT MOST 1048576: true; the input reads as it did. -/
def indexWholeUptoRow : OpenClaim := { program := "ytohhapceeohhdaa", sum := "a1b65cbef494347275e61150ad55ea25bcbf868a52ec640b3fb934897340ff49", func := "registrar/registrarlaw14.IndexWhole", spec := "indexWhole", inPlace := ["internal/bytealg.IndexByteString", "internal/bytealg.IndexString"], unfollowed := true, recurses := true, named := ["internal/bytealg.MaxLen"], apart := false, narrowed := true }
def IndexWholeUptoSaid : Prop := indexWholeUptoRow.holds Try.pinned (OpenSpec.upto indexWholeSpec)

/-- 'registrarlaw14.IndexStays', WHERE WHAT IT READS IS OF BULK AT MOST 1048576: true; the input reads as it did. -/
def indexStaysUptoRow : OpenClaim := { program := "ytohhapceeohhdaa", sum := "a1b65cbef494347275e61150ad55ea25bcbf868a52ec640b3fb934897340ff49", func := "registrar/registrarlaw14.IndexStays", spec := "indexStays", inPlace := ["internal/bytealg.IndexByteString", "internal/bytealg.IndexString"], unfollowed := true, recurses := true, named := ["internal/bytealg.MaxLen"], apart := false, narrowed := true }
def IndexStaysUptoSaid : Prop := indexStaysUptoRow.holds Try.pinned (OpenSpec.upto indexStaysSpec)

end Rows
end Go.Proofs.Ytohhapceeohhdaa
