/-
  No cell of these rows narrows 'for every input' (looked for: loops, veiled, ifaces, maps, wideKeys, modest, calm, conditions, laid).
  DERIVED. THE GIVEN ROWS OF THIS SEAT. 19 by the template 'for every input the law returns true; each argument reads behind the call as it read before'; 0 by the template 'total and deterministic' (their statements: YtppfnkedbpmliaaTotals.lean).
  GIVEN WITH THE SEED: the statements are not yours to turn. If you find one false, say at which input.
  Laid BY PROGRAM, IN A SANDBOX (cutbox-rows.mjs): the forced cells as the released guide's own fill.sh prints them over the translation 903b4b8872cc5e7b… (all of the seat's roots in one cut). By AI agents, Wed Nov 11 2026. No macro, syntax, notation, axiom, sorry.
-/
import Derived.Test.YtppfnkedbpmliaaChecked
import GoSem.Claim
import GoSem.ClaimJoined
import GoSem.ClaimMapViews
import Derived.JoinedTies
import Derived.KernelRfl
namespace Go.Proofs.Ytppfnkedbpmliaa
/- THE CELL 'sum', in the pinned program and in every row, IS THE sha256 OF THE DUMP (.gsa) THAT YtppfnkedbpmliaaProg.lean LOADS. Nothing in Lean hashes anything: it is a label: what it is worth is what the hold of that sum in a sandbox is worth. -/
noncomputable def Try.pinned : Pinned := { name := "ytppfnkedbpmliaa", sum := "903b4b8872cc5e7ba6038f853562ef42d2de2aa5c1572a7a1908dfc95d5852dd", checked := Try.checked }
namespace Rows
def none {H : Type} : Left H := { results := [], args := [] }

/-- 'ramekinlaw6.BitsPlaces': WHATEVER THE INPUT: true; the input reads as it did. -/
def bitsPlacesSpec : ChangeSpec := { name := "bitsPlaces", fn := fun _ => fun
  | [d1, d2, d3] => { results := [.lit (.bool true)], args := [d1, d2, d3] }
  | _ => none }
def bitsPlacesRow : OpenClaim := { program := "ytppfnkedbpmliaa", sum := "903b4b8872cc5e7ba6038f853562ef42d2de2aa5c1572a7a1908dfc95d5852dd", func := "ramekin/ramekinlaw6.BitsPlaces", spec := "bitsPlaces", unfollowed := true, recurses := true, apart := false }
def BitsPlacesSaid : Prop := bitsPlacesRow.holds Try.pinned (OpenSpec.ofChange bitsPlacesSpec)

/-- ITS FALSE NEIGHBOUR: 'it returns false'. Refute it at one input. -/
def bitsPlacesWrong : ChangeSpec := { name := "bitsPlaces", fn := fun _ => fun
  | [d1, d2, d3] => { results := [.lit (.bool false)], args := [d1, d2, d3] }
  | _ => none }
def BitsPlacesWrongFalsely : Prop := bitsPlacesRow.holds Try.pinned (OpenSpec.ofChange bitsPlacesWrong)

/-- 'ramekinlaw9.GeomAll': WHATEVER THE INPUT: true; the input reads as it did. -/
def geomAllSpec : ChangeSpec := { name := "geomAll", fn := fun _ => fun
  | [d1, d2, d3, d4] => { results := [.lit (.bool true)], args := [d1, d2, d3, d4] }
  | _ => none }
def geomAllRow : OpenClaim := { program := "ytppfnkedbpmliaa", sum := "903b4b8872cc5e7ba6038f853562ef42d2de2aa5c1572a7a1908dfc95d5852dd", func := "ramekin/ramekinlaw9.GeomAll", spec := "geomAll", unfollowed := true, recurses := true, apart := false }
def GeomAllSaid : Prop := geomAllRow.holds Try.pinned (OpenSpec.ofChange geomAllSpec)

/-- ITS FALSE NEIGHBOUR: 'it returns false'. Refute it at one input. -/
def geomAllWrong : ChangeSpec := { name := "geomAll", fn := fun _ => fun
  | [d1, d2, d3, d4] => { results := [.lit (.bool false)], args := [d1, d2, d3, d4] }
  | _ => none }
def GeomAllWrongFalsely : Prop := geomAllRow.holds Try.pinned (OpenSpec.ofChange geomAllWrong)

/-- 'ramekinlaw9.GeomOnce': WHATEVER THE INPUT: true; the input reads as it did. -/
def geomOnceSpec : ChangeSpec := { name := "geomOnce", fn := fun _ => fun
  | [d1, d2] => { results := [.lit (.bool true)], args := [d1, d2] }
  | _ => none }
def geomOnceRow : OpenClaim := { program := "ytppfnkedbpmliaa", sum := "903b4b8872cc5e7ba6038f853562ef42d2de2aa5c1572a7a1908dfc95d5852dd", func := "ramekin/ramekinlaw9.GeomOnce", spec := "geomOnce", unfollowed := true, recurses := true, apart := false }
def GeomOnceSaid : Prop := geomOnceRow.holds Try.pinned (OpenSpec.ofChange geomOnceSpec)

/-- ITS FALSE NEIGHBOUR: 'it returns false'. Refute it at one input. -/
def geomOnceWrong : ChangeSpec := { name := "geomOnce", fn := fun _ => fun
  | [d1, d2] => { results := [.lit (.bool false)], args := [d1, d2] }
  | _ => none }
def GeomOnceWrongFalsely : Prop := geomOnceRow.holds Try.pinned (OpenSpec.ofChange geomOnceWrong)

/-- 'ramekinlaw9.GeomBounds': WHATEVER THE INPUT: true; the input reads as it did. -/
def geomBoundsSpec : ChangeSpec := { name := "geomBounds", fn := fun _ => fun
  | [d1, d2, d3] => { results := [.lit (.bool true)], args := [d1, d2, d3] }
  | _ => none }
def geomBoundsRow : OpenClaim := { program := "ytppfnkedbpmliaa", sum := "903b4b8872cc5e7ba6038f853562ef42d2de2aa5c1572a7a1908dfc95d5852dd", func := "ramekin/ramekinlaw9.GeomBounds", spec := "geomBounds", unfollowed := true, recurses := true, apart := false }
def GeomBoundsSaid : Prop := geomBoundsRow.holds Try.pinned (OpenSpec.ofChange geomBoundsSpec)

/-- ITS FALSE NEIGHBOUR: 'it returns false'. Refute it at one input. -/
def geomBoundsWrong : ChangeSpec := { name := "geomBounds", fn := fun _ => fun
  | [d1, d2, d3] => { results := [.lit (.bool false)], args := [d1, d2, d3] }
  | _ => none }
def GeomBoundsWrongFalsely : Prop := geomBoundsRow.holds Try.pinned (OpenSpec.ofChange geomBoundsWrong)

/-- 'ramekinlaw9.GeomBad': WHATEVER THE INPUT: true; the input reads as it did. -/
def geomBadSpec : ChangeSpec := { name := "geomBad", fn := fun _ => fun
  | [d1, d2, d3] => { results := [.lit (.bool true)], args := [d1, d2, d3] }
  | _ => none }
def geomBadRow : OpenClaim := { program := "ytppfnkedbpmliaa", sum := "903b4b8872cc5e7ba6038f853562ef42d2de2aa5c1572a7a1908dfc95d5852dd", func := "ramekin/ramekinlaw9.GeomBad", spec := "geomBad", unfollowed := true, recurses := true, apart := false }
def GeomBadSaid : Prop := geomBadRow.holds Try.pinned (OpenSpec.ofChange geomBadSpec)

/-- ITS FALSE NEIGHBOUR: 'it returns false'. Refute it at one input. -/
def geomBadWrong : ChangeSpec := { name := "geomBad", fn := fun _ => fun
  | [d1, d2, d3] => { results := [.lit (.bool false)], args := [d1, d2, d3] }
  | _ => none }
def GeomBadWrongFalsely : Prop := geomBadRow.holds Try.pinned (OpenSpec.ofChange geomBadWrong)

/-- 'ramekinlaw7.NandMakes': WHATEVER THE INPUT: true; the input reads as it did. -/
def nandMakesSpec : ChangeSpec := { name := "nandMakes", fn := fun _ => fun
  | [d1, d2, d3, d4] => { results := [.lit (.bool true)], args := [d1, d2, d3, d4] }
  | _ => none }
def nandMakesRow : OpenClaim := { program := "ytppfnkedbpmliaa", sum := "903b4b8872cc5e7ba6038f853562ef42d2de2aa5c1572a7a1908dfc95d5852dd", func := "ramekin/ramekinlaw7.NandMakes", spec := "nandMakes", apart := false }
def NandMakesSaid : Prop := nandMakesRow.holds Try.pinned (OpenSpec.ofChange nandMakesSpec)

/-- ITS FALSE NEIGHBOUR: 'it returns false'. Refute it at one input. -/
def nandMakesWrong : ChangeSpec := { name := "nandMakes", fn := fun _ => fun
  | [d1, d2, d3, d4] => { results := [.lit (.bool false)], args := [d1, d2, d3, d4] }
  | _ => none }
def NandMakesWrongFalsely : Prop := nandMakesRow.holds Try.pinned (OpenSpec.ofChange nandMakesWrong)

/-- 'ramekinlaw7.NandNoise': WHATEVER THE INPUT: true; the input reads as it did. -/
def nandNoiseSpec : ChangeSpec := { name := "nandNoise", fn := fun _ => fun
  | [d1, d2, d3, d4] => { results := [.lit (.bool true)], args := [d1, d2, d3, d4] }
  | _ => none }
def nandNoiseRow : OpenClaim := { program := "ytppfnkedbpmliaa", sum := "903b4b8872cc5e7ba6038f853562ef42d2de2aa5c1572a7a1908dfc95d5852dd", func := "ramekin/ramekinlaw7.NandNoise", spec := "nandNoise", apart := false }
def NandNoiseSaid : Prop := nandNoiseRow.holds Try.pinned (OpenSpec.ofChange nandNoiseSpec)

/-- ITS FALSE NEIGHBOUR: 'it returns false'. Refute it at one input. -/
def nandNoiseWrong : ChangeSpec := { name := "nandNoise", fn := fun _ => fun
  | [d1, d2, d3, d4] => { results := [.lit (.bool false)], args := [d1, d2, d3, d4] }
  | _ => none }
def NandNoiseWrongFalsely : Prop := nandNoiseRow.holds Try.pinned (OpenSpec.ofChange nandNoiseWrong)

/-- 'ramekinlaw7.NandOrder': WHATEVER THE INPUT: true; the input reads as it did. -/
def nandOrderSpec : ChangeSpec := { name := "nandOrder", fn := fun _ => fun
  | [d1, d2] => { results := [.lit (.bool true)], args := [d1, d2] }
  | _ => none }
def nandOrderRow : OpenClaim := { program := "ytppfnkedbpmliaa", sum := "903b4b8872cc5e7ba6038f853562ef42d2de2aa5c1572a7a1908dfc95d5852dd", func := "ramekin/ramekinlaw7.NandOrder", spec := "nandOrder", unfollowed := true, recurses := true, apart := false }
def NandOrderSaid : Prop := nandOrderRow.holds Try.pinned (OpenSpec.ofChange nandOrderSpec)

/-- ITS FALSE NEIGHBOUR: 'it returns false'. Refute it at one input. -/
def nandOrderWrong : ChangeSpec := { name := "nandOrder", fn := fun _ => fun
  | [d1, d2] => { results := [.lit (.bool false)], args := [d1, d2] }
  | _ => none }
def NandOrderWrongFalsely : Prop := nandOrderRow.holds Try.pinned (OpenSpec.ofChange nandOrderWrong)

/-- 'ramekinlaw7.NandTorn': WHATEVER THE INPUT: true; the input reads as it did. -/
def nandTornSpec : ChangeSpec := { name := "nandTorn", fn := fun _ => fun
  | [d1, d2, d3] => { results := [.lit (.bool true)], args := [d1, d2, d3] }
  | _ => none }
def nandTornRow : OpenClaim := { program := "ytppfnkedbpmliaa", sum := "903b4b8872cc5e7ba6038f853562ef42d2de2aa5c1572a7a1908dfc95d5852dd", func := "ramekin/ramekinlaw7.NandTorn", spec := "nandTorn", unfollowed := true, recurses := true, apart := false }
def NandTornSaid : Prop := nandTornRow.holds Try.pinned (OpenSpec.ofChange nandTornSpec)

/-- ITS FALSE NEIGHBOUR: 'it returns false'. Refute it at one input. -/
def nandTornWrong : ChangeSpec := { name := "nandTorn", fn := fun _ => fun
  | [d1, d2, d3] => { results := [.lit (.bool false)], args := [d1, d2, d3] }
  | _ => none }
def NandTornWrongFalsely : Prop := nandTornRow.holds Try.pinned (OpenSpec.ofChange nandTornWrong)

/-- 'ramekinlaw7.NandStops': WHATEVER THE INPUT: true; the input reads as it did. -/
def nandStopsSpec : ChangeSpec := { name := "nandStops", fn := fun _ => fun
  | [d1, d2] => { results := [.lit (.bool true)], args := [d1, d2] }
  | _ => none }
def nandStopsRow : OpenClaim := { program := "ytppfnkedbpmliaa", sum := "903b4b8872cc5e7ba6038f853562ef42d2de2aa5c1572a7a1908dfc95d5852dd", func := "ramekin/ramekinlaw7.NandStops", spec := "nandStops", unfollowed := true, recurses := true, apart := false }
def NandStopsSaid : Prop := nandStopsRow.holds Try.pinned (OpenSpec.ofChange nandStopsSpec)

/-- ITS FALSE NEIGHBOUR: 'it returns false'. Refute it at one input. -/
def nandStopsWrong : ChangeSpec := { name := "nandStops", fn := fun _ => fun
  | [d1, d2] => { results := [.lit (.bool false)], args := [d1, d2] }
  | _ => none }
def NandStopsWrongFalsely : Prop := nandStopsRow.holds Try.pinned (OpenSpec.ofChange nandStopsWrong)

/-- 'ramekinlaw7.NandBad': WHATEVER THE INPUT: true; the input reads as it did. -/
def nandBadSpec : ChangeSpec := { name := "nandBad", fn := fun _ => fun
  | [d1, d2, d3, d4] => { results := [.lit (.bool true)], args := [d1, d2, d3, d4] }
  | _ => none }
def nandBadRow : OpenClaim := { program := "ytppfnkedbpmliaa", sum := "903b4b8872cc5e7ba6038f853562ef42d2de2aa5c1572a7a1908dfc95d5852dd", func := "ramekin/ramekinlaw7.NandBad", spec := "nandBad", unfollowed := true, recurses := true, apart := false }
def NandBadSaid : Prop := nandBadRow.holds Try.pinned (OpenSpec.ofChange nandBadSpec)

/-- ITS FALSE NEIGHBOUR: 'it returns false'. Refute it at one input. -/
def nandBadWrong : ChangeSpec := { name := "nandBad", fn := fun _ => fun
  | [d1, d2, d3, d4] => { results := [.lit (.bool false)], args := [d1, d2, d3, d4] }
  | _ => none }
def NandBadWrongFalsely : Prop := nandBadRow.holds Try.pinned (OpenSpec.ofChange nandBadWrong)

/-- 'ramekinlaw7.NandErase': WHATEVER THE INPUT: true; the input reads as it did. -/
def nandEraseSpec : ChangeSpec := { name := "nandErase", fn := fun _ => fun
  | [d1, d2, d3] => { results := [.lit (.bool true)], args := [d1, d2, d3] }
  | _ => none }
def nandEraseRow : OpenClaim := { program := "ytppfnkedbpmliaa", sum := "903b4b8872cc5e7ba6038f853562ef42d2de2aa5c1572a7a1908dfc95d5852dd", func := "ramekin/ramekinlaw7.NandErase", spec := "nandErase", unfollowed := true, recurses := true, apart := false }
def NandEraseSaid : Prop := nandEraseRow.holds Try.pinned (OpenSpec.ofChange nandEraseSpec)

/-- ITS FALSE NEIGHBOUR: 'it returns false'. Refute it at one input. -/
def nandEraseWrong : ChangeSpec := { name := "nandErase", fn := fun _ => fun
  | [d1, d2, d3] => { results := [.lit (.bool false)], args := [d1, d2, d3] }
  | _ => none }
def NandEraseWrongFalsely : Prop := nandEraseRow.holds Try.pinned (OpenSpec.ofChange nandEraseWrong)

/-- 'ramekinlaw7.NandPlays': WHATEVER THE INPUT: true; the input reads as it did. -/
def nandPlaysSpec : ChangeSpec := { name := "nandPlays", fn := fun _ => fun
  | [d1, d2, d3] => { results := [.lit (.bool true)], args := [d1, d2, d3] }
  | _ => none }
def nandPlaysRow : OpenClaim := { program := "ytppfnkedbpmliaa", sum := "903b4b8872cc5e7ba6038f853562ef42d2de2aa5c1572a7a1908dfc95d5852dd", func := "ramekin/ramekinlaw7.NandPlays", spec := "nandPlays", unfollowed := true, recurses := true, apart := false }
def NandPlaysSaid : Prop := nandPlaysRow.holds Try.pinned (OpenSpec.ofChange nandPlaysSpec)

/-- ITS FALSE NEIGHBOUR: 'it returns false'. Refute it at one input. -/
def nandPlaysWrong : ChangeSpec := { name := "nandPlays", fn := fun _ => fun
  | [d1, d2, d3] => { results := [.lit (.bool false)], args := [d1, d2, d3] }
  | _ => none }
def NandPlaysWrongFalsely : Prop := nandPlaysRow.holds Try.pinned (OpenSpec.ofChange nandPlaysWrong)

/-- 'ramekinlaw8.PageWrites': WHATEVER THE INPUT: true; the input reads as it did. -/
def pageWritesSpec : ChangeSpec := { name := "pageWrites", fn := fun _ => fun
  | [d1, d2, d3] => { results := [.lit (.bool true)], args := [d1, d2, d3] }
  | _ => none }
def pageWritesRow : OpenClaim := { program := "ytppfnkedbpmliaa", sum := "903b4b8872cc5e7ba6038f853562ef42d2de2aa5c1572a7a1908dfc95d5852dd", func := "ramekin/ramekinlaw8.PageWrites", spec := "pageWrites", unfollowed := true, recurses := true, apart := false }
def PageWritesSaid : Prop := pageWritesRow.holds Try.pinned (OpenSpec.ofChange pageWritesSpec)

/-- ITS FALSE NEIGHBOUR: 'it returns false'. Refute it at one input. -/
def pageWritesWrong : ChangeSpec := { name := "pageWrites", fn := fun _ => fun
  | [d1, d2, d3] => { results := [.lit (.bool false)], args := [d1, d2, d3] }
  | _ => none }
def PageWritesWrongFalsely : Prop := pageWritesRow.holds Try.pinned (OpenSpec.ofChange pageWritesWrong)

/-- 'ramekinlaw8.PageTorn': WHATEVER THE INPUT: true; the input reads as it did. -/
def pageTornSpec : ChangeSpec := { name := "pageTorn", fn := fun _ => fun
  | [d1, d2] => { results := [.lit (.bool true)], args := [d1, d2] }
  | _ => none }
def pageTornRow : OpenClaim := { program := "ytppfnkedbpmliaa", sum := "903b4b8872cc5e7ba6038f853562ef42d2de2aa5c1572a7a1908dfc95d5852dd", func := "ramekin/ramekinlaw8.PageTorn", spec := "pageTorn", unfollowed := true, recurses := true, apart := false }
def PageTornSaid : Prop := pageTornRow.holds Try.pinned (OpenSpec.ofChange pageTornSpec)

/-- ITS FALSE NEIGHBOUR: 'it returns false'. Refute it at one input. -/
def pageTornWrong : ChangeSpec := { name := "pageTorn", fn := fun _ => fun
  | [d1, d2] => { results := [.lit (.bool false)], args := [d1, d2] }
  | _ => none }
def PageTornWrongFalsely : Prop := pageTornRow.holds Try.pinned (OpenSpec.ofChange pageTornWrong)

/-- 'ramekinlaw12.RowioTorn': WHATEVER THE INPUT: true; the input reads as it did. -/
def rowioTornSpec : ChangeSpec := { name := "rowioTorn", fn := fun _ => fun
  | [d1, d2, d3] => { results := [.lit (.bool true)], args := [d1, d2, d3] }
  | _ => none }
def rowioTornRow : OpenClaim := { program := "ytppfnkedbpmliaa", sum := "903b4b8872cc5e7ba6038f853562ef42d2de2aa5c1572a7a1908dfc95d5852dd", func := "ramekin/ramekinlaw12.RowioTorn", spec := "rowioTorn", unfollowed := true, recurses := true, apart := false }
def RowioTornSaid : Prop := rowioTornRow.holds Try.pinned (OpenSpec.ofChange rowioTornSpec)

/-- ITS FALSE NEIGHBOUR: 'it returns false'. Refute it at one input. -/
def rowioTornWrong : ChangeSpec := { name := "rowioTorn", fn := fun _ => fun
  | [d1, d2, d3] => { results := [.lit (.bool false)], args := [d1, d2, d3] }
  | _ => none }
def RowioTornWrongFalsely : Prop := rowioTornRow.holds Try.pinned (OpenSpec.ofChange rowioTornWrong)

/-- 'ramekinlaw12.RowioBack': WHATEVER THE INPUT: true; the input reads as it did. -/
def rowioBackSpec : ChangeSpec := { name := "rowioBack", fn := fun _ => fun
  | [d1, d2, d3, d4] => { results := [.lit (.bool true)], args := [d1, d2, d3, d4] }
  | _ => none }
def rowioBackRow : OpenClaim := { program := "ytppfnkedbpmliaa", sum := "903b4b8872cc5e7ba6038f853562ef42d2de2aa5c1572a7a1908dfc95d5852dd", func := "ramekin/ramekinlaw12.RowioBack", spec := "rowioBack", unfollowed := true, recurses := true, apart := false }
def RowioBackSaid : Prop := rowioBackRow.holds Try.pinned (OpenSpec.ofChange rowioBackSpec)

/-- ITS FALSE NEIGHBOUR: 'it returns false'. Refute it at one input. -/
def rowioBackWrong : ChangeSpec := { name := "rowioBack", fn := fun _ => fun
  | [d1, d2, d3, d4] => { results := [.lit (.bool false)], args := [d1, d2, d3, d4] }
  | _ => none }
def RowioBackWrongFalsely : Prop := rowioBackRow.holds Try.pinned (OpenSpec.ofChange rowioBackWrong)

/-- 'ramekinlaw12.RowioOrder': WHATEVER THE INPUT: true; the input reads as it did. -/
def rowioOrderSpec : ChangeSpec := { name := "rowioOrder", fn := fun _ => fun
  | [d1, d2] => { results := [.lit (.bool true)], args := [d1, d2] }
  | _ => none }
def rowioOrderRow : OpenClaim := { program := "ytppfnkedbpmliaa", sum := "903b4b8872cc5e7ba6038f853562ef42d2de2aa5c1572a7a1908dfc95d5852dd", func := "ramekin/ramekinlaw12.RowioOrder", spec := "rowioOrder", unfollowed := true, recurses := true, apart := false }
def RowioOrderSaid : Prop := rowioOrderRow.holds Try.pinned (OpenSpec.ofChange rowioOrderSpec)

/-- ITS FALSE NEIGHBOUR: 'it returns false'. Refute it at one input. -/
def rowioOrderWrong : ChangeSpec := { name := "rowioOrder", fn := fun _ => fun
  | [d1, d2] => { results := [.lit (.bool false)], args := [d1, d2] }
  | _ => none }
def RowioOrderWrongFalsely : Prop := rowioOrderRow.holds Try.pinned (OpenSpec.ofChange rowioOrderWrong)

/-- 'ramekinlaw12.RowioShape': WHATEVER THE INPUT: true; the input reads as it did. -/
def rowioShapeSpec : ChangeSpec := { name := "rowioShape", fn := fun _ => fun
  | [d1, d2, d3] => { results := [.lit (.bool true)], args := [d1, d2, d3] }
  | _ => none }
def rowioShapeRow : OpenClaim := { program := "ytppfnkedbpmliaa", sum := "903b4b8872cc5e7ba6038f853562ef42d2de2aa5c1572a7a1908dfc95d5852dd", func := "ramekin/ramekinlaw12.RowioShape", spec := "rowioShape", unfollowed := true, recurses := true, apart := false }
def RowioShapeSaid : Prop := rowioShapeRow.holds Try.pinned (OpenSpec.ofChange rowioShapeSpec)

/-- ITS FALSE NEIGHBOUR: 'it returns false'. Refute it at one input. -/
def rowioShapeWrong : ChangeSpec := { name := "rowioShape", fn := fun _ => fun
  | [d1, d2, d3] => { results := [.lit (.bool false)], args := [d1, d2, d3] }
  | _ => none }
def RowioShapeWrongFalsely : Prop := rowioShapeRow.holds Try.pinned (OpenSpec.ofChange rowioShapeWrong)

/- THE SECOND FORM. 'bulk': how many values and letters a reading holds, each counted each time it is reached (what is shared counts as often as it is met; a slice's spare places count too). A statement '..UptoSaid' is the law's where the arguments, and the package variables that the reading takes, are together of bulk at most 1048576: NARROWER than '..Said'. Prove '..Said' where nothing that the law and all that it calls make is longer than what came in: it says more and counts as full. Else prove '..UptoSaid'. A law counts once. -/
mutual
def uptoBulk {H : Type} : DataW H → Nat
  | .lit (.string bytes) => bytes.length + 1
  | .lit _ => 1
  | .nil => 1
  | .ptr d => uptoBulk d + 1
  | .slice elems spare => uptoBulkAll elems + uptoBulkAll spare + 1
  | .agg parts => uptoBulkAll parts + 1
  | .iface _ d => uptoBulk d + 1
  | .map entries => uptoBulkEntries entries + 1
  | .held _ => 1
def uptoBulkAll {H : Type} : List (DataW H) → Nat
  | [] => 0
  | d :: r => uptoBulk d + uptoBulkAll r
def uptoBulkEntries {H : Type} : List (Lit × DataW H) → Nat
  | [] => 0
  | x :: r => uptoBulkEntry x + uptoBulkEntries r
def uptoBulkEntry {H : Type} : Lit × DataW H → Nat
  | (.string bytes, d) => bytes.length + uptoBulk d + 1
  | (_, d) => uptoBulk d + 1
 end
def uptoSmall : (H : Type) → List (DataW H) → Bool := fun _ ds => decide (uptoBulkAll ds ≤ 1048576)
def OpenSpec.upto (s : _root_.Go.ChangeSpec) : _root_.Go.OpenSpec := { _root_.Go.OpenSpec.ofChange s with cond := some uptoSmall }

/-- 'ramekinlaw6.BitsPlaces', WHERE WHAT IT READS IS OF BULK AT MOST 1048576: true; the input reads as it did. -/
def bitsPlacesUptoRow : OpenClaim := { program := "ytppfnkedbpmliaa", sum := "903b4b8872cc5e7ba6038f853562ef42d2de2aa5c1572a7a1908dfc95d5852dd", func := "ramekin/ramekinlaw6.BitsPlaces", spec := "bitsPlaces", unfollowed := true, recurses := true, apart := false, narrowed := true }
def BitsPlacesUptoSaid : Prop := bitsPlacesUptoRow.holds Try.pinned (OpenSpec.upto bitsPlacesSpec)

/-- 'ramekinlaw9.GeomAll', WHERE WHAT IT READS IS OF BULK AT MOST 1048576: true; the input reads as it did. -/
def geomAllUptoRow : OpenClaim := { program := "ytppfnkedbpmliaa", sum := "903b4b8872cc5e7ba6038f853562ef42d2de2aa5c1572a7a1908dfc95d5852dd", func := "ramekin/ramekinlaw9.GeomAll", spec := "geomAll", unfollowed := true, recurses := true, apart := false, narrowed := true }
def GeomAllUptoSaid : Prop := geomAllUptoRow.holds Try.pinned (OpenSpec.upto geomAllSpec)

/-- 'ramekinlaw9.GeomOnce', WHERE WHAT IT READS IS OF BULK AT MOST 1048576: true; the input reads as it did. -/
def geomOnceUptoRow : OpenClaim := { program := "ytppfnkedbpmliaa", sum := "903b4b8872cc5e7ba6038f853562ef42d2de2aa5c1572a7a1908dfc95d5852dd", func := "ramekin/ramekinlaw9.GeomOnce", spec := "geomOnce", unfollowed := true, recurses := true, apart := false, narrowed := true }
def GeomOnceUptoSaid : Prop := geomOnceUptoRow.holds Try.pinned (OpenSpec.upto geomOnceSpec)

/-- 'ramekinlaw9.GeomBounds', WHERE WHAT IT READS IS OF BULK AT MOST 1048576: true; the input reads as it did. -/
def geomBoundsUptoRow : OpenClaim := { program := "ytppfnkedbpmliaa", sum := "903b4b8872cc5e7ba6038f853562ef42d2de2aa5c1572a7a1908dfc95d5852dd", func := "ramekin/ramekinlaw9.GeomBounds", spec := "geomBounds", unfollowed := true, recurses := true, apart := false, narrowed := true }
def GeomBoundsUptoSaid : Prop := geomBoundsUptoRow.holds Try.pinned (OpenSpec.upto geomBoundsSpec)

/-- 'ramekinlaw9.GeomBad', WHERE WHAT IT READS IS OF BULK AT MOST 1048576: true; the input reads as it did. -/
def geomBadUptoRow : OpenClaim := { program := "ytppfnkedbpmliaa", sum := "903b4b8872cc5e7ba6038f853562ef42d2de2aa5c1572a7a1908dfc95d5852dd", func := "ramekin/ramekinlaw9.GeomBad", spec := "geomBad", unfollowed := true, recurses := true, apart := false, narrowed := true }
def GeomBadUptoSaid : Prop := geomBadUptoRow.holds Try.pinned (OpenSpec.upto geomBadSpec)

/-- 'ramekinlaw7.NandMakes', WHERE WHAT IT READS IS OF BULK AT MOST 1048576: true; the input reads as it did. -/
def nandMakesUptoRow : OpenClaim := { program := "ytppfnkedbpmliaa", sum := "903b4b8872cc5e7ba6038f853562ef42d2de2aa5c1572a7a1908dfc95d5852dd", func := "ramekin/ramekinlaw7.NandMakes", spec := "nandMakes", apart := false, narrowed := true }
def NandMakesUptoSaid : Prop := nandMakesUptoRow.holds Try.pinned (OpenSpec.upto nandMakesSpec)

/-- 'ramekinlaw7.NandNoise', WHERE WHAT IT READS IS OF BULK AT MOST 1048576: true; the input reads as it did. -/
def nandNoiseUptoRow : OpenClaim := { program := "ytppfnkedbpmliaa", sum := "903b4b8872cc5e7ba6038f853562ef42d2de2aa5c1572a7a1908dfc95d5852dd", func := "ramekin/ramekinlaw7.NandNoise", spec := "nandNoise", apart := false, narrowed := true }
def NandNoiseUptoSaid : Prop := nandNoiseUptoRow.holds Try.pinned (OpenSpec.upto nandNoiseSpec)

/-- 'ramekinlaw7.NandOrder', WHERE WHAT IT READS IS OF BULK AT MOST 1048576: true; the input reads as it did. -/
def nandOrderUptoRow : OpenClaim := { program := "ytppfnkedbpmliaa", sum := "903b4b8872cc5e7ba6038f853562ef42d2de2aa5c1572a7a1908dfc95d5852dd", func := "ramekin/ramekinlaw7.NandOrder", spec := "nandOrder", unfollowed := true, recurses := true, apart := false, narrowed := true }
def NandOrderUptoSaid : Prop := nandOrderUptoRow.holds Try.pinned (OpenSpec.upto nandOrderSpec)

/-- 'ramekinlaw7.NandTorn', WHERE WHAT IT READS IS OF BULK AT MOST 1048576: true; the input reads as it did. -/
def nandTornUptoRow : OpenClaim := { program := "ytppfnkedbpmliaa", sum := "903b4b8872cc5e7ba6038f853562ef42d2de2aa5c1572a7a1908dfc95d5852dd", func := "ramekin/ramekinlaw7.NandTorn", spec := "nandTorn", unfollowed := true, recurses := true, apart := false, narrowed := true }
def NandTornUptoSaid : Prop := nandTornUptoRow.holds Try.pinned (OpenSpec.upto nandTornSpec)

/-- 'ramekinlaw7.NandStops', WHERE WHAT IT READS IS OF BULK AT MOST 1048576: true; the input reads as it did. -/
def nandStopsUptoRow : OpenClaim := { program := "ytppfnkedbpmliaa", sum := "903b4b8872cc5e7ba6038f853562ef42d2de2aa5c1572a7a1908dfc95d5852dd", func := "ramekin/ramekinlaw7.NandStops", spec := "nandStops", unfollowed := true, recurses := true, apart := false, narrowed := true }
def NandStopsUptoSaid : Prop := nandStopsUptoRow.holds Try.pinned (OpenSpec.upto nandStopsSpec)

/-- 'ramekinlaw7.NandBad', WHERE WHAT IT READS IS OF BULK AT MOST 1048576: true; the input reads as it did. -/
def nandBadUptoRow : OpenClaim := { program := "ytppfnkedbpmliaa", sum := "903b4b8872cc5e7ba6038f853562ef42d2de2aa5c1572a7a1908dfc95d5852dd", func := "ramekin/ramekinlaw7.NandBad", spec := "nandBad", unfollowed := true, recurses := true, apart := false, narrowed := true }
def NandBadUptoSaid : Prop := nandBadUptoRow.holds Try.pinned (OpenSpec.upto nandBadSpec)

/-- 'ramekinlaw7.NandErase', WHERE WHAT IT READS IS OF BULK AT MOST 1048576: true; the input reads as it did. -/
def nandEraseUptoRow : OpenClaim := { program := "ytppfnkedbpmliaa", sum := "903b4b8872cc5e7ba6038f853562ef42d2de2aa5c1572a7a1908dfc95d5852dd", func := "ramekin/ramekinlaw7.NandErase", spec := "nandErase", unfollowed := true, recurses := true, apart := false, narrowed := true }
def NandEraseUptoSaid : Prop := nandEraseUptoRow.holds Try.pinned (OpenSpec.upto nandEraseSpec)

/-- 'ramekinlaw7.NandPlays', WHERE WHAT IT READS IS OF BULK AT MOST 1048576: true; the input reads as it did. -/
def nandPlaysUptoRow : OpenClaim := { program := "ytppfnkedbpmliaa", sum := "903b4b8872cc5e7ba6038f853562ef42d2de2aa5c1572a7a1908dfc95d5852dd", func := "ramekin/ramekinlaw7.NandPlays", spec := "nandPlays", unfollowed := true, recurses := true, apart := false, narrowed := true }
def NandPlaysUptoSaid : Prop := nandPlaysUptoRow.holds Try.pinned (OpenSpec.upto nandPlaysSpec)

/-- 'ramekinlaw8.PageWrites', WHERE WHAT IT READS IS OF BULK AT MOST 1048576: true; the input reads as it did. -/
def pageWritesUptoRow : OpenClaim := { program := "ytppfnkedbpmliaa", sum := "903b4b8872cc5e7ba6038f853562ef42d2de2aa5c1572a7a1908dfc95d5852dd", func := "ramekin/ramekinlaw8.PageWrites", spec := "pageWrites", unfollowed := true, recurses := true, apart := false, narrowed := true }
def PageWritesUptoSaid : Prop := pageWritesUptoRow.holds Try.pinned (OpenSpec.upto pageWritesSpec)

/-- 'ramekinlaw8.PageTorn', WHERE WHAT IT READS IS OF BULK AT MOST 1048576: true; the input reads as it did. -/
def pageTornUptoRow : OpenClaim := { program := "ytppfnkedbpmliaa", sum := "903b4b8872cc5e7ba6038f853562ef42d2de2aa5c1572a7a1908dfc95d5852dd", func := "ramekin/ramekinlaw8.PageTorn", spec := "pageTorn", unfollowed := true, recurses := true, apart := false, narrowed := true }
def PageTornUptoSaid : Prop := pageTornUptoRow.holds Try.pinned (OpenSpec.upto pageTornSpec)

/-- 'ramekinlaw12.RowioTorn', WHERE WHAT IT READS IS OF BULK AT MOST 1048576: true; the input reads as it did. -/
def rowioTornUptoRow : OpenClaim := { program := "ytppfnkedbpmliaa", sum := "903b4b8872cc5e7ba6038f853562ef42d2de2aa5c1572a7a1908dfc95d5852dd", func := "ramekin/ramekinlaw12.RowioTorn", spec := "rowioTorn", unfollowed := true, recurses := true, apart := false, narrowed := true }
def RowioTornUptoSaid : Prop := rowioTornUptoRow.holds Try.pinned (OpenSpec.upto rowioTornSpec)

/-- 'ramekinlaw12.RowioBack', WHERE WHAT IT READS IS OF BULK AT MOST 1048576: true; the input reads as it did. -/
def rowioBackUptoRow : OpenClaim := { program := "ytppfnkedbpmliaa", sum := "903b4b8872cc5e7ba6038f853562ef42d2de2aa5c1572a7a1908dfc95d5852dd", func := "ramekin/ramekinlaw12.RowioBack", spec := "rowioBack", unfollowed := true, recurses := true, apart := false, narrowed := true }
def RowioBackUptoSaid : Prop := rowioBackUptoRow.holds Try.pinned (OpenSpec.upto rowioBackSpec)

/-- 'ramekinlaw12.RowioOrder', WHERE WHAT IT READS IS OF BULK AT MOST 1048576: true; the input reads as it did. -/
def rowioOrderUptoRow : OpenClaim := { program := "ytppfnkedbpmliaa", sum := "903b4b8872cc5e7ba6038f853562ef42d2de2aa5c1572a7a1908dfc95d5852dd", func := "ramekin/ramekinlaw12.RowioOrder", spec := "rowioOrder", unfollowed := true, recurses := true, apart := false, narrowed := true }
def RowioOrderUptoSaid : Prop := rowioOrderUptoRow.holds Try.pinned (OpenSpec.upto rowioOrderSpec)

/-- 'ramekinlaw12.RowioShape', WHERE WHAT IT READS IS OF BULK AT MOST 1048576: true; the input reads as it did. -/
def rowioShapeUptoRow : OpenClaim := { program := "ytppfnkedbpmliaa", sum := "903b4b8872cc5e7ba6038f853562ef42d2de2aa5c1572a7a1908dfc95d5852dd", func := "ramekin/ramekinlaw12.RowioShape", spec := "rowioShape", unfollowed := true, recurses := true, apart := false, narrowed := true }
def RowioShapeUptoSaid : Prop := rowioShapeUptoRow.holds Try.pinned (OpenSpec.upto rowioShapeSpec)

end Rows
end Go.Proofs.Ytppfnkedbpmliaa
