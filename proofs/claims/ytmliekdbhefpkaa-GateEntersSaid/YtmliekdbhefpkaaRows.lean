/-
  No cell of these rows narrows 'for every input' (looked for: loops, veiled, ifaces, maps, wideKeys, modest, calm, conditions, laid).
  DERIVED. THE GIVEN ROWS OF THIS SEAT. 20 by the template 'for every input the law returns true; each argument reads behind the call as it read before'; 0 by the template 'total and deterministic' (their statements: YtmliekdbhefpkaaTotals.lean).
  GIVEN WITH THE SEED: the statements are not yours to turn. If you find one false, say at which input.
  Laid BY PROGRAM, IN A SANDBOX (cutbox-rows.mjs): the forced cells as the released guide's own fill.sh prints them over the translation d154eb17e3922274… (all of the seat's roots in one cut). By AI agents, Wed Nov 11 2026. No macro, syntax, notation, axiom, sorry.
-/
import Derived.Test.YtmliekdbhefpkaaChecked
import GoSem.Claim
import GoSem.ClaimJoined
import GoSem.ClaimMapViews
import Derived.JoinedTies
import Derived.KernelRfl
namespace Go.Proofs.Ytmliekdbhefpkaa
/- THE CELL 'sum', in the pinned program and in every row, IS THE sha256 OF THE DUMP (.gsa) THAT YtmliekdbhefpkaaProg.lean LOADS. Nothing in Lean hashes anything: it is a label: what it is worth is what the hold of that sum in a sandbox is worth. -/
noncomputable def Try.pinned : Pinned := { name := "ytmliekdbhefpkaa", sum := "d154eb17e3922274df043628e8023d624fe9745139f54e185e8dc494612be534", checked := Try.checked }
namespace Rows
def none {H : Type} : Left H := { results := [], args := [] }

/-- 'umpirelaw11.JoinBoth': WHATEVER THE INPUT: true; the input reads as it did. -/
def joinBothSpec : ChangeSpec := { name := "joinBoth", fn := fun _ => fun
  | [d1, d2, d3] => { results := [.lit (.bool true)], args := [d1, d2, d3] }
  | _ => none }
def joinBothRow : OpenClaim := { program := "ytmliekdbhefpkaa", sum := "d154eb17e3922274df043628e8023d624fe9745139f54e185e8dc494612be534", func := "umpire/umpirelaw11.JoinBoth", spec := "joinBoth", unfollowed := true, recurses := true, apart := false }
def JoinBothSaid : Prop := joinBothRow.holds Try.pinned (OpenSpec.ofChange joinBothSpec)

/-- ITS FALSE NEIGHBOUR: 'it returns false'. Refute it at one input. -/
def joinBothWrong : ChangeSpec := { name := "joinBoth", fn := fun _ => fun
  | [d1, d2, d3] => { results := [.lit (.bool false)], args := [d1, d2, d3] }
  | _ => none }
def JoinBothWrongFalsely : Prop := joinBothRow.holds Try.pinned (OpenSpec.ofChange joinBothWrong)

/-- 'umpirelaw11.JoinTwo': WHATEVER THE INPUT: true; the input reads as it did. -/
def joinTwoSpec : ChangeSpec := { name := "joinTwo", fn := fun _ => fun
  | [d1, d2, d3] => { results := [.lit (.bool true)], args := [d1, d2, d3] }
  | _ => none }
def joinTwoRow : OpenClaim := { program := "ytmliekdbhefpkaa", sum := "d154eb17e3922274df043628e8023d624fe9745139f54e185e8dc494612be534", func := "umpire/umpirelaw11.JoinTwo", spec := "joinTwo", unfollowed := true, recurses := true, apart := false }
def JoinTwoSaid : Prop := joinTwoRow.holds Try.pinned (OpenSpec.ofChange joinTwoSpec)

/-- ITS FALSE NEIGHBOUR: 'it returns false'. Refute it at one input. -/
def joinTwoWrong : ChangeSpec := { name := "joinTwo", fn := fun _ => fun
  | [d1, d2, d3] => { results := [.lit (.bool false)], args := [d1, d2, d3] }
  | _ => none }
def JoinTwoWrongFalsely : Prop := joinTwoRow.holds Try.pinned (OpenSpec.ofChange joinTwoWrong)

/-- 'umpirelaw11.JoinTwice': WHATEVER THE INPUT: true; the input reads as it did. -/
def joinTwiceSpec : ChangeSpec := { name := "joinTwice", fn := fun _ => fun
  | [d1, d2, d3] => { results := [.lit (.bool true)], args := [d1, d2, d3] }
  | _ => none }
def joinTwiceRow : OpenClaim := { program := "ytmliekdbhefpkaa", sum := "d154eb17e3922274df043628e8023d624fe9745139f54e185e8dc494612be534", func := "umpire/umpirelaw11.JoinTwice", spec := "joinTwice", unfollowed := true, recurses := true, apart := false }
def JoinTwiceSaid : Prop := joinTwiceRow.holds Try.pinned (OpenSpec.ofChange joinTwiceSpec)

/-- ITS FALSE NEIGHBOUR: 'it returns false'. Refute it at one input. -/
def joinTwiceWrong : ChangeSpec := { name := "joinTwice", fn := fun _ => fun
  | [d1, d2, d3] => { results := [.lit (.bool false)], args := [d1, d2, d3] }
  | _ => none }
def JoinTwiceWrongFalsely : Prop := joinTwiceRow.holds Try.pinned (OpenSpec.ofChange joinTwiceWrong)

/-- 'umpirelaw11.JoinSteps': WHATEVER THE INPUT: true; the input reads as it did. -/
def joinStepsSpec : ChangeSpec := { name := "joinSteps", fn := fun _ => fun
  | [d1, d2, d3] => { results := [.lit (.bool true)], args := [d1, d2, d3] }
  | _ => none }
def joinStepsRow : OpenClaim := { program := "ytmliekdbhefpkaa", sum := "d154eb17e3922274df043628e8023d624fe9745139f54e185e8dc494612be534", func := "umpire/umpirelaw11.JoinSteps", spec := "joinSteps", unfollowed := true, recurses := true, apart := false }
def JoinStepsSaid : Prop := joinStepsRow.holds Try.pinned (OpenSpec.ofChange joinStepsSpec)

/-- ITS FALSE NEIGHBOUR: 'it returns false'. Refute it at one input. -/
def joinStepsWrong : ChangeSpec := { name := "joinSteps", fn := fun _ => fun
  | [d1, d2, d3] => { results := [.lit (.bool false)], args := [d1, d2, d3] }
  | _ => none }
def JoinStepsWrongFalsely : Prop := joinStepsRow.holds Try.pinned (OpenSpec.ofChange joinStepsWrong)

/-- 'umpirelaw11.JoinOwns': WHATEVER THE INPUT: true; the input reads as it did. -/
def joinOwnsSpec : ChangeSpec := { name := "joinOwns", fn := fun _ => fun
  | [d1, d2, d3] => { results := [.lit (.bool true)], args := [d1, d2, d3] }
  | _ => none }
def joinOwnsRow : OpenClaim := { program := "ytmliekdbhefpkaa", sum := "d154eb17e3922274df043628e8023d624fe9745139f54e185e8dc494612be534", func := "umpire/umpirelaw11.JoinOwns", spec := "joinOwns", unfollowed := true, recurses := true, apart := false }
def JoinOwnsSaid : Prop := joinOwnsRow.holds Try.pinned (OpenSpec.ofChange joinOwnsSpec)

/-- ITS FALSE NEIGHBOUR: 'it returns false'. Refute it at one input. -/
def joinOwnsWrong : ChangeSpec := { name := "joinOwns", fn := fun _ => fun
  | [d1, d2, d3] => { results := [.lit (.bool false)], args := [d1, d2, d3] }
  | _ => none }
def JoinOwnsWrongFalsely : Prop := joinOwnsRow.holds Try.pinned (OpenSpec.ofChange joinOwnsWrong)

/-- 'umpirelaw11.JoinAlone': WHATEVER THE INPUT: true; the input reads as it did. -/
def joinAloneSpec : ChangeSpec := { name := "joinAlone", fn := fun _ => fun
  | [d1, d2, d3] => { results := [.lit (.bool true)], args := [d1, d2, d3] }
  | _ => none }
def joinAloneRow : OpenClaim := { program := "ytmliekdbhefpkaa", sum := "d154eb17e3922274df043628e8023d624fe9745139f54e185e8dc494612be534", func := "umpire/umpirelaw11.JoinAlone", spec := "joinAlone", unfollowed := true, recurses := true, apart := false }
def JoinAloneSaid : Prop := joinAloneRow.holds Try.pinned (OpenSpec.ofChange joinAloneSpec)

/-- ITS FALSE NEIGHBOUR: 'it returns false'. Refute it at one input. -/
def joinAloneWrong : ChangeSpec := { name := "joinAlone", fn := fun _ => fun
  | [d1, d2, d3] => { results := [.lit (.bool false)], args := [d1, d2, d3] }
  | _ => none }
def JoinAloneWrongFalsely : Prop := joinAloneRow.holds Try.pinned (OpenSpec.ofChange joinAloneWrong)

/-- 'umpirelaw10.GateTwo': WHATEVER THE INPUT: true; the input reads as it did. -/
def gateTwoSpec : ChangeSpec := { name := "gateTwo", fn := fun _ => fun
  | [d1, d2, d3] => { results := [.lit (.bool true)], args := [d1, d2, d3] }
  | _ => none }
def gateTwoRow : OpenClaim := { program := "ytmliekdbhefpkaa", sum := "d154eb17e3922274df043628e8023d624fe9745139f54e185e8dc494612be534", func := "umpire/umpirelaw10.GateTwo", spec := "gateTwo", unfollowed := true, recurses := true, apart := false }
def GateTwoSaid : Prop := gateTwoRow.holds Try.pinned (OpenSpec.ofChange gateTwoSpec)

/-- ITS FALSE NEIGHBOUR: 'it returns false'. Refute it at one input. -/
def gateTwoWrong : ChangeSpec := { name := "gateTwo", fn := fun _ => fun
  | [d1, d2, d3] => { results := [.lit (.bool false)], args := [d1, d2, d3] }
  | _ => none }
def GateTwoWrongFalsely : Prop := gateTwoRow.holds Try.pinned (OpenSpec.ofChange gateTwoWrong)

/-- 'umpirelaw10.GateSides': WHATEVER THE INPUT: true; the input reads as it did. -/
def gateSidesSpec : ChangeSpec := { name := "gateSides", fn := fun _ => fun
  | [d1, d2, d3] => { results := [.lit (.bool true)], args := [d1, d2, d3] }
  | _ => none }
def gateSidesRow : OpenClaim := { program := "ytmliekdbhefpkaa", sum := "d154eb17e3922274df043628e8023d624fe9745139f54e185e8dc494612be534", func := "umpire/umpirelaw10.GateSides", spec := "gateSides", unfollowed := true, recurses := true, apart := false }
def GateSidesSaid : Prop := gateSidesRow.holds Try.pinned (OpenSpec.ofChange gateSidesSpec)

/-- ITS FALSE NEIGHBOUR: 'it returns false'. Refute it at one input. -/
def gateSidesWrong : ChangeSpec := { name := "gateSides", fn := fun _ => fun
  | [d1, d2, d3] => { results := [.lit (.bool false)], args := [d1, d2, d3] }
  | _ => none }
def GateSidesWrongFalsely : Prop := gateSidesRow.holds Try.pinned (OpenSpec.ofChange gateSidesWrong)

/-- 'umpirelaw10.GateAgain': WHATEVER THE INPUT: true; the input reads as it did. -/
def gateAgainSpec : ChangeSpec := { name := "gateAgain", fn := fun _ => fun
  | [d1, d2, d3] => { results := [.lit (.bool true)], args := [d1, d2, d3] }
  | _ => none }
def gateAgainRow : OpenClaim := { program := "ytmliekdbhefpkaa", sum := "d154eb17e3922274df043628e8023d624fe9745139f54e185e8dc494612be534", func := "umpire/umpirelaw10.GateAgain", spec := "gateAgain", unfollowed := true, recurses := true, apart := false }
def GateAgainSaid : Prop := gateAgainRow.holds Try.pinned (OpenSpec.ofChange gateAgainSpec)

/-- ITS FALSE NEIGHBOUR: 'it returns false'. Refute it at one input. -/
def gateAgainWrong : ChangeSpec := { name := "gateAgain", fn := fun _ => fun
  | [d1, d2, d3] => { results := [.lit (.bool false)], args := [d1, d2, d3] }
  | _ => none }
def GateAgainWrongFalsely : Prop := gateAgainRow.holds Try.pinned (OpenSpec.ofChange gateAgainWrong)

/-- 'umpirelaw10.GateStale': WHATEVER THE INPUT: true; the input reads as it did. -/
def gateStaleSpec : ChangeSpec := { name := "gateStale", fn := fun _ => fun
  | [d1, d2, d3] => { results := [.lit (.bool true)], args := [d1, d2, d3] }
  | _ => none }
def gateStaleRow : OpenClaim := { program := "ytmliekdbhefpkaa", sum := "d154eb17e3922274df043628e8023d624fe9745139f54e185e8dc494612be534", func := "umpire/umpirelaw10.GateStale", spec := "gateStale", unfollowed := true, recurses := true, apart := false }
def GateStaleSaid : Prop := gateStaleRow.holds Try.pinned (OpenSpec.ofChange gateStaleSpec)

/-- ITS FALSE NEIGHBOUR: 'it returns false'. Refute it at one input. -/
def gateStaleWrong : ChangeSpec := { name := "gateStale", fn := fun _ => fun
  | [d1, d2, d3] => { results := [.lit (.bool false)], args := [d1, d2, d3] }
  | _ => none }
def GateStaleWrongFalsely : Prop := gateStaleRow.holds Try.pinned (OpenSpec.ofChange gateStaleWrong)

/-- 'umpirelaw10.GateLeaves': WHATEVER THE INPUT: true; the input reads as it did. -/
def gateLeavesSpec : ChangeSpec := { name := "gateLeaves", fn := fun _ => fun
  | [d1, d2, d3] => { results := [.lit (.bool true)], args := [d1, d2, d3] }
  | _ => none }
def gateLeavesRow : OpenClaim := { program := "ytmliekdbhefpkaa", sum := "d154eb17e3922274df043628e8023d624fe9745139f54e185e8dc494612be534", func := "umpire/umpirelaw10.GateLeaves", spec := "gateLeaves", unfollowed := true, recurses := true, apart := false }
def GateLeavesSaid : Prop := gateLeavesRow.holds Try.pinned (OpenSpec.ofChange gateLeavesSpec)

/-- ITS FALSE NEIGHBOUR: 'it returns false'. Refute it at one input. -/
def gateLeavesWrong : ChangeSpec := { name := "gateLeaves", fn := fun _ => fun
  | [d1, d2, d3] => { results := [.lit (.bool false)], args := [d1, d2, d3] }
  | _ => none }
def GateLeavesWrongFalsely : Prop := gateLeavesRow.holds Try.pinned (OpenSpec.ofChange gateLeavesWrong)

/-- 'umpirelaw10.GateEnters': WHATEVER THE INPUT: true; the input reads as it did. -/
def gateEntersSpec : ChangeSpec := { name := "gateEnters", fn := fun _ => fun
  | [d1, d2, d3] => { results := [.lit (.bool true)], args := [d1, d2, d3] }
  | _ => none }
def gateEntersRow : OpenClaim := { program := "ytmliekdbhefpkaa", sum := "d154eb17e3922274df043628e8023d624fe9745139f54e185e8dc494612be534", func := "umpire/umpirelaw10.GateEnters", spec := "gateEnters", unfollowed := true, recurses := true, apart := false }
def GateEntersSaid : Prop := gateEntersRow.holds Try.pinned (OpenSpec.ofChange gateEntersSpec)

/-- ITS FALSE NEIGHBOUR: 'it returns false'. Refute it at one input. -/
def gateEntersWrong : ChangeSpec := { name := "gateEnters", fn := fun _ => fun
  | [d1, d2, d3] => { results := [.lit (.bool false)], args := [d1, d2, d3] }
  | _ => none }
def GateEntersWrongFalsely : Prop := gateEntersRow.holds Try.pinned (OpenSpec.ofChange gateEntersWrong)

/-- 'umpirelaw09.OpenAlone': WHATEVER THE INPUT: true; the input reads as it did. -/
def openAloneSpec : ChangeSpec := { name := "openAlone", fn := fun _ => fun
  | [d1, d2] => { results := [.lit (.bool true)], args := [d1, d2] }
  | _ => none }
def openAloneRow : OpenClaim := { program := "ytmliekdbhefpkaa", sum := "d154eb17e3922274df043628e8023d624fe9745139f54e185e8dc494612be534", func := "umpire/umpirelaw09.OpenAlone", spec := "openAlone", unfollowed := true, recurses := true, apart := false }
def OpenAloneSaid : Prop := openAloneRow.holds Try.pinned (OpenSpec.ofChange openAloneSpec)

/-- ITS FALSE NEIGHBOUR: 'it returns false'. Refute it at one input. -/
def openAloneWrong : ChangeSpec := { name := "openAlone", fn := fun _ => fun
  | [d1, d2] => { results := [.lit (.bool false)], args := [d1, d2] }
  | _ => none }
def OpenAloneWrongFalsely : Prop := openAloneRow.holds Try.pinned (OpenSpec.ofChange openAloneWrong)

/-- 'umpirelaw09.OpenTwo': WHATEVER THE INPUT: true; the input reads as it did. -/
def openTwoSpec : ChangeSpec := { name := "openTwo", fn := fun _ => fun
  | [d1, d2] => { results := [.lit (.bool true)], args := [d1, d2] }
  | _ => none }
def openTwoRow : OpenClaim := { program := "ytmliekdbhefpkaa", sum := "d154eb17e3922274df043628e8023d624fe9745139f54e185e8dc494612be534", func := "umpire/umpirelaw09.OpenTwo", spec := "openTwo", unfollowed := true, recurses := true, apart := false }
def OpenTwoSaid : Prop := openTwoRow.holds Try.pinned (OpenSpec.ofChange openTwoSpec)

/-- ITS FALSE NEIGHBOUR: 'it returns false'. Refute it at one input. -/
def openTwoWrong : ChangeSpec := { name := "openTwo", fn := fun _ => fun
  | [d1, d2] => { results := [.lit (.bool false)], args := [d1, d2] }
  | _ => none }
def OpenTwoWrongFalsely : Prop := openTwoRow.holds Try.pinned (OpenSpec.ofChange openTwoWrong)

/-- 'umpirelaw09.OpenLast': WHATEVER THE INPUT: true; the input reads as it did. -/
def openLastSpec : ChangeSpec := { name := "openLast", fn := fun _ => fun
  | [d1, d2] => { results := [.lit (.bool true)], args := [d1, d2] }
  | _ => none }
def openLastRow : OpenClaim := { program := "ytmliekdbhefpkaa", sum := "d154eb17e3922274df043628e8023d624fe9745139f54e185e8dc494612be534", func := "umpire/umpirelaw09.OpenLast", spec := "openLast", unfollowed := true, recurses := true, apart := false }
def OpenLastSaid : Prop := openLastRow.holds Try.pinned (OpenSpec.ofChange openLastSpec)

/-- ITS FALSE NEIGHBOUR: 'it returns false'. Refute it at one input. -/
def openLastWrong : ChangeSpec := { name := "openLast", fn := fun _ => fun
  | [d1, d2] => { results := [.lit (.bool false)], args := [d1, d2] }
  | _ => none }
def OpenLastWrongFalsely : Prop := openLastRow.holds Try.pinned (OpenSpec.ofChange openLastWrong)

/-- 'umpirelaw09.OpenSeen': WHATEVER THE INPUT: true; the input reads as it did. -/
def openSeenSpec : ChangeSpec := { name := "openSeen", fn := fun _ => fun
  | [d1, d2, d3] => { results := [.lit (.bool true)], args := [d1, d2, d3] }
  | _ => none }
def openSeenRow : OpenClaim := { program := "ytmliekdbhefpkaa", sum := "d154eb17e3922274df043628e8023d624fe9745139f54e185e8dc494612be534", func := "umpire/umpirelaw09.OpenSeen", spec := "openSeen", unfollowed := true, recurses := true, apart := false }
def OpenSeenSaid : Prop := openSeenRow.holds Try.pinned (OpenSpec.ofChange openSeenSpec)

/-- ITS FALSE NEIGHBOUR: 'it returns false'. Refute it at one input. -/
def openSeenWrong : ChangeSpec := { name := "openSeen", fn := fun _ => fun
  | [d1, d2, d3] => { results := [.lit (.bool false)], args := [d1, d2, d3] }
  | _ => none }
def OpenSeenWrongFalsely : Prop := openSeenRow.holds Try.pinned (OpenSpec.ofChange openSeenWrong)

/-- 'umpirelaw09.OpenFull': WHATEVER THE INPUT: true; the input reads as it did. -/
def openFullSpec : ChangeSpec := { name := "openFull", fn := fun _ => fun
  | [d] => { results := [.lit (.bool true)], args := [d] }
  | _ => none }
def openFullRow : OpenClaim := { program := "ytmliekdbhefpkaa", sum := "d154eb17e3922274df043628e8023d624fe9745139f54e185e8dc494612be534", func := "umpire/umpirelaw09.OpenFull", spec := "openFull", unfollowed := true, recurses := true, apart := false }
def OpenFullSaid : Prop := openFullRow.holds Try.pinned (OpenSpec.ofChange openFullSpec)

/-- ITS FALSE NEIGHBOUR: 'it returns false'. Refute it at one input. -/
def openFullWrong : ChangeSpec := { name := "openFull", fn := fun _ => fun
  | [d] => { results := [.lit (.bool false)], args := [d] }
  | _ => none }
def OpenFullWrongFalsely : Prop := openFullRow.holds Try.pinned (OpenSpec.ofChange openFullWrong)

/-- 'umpirelaw09.OpenSteps': WHATEVER THE INPUT: true; the input reads as it did. -/
def openStepsSpec : ChangeSpec := { name := "openSteps", fn := fun _ => fun
  | [d1, d2, d3] => { results := [.lit (.bool true)], args := [d1, d2, d3] }
  | _ => none }
def openStepsRow : OpenClaim := { program := "ytmliekdbhefpkaa", sum := "d154eb17e3922274df043628e8023d624fe9745139f54e185e8dc494612be534", func := "umpire/umpirelaw09.OpenSteps", spec := "openSteps", unfollowed := true, recurses := true, apart := false }
def OpenStepsSaid : Prop := openStepsRow.holds Try.pinned (OpenSpec.ofChange openStepsSpec)

/-- ITS FALSE NEIGHBOUR: 'it returns false'. Refute it at one input. -/
def openStepsWrong : ChangeSpec := { name := "openSteps", fn := fun _ => fun
  | [d1, d2, d3] => { results := [.lit (.bool false)], args := [d1, d2, d3] }
  | _ => none }
def OpenStepsWrongFalsely : Prop := openStepsRow.holds Try.pinned (OpenSpec.ofChange openStepsWrong)

/-- 'umpirelaw10.GateAlone': WHATEVER THE INPUT: true; the input reads as it did. -/
def gateAloneSpec : ChangeSpec := { name := "gateAlone", fn := fun _ => fun
  | [d1, d2, d3] => { results := [.lit (.bool true)], args := [d1, d2, d3] }
  | _ => none }
def gateAloneRow : OpenClaim := { program := "ytmliekdbhefpkaa", sum := "d154eb17e3922274df043628e8023d624fe9745139f54e185e8dc494612be534", func := "umpire/umpirelaw10.GateAlone", spec := "gateAlone", unfollowed := true, recurses := true, apart := false }
def GateAloneSaid : Prop := gateAloneRow.holds Try.pinned (OpenSpec.ofChange gateAloneSpec)

/-- ITS FALSE NEIGHBOUR: 'it returns false'. Refute it at one input. -/
def gateAloneWrong : ChangeSpec := { name := "gateAlone", fn := fun _ => fun
  | [d1, d2, d3] => { results := [.lit (.bool false)], args := [d1, d2, d3] }
  | _ => none }
def GateAloneWrongFalsely : Prop := gateAloneRow.holds Try.pinned (OpenSpec.ofChange gateAloneWrong)

/-- 'umpirelaw09.OpenOnly': WHATEVER THE INPUT: true; the input reads as it did. -/
def openOnlySpec : ChangeSpec := { name := "openOnly", fn := fun _ => fun
  | [d1, d2] => { results := [.lit (.bool true)], args := [d1, d2] }
  | _ => none }
def openOnlyRow : OpenClaim := { program := "ytmliekdbhefpkaa", sum := "d154eb17e3922274df043628e8023d624fe9745139f54e185e8dc494612be534", func := "umpire/umpirelaw09.OpenOnly", spec := "openOnly", unfollowed := true, recurses := true, apart := false }
def OpenOnlySaid : Prop := openOnlyRow.holds Try.pinned (OpenSpec.ofChange openOnlySpec)

/-- ITS FALSE NEIGHBOUR: 'it returns false'. Refute it at one input. -/
def openOnlyWrong : ChangeSpec := { name := "openOnly", fn := fun _ => fun
  | [d1, d2] => { results := [.lit (.bool false)], args := [d1, d2] }
  | _ => none }
def OpenOnlyWrongFalsely : Prop := openOnlyRow.holds Try.pinned (OpenSpec.ofChange openOnlyWrong)

/- THE SECOND FORM. 'bulk': how many values and letters a reading holds, each counted each time it is reached (what is shared counts as often as it is met; a slice's spare places count too). A statement '..UptoSaid' is the law's where the arguments, and the package variables that the reading takes, are together of bulk at most 1048576: NARROWER than '..Said'. Prove '..Said' where nothing that the law and all that it calls make is longer than what came in: it says more and counts as full. Else prove '..UptoSaid'. A law counts once. -/
mutual
def uptoBulk {H : Type} : DataW H → Nat
  | .lit (.string bytes) => bytes.length + 1
  | .lit _ => 1
  | .nil => 1
  | .ptr d => uptoBulk d + 1
  | .slice elems spare => uptoBulkAll elems + uptoBulkAll spare + 1
  | .agg parts => uptoBulkAll parts + 1
  | .iface _ d => uptoBulk d + 1
  | .map entries => uptoBulkEntries entries + 1
  | .held _ => 1
def uptoBulkAll {H : Type} : List (DataW H) → Nat
  | [] => 0
  | d :: r => uptoBulk d + uptoBulkAll r
def uptoBulkEntries {H : Type} : List (Lit × DataW H) → Nat
  | [] => 0
  | x :: r => uptoBulkEntry x + uptoBulkEntries r
def uptoBulkEntry {H : Type} : Lit × DataW H → Nat
  | (.string bytes, d) => bytes.length + uptoBulk d + 1
  | (_, d) => uptoBulk d + 1
 end
def uptoSmall : (H : Type) → List (DataW H) → Bool := fun _ ds => decide (uptoBulkAll ds ≤ 1048576)
def OpenSpec.upto (s : _root_.Go.ChangeSpec) : _root_.Go.OpenSpec := { _root_.Go.OpenSpec.ofChange s with cond := some uptoSmall }

/-- 'umpirelaw11.JoinBoth', WHERE WHAT IT READS IS OF BULK AT MOST 1048576: true; the input reads as it did. -/
def joinBothUptoRow : OpenClaim := { program := "ytmliekdbhefpkaa", sum := "d154eb17e3922274df043628e8023d624fe9745139f54e185e8dc494612be534", func := "umpire/umpirelaw11.JoinBoth", spec := "joinBoth", unfollowed := true, recurses := true, apart := false, narrowed := true }
def JoinBothUptoSaid : Prop := joinBothUptoRow.holds Try.pinned (OpenSpec.upto joinBothSpec)

/-- 'umpirelaw11.JoinTwo', WHERE WHAT IT READS IS OF BULK AT MOST 1048576: true; the input reads as it did. -/
def joinTwoUptoRow : OpenClaim := { program := "ytmliekdbhefpkaa", sum := "d154eb17e3922274df043628e8023d624fe9745139f54e185e8dc494612be534", func := "umpire/umpirelaw11.JoinTwo", spec := "joinTwo", unfollowed := true, recurses := true, apart := false, narrowed := true }
def JoinTwoUptoSaid : Prop := joinTwoUptoRow.holds Try.pinned (OpenSpec.upto joinTwoSpec)

/-- 'umpirelaw11.JoinTwice', WHERE WHAT IT READS IS OF BULK AT MOST 1048576: true; the input reads as it did. -/
def joinTwiceUptoRow : OpenClaim := { program := "ytmliekdbhefpkaa", sum := "d154eb17e3922274df043628e8023d624fe9745139f54e185e8dc494612be534", func := "umpire/umpirelaw11.JoinTwice", spec := "joinTwice", unfollowed := true, recurses := true, apart := false, narrowed := true }
def JoinTwiceUptoSaid : Prop := joinTwiceUptoRow.holds Try.pinned (OpenSpec.upto joinTwiceSpec)

/-- 'umpirelaw11.JoinSteps', WHERE WHAT IT READS IS OF BULK AT MOST 1048576: true; the input reads as it did. -/
def joinStepsUptoRow : OpenClaim := { program := "ytmliekdbhefpkaa", sum := "d154eb17e3922274df043628e8023d624fe9745139f54e185e8dc494612be534", func := "umpire/umpirelaw11.JoinSteps", spec := "joinSteps", unfollowed := true, recurses := true, apart := false, narrowed := true }
def JoinStepsUptoSaid : Prop := joinStepsUptoRow.holds Try.pinned (OpenSpec.upto joinStepsSpec)

/-- 'umpirelaw11.JoinOwns', WHERE WHAT IT READS IS OF BULK AT MOST 1048576: true; the input reads as it did. -/
def joinOwnsUptoRow : OpenClaim := { program := "ytmliekdbhefpkaa", sum := "d154eb17e3922274df043628e8023d624fe9745139f54e185e8dc494612be534", func := "umpire/umpirelaw11.JoinOwns", spec := "joinOwns", unfollowed := true, recurses := true, apart := false, narrowed := true }
def JoinOwnsUptoSaid : Prop := joinOwnsUptoRow.holds Try.pinned (OpenSpec.upto joinOwnsSpec)

/-- 'umpirelaw11.JoinAlone', WHERE WHAT IT READS IS OF BULK AT MOST 1048576: true; the input reads as it did. -/
def joinAloneUptoRow : OpenClaim := { program := "ytmliekdbhefpkaa", sum := "d154eb17e3922274df043628e8023d624fe9745139f54e185e8dc494612be534", func := "umpire/umpirelaw11.JoinAlone", spec := "joinAlone", unfollowed := true, recurses := true, apart := false, narrowed := true }
def JoinAloneUptoSaid : Prop := joinAloneUptoRow.holds Try.pinned (OpenSpec.upto joinAloneSpec)

/-- 'umpirelaw10.GateTwo', WHERE WHAT IT READS IS OF BULK AT MOST 1048576: true; the input reads as it did. -/
def gateTwoUptoRow : OpenClaim := { program := "ytmliekdbhefpkaa", sum := "d154eb17e3922274df043628e8023d624fe9745139f54e185e8dc494612be534", func := "umpire/umpirelaw10.GateTwo", spec := "gateTwo", unfollowed := true, recurses := true, apart := false, narrowed := true }
def GateTwoUptoSaid : Prop := gateTwoUptoRow.holds Try.pinned (OpenSpec.upto gateTwoSpec)

/-- 'umpirelaw10.GateSides', WHERE WHAT IT READS IS OF BULK AT MOST 1048576: true; the input reads as it did. -/
def gateSidesUptoRow : OpenClaim := { program := "ytmliekdbhefpkaa", sum := "d154eb17e3922274df043628e8023d624fe9745139f54e185e8dc494612be534", func := "umpire/umpirelaw10.GateSides", spec := "gateSides", unfollowed := true, recurses := true, apart := false, narrowed := true }
def GateSidesUptoSaid : Prop := gateSidesUptoRow.holds Try.pinned (OpenSpec.upto gateSidesSpec)

/-- 'umpirelaw10.GateAgain', WHERE WHAT IT READS IS OF BULK AT MOST 1048576: true; the input reads as it did. -/
def gateAgainUptoRow : OpenClaim := { program := "ytmliekdbhefpkaa", sum := "d154eb17e3922274df043628e8023d624fe9745139f54e185e8dc494612be534", func := "umpire/umpirelaw10.GateAgain", spec := "gateAgain", unfollowed := true, recurses := true, apart := false, narrowed := true }
def GateAgainUptoSaid : Prop := gateAgainUptoRow.holds Try.pinned (OpenSpec.upto gateAgainSpec)

/-- 'umpirelaw10.GateStale', WHERE WHAT IT READS IS OF BULK AT MOST 1048576: true; the input reads as it did. -/
def gateStaleUptoRow : OpenClaim := { program := "ytmliekdbhefpkaa", sum := "d154eb17e3922274df043628e8023d624fe9745139f54e185e8dc494612be534", func := "umpire/umpirelaw10.GateStale", spec := "gateStale", unfollowed := true, recurses := true, apart := false, narrowed := true }
def GateStaleUptoSaid : Prop := gateStaleUptoRow.holds Try.pinned (OpenSpec.upto gateStaleSpec)

/-- 'umpirelaw10.GateLeaves', WHERE WHAT IT READS IS OF BULK AT MOST 1048576: true; the input reads as it did. -/
def gateLeavesUptoRow : OpenClaim := { program := "ytmliekdbhefpkaa", sum := "d154eb17e3922274df043628e8023d624fe9745139f54e185e8dc494612be534", func := "umpire/umpirelaw10.GateLeaves", spec := "gateLeaves", unfollowed := true, recurses := true, apart := false, narrowed := true }
def GateLeavesUptoSaid : Prop := gateLeavesUptoRow.holds Try.pinned (OpenSpec.upto gateLeavesSpec)

/-- 'umpirelaw10.GateEnters', WHERE WHAT IT READS IS OF BULK AT MOST 1048576: true; the input reads as it did. -/
def gateEntersUptoRow : OpenClaim := { program := "ytmliekdbhefpkaa", sum := "d154eb17e3922274df043628e8023d624fe9745139f54e185e8dc494612be534", func := "umpire/umpirelaw10.GateEnters", spec := "gateEnters", unfollowed := true, recurses := true, apart := false, narrowed := true }
def GateEntersUptoSaid : Prop := gateEntersUptoRow.holds Try.pinned (OpenSpec.upto gateEntersSpec)

/-- 'umpirelaw09.OpenAlone', WHERE WHAT IT READS IS OF BULK AT MOST 1048576: true; the input reads as it did. -/
def openAloneUptoRow : OpenClaim := { program := "ytmliekdbhefpkaa", sum := "d154eb17e3922274df043628e8023d624fe9745139f54e185e8dc494612be534", func := "umpire/umpirelaw09.OpenAlone", spec := "openAlone", unfollowed := true, recurses := true, apart := false, narrowed := true }
def OpenAloneUptoSaid : Prop := openAloneUptoRow.holds Try.pinned (OpenSpec.upto openAloneSpec)

/-- 'umpirelaw09.OpenTwo', WHERE WHAT IT READS IS OF BULK AT MOST 1048576: true; the input reads as it did. -/
def openTwoUptoRow : OpenClaim := { program := "ytmliekdbhefpkaa", sum := "d154eb17e3922274df043628e8023d624fe9745139f54e185e8dc494612be534", func := "umpire/umpirelaw09.OpenTwo", spec := "openTwo", unfollowed := true, recurses := true, apart := false, narrowed := true }
def OpenTwoUptoSaid : Prop := openTwoUptoRow.holds Try.pinned (OpenSpec.upto openTwoSpec)

/-- 'umpirelaw09.OpenLast', WHERE WHAT IT READS IS OF BULK AT MOST 1048576: true; the input reads as it did. -/
def openLastUptoRow : OpenClaim := { program := "ytmliekdbhefpkaa", sum := "d154eb17e3922274df043628e8023d624fe9745139f54e185e8dc494612be534", func := "umpire/umpirelaw09.OpenLast", spec := "openLast", unfollowed := true, recurses := true, apart := false, narrowed := true }
def OpenLastUptoSaid : Prop := openLastUptoRow.holds Try.pinned (OpenSpec.upto openLastSpec)

/-- 'umpirelaw09.OpenSeen', WHERE WHAT IT READS IS OF BULK AT MOST 1048576: true; the input reads as it did. -/
def openSeenUptoRow : OpenClaim := { program := "ytmliekdbhefpkaa", sum := "d154eb17e3922274df043628e8023d624fe9745139f54e185e8dc494612be534", func := "umpire/umpirelaw09.OpenSeen", spec := "openSeen", unfollowed := true, recurses := true, apart := false, narrowed := true }
def OpenSeenUptoSaid : Prop := openSeenUptoRow.holds Try.pinned (OpenSpec.upto openSeenSpec)

/-- 'umpirelaw09.OpenFull', WHERE WHAT IT READS IS OF BULK AT MOST 1048576: true; the input reads as it did. -/
def openFullUptoRow : OpenClaim := { program := "ytmliekdbhefpkaa", sum := "d154eb17e3922274df043628e8023d624fe9745139f54e185e8dc494612be534", func := "umpire/umpirelaw09.OpenFull", spec := "openFull", unfollowed := true, recurses := true, apart := false, narrowed := true }
def OpenFullUptoSaid : Prop := openFullUptoRow.holds Try.pinned (OpenSpec.upto openFullSpec)

/-- 'umpirelaw09.OpenSteps', WHERE WHAT IT READS IS OF BULK AT MOST 1048576: true; the input reads as it did. -/
def openStepsUptoRow : OpenClaim := { program := "ytmliekdbhefpkaa", sum := "d154eb17e3922274df043628e8023d624fe9745139f54e185e8dc494612be534", func := "umpire/umpirelaw09.OpenSteps", spec := "openSteps", unfollowed := true, recurses := true, apart := false, narrowed := true }
def OpenStepsUptoSaid : Prop := openStepsUptoRow.holds Try.pinned (OpenSpec.upto openStepsSpec)

/-- 'umpirelaw10.GateAlone', WHERE WHAT IT READS IS OF BULK AT MOST 1048576: true; the input reads as it did. -/
def gateAloneUptoRow : OpenClaim := { program := "ytmliekdbhefpkaa", sum := "d154eb17e3922274df043628e8023d624fe9745139f54e185e8dc494612be534", func := "umpire/umpirelaw10.GateAlone", spec := "gateAlone", unfollowed := true, recurses := true, apart := false, narrowed := true }
def GateAloneUptoSaid : Prop := gateAloneUptoRow.holds Try.pinned (OpenSpec.upto gateAloneSpec)

/-- 'umpirelaw09.OpenOnly', WHERE WHAT IT READS IS OF BULK AT MOST 1048576: true; the input reads as it did. -/
def openOnlyUptoRow : OpenClaim := { program := "ytmliekdbhefpkaa", sum := "d154eb17e3922274df043628e8023d624fe9745139f54e185e8dc494612be534", func := "umpire/umpirelaw09.OpenOnly", spec := "openOnly", unfollowed := true, recurses := true, apart := false, narrowed := true }
def OpenOnlyUptoSaid : Prop := openOnlyUptoRow.holds Try.pinned (OpenSpec.upto openOnlySpec)

end Rows
end Go.Proofs.Ytmliekdbhefpkaa
