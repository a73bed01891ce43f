/-
  No cell of these rows narrows 'for every input' (looked for: loops, veiled, ifaces, maps, wideKeys, modest, calm, conditions, laid).
  DERIVED. THE GIVEN ROWS OF THIS SEAT. 19 by the template 'for every input the law returns true; each argument reads behind the call as it read before'; 0 by the template 'total and deterministic' (their statements: YtcpkieahnkfpoaaTotals.lean).
  GIVEN WITH THE SEED: the statements are not yours to turn. If you find one false, say at which input.
  Laid BY PROGRAM, IN A SANDBOX (cutbox-rows.mjs): the forced cells as the released guide's own fill.sh prints them over the translation 520a528e98407e6f… (all of the seat's roots in one cut). By AI agents, Wed Nov 11 2026. No macro, syntax, notation, axiom, sorry.
-/
import Derived.Test.YtcpkieahnkfpoaaChecked
import GoSem.Claim
import GoSem.ClaimJoined
import GoSem.ClaimMapViews
import Derived.JoinedTies
import Derived.KernelRfl
namespace Go.Proofs.Ytcpkieahnkfpoaa
/- THE CELL 'sum', in the pinned program and in every row, IS THE sha256 OF THE DUMP (.gsa) THAT YtcpkieahnkfpoaaProg.lean LOADS. Nothing in Lean hashes anything: it is a label: what it is worth is what the hold of that sum in a sandbox is worth. -/
noncomputable def Try.pinned : Pinned := { name := "ytcpkieahnkfpoaa", sum := "520a528e98407e6ff2884fbc7e191f18f3f89098c273fb9b84506943d950af6d", checked := Try.checked }
namespace Rows
def none {H : Type} : Left H := { results := [], args := [] }

/-- 'umpirelaw06.StoreAll': WHATEVER THE INPUT: true; the input reads as it did. -/
def storeAllSpec : ChangeSpec := { name := "storeAll", fn := fun _ => fun
  | [d1, d2, d3] => { results := [.lit (.bool true)], args := [d1, d2, d3] }
  | _ => none }
def storeAllRow : OpenClaim := { program := "ytcpkieahnkfpoaa", sum := "520a528e98407e6ff2884fbc7e191f18f3f89098c273fb9b84506943d950af6d", func := "umpire/umpirelaw06.StoreAll", spec := "storeAll", unfollowed := true, recurses := true, apart := false }
def StoreAllSaid : Prop := storeAllRow.holds Try.pinned (OpenSpec.ofChange storeAllSpec)

/-- ITS FALSE NEIGHBOUR: 'it returns false'. Refute it at one input. -/
def storeAllWrong : ChangeSpec := { name := "storeAll", fn := fun _ => fun
  | [d1, d2, d3] => { results := [.lit (.bool false)], args := [d1, d2, d3] }
  | _ => none }
def StoreAllWrongFalsely : Prop := storeAllRow.holds Try.pinned (OpenSpec.ofChange storeAllWrong)

/-- 'umpirelaw06.StoreOwn': WHATEVER THE INPUT: true; the input reads as it did. -/
def storeOwnSpec : ChangeSpec := { name := "storeOwn", fn := fun _ => fun
  | [d1, d2] => { results := [.lit (.bool true)], args := [d1, d2] }
  | _ => none }
def storeOwnRow : OpenClaim := { program := "ytcpkieahnkfpoaa", sum := "520a528e98407e6ff2884fbc7e191f18f3f89098c273fb9b84506943d950af6d", func := "umpire/umpirelaw06.StoreOwn", spec := "storeOwn", unfollowed := true, recurses := true, apart := false }
def StoreOwnSaid : Prop := storeOwnRow.holds Try.pinned (OpenSpec.ofChange storeOwnSpec)

/-- ITS FALSE NEIGHBOUR: 'it returns false'. Refute it at one input. -/
def storeOwnWrong : ChangeSpec := { name := "storeOwn", fn := fun _ => fun
  | [d1, d2] => { results := [.lit (.bool false)], args := [d1, d2] }
  | _ => none }
def StoreOwnWrongFalsely : Prop := storeOwnRow.holds Try.pinned (OpenSpec.ofChange storeOwnWrong)

/-- 'umpirelaw06.StoreNew': WHATEVER THE INPUT: true; the input reads as it did. -/
def storeNewSpec : ChangeSpec := { name := "storeNew", fn := fun _ => fun
  | [d1, d2] => { results := [.lit (.bool true)], args := [d1, d2] }
  | _ => none }
def storeNewRow : OpenClaim := { program := "ytcpkieahnkfpoaa", sum := "520a528e98407e6ff2884fbc7e191f18f3f89098c273fb9b84506943d950af6d", func := "umpire/umpirelaw06.StoreNew", spec := "storeNew", unfollowed := true, recurses := true, apart := false }
def StoreNewSaid : Prop := storeNewRow.holds Try.pinned (OpenSpec.ofChange storeNewSpec)

/-- ITS FALSE NEIGHBOUR: 'it returns false'. Refute it at one input. -/
def storeNewWrong : ChangeSpec := { name := "storeNew", fn := fun _ => fun
  | [d1, d2] => { results := [.lit (.bool false)], args := [d1, d2] }
  | _ => none }
def StoreNewWrongFalsely : Prop := storeNewRow.holds Try.pinned (OpenSpec.ofChange storeNewWrong)

/-- 'umpirelaw06.StoreOthers': WHATEVER THE INPUT: true; the input reads as it did. -/
def storeOthersSpec : ChangeSpec := { name := "storeOthers", fn := fun _ => fun
  | [d1, d2, d3] => { results := [.lit (.bool true)], args := [d1, d2, d3] }
  | _ => none }
def storeOthersRow : OpenClaim := { program := "ytcpkieahnkfpoaa", sum := "520a528e98407e6ff2884fbc7e191f18f3f89098c273fb9b84506943d950af6d", func := "umpire/umpirelaw06.StoreOthers", spec := "storeOthers", unfollowed := true, recurses := true, apart := false }
def StoreOthersSaid : Prop := storeOthersRow.holds Try.pinned (OpenSpec.ofChange storeOthersSpec)

/-- ITS FALSE NEIGHBOUR: 'it returns false'. Refute it at one input. -/
def storeOthersWrong : ChangeSpec := { name := "storeOthers", fn := fun _ => fun
  | [d1, d2, d3] => { results := [.lit (.bool false)], args := [d1, d2, d3] }
  | _ => none }
def StoreOthersWrongFalsely : Prop := storeOthersRow.holds Try.pinned (OpenSpec.ofChange storeOthersWrong)

/-- 'umpirelaw06.StoreSwaps': WHATEVER THE INPUT: true; the input reads as it did. -/
def storeSwapsSpec : ChangeSpec := { name := "storeSwaps", fn := fun _ => fun
  | [d1, d2, d3] => { results := [.lit (.bool true)], args := [d1, d2, d3] }
  | _ => none }
def storeSwapsRow : OpenClaim := { program := "ytcpkieahnkfpoaa", sum := "520a528e98407e6ff2884fbc7e191f18f3f89098c273fb9b84506943d950af6d", func := "umpire/umpirelaw06.StoreSwaps", spec := "storeSwaps", unfollowed := true, recurses := true, apart := false }
def StoreSwapsSaid : Prop := storeSwapsRow.holds Try.pinned (OpenSpec.ofChange storeSwapsSpec)

/-- ITS FALSE NEIGHBOUR: 'it returns false'. Refute it at one input. -/
def storeSwapsWrong : ChangeSpec := { name := "storeSwaps", fn := fun _ => fun
  | [d1, d2, d3] => { results := [.lit (.bool false)], args := [d1, d2, d3] }
  | _ => none }
def StoreSwapsWrongFalsely : Prop := storeSwapsRow.holds Try.pinned (OpenSpec.ofChange storeSwapsWrong)

/-- 'umpirelaw06.StoreAdds': WHATEVER THE INPUT: true; the input reads as it did. -/
def storeAddsSpec : ChangeSpec := { name := "storeAdds", fn := fun _ => fun
  | [d1, d2, d3] => { results := [.lit (.bool true)], args := [d1, d2, d3] }
  | _ => none }
def storeAddsRow : OpenClaim := { program := "ytcpkieahnkfpoaa", sum := "520a528e98407e6ff2884fbc7e191f18f3f89098c273fb9b84506943d950af6d", func := "umpire/umpirelaw06.StoreAdds", spec := "storeAdds", unfollowed := true, recurses := true, apart := false }
def StoreAddsSaid : Prop := storeAddsRow.holds Try.pinned (OpenSpec.ofChange storeAddsSpec)

/-- ITS FALSE NEIGHBOUR: 'it returns false'. Refute it at one input. -/
def storeAddsWrong : ChangeSpec := { name := "storeAdds", fn := fun _ => fun
  | [d1, d2, d3] => { results := [.lit (.bool false)], args := [d1, d2, d3] }
  | _ => none }
def StoreAddsWrongFalsely : Prop := storeAddsRow.holds Try.pinned (OpenSpec.ofChange storeAddsWrong)

/-- 'umpirelaw07.PinHolds': WHATEVER THE INPUT: true; the input reads as it did. -/
def pinHoldsSpec : ChangeSpec := { name := "pinHolds", fn := fun _ => fun
  | [d1, d2, d3] => { results := [.lit (.bool true)], args := [d1, d2, d3] }
  | _ => none }
def pinHoldsRow : OpenClaim := { program := "ytcpkieahnkfpoaa", sum := "520a528e98407e6ff2884fbc7e191f18f3f89098c273fb9b84506943d950af6d", func := "umpire/umpirelaw07.PinHolds", spec := "pinHolds", unfollowed := true, recurses := true, apart := false }
def PinHoldsSaid : Prop := pinHoldsRow.holds Try.pinned (OpenSpec.ofChange pinHoldsSpec)

/-- ITS FALSE NEIGHBOUR: 'it returns false'. Refute it at one input. -/
def pinHoldsWrong : ChangeSpec := { name := "pinHolds", fn := fun _ => fun
  | [d1, d2, d3] => { results := [.lit (.bool false)], args := [d1, d2, d3] }
  | _ => none }
def PinHoldsWrongFalsely : Prop := pinHoldsRow.holds Try.pinned (OpenSpec.ofChange pinHoldsWrong)

/-- 'umpirelaw07.PinLate': WHATEVER THE INPUT: true; the input reads as it did. -/
def pinLateSpec : ChangeSpec := { name := "pinLate", fn := fun _ => fun
  | [d1, d2, d3] => { results := [.lit (.bool true)], args := [d1, d2, d3] }
  | _ => none }
def pinLateRow : OpenClaim := { program := "ytcpkieahnkfpoaa", sum := "520a528e98407e6ff2884fbc7e191f18f3f89098c273fb9b84506943d950af6d", func := "umpire/umpirelaw07.PinLate", spec := "pinLate", unfollowed := true, recurses := true, apart := false }
def PinLateSaid : Prop := pinLateRow.holds Try.pinned (OpenSpec.ofChange pinLateSpec)

/-- ITS FALSE NEIGHBOUR: 'it returns false'. Refute it at one input. -/
def pinLateWrong : ChangeSpec := { name := "pinLate", fn := fun _ => fun
  | [d1, d2, d3] => { results := [.lit (.bool false)], args := [d1, d2, d3] }
  | _ => none }
def PinLateWrongFalsely : Prop := pinLateRow.holds Try.pinned (OpenSpec.ofChange pinLateWrong)

/-- 'umpirelaw07.PinTwice': WHATEVER THE INPUT: true; the input reads as it did. -/
def pinTwiceSpec : ChangeSpec := { name := "pinTwice", fn := fun _ => fun
  | [d1, d2, d3] => { results := [.lit (.bool true)], args := [d1, d2, d3] }
  | _ => none }
def pinTwiceRow : OpenClaim := { program := "ytcpkieahnkfpoaa", sum := "520a528e98407e6ff2884fbc7e191f18f3f89098c273fb9b84506943d950af6d", func := "umpire/umpirelaw07.PinTwice", spec := "pinTwice", unfollowed := true, recurses := true, apart := false }
def PinTwiceSaid : Prop := pinTwiceRow.holds Try.pinned (OpenSpec.ofChange pinTwiceSpec)

/-- ITS FALSE NEIGHBOUR: 'it returns false'. Refute it at one input. -/
def pinTwiceWrong : ChangeSpec := { name := "pinTwice", fn := fun _ => fun
  | [d1, d2, d3] => { results := [.lit (.bool false)], args := [d1, d2, d3] }
  | _ => none }
def PinTwiceWrongFalsely : Prop := pinTwiceRow.holds Try.pinned (OpenSpec.ofChange pinTwiceWrong)

/-- 'umpirelaw07.PinSteps': WHATEVER THE INPUT: true; the input reads as it did. -/
def pinStepsSpec : ChangeSpec := { name := "pinSteps", fn := fun _ => fun
  | [d1, d2, d3] => { results := [.lit (.bool true)], args := [d1, d2, d3] }
  | _ => none }
def pinStepsRow : OpenClaim := { program := "ytcpkieahnkfpoaa", sum := "520a528e98407e6ff2884fbc7e191f18f3f89098c273fb9b84506943d950af6d", func := "umpire/umpirelaw07.PinSteps", spec := "pinSteps", unfollowed := true, recurses := true, apart := false }
def PinStepsSaid : Prop := pinStepsRow.holds Try.pinned (OpenSpec.ofChange pinStepsSpec)

/-- ITS FALSE NEIGHBOUR: 'it returns false'. Refute it at one input. -/
def pinStepsWrong : ChangeSpec := { name := "pinSteps", fn := fun _ => fun
  | [d1, d2, d3] => { results := [.lit (.bool false)], args := [d1, d2, d3] }
  | _ => none }
def PinStepsWrongFalsely : Prop := pinStepsRow.holds Try.pinned (OpenSpec.ofChange pinStepsWrong)

/-- 'umpirelaw07.PinGraces': WHATEVER THE INPUT: true; the input reads as it did. -/
def pinGracesSpec : ChangeSpec := { name := "pinGraces", fn := fun _ => fun
  | [d1, d2, d3] => { results := [.lit (.bool true)], args := [d1, d2, d3] }
  | _ => none }
def pinGracesRow : OpenClaim := { program := "ytcpkieahnkfpoaa", sum := "520a528e98407e6ff2884fbc7e191f18f3f89098c273fb9b84506943d950af6d", func := "umpire/umpirelaw07.PinGraces", spec := "pinGraces", unfollowed := true, recurses := true, apart := false }
def PinGracesSaid : Prop := pinGracesRow.holds Try.pinned (OpenSpec.ofChange pinGracesSpec)

/-- ITS FALSE NEIGHBOUR: 'it returns false'. Refute it at one input. -/
def pinGracesWrong : ChangeSpec := { name := "pinGraces", fn := fun _ => fun
  | [d1, d2, d3] => { results := [.lit (.bool false)], args := [d1, d2, d3] }
  | _ => none }
def PinGracesWrongFalsely : Prop := pinGracesRow.holds Try.pinned (OpenSpec.ofChange pinGracesWrong)

/-- 'umpirelaw08.HelpAlone': WHATEVER THE INPUT: true; the input reads as it did. -/
def helpAloneSpec : ChangeSpec := { name := "helpAlone", fn := fun _ => fun
  | [d1, d2, d3] => { results := [.lit (.bool true)], args := [d1, d2, d3] }
  | _ => none }
def helpAloneRow : OpenClaim := { program := "ytcpkieahnkfpoaa", sum := "520a528e98407e6ff2884fbc7e191f18f3f89098c273fb9b84506943d950af6d", func := "umpire/umpirelaw08.HelpAlone", spec := "helpAlone", unfollowed := true, recurses := true, apart := false }
def HelpAloneSaid : Prop := helpAloneRow.holds Try.pinned (OpenSpec.ofChange helpAloneSpec)

/-- ITS FALSE NEIGHBOUR: 'it returns false'. Refute it at one input. -/
def helpAloneWrong : ChangeSpec := { name := "helpAlone", fn := fun _ => fun
  | [d1, d2, d3] => { results := [.lit (.bool false)], args := [d1, d2, d3] }
  | _ => none }
def HelpAloneWrongFalsely : Prop := helpAloneRow.holds Try.pinned (OpenSpec.ofChange helpAloneWrong)

/-- 'umpirelaw08.HelpSides': WHATEVER THE INPUT: true; the input reads as it did. -/
def helpSidesSpec : ChangeSpec := { name := "helpSides", fn := fun _ => fun
  | [d1, d2, d3] => { results := [.lit (.bool true)], args := [d1, d2, d3] }
  | _ => none }
def helpSidesRow : OpenClaim := { program := "ytcpkieahnkfpoaa", sum := "520a528e98407e6ff2884fbc7e191f18f3f89098c273fb9b84506943d950af6d", func := "umpire/umpirelaw08.HelpSides", spec := "helpSides", unfollowed := true, recurses := true, apart := false }
def HelpSidesSaid : Prop := helpSidesRow.holds Try.pinned (OpenSpec.ofChange helpSidesSpec)

/-- ITS FALSE NEIGHBOUR: 'it returns false'. Refute it at one input. -/
def helpSidesWrong : ChangeSpec := { name := "helpSides", fn := fun _ => fun
  | [d1, d2, d3] => { results := [.lit (.bool false)], args := [d1, d2, d3] }
  | _ => none }
def HelpSidesWrongFalsely : Prop := helpSidesRow.holds Try.pinned (OpenSpec.ofChange helpSidesWrong)

/-- 'umpirelaw07.PinOnly': WHATEVER THE INPUT: true; the input reads as it did. -/
def pinOnlySpec : ChangeSpec := { name := "pinOnly", fn := fun _ => fun
  | [d1, d2, d3] => { results := [.lit (.bool true)], args := [d1, d2, d3] }
  | _ => none }
def pinOnlyRow : OpenClaim := { program := "ytcpkieahnkfpoaa", sum := "520a528e98407e6ff2884fbc7e191f18f3f89098c273fb9b84506943d950af6d", func := "umpire/umpirelaw07.PinOnly", spec := "pinOnly", unfollowed := true, recurses := true, apart := false }
def PinOnlySaid : Prop := pinOnlyRow.holds Try.pinned (OpenSpec.ofChange pinOnlySpec)

/-- ITS FALSE NEIGHBOUR: 'it returns false'. Refute it at one input. -/
def pinOnlyWrong : ChangeSpec := { name := "pinOnly", fn := fun _ => fun
  | [d1, d2, d3] => { results := [.lit (.bool false)], args := [d1, d2, d3] }
  | _ => none }
def PinOnlyWrongFalsely : Prop := pinOnlyRow.holds Try.pinned (OpenSpec.ofChange pinOnlyWrong)

/-- 'umpirelaw08.HelpNone': WHATEVER THE INPUT: true; the input reads as it did. -/
def helpNoneSpec : ChangeSpec := { name := "helpNone", fn := fun _ => fun
  | [d1, d2, d3] => { results := [.lit (.bool true)], args := [d1, d2, d3] }
  | _ => none }
def helpNoneRow : OpenClaim := { program := "ytcpkieahnkfpoaa", sum := "520a528e98407e6ff2884fbc7e191f18f3f89098c273fb9b84506943d950af6d", func := "umpire/umpirelaw08.HelpNone", spec := "helpNone", unfollowed := true, recurses := true, apart := false }
def HelpNoneSaid : Prop := helpNoneRow.holds Try.pinned (OpenSpec.ofChange helpNoneSpec)

/-- ITS FALSE NEIGHBOUR: 'it returns false'. Refute it at one input. -/
def helpNoneWrong : ChangeSpec := { name := "helpNone", fn := fun _ => fun
  | [d1, d2, d3] => { results := [.lit (.bool false)], args := [d1, d2, d3] }
  | _ => none }
def HelpNoneWrongFalsely : Prop := helpNoneRow.holds Try.pinned (OpenSpec.ofChange helpNoneWrong)

/-- 'umpirelaw08.HelpTwo': WHATEVER THE INPUT: true; the input reads as it did. -/
def helpTwoSpec : ChangeSpec := { name := "helpTwo", fn := fun _ => fun
  | [d1, d2, d3] => { results := [.lit (.bool true)], args := [d1, d2, d3] }
  | _ => none }
def helpTwoRow : OpenClaim := { program := "ytcpkieahnkfpoaa", sum := "520a528e98407e6ff2884fbc7e191f18f3f89098c273fb9b84506943d950af6d", func := "umpire/umpirelaw08.HelpTwo", spec := "helpTwo", unfollowed := true, recurses := true, apart := false }
def HelpTwoSaid : Prop := helpTwoRow.holds Try.pinned (OpenSpec.ofChange helpTwoSpec)

/-- ITS FALSE NEIGHBOUR: 'it returns false'. Refute it at one input. -/
def helpTwoWrong : ChangeSpec := { name := "helpTwo", fn := fun _ => fun
  | [d1, d2, d3] => { results := [.lit (.bool false)], args := [d1, d2, d3] }
  | _ => none }
def HelpTwoWrongFalsely : Prop := helpTwoRow.holds Try.pinned (OpenSpec.ofChange helpTwoWrong)

/-- 'umpirelaw08.HelpLate': WHATEVER THE INPUT: true; the input reads as it did. -/
def helpLateSpec : ChangeSpec := { name := "helpLate", fn := fun _ => fun
  | [d1, d2, d3] => { results := [.lit (.bool true)], args := [d1, d2, d3] }
  | _ => none }
def helpLateRow : OpenClaim := { program := "ytcpkieahnkfpoaa", sum := "520a528e98407e6ff2884fbc7e191f18f3f89098c273fb9b84506943d950af6d", func := "umpire/umpirelaw08.HelpLate", spec := "helpLate", unfollowed := true, recurses := true, apart := false }
def HelpLateSaid : Prop := helpLateRow.holds Try.pinned (OpenSpec.ofChange helpLateSpec)

/-- ITS FALSE NEIGHBOUR: 'it returns false'. Refute it at one input. -/
def helpLateWrong : ChangeSpec := { name := "helpLate", fn := fun _ => fun
  | [d1, d2, d3] => { results := [.lit (.bool false)], args := [d1, d2, d3] }
  | _ => none }
def HelpLateWrongFalsely : Prop := helpLateRow.holds Try.pinned (OpenSpec.ofChange helpLateWrong)

/-- 'umpirelaw08.HelpSteps': WHATEVER THE INPUT: true; the input reads as it did. -/
def helpStepsSpec : ChangeSpec := { name := "helpSteps", fn := fun _ => fun
  | [d1, d2, d3] => { results := [.lit (.bool true)], args := [d1, d2, d3] }
  | _ => none }
def helpStepsRow : OpenClaim := { program := "ytcpkieahnkfpoaa", sum := "520a528e98407e6ff2884fbc7e191f18f3f89098c273fb9b84506943d950af6d", func := "umpire/umpirelaw08.HelpSteps", spec := "helpSteps", unfollowed := true, recurses := true, apart := false }
def HelpStepsSaid : Prop := helpStepsRow.holds Try.pinned (OpenSpec.ofChange helpStepsSpec)

/-- ITS FALSE NEIGHBOUR: 'it returns false'. Refute it at one input. -/
def helpStepsWrong : ChangeSpec := { name := "helpSteps", fn := fun _ => fun
  | [d1, d2, d3] => { results := [.lit (.bool false)], args := [d1, d2, d3] }
  | _ => none }
def HelpStepsWrongFalsely : Prop := helpStepsRow.holds Try.pinned (OpenSpec.ofChange helpStepsWrong)

/-- 'umpirelaw08.HelpOnly': WHATEVER THE INPUT: true; the input reads as it did. -/
def helpOnlySpec : ChangeSpec := { name := "helpOnly", fn := fun _ => fun
  | [d1, d2, d3] => { results := [.lit (.bool true)], args := [d1, d2, d3] }
  | _ => none }
def helpOnlyRow : OpenClaim := { program := "ytcpkieahnkfpoaa", sum := "520a528e98407e6ff2884fbc7e191f18f3f89098c273fb9b84506943d950af6d", func := "umpire/umpirelaw08.HelpOnly", spec := "helpOnly", unfollowed := true, recurses := true, apart := false }
def HelpOnlySaid : Prop := helpOnlyRow.holds Try.pinned (OpenSpec.ofChange helpOnlySpec)

/-- ITS FALSE NEIGHBOUR: 'it returns false'. Refute it at one input. -/
def helpOnlyWrong : ChangeSpec := { name := "helpOnly", fn := fun _ => fun
  | [d1, d2, d3] => { results := [.lit (.bool false)], args := [d1, d2, d3] }
  | _ => none }
def HelpOnlyWrongFalsely : Prop := helpOnlyRow.holds Try.pinned (OpenSpec.ofChange helpOnlyWrong)

/- THE SECOND FORM. 'bulk': how many values and letters a reading holds, each counted each time it is reached (what is shared counts as often as it is met; a slice's spare places count too). A statement '..UptoSaid' is the law's where the arguments, and the package variables that the reading takes, are together of bulk at most 1048576: NARROWER than '..Said'. Prove '..Said' where nothing that the law and all that it calls make is longer than what came in: it says more and counts as full. Else prove '..UptoSaid'. A law counts once. -/
mutual
def uptoBulk {H : Type} : DataW H → Nat
  | .lit (.string bytes) => bytes.length + 1
  | .lit _ => 1
  | .nil => 1
  | .ptr d => uptoBulk d + 1
  | .slice elems spare => uptoBulkAll elems + uptoBulkAll spare + 1
  | .agg parts => uptoBulkAll parts + 1
  | .iface _ d => uptoBulk d + 1
  | .map entries => uptoBulkEntries entries + 1
  | .held _ => 1
def uptoBulkAll {H : Type} : List (DataW H) → Nat
  | [] => 0
  | d :: r => uptoBulk d + uptoBulkAll r
def uptoBulkEntries {H : Type} : List (Lit × DataW H) → Nat
  | [] => 0
  | x :: r => uptoBulkEntry x + uptoBulkEntries r
def uptoBulkEntry {H : Type} : Lit × DataW H → Nat
  | (.string bytes, d) => bytes.length + uptoBulk d + 1
  | (_, d) => uptoBulk d + 1
 end
def uptoSmall : (H : Type) → List (DataW H) → Bool := fun _ ds => decide (uptoBulkAll ds ≤ 1048576)
def OpenSpec.upto (s : _root_.Go.ChangeSpec) : _root_.Go.OpenSpec := { _root_.Go.OpenSpec.ofChange s with cond := some uptoSmall }

/-- 'umpirelaw06.StoreAll', WHERE WHAT IT READS IS OF BULK AT MOST 1048576: true; the input reads as it did. -/
def storeAllUptoRow : OpenClaim := { program := "ytcpkieahnkfpoaa", sum := "520a528e98407e6ff2884fbc7e191f18f3f89098c273fb9b84506943d950af6d", func := "umpire/umpirelaw06.StoreAll", spec := "storeAll", unfollowed := true, recurses := true, apart := false, narrowed := true }
def StoreAllUptoSaid : Prop := storeAllUptoRow.holds Try.pinned (OpenSpec.upto storeAllSpec)

/-- 'umpirelaw06.StoreOwn', WHERE WHAT IT READS IS OF BULK AT MOST 1048576: true; the input reads as it did. -/
def storeOwnUptoRow : OpenClaim := { program := "ytcpkieahnkfpoaa", sum := "520a528e98407e6ff2884fbc7e191f18f3f89098c273fb9b84506943d950af6d", func := "umpire/umpirelaw06.StoreOwn", spec := "storeOwn", unfollowed := true, recurses := true, apart := false, narrowed := true }
def StoreOwnUptoSaid : Prop := storeOwnUptoRow.holds Try.pinned (OpenSpec.upto storeOwnSpec)

/-- 'umpirelaw06.StoreNew', WHERE WHAT IT READS IS OF BULK AT MOST 1048576: true; the input reads as it did. -/
def storeNewUptoRow : OpenClaim := { program := "ytcpkieahnkfpoaa", sum := "520a528e98407e6ff2884fbc7e191f18f3f89098c273fb9b84506943d950af6d", func := "umpire/umpirelaw06.StoreNew", spec := "storeNew", unfollowed := true, recurses := true, apart := false, narrowed := true }
def StoreNewUptoSaid : Prop := storeNewUptoRow.holds Try.pinned (OpenSpec.upto storeNewSpec)

/-- 'umpirelaw06.StoreOthers', WHERE WHAT IT READS IS OF BULK AT MOST 1048576: true; the input reads as it did. -/
def storeOthersUptoRow : OpenClaim := { program := "ytcpkieahnkfpoaa", sum := "520a528e98407e6ff2884fbc7e191f18f3f89098c273fb9b84506943d950af6d", func := "umpire/umpirelaw06.StoreOthers", spec := "storeOthers", unfollowed := true, recurses := true, apart := false, narrowed := true }
def StoreOthersUptoSaid : Prop := storeOthersUptoRow.holds Try.pinned (OpenSpec.upto storeOthersSpec)

/-- 'umpirelaw06.StoreSwaps', WHERE WHAT IT READS IS OF BULK AT MOST 1048576: true; the input reads as it did. -/
def storeSwapsUptoRow : OpenClaim := { program := "ytcpkieahnkfpoaa", sum := "520a528e98407e6ff2884fbc7e191f18f3f89098c273fb9b84506943d950af6d", func := "umpire/umpirelaw06.StoreSwaps", spec := "storeSwaps", unfollowed := true, recurses := true, apart := false, narrowed := true }
def StoreSwapsUptoSaid : Prop := storeSwapsUptoRow.holds Try.pinned (OpenSpec.upto storeSwapsSpec)

/-- 'umpirelaw06.StoreAdds', WHERE WHAT IT READS IS OF BULK AT MOST 1048576: true; the input reads as it did. -/
def storeAddsUptoRow : OpenClaim := { program := "ytcpkieahnkfpoaa", sum := "520a528e98407e6ff2884fbc7e191f18f3f89098c273fb9b84506943d950af6d", func := "umpire/umpirelaw06.StoreAdds", spec := "storeAdds", unfollowed := true, recurses := true, apart := false, narrowed := true }
def StoreAddsUptoSaid : Prop := storeAddsUptoRow.holds Try.pinned (OpenSpec.upto storeAddsSpec)

/-- 'umpirelaw07.PinHolds', WHERE WHAT IT READS IS OF BULK AT MOST 1048576: true; the input reads as it did. -/
def pinHoldsUptoRow : OpenClaim := { program := "ytcpkieahnkfpoaa", sum := "520a528e98407e6ff2884fbc7e191f18f3f89098c273fb9b84506943d950af6d", func := "umpire/umpirelaw07.PinHolds", spec := "pinHolds", unfollowed := true, recurses := true, apart := false, narrowed := true }
def PinHoldsUptoSaid : Prop := pinHoldsUptoRow.holds Try.pinned (OpenSpec.upto pinHoldsSpec)

/-- 'umpirelaw07.PinLate', WHERE WHAT IT READS IS OF BULK AT MOST 1048576: true; the input reads as it did. -/
def pinLateUptoRow : OpenClaim := { program := "ytcpkieahnkfpoaa", sum := "520a528e98407e6ff2884fbc7e191f18f3f89098c273fb9b84506943d950af6d", func := "umpire/umpirelaw07.PinLate", spec := "pinLate", unfollowed := true, recurses := true, apart := false, narrowed := true }
def PinLateUptoSaid : Prop := pinLateUptoRow.holds Try.pinned (OpenSpec.upto pinLateSpec)

/-- 'umpirelaw07.PinTwice', WHERE WHAT IT READS IS OF BULK AT MOST 1048576: true; the input reads as it did. -/
def pinTwiceUptoRow : OpenClaim := { program := "ytcpkieahnkfpoaa", sum := "520a528e98407e6ff2884fbc7e191f18f3f89098c273fb9b84506943d950af6d", func := "umpire/umpirelaw07.PinTwice", spec := "pinTwice", unfollowed := true, recurses := true, apart := false, narrowed := true }
def PinTwiceUptoSaid : Prop := pinTwiceUptoRow.holds Try.pinned (OpenSpec.upto pinTwiceSpec)

/-- 'umpirelaw07.PinSteps', WHERE WHAT IT READS IS OF BULK AT MOST 1048576: true; the input reads as it did. -/
def pinStepsUptoRow : OpenClaim := { program := "ytcpkieahnkfpoaa", sum := "520a528e98407e6ff2884fbc7e191f18f3f89098c273fb9b84506943d950af6d", func := "umpire/umpirelaw07.PinSteps", spec := "pinSteps", unfollowed := true, recurses := true, apart := false, narrowed := true }
def PinStepsUptoSaid : Prop := pinStepsUptoRow.holds Try.pinned (OpenSpec.upto pinStepsSpec)

/-- 'umpirelaw07.PinGraces', WHERE WHAT IT READS IS OF BULK AT MOST 1048576: true; the input reads as it did. -/
def pinGracesUptoRow : OpenClaim := { program := "ytcpkieahnkfpoaa", sum := "520a528e98407e6ff2884fbc7e191f18f3f89098c273fb9b84506943d950af6d", func := "umpire/umpirelaw07.PinGraces", spec := "pinGraces", unfollowed := true, recurses := true, apart := false, narrowed := true }
def PinGracesUptoSaid : Prop := pinGracesUptoRow.holds Try.pinned (OpenSpec.upto pinGracesSpec)

/-- 'umpirelaw08.HelpAlone', WHERE WHAT IT READS IS OF BULK AT MOST 1048576: true; the input reads as it did. -/
def helpAloneUptoRow : OpenClaim := { program := "ytcpkieahnkfpoaa", sum := "520a528e98407e6ff2884fbc7e191f18f3f89098c273fb9b84506943d950af6d", func := "umpire/umpirelaw08.HelpAlone", spec := "helpAlone", unfollowed := true, recurses := true, apart := false, narrowed := true }
def HelpAloneUptoSaid : Prop := helpAloneUptoRow.holds Try.pinned (OpenSpec.upto helpAloneSpec)

/-- 'umpirelaw08.HelpSides', WHERE WHAT IT READS IS OF BULK AT MOST 1048576: true; the input reads as it did. -/
def helpSidesUptoRow : OpenClaim := { program := "ytcpkieahnkfpoaa", sum := "520a528e98407e6ff2884fbc7e191f18f3f89098c273fb9b84506943d950af6d", func := "umpire/umpirelaw08.HelpSides", spec := "helpSides", unfollowed := true, recurses := true, apart := false, narrowed := true }
def HelpSidesUptoSaid : Prop := helpSidesUptoRow.holds Try.pinned (OpenSpec.upto helpSidesSpec)

/-- 'umpirelaw07.PinOnly', WHERE WHAT IT READS IS OF BULK AT MOST 1048576: true; the input reads as it did. -/
def pinOnlyUptoRow : OpenClaim := { program := "ytcpkieahnkfpoaa", sum := "520a528e98407e6ff2884fbc7e191f18f3f89098c273fb9b84506943d950af6d", func := "umpire/umpirelaw07.PinOnly", spec := "pinOnly", unfollowed := true, recurses := true, apart := false, narrowed := true }
def PinOnlyUptoSaid : Prop := pinOnlyUptoRow.holds Try.pinned (OpenSpec.upto pinOnlySpec)

/-- 'umpirelaw08.HelpNone', WHERE WHAT IT READS IS OF BULK AT MOST 1048576: true; the input reads as it did. -/
def helpNoneUptoRow : OpenClaim := { program := "ytcpkieahnkfpoaa", sum := "520a528e98407e6ff2884fbc7e191f18f3f89098c273fb9b84506943d950af6d", func := "umpire/umpirelaw08.HelpNone", spec := "helpNone", unfollowed := true, recurses := true, apart := false, narrowed := true }
def HelpNoneUptoSaid : Prop := helpNoneUptoRow.holds Try.pinned (OpenSpec.upto helpNoneSpec)

/-- 'umpirelaw08.HelpTwo', WHERE WHAT IT READS IS OF BULK AT MOST 1048576: true; the input reads as it did. -/
def helpTwoUptoRow : OpenClaim := { program := "ytcpkieahnkfpoaa", sum := "520a528e98407e6ff2884fbc7e191f18f3f89098c273fb9b84506943d950af6d", func := "umpire/umpirelaw08.HelpTwo", spec := "helpTwo", unfollowed := true, recurses := true, apart := false, narrowed := true }
def HelpTwoUptoSaid : Prop := helpTwoUptoRow.holds Try.pinned (OpenSpec.upto helpTwoSpec)

/-- 'umpirelaw08.HelpLate', WHERE WHAT IT READS IS OF BULK AT MOST 1048576: true; the input reads as it did. -/
def helpLateUptoRow : OpenClaim := { program := "ytcpkieahnkfpoaa", sum := "520a528e98407e6ff2884fbc7e191f18f3f89098c273fb9b84506943d950af6d", func := "umpire/umpirelaw08.HelpLate", spec := "helpLate", unfollowed := true, recurses := true, apart := false, narrowed := true }
def HelpLateUptoSaid : Prop := helpLateUptoRow.holds Try.pinned (OpenSpec.upto helpLateSpec)

/-- 'umpirelaw08.HelpSteps', WHERE WHAT IT READS IS OF BULK AT MOST 1048576: true; the input reads as it did. -/
def helpStepsUptoRow : OpenClaim := { program := "ytcpkieahnkfpoaa", sum := "520a528e98407e6ff2884fbc7e191f18f3f89098c273fb9b84506943d950af6d", func := "umpire/umpirelaw08.HelpSteps", spec := "helpSteps", unfollowed := true, recurses := true, apart := false, narrowed := true }
def HelpStepsUptoSaid : Prop := helpStepsUptoRow.holds Try.pinned (OpenSpec.upto helpStepsSpec)

/-- 'umpirelaw08.HelpOnly', WHERE WHAT IT READS IS OF BULK AT MOST 1048576: true; the input reads as it did. -/
def helpOnlyUptoRow : OpenClaim := { program := "ytcpkieahnkfpoaa", sum := "520a528e98407e6ff2884fbc7e191f18f3f89098c273fb9b84506943d950af6d", func := "umpire/umpirelaw08.HelpOnly", spec := "helpOnly", unfollowed := true, recurses := true, apart := false, narrowed := true }
def HelpOnlyUptoSaid : Prop := helpOnlyUptoRow.holds Try.pinned (OpenSpec.upto helpOnlySpec)

end Rows
end Go.Proofs.Ytcpkieahnkfpoaa
