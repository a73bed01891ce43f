/-
  No cell of these rows narrows 'for every input' (looked for: loops, veiled, ifaces, maps, wideKeys, modest, calm, conditions, laid).
  DERIVED. THE GIVEN ROWS OF THIS SEAT. 7 by the template 'for every input the law returns true; each argument reads behind the call as it read before'; 0 by the template 'total and deterministic' (their statements: YtocfhiafegkfkaaGreatTotals.lean).
  GIVEN WITH THE SEED: the statements are not yours to turn. If you find one false, say at which input.
  Laid BY PROGRAM, IN A SANDBOX (cutbox-rows.mjs): the forced cells as the released guide's own fill.sh prints them over the translation 9344cbf858d0e560… (all of the seat's roots in one cut). By AI agents, Wed Nov 11 2026. No macro, syntax, notation, axiom, sorry.
-/
import Derived.Test.YtocfhiafegkfkaaGreatChecked
import GoSem.Claim
import GoSem.ClaimJoined
import GoSem.ClaimMapViews
import Derived.JoinedTies
import Derived.KernelRfl
namespace Go.Proofs.YtocfhiafegkfkaaGreat
/- THE CELL 'sum', in the pinned program and in every row, IS THE sha256 OF THE DUMP (.gsa) THAT YtocfhiafegkfkaaGreatProg.lean LOADS. Nothing in Lean hashes anything: it is a label: what it is worth is what the hold of that sum in a sandbox is worth. -/
noncomputable def Tryz.pinned : Pinned := { name := "ytocfhiafegkfkaagreat", sum := "9344cbf858d0e560dbd95e1ef351a67f7069427e274056f40772505efbbacb8d", checked := Tryz.checked }
namespace Rows
def none {H : Type} : Left H := { results := [], args := [] }

/-- 'umpirelaw13.WriteRivals': WHATEVER THE INPUT: true; the input reads as it did. -/
def writeRivalsSpec : ChangeSpec := { name := "writeRivals", fn := fun _ => fun
  | [d1, d2] => { results := [.lit (.bool true)], args := [d1, d2] }
  | _ => none }
def writeRivalsRow : OpenClaim := { program := "ytocfhiafegkfkaagreat", sum := "9344cbf858d0e560dbd95e1ef351a67f7069427e274056f40772505efbbacb8d", func := "umpire/umpirelaw13.WriteRivals", spec := "writeRivals", unfollowed := true, recurses := true, apart := false }
def WriteRivalsSaid : Prop := writeRivalsRow.holds Tryz.pinned (OpenSpec.ofChange writeRivalsSpec)

/-- ITS FALSE NEIGHBOUR: 'it returns false'. Refute it at one input. -/
def writeRivalsWrong : ChangeSpec := { name := "writeRivals", fn := fun _ => fun
  | [d1, d2] => { results := [.lit (.bool false)], args := [d1, d2] }
  | _ => none }
def WriteRivalsWrongFalsely : Prop := writeRivalsRow.holds Tryz.pinned (OpenSpec.ofChange writeRivalsWrong)

/-- 'umpirelaw13.WriteAlone': WHATEVER THE INPUT: true; the input reads as it did. -/
def writeAloneSpec : ChangeSpec := { name := "writeAlone", fn := fun _ => fun
  | [d1, d2, d3] => { results := [.lit (.bool true)], args := [d1, d2, d3] }
  | _ => none }
def writeAloneRow : OpenClaim := { program := "ytocfhiafegkfkaagreat", sum := "9344cbf858d0e560dbd95e1ef351a67f7069427e274056f40772505efbbacb8d", func := "umpire/umpirelaw13.WriteAlone", spec := "writeAlone", unfollowed := true, recurses := true, apart := false }
def WriteAloneSaid : Prop := writeAloneRow.holds Tryz.pinned (OpenSpec.ofChange writeAloneSpec)

/-- ITS FALSE NEIGHBOUR: 'it returns false'. Refute it at one input. -/
def writeAloneWrong : ChangeSpec := { name := "writeAlone", fn := fun _ => fun
  | [d1, d2, d3] => { results := [.lit (.bool false)], args := [d1, d2, d3] }
  | _ => none }
def WriteAloneWrongFalsely : Prop := writeAloneRow.holds Tryz.pinned (OpenSpec.ofChange writeAloneWrong)

/-- 'umpirelaw13.WriteTwice': WHATEVER THE INPUT: true; the input reads as it did. -/
def writeTwiceSpec : ChangeSpec := { name := "writeTwice", fn := fun _ => fun
  | [d1, d2, d3] => { results := [.lit (.bool true)], args := [d1, d2, d3] }
  | _ => none }
def writeTwiceRow : OpenClaim := { program := "ytocfhiafegkfkaagreat", sum := "9344cbf858d0e560dbd95e1ef351a67f7069427e274056f40772505efbbacb8d", func := "umpire/umpirelaw13.WriteTwice", spec := "writeTwice", unfollowed := true, recurses := true, apart := false }
def WriteTwiceSaid : Prop := writeTwiceRow.holds Tryz.pinned (OpenSpec.ofChange writeTwiceSpec)

/-- ITS FALSE NEIGHBOUR: 'it returns false'. Refute it at one input. -/
def writeTwiceWrong : ChangeSpec := { name := "writeTwice", fn := fun _ => fun
  | [d1, d2, d3] => { results := [.lit (.bool false)], args := [d1, d2, d3] }
  | _ => none }
def WriteTwiceWrongFalsely : Prop := writeTwiceRow.holds Tryz.pinned (OpenSpec.ofChange writeTwiceWrong)

/-- 'umpirelaw13.WriteSteps': WHATEVER THE INPUT: true; the input reads as it did. -/
def writeStepsSpec : ChangeSpec := { name := "writeSteps", fn := fun _ => fun
  | [d1, d2, d3] => { results := [.lit (.bool true)], args := [d1, d2, d3] }
  | _ => none }
def writeStepsRow : OpenClaim := { program := "ytocfhiafegkfkaagreat", sum := "9344cbf858d0e560dbd95e1ef351a67f7069427e274056f40772505efbbacb8d", func := "umpire/umpirelaw13.WriteSteps", spec := "writeSteps", unfollowed := true, recurses := true, apart := false }
def WriteStepsSaid : Prop := writeStepsRow.holds Tryz.pinned (OpenSpec.ofChange writeStepsSpec)

/-- ITS FALSE NEIGHBOUR: 'it returns false'. Refute it at one input. -/
def writeStepsWrong : ChangeSpec := { name := "writeSteps", fn := fun _ => fun
  | [d1, d2, d3] => { results := [.lit (.bool false)], args := [d1, d2, d3] }
  | _ => none }
def WriteStepsWrongFalsely : Prop := writeStepsRow.holds Tryz.pinned (OpenSpec.ofChange writeStepsWrong)

/-- 'umpirelaw13.WriteOnly': WHATEVER THE INPUT: true; the input reads as it did. -/
def writeOnlySpec : ChangeSpec := { name := "writeOnly", fn := fun _ => fun
  | [d1, d2, d3] => { results := [.lit (.bool true)], args := [d1, d2, d3] }
  | _ => none }
def writeOnlyRow : OpenClaim := { program := "ytocfhiafegkfkaagreat", sum := "9344cbf858d0e560dbd95e1ef351a67f7069427e274056f40772505efbbacb8d", func := "umpire/umpirelaw13.WriteOnly", spec := "writeOnly", unfollowed := true, recurses := true, apart := false }
def WriteOnlySaid : Prop := writeOnlyRow.holds Tryz.pinned (OpenSpec.ofChange writeOnlySpec)

/-- ITS FALSE NEIGHBOUR: 'it returns false'. Refute it at one input. -/
def writeOnlyWrong : ChangeSpec := { name := "writeOnly", fn := fun _ => fun
  | [d1, d2, d3] => { results := [.lit (.bool false)], args := [d1, d2, d3] }
  | _ => none }
def WriteOnlyWrongFalsely : Prop := writeOnlyRow.holds Tryz.pinned (OpenSpec.ofChange writeOnlyWrong)

/-- 'umpirelaw13.WriteReads': WHATEVER THE INPUT: true; the input reads as it did. -/
def writeReadsSpec : ChangeSpec := { name := "writeReads", fn := fun _ => fun
  | [d1, d2] => { results := [.lit (.bool true)], args := [d1, d2] }
  | _ => none }
def writeReadsRow : OpenClaim := { program := "ytocfhiafegkfkaagreat", sum := "9344cbf858d0e560dbd95e1ef351a67f7069427e274056f40772505efbbacb8d", func := "umpire/umpirelaw13.WriteReads", spec := "writeReads", unfollowed := true, recurses := true, apart := false }
def WriteReadsSaid : Prop := writeReadsRow.holds Tryz.pinned (OpenSpec.ofChange writeReadsSpec)

/-- ITS FALSE NEIGHBOUR: 'it returns false'. Refute it at one input. -/
def writeReadsWrong : ChangeSpec := { name := "writeReads", fn := fun _ => fun
  | [d1, d2] => { results := [.lit (.bool false)], args := [d1, d2] }
  | _ => none }
def WriteReadsWrongFalsely : Prop := writeReadsRow.holds Tryz.pinned (OpenSpec.ofChange writeReadsWrong)

/-- 'umpirelaw13.WritePivot': WHATEVER THE INPUT: true; the input reads as it did. -/
def writePivotSpec : ChangeSpec := { name := "writePivot", fn := fun _ => fun
  | [d1, d2] => { results := [.lit (.bool true)], args := [d1, d2] }
  | _ => none }
def writePivotRow : OpenClaim := { program := "ytocfhiafegkfkaagreat", sum := "9344cbf858d0e560dbd95e1ef351a67f7069427e274056f40772505efbbacb8d", func := "umpire/umpirelaw13.WritePivot", spec := "writePivot", unfollowed := true, recurses := true, apart := false }
def WritePivotSaid : Prop := writePivotRow.holds Tryz.pinned (OpenSpec.ofChange writePivotSpec)

/-- ITS FALSE NEIGHBOUR: 'it returns false'. Refute it at one input. -/
def writePivotWrong : ChangeSpec := { name := "writePivot", fn := fun _ => fun
  | [d1, d2] => { results := [.lit (.bool false)], args := [d1, d2] }
  | _ => none }
def WritePivotWrongFalsely : Prop := writePivotRow.holds Tryz.pinned (OpenSpec.ofChange writePivotWrong)

/- THE SECOND FORM. 'bulk': how many values and letters a reading holds, each counted each time it is reached (what is shared counts as often as it is met; a slice's spare places count too). A statement '..UptoSaid' is the law's where the arguments, and the package variables that the reading takes, are together of bulk at most 1048576: NARROWER than '..Said'. Prove '..Said' where nothing that the law and all that it calls make is longer than what came in: it says more and counts as full. Else prove '..UptoSaid'. A law counts once. -/
mutual
def uptoBulk {H : Type} : DataW H → Nat
  | .lit (.string bytes) => bytes.length + 1
  | .lit _ => 1
  | .nil => 1
  | .ptr d => uptoBulk d + 1
  | .slice elems spare => uptoBulkAll elems + uptoBulkAll spare + 1
  | .agg parts => uptoBulkAll parts + 1
  | .iface _ d => uptoBulk d + 1
  | .map entries => uptoBulkEntries entries + 1
  | .held _ => 1
def uptoBulkAll {H : Type} : List (DataW H) → Nat
  | [] => 0
  | d :: r => uptoBulk d + uptoBulkAll r
def uptoBulkEntries {H : Type} : List (Lit × DataW H) → Nat
  | [] => 0
  | x :: r => uptoBulkEntry x + uptoBulkEntries r
def uptoBulkEntry {H : Type} : Lit × DataW H → Nat
  | (.string bytes, d) => bytes.length + uptoBulk d + 1
  | (_, d) => uptoBulk d + 1
 end
def uptoSmall : (H : Type) → List (DataW H) → Bool := fun _ ds => decide (uptoBulkAll ds ≤ 1048576)
def OpenSpec.upto (s : _root_.Go.ChangeSpec) : _root_.Go.OpenSpec := { _root_.Go.OpenSpec.ofChange s with cond := some uptoSmall }

/-- 'umpirelaw13.WriteRivals', WHERE WHAT IT READS IS OF BULK AT MOST 1048576: true; the input reads as it did. -/
def writeRivalsUptoRow : OpenClaim := { program := "ytocfhiafegkfkaagreat", sum := "9344cbf858d0e560dbd95e1ef351a67f7069427e274056f40772505efbbacb8d", func := "umpire/umpirelaw13.WriteRivals", spec := "writeRivals", unfollowed := true, recurses := true, apart := false, narrowed := true }
def WriteRivalsUptoSaid : Prop := writeRivalsUptoRow.holds Tryz.pinned (OpenSpec.upto writeRivalsSpec)

/-- 'umpirelaw13.WriteAlone', WHERE WHAT IT READS IS OF BULK AT MOST 1048576: true; the input reads as it did. -/
def writeAloneUptoRow : OpenClaim := { program := "ytocfhiafegkfkaagreat", sum := "9344cbf858d0e560dbd95e1ef351a67f7069427e274056f40772505efbbacb8d", func := "umpire/umpirelaw13.WriteAlone", spec := "writeAlone", unfollowed := true, recurses := true, apart := false, narrowed := true }
def WriteAloneUptoSaid : Prop := writeAloneUptoRow.holds Tryz.pinned (OpenSpec.upto writeAloneSpec)

/-- 'umpirelaw13.WriteTwice', WHERE WHAT IT READS IS OF BULK AT MOST 1048576: true; the input reads as it did. -/
def writeTwiceUptoRow : OpenClaim := { program := "ytocfhiafegkfkaagreat", sum := "9344cbf858d0e560dbd95e1ef351a67f7069427e274056f40772505efbbacb8d", func := "umpire/umpirelaw13.WriteTwice", spec := "writeTwice", unfollowed := true, recurses := true, apart := false, narrowed := true }
def WriteTwiceUptoSaid : Prop := writeTwiceUptoRow.holds Tryz.pinned (OpenSpec.upto writeTwiceSpec)

/-- 'umpirelaw13.WriteSteps', WHERE WHAT IT READS IS OF BULK AT MOST 1048576: true; the input reads as it did. -/
def writeStepsUptoRow : OpenClaim := { program := "ytocfhiafegkfkaagreat", sum := "9344cbf858d0e560dbd95e1ef351a67f7069427e274056f40772505efbbacb8d", func := "umpire/umpirelaw13.WriteSteps", spec := "writeSteps", unfollowed := true, recurses := true, apart := false, narrowed := true }
def WriteStepsUptoSaid : Prop := writeStepsUptoRow.holds Tryz.pinned (OpenSpec.upto writeStepsSpec)

/-- 'umpirelaw13.WriteOnly', WHERE WHAT IT READS IS OF BULK AT MOST 1048576: true; the input reads as it did. -/
def writeOnlyUptoRow : OpenClaim := { program := "ytocfhiafegkfkaagreat", sum := "9344cbf858d0e560dbd95e1ef351a67f7069427e274056f40772505efbbacb8d", func := "umpire/umpirelaw13.WriteOnly", spec := "writeOnly", unfollowed := true, recurses := true, apart := false, narrowed := true }
def WriteOnlyUptoSaid : Prop := writeOnlyUptoRow.holds Tryz.pinned (OpenSpec.upto writeOnlySpec)

/-- 'umpirelaw13.WriteReads', WHERE WHAT IT READS IS OF BULK AT MOST 1048576: true; the input reads as it did. -/
def writeReadsUptoRow : OpenClaim := { program := "ytocfhiafegkfkaagreat", sum := "9344cbf858d0e560dbd95e1ef351a67f7069427e274056f40772505efbbacb8d", func := "umpire/umpirelaw13.WriteReads", spec := "writeReads", unfollowed := true, recurses := true, apart := false, narrowed := true }
def WriteReadsUptoSaid : Prop := writeReadsUptoRow.holds Tryz.pinned (OpenSpec.upto writeReadsSpec)

/-- 'umpirelaw13.WritePivot', WHERE WHAT IT READS IS OF BULK AT MOST 1048576: true; the input reads as it did. -/
def writePivotUptoRow : OpenClaim := { program := "ytocfhiafegkfkaagreat", sum := "9344cbf858d0e560dbd95e1ef351a67f7069427e274056f40772505efbbacb8d", func := "umpire/umpirelaw13.WritePivot", spec := "writePivot", unfollowed := true, recurses := true, apart := false, narrowed := true }
def WritePivotUptoSaid : Prop := writePivotUptoRow.holds Tryz.pinned (OpenSpec.upto writePivotSpec)

end Rows
end Go.Proofs.YtocfhiafegkfkaaGreat
