/-
  No cell of these rows narrows 'for every input' (looked for: loops, veiled, ifaces, maps, wideKeys, modest, calm, conditions, laid).
  DERIVED. THE GIVEN ROWS OF THIS SEAT. 7 by the template 'for every input the law returns true; each argument reads behind the call as it read before'; 0 by the template 'total and deterministic' (their statements: YtjkohcdgjlaobaaTotals.lean).
  GIVEN WITH THE SEED: the statements are not yours to turn. If you find one false, say at which input.
  Laid BY PROGRAM, IN A SANDBOX (cutbox-rows.mjs): the forced cells as the released guide's own fill.sh prints them over the translation de2591f243d729cc… (all of the seat's roots in one cut). By AI agents, Wed Nov 11 2026. No macro, syntax, notation, axiom, sorry.
-/
import Derived.Test.YtjkohcdgjlaobaaChecked
import GoSem.Claim
import GoSem.ClaimJoined
import GoSem.ClaimMapViews
import Derived.JoinedTies
import Derived.KernelRfl
namespace Go.Proofs.Ytjkohcdgjlaobaa
/- THE CELL 'sum', in the pinned program and in every row, IS THE sha256 OF THE DUMP (.gsa) THAT YtjkohcdgjlaobaaProg.lean LOADS. Nothing in Lean hashes anything: it is a label: what it is worth is what the hold of that sum in a sandbox is worth. -/
noncomputable def Try.pinned : Pinned := { name := "ytjkohcdgjlaobaa", sum := "de2591f243d729cc01cc7745a528fd97f3468b48f4fcb1d4145bc6fd4a130727", checked := Try.checked }
namespace Rows
def none {H : Type} : Left H := { results := [], args := [] }

/-- 'umpirelaw09.OpenAlone': WHATEVER THE INPUT: true; the input reads as it did. -/
def openAloneSpec : ChangeSpec := { name := "openAlone", fn := fun _ => fun
  | [d1, d2] => { results := [.lit (.bool true)], args := [d1, d2] }
  | _ => none }
def openAloneRow : OpenClaim := { program := "ytjkohcdgjlaobaa", sum := "de2591f243d729cc01cc7745a528fd97f3468b48f4fcb1d4145bc6fd4a130727", func := "umpire/umpirelaw09.OpenAlone", spec := "openAlone", unfollowed := true, recurses := true, apart := false }
def OpenAloneSaid : Prop := openAloneRow.holds Try.pinned (OpenSpec.ofChange openAloneSpec)

/-- ITS FALSE NEIGHBOUR: 'it returns false'. Refute it at one input. -/
def openAloneWrong : ChangeSpec := { name := "openAlone", fn := fun _ => fun
  | [d1, d2] => { results := [.lit (.bool false)], args := [d1, d2] }
  | _ => none }
def OpenAloneWrongFalsely : Prop := openAloneRow.holds Try.pinned (OpenSpec.ofChange openAloneWrong)

/-- 'umpirelaw09.OpenTwo': WHATEVER THE INPUT: true; the input reads as it did. -/
def openTwoSpec : ChangeSpec := { name := "openTwo", fn := fun _ => fun
  | [d1, d2] => { results := [.lit (.bool true)], args := [d1, d2] }
  | _ => none }
def openTwoRow : OpenClaim := { program := "ytjkohcdgjlaobaa", sum := "de2591f243d729cc01cc7745a528fd97f3468b48f4fcb1d4145bc6fd4a130727", func := "umpire/umpirelaw09.OpenTwo", spec := "openTwo", unfollowed := true, recurses := true, apart := false }
def OpenTwoSaid : Prop := openTwoRow.holds Try.pinned (OpenSpec.ofChange openTwoSpec)

/-- ITS FALSE NEIGHBOUR: 'it returns false'. Refute it at one input. -/
def openTwoWrong : ChangeSpec := { name := "openTwo", fn := fun _ => fun
  | [d1, d2] => { results := [.lit (.bool false)], args := [d1, d2] }
  | _ => none }
def OpenTwoWrongFalsely : Prop := openTwoRow.holds Try.pinned (OpenSpec.ofChange openTwoWrong)

/-- 'umpirelaw09.OpenLast': WHATEVER THE INPUT: true; the input reads as it did. -/
def openLastSpec : ChangeSpec := { name := "openLast", fn := fun _ => fun
  | [d1, d2] => { results := [.lit (.bool true)], args := [d1, d2] }
  | _ => none }
def openLastRow : OpenClaim := { program := "ytjkohcdgjlaobaa", sum := "de2591f243d729cc01cc7745a528fd97f3468b48f4fcb1d4145bc6fd4a130727", func := "umpire/umpirelaw09.OpenLast", spec := "openLast", unfollowed := true, recurses := true, apart := false }
def OpenLastSaid : Prop := openLastRow.holds Try.pinned (OpenSpec.ofChange openLastSpec)

/-- ITS FALSE NEIGHBOUR: 'it returns false'. Refute it at one input. -/
def openLastWrong : ChangeSpec := { name := "openLast", fn := fun _ => fun
  | [d1, d2] => { results := [.lit (.bool false)], args := [d1, d2] }
  | _ => none }
def OpenLastWrongFalsely : Prop := openLastRow.holds Try.pinned (OpenSpec.ofChange openLastWrong)

/-- 'umpirelaw09.OpenSeen': WHATEVER THE INPUT: true; the input reads as it did. -/
def openSeenSpec : ChangeSpec := { name := "openSeen", fn := fun _ => fun
  | [d1, d2, d3] => { results := [.lit (.bool true)], args := [d1, d2, d3] }
  | _ => none }
def openSeenRow : OpenClaim := { program := "ytjkohcdgjlaobaa", sum := "de2591f243d729cc01cc7745a528fd97f3468b48f4fcb1d4145bc6fd4a130727", func := "umpire/umpirelaw09.OpenSeen", spec := "openSeen", unfollowed := true, recurses := true, apart := false }
def OpenSeenSaid : Prop := openSeenRow.holds Try.pinned (OpenSpec.ofChange openSeenSpec)

/-- ITS FALSE NEIGHBOUR: 'it returns false'. Refute it at one input. -/
def openSeenWrong : ChangeSpec := { name := "openSeen", fn := fun _ => fun
  | [d1, d2, d3] => { results := [.lit (.bool false)], args := [d1, d2, d3] }
  | _ => none }
def OpenSeenWrongFalsely : Prop := openSeenRow.holds Try.pinned (OpenSpec.ofChange openSeenWrong)

/-- 'umpirelaw09.OpenFull': WHATEVER THE INPUT: true; the input reads as it did. -/
def openFullSpec : ChangeSpec := { name := "openFull", fn := fun _ => fun
  | [d] => { results := [.lit (.bool true)], args := [d] }
  | _ => none }
def openFullRow : OpenClaim := { program := "ytjkohcdgjlaobaa", sum := "de2591f243d729cc01cc7745a528fd97f3468b48f4fcb1d4145bc6fd4a130727", func := "umpire/umpirelaw09.OpenFull", spec := "openFull", unfollowed := true, recurses := true, apart := false }
def OpenFullSaid : Prop := openFullRow.holds Try.pinned (OpenSpec.ofChange openFullSpec)

/-- ITS FALSE NEIGHBOUR: 'it returns false'. Refute it at one input. -/
def openFullWrong : ChangeSpec := { name := "openFull", fn := fun _ => fun
  | [d] => { results := [.lit (.bool false)], args := [d] }
  | _ => none }
def OpenFullWrongFalsely : Prop := openFullRow.holds Try.pinned (OpenSpec.ofChange openFullWrong)

/-- 'umpirelaw09.OpenSteps': WHATEVER THE INPUT: true; the input reads as it did. -/
def openStepsSpec : ChangeSpec := { name := "openSteps", fn := fun _ => fun
  | [d1, d2, d3] => { results := [.lit (.bool true)], args := [d1, d2, d3] }
  | _ => none }
def openStepsRow : OpenClaim := { program := "ytjkohcdgjlaobaa", sum := "de2591f243d729cc01cc7745a528fd97f3468b48f4fcb1d4145bc6fd4a130727", func := "umpire/umpirelaw09.OpenSteps", spec := "openSteps", unfollowed := true, recurses := true, apart := false }
def OpenStepsSaid : Prop := openStepsRow.holds Try.pinned (OpenSpec.ofChange openStepsSpec)

/-- ITS FALSE NEIGHBOUR: 'it returns false'. Refute it at one input. -/
def openStepsWrong : ChangeSpec := { name := "openSteps", fn := fun _ => fun
  | [d1, d2, d3] => { results := [.lit (.bool false)], args := [d1, d2, d3] }
  | _ => none }
def OpenStepsWrongFalsely : Prop := openStepsRow.holds Try.pinned (OpenSpec.ofChange openStepsWrong)

/-- 'umpirelaw09.OpenOnly': WHATEVER THE INPUT: true; the input reads as it did. -/
def openOnlySpec : ChangeSpec := { name := "openOnly", fn := fun _ => fun
  | [d1, d2] => { results := [.lit (.bool true)], args := [d1, d2] }
  | _ => none }
def openOnlyRow : OpenClaim := { program := "ytjkohcdgjlaobaa", sum := "de2591f243d729cc01cc7745a528fd97f3468b48f4fcb1d4145bc6fd4a130727", func := "umpire/umpirelaw09.OpenOnly", spec := "openOnly", unfollowed := true, recurses := true, apart := false }
def OpenOnlySaid : Prop := openOnlyRow.holds Try.pinned (OpenSpec.ofChange openOnlySpec)

/-- ITS FALSE NEIGHBOUR: 'it returns false'. Refute it at one input. -/
def openOnlyWrong : ChangeSpec := { name := "openOnly", fn := fun _ => fun
  | [d1, d2] => { results := [.lit (.bool false)], args := [d1, d2] }
  | _ => none }
def OpenOnlyWrongFalsely : Prop := openOnlyRow.holds Try.pinned (OpenSpec.ofChange openOnlyWrong)

/- THE SECOND FORM. 'bulk': how many values and letters a reading holds, each counted each time it is reached (what is shared counts as often as it is met; a slice's spare places count too). A statement '..UptoSaid' is the law's where the arguments, and the package variables that the reading takes, are together of bulk at most 1048576: NARROWER than '..Said'. Prove '..Said' where nothing that the law and all that it calls make is longer than what came in: it says more and counts as full. Else prove '..UptoSaid'. A law counts once. -/
mutual
def uptoBulk {H : Type} : DataW H → Nat
  | .lit (.string bytes) => bytes.length + 1
  | .lit _ => 1
  | .nil => 1
  | .ptr d => uptoBulk d + 1
  | .slice elems spare => uptoBulkAll elems + uptoBulkAll spare + 1
  | .agg parts => uptoBulkAll parts + 1
  | .iface _ d => uptoBulk d + 1
  | .map entries => uptoBulkEntries entries + 1
  | .held _ => 1
def uptoBulkAll {H : Type} : List (DataW H) → Nat
  | [] => 0
  | d :: r => uptoBulk d + uptoBulkAll r
def uptoBulkEntries {H : Type} : List (Lit × DataW H) → Nat
  | [] => 0
  | x :: r => uptoBulkEntry x + uptoBulkEntries r
def uptoBulkEntry {H : Type} : Lit × DataW H → Nat
  | (.string bytes, d) => bytes.length + uptoBulk d + 1
  | (_, d) => uptoBulk d + 1
 end
def uptoSmall : (H : Type) → List (DataW H) → Bool := fun _ ds => decide (uptoBulkAll ds ≤ 1048576)
def OpenSpec.upto (s : _root_.Go.ChangeSpec) : _root_.Go.OpenSpec := { _root_.Go.OpenSpec.ofChange s with cond := some uptoSmall }

/-- 'umpirelaw09.OpenAlone', WHERE WHAT IT READS IS OF BULK AT MOST 1048576: true; the input reads as it did. -/
def openAloneUptoRow : OpenClaim := { program := "ytjkohcdgjlaobaa", sum := "de2591f243d729cc01cc7745a528fd97f3468b48f4fcb1d4145bc6fd4a130727", func := "umpire/umpirelaw09.OpenAlone", spec := "openAlone", unfollowed := true, recurses := true, apart := false, narrowed := true }
def OpenAloneUptoSaid : Prop := openAloneUptoRow.holds Try.pinned (OpenSpec.upto openAloneSpec)

/-- 'umpirelaw09.OpenTwo', WHERE WHAT IT READS IS OF BULK AT MOST 1048576: true; the input reads as it did. -/
def openTwoUptoRow : OpenClaim := { program := "ytjkohcdgjlaobaa", sum := "de2591f243d729cc01cc7745a528fd97f3468b48f4fcb1d4145bc6fd4a130727", func := "umpire/umpirelaw09.OpenTwo", spec := "openTwo", unfollowed := true, recurses := true, apart := false, narrowed := true }
def OpenTwoUptoSaid : Prop := openTwoUptoRow.holds Try.pinned (OpenSpec.upto openTwoSpec)

/-- 'umpirelaw09.OpenLast', WHERE WHAT IT READS IS OF BULK AT MOST 1048576: true; the input reads as it did. -/
def openLastUptoRow : OpenClaim := { program := "ytjkohcdgjlaobaa", sum := "de2591f243d729cc01cc7745a528fd97f3468b48f4fcb1d4145bc6fd4a130727", func := "umpire/umpirelaw09.OpenLast", spec := "openLast", unfollowed := true, recurses := true, apart := false, narrowed := true }
def OpenLastUptoSaid : Prop := openLastUptoRow.holds Try.pinned (OpenSpec.upto openLastSpec)

/-- 'umpirelaw09.OpenSeen', WHERE WHAT IT READS IS OF BULK AT MOST 1048576: true; the input reads as it did. -/
def openSeenUptoRow : OpenClaim := { program := "ytjkohcdgjlaobaa", sum := "de2591f243d729cc01cc7745a528fd97f3468b48f4fcb1d4145bc6fd4a130727", func := "umpire/umpirelaw09.OpenSeen", spec := "openSeen", unfollowed := true, recurses := true, apart := false, narrowed := true }
def OpenSeenUptoSaid : Prop := openSeenUptoRow.holds Try.pinned (OpenSpec.upto openSeenSpec)

/-- 'umpirelaw09.OpenFull', WHERE WHAT IT READS IS OF BULK AT MOST 1048576: true; the input reads as it did. -/
def openFullUptoRow : OpenClaim := { program := "ytjkohcdgjlaobaa", sum := "de2591f243d729cc01cc7745a528fd97f3468b48f4fcb1d4145bc6fd4a130727", func := "umpire/umpirelaw09.OpenFull", spec := "openFull", unfollowed := true, recurses := true, apart := false, narrowed := true }
def OpenFullUptoSaid : Prop := openFullUptoRow.holds Try.pinned (OpenSpec.upto openFullSpec)

/-- 'umpirelaw09.OpenSteps', WHERE WHAT IT READS IS OF BULK AT MOST 1048576: true; the input reads as it did. -/
def openStepsUptoRow : OpenClaim := { program := "ytjkohcdgjlaobaa", sum := "de2591f243d729cc01cc7745a528fd97f3468b48f4fcb1d4145bc6fd4a130727", func := "umpire/umpirelaw09.OpenSteps", spec := "openSteps", unfollowed := true, recurses := true, apart := false, narrowed := true }
def OpenStepsUptoSaid : Prop := openStepsUptoRow.holds Try.pinned (OpenSpec.upto openStepsSpec)

/-- 'umpirelaw09.OpenOnly', WHERE WHAT IT READS IS OF BULK AT MOST 1048576: true; the input reads as it did. -/
def openOnlyUptoRow : OpenClaim := { program := "ytjkohcdgjlaobaa", sum := "de2591f243d729cc01cc7745a528fd97f3468b48f4fcb1d4145bc6fd4a130727", func := "umpire/umpirelaw09.OpenOnly", spec := "openOnly", unfollowed := true, recurses := true, apart := false, narrowed := true }
def OpenOnlyUptoSaid : Prop := openOnlyUptoRow.holds Try.pinned (OpenSpec.upto openOnlySpec)

end Rows
end Go.Proofs.Ytjkohcdgjlaobaa
