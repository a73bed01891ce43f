/-
  No cell of these rows narrows 'for every input' (looked for: loops, veiled, ifaces, maps, wideKeys, modest, calm, conditions, laid).
  DERIVED. THE GIVEN ROWS OF THIS SEAT. 6 by the template 'for every input the law returns true; each argument reads behind the call as it read before'; 0 by the template 'total and deterministic' (their statements: YtmpidecpfcikoaaGreatTotals.lean).
  GIVEN WITH THE SEED: the statements are not yours to turn. If you find one false, say at which input.
  Laid BY PROGRAM, IN A SANDBOX (cutbox-rows.mjs): the forced cells as the released guide's own fill.sh prints them over the translation 7de37e83a0f36ef8… (all of the seat's roots in one cut). By AI agents, Wed Nov 11 2026. No macro, syntax, notation, axiom, sorry.
-/
import Derived.Test.YtmpidecpfcikoaaGreatChecked
import GoSem.Claim
import GoSem.ClaimJoined
import GoSem.ClaimMapViews
import Derived.JoinedTies
import Derived.KernelRfl
namespace Go.Proofs.YtmpidecpfcikoaaGreat
/- THE CELL 'sum', in the pinned program and in every row, IS THE sha256 OF THE DUMP (.gsa) THAT YtmpidecpfcikoaaGreatProg.lean LOADS. Nothing in Lean hashes anything: it is a label: what it is worth is what the hold of that sum in a sandbox is worth. -/
noncomputable def Tryz.pinned : Pinned := { name := "ytmpidecpfcikoaagreat", sum := "7de37e83a0f36ef896a3c9d8fae529650e13a51cd06e985985fb667ee07c9a15", checked := Tryz.checked }
namespace Rows
def none {H : Type} : Left H := { results := [], args := [] }

/-- 'umpirelaw12.ReadAlone': WHATEVER THE INPUT: true; the input reads as it did. -/
def readAloneSpec : ChangeSpec := { name := "readAlone", fn := fun _ => fun
  | [d1, d2, d3] => { results := [.lit (.bool true)], args := [d1, d2, d3] }
  | _ => none }
def readAloneRow : OpenClaim := { program := "ytmpidecpfcikoaagreat", sum := "7de37e83a0f36ef896a3c9d8fae529650e13a51cd06e985985fb667ee07c9a15", func := "umpire/umpirelaw12.ReadAlone", spec := "readAlone", unfollowed := true, recurses := true, apart := false }
def ReadAloneSaid : Prop := readAloneRow.holds Tryz.pinned (OpenSpec.ofChange readAloneSpec)

/-- ITS FALSE NEIGHBOUR: 'it returns false'. Refute it at one input. -/
def readAloneWrong : ChangeSpec := { name := "readAlone", fn := fun _ => fun
  | [d1, d2, d3] => { results := [.lit (.bool false)], args := [d1, d2, d3] }
  | _ => none }
def ReadAloneWrongFalsely : Prop := readAloneRow.holds Tryz.pinned (OpenSpec.ofChange readAloneWrong)

/-- 'umpirelaw12.ReadTwice': WHATEVER THE INPUT: true; the input reads as it did. -/
def readTwiceSpec : ChangeSpec := { name := "readTwice", fn := fun _ => fun
  | [d1, d2, d3] => { results := [.lit (.bool true)], args := [d1, d2, d3] }
  | _ => none }
def readTwiceRow : OpenClaim := { program := "ytmpidecpfcikoaagreat", sum := "7de37e83a0f36ef896a3c9d8fae529650e13a51cd06e985985fb667ee07c9a15", func := "umpire/umpirelaw12.ReadTwice", spec := "readTwice", unfollowed := true, recurses := true, apart := false }
def ReadTwiceSaid : Prop := readTwiceRow.holds Tryz.pinned (OpenSpec.ofChange readTwiceSpec)

/-- ITS FALSE NEIGHBOUR: 'it returns false'. Refute it at one input. -/
def readTwiceWrong : ChangeSpec := { name := "readTwice", fn := fun _ => fun
  | [d1, d2, d3] => { results := [.lit (.bool false)], args := [d1, d2, d3] }
  | _ => none }
def ReadTwiceWrongFalsely : Prop := readTwiceRow.holds Tryz.pinned (OpenSpec.ofChange readTwiceWrong)

/-- 'umpirelaw12.ReadOrder': WHATEVER THE INPUT: true; the input reads as it did. -/
def readOrderSpec : ChangeSpec := { name := "readOrder", fn := fun _ => fun
  | [d1, d2, d3] => { results := [.lit (.bool true)], args := [d1, d2, d3] }
  | _ => none }
def readOrderRow : OpenClaim := { program := "ytmpidecpfcikoaagreat", sum := "7de37e83a0f36ef896a3c9d8fae529650e13a51cd06e985985fb667ee07c9a15", func := "umpire/umpirelaw12.ReadOrder", spec := "readOrder", unfollowed := true, recurses := true, apart := false }
def ReadOrderSaid : Prop := readOrderRow.holds Tryz.pinned (OpenSpec.ofChange readOrderSpec)

/-- ITS FALSE NEIGHBOUR: 'it returns false'. Refute it at one input. -/
def readOrderWrong : ChangeSpec := { name := "readOrder", fn := fun _ => fun
  | [d1, d2, d3] => { results := [.lit (.bool false)], args := [d1, d2, d3] }
  | _ => none }
def ReadOrderWrongFalsely : Prop := readOrderRow.holds Tryz.pinned (OpenSpec.ofChange readOrderWrong)

/-- 'umpirelaw12.ReadSteps': WHATEVER THE INPUT: true; the input reads as it did. -/
def readStepsSpec : ChangeSpec := { name := "readSteps", fn := fun _ => fun
  | [d1, d2, d3] => { results := [.lit (.bool true)], args := [d1, d2, d3] }
  | _ => none }
def readStepsRow : OpenClaim := { program := "ytmpidecpfcikoaagreat", sum := "7de37e83a0f36ef896a3c9d8fae529650e13a51cd06e985985fb667ee07c9a15", func := "umpire/umpirelaw12.ReadSteps", spec := "readSteps", unfollowed := true, recurses := true, apart := false }
def ReadStepsSaid : Prop := readStepsRow.holds Tryz.pinned (OpenSpec.ofChange readStepsSpec)

/-- ITS FALSE NEIGHBOUR: 'it returns false'. Refute it at one input. -/
def readStepsWrong : ChangeSpec := { name := "readSteps", fn := fun _ => fun
  | [d1, d2, d3] => { results := [.lit (.bool false)], args := [d1, d2, d3] }
  | _ => none }
def ReadStepsWrongFalsely : Prop := readStepsRow.holds Tryz.pinned (OpenSpec.ofChange readStepsWrong)

/-- 'umpirelaw12.ReadOnly': WHATEVER THE INPUT: true; the input reads as it did. -/
def readOnlySpec : ChangeSpec := { name := "readOnly", fn := fun _ => fun
  | [d1, d2, d3] => { results := [.lit (.bool true)], args := [d1, d2, d3] }
  | _ => none }
def readOnlyRow : OpenClaim := { program := "ytmpidecpfcikoaagreat", sum := "7de37e83a0f36ef896a3c9d8fae529650e13a51cd06e985985fb667ee07c9a15", func := "umpire/umpirelaw12.ReadOnly", spec := "readOnly", unfollowed := true, recurses := true, apart := false }
def ReadOnlySaid : Prop := readOnlyRow.holds Tryz.pinned (OpenSpec.ofChange readOnlySpec)

/-- ITS FALSE NEIGHBOUR: 'it returns false'. Refute it at one input. -/
def readOnlyWrong : ChangeSpec := { name := "readOnly", fn := fun _ => fun
  | [d1, d2, d3] => { results := [.lit (.bool false)], args := [d1, d2, d3] }
  | _ => none }
def ReadOnlyWrongFalsely : Prop := readOnlyRow.holds Tryz.pinned (OpenSpec.ofChange readOnlyWrong)

/-- 'umpirelaw12.ReadPast': WHATEVER THE INPUT: true; the input reads as it did. -/
def readPastSpec : ChangeSpec := { name := "readPast", fn := fun _ => fun
  | [d1, d2, d3] => { results := [.lit (.bool true)], args := [d1, d2, d3] }
  | _ => none }
def readPastRow : OpenClaim := { program := "ytmpidecpfcikoaagreat", sum := "7de37e83a0f36ef896a3c9d8fae529650e13a51cd06e985985fb667ee07c9a15", func := "umpire/umpirelaw12.ReadPast", spec := "readPast", unfollowed := true, recurses := true, apart := false }
def ReadPastSaid : Prop := readPastRow.holds Tryz.pinned (OpenSpec.ofChange readPastSpec)

/-- ITS FALSE NEIGHBOUR: 'it returns false'. Refute it at one input. -/
def readPastWrong : ChangeSpec := { name := "readPast", fn := fun _ => fun
  | [d1, d2, d3] => { results := [.lit (.bool false)], args := [d1, d2, d3] }
  | _ => none }
def ReadPastWrongFalsely : Prop := readPastRow.holds Tryz.pinned (OpenSpec.ofChange readPastWrong)

/- THE SECOND FORM. 'bulk': how many values and letters a reading holds, each counted each time it is reached (what is shared counts as often as it is met; a slice's spare places count too). A statement '..UptoSaid' is the law's where the arguments, and the package variables that the reading takes, are together of bulk at most 1048576: NARROWER than '..Said'. Prove '..Said' where nothing that the law and all that it calls make is longer than what came in: it says more and counts as full. Else prove '..UptoSaid'. A law counts once. -/
mutual
def uptoBulk {H : Type} : DataW H → Nat
  | .lit (.string bytes) => bytes.length + 1
  | .lit _ => 1
  | .nil => 1
  | .ptr d => uptoBulk d + 1
  | .slice elems spare => uptoBulkAll elems + uptoBulkAll spare + 1
  | .agg parts => uptoBulkAll parts + 1
  | .iface _ d => uptoBulk d + 1
  | .map entries => uptoBulkEntries entries + 1
  | .held _ => 1
def uptoBulkAll {H : Type} : List (DataW H) → Nat
  | [] => 0
  | d :: r => uptoBulk d + uptoBulkAll r
def uptoBulkEntries {H : Type} : List (Lit × DataW H) → Nat
  | [] => 0
  | x :: r => uptoBulkEntry x + uptoBulkEntries r
def uptoBulkEntry {H : Type} : Lit × DataW H → Nat
  | (.string bytes, d) => bytes.length + uptoBulk d + 1
  | (_, d) => uptoBulk d + 1
 end
def uptoSmall : (H : Type) → List (DataW H) → Bool := fun _ ds => decide (uptoBulkAll ds ≤ 1048576)
def OpenSpec.upto (s : _root_.Go.ChangeSpec) : _root_.Go.OpenSpec := { _root_.Go.OpenSpec.ofChange s with cond := some uptoSmall }

/-- 'umpirelaw12.ReadAlone', WHERE WHAT IT READS IS OF BULK AT MOST 1048576: true; the input reads as it did. -/
def readAloneUptoRow : OpenClaim := { program := "ytmpidecpfcikoaagreat", sum := "7de37e83a0f36ef896a3c9d8fae529650e13a51cd06e985985fb667ee07c9a15", func := "umpire/umpirelaw12.ReadAlone", spec := "readAlone", unfollowed := true, recurses := true, apart := false, narrowed := true }
def ReadAloneUptoSaid : Prop := readAloneUptoRow.holds Tryz.pinned (OpenSpec.upto readAloneSpec)

/-- 'umpirelaw12.ReadTwice', WHERE WHAT IT READS IS OF BULK AT MOST 1048576: true; the input reads as it did. -/
def readTwiceUptoRow : OpenClaim := { program := "ytmpidecpfcikoaagreat", sum := "7de37e83a0f36ef896a3c9d8fae529650e13a51cd06e985985fb667ee07c9a15", func := "umpire/umpirelaw12.ReadTwice", spec := "readTwice", unfollowed := true, recurses := true, apart := false, narrowed := true }
def ReadTwiceUptoSaid : Prop := readTwiceUptoRow.holds Tryz.pinned (OpenSpec.upto readTwiceSpec)

/-- 'umpirelaw12.ReadOrder', WHERE WHAT IT READS IS OF BULK AT MOST 1048576: true; the input reads as it did. -/
def readOrderUptoRow : OpenClaim := { program := "ytmpidecpfcikoaagreat", sum := "7de37e83a0f36ef896a3c9d8fae529650e13a51cd06e985985fb667ee07c9a15", func := "umpire/umpirelaw12.ReadOrder", spec := "readOrder", unfollowed := true, recurses := true, apart := false, narrowed := true }
def ReadOrderUptoSaid : Prop := readOrderUptoRow.holds Tryz.pinned (OpenSpec.upto readOrderSpec)

/-- 'umpirelaw12.ReadSteps', WHERE WHAT IT READS IS OF BULK AT MOST 1048576: true; the input reads as it did. -/
def readStepsUptoRow : OpenClaim := { program := "ytmpidecpfcikoaagreat", sum := "7de37e83a0f36ef896a3c9d8fae529650e13a51cd06e985985fb667ee07c9a15", func := "umpire/umpirelaw12.ReadSteps", spec := "readSteps", unfollowed := true, recurses := true, apart := false, narrowed := true }
def ReadStepsUptoSaid : Prop := readStepsUptoRow.holds Tryz.pinned (OpenSpec.upto readStepsSpec)

/-- 'umpirelaw12.ReadOnly', WHERE WHAT IT READS IS OF BULK AT MOST 1048576: true; the input reads as it did. -/
def readOnlyUptoRow : OpenClaim := { program := "ytmpidecpfcikoaagreat", sum := "7de37e83a0f36ef896a3c9d8fae529650e13a51cd06e985985fb667ee07c9a15", func := "umpire/umpirelaw12.ReadOnly", spec := "readOnly", unfollowed := true, recurses := true, apart := false, narrowed := true }
def ReadOnlyUptoSaid : Prop := readOnlyUptoRow.holds Tryz.pinned (OpenSpec.upto readOnlySpec)

/-- 'umpirelaw12.ReadPast', WHERE WHAT IT READS IS OF BULK AT MOST 1048576: true; the input reads as it did. -/
def readPastUptoRow : OpenClaim := { program := "ytmpidecpfcikoaagreat", sum := "7de37e83a0f36ef896a3c9d8fae529650e13a51cd06e985985fb667ee07c9a15", func := "umpire/umpirelaw12.ReadPast", spec := "readPast", unfollowed := true, recurses := true, apart := false, narrowed := true }
def ReadPastUptoSaid : Prop := readPastUptoRow.holds Tryz.pinned (OpenSpec.upto readPastSpec)

end Rows
end Go.Proofs.YtmpidecpfcikoaaGreat
