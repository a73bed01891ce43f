/- The closed facts of 'GateLeaves'. -/
import Derived.Test.YtmliekdbhefpkaaRows
import Derived.Test.YtmliekdbhefpkaaChecked
import Derived.ProofKit
import Derived.ChangeOld
import Derived.KernelRfl
namespace Go.Proofs.Ytmliekdbhefpkaa.GateLeavesDone
open Go Go.Proofs

theorem k0 : (Rows.gateLeavesRow.wf (OpenSpec.ofChange Rows.gateLeavesSpec)) = true := by kernel_rfl
theorem k1 : (laidOutB Try.prog) = true := by kernel_rfl
theorem k2 : (mapsRowed Try.prog) = true := by kernel_rfl
theorem k3 : (Try.f13.params.all (Try.prog.readableRec ·)) = true := by kernel_rfl
theorem k4 : (namedTie Try.prog Rows.gateLeavesRow.named Rows.gateLeavesSpec.vars) = true := by kernel_rfl
theorem k5 : ((Rows.gateLeavesRow.stops == [])) = true := by kernel_rfl
theorem k6 : ((Try.prog.stops == [])) = true := by kernel_rfl
theorem k7 : ((Rows.gateLeavesRow.knobs == [])) = true := by kernel_rfl
theorem k8 : ((Try.prog.stopKnobs == [])) = true := by kernel_rfl
theorem k9 : ((Rows.gateLeavesRow.inPlace == Try.prog.inPlace 13)) = true := by kernel_rfl
theorem k10 : ((Rows.gateLeavesRow.unfollowed == Try.prog.unfollowed 13)) = true := by kernel_rfl
theorem k11 : ((Rows.gateLeavesRow.recurses == Try.prog.recurses 13)) = true := by kernel_rfl
theorem k12 : ((Rows.gateLeavesRow.named == Try.prog.varsNamed 13)) = true := by kernel_rfl
theorem k13 : ((Rows.gateLeavesRow.maps == (Try.f13.params.toList ++ Rows.gateLeavesSpec.plain.varTypes Try.prog).any (Try.prog.mapsRec ·))) = true := by kernel_rfl
theorem k14 : ((Rows.gateLeavesRow.ifaces == (Try.f13.params.toList ++ Rows.gateLeavesSpec.plain.varTypes Try.prog).any (Try.prog.ifacesRec ·))) = true := by kernel_rfl
theorem k15 : ((Rows.gateLeavesRow.mapsOut == Try.prog.mapsAmong Try.f13.resultTypes.toList)) = true := by kernel_rfl
theorem k16 : ((Rows.gateLeavesRow.loops == (Try.f13.params.toList ++ Rows.gateLeavesSpec.plain.varTypes Try.prog).any (Try.prog.loopsFrom ·))) = true := by kernel_rfl
theorem k17 : ((Rows.gateLeavesRow.wideKeys == (Try.f13.params.toList ++ Rows.gateLeavesSpec.plain.varTypes Try.prog ++ Try.f13.resultTypes.toList).any (Try.prog.wideKeysFrom ·))) = true := by kernel_rfl
theorem k18 : (Rows.gateLeavesSpec.vars.all (Try.prog.varReadable ·)) = true := by kernel_rfl
theorem k19 : (Try.f13.resultTypes.all (fun t => Try.prog.readableRec t && decide (t < Try.prog.types.size))) = true := by kernel_rfl
theorem k20 : ((Rows.gateLeavesRow.ifacesOut == Try.f13.resultTypes.toList.any (Try.prog.ifacesRec ·))) = true := by kernel_rfl
theorem k21 : ((Rows.gateLeavesRow.loopsOut == Try.f13.resultTypes.toList.any (Try.prog.loopsFrom ·))) = true := by kernel_rfl
theorem k22 : ((Rows.gateLeavesRow.plainKeys == Try.prog.plainKeys)) = true := by kernel_rfl
theorem k23 : (Rows.gateLeavesRow.shortTexts.isNone) = true := by kernel_rfl
theorem k24 : (Try.prog.stopsHeard) = true := by kernel_rfl
theorem k25 : (Try.prog.mayEnter) = true := by kernel_rfl
theorem k26 : ((Rows.gateLeavesRow.lifted == Try.prog.liftsFinal)) = true := by kernel_rfl
theorem k27 : ((Try.prog.make == some Rows.gateLeavesRow.make)) = true := by kernel_rfl
theorem k29 : ((Rows.gateLeavesRow.pinned == Rows.gateLeavesRow.pinnedBy)) = true := by kernel_rfl
theorem k30 : ((Rows.gateLeavesRow.veiled == (Try.f13.params.toList ++ Rows.gateLeavesSpec.plain.varTypes Try.prog ++ Try.f13.resultTypes.toList).any (Try.prog.veiledRec ·))) = true := by kernel_rfl
theorem k31 : (Rows.gateLeavesRow.veiledFits Try.prog Try.f13.params.toList (Try.f13.params.toList ++ Rows.gateLeavesSpec.plain.varTypes Try.prog ++ Try.f13.resultTypes.toList)) = true := by kernel_rfl
theorem closed : joinedFacts Try.prog 13 Try.f13 Rows.gateLeavesSpec Rows.gateLeavesRow = true := by
  unfold joinedFacts
  simp only [k0, k1, k2, k3, k4, k5, k6, k7, k8, k9, k10, k11, k12, k13, k14, k15, k16, k17, k18, k19, k20, k21, k22, k23, k24, k25, k26, k27, k29, k30, k31, Bool.and_self]
  kernel_rfl
theorem named : Try.pinned.checked.prog.funcNamed Rows.gateLeavesRow.func = some 13 := by kernel_rfl
theorem inst : Try.f13.isInstance Try.pinned.checked.prog Rows.gateLeavesRow.origin Rows.gateLeavesRow.targs := of_decide_eq_true (by kernel_rfl)
theorem wrapper : Try.f13.isWrapper Try.pinned.checked.prog Rows.gateLeavesRow.wrapper Rows.gateLeavesRow.mainSum := by unfold Func.isWrapper; first | (rw [if_pos (by decide +kernel)]; kernel_rfl) | (rw [if_neg (by decide +kernel)]; exact ⟨rfl, rfl⟩)
end Go.Proofs.Ytmliekdbhefpkaa.GateLeavesDone
