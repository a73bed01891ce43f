/- The closed facts of 'OpenSteps'. -/
import Derived.Test.YtjkohcdgjlaobaaRows
import Derived.Test.YtjkohcdgjlaobaaChecked
import Derived.ProofKit
import Derived.ChangeOld
import Derived.KernelRfl
namespace Go.Proofs.Ytjkohcdgjlaobaa.OpenStepsDone
open Go Go.Proofs

theorem k0 : (Rows.openStepsRow.wf (OpenSpec.ofChange Rows.openStepsSpec)) = true := by kernel_rfl
theorem k1 : (laidOutB Try.prog) = true := by kernel_rfl
theorem k2 : (mapsRowed Try.prog) = true := by kernel_rfl
theorem k3 : (Try.f8.params.all (Try.prog.readableRec ·)) = true := by kernel_rfl
theorem k4 : (namedTie Try.prog Rows.openStepsRow.named Rows.openStepsSpec.vars) = true := by kernel_rfl
theorem k5 : ((Rows.openStepsRow.stops == [])) = true := by kernel_rfl
theorem k6 : ((Try.prog.stops == [])) = true := by kernel_rfl
theorem k7 : ((Rows.openStepsRow.knobs == [])) = true := by kernel_rfl
theorem k8 : ((Try.prog.stopKnobs == [])) = true := by kernel_rfl
theorem k9 : ((Rows.openStepsRow.inPlace == Try.prog.inPlace 8)) = true := by kernel_rfl
theorem k10 : ((Rows.openStepsRow.unfollowed == Try.prog.unfollowed 8)) = true := by kernel_rfl
theorem k11 : ((Rows.openStepsRow.recurses == Try.prog.recurses 8)) = true := by kernel_rfl
theorem k12 : ((Rows.openStepsRow.named == Try.prog.varsNamed 8)) = true := by kernel_rfl
theorem k13 : ((Rows.openStepsRow.maps == (Try.f8.params.toList ++ Rows.openStepsSpec.plain.varTypes Try.prog).any (Try.prog.mapsRec ·))) = true := by kernel_rfl
theorem k14 : ((Rows.openStepsRow.ifaces == (Try.f8.params.toList ++ Rows.openStepsSpec.plain.varTypes Try.prog).any (Try.prog.ifacesRec ·))) = true := by kernel_rfl
theorem k15 : ((Rows.openStepsRow.mapsOut == Try.prog.mapsAmong Try.f8.resultTypes.toList)) = true := by kernel_rfl
theorem k16 : ((Rows.openStepsRow.loops == (Try.f8.params.toList ++ Rows.openStepsSpec.plain.varTypes Try.prog).any (Try.prog.loopsFrom ·))) = true := by kernel_rfl
theorem k17 : ((Rows.openStepsRow.wideKeys == (Try.f8.params.toList ++ Rows.openStepsSpec.plain.varTypes Try.prog ++ Try.f8.resultTypes.toList).any (Try.prog.wideKeysFrom ·))) = true := by kernel_rfl
theorem k18 : (Rows.openStepsSpec.vars.all (Try.prog.varReadable ·)) = true := by kernel_rfl
theorem k19 : (Try.f8.resultTypes.all (fun t => Try.prog.readableRec t && decide (t < Try.prog.types.size))) = true := by kernel_rfl
theorem k20 : ((Rows.openStepsRow.ifacesOut == Try.f8.resultTypes.toList.any (Try.prog.ifacesRec ·))) = true := by kernel_rfl
theorem k21 : ((Rows.openStepsRow.loopsOut == Try.f8.resultTypes.toList.any (Try.prog.loopsFrom ·))) = true := by kernel_rfl
theorem k22 : ((Rows.openStepsRow.plainKeys == Try.prog.plainKeys)) = true := by kernel_rfl
theorem k23 : (Rows.openStepsRow.shortTexts.isNone) = true := by kernel_rfl
theorem k24 : (Try.prog.stopsHeard) = true := by kernel_rfl
theorem k25 : (Try.prog.mayEnter) = true := by kernel_rfl
theorem k26 : ((Rows.openStepsRow.lifted == Try.prog.liftsFinal)) = true := by kernel_rfl
theorem k27 : ((Try.prog.make == some Rows.openStepsRow.make)) = true := by kernel_rfl
theorem k29 : ((Rows.openStepsRow.pinned == Rows.openStepsRow.pinnedBy)) = true := by kernel_rfl
theorem k30 : ((Rows.openStepsRow.veiled == (Try.f8.params.toList ++ Rows.openStepsSpec.plain.varTypes Try.prog ++ Try.f8.resultTypes.toList).any (Try.prog.veiledRec ·))) = true := by kernel_rfl
theorem k31 : (Rows.openStepsRow.veiledFits Try.prog Try.f8.params.toList (Try.f8.params.toList ++ Rows.openStepsSpec.plain.varTypes Try.prog ++ Try.f8.resultTypes.toList)) = true := by kernel_rfl
theorem closed : joinedFacts Try.prog 8 Try.f8 Rows.openStepsSpec Rows.openStepsRow = true := by
  unfold joinedFacts
  simp only [k0, k1, k2, k3, k4, k5, k6, k7, k8, k9, k10, k11, k12, k13, k14, k15, k16, k17, k18, k19, k20, k21, k22, k23, k24, k25, k26, k27, k29, k30, k31, Bool.and_self]
  kernel_rfl
theorem named : Try.pinned.checked.prog.funcNamed Rows.openStepsRow.func = some 8 := by kernel_rfl
theorem inst : Try.f8.isInstance Try.pinned.checked.prog Rows.openStepsRow.origin Rows.openStepsRow.targs := of_decide_eq_true (by kernel_rfl)
theorem wrapper : Try.f8.isWrapper Try.pinned.checked.prog Rows.openStepsRow.wrapper Rows.openStepsRow.mainSum := by unfold Func.isWrapper; first | (rw [if_pos (by decide +kernel)]; kernel_rfl) | (rw [if_neg (by decide +kernel)]; exact ⟨rfl, rfl⟩)
end Go.Proofs.Ytjkohcdgjlaobaa.OpenStepsDone
