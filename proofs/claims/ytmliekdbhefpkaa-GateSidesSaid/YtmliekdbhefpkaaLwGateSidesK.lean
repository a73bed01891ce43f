/- The closed facts of 'GateSides'. -/
import Derived.Test.YtmliekdbhefpkaaRows
import Derived.Test.YtmliekdbhefpkaaChecked
import Derived.ProofKit
import Derived.ChangeOld
import Derived.KernelRfl
namespace Go.Proofs.Ytmliekdbhefpkaa.GateSidesDone
open Go Go.Proofs

theorem k0 : (Rows.gateSidesRow.wf (OpenSpec.ofChange Rows.gateSidesSpec)) = true := by kernel_rfl
theorem k1 : (laidOutB Try.prog) = true := by kernel_rfl
theorem k2 : (mapsRowed Try.prog) = true := by kernel_rfl
theorem k3 : (Try.f10.params.all (Try.prog.readableRec ·)) = true := by kernel_rfl
theorem k4 : (namedTie Try.prog Rows.gateSidesRow.named Rows.gateSidesSpec.vars) = true := by kernel_rfl
theorem k5 : ((Rows.gateSidesRow.stops == [])) = true := by kernel_rfl
theorem k6 : ((Try.prog.stops == [])) = true := by kernel_rfl
theorem k7 : ((Rows.gateSidesRow.knobs == [])) = true := by kernel_rfl
theorem k8 : ((Try.prog.stopKnobs == [])) = true := by kernel_rfl
theorem k9 : ((Rows.gateSidesRow.inPlace == Try.prog.inPlace 10)) = true := by kernel_rfl
theorem k10 : ((Rows.gateSidesRow.unfollowed == Try.prog.unfollowed 10)) = true := by kernel_rfl
theorem k11 : ((Rows.gateSidesRow.recurses == Try.prog.recurses 10)) = true := by kernel_rfl
theorem k12 : ((Rows.gateSidesRow.named == Try.prog.varsNamed 10)) = true := by kernel_rfl
theorem k13 : ((Rows.gateSidesRow.maps == (Try.f10.params.toList ++ Rows.gateSidesSpec.plain.varTypes Try.prog).any (Try.prog.mapsRec ·))) = true := by kernel_rfl
theorem k14 : ((Rows.gateSidesRow.ifaces == (Try.f10.params.toList ++ Rows.gateSidesSpec.plain.varTypes Try.prog).any (Try.prog.ifacesRec ·))) = true := by kernel_rfl
theorem k15 : ((Rows.gateSidesRow.mapsOut == Try.prog.mapsAmong Try.f10.resultTypes.toList)) = true := by kernel_rfl
theorem k16 : ((Rows.gateSidesRow.loops == (Try.f10.params.toList ++ Rows.gateSidesSpec.plain.varTypes Try.prog).any (Try.prog.loopsFrom ·))) = true := by kernel_rfl
theorem k17 : ((Rows.gateSidesRow.wideKeys == (Try.f10.params.toList ++ Rows.gateSidesSpec.plain.varTypes Try.prog ++ Try.f10.resultTypes.toList).any (Try.prog.wideKeysFrom ·))) = true := by kernel_rfl
theorem k18 : (Rows.gateSidesSpec.vars.all (Try.prog.varReadable ·)) = true := by kernel_rfl
theorem k19 : (Try.f10.resultTypes.all (fun t => Try.prog.readableRec t && decide (t < Try.prog.types.size))) = true := by kernel_rfl
theorem k20 : ((Rows.gateSidesRow.ifacesOut == Try.f10.resultTypes.toList.any (Try.prog.ifacesRec ·))) = true := by kernel_rfl
theorem k21 : ((Rows.gateSidesRow.loopsOut == Try.f10.resultTypes.toList.any (Try.prog.loopsFrom ·))) = true := by kernel_rfl
theorem k22 : ((Rows.gateSidesRow.plainKeys == Try.prog.plainKeys)) = true := by kernel_rfl
theorem k23 : (Rows.gateSidesRow.shortTexts.isNone) = true := by kernel_rfl
theorem k24 : (Try.prog.stopsHeard) = true := by kernel_rfl
theorem k25 : (Try.prog.mayEnter) = true := by kernel_rfl
theorem k26 : ((Rows.gateSidesRow.lifted == Try.prog.liftsFinal)) = true := by kernel_rfl
theorem k27 : ((Try.prog.make == some Rows.gateSidesRow.make)) = true := by kernel_rfl
theorem k29 : ((Rows.gateSidesRow.pinned == Rows.gateSidesRow.pinnedBy)) = true := by kernel_rfl
theorem k30 : ((Rows.gateSidesRow.veiled == (Try.f10.params.toList ++ Rows.gateSidesSpec.plain.varTypes Try.prog ++ Try.f10.resultTypes.toList).any (Try.prog.veiledRec ·))) = true := by kernel_rfl
theorem k31 : (Rows.gateSidesRow.veiledFits Try.prog Try.f10.params.toList (Try.f10.params.toList ++ Rows.gateSidesSpec.plain.varTypes Try.prog ++ Try.f10.resultTypes.toList)) = true := by kernel_rfl
theorem closed : joinedFacts Try.prog 10 Try.f10 Rows.gateSidesSpec Rows.gateSidesRow = true := by
  unfold joinedFacts
  simp only [k0, k1, k2, k3, k4, k5, k6, k7, k8, k9, k10, k11, k12, k13, k14, k15, k16, k17, k18, k19, k20, k21, k22, k23, k24, k25, k26, k27, k29, k30, k31, Bool.and_self]
  kernel_rfl
theorem named : Try.pinned.checked.prog.funcNamed Rows.gateSidesRow.func = some 10 := by kernel_rfl
theorem inst : Try.f10.isInstance Try.pinned.checked.prog Rows.gateSidesRow.origin Rows.gateSidesRow.targs := of_decide_eq_true (by kernel_rfl)
theorem wrapper : Try.f10.isWrapper Try.pinned.checked.prog Rows.gateSidesRow.wrapper Rows.gateSidesRow.mainSum := by unfold Func.isWrapper; first | (rw [if_pos (by decide +kernel)]; kernel_rfl) | (rw [if_neg (by decide +kernel)]; exact ⟨rfl, rfl⟩)
end Go.Proofs.Ytmliekdbhefpkaa.GateSidesDone
