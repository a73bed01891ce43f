/- The closed facts of 'GateAgain'. -/
import Derived.Test.YtmliekdbhefpkaaRows
import Derived.Test.YtmliekdbhefpkaaChecked
import Derived.ProofKit
import Derived.ChangeOld
import Derived.KernelRfl
namespace Go.Proofs.Ytmliekdbhefpkaa.GateAgainDone
open Go Go.Proofs

theorem k0 : (Rows.gateAgainRow.wf (OpenSpec.ofChange Rows.gateAgainSpec)) = true := by kernel_rfl
theorem k1 : (laidOutB Try.prog) = true := by kernel_rfl
theorem k2 : (mapsRowed Try.prog) = true := by kernel_rfl
theorem k3 : (Try.f11.params.all (Try.prog.readableRec ·)) = true := by kernel_rfl
theorem k4 : (namedTie Try.prog Rows.gateAgainRow.named Rows.gateAgainSpec.vars) = true := by kernel_rfl
theorem k5 : ((Rows.gateAgainRow.stops == [])) = true := by kernel_rfl
theorem k6 : ((Try.prog.stops == [])) = true := by kernel_rfl
theorem k7 : ((Rows.gateAgainRow.knobs == [])) = true := by kernel_rfl
theorem k8 : ((Try.prog.stopKnobs == [])) = true := by kernel_rfl
theorem k9 : ((Rows.gateAgainRow.inPlace == Try.prog.inPlace 11)) = true := by kernel_rfl
theorem k10 : ((Rows.gateAgainRow.unfollowed == Try.prog.unfollowed 11)) = true := by kernel_rfl
theorem k11 : ((Rows.gateAgainRow.recurses == Try.prog.recurses 11)) = true := by kernel_rfl
theorem k12 : ((Rows.gateAgainRow.named == Try.prog.varsNamed 11)) = true := by kernel_rfl
theorem k13 : ((Rows.gateAgainRow.maps == (Try.f11.params.toList ++ Rows.gateAgainSpec.plain.varTypes Try.prog).any (Try.prog.mapsRec ·))) = true := by kernel_rfl
theorem k14 : ((Rows.gateAgainRow.ifaces == (Try.f11.params.toList ++ Rows.gateAgainSpec.plain.varTypes Try.prog).any (Try.prog.ifacesRec ·))) = true := by kernel_rfl
theorem k15 : ((Rows.gateAgainRow.mapsOut == Try.prog.mapsAmong Try.f11.resultTypes.toList)) = true := by kernel_rfl
theorem k16 : ((Rows.gateAgainRow.loops == (Try.f11.params.toList ++ Rows.gateAgainSpec.plain.varTypes Try.prog).any (Try.prog.loopsFrom ·))) = true := by kernel_rfl
theorem k17 : ((Rows.gateAgainRow.wideKeys == (Try.f11.params.toList ++ Rows.gateAgainSpec.plain.varTypes Try.prog ++ Try.f11.resultTypes.toList).any (Try.prog.wideKeysFrom ·))) = true := by kernel_rfl
theorem k18 : (Rows.gateAgainSpec.vars.all (Try.prog.varReadable ·)) = true := by kernel_rfl
theorem k19 : (Try.f11.resultTypes.all (fun t => Try.prog.readableRec t && decide (t < Try.prog.types.size))) = true := by kernel_rfl
theorem k20 : ((Rows.gateAgainRow.ifacesOut == Try.f11.resultTypes.toList.any (Try.prog.ifacesRec ·))) = true := by kernel_rfl
theorem k21 : ((Rows.gateAgainRow.loopsOut == Try.f11.resultTypes.toList.any (Try.prog.loopsFrom ·))) = true := by kernel_rfl
theorem k22 : ((Rows.gateAgainRow.plainKeys == Try.prog.plainKeys)) = true := by kernel_rfl
theorem k23 : (Rows.gateAgainRow.shortTexts.isNone) = true := by kernel_rfl
theorem k24 : (Try.prog.stopsHeard) = true := by kernel_rfl
theorem k25 : (Try.prog.mayEnter) = true := by kernel_rfl
theorem k26 : ((Rows.gateAgainRow.lifted == Try.prog.liftsFinal)) = true := by kernel_rfl
theorem k27 : ((Try.prog.make == some Rows.gateAgainRow.make)) = true := by kernel_rfl
theorem k29 : ((Rows.gateAgainRow.pinned == Rows.gateAgainRow.pinnedBy)) = true := by kernel_rfl
theorem k30 : ((Rows.gateAgainRow.veiled == (Try.f11.params.toList ++ Rows.gateAgainSpec.plain.varTypes Try.prog ++ Try.f11.resultTypes.toList).any (Try.prog.veiledRec ·))) = true := by kernel_rfl
theorem k31 : (Rows.gateAgainRow.veiledFits Try.prog Try.f11.params.toList (Try.f11.params.toList ++ Rows.gateAgainSpec.plain.varTypes Try.prog ++ Try.f11.resultTypes.toList)) = true := by kernel_rfl
theorem closed : joinedFacts Try.prog 11 Try.f11 Rows.gateAgainSpec Rows.gateAgainRow = true := by
  unfold joinedFacts
  simp only [k0, k1, k2, k3, k4, k5, k6, k7, k8, k9, k10, k11, k12, k13, k14, k15, k16, k17, k18, k19, k20, k21, k22, k23, k24, k25, k26, k27, k29, k30, k31, Bool.and_self]
  kernel_rfl
theorem named : Try.pinned.checked.prog.funcNamed Rows.gateAgainRow.func = some 11 := by kernel_rfl
theorem inst : Try.f11.isInstance Try.pinned.checked.prog Rows.gateAgainRow.origin Rows.gateAgainRow.targs := of_decide_eq_true (by kernel_rfl)
theorem wrapper : Try.f11.isWrapper Try.pinned.checked.prog Rows.gateAgainRow.wrapper Rows.gateAgainRow.mainSum := by unfold Func.isWrapper; first | (rw [if_pos (by decide +kernel)]; kernel_rfl) | (rw [if_neg (by decide +kernel)]; exact ⟨rfl, rfl⟩)
end Go.Proofs.Ytmliekdbhefpkaa.GateAgainDone
