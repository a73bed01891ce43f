/- The closed facts of 'GateAlone'. -/
import Derived.Test.YtmliekdbhefpkaaRows
import Derived.Test.YtmliekdbhefpkaaChecked
import Derived.ProofKit
import Derived.ChangeOld
import Derived.KernelRfl
namespace Go.Proofs.Ytmliekdbhefpkaa.GateAloneDone
open Go Go.Proofs

theorem k0 : (Rows.gateAloneRow.wf (OpenSpec.ofChange Rows.gateAloneSpec)) = true := by kernel_rfl
theorem k1 : (laidOutB Try.prog) = true := by kernel_rfl
theorem k2 : (mapsRowed Try.prog) = true := by kernel_rfl
theorem k3 : (Try.f21.params.all (Try.prog.readableRec ·)) = true := by kernel_rfl
theorem k4 : (namedTie Try.prog Rows.gateAloneRow.named Rows.gateAloneSpec.vars) = true := by kernel_rfl
theorem k5 : ((Rows.gateAloneRow.stops == [])) = true := by kernel_rfl
theorem k6 : ((Try.prog.stops == [])) = true := by kernel_rfl
theorem k7 : ((Rows.gateAloneRow.knobs == [])) = true := by kernel_rfl
theorem k8 : ((Try.prog.stopKnobs == [])) = true := by kernel_rfl
theorem k9 : ((Rows.gateAloneRow.inPlace == Try.prog.inPlace 21)) = true := by kernel_rfl
theorem k10 : ((Rows.gateAloneRow.unfollowed == Try.prog.unfollowed 21)) = true := by kernel_rfl
theorem k11 : ((Rows.gateAloneRow.recurses == Try.prog.recurses 21)) = true := by kernel_rfl
theorem k12 : ((Rows.gateAloneRow.named == Try.prog.varsNamed 21)) = true := by kernel_rfl
theorem k13 : ((Rows.gateAloneRow.maps == (Try.f21.params.toList ++ Rows.gateAloneSpec.plain.varTypes Try.prog).any (Try.prog.mapsRec ·))) = true := by kernel_rfl
theorem k14 : ((Rows.gateAloneRow.ifaces == (Try.f21.params.toList ++ Rows.gateAloneSpec.plain.varTypes Try.prog).any (Try.prog.ifacesRec ·))) = true := by kernel_rfl
theorem k15 : ((Rows.gateAloneRow.mapsOut == Try.prog.mapsAmong Try.f21.resultTypes.toList)) = true := by kernel_rfl
theorem k16 : ((Rows.gateAloneRow.loops == (Try.f21.params.toList ++ Rows.gateAloneSpec.plain.varTypes Try.prog).any (Try.prog.loopsFrom ·))) = true := by kernel_rfl
theorem k17 : ((Rows.gateAloneRow.wideKeys == (Try.f21.params.toList ++ Rows.gateAloneSpec.plain.varTypes Try.prog ++ Try.f21.resultTypes.toList).any (Try.prog.wideKeysFrom ·))) = true := by kernel_rfl
theorem k18 : (Rows.gateAloneSpec.vars.all (Try.prog.varReadable ·)) = true := by kernel_rfl
theorem k19 : (Try.f21.resultTypes.all (fun t => Try.prog.readableRec t && decide (t < Try.prog.types.size))) = true := by kernel_rfl
theorem k20 : ((Rows.gateAloneRow.ifacesOut == Try.f21.resultTypes.toList.any (Try.prog.ifacesRec ·))) = true := by kernel_rfl
theorem k21 : ((Rows.gateAloneRow.loopsOut == Try.f21.resultTypes.toList.any (Try.prog.loopsFrom ·))) = true := by kernel_rfl
theorem k22 : ((Rows.gateAloneRow.plainKeys == Try.prog.plainKeys)) = true := by kernel_rfl
theorem k23 : (Rows.gateAloneRow.shortTexts.isNone) = true := by kernel_rfl
theorem k24 : (Try.prog.stopsHeard) = true := by kernel_rfl
theorem k25 : (Try.prog.mayEnter) = true := by kernel_rfl
theorem k26 : ((Rows.gateAloneRow.lifted == Try.prog.liftsFinal)) = true := by kernel_rfl
theorem k27 : ((Try.prog.make == some Rows.gateAloneRow.make)) = true := by kernel_rfl
theorem k29 : ((Rows.gateAloneRow.pinned == Rows.gateAloneRow.pinnedBy)) = true := by kernel_rfl
theorem k30 : ((Rows.gateAloneRow.veiled == (Try.f21.params.toList ++ Rows.gateAloneSpec.plain.varTypes Try.prog ++ Try.f21.resultTypes.toList).any (Try.prog.veiledRec ·))) = true := by kernel_rfl
theorem k31 : (Rows.gateAloneRow.veiledFits Try.prog Try.f21.params.toList (Try.f21.params.toList ++ Rows.gateAloneSpec.plain.varTypes Try.prog ++ Try.f21.resultTypes.toList)) = true := by kernel_rfl
theorem closed : joinedFacts Try.prog 21 Try.f21 Rows.gateAloneSpec Rows.gateAloneRow = true := by
  unfold joinedFacts
  simp only [k0, k1, k2, k3, k4, k5, k6, k7, k8, k9, k10, k11, k12, k13, k14, k15, k16, k17, k18, k19, k20, k21, k22, k23, k24, k25, k26, k27, k29, k30, k31, Bool.and_self]
  kernel_rfl
theorem named : Try.pinned.checked.prog.funcNamed Rows.gateAloneRow.func = some 21 := by kernel_rfl
theorem inst : Try.f21.isInstance Try.pinned.checked.prog Rows.gateAloneRow.origin Rows.gateAloneRow.targs := of_decide_eq_true (by kernel_rfl)
theorem wrapper : Try.f21.isWrapper Try.pinned.checked.prog Rows.gateAloneRow.wrapper Rows.gateAloneRow.mainSum := by unfold Func.isWrapper; first | (rw [if_pos (by decide +kernel)]; kernel_rfl) | (rw [if_neg (by decide +kernel)]; exact ⟨rfl, rfl⟩)
end Go.Proofs.Ytmliekdbhefpkaa.GateAloneDone
