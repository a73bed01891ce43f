/- The closed facts of 'WriteAlone'. -/
import Derived.Test.YtocfhiafegkfkaaGreatRows
import Derived.Test.YtocfhiafegkfkaaGreatChecked
import Derived.ProofKit
import Derived.ChangeOld
import Derived.KernelRfl
namespace Go.Proofs.YtocfhiafegkfkaaGreat.WriteAloneDone
open Go Go.Proofs

theorem k0 : (Rows.writeAloneRow.wf (OpenSpec.ofChange Rows.writeAloneSpec)) = true := by kernel_rfl
theorem k1 : (laidOutB Tryz.prog) = true := by kernel_rfl
theorem k2 : (mapsRowed Tryz.prog) = true := by kernel_rfl
theorem k3 : (Tryz.f4.params.all (Tryz.prog.readableRec ·)) = true := by kernel_rfl
theorem k4 : (namedTie Tryz.prog Rows.writeAloneRow.named Rows.writeAloneSpec.vars) = true := by kernel_rfl
theorem k5 : ((Rows.writeAloneRow.stops == [])) = true := by kernel_rfl
theorem k6 : ((Tryz.prog.stops == [])) = true := by kernel_rfl
theorem k7 : ((Rows.writeAloneRow.knobs == [])) = true := by kernel_rfl
theorem k8 : ((Tryz.prog.stopKnobs == [])) = true := by kernel_rfl
theorem k9 : ((Rows.writeAloneRow.inPlace == Tryz.prog.inPlace 4)) = true := by kernel_rfl
theorem k10 : ((Rows.writeAloneRow.unfollowed == Tryz.prog.unfollowed 4)) = true := by kernel_rfl
theorem k11 : ((Rows.writeAloneRow.recurses == Tryz.prog.recurses 4)) = true := by kernel_rfl
theorem k12 : ((Rows.writeAloneRow.named == Tryz.prog.varsNamed 4)) = true := by kernel_rfl
theorem k13 : ((Rows.writeAloneRow.maps == (Tryz.f4.params.toList ++ Rows.writeAloneSpec.plain.varTypes Tryz.prog).any (Tryz.prog.mapsRec ·))) = true := by kernel_rfl
theorem k14 : ((Rows.writeAloneRow.ifaces == (Tryz.f4.params.toList ++ Rows.writeAloneSpec.plain.varTypes Tryz.prog).any (Tryz.prog.ifacesRec ·))) = true := by kernel_rfl
theorem k15 : ((Rows.writeAloneRow.mapsOut == Tryz.prog.mapsAmong Tryz.f4.resultTypes.toList)) = true := by kernel_rfl
theorem k16 : ((Rows.writeAloneRow.loops == (Tryz.f4.params.toList ++ Rows.writeAloneSpec.plain.varTypes Tryz.prog).any (Tryz.prog.loopsFrom ·))) = true := by kernel_rfl
theorem k17 : ((Rows.writeAloneRow.wideKeys == (Tryz.f4.params.toList ++ Rows.writeAloneSpec.plain.varTypes Tryz.prog ++ Tryz.f4.resultTypes.toList).any (Tryz.prog.wideKeysFrom ·))) = true := by kernel_rfl
theorem k18 : (Rows.writeAloneSpec.vars.all (Tryz.prog.varReadable ·)) = true := by kernel_rfl
theorem k19 : (Tryz.f4.resultTypes.all (fun t => Tryz.prog.readableRec t && decide (t < Tryz.prog.types.size))) = true := by kernel_rfl
theorem k20 : ((Rows.writeAloneRow.ifacesOut == Tryz.f4.resultTypes.toList.any (Tryz.prog.ifacesRec ·))) = true := by kernel_rfl
theorem k21 : ((Rows.writeAloneRow.loopsOut == Tryz.f4.resultTypes.toList.any (Tryz.prog.loopsFrom ·))) = true := by kernel_rfl
theorem k22 : ((Rows.writeAloneRow.plainKeys == Tryz.prog.plainKeys)) = true := by kernel_rfl
theorem k23 : (Rows.writeAloneRow.shortTexts.isNone) = true := by kernel_rfl
theorem k24 : (Tryz.prog.stopsHeard) = true := by kernel_rfl
theorem k25 : (Tryz.prog.mayEnter) = true := by kernel_rfl
theorem k26 : ((Rows.writeAloneRow.lifted == Tryz.prog.liftsFinal)) = true := by kernel_rfl
theorem k27 : ((Tryz.prog.make == some Rows.writeAloneRow.make)) = true := by kernel_rfl
theorem k29 : ((Rows.writeAloneRow.pinned == Rows.writeAloneRow.pinnedBy)) = true := by kernel_rfl
theorem k30 : ((Rows.writeAloneRow.veiled == (Tryz.f4.params.toList ++ Rows.writeAloneSpec.plain.varTypes Tryz.prog ++ Tryz.f4.resultTypes.toList).any (Tryz.prog.veiledRec ·))) = true := by kernel_rfl
theorem k31 : (Rows.writeAloneRow.veiledFits Tryz.prog Tryz.f4.params.toList (Tryz.f4.params.toList ++ Rows.writeAloneSpec.plain.varTypes Tryz.prog ++ Tryz.f4.resultTypes.toList)) = true := by kernel_rfl
theorem closed : joinedFacts Tryz.prog 4 Tryz.f4 Rows.writeAloneSpec Rows.writeAloneRow = true := by
  unfold joinedFacts
  simp only [k0, k1, k2, k3, k4, k5, k6, k7, k8, k9, k10, k11, k12, k13, k14, k15, k16, k17, k18, k19, k20, k21, k22, k23, k24, k25, k26, k27, k29, k30, k31, Bool.and_self]
  kernel_rfl
theorem named : Tryz.pinned.checked.prog.funcNamed Rows.writeAloneRow.func = some 4 := by kernel_rfl
theorem inst : Tryz.f4.isInstance Tryz.pinned.checked.prog Rows.writeAloneRow.origin Rows.writeAloneRow.targs := of_decide_eq_true (by kernel_rfl)
theorem wrapper : Tryz.f4.isWrapper Tryz.pinned.checked.prog Rows.writeAloneRow.wrapper Rows.writeAloneRow.mainSum := by unfold Func.isWrapper; first | (rw [if_pos (by decide +kernel)]; kernel_rfl) | (rw [if_neg (by decide +kernel)]; exact ⟨rfl, rfl⟩)
end Go.Proofs.YtocfhiafegkfkaaGreat.WriteAloneDone
