/- The example of beginnings goes well. -/
import Derived.Test.YtjkohcdgjlaobaaCtAl9a
namespace Go.Proofs.Ytjkohcdgjlaobaa.Ct
open Go Go.Proofs Go.Proofs.Ytjkohcdgjlaobaa.Ev
open Go.RowKit

theorem zW_wf (c : Cfg) : WfW (zW c) := fun x hx => by
  unfold zW at hx
  rw [List.mem_replicate] at hx
  rw [hx.2]
  exact ⟨by decide, by decide⟩
theorem op0_good : op0.good := ⟨by decide, by decide, wd0, wd0, wd0, wd0, fun e => by cases e⟩
abbrev oP (ns : List Nat) (o : Op) : Prop := isHid opF ns (Op.enc o) (bl opF ns (Op.enc o) ns 0)
abbrev q30 (o : Op) (m : Mm) : Prop := ([.int .i64 30] : List Value) = [.int .i64 30] ∧ 30 ≤ 1000 ∧ isOp o.enc ∧ opGood o m
abbrev qAsk (o : Op) : Prop := ([] : List Value) = [] ∧ isOp o.enc ∧ o.good
theorem alive09 : CallC Try.prog 12 [] ⟨[], 0, []⟩ (.bool true) ⟨[], 0, []⟩ := by
  have h0 : m90.ok := nwM_ok (by decide)
  have hw0 : WfW m90.w := zW_wf _
  have h1 : opGood op0 m91 := ⟨acc_ok h0 (setW_len _ _ _), hw0.setW (cellIx c9 1 0) (v := 80) (by decide) (by decide), op0_good⟩
  have h2 : opGood r91.2.1 r91.2.2 := opRun_good 30 0 _ _ h1
  have h3 : opGood op0 r91.2.2 := ⟨h2.1, h2.2.1, op0_good⟩
  have h4 : opGood r92.2.1 r92.2.2 := opRun_good 30 0 _ _ h3
  exact path E49nok 20 (ds := List.replicate 60 .l) (pc := [c9.Right, ([] : List Value) = [], ([] : List Value) = [], m90.ok, oP [2, 3, 4] op0, q30 op0 m91, oP [5, 6, 7] op0, q30 op0 r91.2.2, oP [2, 9, 10] r91.2.1, qAsk r91.2.1, oP [5, 11, 12] r92.2.1, qAsk r92.2.1, oP [2, 9, 10] r91.2.1, qAsk r91.2.1, oP [5, 11, 12] r92.2.1, qAsk r92.2.1, r92.2.2.ok, NwP 2 0, (mLd r92.2.2 4 0).ok]) (by kernel_rfl)
    (pcs_of ⟨by decide, rfl, rfl, h0, rfl, ⟨rfl, by decide, rfl, h1⟩, rfl, ⟨rfl, by decide, rfl, h3⟩, rfl, ⟨rfl, rfl, h2.2.2⟩, rfl, ⟨rfl, rfl, h4.2.2⟩, rfl, ⟨rfl, rfl, h2.2.2⟩, rfl, ⟨rfl, rfl, h4.2.2⟩, h4.1, by decide, acc_ok h4.1 rfl, trivial⟩) rfl
noncomputable def E50 : Env := E49.add 12 gAlive
theorem E50ok : EnvOk E50 := E49ok.add (gAlive_ok (enters (fn := Try.f12) (by kernel_rfl) (by kernel_rfl) rfl) alive09)
noncomputable def E50o : Env := E50.add 10 gOfW
theorem E50ook : EnvOk E50o := E50ok.add gOfW_ok
noncomputable def E50n : Env := E50.add 22 gNw
theorem E50nok : EnvOk E50n := E50ok.add gNw_ok
end Go.Proofs.Ytjkohcdgjlaobaa.Ct
