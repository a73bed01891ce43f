/- The example of writes goes well. -/
import Derived.Test.YtocfhiafegkfkaaGreatCtWriteR
import Derived.Test.YtocfhiafegkfkaaGreatCtEq
namespace Go.Proofs.YtocfhiafegkfkaaGreat.Ct
open Go Go.Proofs Go.Proofs.YtocfhiafegkfkaaGreat.Ev
open Go.RowKit

abbrev spotT' : TypeId := 40
noncomputable def Ev3 : Env := Ev2.addEq spotT' [.i .i64, .i .i64]
theorem Ev3ok : EnvOk Ev3 := Ev2ok.addEq (eq_struct (E := Ev2) (t := spotT') (ks := [.i .i64, .i .i64]) (by kernel_rfl) (by kernel_rfl))
noncomputable def Ev3n : Env := Ev3.add 51 gNw
theorem Ev3nok : EnvOk Ev3n := Ev3ok.add gNw_ok
abbrev c13 : Cfg := ⟨1, 2, 2, 0, 0⟩
abbrev m130 : Mm := nwM c13
abbrev m131 : Mm := mSt m130 4 0 (nwI 2 0)
abbrev m132 : Mm := mSt m131 4 1 (nwI 2 0)
abbrev m133 : Mm := mSt m132 8 0 2
abbrev m134 : Mm := mSt m133 8 1 8192
abbrev wa13 : Wt := wrOf c13 1 0
abbrev wb13 : Wt := wrOf c13 1 1
abbrev wd13 : Wt := wrOf c13 1 2
abbrev W13 : Nat × Wt × Mm := wrRun 50 0 wa13 m134
abbrev m135 : Mm := mLd W13.2.2 4 0
abbrev X13 : Nat × Wt × Mm := wrRun 50 0 wb13 m135
theorem zW13 (c : Cfg) : WfW (zW c) := fun x hx => by
  unfold zW at hx
  rw [List.mem_replicate] at hx
  rw [hx.2]
  exact ⟨by decide, by decide⟩
open Dec in
theorem alive13 : CallC Tryz.prog 12 [] ⟨[], 0, []⟩ (.bool true) ⟨[], 0, []⟩ := by
  have h0 : m130.ok := nwM_ok (by decide)
  have w1 : Wd (nwI 2 0) := by constructor <;> decide
  have w5 : Wd (nwI 5 0) := by constructor <;> decide
  have hw0 : WfW m130.w := zW13 _
  have h1 : m131.ok := acc_ok h0 (setW_len _ _ _)
  have h2 : m132.ok := acc_ok h1 (setW_len _ _ _)
  have h3 : m133.ok := acc_ok h2 (setW_len _ _ _)
  have h4 : m134.ok := acc_ok h3 (setW_len _ _ _)
  have hw1 : WfW m131.w := hw0.setW (cellIx c13 4 0) w1.1 w1.2
  have hw2 : WfW m132.w := hw1.setW (cellIx c13 4 1) w1.1 w1.2
  have hw3 : WfW m133.w := hw2.setW (cellIx c13 8 0) (v := 2) (by decide) (by decide)
  have hw4 : WfW m134.w := hw3.setW (cellIx c13 8 1) (v := 8192) (by decide) (by decide)
  have wd1 : Wd 1 := by constructor <;> decide
  have ga : wrGood wa13 m134 := ⟨h4, hw4, wrOf_good _ wd1 _⟩
  have gr : wrGood W13.2.1 W13.2.2 := wrRun_good 50 0 _ _ ga
  have gb : wrGood wb13 m135 := ⟨acc_ok gr.1 rfl, gr.2.1, wrOf_good _ wd1 _⟩
  have gx : wrGood X13.2.1 X13.2.2 := wrRun_good 50 0 _ _ gb
  have gd : wd13.good := wrOf_good _ wd1 _
  have nw : NwP 2 0 := by decide
  have n5 : NwP 5 0 := by decide
  exact path Ev3nok 20 (ds := List.replicate 120 .l) (pc := [c13.Right, NwP 2 0, m130.ok, NwP 2 0, m131.ok, m132.ok, m133.ok, isNewW c13 1 0, isNewW c13 1 1, isNewW c13 1 2, wrP (rng 8 15) wa13, qRunW 50 wa13 m134, W13.2.2.ok, wrP (rng 23 15) wb13, qRunW 50 wb13 m135, wrP (8 :: rng 53 14) W13.2.1, qAskW W13.2.1, NwP 2 0, Wd (nwI 2 0), X13.2.2.ok, NwP 2 0, Wd (nwI 2 0), (mLd X13.2.2 4 1).ok, wrP (23 :: rng 68 14) X13.2.1, qAskW X13.2.1, (mLd (mLd X13.2.2 4 1) 8 0).ok, NwP 5 0, Wd (nwI 5 0), wrP (rng 38 15) wd13, qAskW wd13, wrP (rng 38 15) wd13, qAskW wd13]) (by kernel_rfl)
    (pcs_of ⟨by decide, nw, h0, nw, h1, h2, h3, isNewW_ok _ wd1 _, isNewW_ok _ wd1 _, isNewW_ok _ wd1 _, wrP_ok _ _, qRunW_ok 50 (by decide) ga, gr.1, wrP_ok _ _, qRunW_ok 50 (by decide) gb, wrP_ok _ _, qAskW_ok gr.2.2, nw, w1, gx.1, nw, w1, acc_ok gx.1 rfl, wrP_ok _ _, qAskW_ok gx.2.2, acc_ok (acc_ok gx.1 rfl) rfl, n5, w5, wrP_ok _ _, qAskW_ok gd, wrP_ok _ _, qAskW_ok gd, trivial⟩) rfl
noncomputable def Ev4 : Env := Ev3.add 12 gAlive
theorem Ev4ok : EnvOk Ev4 := Ev3ok.add (gAlive_ok (enters (fn := Tryz.f12) (by kernel_rfl) (by kernel_rfl) rfl) alive13)
noncomputable def Ev4o : Env := Ev4.add 23 gOfW
theorem Ev4ook : EnvOk Ev4o := Ev4ok.add gOfW_ok
noncomputable def Ev4n : Env := Ev4.add 51 gNw
theorem Ev4nok : EnvOk Ev4n := Ev4ok.add gNw_ok
end Go.Proofs.YtocfhiafegkfkaaGreat.Ct
