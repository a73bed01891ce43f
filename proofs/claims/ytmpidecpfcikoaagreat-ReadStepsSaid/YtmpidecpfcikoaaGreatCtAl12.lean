/- The example of reads goes well. -/
import Derived.Test.YtmpidecpfcikoaaGreatCtReadR
import Derived.Test.YtmpidecpfcikoaaGreatCtEq
namespace Go.Proofs.YtmpidecpfcikoaaGreat.Ct
open Go Go.Proofs Go.Proofs.YtmpidecpfcikoaaGreat.Ev
open Go.RowKit

abbrev spotT' : TypeId := 48
noncomputable def Er3 : Env := Er2.addEq spotT' [.i .i64, .i .i64]
theorem Er3ok : EnvOk Er3 := Er2ok.addEq (eq_struct (E := Er2) (t := spotT') (ks := [.i .i64, .i .i64]) (by kernel_rfl) (by kernel_rfl))
noncomputable def Er3n : Env := Er3.add 41 gNw
theorem Er3nok : EnvOk Er3n := Er3ok.add gNw_ok
abbrev c12 : Cfg := ⟨1, 2, 1, 0, 0⟩
abbrev m120 : Mm := nwM c12
abbrev m121 : Mm := mSt m120 4 0 (nwI 2 0)
abbrev m122 : Mm := mSt m121 4 1 (nwI 2 0)
abbrev m123 : Mm := mSt m122 8 0 8192
abbrev ra12 : Rd := rdOf c12 1 0
abbrev rb12 : Rd := rdOf c12 1 1
abbrev rd12 : Rd := rdOf c12 3 0
abbrev R12 : Nat × Rd × Mm := rdRun 50 0 ra12 m123
abbrev qRun (n : Nat) (o : Rd) (m : Mm) : Prop := ([.int .i64 (n : Int)] : List Value) = [.int .i64 (n : Int)] ∧ n ≤ 1000 ∧ isRd o.enc ∧ rdGood o m
abbrev isNew (c : Cfg) (h k : Int) : Prop := ∃ c' h' k', ([c.v, .int .u64 h, .int .i64 k] : List Value) = [Cfg.v c', .int .u64 h', .int .i64 k'] ∧ Wd h'
end Go.Proofs.YtmpidecpfcikoaaGreat.Ct
namespace Go.Proofs.YtmpidecpfcikoaaGreat.Ct
open Go Go.Proofs Go.Proofs.YtmpidecpfcikoaaGreat.Ev
open Go.RowKit

theorem zW_wf (c : Cfg) : WfW (zW c) := fun x hx => by
  unfold zW at hx
  rw [List.mem_replicate] at hx
  rw [hx.2]
  exact ⟨by decide, by decide⟩
theorem isNew_ok (c : Cfg) {h : Int} (hh : Wd h) (k : Int) : isNew c h k := ⟨c, h, k, rfl, hh⟩
theorem isRd_enc (o : Rd) : isRd o.enc := rfl
theorem qAsk_ok {o : Rd} (h : o.good) : qAsk o := ⟨rfl, isRd_enc o, h⟩
theorem qGo_ok {o : Rd} {m : Mm} (h : rdGood o m) : qGo o m := ⟨rfl, isRd_enc o, h⟩
theorem qRun_ok {o : Rd} {m : Mm} (n : Nat) (hn : n ≤ 1000) (h : rdGood o m) : qRun n o m := ⟨rfl, hn, isRd_enc o, h⟩
theorem rdP_ok (ns : List Nat) (o : Rd) : rdP ns o := rfl
abbrev nsR12 : List Nat := 6 :: rng 45 12
theorem alive12 : CallC Tryz.prog 11 [] ⟨[], 0, []⟩ (.bool true) ⟨[], 0, []⟩ := by
  have h0 : m120.ok := nwM_ok (by decide)
  have w1 : Wd (nwI 2 0) := by constructor <;> decide
  have hw0 : WfW m120.w := zW_wf _
  have h1 : m121.ok := acc_ok h0 (setW_len _ _ _)
  have h2 : m122.ok := acc_ok h1 (setW_len _ _ _)
  have h3 : m123.ok := acc_ok h2 (setW_len _ _ _)
  have hw1 : WfW m121.w := hw0.setW (cellIx c12 4 0) w1.1 w1.2
  have hw2 : WfW m122.w := hw1.setW (cellIx c12 4 1) w1.1 w1.2
  have hw3 : WfW m123.w := hw2.setW (cellIx c12 8 0) (v := 8192) (by decide) (by decide)
  have wd1 : Wd 1 := by constructor <;> decide
  have wd3 : Wd 3 := by constructor <;> decide
  have ga : rdGood ra12 m123 := ⟨h3, hw3, rdOf_good _ wd1 _⟩
  have gb : rb12.good := rdOf_good _ wd1 _
  have gd : rd12.good := rdOf_good _ wd3 _
  have gr : rdGood R12.2.1 R12.2.2 := rdRun_good 50 0 _ _ ga
  have nw : NwP 2 0 := by decide
  exact path Er3nok 20 (ds := List.replicate 120 .l) (pc := [c12.Right, NwP 2 0, m120.ok, NwP 2 0, m121.ok, m122.ok, isNew c12 1 0, isNew c12 1 1, isNew c12 3 0, rdP (rng 6 13) ra12, qRun 50 ra12 m123, rdP (rng 19 13) rb12, qAsk rb12, rdP (rng 19 13) rb12, qAsk rb12, rdP (rng 32 13) rd12, qAsk rd12, rdP (rng 32 13) rd12, qAsk rd12, rdP nsR12 R12.2.1, qAsk R12.2.1, R12.2.2.ok, NwP 2 0, Wd (nwI 2 0), (mLd R12.2.2 4 0).ok, NwP 2 0, Wd (nwI 2 0), (mLd (mLd R12.2.2 4 0) 4 1).ok]) (by kernel_rfl)
    (pcs_of ⟨by decide, nw, h0, nw, h1, h2, isNew_ok _ wd1 _, isNew_ok _ wd1 _, isNew_ok _ wd3 _, rdP_ok _ _, qRun_ok 50 (by decide) ga, rdP_ok _ _, qAsk_ok gb, rdP_ok _ _, qAsk_ok gb, rdP_ok _ _, qAsk_ok gd, rdP_ok _ _, qAsk_ok gd, rdP_ok _ _, qAsk_ok gr.2.2, gr.1, nw, w1, acc_ok gr.1 rfl, nw, w1, acc_ok (acc_ok gr.1 rfl) rfl, trivial⟩) rfl
noncomputable def Er4 : Env := Er3.add 11 gAlive
theorem Er4ok : EnvOk Er4 := Er3ok.add (gAlive_ok (enters (fn := Tryz.f11) (by kernel_rfl) (by kernel_rfl) rfl) alive12)
noncomputable def Er4o : Env := Er4.add 9 gOfW
theorem Er4ook : EnvOk Er4o := Er4ok.add gOfW_ok
noncomputable def Er4n : Env := Er4.add 41 gNw
theorem Er4nok : EnvOk Er4n := Er4ok.add gNw_ok
end Go.Proofs.YtmpidecpfcikoaaGreat.Ct
