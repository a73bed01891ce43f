/- What the example of beginnings is asked in. -/
import Derived.Test.YtjkohcdgjlaobaaCtOpenR
namespace Go.Proofs.Ytjkohcdgjlaobaa.Ct
open Go Go.Proofs Go.Proofs.Ytjkohcdgjlaobaa.Ev
open Go.RowKit

abbrev anT : TypeId := 45
noncomputable def E49 : Env := E48.addEq anT [.i .i64, .i .u64, .i .u64]
theorem E49ok : EnvOk E49 := E48ok.addEq (eq_struct (E := E48) (t := anT) (ks := [.i .i64, .i .u64, .i .u64]) (by kernel_rfl) (by kernel_rfl))
noncomputable def E49n : Env := E49.add 22 gNw
theorem E49nok : EnvOk E49n := E49ok.add gNw_ok
abbrev c9 : Cfg := ⟨1, 1, 1, 9, 9⟩
abbrev m90 : Mm := nwM c9
abbrev m91 : Mm := mSt m90 1 0 80
abbrev r91 : Nat × Op × Mm := opRun 30 0 op0 m91
abbrev r92 : Nat × Op × Mm := opRun 30 0 op0 r91.2.2
end Go.Proofs.Ytjkohcdgjlaobaa.Ct
