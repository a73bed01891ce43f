/- Names of environments. -/
import Derived.Test.YtjkohcdgjlaobaaCtFrameLaw
import Derived.Test.YtjkohcdgjlaobaaEvAlias2
namespace Go.Proofs.Ytjkohcdgjlaobaa.Ct
open Go Go.Proofs Go.Proofs.Ytjkohcdgjlaobaa.Ev

noncomputable def E13 : Env := E11
theorem E13ok : EnvOk E13 := E11ok
noncomputable def E14 : Env := E13.add 10 gOfW
theorem E14ok : EnvOk E14 := E13ok.add gOfW_ok
end Go.Proofs.Ytjkohcdgjlaobaa.Ct
