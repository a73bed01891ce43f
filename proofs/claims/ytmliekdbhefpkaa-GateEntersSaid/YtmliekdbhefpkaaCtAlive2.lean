/- Names of environments. -/
import Derived.Test.YtmliekdbhefpkaaCtFrameLaw
import Derived.Test.YtmliekdbhefpkaaEvAlias2
namespace Go.Proofs.Ytmliekdbhefpkaa.Ct
open Go Go.Proofs Go.Proofs.Ytmliekdbhefpkaa.Ev

noncomputable def E13 : Env := E11
theorem E13ok : EnvOk E13 := E11ok
noncomputable def E14 : Env := E13.add 39 gOfW
theorem E14ok : EnvOk E14 := E13ok.add gOfW_ok
end Go.Proofs.Ytmliekdbhefpkaa.Ct
