/- Names of environments. -/
import Derived.Test.YtmliekdbhefpkaaCtNew
import Derived.Test.YtmliekdbhefpkaaCtPlay
namespace Go.Proofs.Ytmliekdbhefpkaa.Ct
open Go Go.Proofs Go.Proofs.Ytmliekdbhefpkaa.Ev

noncomputable def E19 : Env := E15
theorem E19ok : EnvOk E19 := E15ok
end Go.Proofs.Ytmliekdbhefpkaa.Ct
