/- Names of environments. -/
import Derived.Test.YtjkohcdgjlaobaaCtNew
import Derived.Test.YtjkohcdgjlaobaaCtPlay
namespace Go.Proofs.Ytjkohcdgjlaobaa.Ct
open Go Go.Proofs Go.Proofs.Ytjkohcdgjlaobaa.Ev

noncomputable def E19 : Env := E15
theorem E19ok : EnvOk E19 := E15ok
end Go.Proofs.Ytjkohcdgjlaobaa.Ct
