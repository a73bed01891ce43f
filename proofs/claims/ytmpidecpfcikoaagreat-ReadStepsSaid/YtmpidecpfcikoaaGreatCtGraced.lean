/- Names of environments. -/
import Derived.Test.YtmpidecpfcikoaaGreatCtNew
import Derived.Test.YtmpidecpfcikoaaGreatCtPlay
namespace Go.Proofs.YtmpidecpfcikoaaGreat.Ct
open Go Go.Proofs Go.Proofs.YtmpidecpfcikoaaGreat.Ev

noncomputable def E19 : Env := E15
theorem E19ok : EnvOk E19 := E15ok
end Go.Proofs.YtmpidecpfcikoaaGreat.Ct
