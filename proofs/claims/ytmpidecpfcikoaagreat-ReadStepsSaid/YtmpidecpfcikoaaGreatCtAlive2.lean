/- Names of environments. -/
import Derived.Test.YtmpidecpfcikoaaGreatCtFrameLaw
import Derived.Test.YtmpidecpfcikoaaGreatEvAlias2
namespace Go.Proofs.YtmpidecpfcikoaaGreat.Ct
open Go Go.Proofs Go.Proofs.YtmpidecpfcikoaaGreat.Ev

noncomputable def E13 : Env := E11
theorem E13ok : EnvOk E13 := E11ok
noncomputable def E14 : Env := E13.add 9 gOfW
theorem E14ok : EnvOk E14 := E13ok.add gOfW_ok
end Go.Proofs.YtmpidecpfcikoaaGreat.Ct
