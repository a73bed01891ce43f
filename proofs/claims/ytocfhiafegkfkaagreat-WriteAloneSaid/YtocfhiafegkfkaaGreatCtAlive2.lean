/- Names of environments. -/
import Derived.Test.YtocfhiafegkfkaaGreatCtFrameLaw
import Derived.Test.YtocfhiafegkfkaaGreatEvAlias2
namespace Go.Proofs.YtocfhiafegkfkaaGreat.Ct
open Go Go.Proofs Go.Proofs.YtocfhiafegkfkaaGreat.Ev

noncomputable def E13 : Env := E11
theorem E13ok : EnvOk E13 := E11ok
noncomputable def E14 : Env := E13.add 23 gOfW
theorem E14ok : EnvOk E14 := E13ok.add gOfW_ok
end Go.Proofs.YtocfhiafegkfkaaGreat.Ct
