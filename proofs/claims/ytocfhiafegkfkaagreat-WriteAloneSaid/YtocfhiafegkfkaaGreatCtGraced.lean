/- Names of environments. -/
import Derived.Test.YtocfhiafegkfkaaGreatCtNew
import Derived.Test.YtocfhiafegkfkaaGreatCtPlay
namespace Go.Proofs.YtocfhiafegkfkaaGreat.Ct
open Go Go.Proofs Go.Proofs.YtocfhiafegkfkaaGreat.Ev

noncomputable def E19 : Env := E15
theorem E19ok : EnvOk E19 := E15ok
end Go.Proofs.YtocfhiafegkfkaaGreat.Ct
