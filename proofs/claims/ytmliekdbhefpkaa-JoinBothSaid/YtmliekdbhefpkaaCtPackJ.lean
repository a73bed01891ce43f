/- The layer's contracts, with a status's packing. -/
import Derived.Test.YtmliekdbhefpkaaCtAl11
import Derived.Test.YtmliekdbhefpkaaCtPack
namespace Go.Proofs.Ytmliekdbhefpkaa.Ct
open Go Go.Proofs Go.Proofs.Ytmliekdbhefpkaa.Ev
open Go.RowKit

noncomputable def E53p : Env := E53.add packF gPack
theorem E53pok : EnvOk E53p := E53ok.add gPack_ok
noncomputable def E51p : Env := E51.add packF gPack
theorem E51pok : EnvOk E51p := E51ok.add gPack_ok
end Go.Proofs.Ytmliekdbhefpkaa.Ct
