/- The layer's contracts, with a status's packing. -/
import Derived.Test.YtmliekdbhefpkaaCtPlain3
import Derived.Test.YtmliekdbhefpkaaCtPack
namespace Go.Proofs.Ytmliekdbhefpkaa.Ct
open Go Go.Proofs Go.Proofs.Ytmliekdbhefpkaa.Ev
open Go.RowKit

noncomputable def Egp : Env := Eg10n.add packF gPack
theorem Egpok : EnvOk Egp := Eg10nok.add gPack_ok
noncomputable def Egq : Env := Eg10a.add packF gPack
theorem Egqok : EnvOk Egq := Eg10aok.add gPack_ok
end Go.Proofs.Ytmliekdbhefpkaa.Ct
