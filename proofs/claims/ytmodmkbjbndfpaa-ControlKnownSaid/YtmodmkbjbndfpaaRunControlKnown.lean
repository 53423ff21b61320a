/- ControlKnown: the functions that its law reaches, as plain functions, and that the machine's calls come to what these say. Conditions: those that stand at each. -/
import Derived.Test.YtmodmkbjbndfpaaRunControlKnownP2
set_option linter.all false
namespace Go.Proofs.Ytmodmkbjbndfpaa
open Go.RowKit Go.Proofs.Ytmodmkbjbndfpaa.Sep Go.Proofs.Ytmodmkbjbndfpaa.Walk
def signalmanlaw12_ControlKnown.Pure : Prop := ∀ (a0 : Int), (Lit.int .i64 a0).wf = true → signalmanlaw12_ControlKnown.f a0 = some true
end Go.Proofs.Ytmodmkbjbndfpaa
