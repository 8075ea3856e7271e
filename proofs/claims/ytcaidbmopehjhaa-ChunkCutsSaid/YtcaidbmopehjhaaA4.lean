/- The functions that may be called, in order of proof. -/
import Derived.Test.YtcaidbmopehjhaaA3
set_option linter.unusedVariables false
namespace Go.AD
def envA : Env := ((env0.add 15 (Tr.wk T15)).add 23 (Tr.wk T23))
@[go_sem] theorem envA15 : envA 15 = Tr.wk T15 := rfl
@[go_sem] theorem envA23 : envA 23 = Tr.wk T23 := rfl
theorem envA_ok (hm : Go.Proofs.Try.prog.follows .mixedOrders = true) : EnvOk Go.Proofs.Try.prog envA := ((env0_ok _).add (F15 hm).wk).add (F23 hm).wk
end Go.AD
