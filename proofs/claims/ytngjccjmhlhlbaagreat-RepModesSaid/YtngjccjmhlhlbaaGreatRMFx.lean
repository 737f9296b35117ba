/- What is known of some functions at the arguments that the law gives them -/
import Derived.Test.YtngjccjmhlhlbaaGreatRMEnv
set_option linter.unusedVariables false
set_option linter.unusedSimpArgs false
set_option linter.unusedSectionVars false
namespace Go.Den
open Go
set_option maxRecDepth 1000000
variable [Val]
noncomputable def o0 : Nat → Option (List AV → Option AV) := fun _ => none
theorem oOk0 : ∀ g ψ, o0 g = some ψ → Fact Go.Proofs.Tryz.prog g ψ := fun g ψ h => by cases h
noncomputable def E_0 : Env := { E0 with orc := o0 }
theorem ok0 : EnvOk Go.Proofs.Tryz.prog E_0 := base.ok o0 oOk0
end Go.Den
