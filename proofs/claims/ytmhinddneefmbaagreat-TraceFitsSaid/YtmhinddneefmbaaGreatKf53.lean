/- carracklaw22.TraceFits answers true at every input, and leaves what it reads as it was. No condition. -/
import Derived.Test.YtmhinddneefmbaaGreatKf51
import Derived.Test.YtmhinddneefmbaaGreatKf52
set_option linter.unusedSimpArgs false
set_option linter.unusedVariables false
set_option linter.unusedSectionVars false
namespace Go.Proofs.YtmhinddneefmbaaGreat
open Go
theorem traceFits_holds : Rows.TraceFitsSaid :=
  OpenClaim.holds_of_wide 4 Tryz.f4 rfl rfl rfl rfl rfl rfl rfl ⟨rfl, rfl, rfl, rfl, rfl⟩ rfl rfl rfl rfl rfl Pe.traceFits_named Tryz.func4 Pe.traceFits_facts
    Pe.traceFits_inst Pe.traceFits_wrap (fun os started H enc _ => Pe.traceFits_lifted os started H enc)
end Go.Proofs.YtmhinddneefmbaaGreat
