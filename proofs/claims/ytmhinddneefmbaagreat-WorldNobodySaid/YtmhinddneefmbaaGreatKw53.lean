/- carracklaw21.WorldNobody answers true at every input, and leaves what it reads as it was. No condition. -/
import Derived.Test.YtmhinddneefmbaaGreatKw51
import Derived.Test.YtmhinddneefmbaaGreatKw52
set_option linter.unusedSimpArgs false
set_option linter.unusedVariables false
set_option linter.unusedSectionVars false
namespace Go.Proofs.YtmhinddneefmbaaGreat
open Go
theorem worldNobody_holds : Rows.WorldNobodySaid :=
  OpenClaim.holds_of_wide 3 Tryz.f3 rfl rfl rfl rfl rfl rfl rfl ⟨rfl, rfl, rfl, rfl, rfl⟩ rfl rfl rfl rfl rfl Pe.worldNobody_named Tryz.func3 Pe.worldNobody_facts
    Pe.worldNobody_inst Pe.worldNobody_wrap (fun os started H enc _ => Pe.worldNobody_lifted os started H enc)
end Go.Proofs.YtmhinddneefmbaaGreat
