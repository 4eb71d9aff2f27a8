/- carracklaw20.MachineNobody answers true at every input, and leaves what it reads as it was. No condition. -/
import Derived.Test.YtdapdiaklpcmjaaGreatKm52
import Derived.Test.YtdapdiaklpcmjaaGreatKm53
set_option linter.unusedSimpArgs false
set_option linter.unusedVariables false
set_option linter.unusedSectionVars false
namespace Go.Proofs.YtdapdiaklpcmjaaGreat
open Go
theorem machineNobody_holds : Rows.MachineNobodySaid :=
  OpenClaim.holds_of_wide 4 Tryz.f4 rfl rfl rfl rfl rfl rfl rfl ⟨rfl, rfl, rfl, rfl, rfl⟩ rfl rfl rfl rfl rfl Pe.machineNobody_named Tryz.func4 Pe.machineNobody_facts
    Pe.machineNobody_inst Pe.machineNobody_wrap (fun os started H enc _ => Pe.machineNobody_lifted os started H enc)
end Go.Proofs.YtdapdiaklpcmjaaGreat
