/- carracklaw16.AuditNobody answers true at every input, and leaves what it reads as it was. No condition. -/
import Derived.Test.YtdapdiaklpcmjaaGreatKa18
import Derived.Test.YtdapdiaklpcmjaaGreatKa19
set_option linter.unusedSimpArgs false
set_option linter.unusedVariables false
set_option linter.unusedSectionVars false
namespace Go.Proofs.YtdapdiaklpcmjaaGreat
open Go
theorem auditNobody_holds : Rows.AuditNobodySaid :=
  OpenClaim.holds_of_wide 3 Tryz.f3 rfl rfl rfl rfl rfl rfl rfl ⟨rfl, rfl, rfl, rfl, rfl⟩ rfl rfl rfl rfl rfl Pe.auditNobody_named Tryz.func3 Pe.auditNobody_facts
    Pe.auditNobody_inst Pe.auditNobody_wrap (fun os started H enc _ => Pe.auditNobody_lifted os started H enc)
end Go.Proofs.YtdapdiaklpcmjaaGreat
