/- A part of the proof of KzA. -/
import Derived.Test.YtdapdiaklpcmjaaGreatKm51
set_option linter.unusedSimpArgs false
set_option linter.unusedVariables false
set_option linter.unusedSectionVars false
namespace Go.Proofs.YtdapdiaklpcmjaaGreat
open Go
theorem Pe.machineNobody_facts : joinedFacts Tryz.pinned.checked.prog 4 Tryz.f4 Rows.machineNobodySpec Rows.machineNobodyRow = true := by kernel_rfl
end Go.Proofs.YtdapdiaklpcmjaaGreat
