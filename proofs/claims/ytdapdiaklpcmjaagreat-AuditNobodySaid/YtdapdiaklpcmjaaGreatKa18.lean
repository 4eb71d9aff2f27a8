/- A part of the proof of KvA. -/
import Derived.Test.YtdapdiaklpcmjaaGreatKa17
set_option linter.unusedSimpArgs false
set_option linter.unusedVariables false
set_option linter.unusedSectionVars false
namespace Go.Proofs.YtdapdiaklpcmjaaGreat
open Go
theorem Pe.auditNobody_facts : joinedFacts Tryz.pinned.checked.prog 3 Tryz.f3 Rows.auditNobodySpec Rows.auditNobodyRow = true := by kernel_rfl
end Go.Proofs.YtdapdiaklpcmjaaGreat
