/- A part of the proof of KrA. -/
import Derived.Test.YtdpphbcneihllaaGreatKa51
set_option linter.unusedSimpArgs false
set_option linter.unusedVariables false
set_option linter.unusedSectionVars false
namespace Go.Proofs.YtdpphbcneihllaaGreat
open Go
theorem Pe.statOdd_facts : joinedFacts Tryz.pinned.checked.prog 4 Tryz.f4 Rows.statOddSpec Rows.statOddRow = true := by kernel_rfl
end Go.Proofs.YtdpphbcneihllaaGreat
