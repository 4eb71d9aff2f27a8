/- A part of the proof of KrA. -/
import Derived.Test.YtdpphbcneihllaaGreatKa34
set_option linter.unusedSimpArgs false
set_option linter.unusedVariables false
set_option linter.unusedSectionVars false
namespace Go.Proofs.YtdpphbcneihllaaGreat.Pe
set_option maxRecDepth 100000
theorem of4272 : OfAt 4272 := fun _ _ => by kernel_rfl
theorem of4288 : OfAt 4288 := fun _ _ => by kernel_rfl
theorem of4304 : OfAt 4304 := fun _ _ => by kernel_rfl
theorem of4320 : OfAt 4320 := fun _ _ => by kernel_rfl
end Go.Proofs.YtdpphbcneihllaaGreat.Pe
