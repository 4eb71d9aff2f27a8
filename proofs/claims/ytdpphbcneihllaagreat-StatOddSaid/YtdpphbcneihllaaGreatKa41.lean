/- A part of the proof of KrA. -/
import Derived.Test.YtdpphbcneihllaaGreatKa34
set_option linter.unusedSimpArgs false
set_option linter.unusedVariables false
set_option linter.unusedSectionVars false
namespace Go.Proofs.YtdpphbcneihllaaGreat.Pe
set_option maxRecDepth 100000
theorem of4208 : OfAt 4208 := fun _ _ => by kernel_rfl
theorem of4224 : OfAt 4224 := fun _ _ => by kernel_rfl
theorem of4240 : OfAt 4240 := fun _ _ => by kernel_rfl
theorem of4256 : OfAt 4256 := fun _ _ => by kernel_rfl
end Go.Proofs.YtdpphbcneihllaaGreat.Pe
