/- A part of the proof of KrA. -/
import Derived.Test.YtdpphbcneihllaaGreatKa34
set_option linter.unusedSimpArgs false
set_option linter.unusedVariables false
set_option linter.unusedSectionVars false
namespace Go.Proofs.YtdpphbcneihllaaGreat.Pe
set_option maxRecDepth 100000
theorem of4336 : OfAt 4336 := fun _ _ => by kernel_rfl
theorem of4352 : OfAt 4352 := fun _ _ => by kernel_rfl
theorem of4368 : OfAt 4368 := fun _ _ => by kernel_rfl
theorem of4384 : OfAt 4384 := fun _ _ => by kernel_rfl
end Go.Proofs.YtdpphbcneihllaaGreat.Pe
