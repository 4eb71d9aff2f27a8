/- A part of the proof of KrA. -/
import Derived.Test.YtdpphbcneihllaaGreatKa34
set_option linter.unusedSimpArgs false
set_option linter.unusedVariables false
set_option linter.unusedSectionVars false
namespace Go.Proofs.YtdpphbcneihllaaGreat.Pe
set_option maxRecDepth 100000
theorem of4464 : OfAt 4464 := fun _ _ => by kernel_rfl
theorem of4480 : OfAt 4480 := fun _ _ => by kernel_rfl
theorem of4496 : OfAt 4496 := fun _ _ => by kernel_rfl
theorem of4512 : OfAt 4512 := fun _ _ => by kernel_rfl
end Go.Proofs.YtdpphbcneihllaaGreat.Pe
