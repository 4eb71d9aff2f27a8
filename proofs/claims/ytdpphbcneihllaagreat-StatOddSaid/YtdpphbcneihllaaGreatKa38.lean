/- A part of the proof of KrA. -/
import Derived.Test.YtdpphbcneihllaaGreatKa34
set_option linter.unusedSimpArgs false
set_option linter.unusedVariables false
set_option linter.unusedSectionVars false
namespace Go.Proofs.YtdpphbcneihllaaGreat.Pe
set_option maxRecDepth 100000
theorem of4016 : OfAt 4016 := fun _ _ => by kernel_rfl
theorem of4032 : OfAt 4032 := fun _ _ => by kernel_rfl
theorem of4048 : OfAt 4048 := fun _ _ => by kernel_rfl
theorem of4064 : OfAt 4064 := fun _ _ => by kernel_rfl
end Go.Proofs.YtdpphbcneihllaaGreat.Pe
