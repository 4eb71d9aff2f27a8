/- A part of the proof of KrA. -/
import Derived.Test.YtdpphbcneihllaaGreatKa34
set_option linter.unusedSimpArgs false
set_option linter.unusedVariables false
set_option linter.unusedSectionVars false
namespace Go.Proofs.YtdpphbcneihllaaGreat.Pe
set_option maxRecDepth 100000
theorem of4144 : OfAt 4144 := fun _ _ => by kernel_rfl
theorem of4160 : OfAt 4160 := fun _ _ => by kernel_rfl
theorem of4176 : OfAt 4176 := fun _ _ => by kernel_rfl
theorem of4192 : OfAt 4192 := fun _ _ => by kernel_rfl
end Go.Proofs.YtdpphbcneihllaaGreat.Pe
