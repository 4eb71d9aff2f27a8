/- A part of the proof of KrA. -/
import Derived.Test.YtdpphbcneihllaaGreatKa34
set_option linter.unusedSimpArgs false
set_option linter.unusedVariables false
set_option linter.unusedSectionVars false
namespace Go.Proofs.YtdpphbcneihllaaGreat.Pe
set_option maxRecDepth 100000
theorem of4400 : OfAt 4400 := fun _ _ => by kernel_rfl
theorem of4416 : OfAt 4416 := fun _ _ => by kernel_rfl
theorem of4432 : OfAt 4432 := fun _ _ => by kernel_rfl
theorem of4448 : OfAt 4448 := fun _ _ => by kernel_rfl
end Go.Proofs.YtdpphbcneihllaaGreat.Pe
