/- A part of the proof of KrA. -/
import Derived.Test.YtdpphbcneihllaaGreatKa34
set_option linter.unusedSimpArgs false
set_option linter.unusedVariables false
set_option linter.unusedSectionVars false
namespace Go.Proofs.YtdpphbcneihllaaGreat.Pe
set_option maxRecDepth 100000
theorem of4720 : OfAt 4720 := fun _ _ => by kernel_rfl
theorem of4736 : OfAt 4736 := fun _ _ => by kernel_rfl
theorem of4752 : OfAt 4752 := fun _ _ => by kernel_rfl
theorem of4768 : OfAt 4768 := fun _ _ => by kernel_rfl
end Go.Proofs.YtdpphbcneihllaaGreat.Pe
