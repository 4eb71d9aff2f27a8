/- A part of the proof of KrA. -/
import Derived.Test.YtdpphbcneihllaaGreatKa34
set_option linter.unusedSimpArgs false
set_option linter.unusedVariables false
set_option linter.unusedSectionVars false
namespace Go.Proofs.YtdpphbcneihllaaGreat.Pe
set_option maxRecDepth 100000
theorem of4592 : OfAt 4592 := fun _ _ => by kernel_rfl
theorem of4608 : OfAt 4608 := fun _ _ => by kernel_rfl
theorem of4624 : OfAt 4624 := fun _ _ => by kernel_rfl
theorem of4640 : OfAt 4640 := fun _ _ => by kernel_rfl
end Go.Proofs.YtdpphbcneihllaaGreat.Pe
