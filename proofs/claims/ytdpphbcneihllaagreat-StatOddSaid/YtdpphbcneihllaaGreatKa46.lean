/- A part of the proof of KrA. -/
import Derived.Test.YtdpphbcneihllaaGreatKa34
set_option linter.unusedSimpArgs false
set_option linter.unusedVariables false
set_option linter.unusedSectionVars false
namespace Go.Proofs.YtdpphbcneihllaaGreat.Pe
set_option maxRecDepth 100000
theorem of4528 : OfAt 4528 := fun _ _ => by kernel_rfl
theorem of4544 : OfAt 4544 := fun _ _ => by kernel_rfl
theorem of4560 : OfAt 4560 := fun _ _ => by kernel_rfl
theorem of4576 : OfAt 4576 := fun _ _ => by kernel_rfl
end Go.Proofs.YtdpphbcneihllaaGreat.Pe
