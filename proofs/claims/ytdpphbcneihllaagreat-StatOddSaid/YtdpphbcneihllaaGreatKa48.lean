/- A part of the proof of KrA. -/
import Derived.Test.YtdpphbcneihllaaGreatKa34
set_option linter.unusedSimpArgs false
set_option linter.unusedVariables false
set_option linter.unusedSectionVars false
namespace Go.Proofs.YtdpphbcneihllaaGreat.Pe
set_option maxRecDepth 100000
theorem of4656 : OfAt 4656 := fun _ _ => by kernel_rfl
theorem of4672 : OfAt 4672 := fun _ _ => by kernel_rfl
theorem of4688 : OfAt 4688 := fun _ _ => by kernel_rfl
theorem of4704 : OfAt 4704 := fun _ _ => by kernel_rfl
end Go.Proofs.YtdpphbcneihllaaGreat.Pe
