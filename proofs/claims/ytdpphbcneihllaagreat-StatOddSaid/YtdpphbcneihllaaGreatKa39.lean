/- A part of the proof of KrA. -/
import Derived.Test.YtdpphbcneihllaaGreatKa34
set_option linter.unusedSimpArgs false
set_option linter.unusedVariables false
set_option linter.unusedSectionVars false
namespace Go.Proofs.YtdpphbcneihllaaGreat.Pe
set_option maxRecDepth 100000
theorem of4080 : OfAt 4080 := fun _ _ => by kernel_rfl
theorem of4096 : OfAt 4096 := fun _ _ => by kernel_rfl
theorem of4112 : OfAt 4112 := fun _ _ => by kernel_rfl
theorem of4128 : OfAt 4128 := fun _ _ => by kernel_rfl
end Go.Proofs.YtdpphbcneihllaaGreat.Pe
