/- A part of the proof of KrA. -/
import Derived.Test.YtdpphbcneihllaaGreatKa34
set_option linter.unusedSimpArgs false
set_option linter.unusedVariables false
set_option linter.unusedSectionVars false
namespace Go.Proofs.YtdpphbcneihllaaGreat.Pe
set_option maxRecDepth 100000
theorem of3952 : OfAt 3952 := fun _ _ => by kernel_rfl
theorem of3968 : OfAt 3968 := fun _ _ => by kernel_rfl
theorem of3984 : OfAt 3984 := fun _ _ => by kernel_rfl
theorem of4000 : OfAt 4000 := fun _ _ => by kernel_rfl
end Go.Proofs.YtdpphbcneihllaaGreat.Pe
