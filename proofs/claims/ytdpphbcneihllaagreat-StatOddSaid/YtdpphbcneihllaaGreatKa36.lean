/- A part of the proof of KrA. -/
import Derived.Test.YtdpphbcneihllaaGreatKa34
set_option linter.unusedSimpArgs false
set_option linter.unusedVariables false
set_option linter.unusedSectionVars false
namespace Go.Proofs.YtdpphbcneihllaaGreat.Pe
set_option maxRecDepth 100000
theorem of3888 : OfAt 3888 := fun _ _ => by kernel_rfl
theorem of3904 : OfAt 3904 := fun _ _ => by kernel_rfl
theorem of3920 : OfAt 3920 := fun _ _ => by kernel_rfl
theorem of3936 : OfAt 3936 := fun _ _ => by kernel_rfl
end Go.Proofs.YtdpphbcneihllaaGreat.Pe
