/- A part of the proof of KrA. -/
import Derived.Test.YtdpphbcneihllaaGreatKa34
set_option linter.unusedSimpArgs false
set_option linter.unusedVariables false
set_option linter.unusedSectionVars false
namespace Go.Proofs.YtdpphbcneihllaaGreat.Pe
set_option maxRecDepth 100000
theorem of3824 : OfAt 3824 := fun _ _ => by kernel_rfl
theorem of3840 : OfAt 3840 := fun _ _ => by kernel_rfl
theorem of3856 : OfAt 3856 := fun _ _ => by kernel_rfl
theorem of3872 : OfAt 3872 := fun _ _ => by kernel_rfl
end Go.Proofs.YtdpphbcneihllaaGreat.Pe
