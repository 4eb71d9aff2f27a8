/- carracklaw23.StatOdd answers true at every input, and leaves what it reads as it was. No condition. -/
import Derived.Test.YtdpphbcneihllaaGreatKa52
import Derived.Test.YtdpphbcneihllaaGreatKa53
set_option linter.unusedSimpArgs false
set_option linter.unusedVariables false
set_option linter.unusedSectionVars false
namespace Go.Proofs.YtdpphbcneihllaaGreat
open Go
theorem statOdd_holds : Rows.StatOddSaid :=
  OpenClaim.holds_of_wide 4 Tryz.f4 rfl rfl rfl rfl rfl rfl rfl ⟨rfl, rfl, rfl, rfl, rfl⟩ rfl rfl rfl rfl rfl Pe.statOdd_named Tryz.func4 Pe.statOdd_facts
    Pe.statOdd_inst Pe.statOdd_wrap (fun os started H enc _ => Pe.statOdd_lifted os started H enc)
end Go.Proofs.YtdpphbcneihllaaGreat
