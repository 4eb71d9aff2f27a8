/- A part of the proof of KrA. -/
import Derived.Test.YtdpphbcneihllaaGreatKa51
set_option linter.unusedSimpArgs false
set_option linter.unusedVariables false
set_option linter.unusedSectionVars false
namespace Go.Proofs.YtdpphbcneihllaaGreat
open Go
theorem Pe.statOdd_wrap : Tryz.f4.isWrapper Tryz.pinned.checked.prog Rows.statOddRow.wrapper Rows.statOddRow.mainSum := (by unfold Func.isWrapper; first | (rw [if_pos (by decide +kernel)]; kernel_rfl) | (rw [if_neg (by decide +kernel)]; exact ⟨rfl, rfl⟩))
theorem Pe.statOdd_inst : Tryz.f4.isInstance Tryz.pinned.checked.prog Rows.statOddRow.origin Rows.statOddRow.targs := of_decide_eq_true (by kernel_rfl)
theorem Pe.statOdd_named : Tryz.pinned.checked.prog.funcNamed Rows.statOddRow.func = some 4 := by kernel_rfl
end Go.Proofs.YtdpphbcneihllaaGreat
