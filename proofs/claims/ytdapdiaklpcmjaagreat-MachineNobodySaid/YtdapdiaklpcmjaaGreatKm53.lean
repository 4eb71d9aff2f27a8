/- A part of the proof of KzA. -/
import Derived.Test.YtdapdiaklpcmjaaGreatKm51
set_option linter.unusedSimpArgs false
set_option linter.unusedVariables false
set_option linter.unusedSectionVars false
namespace Go.Proofs.YtdapdiaklpcmjaaGreat
open Go
theorem Pe.machineNobody_wrap : Tryz.f4.isWrapper Tryz.pinned.checked.prog Rows.machineNobodyRow.wrapper Rows.machineNobodyRow.mainSum := (by unfold Func.isWrapper; first | (rw [if_pos (by decide +kernel)]; kernel_rfl) | (rw [if_neg (by decide +kernel)]; exact ⟨rfl, rfl⟩))
theorem Pe.machineNobody_inst : Tryz.f4.isInstance Tryz.pinned.checked.prog Rows.machineNobodyRow.origin Rows.machineNobodyRow.targs := of_decide_eq_true (by kernel_rfl)
theorem Pe.machineNobody_named : Tryz.pinned.checked.prog.funcNamed Rows.machineNobodyRow.func = some 4 := by kernel_rfl
end Go.Proofs.YtdapdiaklpcmjaaGreat
