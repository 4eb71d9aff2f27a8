/- A part of the proof of KvA. -/
import Derived.Test.YtdapdiaklpcmjaaGreatKa17
set_option linter.unusedSimpArgs false
set_option linter.unusedVariables false
set_option linter.unusedSectionVars false
namespace Go.Proofs.YtdapdiaklpcmjaaGreat
open Go
theorem Pe.auditNobody_wrap : Tryz.f3.isWrapper Tryz.pinned.checked.prog Rows.auditNobodyRow.wrapper Rows.auditNobodyRow.mainSum := (by unfold Func.isWrapper; first | (rw [if_pos (by decide +kernel)]; kernel_rfl) | (rw [if_neg (by decide +kernel)]; exact ⟨rfl, rfl⟩))
theorem Pe.auditNobody_inst : Tryz.f3.isInstance Tryz.pinned.checked.prog Rows.auditNobodyRow.origin Rows.auditNobodyRow.targs := of_decide_eq_true (by kernel_rfl)
theorem Pe.auditNobody_named : Tryz.pinned.checked.prog.funcNamed Rows.auditNobodyRow.func = some 3 := by kernel_rfl
end Go.Proofs.YtdapdiaklpcmjaaGreat
