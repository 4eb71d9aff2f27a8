/- A part of the proof of JbH. -/
import Derived.Test.YtmhinddneefmbaaGreatKw47
set_option linter.unusedSimpArgs false
set_option linter.unusedVariables false
set_option linter.unusedSectionVars false
namespace Go.Proofs.YtmhinddneefmbaaGreat
open Go
theorem Pe.worldNobody_wrap : Tryz.f3.isWrapper Tryz.pinned.checked.prog Rows.worldNobodyRow.wrapper Rows.worldNobodyRow.mainSum := (by unfold Func.isWrapper; first | (rw [if_pos (by decide +kernel)]; kernel_rfl) | (rw [if_neg (by decide +kernel)]; exact ⟨rfl, rfl⟩))
theorem Pe.worldNobody_inst : Tryz.f3.isInstance Tryz.pinned.checked.prog Rows.worldNobodyRow.origin Rows.worldNobodyRow.targs := of_decide_eq_true (by kernel_rfl)
theorem Pe.worldNobody_named : Tryz.pinned.checked.prog.funcNamed Rows.worldNobodyRow.func = some 3 := by kernel_rfl
end Go.Proofs.YtmhinddneefmbaaGreat
