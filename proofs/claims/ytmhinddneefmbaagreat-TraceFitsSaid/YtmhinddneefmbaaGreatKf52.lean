/- A part of the proof of JdH. -/
import Derived.Test.YtmhinddneefmbaaGreatKf47
set_option linter.unusedSimpArgs false
set_option linter.unusedVariables false
set_option linter.unusedSectionVars false
namespace Go.Proofs.YtmhinddneefmbaaGreat
open Go
theorem Pe.traceFits_wrap : Tryz.f4.isWrapper Tryz.pinned.checked.prog Rows.traceFitsRow.wrapper Rows.traceFitsRow.mainSum := (by unfold Func.isWrapper; first | (rw [if_pos (by decide +kernel)]; kernel_rfl) | (rw [if_neg (by decide +kernel)]; exact ⟨rfl, rfl⟩))
theorem Pe.traceFits_inst : Tryz.f4.isInstance Tryz.pinned.checked.prog Rows.traceFitsRow.origin Rows.traceFitsRow.targs := of_decide_eq_true (by kernel_rfl)
theorem Pe.traceFits_named : Tryz.pinned.checked.prog.funcNamed Rows.traceFitsRow.func = some 4 := by kernel_rfl
end Go.Proofs.YtmhinddneefmbaaGreat
