/- A part of the proof of KvA. -/
import Derived.Test.YtdapdiaklpcmjaaGreatKa0
set_option linter.unusedSimpArgs false
set_option linter.unusedVariables false
set_option linter.unusedSectionVars false
namespace Go.Proofs.YtdapdiaklpcmjaaGreat.Pe
set_option maxRecDepth 100000
theorem lk4464 : LookAt 4464 := fun _ _ => by kernel_rfl
theorem lk4480 : LookAt 4480 := fun _ _ => by kernel_rfl
theorem lk4496 : LookAt 4496 := fun _ _ => by kernel_rfl
theorem lk4512 : LookAt 4512 := fun _ _ => by kernel_rfl
end Go.Proofs.YtdapdiaklpcmjaaGreat.Pe
