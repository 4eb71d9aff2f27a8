/- A part of the proof of KvA. -/
import Derived.Test.YtdapdiaklpcmjaaGreatKa0
set_option linter.unusedSimpArgs false
set_option linter.unusedVariables false
set_option linter.unusedSectionVars false
namespace Go.Proofs.YtdapdiaklpcmjaaGreat.Pe
set_option maxRecDepth 100000
theorem lk4144 : LookAt 4144 := fun _ _ => by kernel_rfl
theorem lk4160 : LookAt 4160 := fun _ _ => by kernel_rfl
theorem lk4176 : LookAt 4176 := fun _ _ => by kernel_rfl
theorem lk4192 : LookAt 4192 := fun _ _ => by kernel_rfl
end Go.Proofs.YtdapdiaklpcmjaaGreat.Pe
