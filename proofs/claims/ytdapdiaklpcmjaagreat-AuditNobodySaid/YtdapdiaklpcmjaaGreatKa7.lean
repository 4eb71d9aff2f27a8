/- A part of the proof of KvA. -/
import Derived.Test.YtdapdiaklpcmjaaGreatKa0
set_option linter.unusedSimpArgs false
set_option linter.unusedVariables false
set_option linter.unusedSectionVars false
namespace Go.Proofs.YtdapdiaklpcmjaaGreat.Pe
set_option maxRecDepth 100000
theorem lk4208 : LookAt 4208 := fun _ _ => by kernel_rfl
theorem lk4224 : LookAt 4224 := fun _ _ => by kernel_rfl
theorem lk4240 : LookAt 4240 := fun _ _ => by kernel_rfl
theorem lk4256 : LookAt 4256 := fun _ _ => by kernel_rfl
end Go.Proofs.YtdapdiaklpcmjaaGreat.Pe
