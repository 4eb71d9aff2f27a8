/- A part of the proof of KvA. -/
import Derived.Test.YtdapdiaklpcmjaaGreatKa0
set_option linter.unusedSimpArgs false
set_option linter.unusedVariables false
set_option linter.unusedSectionVars false
namespace Go.Proofs.YtdapdiaklpcmjaaGreat.Pe
set_option maxRecDepth 100000
theorem lk4336 : LookAt 4336 := fun _ _ => by kernel_rfl
theorem lk4352 : LookAt 4352 := fun _ _ => by kernel_rfl
theorem lk4368 : LookAt 4368 := fun _ _ => by kernel_rfl
theorem lk4384 : LookAt 4384 := fun _ _ => by kernel_rfl
end Go.Proofs.YtdapdiaklpcmjaaGreat.Pe
