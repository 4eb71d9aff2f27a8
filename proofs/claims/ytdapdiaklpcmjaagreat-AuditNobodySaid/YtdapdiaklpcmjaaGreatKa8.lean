/- A part of the proof of KvA. -/
import Derived.Test.YtdapdiaklpcmjaaGreatKa0
set_option linter.unusedSimpArgs false
set_option linter.unusedVariables false
set_option linter.unusedSectionVars false
namespace Go.Proofs.YtdapdiaklpcmjaaGreat.Pe
set_option maxRecDepth 100000
theorem lk4272 : LookAt 4272 := fun _ _ => by kernel_rfl
theorem lk4288 : LookAt 4288 := fun _ _ => by kernel_rfl
theorem lk4304 : LookAt 4304 := fun _ _ => by kernel_rfl
theorem lk4320 : LookAt 4320 := fun _ _ => by kernel_rfl
end Go.Proofs.YtdapdiaklpcmjaaGreat.Pe
