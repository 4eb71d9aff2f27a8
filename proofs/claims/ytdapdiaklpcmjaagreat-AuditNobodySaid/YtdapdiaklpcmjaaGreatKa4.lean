/- A part of the proof of KvA. -/
import Derived.Test.YtdapdiaklpcmjaaGreatKa0
set_option linter.unusedSimpArgs false
set_option linter.unusedVariables false
set_option linter.unusedSectionVars false
namespace Go.Proofs.YtdapdiaklpcmjaaGreat.Pe
set_option maxRecDepth 100000
theorem lk4016 : LookAt 4016 := fun _ _ => by kernel_rfl
theorem lk4032 : LookAt 4032 := fun _ _ => by kernel_rfl
theorem lk4048 : LookAt 4048 := fun _ _ => by kernel_rfl
theorem lk4064 : LookAt 4064 := fun _ _ => by kernel_rfl
end Go.Proofs.YtdapdiaklpcmjaaGreat.Pe
