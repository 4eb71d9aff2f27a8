/- A part of the proof of KvA. -/
import Derived.Test.YtdapdiaklpcmjaaGreatKa0
set_option linter.unusedSimpArgs false
set_option linter.unusedVariables false
set_option linter.unusedSectionVars false
namespace Go.Proofs.YtdapdiaklpcmjaaGreat.Pe
set_option maxRecDepth 100000
theorem lk4592 : LookAt 4592 := fun _ _ => by kernel_rfl
theorem lk4608 : LookAt 4608 := fun _ _ => by kernel_rfl
theorem lk4624 : LookAt 4624 := fun _ _ => by kernel_rfl
theorem lk4640 : LookAt 4640 := fun _ _ => by kernel_rfl
end Go.Proofs.YtdapdiaklpcmjaaGreat.Pe
