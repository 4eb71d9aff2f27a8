/- A part of the proof of KvA. -/
import Derived.Test.YtdapdiaklpcmjaaGreatKa0
set_option linter.unusedSimpArgs false
set_option linter.unusedVariables false
set_option linter.unusedSectionVars false
namespace Go.Proofs.YtdapdiaklpcmjaaGreat.Pe
set_option maxRecDepth 100000
theorem lk4720 : LookAt 4720 := fun _ _ => by kernel_rfl
theorem lk4736 : LookAt 4736 := fun _ _ => by kernel_rfl
theorem lk4752 : LookAt 4752 := fun _ _ => by kernel_rfl
theorem lk4768 : LookAt 4768 := fun _ _ => by kernel_rfl
end Go.Proofs.YtdapdiaklpcmjaaGreat.Pe
