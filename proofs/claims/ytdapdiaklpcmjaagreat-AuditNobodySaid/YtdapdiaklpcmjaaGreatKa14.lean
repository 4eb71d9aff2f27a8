/- A part of the proof of KvA. -/
import Derived.Test.YtdapdiaklpcmjaaGreatKa0
set_option linter.unusedSimpArgs false
set_option linter.unusedVariables false
set_option linter.unusedSectionVars false
namespace Go.Proofs.YtdapdiaklpcmjaaGreat.Pe
set_option maxRecDepth 100000
theorem lk4656 : LookAt 4656 := fun _ _ => by kernel_rfl
theorem lk4672 : LookAt 4672 := fun _ _ => by kernel_rfl
theorem lk4688 : LookAt 4688 := fun _ _ => by kernel_rfl
theorem lk4704 : LookAt 4704 := fun _ _ => by kernel_rfl
end Go.Proofs.YtdapdiaklpcmjaaGreat.Pe
