/- A part of the proof of KvA. -/
import Derived.Test.YtdapdiaklpcmjaaGreatKa0
set_option linter.unusedSimpArgs false
set_option linter.unusedVariables false
set_option linter.unusedSectionVars false
namespace Go.Proofs.YtdapdiaklpcmjaaGreat.Pe
set_option maxRecDepth 100000
theorem lk4528 : LookAt 4528 := fun _ _ => by kernel_rfl
theorem lk4544 : LookAt 4544 := fun _ _ => by kernel_rfl
theorem lk4560 : LookAt 4560 := fun _ _ => by kernel_rfl
theorem lk4576 : LookAt 4576 := fun _ _ => by kernel_rfl
end Go.Proofs.YtdapdiaklpcmjaaGreat.Pe
