/- A part of the proof of KvA. -/
import Derived.Test.YtdapdiaklpcmjaaGreatKa0
set_option linter.unusedSimpArgs false
set_option linter.unusedVariables false
set_option linter.unusedSectionVars false
namespace Go.Proofs.YtdapdiaklpcmjaaGreat.Pe
set_option maxRecDepth 100000
theorem lk4400 : LookAt 4400 := fun _ _ => by kernel_rfl
theorem lk4416 : LookAt 4416 := fun _ _ => by kernel_rfl
theorem lk4432 : LookAt 4432 := fun _ _ => by kernel_rfl
theorem lk4448 : LookAt 4448 := fun _ _ => by kernel_rfl
end Go.Proofs.YtdapdiaklpcmjaaGreat.Pe
