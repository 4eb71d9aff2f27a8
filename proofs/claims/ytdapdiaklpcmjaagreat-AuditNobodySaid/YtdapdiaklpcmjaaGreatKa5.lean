/- A part of the proof of KvA. -/
import Derived.Test.YtdapdiaklpcmjaaGreatKa0
set_option linter.unusedSimpArgs false
set_option linter.unusedVariables false
set_option linter.unusedSectionVars false
namespace Go.Proofs.YtdapdiaklpcmjaaGreat.Pe
set_option maxRecDepth 100000
theorem lk4080 : LookAt 4080 := fun _ _ => by kernel_rfl
theorem lk4096 : LookAt 4096 := fun _ _ => by kernel_rfl
theorem lk4112 : LookAt 4112 := fun _ _ => by kernel_rfl
theorem lk4128 : LookAt 4128 := fun _ _ => by kernel_rfl
end Go.Proofs.YtdapdiaklpcmjaaGreat.Pe
