/- A part of the proof of KvA. -/
import Derived.Test.YtdapdiaklpcmjaaGreatKa0
set_option linter.unusedSimpArgs false
set_option linter.unusedVariables false
set_option linter.unusedSectionVars false
namespace Go.Proofs.YtdapdiaklpcmjaaGreat.Pe
set_option maxRecDepth 100000
theorem lk3952 : LookAt 3952 := fun _ _ => by kernel_rfl
theorem lk3968 : LookAt 3968 := fun _ _ => by kernel_rfl
theorem lk3984 : LookAt 3984 := fun _ _ => by kernel_rfl
theorem lk4000 : LookAt 4000 := fun _ _ => by kernel_rfl
end Go.Proofs.YtdapdiaklpcmjaaGreat.Pe
