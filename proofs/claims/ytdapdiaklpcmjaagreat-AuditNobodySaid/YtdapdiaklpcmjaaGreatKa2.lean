/- A part of the proof of KvA. -/
import Derived.Test.YtdapdiaklpcmjaaGreatKa0
set_option linter.unusedSimpArgs false
set_option linter.unusedVariables false
set_option linter.unusedSectionVars false
namespace Go.Proofs.YtdapdiaklpcmjaaGreat.Pe
set_option maxRecDepth 100000
theorem lk3888 : LookAt 3888 := fun _ _ => by kernel_rfl
theorem lk3904 : LookAt 3904 := fun _ _ => by kernel_rfl
theorem lk3920 : LookAt 3920 := fun _ _ => by kernel_rfl
theorem lk3936 : LookAt 3936 := fun _ _ => by kernel_rfl
end Go.Proofs.YtdapdiaklpcmjaaGreat.Pe
