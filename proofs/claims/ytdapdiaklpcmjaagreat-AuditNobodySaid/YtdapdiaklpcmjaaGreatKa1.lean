/- A part of the proof of KvA. -/
import Derived.Test.YtdapdiaklpcmjaaGreatKa0
set_option linter.unusedSimpArgs false
set_option linter.unusedVariables false
set_option linter.unusedSectionVars false
namespace Go.Proofs.YtdapdiaklpcmjaaGreat.Pe
set_option maxRecDepth 100000
theorem lk3824 : LookAt 3824 := fun _ _ => by kernel_rfl
theorem lk3840 : LookAt 3840 := fun _ _ => by kernel_rfl
theorem lk3856 : LookAt 3856 := fun _ _ => by kernel_rfl
theorem lk3872 : LookAt 3872 := fun _ _ => by kernel_rfl
end Go.Proofs.YtdapdiaklpcmjaaGreat.Pe
