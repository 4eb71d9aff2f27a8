/- A part of the proof of JdH. -/
import Derived.Test.YtmhinddneefmbaaGreatKf35
set_option linter.unusedSimpArgs false
set_option linter.unusedVariables false
set_option linter.unusedSectionVars false
namespace Go.Proofs.YtmhinddneefmbaaGreat.Pe
open Go
set_option maxRecDepth 100000
abbrev awake22N : Nat := 18
theorem aw22 : ((evs Spk.toSys 8000).fn awake22N [] (.tr .leaf) 0).map (fun x => x.1) = some (.a (.one (.bool true))) := by kernel_rfl
theorem aw22_ok : FnEff Tryz.prog awake22N awX := aw_of Spk_ok (by kernel_rfl) aw22
end Go.Proofs.YtmhinddneefmbaaGreat.Pe
