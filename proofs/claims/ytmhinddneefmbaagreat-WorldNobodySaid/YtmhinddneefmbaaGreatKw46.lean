/- A part of the proof of JbH. -/
import Derived.Test.YtmhinddneefmbaaGreatKw45
set_option linter.unusedSimpArgs false
set_option linter.unusedVariables false
set_option linter.unusedSectionVars false
namespace Go.Proofs.YtmhinddneefmbaaGreat.Pe
open Go
set_option maxRecDepth 100000
abbrev awake21N : Nat := 7
theorem aw21 : ((evs Spk.toSys 8000).fn awake21N [] (.tr .leaf) 0).map (fun x => x.1) = some (.a (.one (.bool true))) := by kernel_rfl
theorem aw21_ok : FnEff Tryz.prog awake21N awX := aw_of Spk_ok (by kernel_rfl) aw21
end Go.Proofs.YtmhinddneefmbaaGreat.Pe
