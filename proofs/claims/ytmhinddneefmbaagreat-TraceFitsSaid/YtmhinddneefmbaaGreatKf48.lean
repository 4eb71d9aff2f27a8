/- A part of the proof of JdH. -/
import Derived.Test.YtmhinddneefmbaaGreatKf47
set_option linter.unusedSimpArgs false
set_option linter.unusedVariables false
set_option linter.unusedSectionVars false
namespace Go.Proofs.YtmhinddneefmbaaGreat
open Go
namespace Pe
section
noncomputable abbrev fP : Program := Tryz.pinned.checked.prog
noncomputable abbrev fF : Func := Tryz.f4
noncomputable abbrev fS : ChangeSpec := Rows.traceFitsSpec
noncomputable abbrev fC : OpenClaim := Rows.traceFitsRow
theorem fk0 : (fC.wf (OpenSpec.ofChange fS)) = true := by kernel_rfl
theorem fk3 : (fF.params.all (fP.readableRec ·)) = true := by kernel_rfl
theorem fk6 : ((fP.stops == [])) = true := by kernel_rfl
theorem fk9 : ((fC.inPlace == fP.inPlace 4)) = true := by kernel_rfl
theorem fk12 : ((fC.named == fP.varsNamed 4)) = true := by kernel_rfl
theorem fk15 : ((fC.mapsOut == fP.mapsAmong fF.resultTypes.toList)) = true := by kernel_rfl
theorem fk18 : (fS.vars.all (fP.varReadable ·)) = true := by kernel_rfl
theorem fk21 : ((fC.loopsOut == fF.resultTypes.toList.any (fP.loopsFrom ·))) = true := by kernel_rfl
theorem fk24 : (fP.stopsHeard) = true := by kernel_rfl
theorem fk27 : ((fP.make == some fC.make)) = true := by kernel_rfl
theorem fk30 : ((fC.veiled == (fF.params.toList ++ fS.plain.varTypes fP ++ fF.resultTypes.toList).any (fP.veiledRec ·))) = true := by kernel_rfl
end
end Pe
end Go.Proofs.YtmhinddneefmbaaGreat
