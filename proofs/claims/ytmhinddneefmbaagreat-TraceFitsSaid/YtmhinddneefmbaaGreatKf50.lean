/- A part of the proof of JdH. -/
import Derived.Test.YtmhinddneefmbaaGreatKf47
set_option linter.unusedSimpArgs false
set_option linter.unusedVariables false
set_option linter.unusedSectionVars false
namespace Go.Proofs.YtmhinddneefmbaaGreat
open Go
namespace Pe
section
noncomputable abbrev f2P : Program := Tryz.pinned.checked.prog
noncomputable abbrev f2F : Func := Tryz.f4
noncomputable abbrev f2S : ChangeSpec := Rows.traceFitsSpec
noncomputable abbrev f2C : OpenClaim := Rows.traceFitsRow
theorem fk2 : (mapsRowed f2P) = true := by kernel_rfl
theorem fk5 : ((f2C.stops == [])) = true := by kernel_rfl
theorem fk8 : ((f2P.stopKnobs == [])) = true := by kernel_rfl
theorem fk11 : ((f2C.recurses == f2P.recurses 4)) = true := by kernel_rfl
theorem fk14 : ((f2C.ifaces == (f2F.params.toList ++ f2S.plain.varTypes f2P).any (f2P.ifacesRec ·))) = true := by kernel_rfl
theorem fk17 : ((f2C.wideKeys == (f2F.params.toList ++ f2S.plain.varTypes f2P ++ f2F.resultTypes.toList).any (f2P.wideKeysFrom ·))) = true := by kernel_rfl
theorem fk20 : ((f2C.ifacesOut == f2F.resultTypes.toList.any (f2P.ifacesRec ·))) = true := by kernel_rfl
theorem fk23 : (f2C.shortTexts.isNone) = true := by kernel_rfl
theorem fk26 : ((f2C.lifted == f2P.liftsFinal)) = true := by kernel_rfl
theorem fk29 : ((f2C.pinned == f2C.pinnedBy)) = true := by kernel_rfl
end
end Pe
end Go.Proofs.YtmhinddneefmbaaGreat
