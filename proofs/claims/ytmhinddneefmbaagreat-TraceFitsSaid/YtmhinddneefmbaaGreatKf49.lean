/- A part of the proof of JdH. -/
import Derived.Test.YtmhinddneefmbaaGreatKf47
set_option linter.unusedSimpArgs false
set_option linter.unusedVariables false
set_option linter.unusedSectionVars false
namespace Go.Proofs.YtmhinddneefmbaaGreat
open Go
namespace Pe
section
noncomputable abbrev f1P : Program := Tryz.pinned.checked.prog
noncomputable abbrev f1F : Func := Tryz.f4
noncomputable abbrev f1S : ChangeSpec := Rows.traceFitsSpec
noncomputable abbrev f1C : OpenClaim := Rows.traceFitsRow
theorem fk1 : (laidOutB f1P) = true := by kernel_rfl
theorem fk4 : (namedTie f1P f1C.named f1S.vars) = true := by kernel_rfl
theorem fk7 : ((f1C.knobs == [])) = true := by kernel_rfl
theorem fk10 : ((f1C.unfollowed == f1P.unfollowed 4)) = true := by kernel_rfl
theorem fk13 : ((f1C.maps == (f1F.params.toList ++ f1S.plain.varTypes f1P).any (f1P.mapsRec ·))) = true := by kernel_rfl
theorem fk16 : ((f1C.loops == (f1F.params.toList ++ f1S.plain.varTypes f1P).any (f1P.loopsFrom ·))) = true := by kernel_rfl
theorem fk19 : (f1F.resultTypes.all (fun t => f1P.readableRec t && decide (t < f1P.types.size))) = true := by kernel_rfl
theorem fk22 : ((f1C.plainKeys == f1P.plainKeys)) = true := by kernel_rfl
theorem fk25 : (f1P.mayEnter) = true := by kernel_rfl
theorem fk28 : ((f1C.kinds == (if f1C.domain.isEmpty then [] else f1F.params.toList.map fun t => match f1P.underlying t with | some (.int k) => some k | _ => none))) = true := by kernel_rfl
theorem fk31 : (f1C.veiledFits f1P f1F.params.toList (f1F.params.toList ++ f1S.plain.varTypes f1P ++ f1F.resultTypes.toList)) = true := by kernel_rfl
end
end Pe
end Go.Proofs.YtmhinddneefmbaaGreat
