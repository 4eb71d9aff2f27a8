/- A part of the proof of JdH. -/
import Derived.Test.YtmhinddneefmbaaGreatKf48
import Derived.Test.YtmhinddneefmbaaGreatKf49
import Derived.Test.YtmhinddneefmbaaGreatKf50
set_option linter.unusedSimpArgs false
set_option linter.unusedVariables false
set_option linter.unusedSectionVars false
namespace Go.Proofs.YtmhinddneefmbaaGreat
open Go
set_option maxRecDepth 100000
namespace Pe
section
theorem fand {a b : Bool} (ha : a = true) (hb : b = true) : (a && b) = true := by rw [ha, hb]; rfl
end
end Pe
theorem Pe.traceFits_facts : joinedFacts Tryz.pinned.checked.prog 4 Tryz.f4 Rows.traceFitsSpec Rows.traceFitsRow = true := by
  unfold joinedFacts
  exact (Pe.fand (Pe.fand (Pe.fand (Pe.fand (Pe.fand (Pe.fand (Pe.fand (Pe.fand (Pe.fand (Pe.fand (Pe.fand (Pe.fand (Pe.fand (Pe.fand (Pe.fand (Pe.fand (Pe.fand (Pe.fand (Pe.fand (Pe.fand (Pe.fand (Pe.fand (Pe.fand (Pe.fand (Pe.fand (Pe.fand (Pe.fand (Pe.fand (Pe.fand (Pe.fand (Pe.fand Pe.fk0 Pe.fk1) Pe.fk2) Pe.fk3) Pe.fk4) Pe.fk5) Pe.fk6) Pe.fk7) Pe.fk8) Pe.fk9) Pe.fk10) Pe.fk11) Pe.fk12) Pe.fk13) Pe.fk14) Pe.fk15) Pe.fk16) Pe.fk17) Pe.fk18) Pe.fk19) Pe.fk20) Pe.fk21) Pe.fk22) Pe.fk23) Pe.fk24) Pe.fk25) Pe.fk26) Pe.fk27) Pe.fk28) Pe.fk29) Pe.fk30) Pe.fk31)
end Go.Proofs.YtmhinddneefmbaaGreat
