/-
  No cell of these rows narrows 'for every input' (looked for: loops, veiled, ifaces, maps, wideKeys, modest, calm, conditions, laid).
  DERIVED. THE GIVEN ROWS OF THIS SEAT. 4 by the template 'for every input the law returns true; each argument reads behind the call as it read before'; 0 by the template 'total and deterministic' (their statements: YtapdaefpkddioaaGreatTotals.lean).
  GIVEN WITH THE SEED: the statements are not yours to turn. If you find one false, say at which input.
  Laid BY PROGRAM, IN A SANDBOX (cutbox-rows.mjs): the forced cells as the released guide's own fill.sh prints them over the translation bb2b2e5cfaaee423… (all of the seat's roots in one cut). By AI agents, Wed Nov 11 2026. No macro, syntax, notation, axiom, sorry.
-/
import Derived.Test.YtapdaefpkddioaaGreatChecked
import GoSem.Claim
import GoSem.ClaimJoined
import GoSem.ClaimMapViews
import Derived.JoinedTies
import Derived.KernelRfl
namespace Go.Proofs.YtapdaefpkddioaaGreat
/- THE CELL 'sum', in the pinned program and in every row, IS THE sha256 OF THE DUMP (.gsa) THAT YtapdaefpkddioaaGreatProg.lean LOADS. Nothing in Lean hashes anything: it is a label: what it is worth is what the hold of that sum in a sandbox is worth. -/
noncomputable def Tryz.pinned : Pinned := { name := "ytapdaefpkddioaagreat", sum := "bb2b2e5cfaaee42397ef4402bc96ea49b32a1808f13b22a8b574e5a811408110", checked := Tryz.checked }
namespace Rows
def none {H : Type} : Left H := { results := [], args := [] }

/-- 'carracklaw14.ModelPlays': WHATEVER THE INPUT: true; the input reads as it did. -/
def modelPlaysSpec : ChangeSpec := { name := "modelPlays", fn := fun _ => fun
  | [d] => { results := [.lit (.bool true)], args := [d] }
  | _ => none }
def modelPlaysRow : OpenClaim := { program := "ytapdaefpkddioaagreat", sum := "bb2b2e5cfaaee42397ef4402bc96ea49b32a1808f13b22a8b574e5a811408110", func := "carrack/carracklaw14.ModelPlays", spec := "modelPlays", inPlace := ["math/bits.Add64", "slices.overlaps[carrack/model.Block]"], unfollowed := true, recurses := true, apart := false }
def ModelPlaysSaid : Prop := modelPlaysRow.holds Tryz.pinned (OpenSpec.ofChange modelPlaysSpec)

/-- ITS FALSE NEIGHBOUR: 'it returns false'. Refute it at one input. -/
def modelPlaysWrong : ChangeSpec := { name := "modelPlays", fn := fun _ => fun
  | [d] => { results := [.lit (.bool false)], args := [d] }
  | _ => none }
def ModelPlaysWrongFalsely : Prop := modelPlaysRow.holds Tryz.pinned (OpenSpec.ofChange modelPlaysWrong)

/-- 'carracklaw14.ModelRefuses': WHATEVER THE INPUT: true; the input reads as it did. -/
def modelRefusesSpec : ChangeSpec := { name := "modelRefuses", fn := fun _ => fun
  | [d1, d2] => { results := [.lit (.bool true)], args := [d1, d2] }
  | _ => none }
def modelRefusesRow : OpenClaim := { program := "ytapdaefpkddioaagreat", sum := "bb2b2e5cfaaee42397ef4402bc96ea49b32a1808f13b22a8b574e5a811408110", func := "carrack/carracklaw14.ModelRefuses", spec := "modelRefuses", inPlace := ["math/bits.Add64", "slices.overlaps[carrack/model.Block]"], unfollowed := true, recurses := true, apart := false }
def ModelRefusesSaid : Prop := modelRefusesRow.holds Tryz.pinned (OpenSpec.ofChange modelRefusesSpec)

/-- ITS FALSE NEIGHBOUR: 'it returns false'. Refute it at one input. -/
def modelRefusesWrong : ChangeSpec := { name := "modelRefuses", fn := fun _ => fun
  | [d1, d2] => { results := [.lit (.bool false)], args := [d1, d2] }
  | _ => none }
def ModelRefusesWrongFalsely : Prop := modelRefusesRow.holds Tryz.pinned (OpenSpec.ofChange modelRefusesWrong)

/-- 'carracklaw14.ModelDies': WHATEVER THE INPUT: true; the input reads as it did. -/
def modelDiesSpec : ChangeSpec := { name := "modelDies", fn := fun _ => fun
  | [d1, d2] => { results := [.lit (.bool true)], args := [d1, d2] }
  | _ => none }
def modelDiesRow : OpenClaim := { program := "ytapdaefpkddioaagreat", sum := "bb2b2e5cfaaee42397ef4402bc96ea49b32a1808f13b22a8b574e5a811408110", func := "carrack/carracklaw14.ModelDies", spec := "modelDies", inPlace := ["math/bits.Add64", "slices.overlaps[carrack/model.Block]"], unfollowed := true, recurses := true, apart := false }
def ModelDiesSaid : Prop := modelDiesRow.holds Tryz.pinned (OpenSpec.ofChange modelDiesSpec)

/-- ITS FALSE NEIGHBOUR: 'it returns false'. Refute it at one input. -/
def modelDiesWrong : ChangeSpec := { name := "modelDies", fn := fun _ => fun
  | [d1, d2] => { results := [.lit (.bool false)], args := [d1, d2] }
  | _ => none }
def ModelDiesWrongFalsely : Prop := modelDiesRow.holds Tryz.pinned (OpenSpec.ofChange modelDiesWrong)

/-- 'carracklaw14.ModelNobody': WHATEVER THE INPUT: true; the input reads as it did. -/
def modelNobodySpec : ChangeSpec := { name := "modelNobody", fn := fun _ => fun
  | [d1, d2, d3] => { results := [.lit (.bool true)], args := [d1, d2, d3] }
  | _ => none }
def modelNobodyRow : OpenClaim := { program := "ytapdaefpkddioaagreat", sum := "bb2b2e5cfaaee42397ef4402bc96ea49b32a1808f13b22a8b574e5a811408110", func := "carrack/carracklaw14.ModelNobody", spec := "modelNobody", inPlace := ["math/bits.Add64", "slices.overlaps[carrack/model.Block]"], unfollowed := true, recurses := true, apart := false }
def ModelNobodySaid : Prop := modelNobodyRow.holds Tryz.pinned (OpenSpec.ofChange modelNobodySpec)

/-- ITS FALSE NEIGHBOUR: 'it returns false'. Refute it at one input. -/
def modelNobodyWrong : ChangeSpec := { name := "modelNobody", fn := fun _ => fun
  | [d1, d2, d3] => { results := [.lit (.bool false)], args := [d1, d2, d3] }
  | _ => none }
def ModelNobodyWrongFalsely : Prop := modelNobodyRow.holds Tryz.pinned (OpenSpec.ofChange modelNobodyWrong)

/- THE SECOND FORM. 'bulk': how many values and letters a reading holds, each counted each time it is reached (what is shared counts as often as it is met; a slice's spare places count too). A statement '..UptoSaid' is the law's where the arguments, and the package variables that the reading takes, are together of bulk at most 1048576: NARROWER than '..Said'. Prove '..Said' where nothing that the law and all that it calls make is longer than what came in: it says more and counts as full. Else prove '..UptoSaid'. A law counts once. -/
mutual
def uptoBulk {H : Type} : DataW H → Nat
  | .lit (.string bytes) => bytes.length + 1
  | .lit _ => 1
  | .nil => 1
  | .ptr d => uptoBulk d + 1
  | .slice elems spare => uptoBulkAll elems + uptoBulkAll spare + 1
  | .agg parts => uptoBulkAll parts + 1
  | .iface _ d => uptoBulk d + 1
  | .map entries => uptoBulkEntries entries + 1
  | .held _ => 1
def uptoBulkAll {H : Type} : List (DataW H) → Nat
  | [] => 0
  | d :: r => uptoBulk d + uptoBulkAll r
def uptoBulkEntries {H : Type} : List (Lit × DataW H) → Nat
  | [] => 0
  | x :: r => uptoBulkEntry x + uptoBulkEntries r
def uptoBulkEntry {H : Type} : Lit × DataW H → Nat
  | (.string bytes, d) => bytes.length + uptoBulk d + 1
  | (_, d) => uptoBulk d + 1
 end
def uptoSmall : (H : Type) → List (DataW H) → Bool := fun _ ds => decide (uptoBulkAll ds ≤ 1048576)
def OpenSpec.upto (s : _root_.Go.ChangeSpec) : _root_.Go.OpenSpec := { _root_.Go.OpenSpec.ofChange s with cond := some uptoSmall }

/-- 'carracklaw14.ModelPlays', WHERE WHAT IT READS IS OF BULK AT MOST 1048576: true; the input reads as it did. -/
def modelPlaysUptoRow : OpenClaim := { program := "ytapdaefpkddioaagreat", sum := "bb2b2e5cfaaee42397ef4402bc96ea49b32a1808f13b22a8b574e5a811408110", func := "carrack/carracklaw14.ModelPlays", spec := "modelPlays", inPlace := ["math/bits.Add64", "slices.overlaps[carrack/model.Block]"], unfollowed := true, recurses := true, apart := false, narrowed := true }
def ModelPlaysUptoSaid : Prop := modelPlaysUptoRow.holds Tryz.pinned (OpenSpec.upto modelPlaysSpec)

/-- 'carracklaw14.ModelRefuses', WHERE WHAT IT READS IS OF BULK AT MOST 1048576: true; the input reads as it did. -/
def modelRefusesUptoRow : OpenClaim := { program := "ytapdaefpkddioaagreat", sum := "bb2b2e5cfaaee42397ef4402bc96ea49b32a1808f13b22a8b574e5a811408110", func := "carrack/carracklaw14.ModelRefuses", spec := "modelRefuses", inPlace := ["math/bits.Add64", "slices.overlaps[carrack/model.Block]"], unfollowed := true, recurses := true, apart := false, narrowed := true }
def ModelRefusesUptoSaid : Prop := modelRefusesUptoRow.holds Tryz.pinned (OpenSpec.upto modelRefusesSpec)

/-- 'carracklaw14.ModelDies', WHERE WHAT IT READS IS OF BULK AT MOST 1048576: true; the input reads as it did. -/
def modelDiesUptoRow : OpenClaim := { program := "ytapdaefpkddioaagreat", sum := "bb2b2e5cfaaee42397ef4402bc96ea49b32a1808f13b22a8b574e5a811408110", func := "carrack/carracklaw14.ModelDies", spec := "modelDies", inPlace := ["math/bits.Add64", "slices.overlaps[carrack/model.Block]"], unfollowed := true, recurses := true, apart := false, narrowed := true }
def ModelDiesUptoSaid : Prop := modelDiesUptoRow.holds Tryz.pinned (OpenSpec.upto modelDiesSpec)

/-- 'carracklaw14.ModelNobody', WHERE WHAT IT READS IS OF BULK AT MOST 1048576: true; the input reads as it did. -/
def modelNobodyUptoRow : OpenClaim := { program := "ytapdaefpkddioaagreat", sum := "bb2b2e5cfaaee42397ef4402bc96ea49b32a1808f13b22a8b574e5a811408110", func := "carrack/carracklaw14.ModelNobody", spec := "modelNobody", inPlace := ["math/bits.Add64", "slices.overlaps[carrack/model.Block]"], unfollowed := true, recurses := true, apart := false, narrowed := true }
def ModelNobodyUptoSaid : Prop := modelNobodyUptoRow.holds Tryz.pinned (OpenSpec.upto modelNobodySpec)

end Rows
end Go.Proofs.YtapdaefpkddioaaGreat
