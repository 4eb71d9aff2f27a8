/-
  No cell of these rows narrows 'for every input' (looked for: loops, veiled, ifaces, maps, wideKeys, modest, calm, conditions, laid).
  DERIVED. THE GIVEN ROWS OF THIS SEAT. 2 by the template 'for every input the law returns true; each argument reads behind the call as it read before'; 0 by the template 'total and deterministic' (their statements: YtdapdiaklpcmjaaGreatTotals.lean).
  GIVEN WITH THE SEED: the statements are not yours to turn. If you find one false, say at which input.
  Laid BY PROGRAM, IN A SANDBOX (cutbox-rows.mjs): the forced cells as the released guide's own fill.sh prints them over the translation a6502957106d2a39… (all of the seat's roots in one cut). By AI agents, Wed Nov 11 2026. No macro, syntax, notation, axiom, sorry.
-/
import Derived.Test.YtdapdiaklpcmjaaGreatChecked
import GoSem.Claim
import GoSem.ClaimJoined
import GoSem.ClaimMapViews
import Derived.JoinedTies
import Derived.KernelRfl
namespace Go.Proofs.YtdapdiaklpcmjaaGreat
/- THE CELL 'sum', in the pinned program and in every row, IS THE sha256 OF THE DUMP (.gsa) THAT YtdapdiaklpcmjaaGreatProg.lean LOADS. Nothing in Lean hashes anything: it is a label: what it is worth is what the hold of that sum in a sandbox is worth. -/
noncomputable def Tryz.pinned : Pinned := { name := "ytdapdiaklpcmjaagreat", sum := "a6502957106d2a395ac9d094716b17254d90fbc30ef4e18c5a8f9cc0cbebb643", checked := Tryz.checked }
namespace Rows
def none {H : Type} : Left H := { results := [], args := [] }

/-- 'carracklaw16.AuditNobody': WHATEVER THE INPUT: true; the input reads as it did. -/
def auditNobodySpec : ChangeSpec := { name := "auditNobody", fn := fun _ => fun
  | [d1, d2] => { results := [.lit (.bool true)], args := [d1, d2] }
  | _ => none }
def auditNobodyRow : OpenClaim := { program := "ytdapdiaklpcmjaagreat", sum := "a6502957106d2a395ac9d094716b17254d90fbc30ef4e18c5a8f9cc0cbebb643", func := "carrack/carracklaw16.AuditNobody", spec := "auditNobody", inPlace := ["math/bits.Add64"], unfollowed := true, recurses := true, apart := false }
def AuditNobodySaid : Prop := auditNobodyRow.holds Tryz.pinned (OpenSpec.ofChange auditNobodySpec)

/-- ITS FALSE NEIGHBOUR: 'it returns false'. Refute it at one input. -/
def auditNobodyWrong : ChangeSpec := { name := "auditNobody", fn := fun _ => fun
  | [d1, d2] => { results := [.lit (.bool false)], args := [d1, d2] }
  | _ => none }
def AuditNobodyWrongFalsely : Prop := auditNobodyRow.holds Tryz.pinned (OpenSpec.ofChange auditNobodyWrong)

/-- 'carracklaw20.MachineNobody': WHATEVER THE INPUT: true; the input reads as it did. -/
def machineNobodySpec : ChangeSpec := { name := "machineNobody", fn := fun _ => fun
  | [d1, d2, d3] => { results := [.lit (.bool true)], args := [d1, d2, d3] }
  | _ => none }
def machineNobodyRow : OpenClaim := { program := "ytdapdiaklpcmjaagreat", sum := "a6502957106d2a395ac9d094716b17254d90fbc30ef4e18c5a8f9cc0cbebb643", func := "carrack/carracklaw20.MachineNobody", spec := "machineNobody", inPlace := ["math/bits.Add64", "sync/atomic.LoadUint32", "(*internal/sync.Mutex).Lock", "internal/race.Disable", "sync/atomic.CompareAndSwapInt32", "internal/race.Enable", "internal/race.Acquire", "(*internal/sync.Mutex).lockSlow", "internal/sync.runtime_canSpin", "internal/sync.runtime_doSpin", "internal/sync.throw", "internal/sync.runtime_nanotime", "internal/sync.runtime_SemacquireMutex", "sync/atomic.AddInt32", "(*internal/sync.Mutex).Unlock", "internal/race.ReleaseMerge", "(*internal/sync.Mutex).unlockSlow", "internal/sync.fatal", "internal/sync.runtime_Semrelease", "sync/atomic.StoreUint32"], unfollowed := true, recurses := true, apart := false }
def MachineNobodySaid : Prop := machineNobodyRow.holds Tryz.pinned (OpenSpec.ofChange machineNobodySpec)

/-- ITS FALSE NEIGHBOUR: 'it returns false'. Refute it at one input. -/
def machineNobodyWrong : ChangeSpec := { name := "machineNobody", fn := fun _ => fun
  | [d1, d2, d3] => { results := [.lit (.bool false)], args := [d1, d2, d3] }
  | _ => none }
def MachineNobodyWrongFalsely : Prop := machineNobodyRow.holds Tryz.pinned (OpenSpec.ofChange machineNobodyWrong)

/- THE SECOND FORM. 'bulk': how many values and letters a reading holds, each counted each time it is reached (what is shared counts as often as it is met; a slice's spare places count too). A statement '..UptoSaid' is the law's where the arguments, and the package variables that the reading takes, are together of bulk at most 1048576: NARROWER than '..Said'. Prove '..Said' where nothing that the law and all that it calls make is longer than what came in: it says more and counts as full. Else prove '..UptoSaid'. A law counts once. -/
mutual
def uptoBulk {H : Type} : DataW H → Nat
  | .lit (.string bytes) => bytes.length + 1
  | .lit _ => 1
  | .nil => 1
  | .ptr d => uptoBulk d + 1
  | .slice elems spare => uptoBulkAll elems + uptoBulkAll spare + 1
  | .agg parts => uptoBulkAll parts + 1
  | .iface _ d => uptoBulk d + 1
  | .map entries => uptoBulkEntries entries + 1
  | .held _ => 1
def uptoBulkAll {H : Type} : List (DataW H) → Nat
  | [] => 0
  | d :: r => uptoBulk d + uptoBulkAll r
def uptoBulkEntries {H : Type} : List (Lit × DataW H) → Nat
  | [] => 0
  | x :: r => uptoBulkEntry x + uptoBulkEntries r
def uptoBulkEntry {H : Type} : Lit × DataW H → Nat
  | (.string bytes, d) => bytes.length + uptoBulk d + 1
  | (_, d) => uptoBulk d + 1
 end
def uptoSmall : (H : Type) → List (DataW H) → Bool := fun _ ds => decide (uptoBulkAll ds ≤ 1048576)
def OpenSpec.upto (s : _root_.Go.ChangeSpec) : _root_.Go.OpenSpec := { _root_.Go.OpenSpec.ofChange s with cond := some uptoSmall }

/-- 'carracklaw16.AuditNobody', WHERE WHAT IT READS IS OF BULK AT MOST 1048576: true; the input reads as it did. -/
def auditNobodyUptoRow : OpenClaim := { program := "ytdapdiaklpcmjaagreat", sum := "a6502957106d2a395ac9d094716b17254d90fbc30ef4e18c5a8f9cc0cbebb643", func := "carrack/carracklaw16.AuditNobody", spec := "auditNobody", inPlace := ["math/bits.Add64"], unfollowed := true, recurses := true, apart := false, narrowed := true }
def AuditNobodyUptoSaid : Prop := auditNobodyUptoRow.holds Tryz.pinned (OpenSpec.upto auditNobodySpec)

/-- 'carracklaw20.MachineNobody', WHERE WHAT IT READS IS OF BULK AT MOST 1048576: true; the input reads as it did. -/
def machineNobodyUptoRow : OpenClaim := { program := "ytdapdiaklpcmjaagreat", sum := "a6502957106d2a395ac9d094716b17254d90fbc30ef4e18c5a8f9cc0cbebb643", func := "carrack/carracklaw20.MachineNobody", spec := "machineNobody", inPlace := ["math/bits.Add64", "sync/atomic.LoadUint32", "(*internal/sync.Mutex).Lock", "internal/race.Disable", "sync/atomic.CompareAndSwapInt32", "internal/race.Enable", "internal/race.Acquire", "(*internal/sync.Mutex).lockSlow", "internal/sync.runtime_canSpin", "internal/sync.runtime_doSpin", "internal/sync.throw", "internal/sync.runtime_nanotime", "internal/sync.runtime_SemacquireMutex", "sync/atomic.AddInt32", "(*internal/sync.Mutex).Unlock", "internal/race.ReleaseMerge", "(*internal/sync.Mutex).unlockSlow", "internal/sync.fatal", "internal/sync.runtime_Semrelease", "sync/atomic.StoreUint32"], unfollowed := true, recurses := true, apart := false, narrowed := true }
def MachineNobodyUptoSaid : Prop := machineNobodyUptoRow.holds Tryz.pinned (OpenSpec.upto machineNobodySpec)

end Rows
end Go.Proofs.YtdapdiaklpcmjaaGreat
