/-
  No cell of these rows narrows 'for every input' (looked for: loops, veiled, ifaces, maps, wideKeys, modest, calm, conditions, laid).
  DERIVED. THE GIVEN ROWS OF THIS SEAT. 4 by the template 'for every input the law returns true; each argument reads behind the call as it read before'; 0 by the template 'total and deterministic' (their statements: YtmhinddneefmbaaGreatTotals.lean).
  GIVEN WITH THE SEED: the statements are not yours to turn. If you find one false, say at which input.
  Laid BY PROGRAM, IN A SANDBOX (cutbox-rows.mjs): the forced cells as the released guide's own fill.sh prints them over the translation 3754d7d7bbf20054… (all of the seat's roots in one cut). By AI agents, Wed Nov 11 2026. No macro, syntax, notation, axiom, sorry.
-/
import Derived.Test.YtmhinddneefmbaaGreatChecked
import GoSem.Claim
import GoSem.ClaimJoined
import GoSem.ClaimMapViews
import Derived.JoinedTies
import Derived.KernelRfl
namespace Go.Proofs.YtmhinddneefmbaaGreat
/- THE CELL 'sum', in the pinned program and in every row, IS THE sha256 OF THE DUMP (.gsa) THAT YtmhinddneefmbaaGreatProg.lean LOADS. Nothing in Lean hashes anything: it is a label: what it is worth is what the hold of that sum in a sandbox is worth. -/
noncomputable def Tryz.pinned : Pinned := { name := "ytmhinddneefmbaagreat", sum := "3754d7d7bbf200549458e5b8ce67de29095015166d1a769f92ab700399b79d65", checked := Tryz.checked }
namespace Rows
def none {H : Type} : Left H := { results := [], args := [] }

/-- 'carracklaw21.WorldNobody': WHATEVER THE INPUT: true; the input reads as it did. -/
def worldNobodySpec : ChangeSpec := { name := "worldNobody", fn := fun _ => fun
  | [d1, d2, d3] => { results := [.lit (.bool true)], args := [d1, d2, d3] }
  | _ => none }
def worldNobodyRow : OpenClaim := { program := "ytmhinddneefmbaagreat", sum := "3754d7d7bbf200549458e5b8ce67de29095015166d1a769f92ab700399b79d65", func := "carrack/carracklaw21.WorldNobody", spec := "worldNobody", inPlace := ["math/bits.Add64", "sync/atomic.LoadUint32", "(*internal/sync.Mutex).Lock", "internal/race.Disable", "sync/atomic.CompareAndSwapInt32", "internal/race.Enable", "internal/race.Acquire", "(*internal/sync.Mutex).lockSlow", "internal/sync.runtime_canSpin", "internal/sync.runtime_doSpin", "internal/sync.throw", "internal/sync.runtime_nanotime", "internal/sync.runtime_SemacquireMutex", "sync/atomic.AddInt32", "(*internal/sync.Mutex).Unlock", "internal/race.ReleaseMerge", "(*internal/sync.Mutex).unlockSlow", "internal/sync.fatal", "internal/sync.runtime_Semrelease", "sync/atomic.StoreUint32", "sync/atomic.LoadInt64", "sync/atomic.AddInt64"], unfollowed := true, recurses := true, apart := false }
def WorldNobodySaid : Prop := worldNobodyRow.holds Tryz.pinned (OpenSpec.ofChange worldNobodySpec)

/-- ITS FALSE NEIGHBOUR: 'it returns false'. Refute it at one input. -/
def worldNobodyWrong : ChangeSpec := { name := "worldNobody", fn := fun _ => fun
  | [d1, d2, d3] => { results := [.lit (.bool false)], args := [d1, d2, d3] }
  | _ => none }
def WorldNobodyWrongFalsely : Prop := worldNobodyRow.holds Tryz.pinned (OpenSpec.ofChange worldNobodyWrong)

/-- 'carracklaw22.TraceFits': WHATEVER THE INPUT: true; the input reads as it did. -/
def traceFitsSpec : ChangeSpec := { name := "traceFits", fn := fun _ => fun
  | [d1, d2] => { results := [.lit (.bool true)], args := [d1, d2] }
  | _ => none }
def traceFitsRow : OpenClaim := { program := "ytmhinddneefmbaagreat", sum := "3754d7d7bbf200549458e5b8ce67de29095015166d1a769f92ab700399b79d65", func := "carrack/carracklaw22.TraceFits", spec := "traceFits", inPlace := ["math/bits.Add64", "slices.overlaps[carrack/model.Block]", "sync/atomic.LoadUint32", "(*internal/sync.Mutex).Lock", "internal/race.Disable", "sync/atomic.CompareAndSwapInt32", "internal/race.Enable", "internal/race.Acquire", "(*internal/sync.Mutex).lockSlow", "internal/sync.runtime_canSpin", "internal/sync.runtime_doSpin", "internal/sync.throw", "internal/sync.runtime_nanotime", "internal/sync.runtime_SemacquireMutex", "sync/atomic.AddInt32", "(*internal/sync.Mutex).Unlock", "internal/race.ReleaseMerge", "(*internal/sync.Mutex).unlockSlow", "internal/sync.fatal", "internal/sync.runtime_Semrelease", "sync/atomic.StoreUint32", "sync/atomic.LoadInt64", "sync/atomic.AddInt64"], unfollowed := true, recurses := true, apart := false }
def TraceFitsSaid : Prop := traceFitsRow.holds Tryz.pinned (OpenSpec.ofChange traceFitsSpec)

/-- ITS FALSE NEIGHBOUR: 'it returns false'. Refute it at one input. -/
def traceFitsWrong : ChangeSpec := { name := "traceFits", fn := fun _ => fun
  | [d1, d2] => { results := [.lit (.bool false)], args := [d1, d2] }
  | _ => none }
def TraceFitsWrongFalsely : Prop := traceFitsRow.holds Tryz.pinned (OpenSpec.ofChange traceFitsWrong)

/-- 'carracklaw24.ScriptDeeds': WHATEVER THE INPUT: true; the input reads as it did. -/
def scriptDeedsSpec : ChangeSpec := { name := "scriptDeeds", fn := fun _ => fun
  | [d] => { results := [.lit (.bool true)], args := [d] }
  | _ => none }
def scriptDeedsRow : OpenClaim := { program := "ytmhinddneefmbaagreat", sum := "3754d7d7bbf200549458e5b8ce67de29095015166d1a769f92ab700399b79d65", func := "carrack/carracklaw24.ScriptDeeds", spec := "scriptDeeds", inPlace := ["math/bits.Add64", "sync/atomic.LoadUint32", "(*internal/sync.Mutex).Lock", "internal/race.Disable", "sync/atomic.CompareAndSwapInt32", "internal/race.Enable", "internal/race.Acquire", "(*internal/sync.Mutex).lockSlow", "internal/sync.runtime_canSpin", "internal/sync.runtime_doSpin", "internal/sync.throw", "internal/sync.runtime_nanotime", "internal/sync.runtime_SemacquireMutex", "sync/atomic.AddInt32", "(*internal/sync.Mutex).Unlock", "internal/race.ReleaseMerge", "(*internal/sync.Mutex).unlockSlow", "internal/sync.fatal", "internal/sync.runtime_Semrelease", "sync/atomic.StoreUint32", "sync/atomic.LoadInt64", "sync/atomic.AddInt64"], unfollowed := true, recurses := true, apart := false }
def ScriptDeedsSaid : Prop := scriptDeedsRow.holds Tryz.pinned (OpenSpec.ofChange scriptDeedsSpec)

/-- ITS FALSE NEIGHBOUR: 'it returns false'. Refute it at one input. -/
def scriptDeedsWrong : ChangeSpec := { name := "scriptDeeds", fn := fun _ => fun
  | [d] => { results := [.lit (.bool false)], args := [d] }
  | _ => none }
def ScriptDeedsWrongFalsely : Prop := scriptDeedsRow.holds Tryz.pinned (OpenSpec.ofChange scriptDeedsWrong)

/-- 'carracklaw22.TraceReplays': WHATEVER THE INPUT: true; the input reads as it did. -/
def traceReplaysSpec : ChangeSpec := { name := "traceReplays", fn := fun _ => fun
  | [d1, d2, d3] => { results := [.lit (.bool true)], args := [d1, d2, d3] }
  | _ => none }
def traceReplaysRow : OpenClaim := { program := "ytmhinddneefmbaagreat", sum := "3754d7d7bbf200549458e5b8ce67de29095015166d1a769f92ab700399b79d65", func := "carrack/carracklaw22.TraceReplays", spec := "traceReplays", inPlace := ["math/bits.Add64", "slices.overlaps[carrack/model.Block]", "sync/atomic.LoadUint32", "(*internal/sync.Mutex).Lock", "internal/race.Disable", "sync/atomic.CompareAndSwapInt32", "internal/race.Enable", "internal/race.Acquire", "(*internal/sync.Mutex).lockSlow", "internal/sync.runtime_canSpin", "internal/sync.runtime_doSpin", "internal/sync.throw", "internal/sync.runtime_nanotime", "internal/sync.runtime_SemacquireMutex", "sync/atomic.AddInt32", "(*internal/sync.Mutex).Unlock", "internal/race.ReleaseMerge", "(*internal/sync.Mutex).unlockSlow", "internal/sync.fatal", "internal/sync.runtime_Semrelease", "sync/atomic.StoreUint32", "sync/atomic.LoadInt64", "sync/atomic.AddInt64"], unfollowed := true, recurses := true, apart := false }
def TraceReplaysSaid : Prop := traceReplaysRow.holds Tryz.pinned (OpenSpec.ofChange traceReplaysSpec)

/-- ITS FALSE NEIGHBOUR: 'it returns false'. Refute it at one input. -/
def traceReplaysWrong : ChangeSpec := { name := "traceReplays", fn := fun _ => fun
  | [d1, d2, d3] => { results := [.lit (.bool false)], args := [d1, d2, d3] }
  | _ => none }
def TraceReplaysWrongFalsely : Prop := traceReplaysRow.holds Tryz.pinned (OpenSpec.ofChange traceReplaysWrong)

/- THE SECOND FORM. 'bulk': how many values and letters a reading holds, each counted each time it is reached (what is shared counts as often as it is met; a slice's spare places count too). A statement '..UptoSaid' is the law's where the arguments, and the package variables that the reading takes, are together of bulk at most 1048576: NARROWER than '..Said'. Prove '..Said' where nothing that the law and all that it calls make is longer than what came in: it says more and counts as full. Else prove '..UptoSaid'. A law counts once. -/
mutual
def uptoBulk {H : Type} : DataW H → Nat
  | .lit (.string bytes) => bytes.length + 1
  | .lit _ => 1
  | .nil => 1
  | .ptr d => uptoBulk d + 1
  | .slice elems spare => uptoBulkAll elems + uptoBulkAll spare + 1
  | .agg parts => uptoBulkAll parts + 1
  | .iface _ d => uptoBulk d + 1
  | .map entries => uptoBulkEntries entries + 1
  | .held _ => 1
def uptoBulkAll {H : Type} : List (DataW H) → Nat
  | [] => 0
  | d :: r => uptoBulk d + uptoBulkAll r
def uptoBulkEntries {H : Type} : List (Lit × DataW H) → Nat
  | [] => 0
  | x :: r => uptoBulkEntry x + uptoBulkEntries r
def uptoBulkEntry {H : Type} : Lit × DataW H → Nat
  | (.string bytes, d) => bytes.length + uptoBulk d + 1
  | (_, d) => uptoBulk d + 1
 end
def uptoSmall : (H : Type) → List (DataW H) → Bool := fun _ ds => decide (uptoBulkAll ds ≤ 1048576)
def OpenSpec.upto (s : _root_.Go.ChangeSpec) : _root_.Go.OpenSpec := { _root_.Go.OpenSpec.ofChange s with cond := some uptoSmall }

/-- 'carracklaw21.WorldNobody', WHERE WHAT IT READS IS OF BULK AT MOST 1048576: true; the input reads as it did. -/
def worldNobodyUptoRow : OpenClaim := { program := "ytmhinddneefmbaagreat", sum := "3754d7d7bbf200549458e5b8ce67de29095015166d1a769f92ab700399b79d65", func := "carrack/carracklaw21.WorldNobody", spec := "worldNobody", inPlace := ["math/bits.Add64", "sync/atomic.LoadUint32", "(*internal/sync.Mutex).Lock", "internal/race.Disable", "sync/atomic.CompareAndSwapInt32", "internal/race.Enable", "internal/race.Acquire", "(*internal/sync.Mutex).lockSlow", "internal/sync.runtime_canSpin", "internal/sync.runtime_doSpin", "internal/sync.throw", "internal/sync.runtime_nanotime", "internal/sync.runtime_SemacquireMutex", "sync/atomic.AddInt32", "(*internal/sync.Mutex).Unlock", "internal/race.ReleaseMerge", "(*internal/sync.Mutex).unlockSlow", "internal/sync.fatal", "internal/sync.runtime_Semrelease", "sync/atomic.StoreUint32", "sync/atomic.LoadInt64", "sync/atomic.AddInt64"], unfollowed := true, recurses := true, apart := false, narrowed := true }
def WorldNobodyUptoSaid : Prop := worldNobodyUptoRow.holds Tryz.pinned (OpenSpec.upto worldNobodySpec)

/-- 'carracklaw22.TraceFits', WHERE WHAT IT READS IS OF BULK AT MOST 1048576: true; the input reads as it did. -/
def traceFitsUptoRow : OpenClaim := { program := "ytmhinddneefmbaagreat", sum := "3754d7d7bbf200549458e5b8ce67de29095015166d1a769f92ab700399b79d65", func := "carrack/carracklaw22.TraceFits", spec := "traceFits", inPlace := ["math/bits.Add64", "slices.overlaps[carrack/model.Block]", "sync/atomic.LoadUint32", "(*internal/sync.Mutex).Lock", "internal/race.Disable", "sync/atomic.CompareAndSwapInt32", "internal/race.Enable", "internal/race.Acquire", "(*internal/sync.Mutex).lockSlow", "internal/sync.runtime_canSpin", "internal/sync.runtime_doSpin", "internal/sync.throw", "internal/sync.runtime_nanotime", "internal/sync.runtime_SemacquireMutex", "sync/atomic.AddInt32", "(*internal/sync.Mutex).Unlock", "internal/race.ReleaseMerge", "(*internal/sync.Mutex).unlockSlow", "internal/sync.fatal", "internal/sync.runtime_Semrelease", "sync/atomic.StoreUint32", "sync/atomic.LoadInt64", "sync/atomic.AddInt64"], unfollowed := true, recurses := true, apart := false, narrowed := true }
def TraceFitsUptoSaid : Prop := traceFitsUptoRow.holds Tryz.pinned (OpenSpec.upto traceFitsSpec)

/-- 'carracklaw24.ScriptDeeds', WHERE WHAT IT READS IS OF BULK AT MOST 1048576: true; the input reads as it did. -/
def scriptDeedsUptoRow : OpenClaim := { program := "ytmhinddneefmbaagreat", sum := "3754d7d7bbf200549458e5b8ce67de29095015166d1a769f92ab700399b79d65", func := "carrack/carracklaw24.ScriptDeeds", spec := "scriptDeeds", inPlace := ["math/bits.Add64", "sync/atomic.LoadUint32", "(*internal/sync.Mutex).Lock", "internal/race.Disable", "sync/atomic.CompareAndSwapInt32", "internal/race.Enable", "internal/race.Acquire", "(*internal/sync.Mutex).lockSlow", "internal/sync.runtime_canSpin", "internal/sync.runtime_doSpin", "internal/sync.throw", "internal/sync.runtime_nanotime", "internal/sync.runtime_SemacquireMutex", "sync/atomic.AddInt32", "(*internal/sync.Mutex).Unlock", "internal/race.ReleaseMerge", "(*internal/sync.Mutex).unlockSlow", "internal/sync.fatal", "internal/sync.runtime_Semrelease", "sync/atomic.StoreUint32", "sync/atomic.LoadInt64", "sync/atomic.AddInt64"], unfollowed := true, recurses := true, apart := false, narrowed := true }
def ScriptDeedsUptoSaid : Prop := scriptDeedsUptoRow.holds Tryz.pinned (OpenSpec.upto scriptDeedsSpec)

/-- 'carracklaw22.TraceReplays', WHERE WHAT IT READS IS OF BULK AT MOST 1048576: true; the input reads as it did. -/
def traceReplaysUptoRow : OpenClaim := { program := "ytmhinddneefmbaagreat", sum := "3754d7d7bbf200549458e5b8ce67de29095015166d1a769f92ab700399b79d65", func := "carrack/carracklaw22.TraceReplays", spec := "traceReplays", inPlace := ["math/bits.Add64", "slices.overlaps[carrack/model.Block]", "sync/atomic.LoadUint32", "(*internal/sync.Mutex).Lock", "internal/race.Disable", "sync/atomic.CompareAndSwapInt32", "internal/race.Enable", "internal/race.Acquire", "(*internal/sync.Mutex).lockSlow", "internal/sync.runtime_canSpin", "internal/sync.runtime_doSpin", "internal/sync.throw", "internal/sync.runtime_nanotime", "internal/sync.runtime_SemacquireMutex", "sync/atomic.AddInt32", "(*internal/sync.Mutex).Unlock", "internal/race.ReleaseMerge", "(*internal/sync.Mutex).unlockSlow", "internal/sync.fatal", "internal/sync.runtime_Semrelease", "sync/atomic.StoreUint32", "sync/atomic.LoadInt64", "sync/atomic.AddInt64"], unfollowed := true, recurses := true, apart := false, narrowed := true }
def TraceReplaysUptoSaid : Prop := traceReplaysUptoRow.holds Tryz.pinned (OpenSpec.upto traceReplaysSpec)

end Rows
end Go.Proofs.YtmhinddneefmbaaGreat
