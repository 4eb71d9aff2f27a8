/- A part of the proof of JdH. -/
import Derived.Test.YtmhinddneefmbaaGreatKf30
import Derived.Test.YtmhinddneefmbaaGreatKf33
set_option linter.unusedSimpArgs false
set_option linter.unusedVariables false
set_option linter.unusedSectionVars false
namespace Go.Proofs.YtmhinddneefmbaaGreat.Pe
open Go
set_option maxRecDepth 100000
def rowR (c k : Int) (n a f i v : Nat) (to : Int) (nm : ByteArray) (e : Int) (ro rv : Nat) (b en : Int) : List D := [.int .i64 c, .int .i64 k, .int .u64 (.ofNat n), .int .u64 (.ofNat a), .int .u64 (.ofNat f), .int .u64 (.ofNat i), .int .u64 (.ofNat v), .int .i64 to, .str nm, .int .i64 e, .int .u64 (.ofNat ro), .int .u64 (.ofNat rv), .int .i64 b, .int .i64 en]
def outR' (c k : Int) (n a f i v : Nat) (to : Int) (nm : ByteArray) (e : Int) (ro rv : Nat) (b en : Int) : List D := [.int .i64 c, .int .i64 k, .int .u64 (.ofNat n), .int .u64 (.ofNat a), .int .u64 (.ofNat f), .int .u64 (.ofNat i), .int .u64 (.ofNat v), .int .i64 to, .str nm, .int .i64 e, .int .u64 (.ofNat ro), .int .u64 (.ofNat rv), .int .i64 b, .int .i64 en, .bool false]
def rowE (rc dt at_ : Int) : List D := [.int .i64 rc, .int .i64 dt, .int .i64 at_]
noncomputable def rrB : Code := bodyOf Tryz.f20
noncomputable def rr0 : Code := cA rrB
noncomputable def rr1 : Code := cA (cB rrB)
noncomputable def rr2 : Code := cA (cA (cB (cB rrB)))
noncomputable def rr3 : Code := cB (cA (cB (cB rrB)))
noncomputable def rrL : Code := cA (cA rr3)
noncomputable def rrE : Code := cB (cB (cB rrB))
theorem rrB_eq : rrB = .seq rr0 (.seq rr1 (.seq (.seq rr2 rr3) rrE)) := by kernel_rfl
theorem rr3_eq : rr3 = .block 0 (.loop rrL) := by kernel_rfl
noncomputable def rrN (rows : List (List D)) : List (Nat × AV) := [(0, .v (.one (.sl rows))), (2, .v (.one .nils)), (3, .v (.one .nils)), (4, .v (.one (.int .i64 (.ofNat 0))))]
noncomputable def rrS (rows : List (List D)) (o m i : Nat) : List (Nat × AV) := [(0, .v (.one (.sl rows))), (2, .v (.one .nils)), (3, .v (.one (.ref o 15 0 m))), (4, .v (.one (.int .i64 (.ofNat i))))]
noncomputable def rrO (out : List (List D)) : PObj := ⟨some 82, 15, out⟩
section
variable (rows out : List (List D)) (ix m : Nat) (c k : Int) (n a f i v : Nat) (to : Int) (nm : ByteArray) (e : Int) (ro rv : Nat) (b en : Int)
noncomputable abbrev rrR0 := (evt Sx 60).code 41 none rr0 ⟨startS [.one (.sl rows)] 0 .leaf, .tr .leaf, 0⟩ ⟨0, [], [], [], [], []⟩
theorem rr_p0 : outP [0, 2] [] (rrR0 rows) = some (.normal, [some (.v (.one (.sl rows))), some (.v (.one .nils))], [], 0, allB [], []) := by kernel_rfl
theorem rr_p0e : eqL (rrR0 rows) = eqR (rrR0 rows) := by kernel_rfl
noncomputable abbrev rrR1 := (evt Sx 60).code 41 none rr1 (mkO [(0, .v (.one (.sl rows))), (2, .v (.one .nils))] [] 0) ⟨0, [], [], [], [], []⟩
theorem rr_p1 : outP [0, 2, 3] [] (rrR1 rows) = some (.normal, [some (.v (.one (.sl rows))), some (.v (.one .nils)), some (.v (.one .nils))], [], 0, allB [], []) := by kernel_rfl
theorem rr_p1e : eqL (rrR1 rows) = eqR (rrR1 rows) := by kernel_rfl
noncomputable abbrev rrR2 := (evt Sx 60).code 41 none rr2 (mkO [(0, .v (.one (.sl rows))), (2, .v (.one .nils)), (3, .v (.one .nils))] [] 0) ⟨0, [], [], [], [], []⟩
theorem rr_p2 : outP ((rrN rows).map fun p => p.1) [] (rrR2 rows) = some (.normal, (rrN rows).map (fun p => some p.2), [], 0, allB [], []) := by kernel_rfl
theorem rr_p2e : eqL (rrR2 rows) = eqR (rrR2 rows) := by kernel_rfl
noncomputable abbrev rrQ0 := (evt Sx 60).code 41 none rrL (mkO (rrN rows) [] 0) ⟨0, [(0, true), (1, .row 14 (rowR c k n a f i v to nm e ro rv b en)), (1, .row 16 (rowR c k n a f i v to nm e ro rv b en)), (1, .row 19 (rowR c k n a f i v to nm e ro rv b en)), (1, .row 21 (rowR c k n a f i v to nm e ro rv b en)), (1, .row 24 (rowR c k n a f i v to nm e ro rv b en)), (1, .row 26 (rowR c k n a f i v to nm e ro rv b en)), (1, .row 29 (rowR c k n a f i v to nm e ro rv b en)), (1, .row 31 (rowR c k n a f i v to nm e ro rv b en)), (1, .row 34 (rowR c k n a f i v to nm e ro rv b en)), (1, .row 36 (rowR c k n a f i v to nm e ro rv b en))], [], [], [], []⟩
theorem rr_s0 : outP ((rrS rows 1 1 1).map fun p => p.1) [1] (rrQ0 rows c k n a f i v to nm e ro rv b en) = some (.normal, (rrS rows 1 1 1).map (fun p => some p.2), [some (rrO [outR' c k n a f i v to nm e ro rv b en])], 2, allB [true, true, true, true, true, true, Nat.blt 0 rows.length], [(encR rows[0]?, encR (some (rowR c k n a f i v to nm e ro rv b en))), (encR rows[0]?, encR (some (rowR c k n a f i v to nm e ro rv b en))), (encR rows[0]?, encR (some (rowR c k n a f i v to nm e ro rv b en))), (encR rows[0]?, encR (some (rowR c k n a f i v to nm e ro rv b en))), (encR rows[0]?, encR (some (rowR c k n a f i v to nm e ro rv b en))), (encR rows[0]?, encR (some (rowR c k n a f i v to nm e ro rv b en))), (encR rows[0]?, encR (some (rowR c k n a f i v to nm e ro rv b en))), (encR rows[0]?, encR (some (rowR c k n a f i v to nm e ro rv b en))), (encR rows[0]?, encR (some (rowR c k n a f i v to nm e ro rv b en))), (encR rows[0]?, encR (some (rowR c k n a f i v to nm e ro rv b en)))]) := by kernel_rfl
theorem rr_s0e : eqL (rrQ0 rows c k n a f i v to nm e ro rv b en) = eqR (rrQ0 rows c k n a f i v to nm e ro rv b en) := by kernel_rfl
noncomputable abbrev rrQ := (evt Sx 60).code 41 none rrL (mkO (rrS rows 0 m ix) [(0, rrO out)] 1) ⟨0, [(0, true), (1, .row 14 (rowR c k n a f i v to nm e ro rv b en)), (1, .row 16 (rowR c k n a f i v to nm e ro rv b en)), (1, .row 19 (rowR c k n a f i v to nm e ro rv b en)), (1, .row 21 (rowR c k n a f i v to nm e ro rv b en)), (1, .row 24 (rowR c k n a f i v to nm e ro rv b en)), (1, .row 26 (rowR c k n a f i v to nm e ro rv b en)), (1, .row 29 (rowR c k n a f i v to nm e ro rv b en)), (1, .row 31 (rowR c k n a f i v to nm e ro rv b en)), (1, .row 34 (rowR c k n a f i v to nm e ro rv b en)), (1, .row 36 (rowR c k n a f i v to nm e ro rv b en))], [], [], [], []⟩
theorem rr_s : outP ((rrS rows 2 (m + 1) (ix + 1)).map fun p => p.1) [2] (rrQ rows out ix m c k n a f i v to nm e ro rv b en) = some (.normal, (rrS rows 2 (m + 1) (ix + 1)).map (fun p => some p.2), [some (rrO (out ++ [outR' c k n a f i v to nm e ro rv b en]))], 3, allB [Nat.blt (Nat.add ix 1) 9223372036854775808, true, true, true, true, true, true, Nat.beq m out.length, Nat.ble (Nat.mul (m + 1) 129) 140737488355328, true, true, true, true, true, Nat.blt ix rows.length], [(encR rows[ix]?, encR (some (rowR c k n a f i v to nm e ro rv b en))), (encR rows[ix]?, encR (some (rowR c k n a f i v to nm e ro rv b en))), (encR rows[ix]?, encR (some (rowR c k n a f i v to nm e ro rv b en))), (encR rows[ix]?, encR (some (rowR c k n a f i v to nm e ro rv b en))), (encR rows[ix]?, encR (some (rowR c k n a f i v to nm e ro rv b en))), (encR rows[ix]?, encR (some (rowR c k n a f i v to nm e ro rv b en))), (encR rows[ix]?, encR (some (rowR c k n a f i v to nm e ro rv b en))), (encR rows[ix]?, encR (some (rowR c k n a f i v to nm e ro rv b en))), (encR rows[ix]?, encR (some (rowR c k n a f i v to nm e ro rv b en))), (encR rows[ix]?, encR (some (rowR c k n a f i v to nm e ro rv b en)))]) := by kernel_rfl
theorem rr_se : eqL (rrQ rows out ix m c k n a f i v to nm e ro rv b en) = eqR (rrQ rows out ix m c k n a f i v to nm e ro rv b en) := by kernel_rfl
noncomputable abbrev rrX0 := (evt Sx 60).code 41 none rrL (mkO (rrN rows) [] 0) ⟨0, [(0, false)], [], [], [], []⟩
theorem rr_x0 : outP ((rrN rows).map fun p => p.1) [] (rrX0 rows) = some (.exit 0, (rrN rows).map (fun p => some p.2), [], 0, allB [not (Nat.blt 0 rows.length)], []) := by kernel_rfl
theorem rr_x0e : eqL (rrX0 rows) = eqR (rrX0 rows) := by kernel_rfl
noncomputable abbrev rrX := (evt Sx 60).code 41 none rrL (mkO (rrS rows 0 m ix) [(0, rrO out)] 1) ⟨0, [(0, false)], [], [], [], []⟩
theorem rr_x : outP ((rrS rows 0 m ix).map fun p => p.1) [0] (rrX rows out ix m) = some (.exit 0, (rrS rows 0 m ix).map (fun p => some p.2), [some (rrO out)], 1, allB [not (Nat.blt ix rows.length)], []) := by kernel_rfl
theorem rr_xe : eqL (rrX rows out ix m) = eqR (rrX rows out ix m) := by kernel_rfl
noncomputable abbrev rrF0 := (evt Sx 60).code 41 none rrE (mkO (rrN rows) [] 0) ⟨0, [], [], [], [], []⟩
theorem rr_f0 : outP [2] [] (rrF0 rows) = some (.ret, [some (.v (.one .nils))], [], 0, allB [], []) := by kernel_rfl
theorem rr_f0e : eqL (rrF0 rows) = eqR (rrF0 rows) := by kernel_rfl
noncomputable abbrev rrF := (evt Sx 60).code 41 none rrE (mkO (rrS rows 0 m ix) [(0, rrO out)] 1) ⟨0, [], [], [], [], []⟩
theorem rr_f : outP [2] [0] (rrF rows out ix m) = some (.ret, [some (.v (.one (.ref 0 15 0 m)))], [some (rrO out)], 1, allB [], []) := by kernel_rfl
theorem rr_fe : eqL (rrF rows out ix m) = eqR (rrF rows out ix m) := by kernel_rfl
end
noncomputable def reB : Code := bodyOf Tryz.f21
noncomputable def re0 : Code := cA reB
noncomputable def re1 : Code := cA (cB reB)
noncomputable def re2 : Code := cA (cA (cB (cB reB)))
noncomputable def re3 : Code := cB (cA (cB (cB reB)))
noncomputable def reL : Code := cA (cA re3)
noncomputable def reE : Code := cB (cB (cB reB))
theorem reB_eq : reB = .seq re0 (.seq re1 (.seq (.seq re2 re3) reE)) := by kernel_rfl
theorem re3_eq : re3 = .block 0 (.loop reL) := by kernel_rfl
noncomputable def reN (rows : List (List D)) : List (Nat × AV) := [(0, .v (.one (.sl rows))), (2, .v (.one .nils)), (3, .v (.one .nils)), (4, .v (.one (.int .i64 (.ofNat 0))))]
noncomputable def reS (rows : List (List D)) (o m i : Nat) : List (Nat × AV) := [(0, .v (.one (.sl rows))), (2, .v (.one .nils)), (3, .v (.one (.ref o 3 0 m))), (4, .v (.one (.int .i64 (.ofNat i))))]
noncomputable def reO (out : List (List D)) : PObj := ⟨some 104, 3, out⟩
section
variable (rows out : List (List D)) (ix m : Nat) (rc dt at_ : Int)
noncomputable abbrev reR0 := (evt Sx 60).code 31 none re0 ⟨startS [.one (.sl rows)] 0 .leaf, .tr .leaf, 0⟩ ⟨0, [], [], [], [], []⟩
theorem re_p0 : outP [0, 2] [] (reR0 rows) = some (.normal, [some (.v (.one (.sl rows))), some (.v (.one .nils))], [], 0, allB [], []) := by kernel_rfl
theorem re_p0e : eqL (reR0 rows) = eqR (reR0 rows) := by kernel_rfl
noncomputable abbrev reR1 := (evt Sx 60).code 31 none re1 (mkO [(0, .v (.one (.sl rows))), (2, .v (.one .nils))] [] 0) ⟨0, [], [], [], [], []⟩
theorem re_p1 : outP [0, 2, 3] [] (reR1 rows) = some (.normal, [some (.v (.one (.sl rows))), some (.v (.one .nils)), some (.v (.one .nils))], [], 0, allB [], []) := by kernel_rfl
theorem re_p1e : eqL (reR1 rows) = eqR (reR1 rows) := by kernel_rfl
noncomputable abbrev reR2 := (evt Sx 60).code 31 none re2 (mkO [(0, .v (.one (.sl rows))), (2, .v (.one .nils)), (3, .v (.one .nils))] [] 0) ⟨0, [], [], [], [], []⟩
theorem re_p2 : outP ((reN rows).map fun p => p.1) [] (reR2 rows) = some (.normal, (reN rows).map (fun p => some p.2), [], 0, allB [], []) := by kernel_rfl
theorem re_p2e : eqL (reR2 rows) = eqR (reR2 rows) := by kernel_rfl
noncomputable abbrev reQ0 := (evt Sx 60).code 31 none reL (mkO (reN rows) [] 0) ⟨0, [(0, true), (1, .row 14 (rowE rc dt at_)), (1, .row 16 (rowE rc dt at_)), (1, .row 19 (rowE rc dt at_)), (1, .row 21 (rowE rc dt at_)), (1, .row 24 (rowE rc dt at_)), (1, .row 26 (rowE rc dt at_))], [], [], [], []⟩
theorem re_s0 : outP ((reS rows 1 1 1).map fun p => p.1) [1] (reQ0 rows rc dt at_) = some (.normal, (reS rows 1 1 1).map (fun p => some p.2), [some (reO [rowE rc dt at_])], 2, allB [true, true, true, true, true, true, Nat.blt 0 rows.length], [(encR rows[0]?, encR (some (rowE rc dt at_))), (encR rows[0]?, encR (some (rowE rc dt at_))), (encR rows[0]?, encR (some (rowE rc dt at_))), (encR rows[0]?, encR (some (rowE rc dt at_))), (encR rows[0]?, encR (some (rowE rc dt at_))), (encR rows[0]?, encR (some (rowE rc dt at_)))]) := by kernel_rfl
theorem re_s0e : eqL (reQ0 rows rc dt at_) = eqR (reQ0 rows rc dt at_) := by kernel_rfl
noncomputable abbrev reQ := (evt Sx 60).code 31 none reL (mkO (reS rows 0 m ix) [(0, reO out)] 1) ⟨0, [(0, true), (1, .row 14 (rowE rc dt at_)), (1, .row 16 (rowE rc dt at_)), (1, .row 19 (rowE rc dt at_)), (1, .row 21 (rowE rc dt at_)), (1, .row 24 (rowE rc dt at_)), (1, .row 26 (rowE rc dt at_))], [], [], [], []⟩
theorem re_s : outP ((reS rows 2 (m + 1) (ix + 1)).map fun p => p.1) [2] (reQ rows out ix m rc dt at_) = some (.normal, (reS rows 2 (m + 1) (ix + 1)).map (fun p => some p.2), [some (reO (out ++ [rowE rc dt at_]))], 3, allB [Nat.blt (Nat.add ix 1) 9223372036854775808, true, true, true, true, true, true, Nat.beq m out.length, Nat.ble (Nat.mul (m + 1) 25) 140737488355328, true, true, true, true, true, Nat.blt ix rows.length], [(encR rows[ix]?, encR (some (rowE rc dt at_))), (encR rows[ix]?, encR (some (rowE rc dt at_))), (encR rows[ix]?, encR (some (rowE rc dt at_))), (encR rows[ix]?, encR (some (rowE rc dt at_))), (encR rows[ix]?, encR (some (rowE rc dt at_))), (encR rows[ix]?, encR (some (rowE rc dt at_)))]) := by kernel_rfl
theorem re_se : eqL (reQ rows out ix m rc dt at_) = eqR (reQ rows out ix m rc dt at_) := by kernel_rfl
noncomputable abbrev reX0 := (evt Sx 60).code 31 none reL (mkO (reN rows) [] 0) ⟨0, [(0, false)], [], [], [], []⟩
theorem re_x0 : outP ((reN rows).map fun p => p.1) [] (reX0 rows) = some (.exit 0, (reN rows).map (fun p => some p.2), [], 0, allB [not (Nat.blt 0 rows.length)], []) := by kernel_rfl
theorem re_x0e : eqL (reX0 rows) = eqR (reX0 rows) := by kernel_rfl
noncomputable abbrev reX := (evt Sx 60).code 31 none reL (mkO (reS rows 0 m ix) [(0, reO out)] 1) ⟨0, [(0, false)], [], [], [], []⟩
theorem re_x : outP ((reS rows 0 m ix).map fun p => p.1) [0] (reX rows out ix m) = some (.exit 0, (reS rows 0 m ix).map (fun p => some p.2), [some (reO out)], 1, allB [not (Nat.blt ix rows.length)], []) := by kernel_rfl
theorem re_xe : eqL (reX rows out ix m) = eqR (reX rows out ix m) := by kernel_rfl
noncomputable abbrev reF0 := (evt Sx 60).code 31 none reE (mkO (reN rows) [] 0) ⟨0, [], [], [], [], []⟩
theorem re_f0 : outP [2] [] (reF0 rows) = some (.ret, [some (.v (.one .nils))], [], 0, allB [], []) := by kernel_rfl
theorem re_f0e : eqL (reF0 rows) = eqR (reF0 rows) := by kernel_rfl
noncomputable abbrev reF := (evt Sx 60).code 31 none reE (mkO (reS rows 0 m ix) [(0, reO out)] 1) ⟨0, [], [], [], [], []⟩
theorem re_f : outP [2] [0] (reF rows out ix m) = some (.ret, [some (.v (.one (.ref 0 3 0 m)))], [some (reO out)], 1, allB [], []) := by kernel_rfl
theorem re_fe : eqL (reF rows out ix m) = eqR (reF rows out ix m) := by kernel_rfl
end
end Go.Proofs.YtmhinddneefmbaaGreat.Pe
