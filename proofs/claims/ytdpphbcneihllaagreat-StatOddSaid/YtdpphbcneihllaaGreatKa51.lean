/- A part of the proof of KrA. -/
import Derived.Test.YtdpphbcneihllaaGreatRows
import Derived.Test.YtdpphbcneihllaaGreatKa17
import Derived.Test.YtdpphbcneihllaaGreatKa35
import Derived.Test.YtdpphbcneihllaaGreatKa36
import Derived.Test.YtdpphbcneihllaaGreatKa37
import Derived.Test.YtdpphbcneihllaaGreatKa38
import Derived.Test.YtdpphbcneihllaaGreatKa39
import Derived.Test.YtdpphbcneihllaaGreatKa40
import Derived.Test.YtdpphbcneihllaaGreatKa41
import Derived.Test.YtdpphbcneihllaaGreatKa42
import Derived.Test.YtdpphbcneihllaaGreatKa43
import Derived.Test.YtdpphbcneihllaaGreatKa44
import Derived.Test.YtdpphbcneihllaaGreatKa45
import Derived.Test.YtdpphbcneihllaaGreatKa46
import Derived.Test.YtdpphbcneihllaaGreatKa47
import Derived.Test.YtdpphbcneihllaaGreatKa48
import Derived.Test.YtdpphbcneihllaaGreatKa49
import Derived.Test.YtdpphbcneihllaaGreatKa50
set_option linter.unusedSimpArgs false
set_option linter.unusedVariables false
set_option linter.unusedSectionVars false
namespace Go.Proofs.YtdpphbcneihllaaGreat.Pe
open Go
set_option maxRecDepth 100000
theorem of_all {n : Nat} (h : fitsB n = true) : OfAt n := by
  obtain ⟨h1, h2, h3⟩ := fits_some h
  obtain ⟨j, rfl⟩ : ∃ j, n = 3824 + 16 * j := ⟨(n - 3824) / 16, by omega⟩
  have hj : j < 62 := by omega
  clear h h1 h2 h3
  match j, hj with
  | 0, _ => exact of3824
  | 1, _ => exact of3840
  | 2, _ => exact of3856
  | 3, _ => exact of3872
  | 4, _ => exact of3888
  | 5, _ => exact of3904
  | 6, _ => exact of3920
  | 7, _ => exact of3936
  | 8, _ => exact of3952
  | 9, _ => exact of3968
  | 10, _ => exact of3984
  | 11, _ => exact of4000
  | 12, _ => exact of4016
  | 13, _ => exact of4032
  | 14, _ => exact of4048
  | 15, _ => exact of4064
  | 16, _ => exact of4080
  | 17, _ => exact of4096
  | 18, _ => exact of4112
  | 19, _ => exact of4128
  | 20, _ => exact of4144
  | 21, _ => exact of4160
  | 22, _ => exact of4176
  | 23, _ => exact of4192
  | 24, _ => exact of4208
  | 25, _ => exact of4224
  | 26, _ => exact of4240
  | 27, _ => exact of4256
  | 28, _ => exact of4272
  | 29, _ => exact of4288
  | 30, _ => exact of4304
  | 31, _ => exact of4320
  | 32, _ => exact of4336
  | 33, _ => exact of4352
  | 34, _ => exact of4368
  | 35, _ => exact of4384
  | 36, _ => exact of4400
  | 37, _ => exact of4416
  | 38, _ => exact of4432
  | 39, _ => exact of4448
  | 40, _ => exact of4464
  | 41, _ => exact of4480
  | 42, _ => exact of4496
  | 43, _ => exact of4512
  | 44, _ => exact of4528
  | 45, _ => exact of4544
  | 46, _ => exact of4560
  | 47, _ => exact of4576
  | 48, _ => exact of4592
  | 49, _ => exact of4608
  | 50, _ => exact of4624
  | 51, _ => exact of4640
  | 52, _ => exact of4656
  | 53, _ => exact of4672
  | 54, _ => exact of4688
  | 55, _ => exact of4704
  | 56, _ => exact of4720
  | 57, _ => exact of4736
  | 58, _ => exact of4752
  | 59, _ => exact of4768
  | 60, _ => exact of4784
  | 61, _ => exact of4800
  | j + 62, hj => omega
noncomputable def onEq : Option Nat → Option Nat → Bool
  | none, none => true
  | some a, some b => Nat.beq a b
  | _, _ => false
theorem onEq_eq {a b : Option Nat} (h : onEq a b = true) : a = b := by
  cases a <;> cases b <;> first | rfl | cases h | skip
  exact congrArg some (Nat.eq_of_beq_eq_true h)
theorem onEq_refl (a : Option Nat) : onEq a a = true := by
  cases a with
  | none => rfl
  | some a => exact Nat.beq_refl a
noncomputable def trEq : Tr Nat → Tr Nat → Bool
  | .leaf, .leaf => true
  | .node v l r, .node v' l' r' => br (onEq v v') (br (trEq l l') (trEq r r') false) false
  | _, _ => false
theorem trEq_eq : ∀ {t u : Tr Nat}, trEq t u = true → t = u
  | .leaf, .leaf, _ => rfl
  | .node v l r, .node v' l' r', h => by
    unfold trEq at h
    obtain ⟨h1, h⟩ := br2 h
    obtain ⟨h2, h3⟩ := br2 h
    rw [onEq_eq h1, trEq_eq h2, trEq_eq h3]
  | .leaf, .node _ _ _, h => by cases h
  | .node _ _ _, .leaf, h => by cases h
theorem trEq_refl : ∀ (t : Tr Nat), trEq t t = true
  | .leaf => rfl
  | .node v l r => by unfold trEq; rw [onEq_refl, trEq_refl l, trEq_refl r]; rfl
noncomputable def fmtd (t : Tr Nat) : Bool := br (fitsB (wordX t 2)) (trEq t (fmtT (wordX t 2))) false
theorem fmtd_some {t : Tr Nat} (h : fmtd t = true) : fitsB (wordX t 2) = true ∧ t = fmtT (wordX t 2) := by
  obtain ⟨h1, h2⟩ := br2 h
  exact ⟨h1, trEq_eq h2⟩
theorem fmtT_get (n k : Nat) (h : fitsB n = true) : ((fmtT n).get k).getD 0 = if k = (n - 8) / 8 then n - 3776 else if k = 472 then n - 3776 else if k = 5 then sumN n else if k = 4 then 3776 else if k = 2 then n else if k = 1 then 1 else if k = 0 then 7161130718081542961 else 0 := by
  obtain ⟨d1, d2, d3⟩ := fits_some h
  unfold fmtT
  have e8 : Nat.div (Nat.sub n 8) 8 < 1000000000 := by show (n - 8) / 8 < _; omega
  rw [Tr.get_set _ _ _ _ (by omega), Tr.get_set _ _ _ _ (by omega), Tr.get_set _ _ _ _ (by omega), Tr.get_set _ _ _ _ (by omega), Tr.get_set _ _ _ _ (by omega), Tr.get_set _ _ _ _ (by omega), Tr.get_set _ _ _ _ (by omega)]
  rw [show Nat.div (Nat.sub n 8) 8 = (n - 8) / 8 from rfl, show Nat.sub n 3776 = n - 3776 from rfl]
  generalize sumN n = c
  split
  · exact Option.getD_some
  split
  · exact Option.getD_some
  split
  · exact Option.getD_some
  split
  · exact Option.getD_some
  split
  · exact Option.getD_some
  split
  · exact Option.getD_some
  split
  · exact Option.getD_some
  rfl
theorem fmtT_size {n : Nat} (h : fitsB n = true) : wordX (fmtT n) 2 = n := by
  obtain ⟨d1, d2, d3⟩ := fits_some h
  rw [wordX_eq, fmtT_get n 2 h, if_neg (by omega)]
  rfl
theorem fmtd_fmt {n : Nat} (h : fitsB n = true) : fmtd (fmtT n) = true := by
  unfold fmtd
  rw [fmtT_size h, h, trEq_refl]
  rfl
noncomputable def statR (n : Nat) : RV := .tup [.many (statsD n), .one (.int .i64 (.ofNat 0))]
noncomputable def statX (ads : List AD) (H : Hp) (nx : Nat) : Option (RV × Hp × Nat) := match ads with
  | [.one (.ptr sg 1 0 0)] => match segX H sg with
    | some q => br (Nat.beq q.2.1 4800) (br (Nat.blt sg nx) (br (Nat.blt q.1 nx) (br (fmtd q.2.2.1) (some (statR (wordX q.2.2.1 2), updO H q.1 (some ⟨q.2.2.2, 0, [[.wds q.2.2.1 4800]]⟩), nx)) none) none) none) none
    | none => none
  | _ => none
theorem statX_ok : FnEff Tryz.prog statN statX := by
  rw [FnEff.iff]
  intro ads H nx r H' nx' hq
  unfold statX at hq
  split at hq
  · rename_i sg
    split at hq
    · rename_i q hs
      obtain ⟨o, m, t, e5⟩ := q
      obtain ⟨h1, hq⟩ := br_some hq
      have h1 : m = 4800 := Nat.eq_of_beq_eq_true h1
      subst h1
      obtain ⟨h2, hq⟩ := br_some hq
      obtain ⟨h3, hq⟩ := br_some hq
      obtain ⟨h4, hq⟩ := br_some hq
      have h2 := blt_lt h2
      have h3 := blt_lt h3
      obtain ⟨⟨e1, hsg⟩, ho⟩ := segX_some hs
      have hq := Option.some.inj hq
      obtain ⟨q1, q2⟩ := Prod.mk.inj hq
      obtain ⟨q2, q3⟩ := Prod.mk.inj q2
      subst q1; subst q2; subst q3
      obtain ⟨hf, ht⟩ := fmtd_some h4
      generalize hn : wordX t 2 = n at *
      have hrun := of_all hf e1 e5
      unfold outQ at hrun
      cases hx : (evs S3.toSys 2000).fn statN [.one (.ptr 1 1 0 0)] (segW e1 e5 (fmtT n) 4800) 2 with
      | none => rw [hx] at hrun; cases hrun
      | some x =>
        obtain ⟨r', K, m⟩ := x
        rw [hx] at hrun
        have hrun : some (r', K 0, K 1, Nat.ble 2 m) = some (statR n, some ⟨e5, 0, [[.wds (fmtT n) 4800]]⟩, some ⟨e1, 1, [[.ref 0 1 0 4800]]⟩, true) := hrun
        simp only [Option.some.injEq, Prod.mk.injEq] at hrun
        obtain ⟨rfl, k0, k1, k2⟩ := hrun
        have hR : RunAt Tryz.prog statN [.one (.ptr 1 1 0 0)] (segW e1 e5 (fmtT n) 4800) 2 (statR n) K m := (evs_ok S3_ok 2000).fn statN (by kernel_rfl) _ _ _ _ _ _ hx
        subst ht
        exact seg_run hR (Nat.le_of_ble_eq_true k2) (SameW.refl _ _) (SameW.refl _ _) k0 k1 (fun a ha => by cases ha) rfl hsg ho h2 h3
    · cases hq
  · cases hq
noncomputable def F17 (ads : List AD) (H : Hp) (nx : Nat) : Option (RV × Hp × Nat) := match statX ads H nx with
  | some z => some z
  | none => (evs S3.toSys 2000).fn statN ads H nx
theorem F17_ok : FnEff Tryz.prog statN F17 := by
  rw [FnEff.iff]
  intro ads H nx r H' nx' hq
  unfold F17 at hq
  split at hq
  · rename_i z hz
    injection hq with hq
    subst hq
    exact FnEff.iff.1 statX_ok _ _ _ _ _ _ hz
  · exact (evs_ok S3_ok 2000).fn statN (by kernel_rfl) _ _ _ _ _ _ hq
noncomputable def G17 (ads : List AD) (H : Hp) (nx : Nat) (T : TL) : Option ((RV × Hp × Nat) × TL) := match ads with
  | [.one (.ptr sg 1 0 0)] => match segX H sg with
    | some q => br (Nat.beq q.2.1 4800) (br (Nat.blt sg nx) (br (Nat.blt q.1 nx)
        (br (decT (fmtd q.2.2.1) T).1 (some ((statR (wordX q.2.2.1 2), updO H q.1 (some ⟨q.2.2.2, 0, [[.wds q.2.2.1 4800]]⟩), nx), (decT (fmtd q.2.2.1) T).2)) ((evt S3 2000).fn statN [.one (.ptr sg 1 0 0)] H nx (decT (fmtd q.2.2.1) T).2)) none) none) none
    | none => none
  | [.one .nilp] => (evt S3 2000).fn statN [.one .nilp] H nx T
  | _ => none
theorem G17_ok : PfOk G17 F17 := by
  intro ads H nx T q T' h
  unfold G17 at h
  split at h
  · rename_i sg
    split at h
    · rename_i z hs
      obtain ⟨h1, h⟩ := br_some h
      obtain ⟨h3, h⟩ := br_some h
      obtain ⟨h4, h⟩ := br_some h
      have hX : statX [.one (.ptr sg 1 0 0)] H nx = br (fmtd z.2.2.1) (some (statR (wordX z.2.2.1 2), updO H z.1 (some ⟨z.2.2.2, 0, [[.wds z.2.2.1 4800]]⟩), nx)) none := by
        show (match segX H sg with | some q => _ | none => none) = _
        rw [hs]
        simp only [h1, h3, h4, br]
      cases hd : decT (fmtd z.2.2.1) T with
      | mk x T1 =>
        rw [hd] at h
        cases x with
        | true =>
          have h := Option.some.inj h
          obtain ⟨q1, q2⟩ := Prod.mk.inj h
          subst q1; subst q2
          refine ⟨decT_le hd, fun hT => ?_⟩
          unfold F17
          rw [hX, ← decT_ok hd hT]
          rfl
        | false =>
          have h : (evt S3 2000).fn statN [.one (.ptr sg 1 0 0)] H nx T1 = some (q, T') := h
          obtain ⟨k1, k2⟩ := (evt_ok S3_pb 2000).fn _ _ _ _ _ _ _ h
          refine ⟨(decT_le hd).trans k1, fun hT => ?_⟩
          unfold F17
          rw [hX, ← decT_ok hd (k1.ok hT)]
          exact k2 hT
    · cases h
  · obtain ⟨k1, k2⟩ := (evt_ok S3_pb 2000).fn _ _ _ _ _ _ _ h
    exact ⟨k1, fun hT => k2 hT⟩
  · cases h
abbrev awake23N : Nat := 16
theorem aw23 : ((evs S3.toSys 8000).fn awake23N [] (.tr .leaf) 0).map (fun x => x.1) = some (.a (.one (.bool true))) := by kernel_rfl
noncomputable def awX (ads : List AD) (H : Hp) (nx : Nat) : Option (RV × Hp × Nat) := match ads with
  | [] => some (.a (.one (.bool true)), H, nx)
  | _ => none
theorem aw_of {f k : Nat} {S : Sys} (hS : SysOk S Tryz.prog) (hf : (S.tab f).isSome = true) (h : ((evs S k).fn f [] (.tr .leaf) 0).map (fun x => x.1) = some (.a (.one (.bool true)))) : FnEff Tryz.prog f awX := by
  rw [FnEff.iff]
  intro ads H nx r H' nx' hq
  unfold awX at hq
  split at hq
  · have hq := Option.some.inj hq
    obtain ⟨q1, q2⟩ := Prod.mk.inj hq
    obtain ⟨q2, q3⟩ := Prod.mk.inj q2
    subst q1; subst q2; subst q3
    cases hx : (evs S k).fn f [] (.tr .leaf) 0 with
    | none => rw [hx] at h; cases h
    | some x =>
      obtain ⟨r', K, m⟩ := x
      rw [hx] at h
      injection h with h
      have h : r' = .a (.one (.bool true)) := h
      subst h
      exact bare_run ((evs_ok hS k).fn f hf _ _ _ _ _ _ hx) (fun a ha => by cases ha) rfl H nx
  · cases hq
end Go.Proofs.YtdpphbcneihllaaGreat.Pe
namespace Go.Proofs.YtdpphbcneihllaaGreat.Pe
open Go
set_option maxRecDepth 100000
noncomputable def bsL4 : List (Nat × FnS) := (awake23N, .eff awX) :: (statN, .eff F17) :: bsL3
theorem bsL4_ok : AllBs Tryz.prog bsL4 := ⟨⟨aw_of S3_ok (by kernel_rfl) aw23, by kernel_rfl⟩, ⟨F17_ok, by kernel_rfl⟩, bsL3_ok⟩
noncomputable def pbL4 : List (Nat × PF) := (statN, G17) :: pbL3
noncomputable def S4 : SysP := { sysOf (mkTr ttL) (mkTr ezL) (mkTr fnL) (mkTr bsL4) with pb := pbOf pbL4 }
theorem S4_ok : SysOk S4.toSys Tryz.prog := sysOf_ok mixed ttL_ok (by kernel_rfl) ezL_ok (by kernel_rfl) fnL_ok (by kernel_rfl) bsL4_ok (by kernel_rfl)
theorem S4_pb : PbOk S4 := ⟨fun f G h => by
  have h := pbOf_mem (l := pbL4) h
  simp only [pbL4, pbL3, List.mem_cons, List.not_mem_nil, or_false, Prod.mk.injEq] at h
  rcases h with ⟨rfl, rfl⟩ | ⟨rfl, rfl⟩ | ⟨rfl, rfl⟩ | ⟨rfl, rfl⟩
  · exact ⟨F17, by kernel_rfl, G17_ok⟩
  · exact ⟨loadX, by kernel_rfl, loadP_ok⟩
  · exact ⟨storeX, by kernel_rfl, storeP_ok⟩
  · exact ⟨formatX, by kernel_rfl, formatP_ok⟩⟩
end Go.Proofs.YtdpphbcneihllaaGreat.Pe
namespace Go.Proofs.YtdpphbcneihllaaGreat.Pe
open Go
set_option maxRecDepth 100000
noncomputable def outR (x : Option ((RV × Hp × Nat) × TL)) : Option (RV × Bool) := x.bind fun x => some (x.1.1, allB x.2.cs)
noncomputable def eqA (x : Option ((RV × Hp × Nat) × TL)) : Option (List AV) := x.map fun x => x.2.eqs.map Prod.fst
noncomputable def eqB (x : Option ((RV × Hp × Nat) × TL)) : Option (List AV) := x.map fun x => x.2.eqs.map Prod.snd
theorem map_pairs {α : Type} : ∀ {l : List (α × α)}, l.map Prod.fst = l.map Prod.snd → ∀ p ∈ l, p.1 = p.2
  | [], _, p, hp => by cases hp
  | q :: l, h, p, hp => by
    simp only [List.map_cons, List.cons.injEq] at h
    rcases List.mem_cons.1 hp with rfl | hp
    · exact h.1
    · exact map_pairs h.2 p hp
theorem outR_run {P : Program} {S : SysP} (hS : SysOk S.toSys P) (hP : PbOk S) {k f : Nat} (hf : (S.tab f).isSome = true) {ads : List AD} {H : Hp} {nx : Nat} {T : TL} {r : RV} {c : Bool} (h : outR ((evt S k).fn f ads H nx T) = some (r, c)) (hc : c = true) (he : eqA ((evt S k).fn f ads H nx T) = eqB ((evt S k).fn f ads H nx T)) :
    ∃ K m, RunAt P f ads H nx r K m := by
  unfold outR at h
  unfold eqA eqB at he
  cases hx : (evt S k).fn f ads H nx T with
  | none => rw [hx] at h; cases h
  | some x =>
    obtain ⟨⟨r', K, m'⟩, T'⟩ := x
    rw [hx] at h he
    have h : some (r', allB T'.cs) = some (r, c) := h
    simp only [Option.some.injEq, Prod.mk.injEq] at h
    obtain ⟨rfl, h4⟩ := h
    simp only [Option.map_some, Option.some.injEq] at he
    exact ⟨K, m', fn_runAt hS hP hf hx ⟨allB_all (h4.trans hc), map_pairs he⟩⟩
abbrev soN : Nat := 4
abbrev magic : Nat := 7161130718081542961
abbrev lim64 : Nat := 18446744073709551616
noncomputable abbrev soR (n v : Nat) (orc : List (Nat × Bool)) : Option ((RV × Hp × Nat) × TL) := (evt S4 3000).fn soN [.one (.int .u64 (.ofNat n)), .one (.int .u64 (.ofNat v))] (.tr .leaf) 0 ⟨0, orc, [], [], []⟩
noncomputable abbrev yes : RV := .a (.one (.bool true))
theorem so1 (n : Nat) : outR (soR n magic [(0, true), (1, true), (2, true)]) = some (yes, br (fmtd ((fmtT n).set (some magic) 30 0)) (br (fmtd (fmtT n)) (br (fitsB n) true false) false) false) := by kernel_rfl
theorem so1e (n : Nat) : eqA (soR n magic [(0, true), (1, true), (2, true)]) = eqB (soR n magic [(0, true), (1, true), (2, true)]) := by kernel_rfl
theorem so2 (n v : Nat) : outR (soR n v [(0, true), (1, true), (2, false), (9, true), (22, false)]) = some (yes, br (not (Nat.beq v magic)) (br (not (Nat.beq (wordX ((fmtT n).set (some v) 30 0) 0) magic)) (br (Nat.blt (wordX ((fmtT n).set (some v) 30 0) 0) lim64) (br (Nat.blt (wordX ((fmtT n).set (some v) 30 0) 2) lim64) (br (Nat.blt (wordX ((fmtT n).set (some v) 30 0) 2) lim64) (br (not (fmtd ((fmtT n).set (some v) 30 0))) (br (fmtd (fmtT n)) (br (fitsB n) true false) false) false) false) false) false) false) false) := by kernel_rfl
theorem so2e (n v : Nat) : eqA (soR n v [(0, true), (1, true), (2, false), (9, true), (22, false)]) = eqB (soR n v [(0, true), (1, true), (2, false), (9, true), (22, false)]) := by kernel_rfl
theorem so3 (n v : Nat) : outR (soR n v [(0, false), (19, true)]) = some (yes, br (not (Nat.beq v magic)) (br (Nat.blt v lim64) (br (not (fitsB n)) true false) false) false) := by kernel_rfl
theorem so3e (n v : Nat) : eqA (soR n v [(0, false), (19, true)]) = eqB (soR n v [(0, false), (19, true)]) := by kernel_rfl
theorem so4 (n : Nat) : outR (soR n magic [(0, false)]) = some (yes, br (not (fitsB n)) true false) := by kernel_rfl
theorem so4e (n : Nat) : eqA (soR n magic [(0, false)]) = eqB (soR n magic [(0, false)]) := by kernel_rfl
theorem fmt_set0 {n : Nat} (h : fitsB n = true) : (fmtT n).set (some magic) 30 0 = fmtT n := by
  obtain ⟨h1, h2, h3⟩ := fits_some h
  obtain ⟨j, rfl⟩ : ∃ j, n = 3824 + 16 * j := ⟨(n - 3824) / 16, by omega⟩
  have hj : j < 62 := by omega
  clear h h1 h2 h3
  match j, hj with
  | 0, _ => exact (by kernel_rfl : (fmtT 3824).set (some magic) 30 0 = fmtT 3824)
  | 1, _ => exact (by kernel_rfl : (fmtT 3840).set (some magic) 30 0 = fmtT 3840)
  | 2, _ => exact (by kernel_rfl : (fmtT 3856).set (some magic) 30 0 = fmtT 3856)
  | 3, _ => exact (by kernel_rfl : (fmtT 3872).set (some magic) 30 0 = fmtT 3872)
  | 4, _ => exact (by kernel_rfl : (fmtT 3888).set (some magic) 30 0 = fmtT 3888)
  | 5, _ => exact (by kernel_rfl : (fmtT 3904).set (some magic) 30 0 = fmtT 3904)
  | 6, _ => exact (by kernel_rfl : (fmtT 3920).set (some magic) 30 0 = fmtT 3920)
  | 7, _ => exact (by kernel_rfl : (fmtT 3936).set (some magic) 30 0 = fmtT 3936)
  | 8, _ => exact (by kernel_rfl : (fmtT 3952).set (some magic) 30 0 = fmtT 3952)
  | 9, _ => exact (by kernel_rfl : (fmtT 3968).set (some magic) 30 0 = fmtT 3968)
  | 10, _ => exact (by kernel_rfl : (fmtT 3984).set (some magic) 30 0 = fmtT 3984)
  | 11, _ => exact (by kernel_rfl : (fmtT 4000).set (some magic) 30 0 = fmtT 4000)
  | 12, _ => exact (by kernel_rfl : (fmtT 4016).set (some magic) 30 0 = fmtT 4016)
  | 13, _ => exact (by kernel_rfl : (fmtT 4032).set (some magic) 30 0 = fmtT 4032)
  | 14, _ => exact (by kernel_rfl : (fmtT 4048).set (some magic) 30 0 = fmtT 4048)
  | 15, _ => exact (by kernel_rfl : (fmtT 4064).set (some magic) 30 0 = fmtT 4064)
  | 16, _ => exact (by kernel_rfl : (fmtT 4080).set (some magic) 30 0 = fmtT 4080)
  | 17, _ => exact (by kernel_rfl : (fmtT 4096).set (some magic) 30 0 = fmtT 4096)
  | 18, _ => exact (by kernel_rfl : (fmtT 4112).set (some magic) 30 0 = fmtT 4112)
  | 19, _ => exact (by kernel_rfl : (fmtT 4128).set (some magic) 30 0 = fmtT 4128)
  | 20, _ => exact (by kernel_rfl : (fmtT 4144).set (some magic) 30 0 = fmtT 4144)
  | 21, _ => exact (by kernel_rfl : (fmtT 4160).set (some magic) 30 0 = fmtT 4160)
  | 22, _ => exact (by kernel_rfl : (fmtT 4176).set (some magic) 30 0 = fmtT 4176)
  | 23, _ => exact (by kernel_rfl : (fmtT 4192).set (some magic) 30 0 = fmtT 4192)
  | 24, _ => exact (by kernel_rfl : (fmtT 4208).set (some magic) 30 0 = fmtT 4208)
  | 25, _ => exact (by kernel_rfl : (fmtT 4224).set (some magic) 30 0 = fmtT 4224)
  | 26, _ => exact (by kernel_rfl : (fmtT 4240).set (some magic) 30 0 = fmtT 4240)
  | 27, _ => exact (by kernel_rfl : (fmtT 4256).set (some magic) 30 0 = fmtT 4256)
  | 28, _ => exact (by kernel_rfl : (fmtT 4272).set (some magic) 30 0 = fmtT 4272)
  | 29, _ => exact (by kernel_rfl : (fmtT 4288).set (some magic) 30 0 = fmtT 4288)
  | 30, _ => exact (by kernel_rfl : (fmtT 4304).set (some magic) 30 0 = fmtT 4304)
  | 31, _ => exact (by kernel_rfl : (fmtT 4320).set (some magic) 30 0 = fmtT 4320)
  | 32, _ => exact (by kernel_rfl : (fmtT 4336).set (some magic) 30 0 = fmtT 4336)
  | 33, _ => exact (by kernel_rfl : (fmtT 4352).set (some magic) 30 0 = fmtT 4352)
  | 34, _ => exact (by kernel_rfl : (fmtT 4368).set (some magic) 30 0 = fmtT 4368)
  | 35, _ => exact (by kernel_rfl : (fmtT 4384).set (some magic) 30 0 = fmtT 4384)
  | 36, _ => exact (by kernel_rfl : (fmtT 4400).set (some magic) 30 0 = fmtT 4400)
  | 37, _ => exact (by kernel_rfl : (fmtT 4416).set (some magic) 30 0 = fmtT 4416)
  | 38, _ => exact (by kernel_rfl : (fmtT 4432).set (some magic) 30 0 = fmtT 4432)
  | 39, _ => exact (by kernel_rfl : (fmtT 4448).set (some magic) 30 0 = fmtT 4448)
  | 40, _ => exact (by kernel_rfl : (fmtT 4464).set (some magic) 30 0 = fmtT 4464)
  | 41, _ => exact (by kernel_rfl : (fmtT 4480).set (some magic) 30 0 = fmtT 4480)
  | 42, _ => exact (by kernel_rfl : (fmtT 4496).set (some magic) 30 0 = fmtT 4496)
  | 43, _ => exact (by kernel_rfl : (fmtT 4512).set (some magic) 30 0 = fmtT 4512)
  | 44, _ => exact (by kernel_rfl : (fmtT 4528).set (some magic) 30 0 = fmtT 4528)
  | 45, _ => exact (by kernel_rfl : (fmtT 4544).set (some magic) 30 0 = fmtT 4544)
  | 46, _ => exact (by kernel_rfl : (fmtT 4560).set (some magic) 30 0 = fmtT 4560)
  | 47, _ => exact (by kernel_rfl : (fmtT 4576).set (some magic) 30 0 = fmtT 4576)
  | 48, _ => exact (by kernel_rfl : (fmtT 4592).set (some magic) 30 0 = fmtT 4592)
  | 49, _ => exact (by kernel_rfl : (fmtT 4608).set (some magic) 30 0 = fmtT 4608)
  | 50, _ => exact (by kernel_rfl : (fmtT 4624).set (some magic) 30 0 = fmtT 4624)
  | 51, _ => exact (by kernel_rfl : (fmtT 4640).set (some magic) 30 0 = fmtT 4640)
  | 52, _ => exact (by kernel_rfl : (fmtT 4656).set (some magic) 30 0 = fmtT 4656)
  | 53, _ => exact (by kernel_rfl : (fmtT 4672).set (some magic) 30 0 = fmtT 4672)
  | 54, _ => exact (by kernel_rfl : (fmtT 4688).set (some magic) 30 0 = fmtT 4688)
  | 55, _ => exact (by kernel_rfl : (fmtT 4704).set (some magic) 30 0 = fmtT 4704)
  | 56, _ => exact (by kernel_rfl : (fmtT 4720).set (some magic) 30 0 = fmtT 4720)
  | 57, _ => exact (by kernel_rfl : (fmtT 4736).set (some magic) 30 0 = fmtT 4736)
  | 58, _ => exact (by kernel_rfl : (fmtT 4752).set (some magic) 30 0 = fmtT 4752)
  | 59, _ => exact (by kernel_rfl : (fmtT 4768).set (some magic) 30 0 = fmtT 4768)
  | 60, _ => exact (by kernel_rfl : (fmtT 4784).set (some magic) 30 0 = fmtT 4784)
  | 61, _ => exact (by kernel_rfl : (fmtT 4800).set (some magic) 30 0 = fmtT 4800)
  | j + 62, hj => omega
theorem statOdd_run {n v : Nat} (hn : n < lim64) (hv : v < lim64) : ∃ H' nx', RunAt Tryz.prog soN [.one (.int .u64 (.ofNat n)), .one (.int .u64 (.ofNat v))] (.tr .leaf) 0 yes H' nx' := by
  have hf : (S4.tab soN).isSome = true := by kernel_rfl
  have hv' : Nat.blt v lim64 = true := Nat.ble_eq_true_of_le (show v + 1 ≤ _ from hv)
  cases hfit : fitsB n with
  | true =>
    by_cases hm : v = magic
    · subst hm
      refine outR_run S4_ok S4_pb hf (so1 n) ?_ (so1e n)
      rw [fmt_set0 hfit, fmtd_fmt hfit, hfit]
      rfl
    · have c1 : Nat.beq v magic = false := by
        cases h : Nat.beq v magic with
        | false => rfl
        | true => exact absurd (Nat.eq_of_beq_eq_true h) hm
      have w0 : wordX ((fmtT n).set (some v) 30 0) 0 = v := by rw [wordX_eq, Tr.get_set _ _ _ _ (by omega), if_pos rfl]; rfl
      have w2 : wordX ((fmtT n).set (some v) 30 0) 2 = n := by
        rw [wordX_eq, Tr.get_set _ _ _ _ (by omega), if_neg (by omega), ← wordX_eq]
        exact fmtT_size hfit
      have c2 : Nat.blt n lim64 = true := Nat.ble_eq_true_of_le (show n + 1 ≤ _ from hn)
      have c3 : fmtd ((fmtT n).set (some v) 30 0) = false := by
        cases h : fmtd ((fmtT n).set (some v) 30 0) with
        | false => rfl
        | true =>
          obtain ⟨_, e⟩ := fmtd_some h
          rw [w2] at e
          have e0 : wordX ((fmtT n).set (some v) 30 0) 0 = wordX (fmtT n) 0 := congrArg (fun t => wordX t 0) e
          have h3 := (fits_some hfit).2.1
          rw [w0, wordX_eq, fmtT_get n 0 hfit, if_neg (by omega), if_neg (by omega), if_neg (by omega), if_neg (by omega), if_neg (by omega), if_neg (by omega), if_pos rfl] at e0
          exact absurd e0 hm
      refine outR_run S4_ok S4_pb hf (so2 n v) ?_ (so2e n v)
      rw [w0, w2, c1, c2, c3, hv', fmtd_fmt hfit, hfit]
      rfl
  | false =>
    by_cases hm : v = magic
    · subst hm
      refine outR_run S4_ok S4_pb hf (so4 n) ?_ (so4e n)
      rw [hfit]; rfl
    · have c1 : Nat.beq v magic = false := by
        cases h : Nat.beq v magic with
        | false => rfl
        | true => exact absurd (Nat.eq_of_beq_eq_true h) hm
      refine outR_run S4_ok S4_pb hf (so3 n v) ?_ (so3e n v)
      rw [c1, hv', hfit]; rfl
end Go.Proofs.YtdpphbcneihllaaGreat.Pe
namespace Go.Proofs.YtdpphbcneihllaaGreat
namespace Pe
open Go Go.ChangeShapes Go.WideShapes Go.ChangeAt Go.RowKit
theorem nat_of_u64 {x : Int} (h : (Lit.int .u64 x).wf = true) : ∃ n : Nat, x = Int.ofNat n ∧ n < 18446744073709551616 := by
  have h' : 0 ≤ x ∧ x < 18446744073709551616 := by
    have := bounds_u64 h
    omega
  exact ⟨x.toNat, by show x = ((x.toNat : Nat) : Int); omega, by omega⟩
set_option maxRecDepth 100000 in
theorem statOdd_lifted (os : Os) (started : os.Started) (H : Type) (enc : TypeId × Value → H) :
    ReturnsInHanded {} Tryz.checked os 4 .any (Rows.statOddSpec.pre6 enc Tryz.prog Tryz.f4 Rows.statOddRow.domain false) (Rows.statOddSpec.post enc Tryz.prog Tryz.f4 false true false false) := by
  refine returnsInHanded_of_change (C := Tryz.checked) own started (by kernel_rfl) Tryz.func4
    (ChangeSpec.witness6 (enc := enc) (C := Tryz.checked) false ⟨#[], #[.int .u64 0, .int .u64 0], []⟩ 8 (by kernel_rfl) (by kernel_rfl) (by kernel_rfl) (by kernel_rfl)) ?_
  intro W base args ds gs before hval0 hW hcnd _
  have hval : ∀ (j : Nat) t v, Tryz.f4.params[j]? = some t → args[j]? = some v → Value.okWide Tryz.prog W .any base t v := hval0
  have hW' := hW
  obtain ⟨p, q, hA0, hV, rfl, hfz, hnd⟩ := hW
  have hA : DataW.TrodAll enc Tryz.prog W 0 (fun _ => true) true Tryz.f4.params.toList args.toList ds p := hA0
  rw [Tryz.params4] at hA hval
  obtain ⟨v0, vs0, d0, ds0, p0, q0, hargs, rfl, rfl, h0, r0⟩ := trodAll_cons hA
  obtain ⟨v1, vs1, d1, ds1, p1, q1, rfl, rfl, rfl, h1, r1⟩ := trodAll_cons r0
  obtain ⟨rfl, rfl, rfl⟩ := trodAll_nil r1
  obtain rfl : args = #[v0, v1] := by cases args; simp_all
  obtain ⟨rfl, rfl⟩ := trodVars_none hV
  have k0 := h0
  have k1 := h1
  have lt0 : ∀ x ∈ p0, x.block < W.heap.size := by obtain ⟨m, hm⟩ := k0; exact DataW.trod_lt m _ _ _ hm
  have lt1 : ∀ x ∈ p1, x.block < W.heap.size := by obtain ⟨m, hm⟩ := k1; exact DataW.trod_lt m _ _ _ hm
  obtain ⟨x, rfl, rfl, rfl, wx⟩ := open_int Tryz.underlying22 (hval 0 22 v0 rfl rfl) h0
  obtain ⟨y, rfl, rfl, rfl, wy⟩ := open_int Tryz.underlying22 (hval 1 22 v1 rfl rfl) h1
  clear hA0 hval0
  obtain ⟨n, rfl, hn⟩ := nat_of_u64 wx
  obtain ⟨m, rfl, hm⟩ := nat_of_u64 wy
  obtain ⟨H', nx', hrun⟩ := statOdd_run hn hm
  refine (law_run hrun (vals := #[.int .u64 (Int.ofNat n), .int .u64 (Int.ofNat m)]) rfl (fun j v a hv ha => ?_)).mono fun e W' ⟨he, bel⟩ => ?_
  · match j with
    | 0 => simp at hv ha; subst hv ha; exact Rd.int _ _
    | 1 => simp at hv ha; subst hv ha; exact Rd.int _ _
    | j + 2 => simp at hv
  subst he
  exact ⟨_, rfl, _, _, _, [], _, [], hW', trodAll_mk1 (shut_bool Tryz.underlying4 _), (trodAll_cons_mk (Below.trod laidOut (by kernel_rfl) (of_decide_eq_true (by kernel_rfl)) k0 bel lt0) (trodAll_cons_mk (Below.trod laidOut (by kernel_rfl) (of_decide_eq_true (by kernel_rfl)) k1 bel lt1) trodAll_mk0)), rfl, bel.frame _, fun h => by cases h⟩
end Pe
end Go.Proofs.YtdpphbcneihllaaGreat
