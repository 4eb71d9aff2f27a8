/- A part of the proof of KvA. -/
import Derived.Test.YtdapdiaklpcmjaaGreatRows
import Derived.Test.YtdapdiaklpcmjaaGreatCb19
import Derived.Test.YtdapdiaklpcmjaaGreatKa0
import Derived.Test.YtdapdiaklpcmjaaGreatKa1
import Derived.Test.YtdapdiaklpcmjaaGreatKa2
import Derived.Test.YtdapdiaklpcmjaaGreatKa3
import Derived.Test.YtdapdiaklpcmjaaGreatKa4
import Derived.Test.YtdapdiaklpcmjaaGreatKa5
import Derived.Test.YtdapdiaklpcmjaaGreatKa6
import Derived.Test.YtdapdiaklpcmjaaGreatKa7
import Derived.Test.YtdapdiaklpcmjaaGreatKa8
import Derived.Test.YtdapdiaklpcmjaaGreatKa9
import Derived.Test.YtdapdiaklpcmjaaGreatKa10
import Derived.Test.YtdapdiaklpcmjaaGreatKa11
import Derived.Test.YtdapdiaklpcmjaaGreatKa12
import Derived.Test.YtdapdiaklpcmjaaGreatKa13
import Derived.Test.YtdapdiaklpcmjaaGreatKa14
import Derived.Test.YtdapdiaklpcmjaaGreatKa15
import Derived.Test.YtdapdiaklpcmjaaGreatKa16
set_option linter.unusedSimpArgs false
set_option linter.unusedVariables false
set_option linter.unusedSectionVars false
namespace Go.Proofs.YtdapdiaklpcmjaaGreat.Pe
open Go
set_option maxRecDepth 100000
theorem look_all {n : Nat} (h : fitsB n = true) : LookAt n := by
  obtain ⟨h1, h2, h3⟩ := fits_some h
  obtain ⟨j, rfl⟩ : ∃ j, n = 3824 + 16 * j := ⟨(n - 3824) / 16, by omega⟩
  have hj : j < 62 := by omega
  clear h h1 h2 h3
  match j, hj with
  | 0, _ => exact lk3824
  | 1, _ => exact lk3840
  | 2, _ => exact lk3856
  | 3, _ => exact lk3872
  | 4, _ => exact lk3888
  | 5, _ => exact lk3904
  | 6, _ => exact lk3920
  | 7, _ => exact lk3936
  | 8, _ => exact lk3952
  | 9, _ => exact lk3968
  | 10, _ => exact lk3984
  | 11, _ => exact lk4000
  | 12, _ => exact lk4016
  | 13, _ => exact lk4032
  | 14, _ => exact lk4048
  | 15, _ => exact lk4064
  | 16, _ => exact lk4080
  | 17, _ => exact lk4096
  | 18, _ => exact lk4112
  | 19, _ => exact lk4128
  | 20, _ => exact lk4144
  | 21, _ => exact lk4160
  | 22, _ => exact lk4176
  | 23, _ => exact lk4192
  | 24, _ => exact lk4208
  | 25, _ => exact lk4224
  | 26, _ => exact lk4240
  | 27, _ => exact lk4256
  | 28, _ => exact lk4272
  | 29, _ => exact lk4288
  | 30, _ => exact lk4304
  | 31, _ => exact lk4320
  | 32, _ => exact lk4336
  | 33, _ => exact lk4352
  | 34, _ => exact lk4368
  | 35, _ => exact lk4384
  | 36, _ => exact lk4400
  | 37, _ => exact lk4416
  | 38, _ => exact lk4432
  | 39, _ => exact lk4448
  | 40, _ => exact lk4464
  | 41, _ => exact lk4480
  | 42, _ => exact lk4496
  | 43, _ => exact lk4512
  | 44, _ => exact lk4528
  | 45, _ => exact lk4544
  | 46, _ => exact lk4560
  | 47, _ => exact lk4576
  | 48, _ => exact lk4592
  | 49, _ => exact lk4608
  | 50, _ => exact lk4624
  | 51, _ => exact lk4640
  | 52, _ => exact lk4656
  | 53, _ => exact lk4672
  | 54, _ => exact lk4688
  | 55, _ => exact lk4704
  | 56, _ => exact lk4720
  | 57, _ => exact lk4736
  | 58, _ => exact lk4752
  | 59, _ => exact lk4768
  | 60, _ => exact lk4784
  | 61, _ => exact lk4800
  | j + 62, hj => omega
theorem lookX_ok : FnEff Tryz.prog lookN lookX := by
  rw [FnEff.iff]
  intro ads H nx r H' nx' hq
  unfold lookX at hq
  split at hq
  · rename_i sg
    split at hq
    · rename_i q hs
      obtain ⟨o, m, t, e5⟩ := q
      obtain ⟨h1, hq⟩ := br_some hq
      have h1 : m = 4800 := Nat.eq_of_beq_eq_true h1
      subst h1
      obtain ⟨h2, hq⟩ := br_some hq
      obtain ⟨h3, hq⟩ := br_some hq
      obtain ⟨h4, hq⟩ := br_some hq
      have h2 := blt_lt h2
      have h3 := blt_lt h3
      obtain ⟨⟨e1, hsg⟩, ho⟩ := segX_some hs
      have hq := Option.some.inj hq
      obtain ⟨q1, q2⟩ := Prod.mk.inj hq
      obtain ⟨q2, q3⟩ := Prod.mk.inj q2
      subst q1; subst q2; subst q3
      obtain ⟨hf, ht⟩ := fmtd_some h4
      generalize hn : wordX t 2 = n at *
      have hrun := look_all hf e1 e5
      unfold outK at hrun
      cases hx : (evs S3.toSys 2000).fn lookN [.one (.ptr 1 1 0 0)] (segW e1 e5 (fmtT n) 4800) 2 with
      | none => rw [hx] at hrun; cases hrun
      | some x =>
        obtain ⟨r', K, m⟩ := x
        rw [hx] at hrun
        have hrun : some (r', K 0, K 1, K 208, m) = some (viewR n 208, some ⟨e5, 0, [[.wds (fmtT n) 4800]]⟩, some ⟨e1, 1, [[.ref 0 1 0 4800]]⟩, some (objV n), 278) := hrun
        simp only [Option.some.injEq, Prod.mk.injEq] at hrun
        obtain ⟨rfl, k0, k1, k2, rfl⟩ := hrun
        have hR : RunAt Tryz.prog lookN [.one (.ptr 1 1 0 0)] (segW e1 e5 (fmtT n) 4800) 2 (viewR n 208) K 278 := (evs_ok S3_ok 2000).fn lookN (by kernel_rfl) _ _ _ _ _ _ hx
        subst ht
        have c1 : ConvO (2 + 276) (newNo (fun k => if k = 0 then o else sg) 2 nx) (objV n) (objV n) := ConvO.rows (rows := [rowV n]) (by decide) rfl
        have c2 : ConvR (2 + 276) (newNo (fun k => if k = 0 then o else sg) 2 nx) (viewR n 208) (viewR n (Nat.add nx 206)) := ConvR.mapO (r := viewR n 208) rfl
        exact seg_run1 (j0 := 208) (d := 276) hR rfl (by omega) (by omega) k0 k1 k2 c1 c2 hsg ho h2 h3
    · cases hq
  · cases hq
theorem F18_ok : FnEff Tryz.prog lookN F18 := by
  rw [FnEff.iff]
  intro ads H nx r H' nx' hq
  unfold F18 at hq
  split at hq
  · rename_i z hz
    injection hq with hq
    subst hq
    exact FnEff.iff.1 lookX_ok _ _ _ _ _ _ hz
  · exact (evs_ok S3_ok 2000).fn lookN (by kernel_rfl) _ _ _ _ _ _ hq
theorem G18_ok : PfOk G18 F18 := by
  intro ads H nx T q T' h
  unfold G18 at h
  split at h
  · rename_i sg
    split at h
    · rename_i z hs
      obtain ⟨h1, h⟩ := br_some h
      obtain ⟨h3, h⟩ := br_some h
      obtain ⟨h4, h⟩ := br_some h
      have hX : lookX [.one (.ptr sg 1 0 0)] H nx = br (fmtd z.2.2.1) (some (viewR (wordX z.2.2.1 2) (Nat.add nx 206), updO H (Nat.add nx 206) (some (objV (wordX z.2.2.1 2))), Nat.add nx 276)) none := by
        show (match segX H sg with | some q => _ | none => none) = _
        rw [hs]
        simp only [h1, h3, h4, br]
      cases hd : decT (fmtd z.2.2.1) T with
      | mk x T1 =>
        rw [hd] at h
        cases x with
        | true =>
          have h := Option.some.inj h
          obtain ⟨q1, q2⟩ := Prod.mk.inj h
          subst q1; subst q2
          refine ⟨decT_le hd, fun hT => ?_⟩
          unfold F18
          rw [hX, ← decT_ok hd hT]
          rfl
        | false =>
          have h : (evt S3 2000).fn lookN [.one (.ptr sg 1 0 0)] H nx T1 = some (q, T') := h
          obtain ⟨k1, k2⟩ := (evt_ok S3_pb 2000).fn _ _ _ _ _ _ _ h
          refine ⟨(decT_le hd).trans k1, fun hT => ?_⟩
          unfold F18
          rw [hX, ← decT_ok hd (k1.ok hT)]
          exact k2 hT
    · cases h
  · obtain ⟨k1, k2⟩ := (evt_ok S3_pb 2000).fn _ _ _ _ _ _ _ h
    exact ⟨k1, fun hT => k2 hT⟩
  · cases h
theorem bsLk_ok : AllBs Tryz.prog bsLk := ⟨⟨F18_ok, by kernel_rfl⟩, bsL3_ok⟩
theorem Sk_ok : SysOk Sk.toSys Tryz.prog := sysOf_ok mixed ttL_ok (by kernel_rfl) ezL_ok (by kernel_rfl) fnL_ok (by kernel_rfl) bsLk_ok (by kernel_rfl)
end Go.Proofs.YtdapdiaklpcmjaaGreat.Pe
namespace Go.Proofs.YtdapdiaklpcmjaaGreat.Pe
open Go
set_option maxRecDepth 100000
theorem aw16 : ((evs Sk.toSys 8000).fn awake16N [] (.tr .leaf) 0).map (fun x => x.1) = some (.a (.one (.bool true))) := by kernel_rfl
theorem bsL5_ok : AllBs Tryz.prog bsL5 := ⟨⟨aw_of Sk_ok (by kernel_rfl) aw16, by kernel_rfl⟩, ⟨F33_ok, by kernel_rfl⟩, bsLk_ok⟩
theorem S5_ok : SysOk S5.toSys Tryz.prog := sysOf_ok mixed ttL_ok (by kernel_rfl) ezL_ok (by kernel_rfl) fnL_ok (by kernel_rfl) bsL5_ok (by kernel_rfl)
theorem S5_pb : PbOk S5 := ⟨fun f G h => by
  have h := pbOf_mem (l := pbL5) h
  simp only [pbL5, pbL3, List.mem_cons, List.not_mem_nil, or_false, Prod.mk.injEq] at h
  rcases h with ⟨rfl, rfl⟩ | ⟨rfl, rfl⟩ | ⟨rfl, rfl⟩ | ⟨rfl, rfl⟩
  · exact ⟨F18, by kernel_rfl, G18_ok⟩
  · exact ⟨loadX, by kernel_rfl, loadP_ok⟩
  · exact ⟨storeX, by kernel_rfl, storeP_ok⟩
  · exact ⟨formatX, by kernel_rfl, formatP_ok⟩⟩
end Go.Proofs.YtdapdiaklpcmjaaGreat.Pe
namespace Go.Proofs.YtdapdiaklpcmjaaGreat.Pe
open Go
set_option maxRecDepth 100000
noncomputable def outR (x : Option ((RV × Hp × Nat) × TL)) : Option (RV × Bool) := x.bind fun x => some (x.1.1, allB x.2.cs)
noncomputable def eqA (x : Option ((RV × Hp × Nat) × TL)) : Option (List AV) := x.map fun x => x.2.eqs.map Prod.fst
noncomputable def eqB (x : Option ((RV × Hp × Nat) × TL)) : Option (List AV) := x.map fun x => x.2.eqs.map Prod.snd
theorem map_pairs {α : Type} : ∀ {l : List (α × α)}, l.map Prod.fst = l.map Prod.snd → ∀ p ∈ l, p.1 = p.2
  | [], _, p, hp => by cases hp
  | q :: l, h, p, hp => by
    simp only [List.map_cons, List.cons.injEq] at h
    rcases List.mem_cons.1 hp with rfl | hp
    · exact h.1
    · exact map_pairs h.2 p hp
theorem outR_run {P : Program} {S : SysP} (hS : SysOk S.toSys P) (hP : PbOk S) {k f : Nat} (hf : (S.tab f).isSome = true) {ads : List AD} {H : Hp} {nx : Nat} {T : TL} {r : RV} {c : Bool} (h : outR ((evt S k).fn f ads H nx T) = some (r, c)) (hc : c = true) (he : eqA ((evt S k).fn f ads H nx T) = eqB ((evt S k).fn f ads H nx T)) :
    ∃ K m, RunAt P f ads H nx r K m := by
  unfold outR at h
  unfold eqA eqB at he
  cases hx : (evt S k).fn f ads H nx T with
  | none => rw [hx] at h; cases h
  | some x =>
    obtain ⟨⟨r', K, m'⟩, T'⟩ := x
    rw [hx] at h he
    have h : some (r', allB T'.cs) = some (r, c) := h
    simp only [Option.some.injEq, Prod.mk.injEq] at h
    obtain ⟨rfl, h4⟩ := h
    simp only [Option.map_some, Option.some.injEq] at he
    exact ⟨K, m', fn_runAt hS hP hf hx ⟨allB_all (h4.trans hc), map_pairs he⟩⟩
noncomputable abbrev yes : RV := .a (.one (.bool true))
abbrev lim64 : Nat := 18446744073709551616
abbrev anN : Nat := 3
noncomputable abbrev anR (n m : Nat) (orc : List (Nat × Bool)) : Option ((RV × Hp × Nat) × TL) := (evt S5 3000).fn anN [.one (.int .u64 (.ofNat n)), .one (.int .u64 (.ofNat m))] (.tr .leaf) 0 ⟨0, orc, [], [], []⟩
end Go.Proofs.YtdapdiaklpcmjaaGreat.Pe
namespace Go.Proofs.YtdapdiaklpcmjaaGreat.Pe
open Go
set_option maxRecDepth 100000
theorem an1 (n m : Nat) : outR (anR n m [(10, false), (11, true), (22, false)]) = some (yes, br (not (Nat.beq (Nat.mod n 16) 0)) (br (not (Nat.beq (Nat.mod n 16) 0)) (br (not (fitsB n)) true false) false) false) := by kernel_rfl
theorem an1e (n m : Nat) : eqA (anR n m [(10, false), (11, true), (22, false)]) = eqB (anR n m [(10, false), (11, true), (22, false)]) := by kernel_rfl
theorem an2 (n m : Nat) : outR (anR n m [(10, false), (11, false), (12, true), (23, true), (24, false)]) = some (yes, br (not (Nat.ble 3824 n)) (br (Nat.beq (Nat.mod n 16) 0) (br (Nat.blt n 3824) (br (not (not (Nat.beq (Nat.mod n 16) 0))) (br (not (fitsB n)) true false) false) false) false) false) := by kernel_rfl
theorem an2e (n m : Nat) : eqA (anR n m [(10, false), (11, false), (12, true), (23, true), (24, false)]) = eqB (anR n m [(10, false), (11, false), (12, true), (23, true), (24, false)]) := by kernel_rfl
theorem an3 (n m : Nat) : outR (anR n m [(10, false), (11, false), (12, false), (13, true), (24, true), (25, true), (26, false)]) = some (yes, br (not (Nat.ble n 4800)) (br (Nat.ble 3824 n) (br (Nat.beq (Nat.mod n 16) 0) (br (Nat.blt 4800 n) (br (not (Nat.blt n 3824)) (br (not (not (Nat.beq (Nat.mod n 16) 0))) (br (not (fitsB n)) true false) false) false) false) false) false) false) := by kernel_rfl
theorem an3e (n m : Nat) : eqA (anR n m [(10, false), (11, false), (12, false), (13, true), (24, true), (25, true), (26, false)]) = eqB (anR n m [(10, false), (11, false), (12, false), (13, true), (24, true), (25, true), (26, false)]) := by kernel_rfl
theorem an4 (n m : Nat) : outR (anR n m [(10, true), (11, false), (12, false), (13, false), (16, true), (17, true), (18, true), (19, true), (66, true), (73, true), (83, true), (90, false), (91, false)]) = some (yes, br (not (Nat.beq m 0)) (br (not (Nat.beq (wordX (fmtT n) 2) (Nat.xor n m))) (br (Nat.beq (Nat.sub (wordX (fmtT n) 2) 3776) (Nat.sub n 3776)) (br (Nat.beq (wordX (fmtT n) 2) n) (br (Nat.beq (Nat.sub (wordX (fmtT n) 2) 3776) (Nat.sub n 3776)) (br (Nat.blt n 18446744073709551616) (br (Nat.blt m 18446744073709551616) (br (Nat.ble n 4800) (br (Nat.ble 3824 n) (br (Nat.beq (Nat.mod n 16) 0) (br (fmtd (fmtT n)) (br (Nat.ble 3776 n) (br (Nat.blt n 18446744073709551616) (br (not (Nat.blt 4800 n)) (br (not (Nat.blt n 3824)) (br (not (not (Nat.beq (Nat.mod n 16) 0))) (br (fitsB n) true false) false) false) false) false) false) false) false) false) false) false) false) false) false) false) false) false) := by kernel_rfl
theorem an4e (n m : Nat) : eqA (anR n m [(10, true), (11, false), (12, false), (13, false), (16, true), (17, true), (18, true), (19, true), (66, true), (73, true), (83, true), (90, false), (91, false)]) = eqB (anR n m [(10, true), (11, false), (12, false), (13, false), (16, true), (17, true), (18, true), (19, true), (66, true), (73, true), (83, true), (90, false), (91, false)]) := by kernel_rfl
theorem an5 (n m : Nat) : outR (anR n m [(10, true), (11, false), (12, false), (13, false), (16, true), (17, true), (18, true), (19, true), (66, true), (73, true), (83, true), (90, true), (95, true)]) = some (yes, br (Nat.beq m 0) (br (Nat.beq (wordX (fmtT n) 2) (Nat.xor n m)) (br (Nat.beq (Nat.sub (wordX (fmtT n) 2) 3776) (Nat.sub n 3776)) (br (Nat.beq (wordX (fmtT n) 2) n) (br (Nat.beq (Nat.sub (wordX (fmtT n) 2) 3776) (Nat.sub n 3776)) (br (Nat.blt n 18446744073709551616) (br (Nat.blt m 18446744073709551616) (br (Nat.ble n 4800) (br (Nat.ble 3824 n) (br (Nat.beq (Nat.mod n 16) 0) (br (fmtd (fmtT n)) (br (Nat.ble 3776 n) (br (Nat.blt n 18446744073709551616) (br (not (Nat.blt 4800 n)) (br (not (Nat.blt n 3824)) (br (not (not (Nat.beq (Nat.mod n 16) 0))) (br (fitsB n) true false) false) false) false) false) false) false) false) false) false) false) false) false) false) false) false) false) := by kernel_rfl
theorem an5e (n m : Nat) : eqA (anR n m [(10, true), (11, false), (12, false), (13, false), (16, true), (17, true), (18, true), (19, true), (66, true), (73, true), (83, true), (90, true), (95, true)]) = eqB (anR n m [(10, true), (11, false), (12, false), (13, false), (16, true), (17, true), (18, true), (19, true), (66, true), (73, true), (83, true), (90, true), (95, true)]) := by kernel_rfl
theorem blt_of {a b : Nat} (h : a < b) : Nat.blt a b = true := Nat.ble_eq_true_of_le (show a + 1 ≤ b from h)
theorem not_blt_of {a b : Nat} (h : b ≤ a) : Nat.blt a b = false := by
  cases h' : Nat.blt a b with
  | false => rfl
  | true => exact absurd (blt_lt h') (by omega)
theorem not_ble_of {a b : Nat} (h : b < a) : Nat.ble a b = false := by
  cases h' : Nat.ble a b with
  | false => rfl
  | true => exact absurd (Nat.le_of_ble_eq_true h') (by omega)
theorem not_beq_of {a b : Nat} (h : a ≠ b) : Nat.beq a b = false := by
  cases h' : Nat.beq a b with
  | false => rfl
  | true => exact absurd (Nat.eq_of_beq_eq_true h') h
theorem beq_of {a b : Nat} (h : a = b) : Nat.beq a b = true := by subst h; exact Nat.beq_refl a
theorem auditNobody_run {n m : Nat} (hn : n < lim64) (hm : m < lim64) : ∃ H' nx', RunAt Tryz.prog anN [.one (.int .u64 (.ofNat n)), .one (.int .u64 (.ofNat m))] (.tr .leaf) 0 yes H' nx' := by
  have hf : (S5.tab anN).isSome = true := by kernel_rfl
  cases hfit : fitsB n with
  | true =>
    obtain ⟨d1, d2, d3⟩ := fits_some hfit
    have c1 : Nat.beq (Nat.mod n 16) 0 = true := beq_of d1
    have c2 : Nat.blt n 3824 = false := not_blt_of d2
    have c3 : Nat.blt 4800 n = false := not_blt_of d3
    have c4 := blt_of hn
    have c5 := blt_of hm
    have c6 : Nat.ble 3776 n = true := Nat.ble_eq_true_of_le (by omega)
    have c7 : Nat.ble 3824 n = true := Nat.ble_eq_true_of_le d2
    have c8 : Nat.ble n 4800 = true := Nat.ble_eq_true_of_le d3
    have c9 : Nat.beq (Nat.sub (wordX (fmtT n) 2) 3776) (Nat.sub n 3776) = true := beq_of (by rw [fmtT_size hfit])
    have c10 : Nat.beq (wordX (fmtT n) 2) n = true := beq_of (fmtT_size hfit)
    by_cases h0 : m = 0
    · subst h0
      refine outR_run S5_ok S5_pb hf (an5 n 0) ?_ (an5e n 0)
      have c11 : Nat.beq (wordX (fmtT n) 2) (Nat.xor n 0) = true := beq_of (by rw [fmtT_size hfit]; exact (Nat.xor_zero n).symm)
      rw [c11, c9, c10, c4, c5, c8, c7, c1, fmtd_fmt hfit, c6, c3, c2, hfit]
      rfl
    · refine outR_run S5_ok S5_pb hf (an4 n m) ?_ (an4e n m)
      have c11 : Nat.beq (wordX (fmtT n) 2) (Nat.xor n m) = false := not_beq_of (by
        rw [fmtT_size hfit]
        intro e
        have e : n ^^^ m = n := e.symm
        apply h0
        have e2 : n ^^^ (n ^^^ m) = n ^^^ n := by rw [e]
        rw [← Nat.xor_assoc, Nat.xor_self, Nat.zero_xor] at e2
        exact e2)
      have c12 : Nat.beq m 0 = false := not_beq_of h0
      rw [c12, c11, c9, c10, c4, c5, c8, c7, c1, fmtd_fmt hfit, c6, c3, c2, hfit]
      rfl
  | false =>
    by_cases h1 : Nat.mod n 16 = 0
    · have c1 : Nat.beq (Nat.mod n 16) 0 = true := beq_of h1
      by_cases h2 : n < 3824
      · refine outR_run S5_ok S5_pb hf (an2 n m) ?_ (an2e n m)
        have c2 := blt_of h2
        have c7 : Nat.ble 3824 n = false := not_ble_of h2
        rw [c7, c1, c2, hfit]
        rfl
      · have c2 : Nat.blt n 3824 = false := not_blt_of (by omega)
        have c7 : Nat.ble 3824 n = true := Nat.ble_eq_true_of_le (by omega)
        have h3 : 4800 < n := Nat.lt_of_not_le fun h => by
          have : fitsB n = true := by
            show br (Nat.beq (Nat.mod n 16) 0) (br (Nat.ble 3824 n) (Nat.ble n 4800) false) false = true
            rw [c1, c7, Nat.ble_eq_true_of_le h]; rfl
          rw [hfit] at this; cases this
        refine outR_run S5_ok S5_pb hf (an3 n m) ?_ (an3e n m)
        have c3 := blt_of h3
        have c8 : Nat.ble n 4800 = false := not_ble_of h3
        rw [c8, c7, c1, c3, c2, hfit]
        rfl
    · refine outR_run S5_ok S5_pb hf (an1 n m) ?_ (an1e n m)
      have c1 : Nat.beq (Nat.mod n 16) 0 = false := not_beq_of h1
      rw [c1, hfit]
      rfl
end Go.Proofs.YtdapdiaklpcmjaaGreat.Pe
namespace Go.Proofs.YtdapdiaklpcmjaaGreat
namespace Pe
open Go Go.ChangeShapes Go.WideShapes Go.ChangeAt Go.RowKit
theorem nat_of_u64 {x : Int} (h : (Lit.int .u64 x).wf = true) : ∃ n : Nat, x = Int.ofNat n ∧ n < 18446744073709551616 := by
  have h' : 0 ≤ x ∧ x < 18446744073709551616 := by
    have := bounds_u64 h
    omega
  exact ⟨x.toNat, by show x = ((x.toNat : Nat) : Int); omega, by omega⟩
set_option maxRecDepth 100000 in
theorem auditNobody_lifted (os : Os) (started : os.Started) (H : Type) (enc : TypeId × Value → H) :
    ReturnsInHanded {} Tryz.checked os 3 .any (Rows.auditNobodySpec.pre6 enc Tryz.prog Tryz.f3 Rows.auditNobodyRow.domain false) (Rows.auditNobodySpec.post enc Tryz.prog Tryz.f3 false true false false) := by
  refine returnsInHanded_of_change (C := Tryz.checked) own started (by kernel_rfl) Tryz.func3
    (ChangeSpec.witness6 (enc := enc) (C := Tryz.checked) false ⟨#[], #[.int .u64 0, .int .u64 0], []⟩ 8 (by kernel_rfl) (by kernel_rfl) (by kernel_rfl) (by kernel_rfl)) ?_
  intro W base args ds gs before hval0 hW hcnd _
  have hval : ∀ (j : Nat) t v, Tryz.f3.params[j]? = some t → args[j]? = some v → Value.okWide Tryz.prog W .any base t v := hval0
  have hW' := hW
  obtain ⟨p, q, hA0, hV, rfl, hfz, hnd⟩ := hW
  have hA : DataW.TrodAll enc Tryz.prog W 0 (fun _ => true) true Tryz.f3.params.toList args.toList ds p := hA0
  rw [Tryz.params3] at hA hval
  obtain ⟨v0, vs0, d0, ds0, p0, q0, hargs, rfl, rfl, h0, r0⟩ := trodAll_cons hA
  obtain ⟨v1, vs1, d1, ds1, p1, q1, rfl, rfl, rfl, h1, r1⟩ := trodAll_cons r0
  obtain ⟨rfl, rfl, rfl⟩ := trodAll_nil r1
  obtain rfl : args = #[v0, v1] := by cases args; simp_all
  obtain ⟨rfl, rfl⟩ := trodVars_none hV
  have k0 := h0
  have k1 := h1
  have lt0 : ∀ x ∈ p0, x.block < W.heap.size := by obtain ⟨m, hm⟩ := k0; exact DataW.trod_lt m _ _ _ hm
  have lt1 : ∀ x ∈ p1, x.block < W.heap.size := by obtain ⟨m, hm⟩ := k1; exact DataW.trod_lt m _ _ _ hm
  obtain ⟨x, rfl, rfl, rfl, wx⟩ := open_int Tryz.underlying22 (hval 0 22 v0 rfl rfl) h0
  obtain ⟨y, rfl, rfl, rfl, wy⟩ := open_int Tryz.underlying22 (hval 1 22 v1 rfl rfl) h1
  clear hA0 hval0
  obtain ⟨n, rfl, hn⟩ := nat_of_u64 wx
  obtain ⟨m, rfl, hm⟩ := nat_of_u64 wy
  obtain ⟨H', nx', hrun⟩ := auditNobody_run hn hm
  refine (law_run hrun (vals := #[.int .u64 (Int.ofNat n), .int .u64 (Int.ofNat m)]) rfl (fun j v a hv ha => ?_)).mono fun e W' ⟨he, bel⟩ => ?_
  · match j with
    | 0 => simp at hv ha; subst hv ha; exact Rd.int _ _
    | 1 => simp at hv ha; subst hv ha; exact Rd.int _ _
    | j + 2 => simp at hv
  subst he
  exact ⟨_, rfl, _, _, _, [], _, [], hW', trodAll_mk1 (shut_bool Tryz.underlying4 _), (trodAll_cons_mk (Below.trod laidOut (by kernel_rfl) (of_decide_eq_true (by kernel_rfl)) k0 bel lt0) (trodAll_cons_mk (Below.trod laidOut (by kernel_rfl) (of_decide_eq_true (by kernel_rfl)) k1 bel lt1) trodAll_mk0)), rfl, bel.frame _, fun h => by cases h⟩
end Pe
end Go.Proofs.YtdapdiaklpcmjaaGreat
