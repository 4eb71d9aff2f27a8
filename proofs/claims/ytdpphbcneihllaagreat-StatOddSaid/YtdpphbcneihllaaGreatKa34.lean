/- A part of the proof of KrA. -/
import Derived.Test.YtdpphbcneihllaaGreatKa33
set_option linter.unusedSimpArgs false
set_option linter.unusedVariables false
set_option linter.unusedSectionVars false
namespace Go.Proofs.YtdpphbcneihllaaGreat.Pe
open Go
set_option maxRecDepth 100000
theorem fmt_no1 (e1 e5 : Option Nat) (n : Nat) (t : Tr Nat) : outT ((evt S2 3000).fn formatN [.one (.ptr 1 1 0 0), .one (.int .u64 (.ofNat n))] (segW e1 e5 t 4800) 2 ⟨0, [(1, false)], [], [], []⟩) =
    some (.a (.one (.int .i64 2)), some ⟨e5, 0, [[.wds t 4800]]⟩, some ⟨e1, 1, [[.ref 0 1 0 4800]]⟩, 3, br (not (Nat.beq (Nat.mod n 16) 0)) true false, []) := by kernel_rfl
theorem fmt_no2 (e1 e5 : Option Nat) (n : Nat) (t : Tr Nat) : outT ((evt S2 3000).fn formatN [.one (.ptr 1 1 0 0), .one (.int .u64 (.ofNat n))] (segW e1 e5 t 4800) 2 ⟨0, [(1, true), (2, false)], [], [], []⟩) =
    some (.a (.one (.int .i64 2)), some ⟨e5, 0, [[.wds t 4800]]⟩, some ⟨e1, 1, [[.ref 0 1 0 4800]]⟩, 3, br (not (Nat.ble 3824 n)) (br (Nat.beq (Nat.mod n 16) 0) true false) false, []) := by kernel_rfl
theorem fmt_no3 (e1 e5 : Option Nat) (n : Nat) (t : Tr Nat) : outT ((evt S2 3000).fn formatN [.one (.ptr 1 1 0 0), .one (.int .u64 (.ofNat n))] (segW e1 e5 t 4800) 2 ⟨0, [(1, true), (2, true), (3, false)], [], [], []⟩) =
    some (.a (.one (.int .i64 2)), some ⟨e5, 0, [[.wds t 4800]]⟩, some ⟨e1, 1, [[.ref 0 1 0 4800]]⟩, 3, br (not (Nat.ble n 4800)) (br (Nat.ble 3824 n) (br (Nat.beq (Nat.mod n 16) 0) true false) false) false, []) := by kernel_rfl
noncomputable def formatX (ads : List AD) (H : Hp) (nx : Nat) : Option (RV × Hp × Nat) := match ads with
  | [.one (.ptr sg 1 0 0), .one (.int .u64 (.ofNat n))] => match segX H sg with
    | some q => br (Nat.beq q.2.1 4800) (br (Nat.blt sg nx) (br (Nat.blt q.1 nx) (br (fitsB n) (some (.a (.one (.int .i64 0)), updO H q.1 (some ⟨q.2.2.2, 0, [[.wds (fmtT n) 4800]]⟩), nx)) (some (.a (.one (.int .i64 2)), updO H q.1 (some ⟨q.2.2.2, 0, [[.wds q.2.2.1 4800]]⟩), nx))) none) none) none
    | none => none
  | _ => none
theorem format_ok : FnEff Tryz.prog formatN formatX := by
  rw [FnEff.iff]
  intro ads H nx r H' nx' hq
  unfold formatX at hq
  split at hq
  · rename_i sg n
    split at hq
    · rename_i q hs
      obtain ⟨o, m, t, e5⟩ := q
      obtain ⟨h1, hq⟩ := br_some hq
      have h1 : m = 4800 := Nat.eq_of_beq_eq_true h1
      subst h1
      · obtain ⟨h2, hq⟩ := br_some hq
        obtain ⟨h3, hq⟩ := br_some hq
        have h2 := blt_lt h2
        have h3 := blt_lt h3
        obtain ⟨⟨e1, hsg⟩, ho⟩ := segX_some hs
        have fin : ∀ {r0 : RV} {t' t'' : Tr Nat}, (∃ K, RunAt Tryz.prog formatN [.one (.ptr 1 1 0 0), .one (.int .u64 (.ofNat n))] (segW e1 e5 t 4800) 2 r0 K 3 ∧ K 0 = some ⟨e5, 0, [[.wds t' 4800]]⟩ ∧ K 1 = some ⟨e1, 1, [[.ref 0 1 0 4800]]⟩) → SameW 4800 t' t'' → r0.bare = true →
            RunAt Tryz.prog formatN [.one (.ptr sg 1 0 0), .one (.int .u64 (.ofNat n))] H nx r0 (updO H o (some ⟨e5, 0, [[.wds t'' 4800]]⟩)) nx := fun {r0 t' t''} hK hw hr => by
          obtain ⟨K, hrun, hK0, hK1⟩ := hK
          exact seg_run hrun (by omega) (SameW.refl _ _) hw hK0 hK1 (fun a ha => by rcases List.mem_singleton.1 ha with rfl; rfl) hr hsg ho h2 h3
        have hf : (S2.tab formatN).isSome = true := by kernel_rfl
        cases hfit : fitsB n with
        | true =>
          rw [hfit] at hq
          have hq := Option.some.inj hq
          obtain ⟨q1, q2⟩ := Prod.mk.inj hq
          obtain ⟨q2, q3⟩ := Prod.mk.inj q2
          subst q1; subst q2; subst q3
          have e8 : (n - 8) / 8 < 1000000000 := by have := (fits_some hfit).2.2; omega
          refine fin ⟨_, f_yes e1 e5 n t hfit, rfl, rfl⟩ ?_ rfl
          unfold fmtS fmtT
          refine SameW.set (SameW.set (SameW.set (SameW.set (SameW.set (SameW.set (SameW.set (fun k hk => ?_) ?_) ?_) ?_) ?_) ?_) ?_) e8
          · rw [zs_get 600 t k (by omega), if_pos (by omega)]; rfl
          all_goals omega
        | false =>
          rw [hfit] at hq
          have hq := Option.some.inj hq
          obtain ⟨q1, q2⟩ := Prod.mk.inj hq
          obtain ⟨q2, q3⟩ := Prod.mk.inj q2
          subst q1; subst q2; subst q3
          unfold fitsB at hfit
          cases c1 : Nat.beq (Nat.mod n 16) 0 with
          | false => exact fin (outT_run S2_ok S2_pb hf (fmt_no1 e1 e5 n t) (by rw [c1]; rfl)) (SameW.refl _ _) rfl
          | true =>
            rw [c1] at hfit
            cases c2 : Nat.ble 3824 n with
            | false => exact fin (outT_run S2_ok S2_pb hf (fmt_no2 e1 e5 n t) (by rw [c1, c2]; rfl)) (SameW.refl _ _) rfl
            | true =>
              rw [c2] at hfit
              have c3 : Nat.ble n 4800 = false := hfit
              exact fin (outT_run S2_ok S2_pb hf (fmt_no3 e1 e5 n t) (by rw [c1, c2, c3]; rfl)) (SameW.refl _ _) rfl
    · cases hq
  · cases hq
noncomputable def formatP (ads : List AD) (H : Hp) (nx : Nat) (T : TL) : Option ((RV × Hp × Nat) × TL) := match ads with
  | [.one (.ptr sg 1 0 0), .one (.int .u64 (.ofNat n))] => match segX H sg with
    | some q => br (Nat.beq q.2.1 4800) (br (Nat.blt sg nx) (br (Nat.blt q.1 nx)
        (br (decT (fitsB n) T).1 (some ((.a (.one (.int .i64 0)), updO H q.1 (some ⟨q.2.2.2, 0, [[.wds (fmtT n) 4800]]⟩), nx), (decT (fitsB n) T).2)) (some ((.a (.one (.int .i64 2)), updO H q.1 (some ⟨q.2.2.2, 0, [[.wds q.2.2.1 4800]]⟩), nx), (decT (fitsB n) T).2))) none) none) none
    | none => none
  | _ => none
theorem formatP_ok : PfOk formatP formatX := by
  intro ads H nx T q T' h
  unfold formatP at h
  split at h
  · rename_i sg n
    split at h
    · rename_i z hs
      obtain ⟨h1, h⟩ := br_some h
      obtain ⟨h3, h⟩ := br_some h
      obtain ⟨h4, h⟩ := br_some h
      have key : ∀ (x : Bool) (T1 : TL), decT (fitsB n) T = (x, T1) → T1.Ok → fitsB n = x := fun x T1 hd hT => (decT_ok hd hT).symm
      cases hd : decT (fitsB n) T with
      | mk x T1 =>
        rw [hd] at h
        cases x with
        | true =>
          have h := Option.some.inj h
          obtain ⟨q1, q2⟩ := Prod.mk.inj h
          subst q1; subst q2
          refine ⟨decT_le hd, fun hT => ?_⟩
          show (match segX H sg with | some q => _ | none => none) = _
          rw [hs]
          simp only [h1, h3, h4, key _ _ hd hT, br]
        | false =>
          have h := Option.some.inj h
          obtain ⟨q1, q2⟩ := Prod.mk.inj h
          subst q1; subst q2
          refine ⟨decT_le hd, fun hT => ?_⟩
          show (match segX H sg with | some q => _ | none => none) = _
          rw [hs]
          simp only [h1, h3, h4, key _ _ hd hT, br]
    · cases h
  · cases h
end Go.Proofs.YtdpphbcneihllaaGreat.Pe
namespace Go.Proofs.YtdpphbcneihllaaGreat.Pe
open Go
set_option maxRecDepth 100000
noncomputable def bsL3 : List (Nat × FnS) := [(newN, .eff newX), (sizeN, .eff sizeX), (loadN, .eff loadX), (storeN, .eff storeX), (formatN, .eff formatX)]
theorem bsL3_ok : AllBs Tryz.prog bsL3 := ⟨⟨new_ok, by kernel_rfl⟩, ⟨size_ok, by kernel_rfl⟩, ⟨load_ok, by kernel_rfl⟩, ⟨store_ok, by kernel_rfl⟩, ⟨format_ok, by kernel_rfl⟩, trivial⟩
noncomputable def pbL3 : List (Nat × PF) := [(loadN, loadP), (storeN, storeP), (formatN, formatP)]
noncomputable def S3 : SysP := { sysOf (mkTr ttL) (mkTr ezL) (mkTr fnL) (mkTr bsL3) with pb := pbOf pbL3 }
theorem S3_ok : SysOk S3.toSys Tryz.prog := sysOf_ok mixed ttL_ok (by kernel_rfl) ezL_ok (by kernel_rfl) fnL_ok (by kernel_rfl) bsL3_ok (by kernel_rfl)
theorem S3_pb : PbOk S3 := ⟨fun f G h => by
  have h := pbOf_mem (l := pbL3) h
  simp only [pbL3, List.mem_cons, List.not_mem_nil, or_false, Prod.mk.injEq] at h
  rcases h with ⟨rfl, rfl⟩ | ⟨rfl, rfl⟩ | ⟨rfl, rfl⟩
  · exact ⟨loadX, by kernel_rfl, loadP_ok⟩
  · exact ⟨storeX, by kernel_rfl, storeP_ok⟩
  · exact ⟨formatX, by kernel_rfl, formatP_ok⟩⟩
end Go.Proofs.YtdpphbcneihllaaGreat.Pe
namespace Go.Proofs.YtdpphbcneihllaaGreat.Pe
open Go
set_option maxRecDepth 100000
abbrev statN : Nat := 17
noncomputable def z64 : D := .int .u64 (.ofNat 0)
noncomputable def statsD (n : Nat) : List D := [.int .i64 (.ofNat 1), .int .i64 (.ofNat 1), z64, z64, .int .u64 (.ofNat (Nat.sub n 3776)), .int .u64 (.ofNat (Nat.sub n 3776)), z64, z64, z64, z64, z64, z64, z64, z64, z64]
noncomputable def outQ (x : Option (RV × Hp × Nat)) : Option (RV × Option PObj × Option PObj × Bool) := x.bind fun x => some (x.1, x.2.1 0, x.2.1 1, Nat.ble 2 x.2.2)
def OfAt (n : Nat) : Prop := ∀ (e1 e5 : Option Nat), outQ ((evs S3.toSys 2000).fn statN [.one (.ptr 1 1 0 0)] (segW e1 e5 (fmtT n) 4800) 2) = some (.tup [.many (statsD n), .one (.int .i64 (.ofNat 0))], some ⟨e5, 0, [[.wds (fmtT n) 4800]]⟩, some ⟨e1, 1, [[.ref 0 1 0 4800]]⟩, true)
end Go.Proofs.YtdpphbcneihllaaGreat.Pe
