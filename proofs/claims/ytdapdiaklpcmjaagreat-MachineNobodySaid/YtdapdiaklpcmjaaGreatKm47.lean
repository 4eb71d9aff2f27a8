/- A part of the proof of KzA. -/
import Derived.Test.YtdapdiaklpcmjaaGreatKm46
set_option linter.unusedSimpArgs false
set_option linter.unusedVariables false
set_option linter.unusedSectionVars false
namespace Go.Proofs.YtdapdiaklpcmjaaGreat.Pe
open Go
set_option maxRecDepth 100000
noncomputable def allB (l : List Bool) : Bool := List.rec (motive := fun _ => Bool) true (fun c _ ih => br c ih false) l
theorem allB_all : ∀ {l : List Bool}, allB l = true → ∀ c ∈ l, c = true
  | [], _, c, hc => by cases hc
  | x :: l, h, c, hc => by
    have h : br x (allB l) false = true := h
    cases x with
    | false => cases h
    | true =>
      rcases List.mem_cons.1 hc with rfl | hc
      · rfl
      · exact allB_all (show allB l = true from h) c hc
noncomputable def outT (x : Option ((RV × Hp × Nat) × TL)) : Option (RV × Option PObj × Option PObj × Nat × Bool × List (AV × AV)) := x.bind fun x => some (x.1.1, x.1.2.1 0, x.1.2.1 1, x.1.2.2, allB x.2.cs, x.2.eqs)
theorem outT_run {S : SysP} (hS : SysOk S.toSys Tryz.prog) (hP : PbOk S) {k f : Nat} (hf : (S.tab f).isSome = true) {ads : List AD} {H : Hp} {nx : Nat} {T : TL} {r : RV} {a b : Option PObj} {m : Nat} {c : Bool} (h : outT ((evt S k).fn f ads H nx T) = some (r, a, b, m, c, [])) (hc : c = true) :
    ∃ K, RunAt Tryz.prog f ads H nx r K m ∧ K 0 = a ∧ K 1 = b := by
  unfold outT at h
  cases hx : (evt S k).fn f ads H nx T with
  | none => rw [hx] at h; cases h
  | some x =>
    obtain ⟨⟨r', K, m'⟩, T'⟩ := x
    rw [hx] at h
    have h : some (r', K 0, K 1, m', allB T'.cs, T'.eqs) = some (r, a, b, m, c, []) := h
    simp only [Option.some.injEq, Prod.mk.injEq] at h
    obtain ⟨rfl, h1, h2, rfl, h4, h5⟩ := h
    exact ⟨K, fn_runAt hS hP hf hx ⟨allB_all (h4.trans hc), fun p hp => by rw [h5] at hp; cases hp⟩, h1, h2⟩
theorem RunAt.same {P : Program} {f : Nat} {ads : List AD} {H H' H'' : Hp} {nx nx' : Nat} {r : RV} (h : RunAt P f ads H nx r H' nx')
    (hs : ∀ k, H'' k = H' k ∨ ∃ e t t' n, H' k = some ⟨e, 0, [[.wds t n]]⟩ ∧ H'' k = some ⟨e, 0, [[.wds t' n]]⟩ ∧ SameW n t t') : RunAt P f ads H nx r H'' nx' := by
  intro w ι M vals hM hok hsz hargs
  refine (h w ι M vals hM hok hsz hargs).mono fun e w' hp => ?_
  obtain ⟨v, ι', M', he, hr, hk, hi, hev, hkept, hback, hlt⟩ := hp
  have fro : ∀ k x, H'' k = some x → ∃ y, H' k = some y := fun k x hx => by
    rcases hs k with e | ⟨e, t, t', n, h1, h2, _⟩
    · exact ⟨x, by rw [← e]; exact hx⟩
    · exact ⟨_, h1⟩
  refine ⟨v, ι', M', he, hr, ⟨hk.new, fun k x hx => ?_, fun k k' x x' b hx hx' hb hb' => ?_, fun k x b hx hb => ?_⟩, hi, ⟨hev.os, hev.tape, hev.output, hev.size, hev.same, fun b hb hh => ?_, fun b hb h => h.elim, hev.shape⟩, hkept, hback, hlt⟩
  · rcases hs k with e | ⟨e, t, t', n, h1, h2, h3⟩
    · exact hk.objs k x (by rw [← e]; exact hx)
    · rw [h2] at hx
      injection hx with hx
      subst hx
      obtain ⟨b, hb, ho⟩ := hk.objs k _ h1
      exact ⟨b, hb, wds_same h3 ho⟩
  · obtain ⟨y, hy⟩ := fro k x hx
    obtain ⟨y', hy'⟩ := fro k' x' hx'
    exact hk.inj k k' y y' b hy hy' hb hb'
  · obtain ⟨y, hy⟩ := fro k x hx
    exact hk.ctl k y b hy hb
  · obtain ⟨k, x, hx, hb'⟩ := hh
    obtain ⟨y, hy⟩ := fro k x hx
    exact hev.back b hb ⟨k, y, hy, hb'⟩
noncomputable def isN {α : Type} (x : Option α) : Bool := Option.rec (motive := fun _ => Bool) true (fun _ => false) x
noncomputable def dropW (t : Tr Nat) (k : Nat) : Tr Nat := br (isN (t.get k)) t (t.set none 30 k)
theorem dropW_get (t : Tr Nat) (k : Nat) (hk : k < 1000000000) (j : Nat) : (dropW t k).get j = if j = k then none else t.get j := by
  unfold dropW
  cases h : t.get k with
  | none =>
    show t.get j = _
    split
    · rename_i e; subst e; exact h
    · rfl
  | some v =>
    show (t.set none 30 k).get j = _
    rw [Tr.get_set _ _ _ _ (by omega)]
noncomputable def setZ (t : Tr Nat) (k v : Nat) : Tr Nat := br (Nat.beq v 0) (dropW t k) (t.set (some v) 30 k)
theorem setZ_same (n : Nat) (t : Tr Nat) (k v : Nat) (hk : k < 1000000000) : SameW n (t.set (some v) 30 k) (setZ t k v) := by
  intro j _
  unfold setZ
  cases hv : Nat.beq v 0 with
  | false => rfl
  | true =>
    have := Nat.eq_of_beq_eq_true hv
    subst this
    show _ = ((dropW t k).get j).getD 0
    rw [dropW_get t k hk, Tr.get_set _ _ _ _ (by omega)]
    split <;> rfl
noncomputable def storeZ (ads : List AD) (H : Hp) (nx : Nat) : Option (RV × Hp × Nat) := match ads with
  | [.one (.ptr sg 1 0 0), .one (.int .u64 (.ofNat off)), .one (.int .u64 (.ofNat v))] => match segX H sg with
    | some q => br (Nat.beq q.2.1 4800) (br (inW off 4800) (some (.a (.one (.int .i64 0)), updO H q.1 (some ⟨q.2.2.2, 0, [[.wds (setZ q.2.2.1 (Nat.div off 8) v) q.2.1]]⟩), nx)) none) none
    | none => none
  | _ => none
theorem storeZ_ok : FnEff Tryz.prog storeN storeZ := by
  rw [FnEff.iff]
  intro ads H nx r H' nx' hq
  unfold storeZ at hq
  split at hq
  · rename_i sg off v
    split at hq
    · rename_i q hs
      obtain ⟨o, n, t, e5⟩ := q
      obtain ⟨h1, hq⟩ := br_some hq
      obtain ⟨h2, hq⟩ := br_some hq
      have hq := Option.some.inj hq
      obtain ⟨q1, q2⟩ := Prod.mk.inj hq
      obtain ⟨q2, q3⟩ := Prod.mk.inj q2
      subst q1; subst q2; subst q3
      have hX : storeX [.one (.ptr sg 1 0 0), .one (.int .u64 (.ofNat off)), .one (.int .u64 (.ofNat v))] H nx = some (.a (.one (.int .i64 0)), updO H o (some ⟨e5, 0, [[.wds (t.set (some v) 30 (Nat.div off 8)) n]]⟩), nx) := by
        show (match segX H sg with | some q => _ | none => none) = _
        rw [hs]
        simp only [h1, h2, br]
      refine (FnEff.iff.1 store_ok _ _ _ _ _ _ hX).same fun k => ?_
      by_cases hk : k = o
      · subst hk
        refine .inr ⟨e5, _, _, n, by rw [updO_at, if_pos rfl], by rw [updO_at, if_pos rfl], setZ_same n t _ v ?_⟩
        obtain ⟨_, hlt⟩ := inW_some h2
        show off / 8 < 1000000000
        omega
      · left
        rw [updO_at, updO_at, if_neg hk, if_neg hk]
    · cases hq
  · cases hq
noncomputable def storeZP (ads : List AD) (H : Hp) (nx : Nat) (T : TL) : Option ((RV × Hp × Nat) × TL) := match ads with
  | [.one (.ptr sg 1 0 0), .one (.int .u64 (.ofNat off)), .one (.int .u64 (.ofNat v))] => match segX H sg with
    | some q => match decT (Nat.beq v 0) T with
      | (b, T1) => some ((.a (.one (.int .i64 0)), updO H q.1 (some ⟨q.2.2.2, 0, [[.wds (br b (dropW q.2.2.1 (Nat.div off 8)) (q.2.2.1.set (some v) 30 (Nat.div off 8))) q.2.1]]⟩), nx), T1.need [Nat.beq q.2.1 4800, inW off 4800])
    | none => none
  | _ => none
theorem storeZP_ok : PfOk storeZP storeZ := by
  intro ads H nx T q T' h
  unfold storeZP at h
  split at h
  · rename_i sg off v
    split at h
    · rename_i z hz
      split at h
      rename_i b T1 hd
      simp only [Option.some.injEq, Prod.mk.injEq] at h
      obtain ⟨rfl, rfl⟩ := h
      refine ⟨(decT_le hd).trans (TL.need_le _ _), fun hT => ?_⟩
      have hc := TL.need_ok hT
      have h1 := hc _ List.mem_cons_self
      have h2 := hc _ (List.mem_cons_of_mem _ List.mem_cons_self)
      have hb := decT_ok hd ((TL.need_le _ _).ok hT)
      show (match segX H sg with | some q => _ | none => none) = _
      rw [hz, hb]
      simp only [h1, h2, br, setZ]
    · cases h
  · cases h
noncomputable def bsLz : List (Nat × FnS) := [(newN, .eff newX), (sizeN, .eff sizeX), (loadN, .eff loadX), (storeN, .eff storeZ)]
theorem bsLz_ok : AllBs Tryz.prog bsLz := ⟨⟨new_ok, by kernel_rfl⟩, ⟨size_ok, by kernel_rfl⟩, ⟨load_ok, by kernel_rfl⟩, ⟨storeZ_ok, by kernel_rfl⟩, trivial⟩
noncomputable def Sz : SysP := { sysOf (mkTr ttL) (mkTr ezL) (mkTr fnL) (mkTr bsLz) with pb := pbOf [(loadN, loadP), (storeN, storeZP)] }
theorem Sz_ok : SysOk Sz.toSys Tryz.prog := sysOf_ok mixed ttL_ok (by kernel_rfl) ezL_ok (by kernel_rfl) fnL_ok (by kernel_rfl) bsLz_ok (by kernel_rfl)
theorem Sz_pb : PbOk Sz := ⟨fun f G h => by
  have h := pbOf_mem (l := [(loadN, loadP), (storeN, storeZP)]) h
  simp only [List.mem_cons, List.not_mem_nil, or_false, Prod.mk.injEq] at h
  rcases h with ⟨rfl, rfl⟩ | ⟨rfl, rfl⟩
  · exact ⟨loadX, by kernel_rfl, loadP_ok⟩
  · exact ⟨storeZ, by kernel_rfl, storeZP_ok⟩⟩
noncomputable def subM (a b : Nat) : Nat := Nat.mod (Nat.add a (Nat.sub 18446744073709551616 (Nat.mod b 18446744073709551616))) 18446744073709551616
theorem subM_eq {a b : Nat} (h : b ≤ a) (ha : a < 18446744073709551616) : subM a b = a - b := by
  show (a + (18446744073709551616 - b % 18446744073709551616)) % 18446744073709551616 = a - b
  omega
noncomputable def sumN (n : Nat) : Nat := Nat.mod (Nat.mul (Nat.xor 7161130718081542961 n) 11400714819323198485) 18446744073709551616
theorem SameW.set {n i : Nat} {t t' : Tr Nat} {x : Option Nat} (h : SameW n t t') (hi : i < 1000000000) : SameW n (t.set x 30 i) (t'.set x 30 i) := fun k hk => by
  rw [Tr.get_set _ _ _ _ (by omega), Tr.get_set _ _ _ _ (by omega)]
  split
  · rfl
  · exact h k hk
noncomputable def fmtR (n a b c : Nat) : Tr Nat := ((((((((Tr.leaf : Tr Nat).set (some 7161130718081542961) 30 0).set (some 1) 30 1).set (some n) 30 2).set (some 3776) 30 4).set (some c) 30 5).set (some a) 30 472).set (some a) 30 b)
noncomputable def fmtT (n : Nat) : Tr Nat := ((((((((Tr.leaf : Tr Nat).set (some 7161130718081542961) 30 0).set (some 1) 30 1).set (some n) 30 2).set (some 3776) 30 4).set (some (sumN n)) 30 5).set (some (Nat.sub n 3776)) 30 472).set (some (Nat.sub n 3776)) 30 (Nat.div (Nat.sub n 8) 8))
noncomputable def fitsB (n : Nat) : Bool := br (Nat.beq (Nat.mod n 16) 0) (br (Nat.ble 3824 n) (Nat.ble n 4800) false) false
abbrev formatN : Nat := 9
end Go.Proofs.YtdapdiaklpcmjaaGreat.Pe
namespace Go.Proofs.YtdapdiaklpcmjaaGreat.Pe
open Go
noncomputable def mkS (l : List (Nat × AV)) (H : Hp) (nx : Nat) : St := ⟨mkTr l, H, nx⟩
noncomputable def smallS (l : List (Nat × AV)) : Bool := l.all fun x => Nat.blt x.1 1000000
theorem smallS_dec {l : List (Nat × AV)} (h : smallS l = true) : l.all (fun x => decide (x.1 < 1000000000)) = true := by
  rw [List.all_eq_true]
  intro x hx
  have : x.1 < 1000000 := blt_lt (List.all_eq_true.1 h x hx)
  rw [decide_eq_true_eq]; omega
theorem less_of {l : List (Nat × AV)} {H : Hp} {nx : Nat} {s : St} (hl : smallS l = true) (h1 : ∀ o, H o = s.H o) (h2 : nx = s.nx) (h3 : l.map (fun p => s.t.get p.1) = l.map (fun p => some p.2)) : Less (mkS l H nx) s := by
  refine ⟨h1, h2, fun i hi => ?_⟩
  rw [St.env_ne _ hi, St.env_ne _ hi]
  cases hg : (mkTr l).get i with
  | none => right; show ((mkTr l).get i).getD .junk = _; rw [hg]; rfl
  | some a =>
    left
    show ((mkTr l).get i).getD .junk = _
    have hm := mkTr_get l (smallS_dec hl) i a hg
    obtain ⟨j, hj, e⟩ := List.getElem_of_mem hm
    have := congrArg (fun m => m[j]?) h3
    simp only [List.getElem?_map, List.getElem?_eq_getElem hj, Option.map_some, e, Option.some.injEq] at this
    rw [hg, this]
noncomputable def outC (l : List Nat) (x : Option ((Ex × St) × TL)) : Option (Ex × List (Option AV) × Hp × Nat × Bool × List (AV × AV)) := x.bind fun x => some (x.1.1, l.map (fun i => x.1.2.t.get i), x.1.2.H, x.1.2.nx, allB x.2.cs, x.2.eqs)
theorem outC_code {P : Program} {S : SysP} (hS : SysOk S.toSys P) (hP : PbOk S) {k nt : Nat} {ro : Option Nat} {c : Code} {s : St} {T : TL} {ex : Ex} {l : List (Nat × AV)} {H : Hp} {nx : Nat} {b : Bool}
    (h : outC (l.map fun p => p.1) ((evt S k).code nt ro c s T) = some (ex, l.map (fun p => some p.2), H, nx, b, [])) (hb : b = true) (hl : smallS l = true) : CodeR P nt ro c s ex (mkS l H nx) := by
  unfold outC at h
  cases hx : (evt S k).code nt ro c s T with
  | none => rw [hx] at h; cases h
  | some x =>
    obtain ⟨⟨ex', s'⟩, T'⟩ := x
    rw [hx] at h
    have h : some (ex', (l.map fun p => p.1).map (fun i => s'.t.get i), s'.H, s'.nx, allB T'.cs, T'.eqs) = some (ex, l.map (fun p => some p.2), H, nx, b, []) := h
    simp only [Option.some.injEq, Prod.mk.injEq] at h
    obtain ⟨rfl, h1, h2, h3, h4, h5⟩ := h
    refine (CodeR.evt hS hP hx ⟨allB_all (h4.trans hb), fun p hp => by rw [h5] at hp; cases hp⟩).post (less_of hl (fun o => by rw [h2]) h3.symm ?_)
    rw [← h1, List.map_map]
    rfl
theorem outC_run {P : Program} {S : SysP} (hS : SysOk S.toSys P) (hP : PbOk S) {k nt : Nat} {ro : Option Nat} {c : Code} {s0 s : St} {T : TL} {ex : Ex} {l : List (Nat × AV)} {H : Hp} {nx : Nat} {b : Bool}
    (h : outC (l.map fun p => p.1) ((evt S k).code nt ro c s0 T) = some (ex, l.map (fun p => some p.2), H, nx, b, [])) (hb : b = true) (hl : smallS l = true) (hs : Less s0 s) : CodeR P nt ro c s ex (mkS l H nx) := (outC_code hS hP h hb hl).pre hs
noncomputable def cA (c : Code) : Code := match c with
  | .seq a _ => a
  | .block _ b => b
  | .loop b => b
  | .cond _ a _ => a
  | c => c
noncomputable def cB (c : Code) : Code := match c with
  | .seq _ b => b
  | .cond _ _ b => b
  | c => c
noncomputable def isSeq (c : Code) : Bool := match c with
  | .seq _ _ => true
  | _ => false
theorem Code.seq_eq {c : Code} (h : isSeq c = true) : c = .seq (cA c) (cB c) := by
  cases c <;> first | rfl | cases h
noncomputable def bodyOf (f : Func) : Code := f.body.getD .skip
end Go.Proofs.YtdapdiaklpcmjaaGreat.Pe
namespace Go.Proofs.YtdapdiaklpcmjaaGreat.Pe
open Go
set_option maxRecDepth 100000
noncomputable def fB : Code := bodyOf Tryz.f9
noncomputable def f0 : Code := cA fB
noncomputable def f1 : Code := cA (cB fB)
noncomputable def f2 : Code := cA (cA (cB (cB fB)))
noncomputable def f3 : Code := cB (cA (cB (cB fB)))
noncomputable def f4 : Code := cB (cB (cB fB))
noncomputable def fL : Code := cA (cA f3)
theorem fB_eq : fB = .seq f0 (.seq f1 (.seq (.seq f2 f3) f4)) := by kernel_rfl
theorem f3_eq : f3 = .block 1 (.loop fL) := by kernel_rfl
noncomputable def HF (e1 e5 : Option Nat) (t : Tr Nat) : Hp := .tr (.node (some ⟨e5, 0, [[.wds t 4800]]⟩) (.node (some ⟨e1, 1, [[.ref 0 1 0 4800]]⟩) .leaf .leaf) (.node (some ⟨none, 1, [[.ptr 1 1 0 0]]⟩) .leaf .leaf))
noncomputable def lA (n : Nat) : List (Nat × AV) := [(1, .v (.one (.int .u64 (.ofNat n)))), (2, .v (.one (.ptr 2 1 0 0))), (4, .v (.one (.int .i64 0)))]
noncomputable def lC (n off : Nat) : List (Nat × AV) := [(1, .v (.one (.int .u64 (.ofNat n)))), (2, .v (.one (.ptr 2 1 0 0))), (4, .v (.one (.int .i64 0))), (5, .v (.one (.int .u64 (.ofNat off))))]
noncomputable def fmtS (t : Tr Nat) (n a b c : Nat) : Tr Nat := (((((((t.set (some 7161130718081542961) 30 0).set (some 1) 30 1).set (some n) 30 2).set (some 3776) 30 4).set (some c) 30 5).set (some a) 30 472).set (some a) 30 b)
section
variable (e1 e5 : Option Nat) (n : Nat) (t : Tr Nat) (off : Nat)
theorem fr0 : outC ((lA n).map fun p => p.1) ((evt S2 40).code 49 none f0 ⟨startS [.one (.ptr 1 1 0 0), .one (.int .u64 (.ofNat n))] 0 .leaf, segW e1 e5 t 4800, 2⟩ ⟨0, [], [], [], []⟩) = some (.normal, (lA n).map (fun p => some p.2), HF e1 e5 t, 3, true, []) := by kernel_rfl
theorem fr1 : outC ((lA n).map fun p => p.1) ((evt S2 40).code 49 none f1 (mkS (lA n) (HF e1 e5 t) 3) ⟨0, [(1, true), (2, true), (3, true)], [], [], []⟩) = some (.normal, (lA n).map (fun p => some p.2), HF e1 e5 t, 3, br (Nat.ble n 4800) (br (Nat.ble 3824 n) (br (Nat.beq (Nat.mod n 16) 0) true false) false) false, []) := by kernel_rfl
theorem fr2 : outC ((lC n 0).map fun p => p.1) ((evt S2 40).code 49 none f2 (mkS (lA n) (HF e1 e5 t) 3) ⟨0, [], [], [], []⟩) = some (.normal, (lC n 0).map (fun p => some p.2), HF e1 e5 t, 3, true, []) := by kernel_rfl
theorem frL : outC ((lC n off).map fun p => p.1) ((evt S2 40).code 49 none fL (mkS (lC n off) (HF e1 e5 t) 3) ⟨0, [(0, true)], [], [], []⟩) = some (.normal, (lC n (Nat.add off 8)).map (fun p => some p.2), HF e1 e5 (t.set (some 0) 30 (Nat.div off 8)), 3, br (Nat.blt (Nat.add off 8) 18446744073709551616) (br (inW off 4800) (br (Nat.blt off 4800) true false) false) false, []) := by kernel_rfl
theorem frX : outC ((lC n off).map fun p => p.1) ((evt S2 40).code 49 none fL (mkS (lC n off) (HF e1 e5 t) 3) ⟨0, [(0, false)], [], [], []⟩) = some (.exit 1, (lC n off).map (fun p => some p.2), HF e1 e5 t, 3, br (not (Nat.blt off 4800)) true false, []) := by kernel_rfl
theorem fr4 : outC [4] ((evt S2 60).code 49 none f4 (mkS (lC n 4800) (HF e1 e5 t) 3) ⟨0, [], [], [], []⟩) = some (.ret, [some (.v (.one (.int .i64 0)))], HF e1 e5 (fmtS t n (Nat.sub n 3776) (Nat.div (Nat.sub n 8) 8) (sumN n)), 3, br (inW (Nat.sub n 8) 4800) (br (Nat.ble 3776 n) (br (Nat.blt n 18446744073709551616) (br (Nat.ble 8 n) (br (Nat.blt n 18446744073709551616) (br (Nat.ble 3776 n) (br (Nat.blt n 18446744073709551616) (br (Nat.blt n 18446744073709551616) true false) false) false) false) false) false) false) false, []) := by kernel_rfl
end
noncomputable def zs : Nat → Tr Nat → Tr Nat
  | 0, t => t
  | k + 1, t => (zs k t).set (some 0) 30 k
theorem zs_get : ∀ (m : Nat) (t : Tr Nat) (k : Nat), m ≤ 1000000 → ((zs m t).get k).getD 0 = if k < m then 0 else (t.get k).getD 0
  | 0, t, k, _ => by rw [if_neg (by omega)]; rfl
  | m + 1, t, k, h => by
    unfold zs
    rw [Tr.get_set _ _ _ _ (by omega)]
    by_cases e : k = m
    · rw [if_pos e, if_pos (by omega)]; rfl
    · rw [if_neg e, zs_get m t k (by omega)]
      by_cases h2 : k < m
      · rw [if_pos h2, if_pos (by omega)]
      · rw [if_neg h2, if_neg (by omega)]
theorem inW_8 {k n : Nat} (h : 8 * k < n) : inW (8 * k) n = true := by
  unfold inW
  have a1 : Nat.mod (8 * k) 8 = 0 := by show (8 * k) % 8 = 0; omega
  have a2 : Nat.blt (8 * k) n = true := Nat.ble_eq_true_of_le (by omega)
  rw [a1, a2]; rfl
theorem f_loop (e1 e5 : Option Nat) (n : Nat) (t : Tr Nat) : ∀ (m k : Nat), k + m = 600 → LoopR Tryz.prog 49 none fL m (mkS (lC n (8 * k)) (HF e1 e5 (zs k t)) 3) (.exit 1) (mkS (lC n 4800) (HF e1 e5 (zs 600 t)) 3)
  | 0, k, h => by
    have hk : k = 600 := by omega
    subst hk
    exact .last _ _ _ (outC_code (l := lC n 4800) S2_ok S2_pb (frX e1 e5 n (zs 600 t) 4800) rfl rfl) (by simp)
  | m + 1, k, h => by
    refine .step _ _ (mkS (lC n (8 * (k + 1))) (HF e1 e5 (zs (k + 1) t)) 3) _ _ ?_ (f_loop e1 e5 n t m (k + 1) (by omega))
    have key := outC_code (l := lC n (Nat.add (8 * k) 8)) S2_ok S2_pb (frL e1 e5 n (zs k t) (8 * k)) (by
      have a2 : Nat.blt (8 * k) 4800 = true := Nat.ble_eq_true_of_le (by omega)
      have a3 : Nat.blt (Nat.add (8 * k) 8) 18446744073709551616 = true := Nat.ble_eq_true_of_le (show 8 * k + 8 + 1 ≤ 18446744073709551616 by omega)
      rw [inW_8 (by omega), a2, a3]; rfl) rfl
    have e : Nat.add (8 * k) 8 = 8 * (k + 1) := by show 8 * k + 8 = _; omega
    have e2 : Nat.div (8 * k) 8 = k := by show 8 * k / 8 = k; omega
    rw [e, e2] at key
    exact key
theorem br2 {a b : Bool} (h : br a b false = true) : a = true ∧ b = true := by cases a <;> cases b <;> first | exact ⟨rfl, rfl⟩ | cases h
theorem fits_some {n : Nat} (h : fitsB n = true) : n % 16 = 0 ∧ 3824 ≤ n ∧ n ≤ 4800 := by
  obtain ⟨c1, h⟩ := br2 h
  obtain ⟨c2, c3⟩ := br2 h
  exact ⟨Nat.eq_of_beq_eq_true c1, Nat.le_of_ble_eq_true c2, Nat.le_of_ble_eq_true c3⟩
theorem f_yes (e1 e5 : Option Nat) (n : Nat) (t : Tr Nat) (hfit : fitsB n = true) : RunAt Tryz.prog formatN [.one (.ptr 1 1 0 0), .one (.int .u64 (.ofNat n))] (segW e1 e5 t 4800) 2 (.a (.one (.int .i64 0))) (HF e1 e5 (fmtS (zs 600 t) n (n - 3776) ((n - 8) / 8) (sumN n))) 3 := by
  obtain ⟨d1, d2, d3⟩ := fits_some hfit
  obtain ⟨c1, h⟩ := br2 hfit
  obtain ⟨c2, c3⟩ := br2 h
  have c4 : Nat.blt n 18446744073709551616 = true := Nat.ble_eq_true_of_le (by omega)
  have c5 : inW (Nat.sub n 8) 4800 = true := by
    rw [show Nat.sub n 8 = 8 * ((n - 8) / 8) by show n - 8 = _; omega]
    exact inW_8 (by omega)
  have c6 : Nat.ble 3776 n = true := Nat.ble_eq_true_of_le (by omega)
  have c7 : Nat.ble 8 n = true := Nat.ble_eq_true_of_le (by omega)
  have k0 := outC_code (l := lA n) S2_ok S2_pb (fr0 e1 e5 n t) rfl rfl
  have k1 := outC_code (l := lA n) S2_ok S2_pb (fr1 e1 e5 n t) (by rw [c1, c2, c3]; rfl) rfl
  have k2 := outC_code (l := lC n 0) S2_ok S2_pb (fr2 e1 e5 n t) rfl rfl
  have k3 : CodeR Tryz.prog 49 none f3 (mkS (lC n 0) (HF e1 e5 t) 3) .normal (mkS (lC n 4800) (HF e1 e5 (zs 600 t)) 3) := by
    rw [f3_eq]
    exact (f_loop e1 e5 n t 600 0 rfl).code.block (id := 1)
  have k4 := outC_code (l := [(4, .v (.one (.int .i64 0)))]) S2_ok S2_pb (fr4 e1 e5 n (zs 600 t)) (by rw [c4, c5, c6, c7]; rfl) rfl
  have hB := k0.seq (k1.seq ((k2.seq k3).seq k4))
  rw [← fB_eq] at hB
  exact fn_run (S := S1) S1_ok (f := formatN) (fd := fdOf Tryz.f9) (ads := [.one (.ptr 1 1 0 0), .one (.int .u64 (.ofNat n))]) (H := segW e1 e5 t 4800) (nx := 2) (by kernel_rfl) ⟨Nat.le_of_ble_eq_true (by kernel_rfl), Nat.le_of_ble_eq_true (by kernel_rfl)⟩ hB (.inr rfl) (by kernel_rfl)
end Go.Proofs.YtdapdiaklpcmjaaGreat.Pe
namespace Go.Proofs.YtdapdiaklpcmjaaGreat.Pe
open Go
set_option maxRecDepth 100000
theorem fmt_no1 (e1 e5 : Option Nat) (n : Nat) (t : Tr Nat) : outT ((evt S2 3000).fn formatN [.one (.ptr 1 1 0 0), .one (.int .u64 (.ofNat n))] (segW e1 e5 t 4800) 2 ⟨0, [(1, false)], [], [], []⟩) =
    some (.a (.one (.int .i64 2)), some ⟨e5, 0, [[.wds t 4800]]⟩, some ⟨e1, 1, [[.ref 0 1 0 4800]]⟩, 3, br (not (Nat.beq (Nat.mod n 16) 0)) true false, []) := by kernel_rfl
theorem fmt_no2 (e1 e5 : Option Nat) (n : Nat) (t : Tr Nat) : outT ((evt S2 3000).fn formatN [.one (.ptr 1 1 0 0), .one (.int .u64 (.ofNat n))] (segW e1 e5 t 4800) 2 ⟨0, [(1, true), (2, false)], [], [], []⟩) =
    some (.a (.one (.int .i64 2)), some ⟨e5, 0, [[.wds t 4800]]⟩, some ⟨e1, 1, [[.ref 0 1 0 4800]]⟩, 3, br (not (Nat.ble 3824 n)) (br (Nat.beq (Nat.mod n 16) 0) true false) false, []) := by kernel_rfl
theorem fmt_no3 (e1 e5 : Option Nat) (n : Nat) (t : Tr Nat) : outT ((evt S2 3000).fn formatN [.one (.ptr 1 1 0 0), .one (.int .u64 (.ofNat n))] (segW e1 e5 t 4800) 2 ⟨0, [(1, true), (2, true), (3, false)], [], [], []⟩) =
    some (.a (.one (.int .i64 2)), some ⟨e5, 0, [[.wds t 4800]]⟩, some ⟨e1, 1, [[.ref 0 1 0 4800]]⟩, 3, br (not (Nat.ble n 4800)) (br (Nat.ble 3824 n) (br (Nat.beq (Nat.mod n 16) 0) true false) false) false, []) := by kernel_rfl
noncomputable def formatX (ads : List AD) (H : Hp) (nx : Nat) : Option (RV × Hp × Nat) := match ads with
  | [.one (.ptr sg 1 0 0), .one (.int .u64 (.ofNat n))] => match segX H sg with
    | some q => br (Nat.beq q.2.1 4800) (br (Nat.blt sg nx) (br (Nat.blt q.1 nx) (br (fitsB n) (some (.a (.one (.int .i64 0)), updO H q.1 (some ⟨q.2.2.2, 0, [[.wds (fmtT n) 4800]]⟩), nx)) (some (.a (.one (.int .i64 2)), updO H q.1 (some ⟨q.2.2.2, 0, [[.wds q.2.2.1 4800]]⟩), nx))) none) none) none
    | none => none
  | _ => none
theorem format_ok : FnEff Tryz.prog formatN formatX := by
  rw [FnEff.iff]
  intro ads H nx r H' nx' hq
  unfold formatX at hq
  split at hq
  · rename_i sg n
    split at hq
    · rename_i q hs
      obtain ⟨o, m, t, e5⟩ := q
      obtain ⟨h1, hq⟩ := br_some hq
      have h1 : m = 4800 := Nat.eq_of_beq_eq_true h1
      subst h1
      · obtain ⟨h2, hq⟩ := br_some hq
        obtain ⟨h3, hq⟩ := br_some hq
        have h2 := blt_lt h2
        have h3 := blt_lt h3
        obtain ⟨⟨e1, hsg⟩, ho⟩ := segX_some hs
        have fin : ∀ {r0 : RV} {t' t'' : Tr Nat}, (∃ K, RunAt Tryz.prog formatN [.one (.ptr 1 1 0 0), .one (.int .u64 (.ofNat n))] (segW e1 e5 t 4800) 2 r0 K 3 ∧ K 0 = some ⟨e5, 0, [[.wds t' 4800]]⟩ ∧ K 1 = some ⟨e1, 1, [[.ref 0 1 0 4800]]⟩) → SameW 4800 t' t'' → r0.bare = true →
            RunAt Tryz.prog formatN [.one (.ptr sg 1 0 0), .one (.int .u64 (.ofNat n))] H nx r0 (updO H o (some ⟨e5, 0, [[.wds t'' 4800]]⟩)) nx := fun {r0 t' t''} hK hw hr => by
          obtain ⟨K, hrun, hK0, hK1⟩ := hK
          exact seg_run hrun (by omega) (SameW.refl _ _) hw hK0 hK1 (fun a ha => by rcases List.mem_singleton.1 ha with rfl; rfl) hr hsg ho h2 h3
        have hf : (S2.tab formatN).isSome = true := by kernel_rfl
        cases hfit : fitsB n with
        | true =>
          rw [hfit] at hq
          have hq := Option.some.inj hq
          obtain ⟨q1, q2⟩ := Prod.mk.inj hq
          obtain ⟨q2, q3⟩ := Prod.mk.inj q2
          subst q1; subst q2; subst q3
          have e8 : (n - 8) / 8 < 1000000000 := by have := (fits_some hfit).2.2; omega
          refine fin ⟨_, f_yes e1 e5 n t hfit, rfl, rfl⟩ ?_ rfl
          unfold fmtS fmtT
          refine SameW.set (SameW.set (SameW.set (SameW.set (SameW.set (SameW.set (SameW.set (fun k hk => ?_) ?_) ?_) ?_) ?_) ?_) ?_) e8
          · rw [zs_get 600 t k (by omega), if_pos (by omega)]; rfl
          all_goals omega
        | false =>
          rw [hfit] at hq
          have hq := Option.some.inj hq
          obtain ⟨q1, q2⟩ := Prod.mk.inj hq
          obtain ⟨q2, q3⟩ := Prod.mk.inj q2
          subst q1; subst q2; subst q3
          unfold fitsB at hfit
          cases c1 : Nat.beq (Nat.mod n 16) 0 with
          | false => exact fin (outT_run S2_ok S2_pb hf (fmt_no1 e1 e5 n t) (by rw [c1]; rfl)) (SameW.refl _ _) rfl
          | true =>
            rw [c1] at hfit
            cases c2 : Nat.ble 3824 n with
            | false => exact fin (outT_run S2_ok S2_pb hf (fmt_no2 e1 e5 n t) (by rw [c1, c2]; rfl)) (SameW.refl _ _) rfl
            | true =>
              rw [c2] at hfit
              have c3 : Nat.ble n 4800 = false := hfit
              exact fin (outT_run S2_ok S2_pb hf (fmt_no3 e1 e5 n t) (by rw [c1, c2, c3]; rfl)) (SameW.refl _ _) rfl
    · cases hq
  · cases hq
noncomputable def formatP (ads : List AD) (H : Hp) (nx : Nat) (T : TL) : Option ((RV × Hp × Nat) × TL) := match ads with
  | [.one (.ptr sg 1 0 0), .one (.int .u64 (.ofNat n))] => match segX H sg with
    | some q => br (Nat.beq q.2.1 4800) (br (Nat.blt sg nx) (br (Nat.blt q.1 nx)
        (br (decT (fitsB n) T).1 (some ((.a (.one (.int .i64 0)), updO H q.1 (some ⟨q.2.2.2, 0, [[.wds (fmtT n) 4800]]⟩), nx), (decT (fitsB n) T).2)) (some ((.a (.one (.int .i64 2)), updO H q.1 (some ⟨q.2.2.2, 0, [[.wds q.2.2.1 4800]]⟩), nx), (decT (fitsB n) T).2))) none) none) none
    | none => none
  | _ => none
theorem formatP_ok : PfOk formatP formatX := by
  intro ads H nx T q T' h
  unfold formatP at h
  split at h
  · rename_i sg n
    split at h
    · rename_i z hs
      obtain ⟨h1, h⟩ := br_some h
      obtain ⟨h3, h⟩ := br_some h
      obtain ⟨h4, h⟩ := br_some h
      have key : ∀ (x : Bool) (T1 : TL), decT (fitsB n) T = (x, T1) → T1.Ok → fitsB n = x := fun x T1 hd hT => (decT_ok hd hT).symm
      cases hd : decT (fitsB n) T with
      | mk x T1 =>
        rw [hd] at h
        cases x with
        | true =>
          have h := Option.some.inj h
          obtain ⟨q1, q2⟩ := Prod.mk.inj h
          subst q1; subst q2
          refine ⟨decT_le hd, fun hT => ?_⟩
          show (match segX H sg with | some q => _ | none => none) = _
          rw [hs]
          simp only [h1, h3, h4, key _ _ hd hT, br]
        | false =>
          have h := Option.some.inj h
          obtain ⟨q1, q2⟩ := Prod.mk.inj h
          subst q1; subst q2
          refine ⟨decT_le hd, fun hT => ?_⟩
          show (match segX H sg with | some q => _ | none => none) = _
          rw [hs]
          simp only [h1, h3, h4, key _ _ hd hT, br]
    · cases h
  · cases h
end Go.Proofs.YtdapdiaklpcmjaaGreat.Pe
