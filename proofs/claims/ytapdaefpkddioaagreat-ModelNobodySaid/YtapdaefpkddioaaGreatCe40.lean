/- A part of the proof of PmD. -/
import Derived.Test.YtapdaefpkddioaaGreatCb15
import Derived.Test.YtapdaefpkddioaaGreatCb39
import Derived.Test.YtapdaefpkddioaaGreatCe39
set_option linter.unusedSimpArgs false
set_option linter.unusedVariables false
set_option linter.unusedSectionVars false
namespace Go.Proofs.YtapdaefpkddioaaGreat.Pe
open Go
set_option maxHeartbeats 4000000
theorem eqsOk4 : ∀ t, (fun t => t == 4 || (t == 25 || t == 46) : Nat → Bool) t = true → EqOk Tryz.prog t (tt t).eqn := by
 intro t ht
 simp only [Bool.or_eq_true, beq_iff_eq] at ht
 rcases ht with rfl | rfl | rfl
 ·exact eq4
 ·exact eq30
 ·exact eq47
theorem eqsOk : ∀ t, (fun t => t == 25 || t == 46 : Nat → Bool) t = true → EqOk Tryz.prog t (tt t).eqn := by
 intro t ht
 simp only [Bool.or_eq_true, beq_iff_eq] at ht
 rcases ht with rfl | rfl
 ·exact eq30
 ·exact eq47
noncomputable def Cx9 : (Nat → Prop) → Ctx := fun X => { nt := 54, tt := tt, fns := ofList [(28, .pure failF), (29, .eff allocT), (30, .eff alignedT), (31, .eff callocT), (32, .eff reallocT), (33, .eff freedT), (34, .eff writeT), (35, .eff readT), (36, .eff constructT), (37, .eff findT), (38, .eff destroyT), (39, .eff publishT), (40, .eff giveT), (41, .eff growT), (42, .eff detachT), (43, .eff attachT)], keep := keep11, X := X, eqs := fun t => t == 25 || t == 46 }
noncomputable def doMF : List AD → Hp → Nat → Option (RV × Hp × Nat) := semT Tryz.f11 Cx9 Tryz.f11.results
theorem doM_ok : FnEff Tryz.prog 11 doMF := semT_ok mixed Tryz.func11 rfl (fun X => ok_of (l := [(28, .pure failF), (29, .eff allocT), (30, .eff alignedT), (31, .eff callocT), (32, .eff reallocT), (33, .eff freedT), (34, .eff writeT), (35, .eff readT), (36, .eff constructT), (37, .eff findT), (38, .eff destroyT), (39, .eff publishT), (40, .eff giveT), (41, .eff growT), (42, .eff detachT), (43, .eff attachT)]) tt_ok ⟨fail_ok, by kernel_rfl, allocT_ok, by kernel_rfl, alignedT_ok, by kernel_rfl, callocT_ok, by kernel_rfl, reallocT_ok, by kernel_rfl, freedT_ok, by kernel_rfl, writeT_ok, by kernel_rfl, readT_ok, by kernel_rfl, constructT_ok, by kernel_rfl, findT_ok, by kernel_rfl, destroyT_ok, by kernel_rfl, publishT_ok, by kernel_rfl, giveT_ok, by kernel_rfl, growT_ok, by kernel_rfl, detachT_ok, by kernel_rfl, attachT_ok, by kernel_rfl, trivial⟩ eqsOk) (fun _ => rfl) (fun _ => rfl) (by decide) rfl
section
variable {K : Nat} {s : St} {S B M : Nat} {ml : List Mb} {H : Hp} {nx : Nat} {c : Int} {op : Opn}
theorem find_op (h : Ms K s S B M ml H nx) (hk : op.kind = 9) (hnm : op.name.size < 100000000) : OpRes findT K s S M H nx c op (nameV s op) := by
 obtain ⟨hf, hms⟩ := find_run (c := c) h hnm
 have hnd := h.named op.name
 have hnv : nameV s op = (s, (findR s op).1, (findR s op).2, 0) := by
  unfold nameV findR
  cases hpk : packV op.name with
  | false => simp
  | true =>
   cases hfi : s.names.findIdx? (isNm op.name) with
   | none => rw [hfi] at hnd; simp only [↓reduceIte, hnd, hk]; simp
   | some i =>
    rw [hfi] at hnd
    simp only at hnd
    simp only [↓reduceIte, hnd, hk, Int.toNat_natCast]
    simp
 rw [hnv]
 exact ⟨B, ml, _, nx + 1, hf, hms.more⟩
theorem do_1 (hK : K < 48000) (h : Ms K s S B M ml H nx) (c0 : 0 ≤ c) (c1 : c ≤ 7) (ho : op.ok) (hnm : op.name.size < 100000000) (hk : op.kind = 1) (hl : s.live[c.toNat]?.getD false = true) :
  OpRes doMF K s S M H nx c op (doV s c op) := by
 have h8 := h.wk.lv8
 have hlo := rowsO_len s.live
 have hS := h.hs.top
 obtain ⟨k, rfl⟩ : ∃ k : Nat, c = k := ⟨c.toNat, by omega⟩
 have hkl : k < s.live.length := by omega
 have hres := alloc_run (by omega) h c0 c1 ho
 have hdv : doV s (k : Int) op = ((takeSV s ((k : Int) + 1) op.n 16).1, (takeSV s ((k : Int) + 1) op.n 16).2.1, (takeSV s ((k : Int) + 1) op.n 16).2.2, 0) := by
  unfold doV
  rw [if_neg (by omega)]
  simp [hk, show s.live[k]?.getD false = true by simpa using hl]
 rw [hdv]
 obtain ⟨B', ml', H', nx', he, hm⟩ := hres
 refine ⟨B', ml', H', nx', ?_, hm⟩
 have hl2 : s.live[k] = true := by
  rw [Int.toNat_natCast, List.getElem?_eq_getElem hkl, Option.getD_some] at hl; exact hl
 unfold doMF
 rw [Tryz.results11]
 refine semT_eq rfl (by simp [Tryz.ntmps11]) fun X R hR => ?_
 unfold Cx9 at hR ⊢
 simp only [Opn.c, hk, resC] at he
 simp only [resC] at hR
 (repeat ((try simp only [cZ]); with_reducible refine cg fun K hK => ?_; simp only [go_sem, Opn.c, hk, Nat.reduceBEq]; (repeat refine ck ?_); (try simp (disch := omega) only [wZ]); refine hK _ ?_; clear hK K))
 (((try simp only [cZ]); refine cl_block fun K hK1 R hR1 X hX1 => ?_))
 (repeat ((try simp only [cZ]); with_reducible refine cg fun K hK => ?_; simp only [go_sem, Nat.reduceBEq, Bool.or_false, Bool.or_true, gt_iff_lt, ge_iff_le, show decide ((k : Int) < 0) = false by simp, show decide (8 ≤ (k : Int)) = false by simp; omega]; (repeat refine ck ?_); (try simp (disch := omega) only [wZ]); refine hK _ ?_; clear hK K))
 (((try simp only [cZ]); refine cl_cond (b := false) rfl (fun h => nomatch h) (fun _ => ?_)))
 (repeat ((try simp only [cZ]); with_reducible refine cg fun K hK => ?_; simp only [go_sem, Nat.reduceBEq, hS, hlo, h8, topR_rd _ _ _ _ _ _ hkl, hl2, Bool.not_true, Bool.or_false]; (repeat refine ck ?_); (try simp (disch := omega) only [wZ]); refine hK _ ?_; clear hK K))
 (((try simp only [cZ]); refine cl_cond (b := false) rfl (fun h => nomatch h) (fun _ => ?_)))
 ((try simp only [cZ, cl_exit, cl_nil]))
 refine hK1 _ ?_
 (repeat ((try simp only [cZ]); with_reducible refine cg fun K hK => ?_; simp only [go_sem, Nat.reduceBEq, Bool.or_false, show IntKind.i64.wrap 0 = 0 from wrapi64 (by omega) (by omega), he]; (repeat refine ck ?_); (try simp (disch := omega) only [wZ]); refine hK _ ?_; clear hK K))
 (((try simp only [cZ]); (try simp only [cl_ret]); refine hR _ _ (.inr rfl) ?_; (simp only [go_sem])))
theorem do_2 (hK : K < 48000) (h : Ms K s S B M ml H nx) (c0 : 0 ≤ c) (c1 : c ≤ 7) (ho : op.ok) (hnm : op.name.size < 100000000) (hk : op.kind = 2) (hl : s.live[c.toNat]?.getD false = true) :
  OpRes doMF K s S M H nx c op (doV s c op) := by
 have h8 := h.wk.lv8
 have hlo := rowsO_len s.live
 have hS := h.hs.top
 obtain ⟨k, rfl⟩ : ∃ k : Nat, c = k := ⟨c.toNat, by omega⟩
 have hkl : k < s.live.length := by omega
 have hres := aligned_run (by omega) h c0 c1 ho
 have hdv : doV s (k : Int) op = ((takeSV s ((k : Int) + 1) op.n op.a).1, (takeSV s ((k : Int) + 1) op.n op.a).2.1, (takeSV s ((k : Int) + 1) op.n op.a).2.2, 0) := by
  unfold doV
  rw [if_neg (by omega)]
  simp [hk, show s.live[k]?.getD false = true by simpa using hl]
 rw [hdv]
 obtain ⟨B', ml', H', nx', he, hm⟩ := hres
 refine ⟨B', ml', H', nx', ?_, hm⟩
 have hl2 : s.live[k] = true := by
  rw [Int.toNat_natCast, List.getElem?_eq_getElem hkl, Option.getD_some] at hl; exact hl
 unfold doMF
 rw [Tryz.results11]
 refine semT_eq rfl (by simp [Tryz.ntmps11]) fun X R hR => ?_
 unfold Cx9 at hR ⊢
 simp only [Opn.c, hk, resC] at he
 simp only [resC] at hR
 (repeat ((try simp only [cZ]); with_reducible refine cg fun K hK => ?_; simp only [go_sem, Opn.c, hk, Nat.reduceBEq]; (repeat refine ck ?_); (try simp (disch := omega) only [wZ]); refine hK _ ?_; clear hK K))
 (((try simp only [cZ]); refine cl_block fun K hK1 R hR1 X hX1 => ?_))
 (repeat ((try simp only [cZ]); with_reducible refine cg fun K hK => ?_; simp only [go_sem, Nat.reduceBEq, Bool.or_false, Bool.or_true, gt_iff_lt, ge_iff_le, show decide ((k : Int) < 0) = false by simp, show decide (8 ≤ (k : Int)) = false by simp; omega]; (repeat refine ck ?_); (try simp (disch := omega) only [wZ]); refine hK _ ?_; clear hK K))
 (((try simp only [cZ]); refine cl_cond (b := false) rfl (fun h => nomatch h) (fun _ => ?_)))
 (repeat ((try simp only [cZ]); with_reducible refine cg fun K hK => ?_; simp only [go_sem, Nat.reduceBEq, hS, hlo, h8, topR_rd _ _ _ _ _ _ hkl, hl2, Bool.not_true, Bool.or_false]; (repeat refine ck ?_); (try simp (disch := omega) only [wZ]); refine hK _ ?_; clear hK K))
 (((try simp only [cZ]); refine cl_cond (b := false) rfl (fun h => nomatch h) (fun _ => ?_)))
 ((try simp only [cZ, cl_exit, cl_nil]))
 refine hK1 _ ?_
 (repeat ((try simp only [cZ]); with_reducible refine cg fun K hK => ?_; simp only [go_sem, Nat.reduceBEq, Bool.or_false, show IntKind.i64.wrap 1 = 1 from wrapi64 (by omega) (by omega), he]; (repeat refine ck ?_); (try simp (disch := omega) only [wZ]); refine hK _ ?_; clear hK K))
 (((try simp only [cZ]); (try simp only [cl_ret]); refine hR _ _ (.inr rfl) ?_; (simp only [go_sem])))
theorem do_3 (hK : K < 48000) (h : Ms K s S B M ml H nx) (c0 : 0 ≤ c) (c1 : c ≤ 7) (ho : op.ok) (hnm : op.name.size < 100000000) (hk : op.kind = 3) (hl : s.live[c.toNat]?.getD false = true) :
  OpRes doMF K s S M H nx c op (doV s c op) := by
 have h8 := h.wk.lv8
 have hlo := rowsO_len s.live
 have hS := h.hs.top
 obtain ⟨k, rfl⟩ : ∃ k : Nat, c = k := ⟨c.toNat, by omega⟩
 have hkl : k < s.live.length := by omega
 obtain ⟨V, hV, hres⟩ : ∃ V, doV s (k : Int) op = V ∧ OpRes callocT K s S M H nx (k : Int) op V := by
  refine ⟨_, ?_, calloc_run (by omega) h c0 c1 ho⟩
  unfold doV
  rw [if_neg (by omega)]
  cases hmm : mulV op.n op.a <;> simp [hk, show s.live[k]?.getD false = true by simpa using hl, hmm]
 rw [hV]
 obtain ⟨B', ml', H', nx', he, hm⟩ := hres
 refine ⟨B', ml', H', nx', ?_, hm⟩
 have hl2 : s.live[k] = true := by
  rw [Int.toNat_natCast, List.getElem?_eq_getElem hkl, Option.getD_some] at hl; exact hl
 unfold doMF
 rw [Tryz.results11]
 refine semT_eq rfl (by simp [Tryz.ntmps11]) fun X R hR => ?_
 unfold Cx9 at hR ⊢
 simp only [Opn.c, hk, resC] at he
 simp only [resC] at hR
 (repeat ((try simp only [cZ]); with_reducible refine cg fun K hK => ?_; simp only [go_sem, Opn.c, hk, Nat.reduceBEq]; (repeat refine ck ?_); (try simp (disch := omega) only [wZ]); refine hK _ ?_; clear hK K))
 (((try simp only [cZ]); refine cl_block fun K hK1 R hR1 X hX1 => ?_))
 (repeat ((try simp only [cZ]); with_reducible refine cg fun K hK => ?_; simp only [go_sem, Nat.reduceBEq, Bool.or_false, Bool.or_true, gt_iff_lt, ge_iff_le, show decide ((k : Int) < 0) = false by simp, show decide (8 ≤ (k : Int)) = false by simp; omega]; (repeat refine ck ?_); (try simp (disch := omega) only [wZ]); refine hK _ ?_; clear hK K))
 (((try simp only [cZ]); refine cl_cond (b := false) rfl (fun h => nomatch h) (fun _ => ?_)))
 (repeat ((try simp only [cZ]); with_reducible refine cg fun K hK => ?_; simp only [go_sem, Nat.reduceBEq, hS, hlo, h8, topR_rd _ _ _ _ _ _ hkl, hl2, Bool.not_true, Bool.or_false]; (repeat refine ck ?_); (try simp (disch := omega) only [wZ]); refine hK _ ?_; clear hK K))
 (((try simp only [cZ]); refine cl_cond (b := false) rfl (fun h => nomatch h) (fun _ => ?_)))
 ((try simp only [cZ, cl_exit, cl_nil]))
 refine hK1 _ ?_
 (repeat ((try simp only [cZ]); with_reducible refine cg fun K hK => ?_; simp only [go_sem, Nat.reduceBEq, Bool.or_false, show IntKind.i64.wrap 2 = 2 from wrapi64 (by omega) (by omega), he]; (repeat refine ck ?_); (try simp (disch := omega) only [wZ]); refine hK _ ?_; clear hK K))
 (((try simp only [cZ]); (try simp only [cl_ret]); refine hR _ _ (.inr rfl) ?_; (simp only [go_sem])))
theorem do_4 (hK : K < 48000) (h : Ms K s S B M ml H nx) (c0 : 0 ≤ c) (c1 : c ≤ 7) (ho : op.ok) (hnm : op.name.size < 100000000) (hk : op.kind = 4) (hl : s.live[c.toNat]?.getD false = true) :
  OpRes doMF K s S M H nx c op (doV s c op) := by
 have h8 := h.wk.lv8
 have hlo := rowsO_len s.live
 have hS := h.hs.top
 obtain ⟨k, rfl⟩ : ∃ k : Nat, c = k := ⟨c.toNat, by omega⟩
 have hkl : k < s.live.length := by omega
 have hres := realloc_run hK h c0 c1 ho hk
 have hdv : doV s (k : Int) op = blockV s (k : Int) op := by
  unfold doV
  rw [if_neg (by omega)]
  simp [hk, show s.live[k]?.getD false = true by simpa using hl]
 rw [hdv]
 obtain ⟨B', ml', H', nx', he, hm⟩ := hres
 refine ⟨B', ml', H', nx', ?_, hm⟩
 have hl2 : s.live[k] = true := by
  rw [Int.toNat_natCast, List.getElem?_eq_getElem hkl, Option.getD_some] at hl; exact hl
 unfold doMF
 rw [Tryz.results11]
 refine semT_eq rfl (by simp [Tryz.ntmps11]) fun X R hR => ?_
 unfold Cx9 at hR ⊢
 simp only [Opn.c, hk, resC] at he
 simp only [resC] at hR
 (repeat ((try simp only [cZ]); with_reducible refine cg fun K hK => ?_; simp only [go_sem, Opn.c, hk, Nat.reduceBEq]; (repeat refine ck ?_); (try simp (disch := omega) only [wZ]); refine hK _ ?_; clear hK K))
 (((try simp only [cZ]); refine cl_block fun K hK1 R hR1 X hX1 => ?_))
 (repeat ((try simp only [cZ]); with_reducible refine cg fun K hK => ?_; simp only [go_sem, Nat.reduceBEq, Bool.or_false, Bool.or_true, gt_iff_lt, ge_iff_le, show decide ((k : Int) < 0) = false by simp, show decide (8 ≤ (k : Int)) = false by simp; omega]; (repeat refine ck ?_); (try simp (disch := omega) only [wZ]); refine hK _ ?_; clear hK K))
 (((try simp only [cZ]); refine cl_cond (b := false) rfl (fun h => nomatch h) (fun _ => ?_)))
 (repeat ((try simp only [cZ]); with_reducible refine cg fun K hK => ?_; simp only [go_sem, Nat.reduceBEq, hS, hlo, h8, topR_rd _ _ _ _ _ _ hkl, hl2, Bool.not_true, Bool.or_false]; (repeat refine ck ?_); (try simp (disch := omega) only [wZ]); refine hK _ ?_; clear hK K))
 (((try simp only [cZ]); refine cl_cond (b := false) rfl (fun h => nomatch h) (fun _ => ?_)))
 ((try simp only [cZ, cl_exit, cl_nil]))
 refine hK1 _ ?_
 (repeat ((try simp only [cZ]); with_reducible refine cg fun K hK => ?_; simp only [go_sem, Nat.reduceBEq, Bool.or_false, show IntKind.i64.wrap 3 = 3 from wrapi64 (by omega) (by omega), he]; (repeat refine ck ?_); (try simp (disch := omega) only [wZ]); refine hK _ ?_; clear hK K))
 (((try simp only [cZ]); (try simp only [cl_ret]); refine hR _ _ (.inr rfl) ?_; (simp only [go_sem])))
theorem do_5 (hK : K < 48000) (h : Ms K s S B M ml H nx) (c0 : 0 ≤ c) (c1 : c ≤ 7) (ho : op.ok) (hnm : op.name.size < 100000000) (hk : op.kind = 5) (hl : s.live[c.toNat]?.getD false = true) :
  OpRes doMF K s S M H nx c op (doV s c op) := by
 have h8 := h.wk.lv8
 have hlo := rowsO_len s.live
 have hS := h.hs.top
 obtain ⟨k, rfl⟩ : ∃ k : Nat, c = k := ⟨c.toNat, by omega⟩
 have hkl : k < s.live.length := by omega
 have hres := freed_run h c0 c1 hk
 have hdv : doV s (k : Int) op = blockV s (k : Int) op := by
  unfold doV
  rw [if_neg (by omega)]
  simp [hk, show s.live[k]?.getD false = true by simpa using hl]
 rw [hdv]
 obtain ⟨B', ml', H', nx', he, hm⟩ := hres
 refine ⟨B', ml', H', nx', ?_, hm⟩
 have hl2 : s.live[k] = true := by
  rw [Int.toNat_natCast, List.getElem?_eq_getElem hkl, Option.getD_some] at hl; exact hl
 unfold doMF
 rw [Tryz.results11]
 refine semT_eq rfl (by simp [Tryz.ntmps11]) fun X R hR => ?_
 unfold Cx9 at hR ⊢
 simp only [Opn.c, hk, resC] at he
 simp only [resC] at hR
 (repeat ((try simp only [cZ]); with_reducible refine cg fun K hK => ?_; simp only [go_sem, Opn.c, hk, Nat.reduceBEq]; (repeat refine ck ?_); (try simp (disch := omega) only [wZ]); refine hK _ ?_; clear hK K))
 (((try simp only [cZ]); refine cl_block fun K hK1 R hR1 X hX1 => ?_))
 (repeat ((try simp only [cZ]); with_reducible refine cg fun K hK => ?_; simp only [go_sem, Nat.reduceBEq, Bool.or_false, Bool.or_true, gt_iff_lt, ge_iff_le, show decide ((k : Int) < 0) = false by simp, show decide (8 ≤ (k : Int)) = false by simp; omega]; (repeat refine ck ?_); (try simp (disch := omega) only [wZ]); refine hK _ ?_; clear hK K))
 (((try simp only [cZ]); refine cl_cond (b := false) rfl (fun h => nomatch h) (fun _ => ?_)))
 (repeat ((try simp only [cZ]); with_reducible refine cg fun K hK => ?_; simp only [go_sem, Nat.reduceBEq, hS, hlo, h8, topR_rd _ _ _ _ _ _ hkl, hl2, Bool.not_true, Bool.or_false]; (repeat refine ck ?_); (try simp (disch := omega) only [wZ]); refine hK _ ?_; clear hK K))
 (((try simp only [cZ]); refine cl_cond (b := false) rfl (fun h => nomatch h) (fun _ => ?_)))
 ((try simp only [cZ, cl_exit, cl_nil]))
 refine hK1 _ ?_
 (repeat ((try simp only [cZ]); with_reducible refine cg fun K hK => ?_; simp only [go_sem, Nat.reduceBEq, Bool.or_false, show IntKind.i64.wrap 4 = 4 from wrapi64 (by omega) (by omega), he]; (repeat refine ck ?_); (try simp (disch := omega) only [wZ]); refine hK _ ?_; clear hK K))
 (((try simp only [cZ]); (try simp only [cl_ret]); refine hR _ _ (.inr rfl) ?_; (simp only [go_sem])))
theorem do_6 (hK : K < 48000) (h : Ms K s S B M ml H nx) (c0 : 0 ≤ c) (c1 : c ≤ 7) (ho : op.ok) (hnm : op.name.size < 100000000) (hk : op.kind = 6) (hl : s.live[c.toNat]?.getD false = true) :
  OpRes doMF K s S M H nx c op (doV s c op) := by
 have h8 := h.wk.lv8
 have hlo := rowsO_len s.live
 have hS := h.hs.top
 obtain ⟨k, rfl⟩ : ∃ k : Nat, c = k := ⟨c.toNat, by omega⟩
 have hkl : k < s.live.length := by omega
 have hres := write_run (by omega) h c0 c1 ho hk
 have hdv : doV s (k : Int) op = blockV s (k : Int) op := by
  unfold doV
  rw [if_neg (by omega)]
  simp [hk, show s.live[k]?.getD false = true by simpa using hl]
 rw [hdv]
 obtain ⟨B', ml', H', nx', he, hm⟩ := hres
 refine ⟨B', ml', H', nx', ?_, hm⟩
 have hl2 : s.live[k] = true := by
  rw [Int.toNat_natCast, List.getElem?_eq_getElem hkl, Option.getD_some] at hl; exact hl
 unfold doMF
 rw [Tryz.results11]
 refine semT_eq rfl (by simp [Tryz.ntmps11]) fun X R hR => ?_
 unfold Cx9 at hR ⊢
 simp only [Opn.c, hk, resC] at he
 simp only [resC] at hR
 (repeat ((try simp only [cZ]); with_reducible refine cg fun K hK => ?_; simp only [go_sem, Opn.c, hk, Nat.reduceBEq]; (repeat refine ck ?_); (try simp (disch := omega) only [wZ]); refine hK _ ?_; clear hK K))
 (((try simp only [cZ]); refine cl_block fun K hK1 R hR1 X hX1 => ?_))
 (repeat ((try simp only [cZ]); with_reducible refine cg fun K hK => ?_; simp only [go_sem, Nat.reduceBEq, Bool.or_false, Bool.or_true, gt_iff_lt, ge_iff_le, show decide ((k : Int) < 0) = false by simp, show decide (8 ≤ (k : Int)) = false by simp; omega]; (repeat refine ck ?_); (try simp (disch := omega) only [wZ]); refine hK _ ?_; clear hK K))
 (((try simp only [cZ]); refine cl_cond (b := false) rfl (fun h => nomatch h) (fun _ => ?_)))
 (repeat ((try simp only [cZ]); with_reducible refine cg fun K hK => ?_; simp only [go_sem, Nat.reduceBEq, hS, hlo, h8, topR_rd _ _ _ _ _ _ hkl, hl2, Bool.not_true, Bool.or_false]; (repeat refine ck ?_); (try simp (disch := omega) only [wZ]); refine hK _ ?_; clear hK K))
 (((try simp only [cZ]); refine cl_cond (b := false) rfl (fun h => nomatch h) (fun _ => ?_)))
 ((try simp only [cZ, cl_exit, cl_nil]))
 refine hK1 _ ?_
 (repeat ((try simp only [cZ]); with_reducible refine cg fun K hK => ?_; simp only [go_sem, Nat.reduceBEq, Bool.or_false, show IntKind.i64.wrap 5 = 5 from wrapi64 (by omega) (by omega), he]; (repeat refine ck ?_); (try simp (disch := omega) only [wZ]); refine hK _ ?_; clear hK K))
 (((try simp only [cZ]); (try simp only [cl_ret]); refine hR _ _ (.inr rfl) ?_; (simp only [go_sem])))
theorem do_7 (hK : K < 48000) (h : Ms K s S B M ml H nx) (c0 : 0 ≤ c) (c1 : c ≤ 7) (ho : op.ok) (hnm : op.name.size < 100000000) (hk : op.kind = 7) (hl : s.live[c.toNat]?.getD false = true) :
  OpRes doMF K s S M H nx c op (doV s c op) := by
 have h8 := h.wk.lv8
 have hlo := rowsO_len s.live
 have hS := h.hs.top
 obtain ⟨k, rfl⟩ : ∃ k : Nat, c = k := ⟨c.toNat, by omega⟩
 have hkl : k < s.live.length := by omega
 have hres := read_run h c0 c1 ho hk
 have hdv : doV s (k : Int) op = blockV s (k : Int) op := by
  unfold doV
  rw [if_neg (by omega)]
  simp [hk, show s.live[k]?.getD false = true by simpa using hl]
 rw [hdv]
 obtain ⟨B', ml', H', nx', he, hm⟩ := hres
 refine ⟨B', ml', H', nx', ?_, hm⟩
 have hl2 : s.live[k] = true := by
  rw [Int.toNat_natCast, List.getElem?_eq_getElem hkl, Option.getD_some] at hl; exact hl
 unfold doMF
 rw [Tryz.results11]
 refine semT_eq rfl (by simp [Tryz.ntmps11]) fun X R hR => ?_
 unfold Cx9 at hR ⊢
 simp only [Opn.c, hk, resC] at he
 simp only [resC] at hR
 (repeat ((try simp only [cZ]); with_reducible refine cg fun K hK => ?_; simp only [go_sem, Opn.c, hk, Nat.reduceBEq]; (repeat refine ck ?_); (try simp (disch := omega) only [wZ]); refine hK _ ?_; clear hK K))
 (((try simp only [cZ]); refine cl_block fun K hK1 R hR1 X hX1 => ?_))
 (repeat ((try simp only [cZ]); with_reducible refine cg fun K hK => ?_; simp only [go_sem, Nat.reduceBEq, Bool.or_false, Bool.or_true, gt_iff_lt, ge_iff_le, show decide ((k : Int) < 0) = false by simp, show decide (8 ≤ (k : Int)) = false by simp; omega]; (repeat refine ck ?_); (try simp (disch := omega) only [wZ]); refine hK _ ?_; clear hK K))
 (((try simp only [cZ]); refine cl_cond (b := false) rfl (fun h => nomatch h) (fun _ => ?_)))
 (repeat ((try simp only [cZ]); with_reducible refine cg fun K hK => ?_; simp only [go_sem, Nat.reduceBEq, hS, hlo, h8, topR_rd _ _ _ _ _ _ hkl, hl2, Bool.not_true, Bool.or_false]; (repeat refine ck ?_); (try simp (disch := omega) only [wZ]); refine hK _ ?_; clear hK K))
 (((try simp only [cZ]); refine cl_cond (b := false) rfl (fun h => nomatch h) (fun _ => ?_)))
 ((try simp only [cZ, cl_exit, cl_nil]))
 refine hK1 _ ?_
 (repeat ((try simp only [cZ]); with_reducible refine cg fun K hK => ?_; simp only [go_sem, Nat.reduceBEq, Bool.or_false, show IntKind.i64.wrap 6 = 6 from wrapi64 (by omega) (by omega), he]; (repeat refine ck ?_); (try simp (disch := omega) only [wZ]); refine hK _ ?_; clear hK K))
 (((try simp only [cZ]); (try simp only [cl_ret]); refine hR _ _ (.inr rfl) ?_; (simp only [go_sem])))
theorem do_8 (hK : K < 48000) (h : Ms K s S B M ml H nx) (c0 : 0 ≤ c) (c1 : c ≤ 7) (ho : op.ok) (hnm : op.name.size < 100000000) (hk : op.kind = 8) (hl : s.live[c.toNat]?.getD false = true) :
  OpRes doMF K s S M H nx c op (doV s c op) := by
 have h8 := h.wk.lv8
 have hlo := rowsO_len s.live
 have hS := h.hs.top
 obtain ⟨k, rfl⟩ : ∃ k : Nat, c = k := ⟨c.toNat, by omega⟩
 have hkl : k < s.live.length := by omega
 have hres := construct_run (c := (k : Int)) (by omega) h hk ho hnm
 have hdv : doV s (k : Int) op = nameV s op := by
  unfold doV
  rw [if_neg (by omega)]
  simp [hk, show s.live[k]?.getD false = true by simpa using hl]
 rw [hdv]
 obtain ⟨B', ml', H', nx', he, hm⟩ := hres
 refine ⟨B', ml', H', nx', ?_, hm⟩
 have hl2 : s.live[k] = true := by
  rw [Int.toNat_natCast, List.getElem?_eq_getElem hkl, Option.getD_some] at hl; exact hl
 unfold doMF
 rw [Tryz.results11]
 refine semT_eq rfl (by simp [Tryz.ntmps11]) fun X R hR => ?_
 unfold Cx9 at hR ⊢
 simp only [Opn.c, hk, resC] at he
 simp only [resC] at hR
 (repeat ((try simp only [cZ]); with_reducible refine cg fun K hK => ?_; simp only [go_sem, Opn.c, hk, Nat.reduceBEq]; (repeat refine ck ?_); (try simp (disch := omega) only [wZ]); refine hK _ ?_; clear hK K))
 (((try simp only [cZ]); refine cl_block fun K hK1 R hR1 X hX1 => ?_))
 (repeat ((try simp only [cZ]); with_reducible refine cg fun K hK => ?_; simp only [go_sem, Nat.reduceBEq, Bool.or_false, Bool.or_true, gt_iff_lt, ge_iff_le, show decide ((k : Int) < 0) = false by simp, show decide (8 ≤ (k : Int)) = false by simp; omega]; (repeat refine ck ?_); (try simp (disch := omega) only [wZ]); refine hK _ ?_; clear hK K))
 (((try simp only [cZ]); refine cl_cond (b := false) rfl (fun h => nomatch h) (fun _ => ?_)))
 (repeat ((try simp only [cZ]); with_reducible refine cg fun K hK => ?_; simp only [go_sem, Nat.reduceBEq, hS, hlo, h8, topR_rd _ _ _ _ _ _ hkl, hl2, Bool.not_true, Bool.or_false]; (repeat refine ck ?_); (try simp (disch := omega) only [wZ]); refine hK _ ?_; clear hK K))
 (((try simp only [cZ]); refine cl_cond (b := false) rfl (fun h => nomatch h) (fun _ => ?_)))
 ((try simp only [cZ, cl_exit, cl_nil]))
 refine hK1 _ ?_
 (repeat ((try simp only [cZ]); with_reducible refine cg fun K hK => ?_; simp only [go_sem, Nat.reduceBEq, Bool.or_false, show IntKind.i64.wrap 7 = 7 from wrapi64 (by omega) (by omega), he]; (repeat refine ck ?_); (try simp (disch := omega) only [wZ]); refine hK _ ?_; clear hK K))
 (((try simp only [cZ]); (try simp only [cl_ret]); refine hR _ _ (.inr rfl) ?_; (simp only [go_sem])))
theorem do_9 (hK : K < 48000) (h : Ms K s S B M ml H nx) (c0 : 0 ≤ c) (c1 : c ≤ 7) (ho : op.ok) (hnm : op.name.size < 100000000) (hk : op.kind = 9) (hl : s.live[c.toNat]?.getD false = true) :
  OpRes doMF K s S M H nx c op (doV s c op) := by
 have h8 := h.wk.lv8
 have hlo := rowsO_len s.live
 have hS := h.hs.top
 obtain ⟨k, rfl⟩ : ∃ k : Nat, c = k := ⟨c.toNat, by omega⟩
 have hkl : k < s.live.length := by omega
 have hres := find_op (c := (k : Int)) h hk hnm
 have hdv : doV s (k : Int) op = nameV s op := by
  unfold doV
  rw [if_neg (by omega)]
  simp [hk, show s.live[k]?.getD false = true by simpa using hl]
 rw [hdv]
 obtain ⟨B', ml', H', nx', he, hm⟩ := hres
 refine ⟨B', ml', H', nx', ?_, hm⟩
 have hl2 : s.live[k] = true := by
  rw [Int.toNat_natCast, List.getElem?_eq_getElem hkl, Option.getD_some] at hl; exact hl
 unfold doMF
 rw [Tryz.results11]
 refine semT_eq rfl (by simp [Tryz.ntmps11]) fun X R hR => ?_
 unfold Cx9 at hR ⊢
 simp only [Opn.c, hk, resC] at he
 simp only [resC] at hR
 (repeat ((try simp only [cZ]); with_reducible refine cg fun K hK => ?_; simp only [go_sem, Opn.c, hk, Nat.reduceBEq]; (repeat refine ck ?_); (try simp (disch := omega) only [wZ]); refine hK _ ?_; clear hK K))
 (((try simp only [cZ]); refine cl_block fun K hK1 R hR1 X hX1 => ?_))
 (repeat ((try simp only [cZ]); with_reducible refine cg fun K hK => ?_; simp only [go_sem, Nat.reduceBEq, Bool.or_false, Bool.or_true, gt_iff_lt, ge_iff_le, show decide ((k : Int) < 0) = false by simp, show decide (8 ≤ (k : Int)) = false by simp; omega]; (repeat refine ck ?_); (try simp (disch := omega) only [wZ]); refine hK _ ?_; clear hK K))
 (((try simp only [cZ]); refine cl_cond (b := false) rfl (fun h => nomatch h) (fun _ => ?_)))
 (repeat ((try simp only [cZ]); with_reducible refine cg fun K hK => ?_; simp only [go_sem, Nat.reduceBEq, hS, hlo, h8, topR_rd _ _ _ _ _ _ hkl, hl2, Bool.not_true, Bool.or_false]; (repeat refine ck ?_); (try simp (disch := omega) only [wZ]); refine hK _ ?_; clear hK K))
 (((try simp only [cZ]); refine cl_cond (b := false) rfl (fun h => nomatch h) (fun _ => ?_)))
 ((try simp only [cZ, cl_exit, cl_nil]))
 refine hK1 _ ?_
 (repeat ((try simp only [cZ]); with_reducible refine cg fun K hK => ?_; simp only [go_sem, Nat.reduceBEq, Bool.or_false, show IntKind.i64.wrap 8 = 8 from wrapi64 (by omega) (by omega), he]; (repeat refine ck ?_); (try simp (disch := omega) only [wZ]); refine hK _ ?_; clear hK K))
 (((try simp only [cZ]); (try simp only [cl_ret]); refine hR _ _ (.inr rfl) ?_; (simp only [go_sem])))
theorem do_10 (hK : K < 48000) (h : Ms K s S B M ml H nx) (c0 : 0 ≤ c) (c1 : c ≤ 7) (ho : op.ok) (hnm : op.name.size < 100000000) (hk : op.kind = 10) (hl : s.live[c.toNat]?.getD false = true) :
  OpRes doMF K s S M H nx c op (doV s c op) := by
 have h8 := h.wk.lv8
 have hlo := rowsO_len s.live
 have hS := h.hs.top
 obtain ⟨k, rfl⟩ : ∃ k : Nat, c = k := ⟨c.toNat, by omega⟩
 have hkl : k < s.live.length := by omega
 have hres := destroy_run (c := (k : Int)) h hk hnm
 have hdv : doV s (k : Int) op = nameV s op := by
  unfold doV
  rw [if_neg (by omega)]
  simp [hk, show s.live[k]?.getD false = true by simpa using hl]
 rw [hdv]
 obtain ⟨B', ml', H', nx', he, hm⟩ := hres
 refine ⟨B', ml', H', nx', ?_, hm⟩
 have hl2 : s.live[k] = true := by
  rw [Int.toNat_natCast, List.getElem?_eq_getElem hkl, Option.getD_some] at hl; exact hl
 unfold doMF
 rw [Tryz.results11]
 refine semT_eq rfl (by simp [Tryz.ntmps11]) fun X R hR => ?_
 unfold Cx9 at hR ⊢
 simp only [Opn.c, hk, resC] at he
 simp only [resC] at hR
 (repeat ((try simp only [cZ]); with_reducible refine cg fun K hK => ?_; simp only [go_sem, Opn.c, hk, Nat.reduceBEq]; (repeat refine ck ?_); (try simp (disch := omega) only [wZ]); refine hK _ ?_; clear hK K))
 (((try simp only [cZ]); refine cl_block fun K hK1 R hR1 X hX1 => ?_))
 (repeat ((try simp only [cZ]); with_reducible refine cg fun K hK => ?_; simp only [go_sem, Nat.reduceBEq, Bool.or_false, Bool.or_true, gt_iff_lt, ge_iff_le, show decide ((k : Int) < 0) = false by simp, show decide (8 ≤ (k : Int)) = false by simp; omega]; (repeat refine ck ?_); (try simp (disch := omega) only [wZ]); refine hK _ ?_; clear hK K))
 (((try simp only [cZ]); refine cl_cond (b := false) rfl (fun h => nomatch h) (fun _ => ?_)))
 (repeat ((try simp only [cZ]); with_reducible refine cg fun K hK => ?_; simp only [go_sem, Nat.reduceBEq, hS, hlo, h8, topR_rd _ _ _ _ _ _ hkl, hl2, Bool.not_true, Bool.or_false]; (repeat refine ck ?_); (try simp (disch := omega) only [wZ]); refine hK _ ?_; clear hK K))
 (((try simp only [cZ]); refine cl_cond (b := false) rfl (fun h => nomatch h) (fun _ => ?_)))
 ((try simp only [cZ, cl_exit, cl_nil]))
 refine hK1 _ ?_
 (repeat ((try simp only [cZ]); with_reducible refine cg fun K hK => ?_; simp only [go_sem, Nat.reduceBEq, Bool.or_false, show IntKind.i64.wrap 9 = 9 from wrapi64 (by omega) (by omega), he]; (repeat refine ck ?_); (try simp (disch := omega) only [wZ]); refine hK _ ?_; clear hK K))
 (((try simp only [cZ]); (try simp only [cl_ret]); refine hR _ _ (.inr rfl) ?_; (simp only [go_sem])))
theorem do_11 (hK : K < 48000) (h : Ms K s S B M ml H nx) (c0 : 0 ≤ c) (c1 : c ≤ 7) (ho : op.ok) (hnm : op.name.size < 100000000) (hk : op.kind = 11) (hl : s.live[c.toNat]?.getD false = true) :
  OpRes doMF K s S M H nx c op (doV s c op) := by
 have h8 := h.wk.lv8
 have hlo := rowsO_len s.live
 have hS := h.hs.top
 obtain ⟨k, rfl⟩ : ∃ k : Nat, c = k := ⟨c.toNat, by omega⟩
 have hkl : k < s.live.length := by omega
 have hres := publish_run h c0 c1 hk
 have hdv : doV s (k : Int) op = blockV s (k : Int) op := by
  unfold doV
  rw [if_neg (by omega)]
  simp [hk, show s.live[k]?.getD false = true by simpa using hl]
 rw [hdv]
 obtain ⟨B', ml', H', nx', he, hm⟩ := hres
 refine ⟨B', ml', H', nx', ?_, hm⟩
 have hl2 : s.live[k] = true := by
  rw [Int.toNat_natCast, List.getElem?_eq_getElem hkl, Option.getD_some] at hl; exact hl
 unfold doMF
 rw [Tryz.results11]
 refine semT_eq rfl (by simp [Tryz.ntmps11]) fun X R hR => ?_
 unfold Cx9 at hR ⊢
 simp only [Opn.c, hk, resC] at he
 simp only [resC] at hR
 (repeat ((try simp only [cZ]); with_reducible refine cg fun K hK => ?_; simp only [go_sem, Opn.c, hk, Nat.reduceBEq]; (repeat refine ck ?_); (try simp (disch := omega) only [wZ]); refine hK _ ?_; clear hK K))
 (((try simp only [cZ]); refine cl_block fun K hK1 R hR1 X hX1 => ?_))
 (repeat ((try simp only [cZ]); with_reducible refine cg fun K hK => ?_; simp only [go_sem, Nat.reduceBEq, Bool.or_false, Bool.or_true, gt_iff_lt, ge_iff_le, show decide ((k : Int) < 0) = false by simp, show decide (8 ≤ (k : Int)) = false by simp; omega]; (repeat refine ck ?_); (try simp (disch := omega) only [wZ]); refine hK _ ?_; clear hK K))
 (((try simp only [cZ]); refine cl_cond (b := false) rfl (fun h => nomatch h) (fun _ => ?_)))
 (repeat ((try simp only [cZ]); with_reducible refine cg fun K hK => ?_; simp only [go_sem, Nat.reduceBEq, hS, hlo, h8, topR_rd _ _ _ _ _ _ hkl, hl2, Bool.not_true, Bool.or_false]; (repeat refine ck ?_); (try simp (disch := omega) only [wZ]); refine hK _ ?_; clear hK K))
 (((try simp only [cZ]); refine cl_cond (b := false) rfl (fun h => nomatch h) (fun _ => ?_)))
 ((try simp only [cZ, cl_exit, cl_nil]))
 refine hK1 _ ?_
 (repeat ((try simp only [cZ]); with_reducible refine cg fun K hK => ?_; simp only [go_sem, Nat.reduceBEq, Bool.or_false, show IntKind.i64.wrap 10 = 10 from wrapi64 (by omega) (by omega), he]; (repeat refine ck ?_); (try simp (disch := omega) only [wZ]); refine hK _ ?_; clear hK K))
 (((try simp only [cZ]); (try simp only [cl_ret]); refine hR _ _ (.inr rfl) ?_; (simp only [go_sem])))
theorem do_12 (hK : K < 48000) (h : Ms K s S B M ml H nx) (c0 : 0 ≤ c) (c1 : c ≤ 7) (ho : op.ok) (hnm : op.name.size < 100000000) (hk : op.kind = 12) (hl : s.live[c.toNat]?.getD false = true) :
  OpRes doMF K s S M H nx c op (doV s c op) := by
 have h8 := h.wk.lv8
 have hlo := rowsO_len s.live
 have hS := h.hs.top
 obtain ⟨k, rfl⟩ : ∃ k : Nat, c = k := ⟨c.toNat, by omega⟩
 have hkl : k < s.live.length := by omega
 have hres := give_run h c0 c1 hk
 have hdv : doV s (k : Int) op = blockV s (k : Int) op := by
  unfold doV
  rw [if_neg (by omega)]
  simp [hk, show s.live[k]?.getD false = true by simpa using hl]
 rw [hdv]
 obtain ⟨B', ml', H', nx', he, hm⟩ := hres
 refine ⟨B', ml', H', nx', ?_, hm⟩
 have hl2 : s.live[k] = true := by
  rw [Int.toNat_natCast, List.getElem?_eq_getElem hkl, Option.getD_some] at hl; exact hl
 unfold doMF
 rw [Tryz.results11]
 refine semT_eq rfl (by simp [Tryz.ntmps11]) fun X R hR => ?_
 unfold Cx9 at hR ⊢
 simp only [Opn.c, hk, resC] at he
 simp only [resC] at hR
 (repeat ((try simp only [cZ]); with_reducible refine cg fun K hK => ?_; simp only [go_sem, Opn.c, hk, Nat.reduceBEq]; (repeat refine ck ?_); (try simp (disch := omega) only [wZ]); refine hK _ ?_; clear hK K))
 (((try simp only [cZ]); refine cl_block fun K hK1 R hR1 X hX1 => ?_))
 (repeat ((try simp only [cZ]); with_reducible refine cg fun K hK => ?_; simp only [go_sem, Nat.reduceBEq, Bool.or_false, Bool.or_true, gt_iff_lt, ge_iff_le, show decide ((k : Int) < 0) = false by simp, show decide (8 ≤ (k : Int)) = false by simp; omega]; (repeat refine ck ?_); (try simp (disch := omega) only [wZ]); refine hK _ ?_; clear hK K))
 (((try simp only [cZ]); refine cl_cond (b := false) rfl (fun h => nomatch h) (fun _ => ?_)))
 (repeat ((try simp only [cZ]); with_reducible refine cg fun K hK => ?_; simp only [go_sem, Nat.reduceBEq, hS, hlo, h8, topR_rd _ _ _ _ _ _ hkl, hl2, Bool.not_true, Bool.or_false]; (repeat refine ck ?_); (try simp (disch := omega) only [wZ]); refine hK _ ?_; clear hK K))
 (((try simp only [cZ]); refine cl_cond (b := false) rfl (fun h => nomatch h) (fun _ => ?_)))
 ((try simp only [cZ, cl_exit, cl_nil]))
 refine hK1 _ ?_
 (repeat ((try simp only [cZ]); with_reducible refine cg fun K hK => ?_; simp only [go_sem, Nat.reduceBEq, Bool.or_false, show IntKind.i64.wrap 11 = 11 from wrapi64 (by omega) (by omega), he]; (repeat refine ck ?_); (try simp (disch := omega) only [wZ]); refine hK _ ?_; clear hK K))
 (((try simp only [cZ]); (try simp only [cl_ret]); refine hR _ _ (.inr rfl) ?_; (simp only [go_sem])))
theorem do_13 (hK : K < 48000) (h : Ms K s S B M ml H nx) (c0 : 0 ≤ c) (c1 : c ≤ 7) (ho : op.ok) (hnm : op.name.size < 100000000) (hk : op.kind = 13) (hl : s.live[c.toNat]?.getD false = true) :
  OpRes doMF K s S M H nx c op (doV s c op) := by
 have h8 := h.wk.lv8
 have hlo := rowsO_len s.live
 have hS := h.hs.top
 obtain ⟨k, rfl⟩ : ∃ k : Nat, c = k := ⟨c.toNat, by omega⟩
 have hkl : k < s.live.length := by omega
 have hres := grow_run (c := (k : Int)) h ho
 have hdv : doV s (k : Int) op = ({ s with h := (growV s.h op.n s.all).1 }, (growV s.h op.n s.all).2, 0, 0) := by
  unfold doV
  rw [if_neg (by omega)]
  simp [hk, show s.live[k]?.getD false = true by simpa using hl]
 rw [hdv]
 obtain ⟨B', ml', H', nx', he, hm⟩ := hres
 refine ⟨B', ml', H', nx', ?_, hm⟩
 have hl2 : s.live[k] = true := by
  rw [Int.toNat_natCast, List.getElem?_eq_getElem hkl, Option.getD_some] at hl; exact hl
 unfold doMF
 rw [Tryz.results11]
 refine semT_eq rfl (by simp [Tryz.ntmps11]) fun X R hR => ?_
 unfold Cx9 at hR ⊢
 simp only [Opn.c, hk, resC] at he
 simp only [resC] at hR
 (repeat ((try simp only [cZ]); with_reducible refine cg fun K hK => ?_; simp only [go_sem, Opn.c, hk, Nat.reduceBEq]; (repeat refine ck ?_); (try simp (disch := omega) only [wZ]); refine hK _ ?_; clear hK K))
 (((try simp only [cZ]); refine cl_block fun K hK1 R hR1 X hX1 => ?_))
 (repeat ((try simp only [cZ]); with_reducible refine cg fun K hK => ?_; simp only [go_sem, Nat.reduceBEq, Bool.or_false, Bool.or_true, gt_iff_lt, ge_iff_le, show decide ((k : Int) < 0) = false by simp, show decide (8 ≤ (k : Int)) = false by simp; omega]; (repeat refine ck ?_); (try simp (disch := omega) only [wZ]); refine hK _ ?_; clear hK K))
 (((try simp only [cZ]); refine cl_cond (b := false) rfl (fun h => nomatch h) (fun _ => ?_)))
 (repeat ((try simp only [cZ]); with_reducible refine cg fun K hK => ?_; simp only [go_sem, Nat.reduceBEq, hS, hlo, h8, topR_rd _ _ _ _ _ _ hkl, hl2, Bool.not_true, Bool.or_false]; (repeat refine ck ?_); (try simp (disch := omega) only [wZ]); refine hK _ ?_; clear hK K))
 (((try simp only [cZ]); refine cl_cond (b := false) rfl (fun h => nomatch h) (fun _ => ?_)))
 ((try simp only [cZ, cl_exit, cl_nil]))
 refine hK1 _ ?_
 (repeat ((try simp only [cZ]); with_reducible refine cg fun K hK => ?_; simp only [go_sem, Nat.reduceBEq, Bool.or_false, show IntKind.i64.wrap 12 = 12 from wrapi64 (by omega) (by omega), he]; (repeat refine ck ?_); (try simp (disch := omega) only [wZ]); refine hK _ ?_; clear hK K))
 (((try simp only [cZ]); (try simp only [cl_ret]); refine hR _ _ (.inr rfl) ?_; (simp only [go_sem])))
theorem do_14 (hK : K < 48000) (h : Ms K s S B M ml H nx) (c0 : 0 ≤ c) (c1 : c ≤ 7) (ho : op.ok) (hnm : op.name.size < 100000000) (hk : op.kind = 14) (hl : s.live[c.toNat]?.getD false = true) :
  OpRes doMF K s S M H nx c op (doV s c op) := by
 have h8 := h.wk.lv8
 have hlo := rowsO_len s.live
 have hS := h.hs.top
 obtain ⟨k, rfl⟩ : ∃ k : Nat, c = k := ⟨c.toNat, by omega⟩
 have hkl : k < s.live.length := by omega
 have hres := detach_run (op := op) h c0 c1
 have hdv : doV s (k : Int) op = (if 0 < (s.h.ls[(k : Int).toNat]?.getD []).length then (s, 11, 0, 0) else ({ s with live := s.live.set (k : Int).toNat false }, 0, 0, 0)) := by
  unfold doV
  rw [if_neg (by omega)]
  simp [hk, show s.live[k]?.getD false = true by simpa using hl]
 rw [hdv]
 obtain ⟨B', ml', H', nx', he, hm⟩ := hres
 refine ⟨B', ml', H', nx', ?_, hm⟩
 have hl2 : s.live[k] = true := by
  rw [Int.toNat_natCast, List.getElem?_eq_getElem hkl, Option.getD_some] at hl; exact hl
 unfold doMF
 rw [Tryz.results11]
 refine semT_eq rfl (by simp [Tryz.ntmps11]) fun X R hR => ?_
 unfold Cx9 at hR ⊢
 simp only [Opn.c, hk, resC] at he
 simp only [resC] at hR
 (repeat ((try simp only [cZ]); with_reducible refine cg fun K hK => ?_; simp only [go_sem, Opn.c, hk, Nat.reduceBEq]; (repeat refine ck ?_); (try simp (disch := omega) only [wZ]); refine hK _ ?_; clear hK K))
 (((try simp only [cZ]); refine cl_block fun K hK1 R hR1 X hX1 => ?_))
 (repeat ((try simp only [cZ]); with_reducible refine cg fun K hK => ?_; simp only [go_sem, Nat.reduceBEq, Bool.or_false, Bool.or_true, gt_iff_lt, ge_iff_le, show decide ((k : Int) < 0) = false by simp, show decide (8 ≤ (k : Int)) = false by simp; omega]; (repeat refine ck ?_); (try simp (disch := omega) only [wZ]); refine hK _ ?_; clear hK K))
 (((try simp only [cZ]); refine cl_cond (b := false) rfl (fun h => nomatch h) (fun _ => ?_)))
 (repeat ((try simp only [cZ]); with_reducible refine cg fun K hK => ?_; simp only [go_sem, Nat.reduceBEq, hS, hlo, h8, topR_rd _ _ _ _ _ _ hkl, hl2, Bool.not_true, Bool.or_false]; (repeat refine ck ?_); (try simp (disch := omega) only [wZ]); refine hK _ ?_; clear hK K))
 (((try simp only [cZ]); refine cl_cond (b := false) rfl (fun h => nomatch h) (fun _ => ?_)))
 ((try simp only [cZ, cl_exit, cl_nil]))
 refine hK1 _ ?_
 (repeat ((try simp only [cZ]); with_reducible refine cg fun K hK => ?_; simp only [go_sem, Nat.reduceBEq, Bool.or_false, show IntKind.i64.wrap 13 = 13 from wrapi64 (by omega) (by omega), he]; (repeat refine ck ?_); (try simp (disch := omega) only [wZ]); refine hK _ ?_; clear hK K))
 (((try simp only [cZ]); (try simp only [cl_ret]); refine hR _ _ (.inr rfl) ?_; (simp only [go_sem])))
theorem do_15 (hK : K < 48000) (h : Ms K s S B M ml H nx) (c0 : 0 ≤ c) (c1 : c ≤ 7) (ho : op.ok) (hnm : op.name.size < 100000000) (hk : op.kind = 15) :
  OpRes doMF K s S M H nx c op (doV s c op) := by
 have h8 := h.wk.lv8
 have hlo := rowsO_len s.live
 have hS := h.hs.top
 obtain ⟨k, rfl⟩ : ∃ k : Nat, c = k := ⟨c.toNat, by omega⟩
 have hkl : k < s.live.length := by omega
 have hres := attach_run (op := op) h c0 c1
 have hdv : doV s (k : Int) op = (if s.live[(k : Int).toNat]?.getD false then (s, 7, 0, 0) else ({ s with live := s.live.set (k : Int).toNat true }, 0, 0, 0)) := by
  unfold doV
  rw [if_neg (by omega)]
  simp [hk]
 rw [hdv]
 obtain ⟨B', ml', H', nx', he, hm⟩ := hres
 refine ⟨B', ml', H', nx', ?_, hm⟩
 unfold doMF
 rw [Tryz.results11]
 refine semT_eq rfl (by simp [Tryz.ntmps11]) fun X R hR => ?_
 unfold Cx9 at hR ⊢
 simp only [Opn.c, hk, resC] at he
 simp only [resC] at hR
 (repeat ((try simp only [cZ]); with_reducible refine cg fun K hK => ?_; simp only [go_sem, Opn.c, hk, Nat.reduceBEq]; (repeat refine ck ?_); (try simp (disch := omega) only [wZ]); refine hK _ ?_; clear hK K))
 (((try simp only [cZ]); refine cl_block fun K hK1 R hR1 X hX1 => ?_))
 (repeat ((try simp only [cZ]); with_reducible refine cg fun K hK => ?_; simp only [go_sem, Nat.reduceBEq, Bool.or_false, Bool.or_true, gt_iff_lt, ge_iff_le, show decide ((k : Int) < 0) = false by simp, show decide (8 ≤ (k : Int)) = false by simp; omega]; (repeat refine ck ?_); (try simp (disch := omega) only [wZ]); refine hK _ ?_; clear hK K))
 (((try simp only [cZ]); refine cl_cond (b := false) rfl (fun h => nomatch h) (fun _ => ?_)))
 cases hl2 : s.live[k] with
 | true =>
  (repeat ((try simp only [cZ]); with_reducible refine cg fun K hK => ?_; simp only [go_sem, Nat.reduceBEq, hS, hlo, h8, topR_rd _ _ _ _ _ _ hkl, hl2, Bool.not_true, bne_self_eq_false, Bool.or_false]; (repeat refine ck ?_); (try simp (disch := omega) only [wZ]); refine hK _ ?_; clear hK K))
  (((try simp only [cZ]); refine cl_cond (b := false) rfl (fun h => nomatch h) (fun _ => ?_)))
  ((try simp only [cZ, cl_exit, cl_nil]))
  refine hK1 _ ?_
  (repeat ((try simp only [cZ]); with_reducible refine cg fun K hK => ?_; simp only [go_sem, Nat.reduceBEq, Bool.or_false, show IntKind.i64.wrap 14 = 14 from wrapi64 (by omega) (by omega), he]; (repeat refine ck ?_); (try simp (disch := omega) only [wZ]); refine hK _ ?_; clear hK K))
  (((try simp only [cZ]); (try simp only [cl_ret]); refine hR _ _ (.inr rfl) ?_; (simp only [go_sem])))
 | false =>
  (repeat ((try simp only [cZ]); with_reducible refine cg fun K hK => ?_; simp only [go_sem, Nat.reduceBEq, hS, hlo, h8, topR_rd _ _ _ _ _ _ hkl, hl2, Bool.not_false, bne_self_eq_false, Bool.or_false]; (repeat refine ck ?_); (try simp (disch := omega) only [wZ]); refine hK _ ?_; clear hK K))
  (((try simp only [cZ]); refine cl_cond (b := false) rfl (fun h => nomatch h) (fun _ => ?_)))
  ((try simp only [cZ, cl_exit, cl_nil]))
  refine hK1 _ ?_
  (repeat ((try simp only [cZ]); with_reducible refine cg fun K hK => ?_; simp only [go_sem, Nat.reduceBEq, Bool.or_false, show IntKind.i64.wrap 14 = 14 from wrapi64 (by omega) (by omega), he]; (repeat refine ck ?_); (try simp (disch := omega) only [wZ]); refine hK _ ?_; clear hK K))
  (((try simp only [cZ]); (try simp only [cl_ret]); refine hR _ _ (.inr rfl) ?_; (simp only [go_sem])))
end
end Go.Proofs.YtapdaefpkddioaaGreat.Pe
