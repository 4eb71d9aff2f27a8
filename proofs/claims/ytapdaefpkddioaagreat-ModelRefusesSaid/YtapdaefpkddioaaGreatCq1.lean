/- A part of the proof of PpB. -/
import Derived.Test.YtapdaefpkddioaaGreatCb33
import Derived.Test.YtapdaefpkddioaaGreatCb43
import Derived.Test.YtapdaefpkddioaaGreatCq0
set_option linter.unusedSimpArgs false
set_option linter.unusedVariables false
set_option linter.unusedSectionVars false
namespace Go.Proofs.YtapdaefpkddioaaGreat.Pe
open Go
set_option maxHeartbeats 4000000
noncomputable def Cx1004 : (Nat → Prop) → Ctx := fun X => { nt := 68, tt := tt, fns := ofList [(7, .eff awakeT), (8, .pure fewF), (9, .eff playedT), (11, .eff doMF), (12, .pure resolveF), (10, .eff sameT)], keep := keep4, X := X, eqs := fun t => t == 25 || t == 46 }
noncomputable def refusesT : List AD → Hp → Nat → Option (RV × Hp × Nat) := semT Tryz.f4 Cx1004 Tryz.f4.results
theorem refuses_ok : FnEff Tryz.prog 4 refusesT := semT_ok mixed Tryz.func4 rfl (fun X => ok_of (l := [(7, .eff awakeT), (8, .pure fewF), (9, .eff playedT), (11, .eff doMF), (12, .pure resolveF), (10, .eff sameT)]) tt_ok ⟨awake_ok, by kernel_rfl, few_ok, by kernel_rfl, played_ok, by kernel_rfl, doM_ok, by kernel_rfl, resolve_ok, by kernel_rfl, same_ok, by kernel_rfl, trivial⟩ eqsOk) (fun _ => rfl) (fun _ => rfl) (by decide) rfl
theorem refuses_run {H : Hp} {nx : Nat} (hf : ∀ o, nx ≤ o → H o = none) {l : List Cl} {d : Cl} (hok : ∀ x ∈ l, x.ok) (hd : d.ok) (d0 : -9223372036854775808 ≤ d.cl) (d1 : d.cl ≤ 9223372036854775807) :
    ∃ H' nx', refusesT [.one (.sl (rowsK l)), .many d.c] H nx = some (.a (.one (.bool true)), H', nx') := by
  obtain ⟨H1, n1, ha, hf1⟩ := awake_run hf
  have hfe := fewF_eq l
  by_cases hw : Few l ∧ d.op.name.size ≤ 60
  · obtain ⟨hw, hnm⟩ := hw
    obtain ⟨S, B, M, ml, H2, n2, hp, hm⟩ := played_run hf1 hw hok
    have hres := resolveF_eq hm.wk hd
    obtain ⟨ro, rn⟩ := resolveV_ok hm.wk hd
    obtain ⟨B3, ml3, H3, n3, he, hm3⟩ := do_run (c := d.cl) (op := resolveV (playV l) d) (by omega) hm ro (by rw [rn]; omega)
    have her := do_er (playV l) d.cl (resolveV (playV l) d)
    have h8 := hm.wk.sh.ls8
    have h8' := hm.wk.lv8
    refine ⟨H3, n3, ?_⟩
    generalize doV (playV l) d.cl (resolveV (playV l) d) = D at *
    obtain ⟨t, r1, r2, r3⟩ := D
    generalize resolveV (playV l) d = op at *
    generalize playV l = s at *
    unfold refusesT
    rw [Tryz.results4]
    refine semT_eq rfl (by simp [Tryz.ntmps4]) fun X R hR => ?_
    unfold Cx1004 at hR ⊢
    have htl : (D.sl (rowsB s.h.bl) :: (rowsL s.h.ls ++ (D.sl (rowsW s.data) :: (D.sl (rowsE s.names) :: rowsO s.live)))).length = 19 := by
      rw [List.length_cons, List.length_append, rowsL_len, List.length_cons, List.length_cons, rowsO_len, h8, h8']
    simp only [hw, decide_true] at hfe
    rcases her with her | ⟨e, e1, e2, her⟩
    · have her : r1 = 0 := her
      subst her
      simp only [St.c, stc, Opn.c, Cl.c_lit, resC] at hp hres he
      generalize D.sl (rowsB s.h.bl) :: (rowsL s.h.ls ++ (D.sl (rowsW s.data) :: (D.sl (rowsE s.names) :: rowsO s.live))) = tl at *
      have htk : tl.take 19 = tl := by rw [← htl, List.take_length]
      simp only [Cl.c_lit]
      (repeat ((try simp only [cl_seq, cl_skip]); with_reducible refine cg fun K hK => ?_; (simp (maxSteps := 1000000) only [go_sem, ha, hfe, show decide ((60 : Int) < d.op.name.size) = false by simp; omega]); (repeat refine ck ?_); (try simp (disch := omega) only [wrap64, wrapi64]); refine hK _ ?_; clear hK K))
      (((try simp only [cl_seq, cl_skip]); refine cl_cond (b := false) rfl (fun h => nomatch h) (fun _ => ?_)))
      (repeat ((try simp only [cl_seq, cl_skip]); with_reducible refine cg fun K hK => ?_; (simp (maxSteps := 1000000) only [go_sem, hp, htl, htk, hres, he]); (repeat refine ck ?_); (try simp (disch := omega) only [wrap64, wrapi64]); refine hK _ ?_; clear hK K))
      (((try simp only [cl_seq, cl_skip]); refine cl_cond (b := true) rfl (fun _ => ?_) (fun h => nomatch h)))
      (repeat ((try simp only [cl_seq, cl_skip]); with_reducible refine cg fun K hK => ?_; (simp (maxSteps := 1000000) only [go_sem]); (repeat refine ck ?_); (try simp (disch := omega) only [wrap64, wrapi64]); refine hK _ ?_; clear hK K))
      (((try simp only [cl_seq, cl_skip]); (try simp only [cl_ret]); refine hR _ _ (.inr rfl) ?_; (simp (maxSteps := 1000000) only [go_sem])))
    · simp only [Prod.mk.injEq] at her
      obtain ⟨rfl, rfl, rfl, rfl⟩ := her
      have hs := same_run hm3
      simp only [St.c, stc, Opn.c, Cl.c_lit, resC] at hp hres he hs
      generalize D.sl (rowsB t.h.bl) :: (rowsL t.h.ls ++ (D.sl (rowsW t.data) :: (D.sl (rowsE t.names) :: rowsO t.live))) = tl at *
      have htk : tl.take 19 = tl := by rw [← htl, List.take_length]
      simp only [Cl.c_lit]
      (repeat ((try simp only [cl_seq, cl_skip]); with_reducible refine cg fun K hK => ?_; (simp (maxSteps := 1000000) only [go_sem, ha, hfe, show decide ((60 : Int) < d.op.name.size) = false by simp; omega]); (repeat refine ck ?_); (try simp (disch := omega) only [wrap64, wrapi64]); refine hK _ ?_; clear hK K))
      (((try simp only [cl_seq, cl_skip]); refine cl_cond (b := false) rfl (fun h => nomatch h) (fun _ => ?_)))
      (repeat ((try simp only [cl_seq, cl_skip]); with_reducible refine cg fun K hK => ?_; (simp (maxSteps := 1000000) only [go_sem, hp, htl, htk, hres, he, show (r1 == 0) = false by simp; omega]); (repeat refine ck ?_); (try simp (disch := omega) only [wrap64, wrapi64]); refine hK _ ?_; clear hK K))
      (((try simp only [cl_seq, cl_skip]); refine cl_cond (b := false) rfl (fun h => nomatch h) (fun _ => ?_)))
      (repeat ((try simp only [cl_seq, cl_skip]); with_reducible refine cg fun K hK => ?_; (simp (maxSteps := 1000000) only [go_sem, htl, htk, hs, beq_self_eq_true, Option.map_some, show decide (r1 ≥ 0) = true from decide_eq_true (by omega), show decide (r1 ≤ 11) = true from decide_eq_true e2]); (repeat refine ck ?_); (try simp (disch := omega) only [wrap64, wrapi64]); refine hK _ ?_; clear hK K))
      (((try simp only [cl_seq, cl_skip]); (try simp only [cl_ret]); refine hR _ _ (.inr rfl) ?_; (simp (maxSteps := 1000000) only [go_sem])))
  · refine ⟨H1, n1, ?_⟩
    unfold refusesT
    rw [Tryz.results4]
    refine semT_eq rfl (by simp [Tryz.ntmps4]) fun X R hR => ?_
    unfold Cx1004 at hR ⊢
    simp only [Cl.c_lit]
    by_cases hw1 : Few l
    · have hnm : (60 : Int) < d.op.name.size := by
        have : ¬ d.op.name.size ≤ 60 := fun h => hw ⟨hw1, h⟩
        omega
      simp only [hw1, decide_true] at hfe
      (repeat ((try simp only [cl_seq, cl_skip]); with_reducible refine cg fun K hK => ?_; (simp (maxSteps := 1000000) only [go_sem, ha, hfe, show decide ((60 : Int) < d.op.name.size) = true by simpa using hnm]); (repeat refine ck ?_); (try simp (disch := omega) only [wrap64, wrapi64]); refine hK _ ?_; clear hK K))
      (((try simp only [cl_seq, cl_skip]); refine cl_cond (b := true) rfl (fun _ => ?_) (fun h => nomatch h)))
      (repeat ((try simp only [cl_seq, cl_skip]); with_reducible refine cg fun K hK => ?_; (simp (maxSteps := 1000000) only [go_sem]); (repeat refine ck ?_); (try simp (disch := omega) only [wrap64, wrapi64]); refine hK _ ?_; clear hK K))
      (((try simp only [cl_seq, cl_skip]); (try simp only [cl_ret]); refine hR _ _ (.inr rfl) ?_; (simp (maxSteps := 1000000) only [go_sem])))
    · simp only [hw1, decide_false] at hfe
      (repeat ((try simp only [cl_seq, cl_skip]); with_reducible refine cg fun K hK => ?_; (simp (maxSteps := 1000000) only [go_sem, ha, hfe]); (repeat refine ck ?_); (try simp (disch := omega) only [wrap64, wrapi64]); refine hK _ ?_; clear hK K))
      (((try simp only [cl_seq, cl_skip]); refine cl_cond (b := true) rfl (fun _ => ?_) (fun h => nomatch h)))
      (repeat ((try simp only [cl_seq, cl_skip]); with_reducible refine cg fun K hK => ?_; (simp (maxSteps := 1000000) only [go_sem]); (repeat refine ck ?_); (try simp (disch := omega) only [wrap64, wrapi64]); refine hK _ ?_; clear hK K))
      (((try simp only [cl_seq, cl_skip]); (try simp only [cl_ret]); refine hR _ _ (.inr rfl) ?_; (simp (maxSteps := 1000000) only [go_sem])))
end Go.Proofs.YtapdaefpkddioaaGreat.Pe
