/- A part of the proof of PpA. -/
import Derived.Test.YtapdaefpkddioaaGreatCb43
import Derived.Test.YtapdaefpkddioaaGreatCp0
set_option linter.unusedSimpArgs false
set_option linter.unusedVariables false
set_option linter.unusedSectionVars false
namespace Go.Proofs.YtapdaefpkddioaaGreat.Pe
open Go
set_option maxHeartbeats 4000000
noncomputable def Cx1003 : (Nat → Prop) → Ctx := fun X => { nt := 27, tt := tt, fns := ofList [(7, .eff awakeT), (8, .pure fewF), (9, .eff playedT), (10, .eff sameT)], keep := keep3, X := X, eqs := fun t => t == 25 || t == 46 }
noncomputable def playsT : List AD → Hp → Nat → Option (RV × Hp × Nat) := semT Tryz.f3 Cx1003 Tryz.f3.results
theorem plays_ok : FnEff Tryz.prog 3 playsT := semT_ok mixed Tryz.func3 rfl (fun X => ok_of (l := [(7, .eff awakeT), (8, .pure fewF), (9, .eff playedT), (10, .eff sameT)]) tt_ok ⟨awake_ok, by kernel_rfl, few_ok, by kernel_rfl, played_ok, by kernel_rfl, same_ok, by kernel_rfl, trivial⟩ eqsOk) (fun _ => rfl) (fun _ => rfl) (by decide) rfl
theorem plays_run {H : Hp} {nx : Nat} (hf : ∀ o, nx ≤ o → H o = none) {l : List Cl} (hok : ∀ x ∈ l, x.ok) :
    ∃ H' nx', playsT [.one (.sl (rowsK l))] H nx = some (.a (.one (.bool true)), H', nx') := by
  obtain ⟨H1, n1, ha, hf1⟩ := awake_run hf
  have hfe := fewF_eq l
  by_cases hw : Few l
  · obtain ⟨S, B, M, ml, H2, n2, hp, hm⟩ := played_run hf1 hw hok
    have hs := same_run hm
    have h8 := hm.wk.sh.ls8
    have h8' := hm.wk.lv8
    refine ⟨H2, n2, ?_⟩
    generalize playV l = s at *
    unfold playsT
    rw [Tryz.results3]
    refine semT_eq rfl (by simp [Tryz.ntmps3]) fun X R hR => ?_
    unfold Cx1003 at hR ⊢
    simp only [hw, decide_true] at hfe
    simp only [St.c, stc] at hp hs
    have htl : (D.sl (rowsB s.h.bl) :: (rowsL s.h.ls ++ (D.sl (rowsW s.data) :: (D.sl (rowsE s.names) :: rowsO s.live)))).length = 19 := by
      rw [List.length_cons, List.length_append, rowsL_len, List.length_cons, List.length_cons, rowsO_len, h8, h8']
    generalize D.sl (rowsB s.h.bl) :: (rowsL s.h.ls ++ (D.sl (rowsW s.data) :: (D.sl (rowsE s.names) :: rowsO s.live))) = tl at *
    have htk : tl.take 19 = tl := by rw [← htl, List.take_length]
    (repeat ((try simp only [cl_seq, cl_skip]); with_reducible refine cg fun K hK => ?_; (simp (maxSteps := 1000000) only [go_sem, ha, hfe]); (repeat refine ck ?_); (try simp (disch := omega) only [wrap64, wrapi64]); refine hK _ ?_; clear hK K))
    (((try simp only [cl_seq, cl_skip]); refine cl_cond (b := false) rfl (fun h => nomatch h) (fun _ => ?_)))
    (repeat ((try simp only [cl_seq, cl_skip]); with_reducible refine cg fun K hK => ?_; (simp (maxSteps := 1000000) only [go_sem, hp, htl, htk, hs]); (repeat refine ck ?_); (try simp (disch := omega) only [wrap64, wrapi64]); refine hK _ ?_; clear hK K))
    (((try simp only [cl_seq, cl_skip]); (try simp only [cl_ret]); refine hR _ _ (.inr rfl) ?_; (simp (maxSteps := 1000000) only [go_sem])))
  · refine ⟨H1, n1, ?_⟩
    unfold playsT
    rw [Tryz.results3]
    refine semT_eq rfl (by simp [Tryz.ntmps3]) fun X R hR => ?_
    unfold Cx1003 at hR ⊢
    simp only [hw, decide_false] at hfe
    (repeat ((try simp only [cl_seq, cl_skip]); with_reducible refine cg fun K hK => ?_; (simp (maxSteps := 1000000) only [go_sem, ha, hfe]); (repeat refine ck ?_); (try simp (disch := omega) only [wrap64, wrapi64]); refine hK _ ?_; clear hK K))
    (((try simp only [cl_seq, cl_skip]); refine cl_cond (b := true) rfl (fun _ => ?_) (fun h => nomatch h)))
    (repeat ((try simp only [cl_seq, cl_skip]); with_reducible refine cg fun K hK => ?_; (simp (maxSteps := 1000000) only [go_sem]); (repeat refine ck ?_); (try simp (disch := omega) only [wrap64, wrapi64]); refine hK _ ?_; clear hK K))
    (((try simp only [cl_seq, cl_skip]); (try simp only [cl_ret]); refine hR _ _ (.inr rfl) ?_; (simp (maxSteps := 1000000) only [go_sem])))
end Go.Proofs.YtapdaefpkddioaaGreat.Pe
