/- A part of the proof of PpD. -/
import Derived.Test.YtapdaefpkddioaaGreatCe43
import Derived.Test.YtapdaefpkddioaaGreatCe47
import Derived.Test.YtapdaefpkddioaaGreatCe39
set_option linter.unusedSimpArgs false
set_option linter.unusedVariables false
set_option linter.unusedSectionVars false
namespace Go.Proofs.YtapdaefpkddioaaGreat.Pe
open Go
set_option maxHeartbeats 1000000
noncomputable def Cx1016 : (Nat → Prop) → Ctx := fun X => { nt := 27, tt := tt, fns := ofList [], keep := keep16, X := X, eqs := fun t => t == 25 || t == 46 }
noncomputable def entNT : List AD → Hp → Nat → Option (RV × Hp × Nat) := semT Tryz.f16 Cx1016 Tryz.f16.results
theorem entN_ok : FnEff Tryz.prog 16 entNT := semT_ok mixed Tryz.func16 rfl (fun X => ok_of (l := []) tt_ok trivial eqsOk) (fun _ => rfl) (fun _ => rfl) (by decide) rfl
noncomputable def Cx1017 : (Nat → Prop) → Ctx := fun X => { nt := 23, tt := tt, fns := ofList [], keep := keep17, X := X, eqs := fun t => t == 25 || t == 46 }
noncomputable def liveNT : List AD → Hp → Nat → Option (RV × Hp × Nat) := semT Tryz.f17 Cx1017 Tryz.f17.results
theorem liveN_ok : FnEff Tryz.prog 17 liveNT := semT_ok mixed Tryz.func17 rfl (fun X => ok_of (l := []) tt_ok trivial eqsOk) (fun _ => rfl) (fun _ => rfl) (by decide) rfl
section
variable {H : Hp} {nx : Nat} {c : Int} {op : Opn}
theorem kill_nil : killMF [.one .nilp, .one (.int .i64 c)] H nx = some (.tup [], H, nx) := by
 unfold killMF
 rw [Tryz.results13]
 refine semT_eq rfl (by simp [Tryz.ntmps13]) fun X R hR => ?_
 unfold Cx16 at hR ⊢
 (repeat ((try simp only [cZ]); with_reducible refine cg fun K hK => ?_; simp only [go_sem]; (repeat refine ck ?_); (try simp (disch := omega) only [wZ]); refine hK _ ?_; clear hK K))
 (((try simp only [cZ]); refine cl_cond (b := true) rfl (fun _ => ?_) (fun h => nomatch h)))
 (((try simp only [cZ]); (try simp only [cl_ret]); refine hR _ _ (.inr rfl) ?_; (simp only [go_sem])))
theorem do_nil : doMF [.one .nilp, .one (.int .i64 c), .many op.c] H nx = some (.a (.many [.int .i64 1, .int .u64 0, .int .u64 0]), H, nx) := by
 have hf := failF_eq 1
 unfold doMF
 rw [Tryz.results11]
 refine semT_eq rfl (by simp [Tryz.ntmps11]) fun X R hR => ?_
 unfold Cx9 at hR ⊢
 simp only [Opn.c]
 (repeat ((try simp only [cZ]); with_reducible refine cg fun K hK => ?_; simp only [go_sem, hf]; (repeat refine ck ?_); (try simp (disch := omega) only [wZ]); refine hK _ ?_; clear hK K))
 (((try simp only [cZ]); refine cl_block fun K hK1 R hR1 X hX1 => ?_))
 (repeat ((try simp only [cZ]); with_reducible refine cg fun K hK => ?_; simp only [go_sem, hf]; (repeat refine ck ?_); (try simp (disch := omega) only [wZ]); refine hK _ ?_; clear hK K))
 (((try simp only [cZ]); refine cl_cond (b := true) rfl (fun _ => ?_) (fun h => nomatch h)))
 (repeat ((try simp only [cZ]); with_reducible refine cg fun K hK => ?_; simp only [go_sem, hf]; (repeat refine ck ?_); (try simp (disch := omega) only [wZ]); refine hK _ ?_; clear hK K))
 (((try simp only [cZ]); (try simp only [cl_ret]); refine hR1 _ (hR _ _ (.inr rfl) ?_); (simp only [go_sem])))
theorem blocks_nil : blocksT [.one .nilp] H nx = some (.a (.one (.sl [])), H, nx) := by
 unfold blocksT
 rw [Tryz.results15]
 refine semT_eq rfl (by simp [Tryz.ntmps15]) fun X R hR => ?_
 unfold Cx8 at hR ⊢
 (repeat ((try simp only [cZ]); with_reducible refine cg fun K hK => ?_; simp only [go_sem]; (repeat refine ck ?_); (try simp (disch := omega) only [wZ]); refine hK _ ?_; clear hK K))
 (((try simp only [cZ]); refine cl_cond (b := true) rfl (fun _ => ?_) (fun h => nomatch h)))
 (repeat ((try simp only [cZ]); with_reducible refine cg fun K hK => ?_; simp only [go_sem]; (repeat refine ck ?_); (try simp (disch := omega) only [wZ]); refine hK _ ?_; clear hK K))
 (((try simp only [cZ]); (try simp only [cl_ret]); refine hR _ _ (.inr rfl) ?_; (simp only [go_sem])))
theorem entries_nil : entNT [.one .nilp] H nx = some (.a (.one (.sl [])), H, nx) := by
 unfold entNT
 rw [Tryz.results16]
 refine semT_eq rfl (by simp [Tryz.ntmps16]) fun X R hR => ?_
 unfold Cx1016 at hR ⊢
 (repeat ((try simp only [cZ]); with_reducible refine cg fun K hK => ?_; simp only [go_sem]; (repeat refine ck ?_); (try simp (disch := omega) only [wZ]); refine hK _ ?_; clear hK K))
 (((try simp only [cZ]); refine cl_cond (b := true) rfl (fun _ => ?_) (fun h => nomatch h)))
 (repeat ((try simp only [cZ]); with_reducible refine cg fun K hK => ?_; simp only [go_sem]; (repeat refine ck ?_); (try simp (disch := omega) only [wZ]); refine hK _ ?_; clear hK K))
 (((try simp only [cZ]); (try simp only [cl_ret]); refine hR _ _ (.inr rfl) ?_; (simp only [go_sem])))
theorem live_nil : liveNT [.one .nilp] H nx = some (.a (.one (.sl [])), H, nx) := by
 unfold liveNT
 rw [Tryz.results17]
 refine semT_eq rfl (by simp [Tryz.ntmps17]) fun X R hR => ?_
 unfold Cx1017 at hR ⊢
 (repeat ((try simp only [cZ]); with_reducible refine cg fun K hK => ?_; simp only [go_sem]; (repeat refine ck ?_); (try simp (disch := omega) only [wZ]); refine hK _ ?_; clear hK K))
 (((try simp only [cZ]); refine cl_cond (b := true) rfl (fun _ => ?_) (fun h => nomatch h)))
 (repeat ((try simp only [cZ]); with_reducible refine cg fun K hK => ?_; simp only [go_sem]; (repeat refine ck ?_); (try simp (disch := omega) only [wZ]); refine hK _ ?_; clear hK K))
 (((try simp only [cZ]); (try simp only [cl_ret]); refine hR _ _ (.inr rfl) ?_; (simp only [go_sem])))
theorem size_nil : sizeT [.one .nilp] H nx = some (.a (.one (.int .u64 0)), H, nx) := by
 unfold sizeT
 rw [Tryz.results18]
 refine semT_eq rfl (by simp [Tryz.ntmps18]) fun X R hR => ?_
 unfold Cx1018 at hR ⊢
 (repeat ((try simp only [cZ]); with_reducible refine cg fun K hK => ?_; simp only [go_sem]; (repeat refine ck ?_); (try simp (disch := omega) only [wZ]); refine hK _ ?_; clear hK K))
 (((try simp only [cZ]); refine cl_cond (b := true) rfl (fun _ => ?_) (fun h => nomatch h)))
 (repeat ((try simp only [cZ]); with_reducible refine cg fun K hK => ?_; simp only [go_sem]; (repeat refine ck ?_); (try simp (disch := omega) only [wZ]); refine hK _ ?_; clear hK K))
 (((try simp only [cZ]); (try simp only [cl_ret]); refine hR _ _ (.inr rfl) ?_; (simp only [go_sem])))
end
end Go.Proofs.YtapdaefpkddioaaGreat.Pe
