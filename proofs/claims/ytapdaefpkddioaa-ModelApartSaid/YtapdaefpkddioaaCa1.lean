/- A part of the proof of PmD. -/
import Derived.Test.YtapdaefpkddioaaCb15
set_option linter.unusedSimpArgs false
set_option linter.unusedVariables false
set_option linter.unusedSectionVars false
namespace Go.Proofs.Ytapdaefpkddioaa.Pe
open Go
set_option maxHeartbeats 2000000
def encNs (x : List Int × List Int) : List AD := [.one (.sl (rowsN x.1)), .one (.sl (rowsN x.2))]
theorem encNs_inj (x y : List Int × List Int) (h : encNs x = encNs y) : x = y := by
  obtain ⟨a, b⟩ := x; obtain ⟨c, d⟩ := y
  simp only [encNs, List.cons.injEq, AD.one.injEq, D.sl.injEq, and_true] at h
  rw [rowsN_inj h.1, rowsN_inj h.2]
noncomputable def numsF : List AD → Option RV := byEnc encNs (fun x => Sm x.1 ∧ Sm x.2) fun x => .a (.one (.bool (decide (x.1 = x.2))))
theorem numsF_eq {l m : List Int} (h : Sm l) (hm : Sm m) : numsF [.one (.sl (rowsN l)), .one (.sl (rowsN m))] = some (.a (.one (.bool (decide (l = m))))) := byEnc_eq (x := (l, m)) encNs_inj ⟨h, hm⟩
theorem nums_ok : FnPure Try.prog 11 numsF := by
  (refine fn_pure' (f := 11) mixed Try.func11 rfl (fun X => { nt := 26, tt := tt, fns := ofList [], keep := keep11, X := X }) (fun X => ok_of tt_ok trivial (noEqs _)) (fun _ => rfl) (fun _ => rfl) (by decide) Try.results11 numsF ?_)
  intro l r hq
  obtain ⟨⟨l, m⟩, rfl, ⟨hl, hm⟩, hr⟩ := byEnc_some hq
  clear hq
  simp only [Sm] at hl hm hr
  refine ⟨by simp [encNs, Try.ntmps11], fun X nx R hR => ?_⟩
  simp only [encNs]
  (repeat ((try simp only [cl_seq, cl_skip]); with_reducible refine cg fun K hK => ?_; (simp (maxSteps := 1000000) only [go_sem]); (repeat refine ck ?_); (try simp (disch := omega) only [wrap64, wrapi64]); refine hK _ ?_; clear hK K))
  (((try simp only [cl_seq, cl_skip]); refine cl_cond rfl (fun hc => ?_) (fun hc => ?_)))
  · simp only [bne_iff_ne, ne_eq, Int.natCast_inj] at hc
    (repeat ((try simp only [cl_seq, cl_skip]); with_reducible refine cg fun K hK => ?_; (simp (maxSteps := 1000000) only [go_sem]); (repeat refine ck ?_); (try simp (disch := omega) only [wrap64, wrapi64]); refine hK _ ?_; clear hK K))
    (((try simp only [cl_seq, cl_skip]); (try simp only [cl_ret]); refine hR _ _ (.inr rfl) ?_; (simp (maxSteps := 1000000) only [go_sem])))
    rw [hr]
    have : l ≠ m := fun e => hc (by rw [e])
    simp [this]
  · simp only [bne_eq_false_iff_eq, Int.natCast_inj] at hc
    (repeat ((try simp only [cl_seq, cl_skip]); with_reducible refine cg fun K hK => ?_; (simp (maxSteps := 1000000) only [go_sem]); (repeat refine ck ?_); (try simp (disch := omega) only [wrap64, wrapi64]); refine hK _ ?_; clear hK K))
    (((try simp only [cl_seq, cl_skip]); refine cl_block fun K hK1 R hR1 X hX1 => ?_))
    refine cl_loop (fun E n => ∃ i : Nat, i ≤ l.length ∧ l.take i = m.take i ∧ n = l.length - i ∧ E = mk [(1000000, .heap (fun _ => none) nx), (5, .v (.one (.int .i64 i))), (0, .v (.one (.sl (rowsN l)))), (1, .v (.one (.sl (rowsN m))))]) l.length ⟨0, by omega, rfl, by omega, rfl⟩ ?_
    rintro E n ⟨i, hi, hti, rfl, rfl⟩ J hJ R2 hR2 X2 hX2
    (repeat ((try simp only [cl_seq, cl_skip]); with_reducible refine cg fun K hK => ?_; (simp (maxSteps := 1000000) only [go_sem]); (repeat refine ck ?_); (try simp (disch := omega) only [wrap64, wrapi64]); refine hK _ ?_; clear hK K))
    (((try simp only [cl_seq, cl_skip]); refine cl_cond rfl (fun hd => ?_) (fun hd => ?_)))
    · simp only [decide_eq_true_eq, Int.ofNat_lt] at hd
      have hd2 : i < m.length := by omega
      (((try simp only [cl_seq, cl_skip]); refine cl_block fun K hK3 R hR3 X hX3 => ?_))
      (repeat ((try simp only [cl_seq, cl_skip]); with_reducible refine cg fun K hK => ?_; (simp (maxSteps := 1000000) only [go_sem, hd, hd2]); (repeat refine ck ?_); (try simp (disch := omega) only [wrap64, wrapi64]); refine hK _ ?_; clear hK K))
      (((try simp only [cl_seq, cl_skip]); refine cl_cond rfl (fun he => ?_) (fun he => ?_)))
      · simp only [bne_iff_ne, ne_eq] at he
        (repeat ((try simp only [cl_seq, cl_skip]); with_reducible refine cg fun K hK => ?_; (simp (maxSteps := 1000000) only [go_sem]); (repeat refine ck ?_); (try simp (disch := omega) only [wrap64, wrapi64]); refine hK _ ?_; clear hK K))
        simp only [cl_ret]
        refine hR3 _ (hR2 _ (hR1 _ ?_))
        (((try simp only [cl_seq, cl_skip]); (try simp only [cl_ret]); refine hR _ _ (.inr rfl) ?_; (simp (maxSteps := 1000000) only [go_sem])))
        rw [hr]
        have : l ≠ m := fun e => he (by subst e; rfl)
        simp [this]
      · simp only [bne_eq_false_iff_eq] at he
        ((try simp only [cl_seq, cl_skip, cl_exit, cl_nil]))
        refine hK3 _ ?_
        (repeat ((try simp only [cl_seq, cl_skip]); with_reducible refine cg fun K hK => ?_; (simp (maxSteps := 1000000) only [go_sem, wrapi64 (n := (i : Int) + 1) (by omega) (by omega)]); (repeat refine ck ?_); (try simp (disch := omega) only [wrap64, wrapi64]); refine hK _ ?_; clear hK K))
        ((try simp only [cl_seq, cl_skip, cl_exit, cl_nil]))
        refine hJ _ (l.length - (i + 1)) (by omega) ⟨i + 1, by omega, ?_, rfl, rfl⟩
        rw [take_one l i hd, take_one m i hd2, hti, he]
    · simp only [decide_eq_false_iff_not, Int.ofNat_lt] at hd
      have hil : i = l.length := by omega
      subst hil
      ((try simp only [cl_seq, cl_skip, cl_exit, cl_nil]))
      refine hX2 0 _ (hK1 _ ?_)
      (repeat ((try simp only [cl_seq, cl_skip]); with_reducible refine cg fun K hK => ?_; (simp (maxSteps := 1000000) only [go_sem]); (repeat refine ck ?_); (try simp (disch := omega) only [wrap64, wrapi64]); refine hK _ ?_; clear hK K))
      (((try simp only [cl_seq, cl_skip]); (try simp only [cl_ret]); refine hR _ _ (.inr rfl) ?_; (simp (maxSteps := 1000000) only [go_sem])))
      rw [hr]
      have : l = m := by
        rw [List.take_length, hc, List.take_length] at hti
        exact hti
      simp [this]
end Go.Proofs.Ytapdaefpkddioaa.Pe
