/- A part of the proof of PpC. -/
import Derived.Test.YtapdaefpkddioaaGreatCb43
import Derived.Test.YtapdaefpkddioaaGreatCd0
set_option linter.unusedSimpArgs false
set_option linter.unusedVariables false
set_option linter.unusedSectionVars false
namespace Go.Proofs.YtapdaefpkddioaaGreat.Pe
open Go
set_option maxHeartbeats 4000000
theorem kill_used {s : St} (w : s.Wk) {c : Int} (c0 : 0 ≤ c) (c1 : c ≤ 9223372036854775807) : ∀ x ∈ viewV (killV s c), x.b.used = true → x.b.owner ≠ IntKind.i64.wrap (c + 1) := by
  intro x hx hu
  obtain ⟨b, hb, rfl⟩ := List.mem_map.1 hx
  have hu : b.used = true := hu
  show b.owner ≠ _
  by_cases hc : 7 < c
  · unfold killV at hb
    rw [if_pos (.inr hc)] at hb
    have o1 := (w.hi.bs b hb).own0
    have o2 := (w.hi.bs b hb).own1
    by_cases he : c = 9223372036854775807
    · subst he
      rw [show IntKind.i64.wrap (9223372036854775807 + 1) = -9223372036854775808 by decide +kernel]
      omega
    · rw [wrapi64 (by omega) (by omega)]; omega
  · obtain ⟨k, rfl⟩ : ∃ k : Nat, c = k := ⟨c.toNat, by omega⟩
    rw [wrapi64 (by omega) (by omega)]
    unfold killV at hb
    rw [if_neg (by omega)] at hb
    have hkl : k < s.h.ls.length := by have := w.hi.eight; omega
    simp only [Int.toNat_natCast, List.getElem?_eq_getElem hkl, Option.getD_some] at hb
    have ow := w.hi.own k hkl
    have hx : ∀ x ∈ s.h.ls[k], ∃ b ∈ s.h.bl, b.used = true ∧ b.off = x := fun x hx => by
      obtain ⟨b, h1, h2, _, h4⟩ := (ow.mem x).1 hx
      exact ⟨b, h1, h2, h4⟩
    have hfu := freedAll_used s.h.ls[k] w ow.nd hx
    have hm : b ∈ (freedAll s s.h.ls[k]).h.bl.filter (·.used) := List.mem_filter.2 ⟨hb, hu⟩
    rw [hfu, List.mem_filter, List.mem_filter] at hm
    obtain ⟨⟨h1, h2⟩, h3⟩ := hm
    intro ho
    exact (of_decide_eq_true h3) ((ow.mem b.off).2 ⟨b, h1, h2, ho, rfl⟩)
theorem kill_att {s : St} (w : s.Wk) (c : Int) : (doV (killV s c) c opT).2.1 = if 0 ≤ c ∧ c < 8 then 0 else 1 := by
  unfold doV
  rw [show opT.kind = 15 from rfl]
  by_cases hc : 0 ≤ c ∧ c < 8
  · have : (killV s c).live[c.toNat]?.getD false = false := by
      unfold killV
      rw [if_neg (by omega)]
      simp only [List.getElem?_set, ↓reduceIte]
      split <;> rfl
    rw [if_neg (by omega), if_neg (by simp), if_pos rfl, this, if_pos hc]
    rfl
  · rw [if_pos (by omega), if_neg hc]
noncomputable def Cx1005 : (Nat → Prop) → Ctx := fun X => { nt := 81, tt := tt, fns := ofList [(7, .eff awakeT), (8, .pure fewF), (9, .eff playedT), (13, .eff killMF), (14, .pure killF), (15, .eff blocksT), (10, .eff sameT), (11, .eff doMF)], keep := keep5, X := X, eqs := fun t => t == 4 || (t == 25 || t == 46) }
noncomputable def diesT : List AD → Hp → Nat → Option (RV × Hp × Nat) := semT Tryz.f5 Cx1005 Tryz.f5.results
theorem dies_ok : FnEff Tryz.prog 5 diesT := semT_ok mixed Tryz.func5 rfl (fun X => ok_of (l := [(7, .eff awakeT), (8, .pure fewF), (9, .eff playedT), (13, .eff killMF), (14, .pure killF), (15, .eff blocksT), (10, .eff sameT), (11, .eff doMF)]) tt_ok ⟨awake_ok, by kernel_rfl, few_ok, by kernel_rfl, played_ok, by kernel_rfl, killM_ok, by kernel_rfl, kill_ok, by kernel_rfl, blocksT_ok, by kernel_rfl, same_ok, by kernel_rfl, doM_ok, by kernel_rfl, trivial⟩ eqsOk4) (fun _ => rfl) (fun _ => rfl) (by decide) rfl
theorem dies_run {H : Hp} {nx : Nat} (hf : ∀ o, nx ≤ o → H o = none) {l : List Cl} {c : Int} (hok : ∀ x ∈ l, x.ok) (d0 : -9223372036854775808 ≤ c) (d1 : c ≤ 9223372036854775807) :
    ∃ H' nx', diesT [.one (.sl (rowsK l)), .one (.int .i64 c)] H nx = some (.a (.one (.bool true)), H', nx') := by
  obtain ⟨H1, n1, ha, hf1⟩ := awake_run hf
  have hfe := fewF_eq l
  by_cases hw : Few l
  · obtain ⟨S, B, M, ml, H2, n2, hp, hm⟩ := played_run hf1 hw hok
    obtain ⟨B3, ml3, H3, n3, hk, hm3⟩ := kill_ms hm c
    have hkr := killF_eq (c := c) hm.wk
    have hb := blocks_run hm3
    have hs := same_run hm3
    obtain ⟨B4, ml4, H4, n4, he, hm4⟩ := do_run (c := c) (op := opT) (by omega) hm3 opT_ok (by decide)
    have hno := fun h0 => kill_used hm.wk (c := c) h0 d1
    have hat := kill_att hm.wk c
    have hvl : (viewV (killV (playV l) c)).length ≤ 22000 := by unfold viewV; rw [List.length_map]; exact hm3.wk.hi.len
    have h8 := hm.wk.sh.ls8
    have h8' := hm.wk.lv8
    have g8 := hm3.wk.sh.ls8
    have g8' := hm3.wk.lv8
    refine ⟨H4, n4, ?_⟩
    generalize doV (killV (playV l) c) c opT = D at *
    obtain ⟨t, r1, r2, r3⟩ := D
    have hat : r1 = _ := hat
    generalize killV (playV l) c = k at *
    generalize viewV k = bv at *
    generalize playV l = s at *
    unfold diesT
    rw [Tryz.results5]
    refine semT_eq rfl (by simp [Tryz.ntmps5]) fun X R hR => ?_
    unfold Cx1005 at hR ⊢
    simp only [hw, decide_true] at hfe
    simp only [St.c, stc, resC] at hp hkr hs he
    have htl : (D.sl (rowsB s.h.bl) :: (rowsL s.h.ls ++ (D.sl (rowsW s.data) :: (D.sl (rowsE s.names) :: rowsO s.live)))).length = 19 := by
      rw [List.length_cons, List.length_append, rowsL_len, List.length_cons, List.length_cons, rowsO_len, h8, h8']
    have htl' : (D.sl (rowsB k.h.bl) :: (rowsL k.h.ls ++ (D.sl (rowsW k.data) :: (D.sl (rowsE k.names) :: rowsO k.live)))).length = 19 := by
      rw [List.length_cons, List.length_append, rowsL_len, List.length_cons, List.length_cons, rowsO_len, g8, g8']
    generalize D.sl (rowsB s.h.bl) :: (rowsL s.h.ls ++ (D.sl (rowsW s.data) :: (D.sl (rowsE s.names) :: rowsO s.live))) = tl at *
    generalize D.sl (rowsB k.h.bl) :: (rowsL k.h.ls ++ (D.sl (rowsW k.data) :: (D.sl (rowsE k.names) :: rowsO k.live))) = tk at *
    have htk : tl.take 19 = tl := by rw [← htl, List.take_length]
    have htk' : tk.take 19 = tk := by rw [← htl', List.take_length]
    (repeat ((try simp only [cl_seq, cl_skip]); with_reducible refine cg fun K hK => ?_; (simp (maxSteps := 1000000) only [go_sem, ha, hfe]); (repeat refine ck ?_); (try simp (disch := omega) only [wrap64, wrapi64]); refine hK _ ?_; clear hK K))
    (((try simp only [cl_seq, cl_skip]); refine cl_cond (b := false) rfl (fun h => nomatch h) (fun _ => ?_)))
    (repeat ((try simp only [cl_seq, cl_skip]); with_reducible refine cg fun K hK => ?_; (simp (maxSteps := 1000000) only [go_sem, hp, htl, htk, hk, hkr, htl', htk', hb]); (repeat refine ck ?_); (try simp (disch := omega) only [wrap64, wrapi64]); refine hK _ ?_; clear hK K))
    (((try simp only [cl_seq, cl_skip]); refine cl_block fun K hK1 R hR1 X hX1 => ?_))
    refine cl_loop (fun E n => ∃ i : Nat, i ≤ bv.length ∧ n = bv.length - i ∧ E = mk [(1000000, .heap H3 n3), (11, .v (.one (.int .i64 i))), (1, .v (.one (.int .i64 c))), (5, .v (.one (.bool true))), (6, .v (.one (.ptr S 12 0 0))), (8, .v (.one (.bool true))), (9, .box 0 (.int .u64 k.all :: .int .u64 k.h.fin :: tk)), (10, .v (.one (.sl (rowsVb bv))))]) bv.length ⟨0, by omega, by omega, rfl⟩ ?_
    rintro E n ⟨i, hi, rfl, rfl⟩ J hJ R2 hR2 X2 hX2
    (repeat ((try simp only [cl_seq, cl_skip]); with_reducible refine cg fun K hK => ?_; (simp (maxSteps := 1000000) only [go_sem]); (repeat refine ck ?_); (try simp (disch := omega) only [wrap64, wrapi64]); refine hK _ ?_; clear hK K))
    (((try simp only [cl_seq, cl_skip]); refine cl_cond rfl (fun hc => ?_) (fun hc => ?_)))
    · simp only [decide_eq_true_eq, Int.ofNat_lt] at hc
      have hbi := fun h0 => hno h0 _ (List.getElem_mem hc)
      (((try simp only [cl_seq, cl_skip]); refine cl_block fun K hK3 R hR3 X hX3 => ?_))
      generalize hx : bv[i] = x at *
      have hpre : (x.b.owner == IntKind.i64.wrap (c + 1)) = true → x.b.used = true → decide (c ≥ 0) = false := by
        intro e1 e2
        rw [decide_eq_false_iff_not]
        intro h0
        exact hbi h0 e2 (by simpa using e1)
      (((try simp only [cl_seq, cl_skip]); refine cl_reg_b (g := ?g133) (t := ?t133) (L := ?L133) false (fun K hK => ?h1133) ?h2133; case' h1133 => (simp (maxSteps := 1000000) only [go_sem, hc, hx, Vb.c]); (repeat refine ck ?_); (repeat' (((refine ite_split (fun hb => ?_) (fun hb => ?_) <;> ((try (simp (maxSteps := 1000000) only [go_sem, hb, hc, hx, Vb.c])); (repeat refine ck ?_)))))); all_goals (first | ((try simp (disch := omega) only [wrap64, wrapi64]); refine hK _ ?_; clear hK K; first | rfl | grind | skip) | skip)))
      all_goals try (rw [← hpre (by assumption) (by assumption)]; done)
      (((try simp only [cl_seq, cl_skip]); refine cl_cond (b := false) rfl (fun h => nomatch h) (fun _ => ?_)))
      ((try simp only [cl_seq, cl_skip, cl_exit, cl_nil]))
      refine hK3 _ ?_
      (repeat ((try simp only [cl_seq, cl_skip]); with_reducible refine cg fun K hK => ?_; (simp (maxSteps := 1000000) only [go_sem, wrapi64 (n := (i : Int) + 1) (by omega) (by omega)]); (repeat refine ck ?_); (try simp (disch := omega) only [wrap64, wrapi64]); refine hK _ ?_; clear hK K))
      ((try simp only [cl_seq, cl_skip, cl_exit, cl_nil]))
      exact hJ _ (bv.length - (i + 1)) (by omega) ⟨i + 1, by omega, rfl, rfl⟩
    · simp only [decide_eq_false_iff_not, Int.ofNat_lt] at hc
      ((try simp only [cl_seq, cl_skip, cl_exit, cl_nil]))
      refine hX2 0 _ (hK1 _ ?_)
      (repeat ((try simp only [cl_seq, cl_skip]); with_reducible refine cg fun K hK => ?_; (simp (maxSteps := 1000000) only [go_sem, htl', htk', hs]); (repeat refine ck ?_); (try simp (disch := omega) only [wrap64, wrapi64]); refine hK _ ?_; clear hK K))
      (((try simp only [cl_seq, cl_skip]); refine cl_cond (b := false) rfl (fun h => nomatch h) (fun _ => ?_)))
      simp only [opT, Opn.c] at he
      by_cases hi1 : 0 ≤ c ∧ c < 8
      · rw [if_pos hi1] at hat
        subst hat
        (repeat ((try simp only [cl_seq, cl_skip]); with_reducible refine cg fun K hK => ?_; (simp (maxSteps := 1000000) only [go_sem, he, beq_self_eq_true, show decide (c ≥ 0) = true from decide_eq_true hi1.1, show decide (c < 8) = true from decide_eq_true hi1.2]); (repeat refine ck ?_); (try simp (disch := omega) only [wrap64, wrapi64]); refine hK _ ?_; clear hK K))
        (((try simp only [cl_seq, cl_skip]); (try simp only [cl_ret]); refine hR _ _ (.inr rfl) ?_; (simp (maxSteps := 1000000) only [go_sem])))
      · rw [if_neg hi1] at hat
        subst hat
        by_cases hc0 : 0 ≤ c
        · (repeat ((try simp only [cl_seq, cl_skip]); with_reducible refine cg fun K hK => ?_; (simp (maxSteps := 1000000) only [go_sem, he, beq_self_eq_true, show decide (c ≥ 0) = true from decide_eq_true hc0, show decide (c < 8) = false from decide_eq_false (by omega)]); (repeat refine ck ?_); (try simp (disch := omega) only [wrap64, wrapi64]); refine hK _ ?_; clear hK K))
          (((try simp only [cl_seq, cl_skip]); (try simp only [cl_ret]); refine hR _ _ (.inr rfl) ?_; (simp (maxSteps := 1000000) only [go_sem])))
          rfl
        · (repeat ((try simp only [cl_seq, cl_skip]); with_reducible refine cg fun K hK => ?_; (simp (maxSteps := 1000000) only [go_sem, he, beq_self_eq_true, show decide (c ≥ 0) = false from decide_eq_false (by omega)]); (repeat refine ck ?_); (try simp (disch := omega) only [wrap64, wrapi64]); refine hK _ ?_; clear hK K))
          (((try simp only [cl_seq, cl_skip]); (try simp only [cl_ret]); refine hR _ _ (.inr rfl) ?_; (simp (maxSteps := 1000000) only [go_sem])))
          rfl
  · refine ⟨H1, n1, ?_⟩
    unfold diesT
    rw [Tryz.results5]
    refine semT_eq rfl (by simp [Tryz.ntmps5]) fun X R hR => ?_
    unfold Cx1005 at hR ⊢
    simp only [hw, decide_false] at hfe
    (repeat ((try simp only [cl_seq, cl_skip]); with_reducible refine cg fun K hK => ?_; (simp (maxSteps := 1000000) only [go_sem, ha, hfe]); (repeat refine ck ?_); (try simp (disch := omega) only [wrap64, wrapi64]); refine hK _ ?_; clear hK K))
    (((try simp only [cl_seq, cl_skip]); refine cl_cond (b := true) rfl (fun _ => ?_) (fun h => nomatch h)))
    (repeat ((try simp only [cl_seq, cl_skip]); with_reducible refine cg fun K hK => ?_; (simp (maxSteps := 1000000) only [go_sem]); (repeat refine ck ?_); (try simp (disch := omega) only [wrap64, wrapi64]); refine hK _ ?_; clear hK K))
    (((try simp only [cl_seq, cl_skip]); (try simp only [cl_ret]); refine hR _ _ (.inr rfl) ?_; (simp (maxSteps := 1000000) only [go_sem])))
end Go.Proofs.YtapdaefpkddioaaGreat.Pe
