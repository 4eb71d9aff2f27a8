/- A part of the proof of PmE. -/
import Derived.Test.YtapdaefpkddioaaCr0
set_option linter.unusedSimpArgs false
set_option linter.unusedVariables false
set_option linter.unusedSectionVars false
namespace Go.Proofs.Ytapdaefpkddioaa.Pe
open Go
set_option maxHeartbeats 4000000
theorem u64_0 : U64 0 := ⟨by decide, by decide⟩
theorem opAl_ok {n : Int} (h : U64 n) : (opAl n).ok := ⟨h, u64_0, u64_0, u64_0, u64_0⟩
noncomputable def Cx4 : (Nat → Prop) → Ctx := fun X => { nt := 129, tt := tt, fns := ofList [(5, .eff awakeT), (6, .pure fewF), (7, .eff playedT), (8, .eff blocksT), (9, .eff doMF), (12, .pure needF)], keep := keep4, X := X, eqs := fun t => t == 4 || (t == 30 || t == 47) }
noncomputable def roomT : List AD → Hp → Nat → Option (RV × Hp × Nat) := semT Try.f4 Cx4 Try.f4.results
theorem room_ok : FnEff Try.prog 4 roomT := semT_ok mixed Try.func4 rfl (fun X => ok_of (l := [(5, .eff awakeT), (6, .pure fewF), (7, .eff playedT), (8, .eff blocksT), (9, .eff doMF), (12, .pure needF)]) tt_ok ⟨awake_ok, by kernel_rfl, few_ok, by kernel_rfl, played_ok, by kernel_rfl, blocksT_ok, by kernel_rfl, doM_ok, by kernel_rfl, need_ok, by kernel_rfl, trivial⟩ eqsOk4) (fun _ => rfl) (fun _ => rfl) (by decide) rfl
def roomL (need : Int) (l : List Vb) : Bool := l.any fun x => roomB need x.b
def sumL (l : List Vb) : Int := sizes (l.map (·.b))
theorem roomL_snoc (need : Int) (l : List Vb) (x : Vb) : roomL need (l ++ [x]) = (roomL need l || roomB need x.b) := by simp [roomL]
theorem sumL_snoc (l : List Vb) (x : Vb) : sumL (l ++ [x]) = sumL l + x.b.size := by simp [sumL, sizes]
theorem room_run {H : Hp} {nx : Nat} (hf : ∀ o, nx ≤ o → H o = none) {l : List Cl} {n : Int} (hok : ∀ x ∈ l, x.ok) (hn : U64 n) :
    ∃ H' nx', roomT [.one (.sl (rowsK l)), .one (.int .u64 n)] H nx = some (.a (.one (.bool true)), H', nx') := by
  obtain ⟨H1, n1, ha, hf1⟩ := awake_run hf
  have hfe := fewF_eq l
  by_cases hw : Few l
  · obtain ⟨S, B, M, ml, H2, n2, hp, hm⟩ := played_run hf1 hw hok
    have hb1 := blocks_run hm
    obtain ⟨B3, ml3, H3, n3, he3, hm3⟩ := do_run (c := 0) (op := opT) (by omega) hm opT_ok (by decide)
    obtain ⟨B4, ml4, H4, n4, he4, hm4⟩ := do_run (c := 0) (op := opAl n) (by omega) hm3 (opAl_ok hn) (show (⟨#[]⟩ : ByteArray).size < 100000000 by decide)
    obtain ⟨ah, al⟩ := att0 hm.wk
    rw [alloc0 al] at he4
    have hr := take_room hm3.wk 1 n
    rw [ah] at hr
    have wk := hm.wk
    have hvl : (viewV (playV l)).map (·.b) = (playV l).h.bl := by simp [viewV, Function.comp_def]
    have nd := needF_eq hn
    have h8 := wk.sh.ls8
    have h8' := wk.lv8
    refine ⟨H4, n4, ?_⟩
    generalize takeSV (doV (playV l) 0 opT).1 1 n 16 = T at *
    obtain ⟨T1, te, tp⟩ := T
    generalize doV (playV l) 0 opT = D at *
    obtain ⟨t, r1, r2, r3⟩ := D
    simp only at hr he3 he4
    generalize playV l = s at *
    have hbl : ∀ x ∈ viewV s, x.b ∈ s.h.bl := fun x hx => by rw [← hvl]; exact List.mem_map.2 ⟨_, hx, rfl⟩
    have hlen : (viewV s).length ≤ 22000 := by have := wk.hi.len; rw [← hvl, List.length_map] at this; exact this
    have hmg : ∀ (i : Nat) (x y : Vb), (viewV s)[i]? = some x → (viewV s)[i + 1]? = some y → x.b.used = true ∨ y.b.used = true := fun i x y hx hy => by
      have e1 : s.h.bl[i]? = some x.b := by rw [← hvl, List.getElem?_map, hx]; rfl
      have e2 : s.h.bl[i + 1]? = some y.b := by rw [← hvl, List.getElem?_map, hy]; rfl
      obtain ⟨h1, e1⟩ := List.getElem?_eq_some_iff.1 e1
      obtain ⟨h2, e2⟩ := List.getElem?_eq_some_iff.1 e2
      have := merged_at wk.hi.mg i h2
      rw [e1, e2] at this
      exact this
    have hsz : ∀ b ∈ s.h.bl, 48 ≤ b.size := fun b hb => (wk.hi.bs b hb).size0
    have hsum : ∀ i : Nat, 0 ≤ sumL ((viewV s).take i) ∧ sumL ((viewV s).take i) ≤ 100000 := fun i => by
      have h1 := sizes_take2 (l := s.h.bl) (fun b hb => by have := hsz b hb; omega) i
      have h2 := chain_sizes wk.hi.ch
      have h3 := wk.fin1
      unfold sumL
      rw [List.map_take, hvl]
      omega
    have htot : sumL (viewV s) = s.h.fin - 3776 := by unfold sumL; rw [hvl]; exact chain_sizes wk.hi.ch
    have hany : ∀ need, roomL need (viewV s) = s.h.bl.any (roomB need) := fun need => by rw [← hvl, List.any_map]; rfl
    generalize viewV s = bv at *
    unfold roomT
    rw [Try.results4]
    refine semT_eq rfl (by simp [Try.ntmps4]) fun X R hR => ?_
    unfold Cx4 at hR ⊢
    simp only [hw, decide_true] at hfe
    simp only [St.c, stc, Opn.c, opT, opAl, resC] at hp he3 he4
    have htl : (D.sl (rowsB s.h.bl) :: (rowsL s.h.ls ++ (D.sl (rowsW s.data) :: (D.sl (rowsE s.names) :: rowsO s.live)))).length = 19 := by
      rw [List.length_cons, List.length_append, rowsL_len, List.length_cons, List.length_cons, rowsO_len, h8, h8']
    generalize D.sl (rowsB s.h.bl) :: (rowsL s.h.ls ++ (D.sl (rowsW s.data) :: (D.sl (rowsE s.names) :: rowsO s.live))) = tl at *
    (repeat ((try simp only [cl_seq, cl_skip]); with_reducible refine cg fun K hK => ?_; (simp (maxSteps := 1000000) only [go_sem, Nat.reduceBEq, Bool.or_false, Bool.or_true, ha, hfe, Bool.not_true]); (repeat refine ck ?_); (try simp (disch := omega) only [wrap64, wrapi64]); refine hK _ ?_; clear hK K))
    (((try simp only [cl_seq, cl_skip]); refine cl_cond (b := false) rfl (fun h => nomatch h) (fun _ => ?_)))
    (repeat ((try simp only [cl_seq, cl_skip]); with_reducible refine cg fun K hK => ?_; (simp (maxSteps := 1000000) only [go_sem, Nat.reduceBEq, Bool.or_false, Bool.or_true, hp, hb1, htl, nd, optV]); (repeat refine ck ?_); (try simp (disch := omega) only [wrap64, wrapi64]); refine hK _ ?_; clear hK K))
    (((try simp only [cl_seq, cl_skip]); refine cl_block fun K hK1 R hR1 X hX1 => ?_))
    have wk1 := wk.fin1
    have fin0 := hm.pos
    generalize hneed : (needV n).getD 0 = nd0 at *
    generalize hfit : (needV n).isSome = fit at *
    refine cl_loop (fun E k => ∃ i : Nat, i ≤ bv.length ∧ k = bv.length - i ∧ E = mk [(1000000, .heap H2 n2), (14, .v (.one (.int .i64 i))), (1, .v (.one (.int .u64 n))), (5, .v (.one (.bool true))), (6, .v (.one (.ptr S 12 0 0))), (7, .box 0 (.int .u64 s.all :: .int .u64 s.h.fin :: tl)), (8, .v (.one (.bool true))), (9, .v (.one (.int .u64 nd0))), (10, .v (.one (.bool fit))), (11, .v (.one (.bool (roomL nd0 (bv.take i))))), (12, .v (.one (.int .u64 (sumL (bv.take i))))), (13, .v (.one (.sl (rowsVb bv))))]) bv.length ⟨0, by omega, by omega, rfl⟩ ?_
    rintro E k ⟨i, hi, rfl, rfl⟩ J hJ R2 hR2 X2 hX2
    (repeat ((try simp only [cl_seq, cl_skip]); with_reducible refine cg fun K hK => ?_; (simp (maxSteps := 1000000) only [go_sem, Nat.reduceBEq, Bool.or_false, Bool.or_true]); (repeat refine ck ?_); (try simp (disch := omega) only [wrap64, wrapi64]); refine hK _ ?_; clear hK K))
    (((try simp only [cl_seq, cl_skip]); refine cl_cond rfl (fun hc => ?_) (fun hc => ?_)))
    · simp only [decide_eq_true_eq, Int.ofNat_lt] at hc
      have hs0 := hsum i
      have hs1 := hsum (i + 1)
      have hstep : bv.take (i + 1) = bv.take i ++ [bv[i]] := take_one bv i hc
      have hxm : bv[i]? = some bv[i] := List.getElem?_eq_getElem hc
      have hend : ∀ E', E' = mk [(1000000, .heap H2 n2), (14, .v (.one (.int .i64 ((i + 1 : Nat) : Int)))), (1, .v (.one (.int .u64 n))), (5, .v (.one (.bool true))), (6, .v (.one (.ptr S 12 0 0))), (7, .box 0 (.int .u64 s.all :: .int .u64 s.h.fin :: tl)), (8, .v (.one (.bool true))), (9, .v (.one (.int .u64 nd0))), (10, .v (.one (.bool fit))), (11, .v (.one (.bool (roomL nd0 (bv.take i) || roomB nd0 bv[i].b)))), (12, .v (.one (.int .u64 (sumL (bv.take i) + bv[i].b.size)))), (13, .v (.one (.sl (rowsVb bv))))] → J E' := fun E' hE => hJ _ (bv.length - (i + 1)) (by omega) ⟨i + 1, by omega, rfl, by rw [hstep, roomL_snoc, sumL_snoc]; exact hE⟩
      rw [hstep, sumL_snoc] at hs1
      generalize hx : bv[i] = x at *
      generalize hth : roomL nd0 (bv.take i) = th at *
      generalize sumL (bv.take i) = sm at *
      (((try simp only [cl_seq, cl_skip]); refine cl_block fun K hK3 R hR3 X hX3 => ?_))
      by_cases h0 : i = 0
      · subst h0
        cases hu : x.b.used <;> cases th <;> (
          (repeat ((try simp only [cl_seq, cl_skip]); with_reducible refine cg fun K hK => ?_; (simp (maxSteps := 1000000) only [go_sem, hc, hx, Vb.c_eq, wrap64 (n := sm + x.b.size) (by omega) (by omega), Nat.reduceBEq, hu, Bool.not_true, Bool.not_false, Bool.or_false, Bool.or_true, Bool.true_and, ge_iff_le, show decide ((0 : Int) < ((0 : Nat) : Int)) = false from rfl]); (repeat refine ck ?_); (try simp (disch := omega) only [wrap64, wrapi64]); refine hK _ ?_; clear hK K))
          (((try simp only [cl_seq, cl_skip]); refine cl_cond (b := false) rfl (fun h => nomatch h) (fun _ => ?_)))
          ((try simp only [cl_seq, cl_skip, cl_exit, cl_nil]))
          refine hK3 _ ?_
          (repeat ((try simp only [cl_seq, cl_skip]); with_reducible refine cg fun K hK => ?_; (simp (maxSteps := 1000000) only [go_sem, Nat.reduceBEq, Bool.or_false, wrapi64 (n := ((0 : Nat) : Int) + 1) (by omega) (by omega)]); (repeat refine ck ?_); (try simp (disch := omega) only [wrap64, wrapi64]); refine hK _ ?_; clear hK K))
          ((try simp only [cl_seq, cl_skip, cl_exit, cl_nil]))
          exact hend _ (by simp only [roomB, hu, Bool.not_true, Bool.not_false, Bool.true_and, Bool.false_and, Bool.or_false, Bool.true_or, Bool.false_or]; rfl))
      · obtain ⟨k, rfl⟩ : ∃ k, i = k + 1 := ⟨i - 1, by omega⟩
        have hck : k < bv.length := by omega
        have hym : bv[k]? = some bv[k] := List.getElem?_eq_getElem hck
        have hxy := hmg k bv[k] x hym hxm
        generalize hy : bv[k] = y at *
        have hw1 : IntKind.i64.wrap (((k + 1 : Nat) : Int) - 1) = ((k : Nat) : Int) := by rw [wrapi64 (by omega) (by omega)]; omega
        have hp0 : decide ((0 : Int) < ((k + 1 : Nat) : Int)) = true := decide_eq_true (by omega)
        have hwk : IntKind.i64.wrap (((k + 1 : Nat) : Int) + 1) = ((k + 1 : Nat) : Int) + 1 := wrapi64 (by omega) (by omega)
        cases hu : x.b.used with
        | true =>
          cases th <;> (
            (repeat ((try simp only [cl_seq, cl_skip]); with_reducible refine cg fun K hK => ?_; (simp (maxSteps := 1000000) only [go_sem, hc, hx, Vb.c_eq, wrap64 (n := sm + x.b.size) (by omega) (by omega), Nat.reduceBEq, hu, Bool.not_true, Bool.not_false, Bool.or_false, Bool.or_true, Bool.true_and, ge_iff_le, hp0]); (repeat refine ck ?_); (try simp (disch := omega) only [wrap64, wrapi64]); refine hK _ ?_; clear hK K))
            (((try simp only [cl_seq, cl_skip]); refine cl_cond (b := false) rfl (fun h => nomatch h) (fun _ => ?_)))
            ((try simp only [cl_seq, cl_skip, cl_exit, cl_nil]))
            refine hK3 _ ?_
            (repeat ((try simp only [cl_seq, cl_skip]); with_reducible refine cg fun K hK => ?_; (simp (maxSteps := 1000000) only [go_sem, Nat.reduceBEq, Bool.or_false, hwk]); (repeat refine ck ?_); (try simp (disch := omega) only [wrap64, wrapi64]); refine hK _ ?_; clear hK K))
            ((try simp only [cl_seq, cl_skip, cl_exit, cl_nil]))
            exact hend _ (by simp only [roomB, hu, Bool.not_true, Bool.not_false, Bool.true_and, Bool.false_and, Bool.or_false, Bool.true_or, Bool.false_or]; rfl))
        | false =>
          have hyu : y.b.used = true := by
            rcases hxy with h | h
            · exact h
            · rw [hu] at h; cases h
          cases th <;> (
            (repeat ((try simp only [cl_seq, cl_skip]); with_reducible refine cg fun K hK => ?_; (simp (maxSteps := 1000000) only [go_sem, hc, hx, Vb.c_eq, wrap64 (n := sm + x.b.size) (by omega) (by omega), Nat.reduceBEq, hu, Bool.not_true, Bool.not_false, Bool.or_false, Bool.or_true, Bool.true_and, ge_iff_le, hp0, hyu, hy, hck, hw1]); (repeat refine ck ?_); (try simp (disch := omega) only [wrap64, wrapi64]); refine hK _ ?_; clear hK K))
            (((try simp only [cl_seq, cl_skip]); refine cl_cond (b := false) rfl (fun h => nomatch h) (fun _ => ?_)))
            ((try simp only [cl_seq, cl_skip, cl_exit, cl_nil]))
            refine hK3 _ ?_
            (repeat ((try simp only [cl_seq, cl_skip]); with_reducible refine cg fun K hK => ?_; (simp (maxSteps := 1000000) only [go_sem, Nat.reduceBEq, Bool.or_false, hwk]); (repeat refine ck ?_); (try simp (disch := omega) only [wrap64, wrapi64]); refine hK _ ?_; clear hK K))
            ((try simp only [cl_seq, cl_skip, cl_exit, cl_nil]))
            exact hend _ (by simp only [roomB, hu, Bool.not_true, Bool.not_false, Bool.true_and, Bool.false_and, Bool.or_false, Bool.true_or, Bool.false_or]; rfl))
    · simp only [decide_eq_false_iff_not, Int.ofNat_lt] at hc
      have hil : i = bv.length := by omega
      subst hil
      rw [List.take_length]
      ((try simp only [cl_seq, cl_skip, cl_exit, cl_nil]))
      refine hX2 0 _ (hK1 _ ?_)
      cases hnd : needV n with
      | none =>
        rw [hnd] at hr hfit
        simp only [Option.isSome_none] at hr hfit
        subst hr hfit
        (repeat ((try simp only [cl_seq, cl_skip]); with_reducible refine cg fun K hK => ?_; (simp (maxSteps := 1000000) only [go_sem, Nat.reduceBEq, Bool.or_false, he3, he4, Bool.not_false]); (repeat refine ck ?_); (try simp (disch := omega) only [wrap64, wrapi64]); refine hK _ ?_; clear hK K))
        (((try simp only [cl_seq, cl_skip]); refine cl_cond (b := true) rfl (fun _ => ?_) (fun h => nomatch h)))
        (repeat ((try simp only [cl_seq, cl_skip]); with_reducible refine cg fun K hK => ?_; (simp (maxSteps := 1000000) only [go_sem, Nat.reduceBEq]); (repeat refine ck ?_); (try simp (disch := omega) only [wrap64, wrapi64]); refine hK _ ?_; clear hK K))
        (((try simp only [cl_seq, cl_skip]); (try simp only [cl_ret]); refine hR _ _ (.inr rfl) ?_; (simp (maxSteps := 1000000) only [go_sem, beq_self_eq_true])))
      | some m =>
        rw [hnd] at hr hfit hneed
        simp only [Option.isSome_some, Option.getD_some] at hr hfit hneed
        subst hfit hneed
        rw [← hany] at hr
        (repeat ((try simp only [cl_seq, cl_skip]); with_reducible refine cg fun K hK => ?_; (simp (maxSteps := 1000000) only [go_sem, Nat.reduceBEq, Bool.or_false, he3, he4, Bool.not_true]); (repeat refine ck ?_); (try simp (disch := omega) only [wrap64, wrapi64]); refine hK _ ?_; clear hK K))
        (((try simp only [cl_seq, cl_skip]); refine cl_cond (b := false) rfl (fun h => nomatch h) (fun _ => ?_)))
        rw [htot]
        cases hro : roomL m bv with
        | true =>
          rw [hro, if_pos rfl] at hr
          subst hr
          (repeat ((try simp only [cl_seq, cl_skip]); with_reducible refine cg fun K hK => ?_; (simp (maxSteps := 1000000) only [go_sem, Nat.reduceBEq, Bool.or_false, wrap64 (n := s.h.fin - 3776) (by omega) (by omega), beq_self_eq_true, Int.reduceBEq, Int.reduceBNe]); (repeat refine ck ?_); (try simp (disch := omega) only [wrap64, wrapi64]); refine hK _ ?_; clear hK K))
          (((try simp only [cl_seq, cl_skip]); (try simp only [cl_ret]); refine hR _ _ (.inr rfl) ?_; (simp (maxSteps := 1000000) only [go_sem])))
        | false =>
          rw [hro, if_neg (by simp)] at hr
          subst hr
          (repeat ((try simp only [cl_seq, cl_skip]); with_reducible refine cg fun K hK => ?_; (simp (maxSteps := 1000000) only [go_sem, Nat.reduceBEq, Bool.or_false, wrap64 (n := s.h.fin - 3776) (by omega) (by omega), beq_self_eq_true, Int.reduceBEq, Int.reduceBNe]); (repeat refine ck ?_); (try simp (disch := omega) only [wrap64, wrapi64]); refine hK _ ?_; clear hK K))
          (((try simp only [cl_seq, cl_skip]); (try simp only [cl_ret]); refine hR _ _ (.inr rfl) ?_; (simp (maxSteps := 1000000) only [go_sem])))
  · refine ⟨H1, n1, ?_⟩
    unfold roomT
    rw [Try.results4]
    refine semT_eq rfl (by simp [Try.ntmps4]) fun X R hR => ?_
    unfold Cx4 at hR ⊢
    simp only [hw, decide_false] at hfe
    (repeat ((try simp only [cl_seq, cl_skip]); with_reducible refine cg fun K hK => ?_; (simp (maxSteps := 1000000) only [go_sem, Nat.reduceBEq, Bool.or_false, Bool.or_true, ha, hfe, Bool.not_false]); (repeat refine ck ?_); (try simp (disch := omega) only [wrap64, wrapi64]); refine hK _ ?_; clear hK K))
    (((try simp only [cl_seq, cl_skip]); refine cl_cond (b := true) rfl (fun _ => ?_) (fun h => nomatch h)))
    (repeat ((try simp only [cl_seq, cl_skip]); with_reducible refine cg fun K hK => ?_; (simp (maxSteps := 1000000) only [go_sem, Nat.reduceBEq]); (repeat refine ck ?_); (try simp (disch := omega) only [wrap64, wrapi64]); refine hK _ ?_; clear hK K))
    (((try simp only [cl_seq, cl_skip]); (try simp only [cl_ret]); refine hR _ _ (.inr rfl) ?_; (simp (maxSteps := 1000000) only [go_sem])))
end Go.Proofs.Ytapdaefpkddioaa.Pe
