/- A part of the proof of PmD. -/
import Derived.Test.YtapdaefpkddioaaCa0
import Derived.Test.YtapdaefpkddioaaCa1
set_option linter.unusedSimpArgs false
set_option linter.unusedVariables false
set_option linter.unusedSectionVars false
namespace Go.Proofs.Ytapdaefpkddioaa.Pe
open Go
set_option maxHeartbeats 4000000
theorem valB_sm {s : St} (w : s.Wk) (b : Bk) : Sm (valB s b) := by
  unfold valB Sm
  split
  · exact dataV_len w _
  · simp
def sameB (b a : Vb) : Bool := a.b.off == b.b.off && a.b.size == b.b.size && a.b.owner == b.b.owner && a.b.len == b.b.len && decide (a.v = b.v)
theorem view_len {s : St} (w : s.Wk) : (viewV s).length ≤ 22000 := by
  unfold viewV; rw [List.length_map]; exact w.hi.len
theorem view_sm {s : St} (w : s.Wk) : ∀ x ∈ viewV s, Sm x.v ∧ 0 ≤ x.b.owner ∧ x.b.owner ≤ 8 := by
  intro x hx
  obtain ⟨b, hb, rfl⟩ := List.mem_map.1 hx
  exact ⟨valB_sm w b, (w.hi.bs b hb).own0, (w.hi.bs b hb).own1⟩
theorem view_apart {s : St} (w : s.Wk) (nm : NmOk s) {c : Int} {op : Opn} (ho : op.ok) : ∀ x ∈ viewV s, x.b.used = true → x.b.owner ≠ 0 → x.b.owner ≠ c + 1 → (viewV (doV s c op).1).any (sameB x) = true := by
  intro x hx hu h0 h1
  obtain ⟨b, hb, rfl⟩ := List.mem_map.1 hx
  obtain ⟨k1, k2⟩ := do_kept w nm (c := c) ho hb hu h0 h1
  refine List.any_eq_true.2 ⟨⟨b, valB (doV s c op).1 b⟩, List.mem_map.2 ⟨b, k1, rfl⟩, ?_⟩
  have hu' : b.used = true := hu
  have : valB (doV s c op).1 b = valB s b := by
    unfold valB
    rw [hu', if_pos rfl, if_pos rfl, dataV_eq, dataV_eq, k2]
  simp [sameB, this]
noncomputable def Cx3 : (Nat → Prop) → Ctx := fun X => { nt := 123, tt := tt, fns := ofList [(5, .eff awakeT), (6, .pure fewF), (7, .eff playedT), (8, .eff blocksT), (9, .eff doMF), (10, .pure resolveF), (11, .pure numsF)], keep := keep3, X := X, eqs := fun t => t == 30 || t == 47 }
noncomputable def apartT : List AD → Hp → Nat → Option (RV × Hp × Nat) := semT Try.f3 Cx3 Try.f3.results
theorem apart_ok : FnEff Try.prog 3 apartT := semT_ok mixed Try.func3 rfl (fun X => ok_of (l := [(5, .eff awakeT), (6, .pure fewF), (7, .eff playedT), (8, .eff blocksT), (9, .eff doMF), (10, .pure resolveF), (11, .pure numsF)]) tt_ok ⟨awake_ok, by kernel_rfl, few_ok, by kernel_rfl, played_ok, by kernel_rfl, blocksT_ok, by kernel_rfl, doM_ok, by kernel_rfl, resolve_ok, by kernel_rfl, nums_ok, by kernel_rfl, trivial⟩ eqsOk) (fun _ => rfl) (fun _ => rfl) (by decide) rfl
theorem apart_run {H : Hp} {nx : Nat} (hf : ∀ o, nx ≤ o → H o = none) {l : List Cl} {d : Cl} (hok : ∀ x ∈ l, x.ok) (hd : d.ok) (d0 : -9223372036854775808 ≤ d.cl) (d1 : d.cl ≤ 9223372036854775807) :
    ∃ H' nx', apartT [.one (.sl (rowsK l)), .many d.c] H nx = some (.a (.one (.bool true)), H', nx') := by
  obtain ⟨H1, n1, ha, hf1⟩ := awake_run hf
  have hfe := fewF_eq l
  by_cases hw : Few l ∧ d.op.name.size ≤ 60
  · obtain ⟨hw, hnm⟩ := hw
    obtain ⟨S, B, M, ml, H2, n2, hp, hm⟩ := played_run hf1 hw hok
    have hb1 := blocks_run hm
    have hres := resolveF_eq hm.wk hd
    obtain ⟨ro, rn⟩ := resolveV_ok hm.wk hd
    obtain ⟨B3, ml3, H3, n3, he, hm3⟩ := do_run (c := d.cl) (op := resolveV (playV l) d) (by omega) hm ro (by rw [rn]; omega)
    have hb2 := blocks_run hm3
    have hap := view_apart hm.wk hm.nm (c := d.cl) ro
    have hsv := view_sm hm.wk
    have hsw := view_sm hm3.wk
    have hvl := view_len hm.wk
    have hwl := view_len hm3.wk
    have a1 := hm.wk.sh.ls8
    have a2 := hm.wk.lv8
    refine ⟨H3, n3, ?_⟩
    generalize doV (playV l) d.cl (resolveV (playV l) d) = D at *
    obtain ⟨t, r1, r2, r3⟩ := D
    simp only at hm3 hb2 hap hsw hwl
    generalize resolveV (playV l) d = op at *
    generalize playV l = s at *
    generalize viewV s = bv at *
    generalize viewV t = av at *
    unfold apartT
    rw [Try.results3]
    refine semT_eq rfl (by simp [Try.ntmps3]) fun X R hR => ?_
    unfold Cx3 at hR ⊢
    simp only [hw, decide_true] at hfe
    simp only [St.c, stc, Opn.c, Cl.c_lit, resC] at hp hres he
    simp only [Cl.c_lit]
    (repeat ((try simp only [cl_seq, cl_skip]); with_reducible refine cg fun K hK => ?_; (simp (maxSteps := 1000000) only [go_sem, Nat.reduceBEq, Bool.or_false, Bool.or_true, ha, hfe, Bool.not_true, show decide ((60 : Int) < d.op.name.size) = false by simp; omega]); (repeat refine ck ?_); (try simp (disch := omega) only [wrap64, wrapi64]); refine hK _ ?_; clear hK K))
    (((try simp only [cl_seq, cl_skip]); refine cl_cond (b := false) rfl (fun h => nomatch h) (fun _ => ?_)))
    (repeat ((try simp only [cl_seq, cl_skip]); with_reducible refine cg fun K hK => ?_; (simp (maxSteps := 1000000) only [go_sem, Nat.reduceBEq, Bool.or_false, Bool.or_true, hp, hb1, hres, he, hb2, a1, a2]); (repeat refine ck ?_); (try simp (disch := omega) only [wrap64, wrapi64]); refine hK _ ?_; clear hK K))
    (((try simp only [cl_seq, cl_skip]); refine cl_block fun K hK1 R hR1 X hX1 => ?_))
    refine cl_loop (fun E n => ∃ i : Nat, i ≤ bv.length ∧ n = bv.length - i ∧ E = mk [(1000000, .heap H3 n3), (11, .v (.one (.int .i64 i))), (3, .box 0 d.c), (5, .v (.one (.bool true))), (8, .v (.one (.bool true))), (9, .v (.one (.sl (rowsVb bv)))), (10, .v (.one (.sl (rowsVb av))))]) bv.length ⟨0, by omega, by omega, by simp only [Cl.c_lit]; rfl⟩ ?_
    rintro E n ⟨i, hi, rfl, rfl⟩ J hJ R2 hR2 X2 hX2
    simp only [Cl.c_lit]
    (repeat ((try simp only [cl_seq, cl_skip]); with_reducible refine cg fun K hK => ?_; (simp (maxSteps := 1000000) only [go_sem, Nat.reduceBEq, Bool.or_false, Bool.or_true]); (repeat refine ck ?_); (try simp (disch := omega) only [wrap64, wrapi64]); refine hK _ ?_; clear hK K))
    (((try simp only [cl_seq, cl_skip]); refine cl_cond rfl (fun hc => ?_) (fun hc => ?_)))
    · simp only [decide_eq_true_eq, Int.ofNat_lt] at hc
      have hbi := hsv _ (List.getElem_mem hc)
      have hapi := hap _ (List.getElem_mem hc)
      (((try simp only [cl_seq, cl_skip]); refine cl_block fun K hK3 R hR3 X hX3 => ?_))
      obtain ⟨hbs, hb0, hb8⟩ := hbi
      generalize hx : bv[i] = x at *
      (repeat ((try simp only [cl_seq, cl_skip]); with_reducible refine cg fun K hK => ?_; (simp (maxSteps := 1000000) only [go_sem, Nat.reduceBEq, Bool.or_false, Bool.or_true, hc, hx, Vb.c_eq]); (repeat refine ck ?_); (try simp (disch := omega) only [wrap64, wrapi64]); refine hK _ ?_; clear hK K))
      cases hu : x.b.used with
      | false =>
        (repeat ((try simp only [cl_seq, cl_skip]); with_reducible refine cg fun K hK => ?_; (simp (maxSteps := 1000000) only [go_sem, Nat.reduceBEq, Bool.or_false, Bool.or_true, hu, Bool.not_false]); (repeat refine ck ?_); (try simp (disch := omega) only [wrap64, wrapi64]); refine hK _ ?_; clear hK K))
        (((try simp only [cl_seq, cl_skip]); refine cl_cond (b := true) rfl (fun _ => ?_) (fun h => nomatch h)))
        ((try simp only [cl_seq, cl_skip, cl_exit, cl_nil]))
        simp only [↓reduceIte]
        refine hK3 _ ?_
        (repeat ((try simp only [cl_seq, cl_skip]); with_reducible refine cg fun K hK => ?_; (simp (maxSteps := 1000000) only [go_sem, Nat.reduceBEq, Bool.or_false, Bool.or_true, wrapi64 (n := (i : Int) + 1) (by omega) (by omega)]); (repeat refine ck ?_); (try simp (disch := omega) only [wrap64, wrapi64]); refine hK _ ?_; clear hK K))
        ((try simp only [cl_seq, cl_skip, cl_exit, cl_nil]))
        exact hJ _ (bv.length - (i + 1)) (by omega) ⟨i + 1, by omega, rfl, by simp only [Cl.c_lit]; rfl⟩
      | true =>
        by_cases h0 : x.b.owner = 0
        · (repeat ((try simp only [cl_seq, cl_skip]); with_reducible refine cg fun K hK => ?_; (simp (maxSteps := 1000000) only [go_sem, Nat.reduceBEq, Bool.or_false, Bool.or_true, hu, Bool.not_true, h0, beq_self_eq_true]); (repeat refine ck ?_); (try simp (disch := omega) only [wrap64, wrapi64]); refine hK _ ?_; clear hK K))
          (((try simp only [cl_seq, cl_skip]); refine cl_cond (b := true) rfl (fun _ => ?_) (fun h => nomatch h)))
          ((try simp only [cl_seq, cl_skip, cl_exit, cl_nil]))
          simp only [↓reduceIte]
          refine hK3 _ ?_
          (repeat ((try simp only [cl_seq, cl_skip]); with_reducible refine cg fun K hK => ?_; (simp (maxSteps := 1000000) only [go_sem, Nat.reduceBEq, Bool.or_false, Bool.or_true, wrapi64 (n := (i : Int) + 1) (by omega) (by omega)]); (repeat refine ck ?_); (try simp (disch := omega) only [wrap64, wrapi64]); refine hK _ ?_; clear hK K))
          ((try simp only [cl_seq, cl_skip, cl_exit, cl_nil]))
          exact hJ _ (bv.length - (i + 1)) (by omega) ⟨i + 1, by omega, rfl, by simp only [Cl.c_lit]; rfl⟩
        · have h0' : (x.b.owner == 0) = false := by simpa using h0
          by_cases h9 : x.b.owner = IntKind.i64.wrap (d.cl + 1)
          · have h9' : (x.b.owner == IntKind.i64.wrap (d.cl + 1)) = true := by simpa using h9
            (repeat ((try simp only [cl_seq, cl_skip]); with_reducible refine cg fun K hK => ?_; (simp (maxSteps := 1000000) only [go_sem, Nat.reduceBEq, Bool.or_false, Bool.or_true, hu, Bool.not_true, h0', h9']); (repeat refine ck ?_); (try simp (disch := omega) only [wrap64, wrapi64]); refine hK _ ?_; clear hK K))
            (((try simp only [cl_seq, cl_skip]); refine cl_cond (b := true) rfl (fun _ => ?_) (fun h => nomatch h)))
            ((try simp only [cl_seq, cl_skip, cl_exit, cl_nil]))
            simp only [↓reduceIte]
            refine hK3 _ ?_
            (repeat ((try simp only [cl_seq, cl_skip]); with_reducible refine cg fun K hK => ?_; (simp (maxSteps := 1000000) only [go_sem, Nat.reduceBEq, Bool.or_false, Bool.or_true, wrapi64 (n := (i : Int) + 1) (by omega) (by omega)]); (repeat refine ck ?_); (try simp (disch := omega) only [wrap64, wrapi64]); refine hK _ ?_; clear hK K))
            ((try simp only [cl_seq, cl_skip, cl_exit, cl_nil]))
            exact hJ _ (bv.length - (i + 1)) (by omega) ⟨i + 1, by omega, rfl, by simp only [Cl.c_lit]; rfl⟩
          · have h9' : (x.b.owner == IntKind.i64.wrap (d.cl + 1)) = false := by simpa using h9
            have hne : x.b.owner ≠ d.cl + 1 := by
              intro e
              apply h9
              rw [← e]
              exact (wrapi64 (by omega) (by omega)).symm
            have hany := hapi hu h0 hne
            (repeat ((try simp only [cl_seq, cl_skip]); with_reducible refine cg fun K hK => ?_; (simp (maxSteps := 1000000) only [go_sem, Nat.reduceBEq, Bool.or_false, Bool.or_true, hu, Bool.not_true, h0', h9']); (repeat refine ck ?_); (try simp (disch := omega) only [wrap64, wrapi64]); refine hK _ ?_; clear hK K))
            (((try simp only [cl_seq, cl_skip]); refine cl_cond (b := false) rfl (fun h => nomatch h) (fun _ => ?_)))
            (repeat ((try simp only [cl_seq, cl_skip]); with_reducible refine cg fun K hK => ?_; (simp (maxSteps := 1000000) only [go_sem, Nat.reduceBEq, Bool.or_false, Bool.or_true]); (repeat refine ck ?_); (try simp (disch := omega) only [wrap64, wrapi64]); refine hK _ ?_; clear hK K))
            (((try simp only [cl_seq, cl_skip]); refine cl_block fun K hL1 R hS1 X hY1 => ?_))
            refine cl_loop (fun E n => ∃ k : Nat, k ≤ av.length ∧ n = av.length - k ∧ E = mk [(1000000, .heap H3 n3), (14, .v (.one (.int .i64 k))), (3, .box 0 d.c), (5, .v (.one (.bool true))), (8, .v (.one (.bool true))), (9, .v (.one (.sl (rowsVb bv)))), (10, .v (.one (.sl (rowsVb av)))), (11, .v (.one (.int .i64 i))), (12, .box 0 [.int .u64 x.b.off, .int .u64 x.b.size, .bool true, .int .i64 x.b.owner, .int .u64 x.b.len, .sl (rowsN x.v)]), (13, .v (.one (.bool ((av.take k).any (sameB x)))))]) av.length ⟨0, by omega, by omega, by simp only [Cl.c_lit]; rfl⟩ ?_
            rintro E n ⟨k, hk, rfl, rfl⟩ J' hJ' R3 hR3' X3 hX3'
            simp only [Cl.c_lit]
            (repeat ((try simp only [cl_seq, cl_skip]); with_reducible refine cg fun K hK => ?_; (simp (maxSteps := 1000000) only [go_sem, Nat.reduceBEq, Bool.or_false, Bool.or_true]); (repeat refine ck ?_); (try simp (disch := omega) only [wrap64, wrapi64]); refine hK _ ?_; clear hK K))
            (((try simp only [cl_seq, cl_skip]); refine cl_cond rfl (fun hc2 => ?_) (fun hc2 => ?_)))
            · simp only [decide_eq_true_eq, Int.ofNat_lt] at hc2
              obtain ⟨hys, hy0, hy8⟩ := hsw _ (List.getElem_mem hc2)
              have hstep : (av.take (k + 1)).any (sameB x) = ((av.take k).any (sameB x) || sameB x av[k]) := by
                rw [take_one av k hc2, List.any_append]; simp
              generalize hy : av[k] = y at *
              have hnums := numsF_eq hys hbs
              generalize hth : (av.take k).any (sameB x) = th at *
              (((try simp only [cl_seq, cl_skip]); refine cl_block fun K hL3 R hS3 X hY3 => ?_))
              (repeat ((try simp only [cl_seq, cl_skip]); with_reducible refine cg fun K hK => ?_; (simp (maxSteps := 1000000) only [go_sem, Nat.reduceBEq, Bool.or_false, Bool.or_true, hc2, hy, Vb.c_eq]); (repeat refine ck ?_); (try simp (disch := omega) only [wrap64, wrapi64]); refine hK _ ?_; clear hK K))
              have hfin : ∀ E', E' = mk [(1000000, .heap H3 n3), (14, .v (.one (.int .i64 ((k + 1 : Nat) : Int)))), (3, .box 0 d.c), (5, .v (.one (.bool true))), (8, .v (.one (.bool true))), (9, .v (.one (.sl (rowsVb bv)))), (10, .v (.one (.sl (rowsVb av)))), (11, .v (.one (.int .i64 i))), (12, .box 0 [.int .u64 x.b.off, .int .u64 x.b.size, .bool true, .int .i64 x.b.owner, .int .u64 x.b.len, .sl (rowsN x.v)]), (13, .v (.one (.bool (th || sameB x y))))] → J' E' := fun E' hE => hJ' _ (av.length - (k + 1)) (by omega) ⟨k + 1, by omega, rfl, by rw [hstep]; exact hE⟩
              cases th with
              | true =>
                (repeat ((try simp only [cl_seq, cl_skip]); with_reducible refine cg fun K hK => ?_; (simp (maxSteps := 1000000) only [go_sem, Nat.reduceBEq, Bool.or_false, Bool.or_true]); (repeat refine ck ?_); (try simp (disch := omega) only [wrap64, wrapi64]); refine hK _ ?_; clear hK K))
                ((try simp only [cl_seq, cl_skip, cl_exit, cl_nil]))
                refine hL3 _ ?_
                (repeat ((try simp only [cl_seq, cl_skip]); with_reducible refine cg fun K hK => ?_; (simp (maxSteps := 1000000) only [go_sem, Nat.reduceBEq, Bool.or_false, Bool.or_true, wrapi64 (n := (k : Int) + 1) (by omega) (by omega)]); (repeat refine ck ?_); (try simp (disch := omega) only [wrap64, wrapi64]); refine hK _ ?_; clear hK K))
                ((try simp only [cl_seq, cl_skip, cl_exit, cl_nil]))
                exact hfin _ (by simp only [Cl.c_lit, Bool.true_or]; rfl)
              | false =>
                (((try simp only [cl_seq, cl_skip]); refine cl_reg_b (g := ?g131) (t := ?t131) (L := ?L131) ((sameB x y)) (fun K hK => ?h1131) ?h2131; case' h1131 => (simp (maxSteps := 1000000) only [go_sem, Nat.reduceBEq, Bool.or_false, Bool.or_true, hnums]); (repeat refine ck ?_); (repeat' (((refine ite_split (fun hb => ?_) (fun hb => ?_) <;> ((try (simp (maxSteps := 1000000) only [go_sem, hb, Nat.reduceBEq, Bool.or_false, Bool.or_true, hnums])); (repeat refine ck ?_)))))); all_goals (first | ((try simp (disch := omega) only [wrap64, wrapi64]); refine hK _ ?_; clear hK K; first | rfl | grind | skip) | skip)))
                all_goals try (simp [sameB, *]; done)
                ((try simp only [cl_seq, cl_skip, cl_exit, cl_nil]))
                refine hL3 _ ?_
                (repeat ((try simp only [cl_seq, cl_skip]); with_reducible refine cg fun K hK => ?_; (simp (maxSteps := 1000000) only [go_sem, Nat.reduceBEq, Bool.or_false, Bool.or_true, wrapi64 (n := (k : Int) + 1) (by omega) (by omega)]); (repeat refine ck ?_); (try simp (disch := omega) only [wrap64, wrapi64]); refine hK _ ?_; clear hK K))
                ((try simp only [cl_seq, cl_skip, cl_exit, cl_nil]))
                exact hfin _ (by simp only [Cl.c_lit, Bool.false_or]; rfl)
            · simp only [decide_eq_false_iff_not, Int.ofNat_lt] at hc2
              have hkl : k = av.length := by omega
              subst hkl
              rw [List.take_length, hany]
              ((try simp only [cl_seq, cl_skip, cl_exit, cl_nil]))
              refine hX3' 2 _ (hL1 _ ?_)
              (repeat ((try simp only [cl_seq, cl_skip]); with_reducible refine cg fun K hK => ?_; (simp (maxSteps := 1000000) only [go_sem, Nat.reduceBEq, Bool.or_false, Bool.or_true, Bool.not_true]); (repeat refine ck ?_); (try simp (disch := omega) only [wrap64, wrapi64]); refine hK _ ?_; clear hK K))
              (((try simp only [cl_seq, cl_skip]); refine cl_cond (b := false) rfl (fun h => nomatch h) (fun _ => ?_)))
              ((try simp only [cl_seq, cl_skip, cl_exit, cl_nil]))
              refine hK3 _ ?_
              (repeat ((try simp only [cl_seq, cl_skip]); with_reducible refine cg fun K hK => ?_; (simp (maxSteps := 1000000) only [go_sem, Nat.reduceBEq, Bool.or_false, Bool.or_true, wrapi64 (n := (i : Int) + 1) (by omega) (by omega)]); (repeat refine ck ?_); (try simp (disch := omega) only [wrap64, wrapi64]); refine hK _ ?_; clear hK K))
              ((try simp only [cl_seq, cl_skip, cl_exit, cl_nil]))
              exact hJ _ (bv.length - (i + 1)) (by omega) ⟨i + 1, by omega, rfl, by simp only [Cl.c_lit]; rfl⟩
    · simp only [decide_eq_false_iff_not, Int.ofNat_lt] at hc
      ((try simp only [cl_seq, cl_skip, cl_exit, cl_nil]))
      refine hX2 0 _ (hK1 _ ?_)
      (repeat ((try simp only [cl_seq, cl_skip]); with_reducible refine cg fun K hK => ?_; (simp (maxSteps := 1000000) only [go_sem, Nat.reduceBEq, Bool.or_false, Bool.or_true]); (repeat refine ck ?_); (try simp (disch := omega) only [wrap64, wrapi64]); refine hK _ ?_; clear hK K))
      (((try simp only [cl_seq, cl_skip]); (try simp only [cl_ret]); refine hR _ _ (.inr rfl) ?_; (simp (maxSteps := 1000000) only [go_sem])))
  · refine ⟨H1, n1, ?_⟩
    unfold apartT
    rw [Try.results3]
    refine semT_eq rfl (by simp [Try.ntmps3]) fun X R hR => ?_
    unfold Cx3 at hR ⊢
    simp only [Cl.c_lit]
    by_cases hw1 : Few l
    · have hnm : (60 : Int) < d.op.name.size := by
        have : ¬ d.op.name.size ≤ 60 := fun h => hw ⟨hw1, h⟩
        omega
      simp only [hw1, decide_true] at hfe
      (repeat ((try simp only [cl_seq, cl_skip]); with_reducible refine cg fun K hK => ?_; (simp (maxSteps := 1000000) only [go_sem, Nat.reduceBEq, Bool.or_false, Bool.or_true, ha, hfe, Bool.not_true, show decide ((60 : Int) < d.op.name.size) = true by simpa using hnm]); (repeat refine ck ?_); (try simp (disch := omega) only [wrap64, wrapi64]); refine hK _ ?_; clear hK K))
      (((try simp only [cl_seq, cl_skip]); refine cl_cond (b := true) rfl (fun _ => ?_) (fun h => nomatch h)))
      (repeat ((try simp only [cl_seq, cl_skip]); with_reducible refine cg fun K hK => ?_; (simp (maxSteps := 1000000) only [go_sem, Nat.reduceBEq]); (repeat refine ck ?_); (try simp (disch := omega) only [wrap64, wrapi64]); refine hK _ ?_; clear hK K))
      (((try simp only [cl_seq, cl_skip]); (try simp only [cl_ret]); refine hR _ _ (.inr rfl) ?_; (simp (maxSteps := 1000000) only [go_sem])))
    · simp only [hw1, decide_false] at hfe
      (repeat ((try simp only [cl_seq, cl_skip]); with_reducible refine cg fun K hK => ?_; (simp (maxSteps := 1000000) only [go_sem, Nat.reduceBEq, Bool.or_false, Bool.or_true, ha, hfe, Bool.not_false]); (repeat refine ck ?_); (try simp (disch := omega) only [wrap64, wrapi64]); refine hK _ ?_; clear hK K))
      (((try simp only [cl_seq, cl_skip]); refine cl_cond (b := true) rfl (fun _ => ?_) (fun h => nomatch h)))
      (repeat ((try simp only [cl_seq, cl_skip]); with_reducible refine cg fun K hK => ?_; (simp (maxSteps := 1000000) only [go_sem, Nat.reduceBEq]); (repeat refine ck ?_); (try simp (disch := omega) only [wrap64, wrapi64]); refine hK _ ?_; clear hK K))
      (((try simp only [cl_seq, cl_skip]); (try simp only [cl_ret]); refine hR _ _ (.inr rfl) ?_; (simp (maxSteps := 1000000) only [go_sem])))
end Go.Proofs.Ytapdaefpkddioaa.Pe
