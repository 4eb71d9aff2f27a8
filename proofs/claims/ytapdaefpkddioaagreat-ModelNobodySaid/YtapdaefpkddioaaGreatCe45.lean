/- A part of the proof of PmD. -/
import Derived.Test.YtapdaefpkddioaaGreatCb15
import Derived.Test.YtapdaefpkddioaaGreatCe42
import Derived.Test.YtapdaefpkddioaaGreatCe44
import Derived.Test.YtapdaefpkddioaaGreatCe39
set_option linter.unusedSimpArgs false
set_option linter.unusedVariables false
set_option linter.unusedSectionVars false
namespace Go.Proofs.YtapdaefpkddioaaGreat.Pe
open Go
set_option maxHeartbeats 4000000
theorem Vb.c_inj {x y : Vb} (h : x.c = y.c) : x = y := by
 obtain ⟨⟨a, b, c, d, e⟩, v⟩ := x; obtain ⟨⟨a', b', c', d', e'⟩, v'⟩ := y
 simp only [Vb.c, List.cons.injEq, D.int.injEq, D.bool.injEq, D.sl.injEq, true_and, and_true] at h
 obtain ⟨rfl, rfl, rfl, rfl, rfl, h⟩ := h
 rw [rowsN_inj h]
def encVV (x : Vb) : List AD := [.many x.c, .many x.c]
theorem encVV_inj (x y : Vb) (h : encVV x = encVV y) : x = y := by
 simp only [encVV, List.cons.injEq, AD.many.injEq, and_true, and_self] at h
 exact Vb.c_inj h
noncomputable def madeF : List AD → Option RV := byEnc encVV (fun x => Sm x.v) fun _ => .a (.one (.bool true))
theorem madeF_eq {x : Vb} (h : Sm x.v) : madeF [.many x.c, .many x.c] = some (.a (.one (.bool true))) := byEnc_eq (x := x) encVV_inj h
theorem made_ok : FnPure Tryz.prog 27 madeF := by
 refine fn_pure' (f := 27) mixed Tryz.func27 rfl (fun X => { nt := 53, tt := tt, fns := ofList [(60, .pure numsF)], keep := keep27, X := X, eqs := fun t => t == 4 || (t == 25 || t == 46) }) (fun X => ok_of tt_ok ⟨nums_ok, by kernel_rfl, trivial⟩ eqsOk4) (fun _ => rfl) (fun _ => rfl) (by decide) Tryz.results27 madeF ?_
 intro l r hq
 obtain ⟨x, rfl, hv, hr⟩ := byEnc_some hq
 clear hq
 have hn := numsF_eq hv hv
 obtain ⟨⟨a, b, c, d, e⟩, v⟩ := x
 simp only at hn hr
 refine ⟨by simp [encVV, Tryz.ntmps27], fun X nx R hR => ?_⟩
 simp only [encVV, Vb.c]
 (repeat ((try simp only [cZ]); with_reducible refine cg fun K hK => ?_; simp only [go_sem, hn, beq_self_eq_true]; (repeat refine ck ?_); (try simp (disch := omega) only [wZ]); refine hK _ ?_; clear hK K))
 (((try simp only [cZ]); (try simp only [cl_ret]); refine hR _ _ (.inr rfl) ?_; (simp only [go_sem])))
 rw [hr]
noncomputable def blocksRF : List AD → Option RV := byEnc encSt (fun x => x.1.Wk) fun x => .a (.one (.sl (rowsVb (viewV x.1))))
theorem blocksRF_eq {s : St} (h : s.Wk) : blocksRF [.many s.c] = some (.a (.one (.sl (rowsVb (viewV s))))) := byEnc_eq (x := (⟨s, h.sh⟩ : Sst)) encSt_inj h
theorem blocksR_ok : FnPure Tryz.prog 23 blocksRF := by
 (refine fn_pure' (f := 23) mixed Tryz.func23 rfl (fun X => { nt := 37, tt := tt, fns := ofList ([(59, .pure dataF)]), keep := keep23, X := X }) (fun X => ok_of tt_ok (⟨data_ok, by kernel_rfl, trivial⟩) (noEqs _)) (fun _ => rfl) (fun _ => rfl) (by decide) Tryz.results23 blocksRF ?_)
 intro l r hq
 obtain ⟨⟨s, hs⟩, rfl, hw, hr⟩ := byEnc_some hq
 clear hq
 simp only at hr hw
 have h8 := hs.ls8
 have h8' := hs.lv8
 have hb := hw.hi.len
 have hde := fun off => dataF_eq (off := off) hw
 have hmem := fun (b : Bk) (hb : b ∈ s.h.bl) => hw.hi.mem hb
 have f1 := hw.fin1
 refine ⟨by simp [encSt, Tryz.ntmps23], fun X nx R hR => ?_⟩
 simp only [St.c, stc] at hde
 simp only [encSt, St.c, stc]
 (repeat ((try simp only [cZ]); with_reducible refine cg fun K hK => ?_; simp only [go_sem, h8, h8']; (repeat refine ck ?_); (try simp (disch := omega) only [wZ]); refine hK _ ?_; clear hK K))
 (((try simp only [cZ]); refine cl_block fun K hK1 R hR1 X hX1 => ?_))
 have hvl : (viewV s).length = s.h.bl.length := by simp [viewV]
 refine cl_loop (fun E n => ∃ i : Nat, i ≤ s.h.bl.length ∧ n = s.h.bl.length - i ∧ E = mk [(1000000, .heap (fun _ => none) nx), (4, .v (.one (.int .i64 i))), (1, .box 0 (.int .u64 s.all :: .int .u64 s.h.fin :: .sl (rowsB s.h.bl) :: (rowsL s.h.ls ++ (.sl (rowsW s.data) :: .sl (rowsE s.names) :: rowsO s.live)))), (3, .own 0 79 6 (rowsVb ((viewV s).take i)))]) s.h.bl.length ⟨0, by omega, by omega, rfl⟩ ?_
 rintro E n ⟨i, hi, rfl, rfl⟩ J hJ R2 hR2 X2 hX2
 (repeat ((try simp only [cZ]); with_reducible refine cg fun K hK => ?_; simp only [go_sem, h8, h8']; (repeat refine ck ?_); (try simp (disch := omega) only [wZ]); refine hK _ ?_; clear hK K))
 (((try simp only [cZ]); refine cl_cond rfl (fun hc => ?_) (fun hc => ?_)))
 ·simp only [decide_eq_true_eq, Int.ofNat_lt] at hc
  have hc2 : i < (viewV s).length := by omega
  have hm := hmem _ (List.getElem_mem hc)
  have hg := (hw.hi.bs _ (List.getElem_mem hc))
  have hstep : (viewV s).take (i + 1) = (viewV s).take i ++ [⟨s.h.bl[i], valB s s.h.bl[i]⟩] := by
   rw [take_one _ i hc2]
   simp [viewV]
  have g0 := hg.size0
  generalize hx : s.h.bl[i] = x at *
  (((try simp only [cZ]); refine cl_block fun K hK3 R hR3 X hX3 => ?_))
  obtain ⟨a, b, u, o, n⟩ := x
  simp only at hm g0
  cases u with
  | true =>
   (repeat ((try simp only [cZ]); with_reducible refine cg fun K hK => ?_; simp only [go_sem, h8, h8', hc, hx, Bk.c]; (repeat refine ck ?_); (try simp (disch := omega) only [wZ]); refine hK _ ?_; clear hK K))
   (((try simp only [cZ]); refine cl_cond (b := true) rfl (fun _ => ?_) (fun h => nomatch h)))
   (repeat ((try simp only [cZ]); with_reducible refine cg fun K hK => ?_; simp only [go_sem, h8, h8', wrap64 (n := a + 32) (by omega) (by omega), hde]; (repeat refine ck ?_); (try simp (disch := omega) only [wZ]); refine hK _ ?_; clear hK K))
   ((try simp only [cZ, cl_exit, cl_nil]))
   refine hK3 _ ?_
   (repeat ((try simp only [cZ]); with_reducible refine cg fun K hK => ?_; simp only [go_sem, wrapi64 (n := (i : Int) + 1) (by omega) (by omega)]; (repeat refine ck ?_); (try simp (disch := omega) only [wZ]); refine hK _ ?_; clear hK K))
   ((try simp only [cZ, cl_exit, cl_nil]))
   refine hJ _ (s.h.bl.length - (i + 1)) (by omega) ⟨i + 1, by omega, rfl, ?_⟩
   rw [hstep]
   rfl
  | false =>
   (repeat ((try simp only [cZ]); with_reducible refine cg fun K hK => ?_; simp only [go_sem, h8, h8', hc, hx, Bk.c]; (repeat refine ck ?_); (try simp (disch := omega) only [wZ]); refine hK _ ?_; clear hK K))
   (((try simp only [cZ]); refine cl_cond (b := false) rfl (fun h => nomatch h) (fun _ => ?_)))
   (repeat ((try simp only [cZ]); with_reducible refine cg fun K hK => ?_; simp only [go_sem, h8, h8']; (repeat refine ck ?_); (try simp (disch := omega) only [wZ]); refine hK _ ?_; clear hK K))
   ((try simp only [cZ, cl_exit, cl_nil]))
   refine hK3 _ ?_
   (repeat ((try simp only [cZ]); with_reducible refine cg fun K hK => ?_; simp only [go_sem, wrapi64 (n := (i : Int) + 1) (by omega) (by omega)]; (repeat refine ck ?_); (try simp (disch := omega) only [wZ]); refine hK _ ?_; clear hK K))
   ((try simp only [cZ, cl_exit, cl_nil]))
   refine hJ _ (s.h.bl.length - (i + 1)) (by omega) ⟨i + 1, by omega, rfl, ?_⟩
   have e : rowsVb ((viewV s).take i ++ [⟨⟨a, b, false, o, n⟩, []⟩]) = rowsVb ((viewV s).take i) ++ [[.int .u64 a, .int .u64 b, .bool false, .int .i64 o, .int .u64 n, .sl []]] := by simp [rowsVb, Vb.c, rowsN]
   rw [hstep, show valB s ⟨a, b, false, o, n⟩ = [] from rfl, e]
   rfl
 ·simp only [decide_eq_false_iff_not, Int.ofNat_lt] at hc
  have : i = s.h.bl.length := by omega
  subst this
  rw [← hvl, List.take_length]
  ((try simp only [cZ, cl_exit, cl_nil]))
  refine hX2 0 _ (hK1 _ ?_)
  (repeat ((try simp only [cZ]); with_reducible refine cg fun K hK => ?_; simp only [go_sem]; (repeat refine ck ?_); (try simp (disch := omega) only [wZ]); refine hK _ ?_; clear hK K))
  (((try simp only [cZ]); (try simp only [cl_ret]); refine hR _ _ (.inr rfl) ?_; (simp only [go_sem])))
  rw [hr]
end Go.Proofs.YtapdaefpkddioaaGreat.Pe
