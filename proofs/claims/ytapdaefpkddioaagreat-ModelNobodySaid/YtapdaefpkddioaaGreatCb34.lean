/- A part of the proof of PmD. -/
import Derived.Test.YtapdaefpkddioaaGreatCb32
import Derived.Test.YtapdaefpkddioaaGreatCb33
set_option linter.unusedSimpArgs false
set_option linter.unusedVariables false
set_option linter.unusedSectionVars false
namespace Go.Proofs.YtapdaefpkddioaaGreat.Pe
open Go
set_option maxHeartbeats 4000000
def takeM (m : Mb) (pd need o n : Int) (d : D) : List Mb :=
  (if 0 < pd then [⟨freeB m.b.off pd, .sl []⟩] else []) ++ ([⟨⟨m.b.off + pd, if m.b.size - pd - need < 48 then need + (m.b.size - pd - need) else need, true, o, n⟩, d⟩] ++ (if 48 ≤ m.b.size - pd - need then [⟨freeB (m.b.off + pd + need) (m.b.size - pd - need), .sl []⟩] else []))
def takeL (ml : List Mb) (i : Nat) (pd need o n : Int) (d : D) : List Mb := match ml[i]? with
  | some m => ml.take i ++ (takeM m pd need o n d ++ ml.drop (i + 1))
  | none => ml
theorem takeM_len (m : Mb) (pd need o n : Int) (d : D) : 0 < (takeM m pd need o n d).length ∧ (takeM m pd need o n d).length ≤ 3 := by
  unfold takeM
  by_cases h1 : 0 < pd <;> by_cases h2 : 48 ≤ m.b.size - pd - need <;> simp [h1, h2]
theorem takeL_bks (ml : List Mb) (i : Nat) (pd need o n : Int) (d : D) : bks (takeL ml i pd need o n d) = takeB (bks ml) i pd need o n := by
  unfold takeL takeB
  rcases Nat.lt_or_ge i ml.length with h | h
  · have h1 : (bks ml)[i]? = some ml[i].b := by simp [bks, h]
    rw [List.getElem?_eq_getElem h, h1]
    simp only [bks, takeM, List.map_append, List.map_cons, List.map_nil, List.map_take, List.map_drop]
    by_cases h1 : 0 < pd <;> by_cases h2 : 48 ≤ ml[i].b.size - pd - need <;> simp [h1, h2]
  · have h1 : (bks ml)[i]? = none := by simp [bks, h]
    rw [List.getElem?_eq_none h, h1]
structure TOk (ml : List Mb) : Prop where
  sm : ml.length ≤ 40000
  off0 : ∀ m ∈ ml, 0 ≤ m.b.off
  off1 : ∀ m ∈ ml, m.b.off ≤ 1000000
  off16 : ∀ m ∈ ml, m.b.off % 16 = 0
  size0 : ∀ m ∈ ml, 0 ≤ m.b.size
  size1 : ∀ m ∈ ml, m.b.size ≤ 1000000
inductive NewD (nx : Nat) (H' : Hp) (w : Nat) : D → Prop
  | none (h : w = 0) : NewD nx H' w (.sl [])
  | some (o : Nat) (h : 0 < w) (ho : nx ≤ o) (hH : H' o = some ⟨Option.some 26, 1, rowsN (List.replicate w 0)⟩) : NewD nx H' w (.ref o 1 0 w)
theorem zeros_rowsN (w : Nat) : List.replicate w [D.int .u64 0] = rowsN (List.replicate w 0) := by simp [rowsN]
noncomputable def Cx47 : (Nat → Prop) → Ctx := fun X => { nt := 171, tt := tt, fns := ofList [(90, .pure upMF), (64, .pure needF), (91, .pure padMF), (65, .pure wordsF), (92, .eff replaceF)], keep := keep61, X := X, pub := fun t => t == 131 }
noncomputable def takeMF : List AD → Hp → Nat → Option (RV × Hp × Nat) := semT Tryz.f61 Cx47 Tryz.f61.results
theorem takeM_ok : FnEff Tryz.prog 61 takeMF := semT_ok mixed Tryz.func61 rfl (fun X => ok_of (l := [(90, .pure upMF), (64, .pure needF), (91, .pure padMF), (65, .pure wordsF), (92, .eff replaceF)]) tt_ok ⟨wup_ok, by kernel_rfl, wneed_ok, by kernel_rfl, wpad_ok, by kernel_rfl, wwords_ok, by kernel_rfl, replace_ok, replace_c, trivial⟩ (noEqs _)) (fun _ => rfl) (fun _ => rfl) (by decide) rfl
section
variable {S B nx : Nat} {a f mp : D} {live : List Bool} {ml : List Mb} {H : Hp} {o n al : Int} (h8 : live.length = 8) (hs : Hs S B a f mp live ml H nx) (ok : TOk ml) (hn : U64 n) (ha : U64 al) (o0 : 0 ≤ o) (o1 : o ≤ 8)
include h8 hs ok hn ha o0 o1
theorem takeMF_al (h : alignV al = false) : takeMF [.one (.ptr S 12 0 0), .one (.int .i64 o), .one (.int .u64 n), .one (.int .u64 al)] H nx = some (.a (.many [.int .i64 1, .int .u64 0, .int .u64 0]), H, nx) := by
  unfold takeMF
  rw [Tryz.results61]
  refine semT_eq rfl (by simp [Tryz.ntmps61]) fun X R hR => ?_
  unfold Cx47 at hR ⊢
  have hup := upMF_eq (a := 0) (b := al) (by unfold U64; omega) ha
  (repeat ((try simp only [cl_seq, cl_skip]); with_reducible refine cg fun K hK => ?_; (simp (maxSteps := 1000000) only [go_sem, Nat.reduceBEq, hup, optV]); (repeat refine ck ?_); (try simp (disch := omega) only [wrap64, wrapi64]); refine hK _ ?_; clear hK K))
  have hbad : (!(upM 0 al).isSome || (decide (al < 16) || decide (4096 < al))) = true := by
    by_cases h1 : al ≤ 4096
    · have := upM_eq (n := 0) (by unfold U64; omega) ha.1 h1
      rw [this]
      unfold alignV at h
      unfold upV
      cases hp : pow2 al with
      | false => rfl
      | true => rw [hp] at h; simp [h1] at h; simp; omega
    · simp; right; right; omega
  (((try simp only [cl_seq, cl_skip]); refine cl_reg_b (g := ?g119) (t := ?t119) (L := ?L119) ((!(upM 0 al).isSome || (decide (al < 16) || decide (4096 < al)))) (fun K hK => ?h1119) ?h2119; case' h1119 => (simp (maxSteps := 1000000) only [go_sem, Nat.reduceBEq]); (repeat refine ck ?_); (repeat' (((refine ite_split (fun hb => ?_) (fun hb => ?_) <;> ((try (simp (maxSteps := 1000000) only [go_sem, hb, Nat.reduceBEq])); (repeat refine ck ?_)))))); all_goals (first | ((try simp (disch := omega) only [wrap64, wrapi64]); refine hK _ ?_; clear hK K; first | rfl | grind | skip) | skip)))
  all_goals try (simp only [*, Bool.false_or, Bool.true_or, Bool.or_true, Bool.not_true, Bool.not_false]; done)
  (((try simp only [cl_seq, cl_skip]); refine cl_cond rfl (fun hc => ?_) (fun hc => ?_)))
  · (repeat ((try simp only [cl_seq, cl_skip]); with_reducible refine cg fun K hK => ?_; (simp (maxSteps := 1000000) only [go_sem, Nat.reduceBEq]); (repeat refine ck ?_); (try simp (disch := omega) only [wrap64, wrapi64]); refine hK _ ?_; clear hK K))
    (((try simp only [cl_seq, cl_skip]); (try simp only [cl_ret]); refine hR _ _ (.inr rfl) ?_; (simp (maxSteps := 1000000) only [go_sem])))
  · rw [hbad] at hc; cases hc
theorem takeMF_size (h : alignV al = true) (h2 : needV n = none) : takeMF [.one (.ptr S 12 0 0), .one (.int .i64 o), .one (.int .u64 n), .one (.int .u64 al)] H nx = some (.a (.many [.int .i64 2, .int .u64 0, .int .u64 0]), H, nx) := by
  unfold takeMF
  rw [Tryz.results61]
  refine semT_eq rfl (by simp [Tryz.ntmps61]) fun X R hR => ?_
  unfold Cx47 at hR ⊢
  have hup := upMF_eq (a := 0) (b := al) (by unfold U64; omega) ha
  obtain ⟨a16, a0, a1⟩ := align_16 h
  have hso : (upM 0 al).isSome = true := by
    rw [upM_eq (n := 0) (by unfold U64; omega) ha.1 a1]
    simp only [alignV, Bool.and_eq_true] at h
    simp [upV, h.1.1]
  (repeat ((try simp only [cl_seq, cl_skip]); with_reducible refine cg fun K hK => ?_; (simp (maxSteps := 1000000) only [go_sem, Nat.reduceBEq, hup, optV, hso, Bool.not_true, show decide (al < 16) = false by simp; omega, show decide (4096 < al) = false by simp; omega]); (repeat refine ck ?_); (try simp (disch := omega) only [wrap64, wrapi64]); refine hK _ ?_; clear hK K))
  (((try simp only [cl_seq, cl_skip]); refine cl_cond (b := false) rfl (fun h => nomatch h) (fun _ => ?_)))
  (repeat ((try simp only [cl_seq, cl_skip]); with_reducible refine cg fun K hK => ?_; (simp (maxSteps := 1000000) only [go_sem, Nat.reduceBEq, needF_eq hn, optV, h2, Option.isSome_none, Bool.not_false]); (repeat refine ck ?_); (try simp (disch := omega) only [wrap64, wrapi64]); refine hK _ ?_; clear hK K))
  (((try simp only [cl_seq, cl_skip]); refine cl_cond (b := true) rfl (fun _ => ?_) (fun h => nomatch h)))
  (repeat ((try simp only [cl_seq, cl_skip]); with_reducible refine cg fun K hK => ?_; (simp (maxSteps := 1000000) only [go_sem, Nat.reduceBEq]); (repeat refine ck ?_); (try simp (disch := omega) only [wrap64, wrapi64]); refine hK _ ?_; clear hK K))
  (((try simp only [cl_seq, cl_skip]); (try simp only [cl_ret]); refine hR _ _ (.inr rfl) ?_; (simp (maxSteps := 1000000) only [go_sem])))
end
end Go.Proofs.YtapdaefpkddioaaGreat.Pe
namespace Go.Proofs.YtapdaefpkddioaaGreat.Pe
open Go
set_option maxHeartbeats 8000000
section
variable {S B nx : Nat} {a f mp : D} {live : List Bool} {ml : List Mb} {H : Hp} {o n al : Int} (h8 : live.length = 8) (hs : Hs S B a f mp live ml H nx) (ok : TOk ml) (hn : U64 n) (ha : U64 al) (o0 : 0 ≤ o) (o1 : o ≤ 8)
include h8 hs ok hn ha o0 o1
theorem takeMF_room (h : alignV al = true) {need : Int} (h2 : needV n = some need) (h3 : bestUpto (bks ml) need al ml.length = none) : takeMF [.one (.ptr S 12 0 0), .one (.int .i64 o), .one (.int .u64 n), .one (.int .u64 al)] H nx = some (.a (.many [.int .i64 3, .int .u64 0, .int .u64 0]), H, nx) := by
  unfold takeMF
  rw [Tryz.results61]
  refine semT_eq rfl (by simp [Tryz.ntmps61]) fun X R hR => ?_
  unfold Cx47 at hR ⊢
  obtain ⟨a16, a0, a1⟩ := align_16 h
  obtain ⟨n0, n1, n16, n40⟩ := needV_range hn h2
  have hso : (upM 0 al).isSome = true := by
    rw [upM_eq (n := 0) (by unfold U64; omega) ha.1 a1]
    simp only [alignV, Bool.and_eq_true] at h
    simp [upV, h.1.1]
  have hup := upMF_eq (a := 0) (b := al) (by unfold U64; omega) ha
  have hlo := rowsO_len live
  have hS := hs.top
  have hB := hs.bl
  have hbl := bks_len ml
  have hsm := ok.sm
  (repeat ((try simp only [cl_seq, cl_skip]); with_reducible refine cg fun K hK => ?_; (simp (maxSteps := 1000000) only [go_sem, Nat.reduceBEq, hup, optV, hso, Bool.not_true, show decide (al < 16) = false by simp; omega, show decide (4096 < al) = false by simp; omega]); (repeat refine ck ?_); (try simp (disch := omega) only [wrap64, wrapi64]); refine hK _ ?_; clear hK K))
  (((try simp only [cl_seq, cl_skip]); refine cl_cond (b := false) rfl (fun h => nomatch h) (fun _ => ?_)))
  (repeat ((try simp only [cl_seq, cl_skip]); with_reducible refine cg fun K hK => ?_; (simp (maxSteps := 1000000) only [go_sem, Nat.reduceBEq, needF_eq hn, optV, h2, Option.isSome_some, Option.getD_some, Bool.not_true]); (repeat refine ck ?_); (try simp (disch := omega) only [wrap64, wrapi64]); refine hK _ ?_; clear hK K))
  (((try simp only [cl_seq, cl_skip]); refine cl_cond (b := false) rfl (fun h => nomatch h) (fun _ => ?_)))
  (repeat ((try simp only [cl_seq, cl_skip]); with_reducible refine cg fun K hK => ?_; (simp (maxSteps := 1000000) only [go_sem, Nat.reduceBEq, hS, hB, hlo, h8]); (repeat refine ck ?_); (try simp (disch := omega) only [wrap64, wrapi64]); refine hK _ ?_; clear hK K))
  (((try simp only [cl_seq, cl_skip]); refine cl_block fun K hK1 R hR1 X hX1 => ?_))
  refine cl_loop (fun E k => ∃ i : Nat, i ≤ ml.length ∧ k = ml.length - i ∧ E = mk [(1000000, .heap H nx), (51, .v (.one (.int .i64 i))), (0, .v (.one (.ptr S 12 0 0))), (1, .v (.one (.int .i64 o))), (2, .v (.one (.int .u64 n))), (3, .v (.one (.int .u64 al))), (8, .box 0 [.int .i64 0, .int .u64 0, .int .u64 0]), (11, .v (.one (.int .u64 need))), (13, .v (.one (.int .i64 (optI (bestUpto (bks ml) need al i))))), (49, .v (.one (.ref B 6 0 ml.length))), (50, .v (.one (.int .i64 ml.length)))]) ml.length ⟨0, by omega, by omega, rfl⟩ ?_
  rintro E k ⟨i, hi, rfl, rfl⟩ J hJ R2 hR2 X2 hX2
  (repeat ((try simp only [cl_seq, cl_skip]); with_reducible refine cg fun K hK => ?_; (simp (maxSteps := 1000000) only [go_sem, Nat.reduceBEq]); (repeat refine ck ?_); (try simp (disch := omega) only [wrap64, wrapi64]); refine hK _ ?_; clear hK K))
  (((try simp only [cl_seq, cl_skip]); refine cl_cond rfl (fun hc => ?_) (fun hc => ?_)))
  · simp only [decide_eq_true_eq, Int.ofNat_lt] at hc
    have hmi := List.getElem_mem hc
    have b0 := ok.off0 _ hmi
    have b1 := ok.off1 _ hmi
    have s0 := ok.size0 _ hmi
    have s1 := ok.size1 _ hmi
    have hget : (bks ml)[i]? = some ml[i].b := by simp [bks, hc]
    have hstep := best_succ (bks ml) need al i
    unfold bestStep at hstep
    rw [hget] at hstep
    simp only at hstep
    have hblt := best_lt (bks ml) need al i
    generalize bestUpto (bks ml) need al i = best at *
    (((try simp only [cl_seq, cl_skip]); refine cl_block fun K3 hK3 R hR3 X hX3 => ?_))
    have hend : ∀ E', E' 1000000 = .heap H nx → E' 0 = .v (.one (.ptr S 12 0 0)) → E' 1 = .v (.one (.int .i64 o)) → E' 2 = .v (.one (.int .u64 n)) → E' 3 = .v (.one (.int .u64 al)) → E' 8 = .box 0 [.int .i64 0, .int .u64 0, .int .u64 0] → E' 11 = .v (.one (.int .u64 need)) → E' 13 = .v (.one (.int .i64 (optI (bestUpto (bks ml) need al (i + 1))))) → E' 49 = .v (.one (.ref B 6 0 ml.length)) → E' 50 = .v (.one (.int .i64 ml.length)) → E' 51 = .v (.one (.int .i64 i)) → K3 E' := by
      intro E' e1 e2 e3 e4 e5 e6 e7 e8 e9 e10 e11
      refine hK3 _ ?_
      (repeat ((try simp only [cl_seq, cl_skip]); with_reducible refine cg fun K hK => ?_; (simp (maxSteps := 1000000) only [go_sem, Nat.reduceBEq, wrapi64 (n := (i : Int) + 1) (by omega) (by omega), e1, e2, e3, e4, e5, e6, e7, e8, e9, e10, e11]); (repeat refine ck ?_); (try simp (disch := omega) only [wrap64, wrapi64]); refine hK _ ?_; clear hK K))
      ((try simp only [cl_seq, cl_skip, cl_exit, cl_nil]))
      exact hJ _ (ml.length - (i + 1)) (by omega) ⟨i + 1, by omega, rfl, rfl⟩
    clear hK3
    (((try simp only [cl_seq, cl_skip]); with_reducible refine cl_reg fun K hK => ?_; (simp (maxSteps := 1000000) only [go_sem, Nat.reduceBEq, hS, hB, hc]); (repeat refine ck ?_); (first | ((try simp (disch := omega) only [wrap64, wrapi64]); refine hK _ ?_; clear hK K) | skip)))
    ((try simp only [cl_seq, cl_skip, cl_exit, cl_nil]))
    refine cl_drw_b (g := ?g) (t := ?t) (L := ?L) (fits need al ml[i].b) (fun K hK => ?h1) ?h2
    case' h1 =>
      rcases Bool.eq_false_or_eq_true ml[i].b.used with hu | hu
      · (((simp (maxSteps := 1000000) only [go_sem, Nat.reduceBEq, show (!ml[i].b.used) = false by rw [hu]; rfl]); (repeat refine ck ?_)))
        refine hK _ ?_
        simp [fits, hu]
      · by_cases hz : need ≤ ml[i].b.size
        · (((simp (maxSteps := 1000000) only [go_sem, Nat.reduceBEq, show (!ml[i].b.used) = true by rw [hu]; rfl, show decide (need ≤ ml[i].b.size) = true by simp [hz], padMF_eq (off := ml[i].b.off) (a := al) b0 (by omega) h, wrap64 (n := ml[i].b.size - need) (by omega) (by omega)]); (repeat refine ck ?_)))
          refine hK _ ?_
          simp [fits, hu, hz]
        · (((simp (maxSteps := 1000000) only [go_sem, Nat.reduceBEq, show (!ml[i].b.used) = true by rw [hu]; rfl, show decide (need ≤ ml[i].b.size) = false by simp; omega]); (repeat refine ck ?_)))
          refine hK _ ?_
          simp [fits, hu, hz]
    cases hft : fits need al ml[i].b with
    | false =>
      (repeat ((try simp only [cl_seq, cl_skip]); with_reducible refine cg fun K hK => ?_; (simp (maxSteps := 1000000) only [go_sem, Nat.reduceBEq]); (repeat refine ck ?_); (try simp (disch := omega) only [wrap64, wrapi64]); refine hK _ ?_; clear hK K))
      (((try simp only [cl_seq, cl_skip]); refine cl_cond (b := false) rfl (fun h => nomatch h) (fun _ => ?_)))
      ((try simp only [cl_seq, cl_skip, cl_exit, cl_nil]))
      refine hend _ rfl rfl rfl rfl rfl rfl rfl ?_ rfl rfl rfl
      rw [hstep, hft]; rfl
    | true =>
      cases best with
      | none =>
        (repeat ((try simp only [cl_seq, cl_skip]); with_reducible refine cg fun K hK => ?_; (simp (maxSteps := 1000000) only [go_sem, Nat.reduceBEq, optI, show decide ((-1 : Int) < 0) = true from rfl]); (repeat refine ck ?_); (try simp (disch := omega) only [wrap64, wrapi64]); refine hK _ ?_; clear hK K))
        (((try simp only [cl_seq, cl_skip]); refine cl_cond (b := true) rfl (fun _ => ?_) (fun h => nomatch h)))
        (repeat ((try simp only [cl_seq, cl_skip]); with_reducible refine cg fun K hK => ?_; (simp (maxSteps := 1000000) only [go_sem, Nat.reduceBEq]); (repeat refine ck ?_); (try simp (disch := omega) only [wrap64, wrapi64]); refine hK _ ?_; clear hK K))
        ((try simp only [cl_seq, cl_skip, cl_exit, cl_nil]))
        refine hend _ rfl rfl rfl rfl rfl rfl rfl ?_ rfl rfl rfl
        rw [hstep, hft]; rfl
      | some j =>
        obtain ⟨j1, j2⟩ := hblt j rfl
        have j3 : j < ml.length := by omega
        have hj : (bks ml)[j]? = some ml[j].b := by simp [bks, j3]
        have hbt : better (bks ml) ml[i].b (some j) = decide (ml[i].b.size < ml[j].b.size) := by simp only [better, hj]
        (repeat ((try simp only [cl_seq, cl_skip]); with_reducible refine cg fun K hK => ?_; (simp (maxSteps := 1000000) only [go_sem, Nat.reduceBEq, optI, hS, hB, hlo, h8, j3, show decide ((j : Int) < 0) = false by simp]); (repeat refine ck ?_); (try simp (disch := omega) only [wrap64, wrapi64]); refine hK _ ?_; clear hK K))
        (((try simp only [cl_seq, cl_skip]); refine cl_cond rfl (fun he => ?_) (fun he => ?_)))
        · (repeat ((try simp only [cl_seq, cl_skip]); with_reducible refine cg fun K hK => ?_; (simp (maxSteps := 1000000) only [go_sem, Nat.reduceBEq]); (repeat refine ck ?_); (try simp (disch := omega) only [wrap64, wrapi64]); refine hK _ ?_; clear hK K))
          ((try simp only [cl_seq, cl_skip, cl_exit, cl_nil]))
          refine hend _ rfl rfl rfl rfl rfl rfl rfl ?_ rfl rfl rfl
          rw [hstep, hft, hbt, he]; rfl
        · ((try simp only [cl_seq, cl_skip, cl_exit, cl_nil]))
          refine hend _ rfl rfl rfl rfl rfl rfl rfl ?_ rfl rfl rfl
          rw [hstep, hft, hbt, he]; rfl
  · simp only [decide_eq_false_iff_not, Int.ofNat_lt] at hc
    have hil : i = ml.length := by omega
    subst hil
    ((try simp only [cl_seq, cl_skip, cl_exit, cl_nil]))
    refine hX2 0 _ (hK1 _ ?_)
    rw [h3]
    (repeat ((try simp only [cl_seq, cl_skip]); with_reducible refine cg fun K hK => ?_; (simp (maxSteps := 1000000) only [go_sem, Nat.reduceBEq, optI, show decide ((-1 : Int) < 0) = true from rfl]); (repeat refine ck ?_); (try simp (disch := omega) only [wrap64, wrapi64]); refine hK _ ?_; clear hK K))
    (((try simp only [cl_seq, cl_skip]); refine cl_cond (b := true) rfl (fun _ => ?_) (fun h => nomatch h)))
    (repeat ((try simp only [cl_seq, cl_skip]); with_reducible refine cg fun K hK => ?_; (simp (maxSteps := 1000000) only [go_sem, Nat.reduceBEq]); (repeat refine ck ?_); (try simp (disch := omega) only [wrap64, wrapi64]); refine hK _ ?_; clear hK K))
    (((try simp only [cl_seq, cl_skip]); (try simp only [cl_ret]); refine hR _ _ (.inr rfl) ?_; (simp (maxSteps := 1000000) only [go_sem])))
end
end Go.Proofs.YtapdaefpkddioaaGreat.Pe
namespace Go.Proofs.YtapdaefpkddioaaGreat.Pe
open Go
set_option maxHeartbeats 2000000
inductive Dt (H : Hp) : D → List Int → Prop
  | nil : Dt H (.sl []) []
  | obj (o : Nat) (v : List Int) (h0 : 0 < v.length) (hH : H o = some ⟨some 26, 1, rowsN v⟩) : Dt H (.ref o 1 0 v.length) v
def D.oid : D → Option Nat
  | .ref o _ _ _ => some o
  | _ => none
def usedM (l : List Mb) : List Mb := l.filter (·.b.used)
theorem usedM_joinStep (out : List Mb) (b : Mb) : usedM (joinStepM out b) = usedM out ++ usedM [b] := by
  rcases List.eq_nil_or_concat out with rfl | ⟨ys, c, rfl⟩
  · simp [joinStepM, usedM]
  · simp only [List.concat_eq_append]
    by_cases h : (!c.b.used && !b.b.used) = true
    · have e : joinStepM (ys ++ [c]) b = ys ++ [⟨{ c.b with size := c.b.size + b.b.size }, c.d⟩] := by simp [joinStepM, h]
      simp only [Bool.and_eq_true, Bool.not_eq_true'] at h
      rw [e]
      simp [usedM, h.1, h.2]
    · have e : joinStepM (ys ++ [c]) b = ys ++ [c] ++ [b] := by
        simp only [joinStepM, List.getLast?_append, List.getLast?_singleton, Option.some_or]
        rw [if_neg h]
      rw [e]
      unfold usedM
      rw [List.filter_append]
theorem usedM_joined (l : List Mb) : usedM (joinedM l) = usedM l := by
  have key : ∀ (l out : List Mb), usedM (l.foldl joinStepM out) = usedM out ++ usedM l := by
    intro l
    induction l with
    | nil => intro out; simp [usedM]
    | cons b l ih =>
      intro out
      rw [List.foldl_cons, ih, usedM_joinStep, List.append_assoc]
      congr 1
      simp [usedM, List.filter_cons]
      split <;> simp
  have := key l []
  simpa [usedM, joinedM] using this
def FreeNil (l : List Mb) : Prop := ∀ m ∈ l, m.b.used = false → m.d = .sl []
theorem freeNil_join {l : List Mb} (h : FreeNil l) : FreeNil (joinedM l) := by
  have key : ∀ (l out : List Mb), FreeNil out → FreeNil l → FreeNil (l.foldl joinStepM out) := by
    intro l
    induction l with
    | nil => intro out h _; exact h
    | cons b l ih =>
      intro out ho hl
      refine ih _ ?_ (fun m hm => hl m (List.mem_cons_of_mem _ hm))
      rcases List.eq_nil_or_concat out with rfl | ⟨ys, c, rfl⟩
      · intro m hm hu
        simp only [joinStepM, List.getLast?_nil, List.mem_singleton] at hm
        exact hl m (by rw [hm]; exact List.mem_cons_self) hu
      · simp only [List.concat_eq_append] at ho ⊢
        by_cases h : (!c.b.used && !b.b.used) = true
        · have e : joinStepM (ys ++ [c]) b = ys ++ [⟨{ c.b with size := c.b.size + b.b.size }, c.d⟩] := by simp [joinStepM, h]
          rw [e]
          intro m hm hu
          rcases List.mem_append.1 hm with hm | hm
          · exact ho m (List.mem_append_left _ hm) hu
          · simp only [List.mem_singleton] at hm
            rw [hm] at hu ⊢
            exact ho c (List.mem_append_right _ (List.mem_singleton.2 rfl)) hu
        · have e : joinStepM (ys ++ [c]) b = ys ++ [c] ++ [b] := by
            simp only [joinStepM, List.getLast?_append, List.getLast?_singleton, Option.some_or]
            rw [if_neg h]
          rw [e]
          intro m hm hu
          rcases List.mem_append.1 hm with hm | hm
          · exact ho m hm hu
          · simp only [List.mem_singleton] at hm
            exact hl m (by rw [hm]; exact List.mem_cons_self) hu
  exact key l [] (fun m hm => by cases hm) h
structure NmOk (s : St) : Prop where
  le : s.names.length ≤ 16
  pk : ∀ e ∈ s.names, packV e.name = true
  at_ : ∀ e ∈ s.names, ∃ b ∈ s.h.bl, b.used = true ∧ b.owner = 0 ∧ b.off + 32 = e.off
  nn : (s.names.map (·.name)).Nodup
  no : (s.names.map (·.off)).Nodup
structure Ms (K : Nat) (s : St) (S B M : Nat) (ml : List Mb) (H : Hp) (nx : Nat) : Prop where
  hs : Hs S B (.int .u64 s.all) (.int .u64 s.h.fin) (.mp M) s.live ml H nx
  mp : H M = some ⟨none, 0, rowsE s.names⟩
  bs : bks ml = s.h.bl
  dt : ∀ m ∈ usedM ml, Dt H m.d (dataV s (m.b.off + 32))
  df : FreeNil ml
  nd : ((usedM ml).filterMap (·.d.oid)).Nodup
  wk : s.Wk
  dl : s.data.length ≤ K
  pos : 3824 ≤ s.h.fin
  nm : NmOk s
section
variable {K : Nat} {s : St} {S B M : Nat} {ml : List Mb} {H : Hp} {nx : Nat}
theorem Ms.len (h : Ms K s S B M ml H nx) : ml.length ≤ 22000 := by
  have := h.wk.hi.len
  rw [← h.bs, bks_len] at this
  exact this
theorem Ms.mem (h : Ms K s S B M ml H nx) {m : Mb} (hm : m ∈ ml) : m.b ∈ s.h.bl := by rw [← h.bs]; exact List.mem_map.2 ⟨m, hm, rfl⟩
theorem Ms.rng (h : Ms K s S B M ml H nx) {m : Mb} (hm : m ∈ ml) : 3776 ≤ m.b.off ∧ m.b.off + m.b.size ≤ 100000 ∧ 48 ≤ m.b.size ∧ m.b.off % 16 = 0 ∧ m.b.size % 16 = 0 := by
  have h1 := h.wk.hi.mem (h.mem hm)
  have h2 := h.wk.hi.bs _ (h.mem hm)
  have h3 := h.wk.hi.al _ (h.mem hm)
  have h4 := h.wk.fin1
  exact ⟨h1.1, by omega, h2.size0, h3, h2.size16⟩
theorem Ms.ne (h : Ms K s S B M ml H nx) : 0 < ml.length := by
  rcases Nat.eq_zero_or_pos ml.length with h0 | h0
  · have e : ml = [] := List.eq_nil_of_length_eq_zero h0
    have h1 := h.wk.hi.ch
    rw [← h.bs, e] at h1
    have : (3776 : Int) = s.h.fin := h1
    have := h.pos
    omega
  · exact h0
theorem Ms.sizes (h : Ms K s S B M ml H nx) : sizes (bks ml) ≤ 100000 := by
  rw [h.bs, chain_sizes h.wk.hi.ch]
  have := h.wk.fin1; omega
theorem Ms.mok (h : Ms K s S B M ml H nx) : MOk ml :=
  ⟨h.ne, by have := h.len; omega, fun m hm => by have := (h.rng hm).2.2.1; omega, by have := h.sizes; omega⟩
theorem Ms.tok (h : Ms K s S B M ml H nx) : TOk ml :=
  ⟨by have := h.len; omega, fun m hm => by have := (h.rng hm).1; omega, fun m hm => by have := h.rng hm; omega, fun m hm => (h.rng hm).2.2.2.1, fun m hm => by have := (h.rng hm).2.2.1; omega, fun m hm => by have := h.rng hm; omega⟩
theorem Ms.offs (h : Ms K s S B M ml H nx) : ∀ m ∈ ml, 0 ≤ m.b.off ∧ m.b.off ≤ 1099511627776 := fun m hm => by have := h.rng hm; omega
theorem Ms.ltM (h : Ms K s S B M ml H nx) : M < nx ∧ M ≠ S ∧ M ≠ B := by
  refine ⟨?_, ?_, ?_⟩
  · rcases Nat.lt_or_ge M nx with h1 | h1
    · exact h1
    · have := h.hs.fresh M h1; rw [h.mp] at this; cases this
  · exact ne_of_at h.mp h.hs.top (by simp [topO])
  · exact ne_of_at h.mp h.hs.bl (by simp [blkO])
theorem Dt.frame {H' : Hp} {d : D} {v : List Int} (h : Dt H d v) (hs : ∀ o, d.oid = some o → H' o = H o) : Dt H' d v := by
  cases h with
  | nil => exact .nil
  | obj o v h0 hH => exact .obj o v h0 ((hs o rfl).trans hH)
theorem Dt.lt {nx : Nat} {d : D} {v : List Int} (h : Dt H d v) (hf : ∀ o, nx ≤ o → H o = none) {o : Nat} (ho : d.oid = some o) : o < nx ∧ H o = some ⟨some 26, 1, rowsN v⟩ := by
  cases h with
  | nil => cases ho
  | obj o' v h0 hH =>
    injection ho with ho
    subst ho
    refine ⟨?_, hH⟩
    rcases Nat.lt_or_ge o' nx with h1 | h1
    · exact h1
    · rw [hf _ h1] at hH; cases hH
theorem Ms.oid (h : Ms K s S B M ml H nx) {m : Mb} (hm : m ∈ usedM ml) {o : Nat} (ho : m.d.oid = some o) : o < nx ∧ o ≠ S ∧ o ≠ B ∧ o ≠ M := by
  obtain ⟨h1, h2⟩ := (h.dt m hm).lt h.hs.fresh ho
  refine ⟨h1, ne_of_at h2 h.hs.top (by simp [topO]), ne_of_at h2 h.hs.bl (by simp [blkO]), ne_of_at h2 h.mp (by simp)⟩
end
end Go.Proofs.YtapdaefpkddioaaGreat.Pe
namespace Go.Proofs.YtapdaefpkddioaaGreat.Pe
open Go
set_option maxHeartbeats 8000000
section
variable {S B nx : Nat} {a f mp : D} {live : List Bool} {ml : List Mb} {H : Hp} {o n al : Int} (h8 : live.length = 8) (hs : Hs S B a f mp live ml H nx) (ok : TOk ml) (hn : U64 n) (ha : U64 al) (o0 : 0 ≤ o) (o1 : o ≤ 8)
include h8 hs ok hn ha o0 o1
theorem takeMF_good (h : alignV al = true) {need : Int} (h2 : needV n = some need) {at_ : Nat} (h3 : bestUpto (bks ml) need al ml.length = some at_) (hat : at_ < ml.length) :
    ∃ d B' H' nx', takeMF [.one (.ptr S 12 0 0), .one (.int .i64 o), .one (.int .u64 n), .one (.int .u64 al)] H nx = some (.a (.many [.int .i64 0, .int .u64 (ml[at_].b.off + padV ml[at_].b.off al + 32), .int .u64 0]), H', nx') ∧
      Hs S B' a f mp live (takeL ml at_ (padV ml[at_].b.off al) need o n d) H' nx' ∧ Stp S B H nx B' H' nx' ∧ NewD nx H' (wordsV n).toNat d := by
  have hlen : ∀ d, (takeL ml at_ (padV ml[at_].b.off al) need o n d) = ml.take at_ ++ (takeM ml[at_] (padV ml[at_].b.off al) need o n d ++ ml.drop (at_ + 1)) := fun d => by unfold takeL; rw [List.getElem?_eq_getElem hat]
  obtain ⟨hff1, hff⟩ := best_fits _ _ _ _ _ h3
  have hbg : (bks ml)[at_] = ml[at_].b := by simp [bks]
  rw [hbg] at hff
  simp only [fits, Bool.and_eq_true, Bool.not_eq_true', decide_eq_true_eq] at hff
  obtain ⟨⟨f1, f2⟩, f3⟩ := hff
  have hmi := List.getElem_mem hat
  have pf := pad_facts (ok.off16 _ hmi) (align_16 h).1 (align_16 h).2.1
  have p0 := pf.2.1
  have q0 := ok.off0 _ hmi
  have q1 := ok.off1 _ hmi
  have r0 := ok.size0 _ hmi
  have r1 := ok.size1 _ hmi
  obtain ⟨n0', n1', n16', n40'⟩ := needV_range hn h2
  have hn0 := hn.1
  have hw0 : 0 ≤ wordsV n := by unfold wordsV; omega
  have hw1 : wordsV n ≤ 200000 := by unfold wordsV; omega
  obtain ⟨w, hw⟩ : ∃ w : Nat, wordsV n = w := ⟨(wordsV n).toNat, by omega⟩
  rw [hw, Int.toNat_natCast]
  have hltS := hs.ltS
  have hltB := hs.ltB
  have hsm := ok.sm
  have hdat : ∃ (d : D) (H1 : Hp) (n1 : Nat), ((w = 0 ∧ d = .sl [] ∧ H1 = H ∧ n1 = nx) ∨ (0 < w ∧ d = .ref nx 1 0 w ∧ H1 = updO H nx (some ⟨some 26, 1, List.replicate w [.int .u64 0]⟩) ∧ n1 = nx + 1)) ∧ Hs S B a f mp live ml H1 n1 ∧ Stp S B H nx B H1 n1 := by
    by_cases hwz : w = 0
    · exact ⟨.sl [], H, nx, .inl ⟨hwz, rfl, rfl, rfl⟩, hs, .refl _ _ _ _⟩
    · refine ⟨.ref nx 1 0 w, _, _, .inr ⟨by omega, rfl, rfl, rfl⟩, ⟨?_, ?_, fun t ht => ?_⟩, ⟨by omega, .inl rfl, fun t ht _ _ => updO_ne (by omega)⟩⟩
      · rw [updO_ne (by omega)]; exact hs.top
      · rw [updO_ne (by omega)]; exact hs.bl
      · rw [updO_ne (by omega)]; exact hs.fresh t (by omega)
  obtain ⟨d, H1, m1, hd, hs1, st1⟩ := hdat
  have hms := takeM_len ml[at_] (padV ml[at_].b.off al) need o n d
  have hrep := replaceF_eq (nx := m1) (i := at_) (ms := takeM ml[at_] (padV ml[at_].b.off al) need o n d) hs1.bl hat (by omega) hms.1 hms.2 (Nat.ne_of_lt hs1.ltB)
  obtain ⟨hs2, st2⟩ := ins_hs hs1 (ml.take at_ ++ (takeM ml[at_] (padV ml[at_].b.off al) need o n d ++ ml.drop (at_ + 1))) (ml.length - 1 + (takeM ml[at_] (padV ml[at_].b.off al) need o n d).length) (by simp; omega)
  refine ⟨d, m1, _, m1 + 1, ?_, by rw [hlen]; exact hs2, st1.trans st2, ?_⟩
  rotate_left
  · rcases hd with ⟨w0, rfl, rfl, rfl⟩ | ⟨w0, rfl, rfl, rfl⟩
    · exact .none w0
    · refine .some _ w0 (Nat.le_refl _) ?_
      rw [updO_ne (by omega), updO_ne (by omega), updO_ne (by omega), updO_at, zeros_rowsN]
  unfold takeMF
  rw [Tryz.results61]
  refine semT_eq rfl (by simp [Tryz.ntmps61]) fun X R hR => ?_
  unfold Cx47 at hR ⊢
  obtain ⟨a16, a0, a1⟩ := align_16 h
  obtain ⟨n0, n1, n16, n40⟩ := needV_range hn h2
  have hso : (upM 0 al).isSome = true := by
    rw [upM_eq (n := 0) (by unfold U64; omega) ha.1 a1]
    simp only [alignV, Bool.and_eq_true] at h
    simp [upV, h.1.1]
  have hup := upMF_eq (a := 0) (b := al) (by unfold U64; omega) ha
  have hlo := rowsO_len live
  have hS := hs.top
  have hB := hs.bl
  have hbl := bks_len ml
  have hsm := ok.sm
  (repeat ((try simp only [cl_seq, cl_skip]); with_reducible refine cg fun K hK => ?_; (simp (maxSteps := 1000000) only [go_sem, Nat.reduceBEq, hup, optV, hso, Bool.not_true, show decide (al < 16) = false by simp; omega, show decide (4096 < al) = false by simp; omega]); (repeat refine ck ?_); (try simp (disch := omega) only [wrap64, wrapi64]); refine hK _ ?_; clear hK K))
  (((try simp only [cl_seq, cl_skip]); refine cl_cond (b := false) rfl (fun h => nomatch h) (fun _ => ?_)))
  (repeat ((try simp only [cl_seq, cl_skip]); with_reducible refine cg fun K hK => ?_; (simp (maxSteps := 1000000) only [go_sem, Nat.reduceBEq, needF_eq hn, optV, h2, Option.isSome_some, Option.getD_some, Bool.not_true]); (repeat refine ck ?_); (try simp (disch := omega) only [wrap64, wrapi64]); refine hK _ ?_; clear hK K))
  (((try simp only [cl_seq, cl_skip]); refine cl_cond (b := false) rfl (fun h => nomatch h) (fun _ => ?_)))
  (repeat ((try simp only [cl_seq, cl_skip]); with_reducible refine cg fun K hK => ?_; (simp (maxSteps := 1000000) only [go_sem, Nat.reduceBEq, hS, hB, hlo, h8]); (repeat refine ck ?_); (try simp (disch := omega) only [wrap64, wrapi64]); refine hK _ ?_; clear hK K))
  (((try simp only [cl_seq, cl_skip]); refine cl_block fun K hK1 R hR1 X hX1 => ?_))
  refine cl_loop (fun E k => ∃ i : Nat, i ≤ ml.length ∧ k = ml.length - i ∧ E = mk [(1000000, .heap H nx), (51, .v (.one (.int .i64 i))), (0, .v (.one (.ptr S 12 0 0))), (1, .v (.one (.int .i64 o))), (2, .v (.one (.int .u64 n))), (3, .v (.one (.int .u64 al))), (8, .box 0 [.int .i64 0, .int .u64 0, .int .u64 0]), (11, .v (.one (.int .u64 need))), (13, .v (.one (.int .i64 (optI (bestUpto (bks ml) need al i))))), (49, .v (.one (.ref B 6 0 ml.length))), (50, .v (.one (.int .i64 ml.length)))]) ml.length ⟨0, by omega, by omega, rfl⟩ ?_
  rintro E k ⟨i, hi, rfl, rfl⟩ J hJ R2 hR2 X2 hX2
  (repeat ((try simp only [cl_seq, cl_skip]); with_reducible refine cg fun K hK => ?_; (simp (maxSteps := 1000000) only [go_sem, Nat.reduceBEq]); (repeat refine ck ?_); (try simp (disch := omega) only [wrap64, wrapi64]); refine hK _ ?_; clear hK K))
  (((try simp only [cl_seq, cl_skip]); refine cl_cond rfl (fun hc => ?_) (fun hc => ?_)))
  · simp only [decide_eq_true_eq, Int.ofNat_lt] at hc
    have hmi := List.getElem_mem hc
    have b0 := ok.off0 _ hmi
    have b1 := ok.off1 _ hmi
    have s0 := ok.size0 _ hmi
    have s1 := ok.size1 _ hmi
    have hget : (bks ml)[i]? = some ml[i].b := by simp [bks, hc]
    have hstep := best_succ (bks ml) need al i
    unfold bestStep at hstep
    rw [hget] at hstep
    simp only at hstep
    have hblt := best_lt (bks ml) need al i
    generalize bestUpto (bks ml) need al i = best at *
    (((try simp only [cl_seq, cl_skip]); refine cl_block fun K3 hK3 R hR3 X hX3 => ?_))
    have hend : ∀ E', E' 1000000 = .heap H nx → E' 0 = .v (.one (.ptr S 12 0 0)) → E' 1 = .v (.one (.int .i64 o)) → E' 2 = .v (.one (.int .u64 n)) → E' 3 = .v (.one (.int .u64 al)) → E' 8 = .box 0 [.int .i64 0, .int .u64 0, .int .u64 0] → E' 11 = .v (.one (.int .u64 need)) → E' 13 = .v (.one (.int .i64 (optI (bestUpto (bks ml) need al (i + 1))))) → E' 49 = .v (.one (.ref B 6 0 ml.length)) → E' 50 = .v (.one (.int .i64 ml.length)) → E' 51 = .v (.one (.int .i64 i)) → K3 E' := by
      intro E' e1 e2 e3 e4 e5 e6 e7 e8 e9 e10 e11
      refine hK3 _ ?_
      (repeat ((try simp only [cl_seq, cl_skip]); with_reducible refine cg fun K hK => ?_; (simp (maxSteps := 1000000) only [go_sem, Nat.reduceBEq, wrapi64 (n := (i : Int) + 1) (by omega) (by omega), e1, e2, e3, e4, e5, e6, e7, e8, e9, e10, e11]); (repeat refine ck ?_); (try simp (disch := omega) only [wrap64, wrapi64]); refine hK _ ?_; clear hK K))
      ((try simp only [cl_seq, cl_skip, cl_exit, cl_nil]))
      exact hJ _ (ml.length - (i + 1)) (by omega) ⟨i + 1, by omega, rfl, rfl⟩
    clear hK3
    (((try simp only [cl_seq, cl_skip]); with_reducible refine cl_reg fun K hK => ?_; (simp (maxSteps := 1000000) only [go_sem, Nat.reduceBEq, hS, hB, hc]); (repeat refine ck ?_); (first | ((try simp (disch := omega) only [wrap64, wrapi64]); refine hK _ ?_; clear hK K) | skip)))
    ((try simp only [cl_seq, cl_skip, cl_exit, cl_nil]))
    refine cl_drw_b (g := ?g) (t := ?t) (L := ?L) (fits need al ml[i].b) (fun K hK => ?h1) ?h2
    case' h1 =>
      rcases Bool.eq_false_or_eq_true ml[i].b.used with hu | hu
      · (((simp (maxSteps := 1000000) only [go_sem, Nat.reduceBEq, show (!ml[i].b.used) = false by rw [hu]; rfl]); (repeat refine ck ?_)))
        refine hK _ ?_
        simp [fits, hu]
      · by_cases hz : need ≤ ml[i].b.size
        · (((simp (maxSteps := 1000000) only [go_sem, Nat.reduceBEq, show (!ml[i].b.used) = true by rw [hu]; rfl, show decide (need ≤ ml[i].b.size) = true by simp [hz], padMF_eq (off := ml[i].b.off) (a := al) b0 (by omega) h, wrap64 (n := ml[i].b.size - need) (by omega) (by omega)]); (repeat refine ck ?_)))
          refine hK _ ?_
          simp [fits, hu, hz]
        · (((simp (maxSteps := 1000000) only [go_sem, Nat.reduceBEq, show (!ml[i].b.used) = true by rw [hu]; rfl, show decide (need ≤ ml[i].b.size) = false by simp; omega]); (repeat refine ck ?_)))
          refine hK _ ?_
          simp [fits, hu, hz]
    cases hft : fits need al ml[i].b with
    | false =>
      (repeat ((try simp only [cl_seq, cl_skip]); with_reducible refine cg fun K hK => ?_; (simp (maxSteps := 1000000) only [go_sem, Nat.reduceBEq]); (repeat refine ck ?_); (try simp (disch := omega) only [wrap64, wrapi64]); refine hK _ ?_; clear hK K))
      (((try simp only [cl_seq, cl_skip]); refine cl_cond (b := false) rfl (fun h => nomatch h) (fun _ => ?_)))
      ((try simp only [cl_seq, cl_skip, cl_exit, cl_nil]))
      refine hend _ rfl rfl rfl rfl rfl rfl rfl ?_ rfl rfl rfl
      rw [hstep, hft]; rfl
    | true =>
      cases best with
      | none =>
        (repeat ((try simp only [cl_seq, cl_skip]); with_reducible refine cg fun K hK => ?_; (simp (maxSteps := 1000000) only [go_sem, Nat.reduceBEq, optI, show decide ((-1 : Int) < 0) = true from rfl]); (repeat refine ck ?_); (try simp (disch := omega) only [wrap64, wrapi64]); refine hK _ ?_; clear hK K))
        (((try simp only [cl_seq, cl_skip]); refine cl_cond (b := true) rfl (fun _ => ?_) (fun h => nomatch h)))
        (repeat ((try simp only [cl_seq, cl_skip]); with_reducible refine cg fun K hK => ?_; (simp (maxSteps := 1000000) only [go_sem, Nat.reduceBEq]); (repeat refine ck ?_); (try simp (disch := omega) only [wrap64, wrapi64]); refine hK _ ?_; clear hK K))
        ((try simp only [cl_seq, cl_skip, cl_exit, cl_nil]))
        refine hend _ rfl rfl rfl rfl rfl rfl rfl ?_ rfl rfl rfl
        rw [hstep, hft]; rfl
      | some j =>
        obtain ⟨j1, j2⟩ := hblt j rfl
        have j3 : j < ml.length := by omega
        have hj : (bks ml)[j]? = some ml[j].b := by simp [bks, j3]
        have hbt : better (bks ml) ml[i].b (some j) = decide (ml[i].b.size < ml[j].b.size) := by simp only [better, hj]
        (repeat ((try simp only [cl_seq, cl_skip]); with_reducible refine cg fun K hK => ?_; (simp (maxSteps := 1000000) only [go_sem, Nat.reduceBEq, optI, hS, hB, hlo, h8, j3, show decide ((j : Int) < 0) = false by simp]); (repeat refine ck ?_); (try simp (disch := omega) only [wrap64, wrapi64]); refine hK _ ?_; clear hK K))
        (((try simp only [cl_seq, cl_skip]); refine cl_cond rfl (fun he => ?_) (fun he => ?_)))
        · (repeat ((try simp only [cl_seq, cl_skip]); with_reducible refine cg fun K hK => ?_; (simp (maxSteps := 1000000) only [go_sem, Nat.reduceBEq]); (repeat refine ck ?_); (try simp (disch := omega) only [wrap64, wrapi64]); refine hK _ ?_; clear hK K))
          ((try simp only [cl_seq, cl_skip, cl_exit, cl_nil]))
          refine hend _ rfl rfl rfl rfl rfl rfl rfl ?_ rfl rfl rfl
          rw [hstep, hft, hbt, he]; rfl
        · ((try simp only [cl_seq, cl_skip, cl_exit, cl_nil]))
          refine hend _ rfl rfl rfl rfl rfl rfl rfl ?_ rfl rfl rfl
          rw [hstep, hft, hbt, he]; rfl
  · simp only [decide_eq_false_iff_not, Int.ofNat_lt] at hc
    have hil : i = ml.length := by omega
    subst hil
    ((try simp only [cl_seq, cl_skip, cl_exit, cl_nil]))
    refine hX2 0 _ (hK1 _ ?_)
    rw [h3]
    have hwf := wordsF_eq hn
    rw [hw] at hwf
    have hpf := padMF_eq (off := ml[at_].b.off) (a := al) q0 (by omega) h
    have hS1 := hs1.top
    have hsz48 : ∀ x, (48 ≤ x ↔ ¬ x < (48 : Int)) := fun x => by omega
    generalize padV ml[at_].b.off al = pd at *
    (repeat ((try simp only [cl_seq, cl_skip]); with_reducible refine cg fun K hK => ?_; (simp (maxSteps := 1000000) only [go_sem, Nat.reduceBEq, optI, show decide ((at_ : Int) < 0) = false by simp]); (repeat refine ck ?_); (try simp (disch := omega) only [wrap64, wrapi64]); refine hK _ ?_; clear hK K))
    (((try simp only [cl_seq, cl_skip]); refine cl_cond (b := false) rfl (fun h => nomatch h) (fun _ => ?_)))
    (repeat ((try simp only [cl_seq, cl_skip]); with_reducible refine cg fun K hK => ?_; (simp (maxSteps := 1000000) only [go_sem, Nat.reduceBEq, hS, hB, hlo, h8, hat, hpf]); (repeat refine ck ?_); (try simp (disch := omega) only [wrap64, wrapi64]); refine hK _ ?_; clear hK K))
    have hSn : ∀ x, updO (updO H1 B none) m1 x S = topO a f (.ref B 6 0 ml.length) mp live := fun x => by
      rw [updO_ne (Nat.ne_of_lt hs1.ltS), updO_ne hs1.ne, hs1.top]
    have hBB := hs1.bl
    have hne : 0 < w → (List.replicate w [D.int .u64 0] = []) = False := fun h => by simp; omega
    have hneed : need + (ml[at_].b.size - pd - need) = ml[at_].b.size - pd := by omega
    have hif : (ml[at_].b.size - pd - need < 48) ↔ ¬ 48 ≤ ml[at_].b.size - pd - need := by omega
    (((try simp only [cl_seq, cl_skip]); refine cl_cond rfl (fun g1 => ?_) (fun g1 => ?_)))
    all_goals simp only [decide_eq_true_eq, decide_eq_false_iff_not] at g1
    all_goals (repeat ((try simp only [cl_seq, cl_skip]); with_reducible refine cg fun K hK => ?_; (simp (maxSteps := 1000000) only [go_sem, Nat.reduceBEq]); (repeat refine ck ?_); (try simp (disch := omega) only [wrap64, wrapi64]); refine hK _ ?_; clear hK K))
    all_goals (try simp only [cl_seq, cl_skip])
    · refine cl_mid (fun E' => E' = mk [(1000000, .heap H1 m1), (0, .v (.one (.ptr S 12 0 0))), (8, .box 0 [.int .i64 0, .int .u64 0, .int .u64 0]), (11, .v (.one (.int .u64 need))), (13, .v (.one (.int .i64 at_))), (19, .own 0 55 6 [[.int .u64 ml[at_].b.off, .int .u64 pd, .bool false, .int .i64 0, .int .u64 0, .sl []]]), (20, .box 0 [.int .u64 (ml[at_].b.off + pd), .int .u64 (ml[at_].b.size - pd), .bool true, .int .i64 o, .int .u64 n, d])]) (fun K4 hK4 => ?_) ?_
      · rcases hd with ⟨w0, rfl, rfl, rfl⟩ | ⟨w0, rfl, rfl, rfl⟩
        · subst w0
          (repeat ((try simp only [cl_seq, cl_skip]); with_reducible refine cg fun K hK => ?_; (simp (maxSteps := 1000000) only [go_sem, Nat.reduceBEq, hwf, List.replicate_zero, show min 1 6 = 1 from rfl, show min 2 6 = 2 from rfl, show min 3 6 = 3 from rfl, show min 4 6 = 4 from rfl, show min 5 6 = 5 from rfl, wrap64 (n := ml[at_].b.off + pd) (by omega) (by omega), wrap64 (n := ml[at_].b.size - pd) (by omega) (by omega)]); (repeat refine ck ?_); (try simp (disch := omega) only [wrap64, wrapi64]); refine hK _ ?_; clear hK K))
          exact hK4 _ rfl
        · have hne := hne w0
          (repeat ((try simp only [cl_seq, cl_skip]); with_reducible refine cg fun K hK => ?_; (simp (maxSteps := 1000000) only [go_sem, Nat.reduceBEq, hwf, hne, List.length_replicate, show min 1 6 = 1 from rfl, show min 2 6 = 2 from rfl, show min 3 6 = 3 from rfl, show min 4 6 = 4 from rfl, show min 5 6 = 5 from rfl, wrap64 (n := ml[at_].b.off + pd) (by omega) (by omega), wrap64 (n := ml[at_].b.size - pd) (by omega) (by omega)]); (repeat refine ck ?_); (try simp (disch := omega) only [wrap64, wrapi64]); refine hK _ ?_; clear hK K))
          exact hK4 _ rfl
      · rintro E' rfl
        clear hd
        by_cases hrs : 48 ≤ ml[at_].b.size - pd - need
        all_goals
          simp only [takeM, g1, hrs, hif, hneed, not_true_eq_false, not_false_eq_true, ↓reduceIte, rowsM, List.map_cons, List.map_nil, List.nil_append, List.cons_append, List.append_nil, Mb.c, freeB, List.length_cons, List.length_nil, List.length_append, Nat.zero_add, Nat.reduceAdd] at hrep
          (repeat ((try simp only [cl_seq, cl_skip]); with_reducible refine cg fun K hK => ?_; (simp (maxSteps := 1000000) only [go_sem, Nat.reduceBEq, show min 1 6 = 1 from rfl, show min 2 6 = 2 from rfl, show min 3 6 = 3 from rfl, show min 4 6 = 4 from rfl, show min 5 6 = 5 from rfl, wrap64 (n := ml[at_].b.size - pd - need) (by omega) (by omega)]); (repeat refine ck ?_); (try simp (disch := omega) only [wrap64, wrapi64]); refine hK _ ?_; clear hK K))
          (((try simp only [cl_seq, cl_skip]); refine cl_cond rfl (fun g2 => ?_) (fun g2 => ?_)))
        all_goals simp only [decide_eq_true_eq, decide_eq_false_iff_not, ge_iff_le] at g2
        all_goals try (exfalso; omega)
        all_goals
          (repeat ((try simp only [cl_seq, cl_skip]); with_reducible refine cg fun K hK => ?_; (simp (maxSteps := 1000000) only [go_sem, Nat.reduceBEq, hSn, hS1, show min 1 6 = 1 from rfl, show min 2 6 = 2 from rfl, show min 3 6 = 3 from rfl, show min 4 6 = 4 from rfl, show min 5 6 = 5 from rfl, hBB, hlo, h8, hrep, wrapi64 (n := (at_ : Int) + 1) (by omega) (by omega), wrap64 (n := ml[at_].b.off + pd + need) (by omega) (by omega), wrap64 (n := ml[at_].b.off + pd + 32) (by omega) (by omega)]); (repeat refine ck ?_); (try simp (disch := omega) only [wrap64, wrapi64]); refine hK _ ?_; clear hK K))
          (((try simp only [cl_seq, cl_skip]); (try simp only [cl_ret]); refine hR _ _ (.inr rfl) ?_; (simp (maxSteps := 1000000) only [go_sem])))
          simp [takeM, g1, hrs, freeB, rowsM, Mb.c, hneed, hif]
    · have hz : pd = 0 := by omega
      refine cl_mid (fun E' => E' = mk [(1000000, .heap H1 m1), (0, .v (.one (.ptr S 12 0 0))), (8, .box 0 [.int .i64 0, .int .u64 0, .int .u64 0]), (11, .v (.one (.int .u64 need))), (13, .v (.one (.int .i64 at_))), (19, .own 0 55 6 []), (20, .box 0 [.int .u64 (ml[at_].b.off + pd), .int .u64 (ml[at_].b.size - pd), .bool true, .int .i64 o, .int .u64 n, d])]) (fun K4 hK4 => ?_) ?_
      · rcases hd with ⟨w0, rfl, rfl, rfl⟩ | ⟨w0, rfl, rfl, rfl⟩
        · subst w0
          (repeat ((try simp only [cl_seq, cl_skip]); with_reducible refine cg fun K hK => ?_; (simp (maxSteps := 1000000) only [go_sem, Nat.reduceBEq, hwf, List.replicate_zero, show min 1 6 = 1 from rfl, show min 2 6 = 2 from rfl, show min 3 6 = 3 from rfl, show min 4 6 = 4 from rfl, show min 5 6 = 5 from rfl, wrap64 (n := ml[at_].b.off + pd) (by omega) (by omega), wrap64 (n := ml[at_].b.size - pd) (by omega) (by omega)]); (repeat refine ck ?_); (try simp (disch := omega) only [wrap64, wrapi64]); refine hK _ ?_; clear hK K))
          exact hK4 _ rfl
        · have hne := hne w0
          (repeat ((try simp only [cl_seq, cl_skip]); with_reducible refine cg fun K hK => ?_; (simp (maxSteps := 1000000) only [go_sem, Nat.reduceBEq, hwf, hne, List.length_replicate, show min 1 6 = 1 from rfl, show min 2 6 = 2 from rfl, show min 3 6 = 3 from rfl, show min 4 6 = 4 from rfl, show min 5 6 = 5 from rfl, wrap64 (n := ml[at_].b.off + pd) (by omega) (by omega), wrap64 (n := ml[at_].b.size - pd) (by omega) (by omega)]); (repeat refine ck ?_); (try simp (disch := omega) only [wrap64, wrapi64]); refine hK _ ?_; clear hK K))
          exact hK4 _ rfl
      · rintro E' rfl
        clear hd
        by_cases hrs : 48 ≤ ml[at_].b.size - pd - need
        all_goals
          simp only [takeM, g1, hrs, hif, hneed, not_true_eq_false, not_false_eq_true, ↓reduceIte, rowsM, List.map_cons, List.map_nil, List.nil_append, List.cons_append, List.append_nil, Mb.c, freeB, List.length_cons, List.length_nil, List.length_append, Nat.zero_add, Nat.reduceAdd] at hrep
          (repeat ((try simp only [cl_seq, cl_skip]); with_reducible refine cg fun K hK => ?_; (simp (maxSteps := 1000000) only [go_sem, Nat.reduceBEq, show min 1 6 = 1 from rfl, show min 2 6 = 2 from rfl, show min 3 6 = 3 from rfl, show min 4 6 = 4 from rfl, show min 5 6 = 5 from rfl, wrap64 (n := ml[at_].b.size - pd - need) (by omega) (by omega)]); (repeat refine ck ?_); (try simp (disch := omega) only [wrap64, wrapi64]); refine hK _ ?_; clear hK K))
          (((try simp only [cl_seq, cl_skip]); refine cl_cond rfl (fun g2 => ?_) (fun g2 => ?_)))
        all_goals simp only [decide_eq_true_eq, decide_eq_false_iff_not, ge_iff_le] at g2
        all_goals try (exfalso; omega)
        all_goals
          (repeat ((try simp only [cl_seq, cl_skip]); with_reducible refine cg fun K hK => ?_; (simp (maxSteps := 1000000) only [go_sem, Nat.reduceBEq, hSn, hS1, show min 1 6 = 1 from rfl, show min 2 6 = 2 from rfl, show min 3 6 = 3 from rfl, show min 4 6 = 4 from rfl, show min 5 6 = 5 from rfl, hBB, hlo, h8, hrep, wrapi64 (n := (at_ : Int) + 1) (by omega) (by omega), wrap64 (n := ml[at_].b.off + pd + need) (by omega) (by omega), wrap64 (n := ml[at_].b.off + pd + 32) (by omega) (by omega)]); (repeat refine ck ?_); (try simp (disch := omega) only [wrap64, wrapi64]); refine hK _ ?_; clear hK K))
          (((try simp only [cl_seq, cl_skip]); (try simp only [cl_ret]); refine hR _ _ (.inr rfl) ?_; (simp (maxSteps := 1000000) only [go_sem])))
          simp [takeM, g1, hrs, freeB, rowsM, Mb.c, hneed, hif]
end
end Go.Proofs.YtapdaefpkddioaaGreat.Pe
