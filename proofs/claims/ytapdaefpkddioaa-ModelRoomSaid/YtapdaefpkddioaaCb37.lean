/- A part of the proof of PmD. -/
import Derived.Test.YtapdaefpkddioaaCb36
set_option linter.unusedSimpArgs false
set_option linter.unusedVariables false
set_option linter.unusedSectionVars false
namespace Go.Proofs.Ytapdaefpkddioaa.Pe
open Go
set_option maxHeartbeats 8000000
section
variable {S B nx : Nat} {a f mp : D} {live : List Bool} {ml : List Mb} {H : Hp} {o n al : Int} (h8 : live.length = 8) (hs : Hs S B a f mp live ml H nx) (ok : TOk ml) (hn : U64 n) (ha : U64 al) (o0 : 0 ≤ o) (o1 : o ≤ 8)
include h8 hs ok hn ha o0 o1
theorem takeMF_good (h : alignV al = true) {need : Int} (h2 : needV n = some need) {at_ : Nat} (h3 : bestUpto (bks ml) need al ml.length = some at_) (hat : at_ < ml.length) :
    ∃ d B' H' nx', takeMF [.one (.ptr S 12 0 0), .one (.int .i64 o), .one (.int .u64 n), .one (.int .u64 al)] H nx = some (.a (.many [.int .i64 0, .int .u64 (ml[at_].b.off + padV ml[at_].b.off al + 32), .int .u64 0]), H', nx') ∧
      Hs S B' a f mp live (takeL ml at_ (padV ml[at_].b.off al) need o n d) H' nx' ∧ Stp S B H nx B' H' nx' ∧ NewD nx H' (wordsV n).toNat d := by
  have hlen : ∀ d, (takeL ml at_ (padV ml[at_].b.off al) need o n d) = ml.take at_ ++ (takeM ml[at_] (padV ml[at_].b.off al) need o n d ++ ml.drop (at_ + 1)) := fun d => by unfold takeL; rw [List.getElem?_eq_getElem hat]
  obtain ⟨hff1, hff⟩ := best_fits _ _ _ _ _ h3
  have hbg : (bks ml)[at_] = ml[at_].b := by simp [bks]
  rw [hbg] at hff
  simp only [fits, Bool.and_eq_true, Bool.not_eq_true', decide_eq_true_eq] at hff
  obtain ⟨⟨f1, f2⟩, f3⟩ := hff
  have hmi := List.getElem_mem hat
  have pf := pad_facts (ok.off16 _ hmi) (align_16 h).1 (align_16 h).2.1
  have p0 := pf.2.1
  have q0 := ok.off0 _ hmi
  have q1 := ok.off1 _ hmi
  have r0 := ok.size0 _ hmi
  have r1 := ok.size1 _ hmi
  obtain ⟨n0', n1', n16', n40'⟩ := needV_range hn h2
  have hn0 := hn.1
  have hw0 : 0 ≤ wordsV n := by unfold wordsV; omega
  have hw1 : wordsV n ≤ 200000 := by unfold wordsV; omega
  obtain ⟨w, hw⟩ : ∃ w : Nat, wordsV n = w := ⟨(wordsV n).toNat, by omega⟩
  rw [hw, Int.toNat_natCast]
  have hltS := hs.ltS
  have hltB := hs.ltB
  have hsm := ok.sm
  have hdat : ∃ (d : D) (H1 : Hp) (n1 : Nat), ((w = 0 ∧ d = .sl [] ∧ H1 = H ∧ n1 = nx) ∨ (0 < w ∧ d = .ref nx 1 0 w ∧ H1 = updO H nx (some ⟨some 23, 1, List.replicate w [.int .u64 0]⟩) ∧ n1 = nx + 1)) ∧ Hs S B a f mp live ml H1 n1 ∧ Stp S B H nx B H1 n1 := by
    by_cases hwz : w = 0
    · exact ⟨.sl [], H, nx, .inl ⟨hwz, rfl, rfl, rfl⟩, hs, .refl _ _ _ _⟩
    · refine ⟨.ref nx 1 0 w, _, _, .inr ⟨by omega, rfl, rfl, rfl⟩, ⟨?_, ?_, fun t ht => ?_⟩, ⟨by omega, .inl rfl, fun t ht _ _ => updO_ne (by omega)⟩⟩
      · rw [updO_ne (by omega)]; exact hs.top
      · rw [updO_ne (by omega)]; exact hs.bl
      · rw [updO_ne (by omega)]; exact hs.fresh t (by omega)
  obtain ⟨d, H1, m1, hd, hs1, st1⟩ := hdat
  have hms := takeM_len ml[at_] (padV ml[at_].b.off al) need o n d
  have hrep := replaceF_eq (nx := m1) (i := at_) (ms := takeM ml[at_] (padV ml[at_].b.off al) need o n d) hs1.bl hat (by omega) hms.1 hms.2 (Nat.ne_of_lt hs1.ltB)
  obtain ⟨hs2, st2⟩ := ins_hs hs1 (ml.take at_ ++ (takeM ml[at_] (padV ml[at_].b.off al) need o n d ++ ml.drop (at_ + 1))) (ml.length - 1 + (takeM ml[at_] (padV ml[at_].b.off al) need o n d).length) (by simp; omega)
  refine ⟨d, m1, _, m1 + 1, ?_, by rw [hlen]; exact hs2, st1.trans st2, ?_⟩
  rotate_left
  · rcases hd with ⟨w0, rfl, rfl, rfl⟩ | ⟨w0, rfl, rfl, rfl⟩
    · exact .none w0
    · refine .some _ w0 (Nat.le_refl _) ?_
      rw [updO_ne (by omega), updO_ne (by omega), updO_ne (by omega), updO_at, zeros_rowsN]
  unfold takeMF
  rw [Try.results47]
  refine semT_eq rfl (by simp [Try.ntmps47]) fun X R hR => ?_
  unfold Cx47 at hR ⊢
  obtain ⟨a16, a0, a1⟩ := align_16 h
  obtain ⟨n0, n1, n16, n40⟩ := needV_range hn h2
  have hso : (upM 0 al).isSome = true := by
    rw [upM_eq (n := 0) (by unfold U64; omega) ha.1 a1]
    simp only [alignV, Bool.and_eq_true] at h
    simp [upV, h.1.1]
  have hup := upMF_eq (a := 0) (b := al) (by unfold U64; omega) ha
  have hlo := rowsO_len live
  have hS := hs.top
  have hB := hs.bl
  have hbl := bks_len ml
  have hsm := ok.sm
  (repeat ((try simp only [cl_seq, cl_skip]); with_reducible refine cg fun K hK => ?_; (simp (maxSteps := 1000000) only [go_sem, Nat.reduceBEq, hup, optV, hso, Bool.not_true, show decide (al < 16) = false by simp; omega, show decide (4096 < al) = false by simp; omega]); (repeat refine ck ?_); (try simp (disch := omega) only [wrap64, wrapi64]); refine hK _ ?_; clear hK K))
  (((try simp only [cl_seq, cl_skip]); refine cl_cond (b := false) rfl (fun h => nomatch h) (fun _ => ?_)))
  (repeat ((try simp only [cl_seq, cl_skip]); with_reducible refine cg fun K hK => ?_; (simp (maxSteps := 1000000) only [go_sem, Nat.reduceBEq, needF_eq hn, optV, h2, Option.isSome_some, Option.getD_some, Bool.not_true]); (repeat refine ck ?_); (try simp (disch := omega) only [wrap64, wrapi64]); refine hK _ ?_; clear hK K))
  (((try simp only [cl_seq, cl_skip]); refine cl_cond (b := false) rfl (fun h => nomatch h) (fun _ => ?_)))
  (repeat ((try simp only [cl_seq, cl_skip]); with_reducible refine cg fun K hK => ?_; (simp (maxSteps := 1000000) only [go_sem, Nat.reduceBEq, hS, hB, hlo, h8]); (repeat refine ck ?_); (try simp (disch := omega) only [wrap64, wrapi64]); refine hK _ ?_; clear hK K))
  (((try simp only [cl_seq, cl_skip]); refine cl_block fun K hK1 R hR1 X hX1 => ?_))
  refine cl_loop (fun E k => ∃ i : Nat, i ≤ ml.length ∧ k = ml.length - i ∧ E = mk [(1000000, .heap H nx), (51, .v (.one (.int .i64 i))), (0, .v (.one (.ptr S 12 0 0))), (1, .v (.one (.int .i64 o))), (2, .v (.one (.int .u64 n))), (3, .v (.one (.int .u64 al))), (8, .box 0 [.int .i64 0, .int .u64 0, .int .u64 0]), (11, .v (.one (.int .u64 need))), (13, .v (.one (.int .i64 (optI (bestUpto (bks ml) need al i))))), (49, .v (.one (.ref B 6 0 ml.length))), (50, .v (.one (.int .i64 ml.length)))]) ml.length ⟨0, by omega, by omega, rfl⟩ ?_
  rintro E k ⟨i, hi, rfl, rfl⟩ J hJ R2 hR2 X2 hX2
  (repeat ((try simp only [cl_seq, cl_skip]); with_reducible refine cg fun K hK => ?_; (simp (maxSteps := 1000000) only [go_sem, Nat.reduceBEq]); (repeat refine ck ?_); (try simp (disch := omega) only [wrap64, wrapi64]); refine hK _ ?_; clear hK K))
  (((try simp only [cl_seq, cl_skip]); refine cl_cond rfl (fun hc => ?_) (fun hc => ?_)))
  · simp only [decide_eq_true_eq, Int.ofNat_lt] at hc
    have hmi := List.getElem_mem hc
    have b0 := ok.off0 _ hmi
    have b1 := ok.off1 _ hmi
    have s0 := ok.size0 _ hmi
    have s1 := ok.size1 _ hmi
    have hget : (bks ml)[i]? = some ml[i].b := by simp [bks, hc]
    have hstep := best_succ (bks ml) need al i
    unfold bestStep at hstep
    rw [hget] at hstep
    simp only at hstep
    have hblt := best_lt (bks ml) need al i
    generalize bestUpto (bks ml) need al i = best at *
    (((try simp only [cl_seq, cl_skip]); refine cl_block fun K3 hK3 R hR3 X hX3 => ?_))
    have hend : ∀ E', E' 1000000 = .heap H nx → E' 0 = .v (.one (.ptr S 12 0 0)) → E' 1 = .v (.one (.int .i64 o)) → E' 2 = .v (.one (.int .u64 n)) → E' 3 = .v (.one (.int .u64 al)) → E' 8 = .box 0 [.int .i64 0, .int .u64 0, .int .u64 0] → E' 11 = .v (.one (.int .u64 need)) → E' 13 = .v (.one (.int .i64 (optI (bestUpto (bks ml) need al (i + 1))))) → E' 49 = .v (.one (.ref B 6 0 ml.length)) → E' 50 = .v (.one (.int .i64 ml.length)) → E' 51 = .v (.one (.int .i64 i)) → K3 E' := by
      intro E' e1 e2 e3 e4 e5 e6 e7 e8 e9 e10 e11
      refine hK3 _ ?_
      (repeat ((try simp only [cl_seq, cl_skip]); with_reducible refine cg fun K hK => ?_; (simp (maxSteps := 1000000) only [go_sem, Nat.reduceBEq, wrapi64 (n := (i : Int) + 1) (by omega) (by omega), e1, e2, e3, e4, e5, e6, e7, e8, e9, e10, e11]); (repeat refine ck ?_); (try simp (disch := omega) only [wrap64, wrapi64]); refine hK _ ?_; clear hK K))
      ((try simp only [cl_seq, cl_skip, cl_exit, cl_nil]))
      exact hJ _ (ml.length - (i + 1)) (by omega) ⟨i + 1, by omega, rfl, rfl⟩
    clear hK3
    (((try simp only [cl_seq, cl_skip]); with_reducible refine cl_reg fun K hK => ?_; (simp (maxSteps := 1000000) only [go_sem, Nat.reduceBEq, hS, hB, hc]); (repeat refine ck ?_); (first | ((try simp (disch := omega) only [wrap64, wrapi64]); refine hK _ ?_; clear hK K) | skip)))
    ((try simp only [cl_seq, cl_skip, cl_exit, cl_nil]))
    refine cl_drw_b (g := ?g) (t := ?t) (L := ?L) (fits need al ml[i].b) (fun K hK => ?h1) ?h2
    case' h1 =>
      rcases Bool.eq_false_or_eq_true ml[i].b.used with hu | hu
      · (((simp (maxSteps := 1000000) only [go_sem, Nat.reduceBEq, show (!ml[i].b.used) = false by rw [hu]; rfl]); (repeat refine ck ?_)))
        refine hK _ ?_
        simp [fits, hu]
      · by_cases hz : need ≤ ml[i].b.size
        · (((simp (maxSteps := 1000000) only [go_sem, Nat.reduceBEq, show (!ml[i].b.used) = true by rw [hu]; rfl, show decide (need ≤ ml[i].b.size) = true by simp [hz], padMF_eq (off := ml[i].b.off) (a := al) b0 (by omega) h, wrap64 (n := ml[i].b.size - need) (by omega) (by omega)]); (repeat refine ck ?_)))
          refine hK _ ?_
          simp [fits, hu, hz]
        · (((simp (maxSteps := 1000000) only [go_sem, Nat.reduceBEq, show (!ml[i].b.used) = true by rw [hu]; rfl, show decide (need ≤ ml[i].b.size) = false by simp; omega]); (repeat refine ck ?_)))
          refine hK _ ?_
          simp [fits, hu, hz]
    cases hft : fits need al ml[i].b with
    | false =>
      (repeat ((try simp only [cl_seq, cl_skip]); with_reducible refine cg fun K hK => ?_; (simp (maxSteps := 1000000) only [go_sem, Nat.reduceBEq]); (repeat refine ck ?_); (try simp (disch := omega) only [wrap64, wrapi64]); refine hK _ ?_; clear hK K))
      (((try simp only [cl_seq, cl_skip]); refine cl_cond (b := false) rfl (fun h => nomatch h) (fun _ => ?_)))
      ((try simp only [cl_seq, cl_skip, cl_exit, cl_nil]))
      refine hend _ rfl rfl rfl rfl rfl rfl rfl ?_ rfl rfl rfl
      rw [hstep, hft]; rfl
    | true =>
      cases best with
      | none =>
        (repeat ((try simp only [cl_seq, cl_skip]); with_reducible refine cg fun K hK => ?_; (simp (maxSteps := 1000000) only [go_sem, Nat.reduceBEq, optI, show decide ((-1 : Int) < 0) = true from rfl]); (repeat refine ck ?_); (try simp (disch := omega) only [wrap64, wrapi64]); refine hK _ ?_; clear hK K))
        (((try simp only [cl_seq, cl_skip]); refine cl_cond (b := true) rfl (fun _ => ?_) (fun h => nomatch h)))
        (repeat ((try simp only [cl_seq, cl_skip]); with_reducible refine cg fun K hK => ?_; (simp (maxSteps := 1000000) only [go_sem, Nat.reduceBEq]); (repeat refine ck ?_); (try simp (disch := omega) only [wrap64, wrapi64]); refine hK _ ?_; clear hK K))
        ((try simp only [cl_seq, cl_skip, cl_exit, cl_nil]))
        refine hend _ rfl rfl rfl rfl rfl rfl rfl ?_ rfl rfl rfl
        rw [hstep, hft]; rfl
      | some j =>
        obtain ⟨j1, j2⟩ := hblt j rfl
        have j3 : j < ml.length := by omega
        have hj : (bks ml)[j]? = some ml[j].b := by simp [bks, j3]
        have hbt : better (bks ml) ml[i].b (some j) = decide (ml[i].b.size < ml[j].b.size) := by simp only [better, hj]
        (repeat ((try simp only [cl_seq, cl_skip]); with_reducible refine cg fun K hK => ?_; (simp (maxSteps := 1000000) only [go_sem, Nat.reduceBEq, optI, hS, hB, hlo, h8, j3, show decide ((j : Int) < 0) = false by simp]); (repeat refine ck ?_); (try simp (disch := omega) only [wrap64, wrapi64]); refine hK _ ?_; clear hK K))
        (((try simp only [cl_seq, cl_skip]); refine cl_cond rfl (fun he => ?_) (fun he => ?_)))
        · (repeat ((try simp only [cl_seq, cl_skip]); with_reducible refine cg fun K hK => ?_; (simp (maxSteps := 1000000) only [go_sem, Nat.reduceBEq]); (repeat refine ck ?_); (try simp (disch := omega) only [wrap64, wrapi64]); refine hK _ ?_; clear hK K))
          ((try simp only [cl_seq, cl_skip, cl_exit, cl_nil]))
          refine hend _ rfl rfl rfl rfl rfl rfl rfl ?_ rfl rfl rfl
          rw [hstep, hft, hbt, he]; rfl
        · ((try simp only [cl_seq, cl_skip, cl_exit, cl_nil]))
          refine hend _ rfl rfl rfl rfl rfl rfl rfl ?_ rfl rfl rfl
          rw [hstep, hft, hbt, he]; rfl
  · simp only [decide_eq_false_iff_not, Int.ofNat_lt] at hc
    have hil : i = ml.length := by omega
    subst hil
    ((try simp only [cl_seq, cl_skip, cl_exit, cl_nil]))
    refine hX2 0 _ (hK1 _ ?_)
    rw [h3]
    have hwf := wordsF_eq hn
    rw [hw] at hwf
    have hpf := padMF_eq (off := ml[at_].b.off) (a := al) q0 (by omega) h
    have hS1 := hs1.top
    have hsz48 : ∀ x, (48 ≤ x ↔ ¬ x < (48 : Int)) := fun x => by omega
    generalize padV ml[at_].b.off al = pd at *
    (repeat ((try simp only [cl_seq, cl_skip]); with_reducible refine cg fun K hK => ?_; (simp (maxSteps := 1000000) only [go_sem, Nat.reduceBEq, optI, show decide ((at_ : Int) < 0) = false by simp]); (repeat refine ck ?_); (try simp (disch := omega) only [wrap64, wrapi64]); refine hK _ ?_; clear hK K))
    (((try simp only [cl_seq, cl_skip]); refine cl_cond (b := false) rfl (fun h => nomatch h) (fun _ => ?_)))
    (repeat ((try simp only [cl_seq, cl_skip]); with_reducible refine cg fun K hK => ?_; (simp (maxSteps := 1000000) only [go_sem, Nat.reduceBEq, hS, hB, hlo, h8, hat, hpf]); (repeat refine ck ?_); (try simp (disch := omega) only [wrap64, wrapi64]); refine hK _ ?_; clear hK K))
    have hSn : ∀ x, updO (updO H1 B none) m1 x S = topO a f (.ref B 6 0 ml.length) mp live := fun x => by
      rw [updO_ne (Nat.ne_of_lt hs1.ltS), updO_ne hs1.ne, hs1.top]
    have hBB := hs1.bl
    have hne : 0 < w → (List.replicate w [D.int .u64 0] = []) = False := fun h => by simp; omega
    have hneed : need + (ml[at_].b.size - pd - need) = ml[at_].b.size - pd := by omega
    have hif : (ml[at_].b.size - pd - need < 48) ↔ ¬ 48 ≤ ml[at_].b.size - pd - need := by omega
    (((try simp only [cl_seq, cl_skip]); refine cl_cond rfl (fun g1 => ?_) (fun g1 => ?_)))
    all_goals simp only [decide_eq_true_eq, decide_eq_false_iff_not] at g1
    all_goals (repeat ((try simp only [cl_seq, cl_skip]); with_reducible refine cg fun K hK => ?_; (simp (maxSteps := 1000000) only [go_sem, Nat.reduceBEq]); (repeat refine ck ?_); (try simp (disch := omega) only [wrap64, wrapi64]); refine hK _ ?_; clear hK K))
    all_goals (try simp only [cl_seq, cl_skip])
    · refine cl_mid (fun E' => E' = mk [(1000000, .heap H1 m1), (0, .v (.one (.ptr S 12 0 0))), (8, .box 0 [.int .i64 0, .int .u64 0, .int .u64 0]), (11, .v (.one (.int .u64 need))), (13, .v (.one (.int .i64 at_))), (19, .own 0 51 6 [[.int .u64 ml[at_].b.off, .int .u64 pd, .bool false, .int .i64 0, .int .u64 0, .sl []]]), (20, .box 0 [.int .u64 (ml[at_].b.off + pd), .int .u64 (ml[at_].b.size - pd), .bool true, .int .i64 o, .int .u64 n, d])]) (fun K4 hK4 => ?_) ?_
      · rcases hd with ⟨w0, rfl, rfl, rfl⟩ | ⟨w0, rfl, rfl, rfl⟩
        · subst w0
          (repeat ((try simp only [cl_seq, cl_skip]); with_reducible refine cg fun K hK => ?_; (simp (maxSteps := 1000000) only [go_sem, Nat.reduceBEq, hwf, List.replicate_zero, show min 1 6 = 1 from rfl, show min 2 6 = 2 from rfl, show min 3 6 = 3 from rfl, show min 4 6 = 4 from rfl, show min 5 6 = 5 from rfl, wrap64 (n := ml[at_].b.off + pd) (by omega) (by omega), wrap64 (n := ml[at_].b.size - pd) (by omega) (by omega)]); (repeat refine ck ?_); (try simp (disch := omega) only [wrap64, wrapi64]); refine hK _ ?_; clear hK K))
          exact hK4 _ rfl
        · have hne := hne w0
          (repeat ((try simp only [cl_seq, cl_skip]); with_reducible refine cg fun K hK => ?_; (simp (maxSteps := 1000000) only [go_sem, Nat.reduceBEq, hwf, hne, List.length_replicate, show min 1 6 = 1 from rfl, show min 2 6 = 2 from rfl, show min 3 6 = 3 from rfl, show min 4 6 = 4 from rfl, show min 5 6 = 5 from rfl, wrap64 (n := ml[at_].b.off + pd) (by omega) (by omega), wrap64 (n := ml[at_].b.size - pd) (by omega) (by omega)]); (repeat refine ck ?_); (try simp (disch := omega) only [wrap64, wrapi64]); refine hK _ ?_; clear hK K))
          exact hK4 _ rfl
      · rintro E' rfl
        clear hd
        by_cases hrs : 48 ≤ ml[at_].b.size - pd - need
        all_goals
          simp only [takeM, g1, hrs, hif, hneed, not_true_eq_false, not_false_eq_true, ↓reduceIte, rowsM, List.map_cons, List.map_nil, List.nil_append, List.cons_append, List.append_nil, Mb.c, freeB, List.length_cons, List.length_nil, List.length_append, Nat.zero_add, Nat.reduceAdd] at hrep
          (repeat ((try simp only [cl_seq, cl_skip]); with_reducible refine cg fun K hK => ?_; (simp (maxSteps := 1000000) only [go_sem, Nat.reduceBEq, show min 1 6 = 1 from rfl, show min 2 6 = 2 from rfl, show min 3 6 = 3 from rfl, show min 4 6 = 4 from rfl, show min 5 6 = 5 from rfl, wrap64 (n := ml[at_].b.size - pd - need) (by omega) (by omega)]); (repeat refine ck ?_); (try simp (disch := omega) only [wrap64, wrapi64]); refine hK _ ?_; clear hK K))
          (((try simp only [cl_seq, cl_skip]); refine cl_cond rfl (fun g2 => ?_) (fun g2 => ?_)))
        all_goals simp only [decide_eq_true_eq, decide_eq_false_iff_not, ge_iff_le] at g2
        all_goals try (exfalso; omega)
        all_goals
          (repeat ((try simp only [cl_seq, cl_skip]); with_reducible refine cg fun K hK => ?_; (simp (maxSteps := 1000000) only [go_sem, Nat.reduceBEq, hSn, hS1, show min 1 6 = 1 from rfl, show min 2 6 = 2 from rfl, show min 3 6 = 3 from rfl, show min 4 6 = 4 from rfl, show min 5 6 = 5 from rfl, hBB, hlo, h8, hrep, wrapi64 (n := (at_ : Int) + 1) (by omega) (by omega), wrap64 (n := ml[at_].b.off + pd + need) (by omega) (by omega), wrap64 (n := ml[at_].b.off + pd + 32) (by omega) (by omega)]); (repeat refine ck ?_); (try simp (disch := omega) only [wrap64, wrapi64]); refine hK _ ?_; clear hK K))
          (((try simp only [cl_seq, cl_skip]); (try simp only [cl_ret]); refine hR _ _ (.inr rfl) ?_; (simp (maxSteps := 1000000) only [go_sem])))
          simp [takeM, g1, hrs, freeB, rowsM, Mb.c, hneed, hif]
    · have hz : pd = 0 := by omega
      refine cl_mid (fun E' => E' = mk [(1000000, .heap H1 m1), (0, .v (.one (.ptr S 12 0 0))), (8, .box 0 [.int .i64 0, .int .u64 0, .int .u64 0]), (11, .v (.one (.int .u64 need))), (13, .v (.one (.int .i64 at_))), (19, .own 0 51 6 []), (20, .box 0 [.int .u64 (ml[at_].b.off + pd), .int .u64 (ml[at_].b.size - pd), .bool true, .int .i64 o, .int .u64 n, d])]) (fun K4 hK4 => ?_) ?_
      · rcases hd with ⟨w0, rfl, rfl, rfl⟩ | ⟨w0, rfl, rfl, rfl⟩
        · subst w0
          (repeat ((try simp only [cl_seq, cl_skip]); with_reducible refine cg fun K hK => ?_; (simp (maxSteps := 1000000) only [go_sem, Nat.reduceBEq, hwf, List.replicate_zero, show min 1 6 = 1 from rfl, show min 2 6 = 2 from rfl, show min 3 6 = 3 from rfl, show min 4 6 = 4 from rfl, show min 5 6 = 5 from rfl, wrap64 (n := ml[at_].b.off + pd) (by omega) (by omega), wrap64 (n := ml[at_].b.size - pd) (by omega) (by omega)]); (repeat refine ck ?_); (try simp (disch := omega) only [wrap64, wrapi64]); refine hK _ ?_; clear hK K))
          exact hK4 _ rfl
        · have hne := hne w0
          (repeat ((try simp only [cl_seq, cl_skip]); with_reducible refine cg fun K hK => ?_; (simp (maxSteps := 1000000) only [go_sem, Nat.reduceBEq, hwf, hne, List.length_replicate, show min 1 6 = 1 from rfl, show min 2 6 = 2 from rfl, show min 3 6 = 3 from rfl, show min 4 6 = 4 from rfl, show min 5 6 = 5 from rfl, wrap64 (n := ml[at_].b.off + pd) (by omega) (by omega), wrap64 (n := ml[at_].b.size - pd) (by omega) (by omega)]); (repeat refine ck ?_); (try simp (disch := omega) only [wrap64, wrapi64]); refine hK _ ?_; clear hK K))
          exact hK4 _ rfl
      · rintro E' rfl
        clear hd
        by_cases hrs : 48 ≤ ml[at_].b.size - pd - need
        all_goals
          simp only [takeM, g1, hrs, hif, hneed, not_true_eq_false, not_false_eq_true, ↓reduceIte, rowsM, List.map_cons, List.map_nil, List.nil_append, List.cons_append, List.append_nil, Mb.c, freeB, List.length_cons, List.length_nil, List.length_append, Nat.zero_add, Nat.reduceAdd] at hrep
          (repeat ((try simp only [cl_seq, cl_skip]); with_reducible refine cg fun K hK => ?_; (simp (maxSteps := 1000000) only [go_sem, Nat.reduceBEq, show min 1 6 = 1 from rfl, show min 2 6 = 2 from rfl, show min 3 6 = 3 from rfl, show min 4 6 = 4 from rfl, show min 5 6 = 5 from rfl, wrap64 (n := ml[at_].b.size - pd - need) (by omega) (by omega)]); (repeat refine ck ?_); (try simp (disch := omega) only [wrap64, wrapi64]); refine hK _ ?_; clear hK K))
          (((try simp only [cl_seq, cl_skip]); refine cl_cond rfl (fun g2 => ?_) (fun g2 => ?_)))
        all_goals simp only [decide_eq_true_eq, decide_eq_false_iff_not, ge_iff_le] at g2
        all_goals try (exfalso; omega)
        all_goals
          (repeat ((try simp only [cl_seq, cl_skip]); with_reducible refine cg fun K hK => ?_; (simp (maxSteps := 1000000) only [go_sem, Nat.reduceBEq, hSn, hS1, show min 1 6 = 1 from rfl, show min 2 6 = 2 from rfl, show min 3 6 = 3 from rfl, show min 4 6 = 4 from rfl, show min 5 6 = 5 from rfl, hBB, hlo, h8, hrep, wrapi64 (n := (at_ : Int) + 1) (by omega) (by omega), wrap64 (n := ml[at_].b.off + pd + need) (by omega) (by omega), wrap64 (n := ml[at_].b.off + pd + 32) (by omega) (by omega)]); (repeat refine ck ?_); (try simp (disch := omega) only [wrap64, wrapi64]); refine hK _ ?_; clear hK K))
          (((try simp only [cl_seq, cl_skip]); (try simp only [cl_ret]); refine hR _ _ (.inr rfl) ?_; (simp (maxSteps := 1000000) only [go_sem])))
          simp [takeM, g1, hrs, freeB, rowsM, Mb.c, hneed, hif]
end
end Go.Proofs.Ytapdaefpkddioaa.Pe
namespace Go.Proofs.Ytapdaefpkddioaa.Pe
open Go
set_option maxHeartbeats 2000000
def dlV : List Wd → Int → List Int
  | [], _ => []
  | w :: l, p => if w.off = p then w.d else dlV l p
theorem dataV_eq (s : St) (p : Int) : dataV s p = dlV s.data p := by
  unfold dataV
  generalize s.data = l
  induction l with
  | nil => rfl
  | cons w l ih =>
    simp only [List.findIdx?_cons, dlV]
    by_cases h : w.off = p
    · simp [h]
    · have hb : (w.off == p) = false := by simpa using h
      rw [hb, if_neg h, ← ih]
      cases hf : l.findIdx? (fun x => x.off == p) <;> simp
theorem dlV_drop (l : List Wd) (x p : Int) : dlV (dropV l x) p = if p = x then [] else dlV l p := by
  induction l with
  | nil => simp [dropV, dlV]
  | cons w l ih =>
    unfold dropV at ih ⊢
    by_cases h : w.off = x
    · have hd : decide (w.off ≠ x) = false := by simp [h]
      rw [List.filter_cons, hd]
      simp only [Bool.false_eq_true, ↓reduceIte, ih, dlV]
      by_cases hp : p = x
      · simp [hp]
      · rw [if_neg hp, if_neg hp, if_neg (by omega)]
    · have hd : decide (w.off ≠ x) = true := by simp [h]
      rw [List.filter_cons, hd]
      simp only [↓reduceIte, dlV, ih]
      by_cases hp : p = x
      · simp [hp, h]
      · simp [hp]
theorem dlV_app (l m : List Wd) (p : Int) (h : ∀ w ∈ l, w.off ≠ p) : dlV (l ++ m) p = dlV m p := by
  induction l with
  | nil => rfl
  | cons w l ih =>
    simp only [List.cons_append, dlV]
    rw [if_neg (h w (by simp)), ih (fun x hx => h x (by simp [hx]))]
theorem dlV_one (l : List Wd) (x : Int) (d : List Int) (p : Int) (h : p ≠ x) : dlV (l ++ [⟨x, d⟩]) p = dlV l p := by
  induction l with
  | nil => simp only [List.nil_append, dlV]; rw [if_neg (fun e => h e.symm)]
  | cons w l ih => simp only [List.cons_append, dlV, ih]
theorem dlV_put (l : List Wd) (x : Int) (d : List Int) (p : Int) : dlV (putV l x d) p = if p = x then d else dlV l p := by
  unfold putV
  by_cases hp : p = x
  · subst hp
    rw [dlV_app _ _ _ (fun w hw => by simp only [dropV, List.mem_filter] at hw; simpa using hw.2)]
    simp [dlV]
  · rw [dlV_one _ _ _ _ hp, dlV_drop, if_neg hp, if_neg hp]
theorem putV_len (l : List Wd) (x : Int) (d : List Int) : (putV l x d).length ≤ l.length + 1 := by
  have := dropV_len l x
  simp [putV]; omega
theorem putV_sm {l : List Wd} {x : Int} {d : List Int} (h : ∀ w ∈ l, Sm w.d) (hd : Sm d) : ∀ w ∈ putV l x d, Sm w.d := by
  intro w hw
  rcases List.mem_append.1 hw with hw | hw
  · exact h w (List.mem_filter.1 hw).1
  · simp only [List.mem_singleton] at hw; rw [hw]; exact hd
theorem dropV_sm {l : List Wd} {x : Int} (h : ∀ w ∈ l, Sm w.d) : ∀ w ∈ dropV l x, Sm w.d := fun w hw => h w (List.mem_filter.1 hw).1
theorem sizedV_nil (w : Nat) : sizedV [] w = List.replicate w 0 := by simp [sizedV]
theorem chain_inj {a z : Int} {l : List Bk} (h : chain a l z) (hs : ∀ b ∈ l, 0 < b.size) {i j : Nat} (hi : i < l.length) (hj : j < l.length) (hij : l[i].off = l[j].off) : i = j := by
  have key : ∀ {i j : Nat} (hi : i < l.length) (hj : j < l.length), i < j → l[i].off + l[i].size ≤ l[j].off := by
    intro i j hi hj hlt
    have e : l = l.take j ++ l.drop j := (List.take_append_drop j l).symm
    have h' := h
    rw [e] at h'
    obtain ⟨y, c1, c2⟩ := chain_app.1 h'
    have m1 : l[i] ∈ l.take j := by
      rw [List.mem_take_iff_getElem]
      exact ⟨i, by omega, rfl⟩
    have r1 := chain_mem c1 (fun b hb => by have := hs b (List.mem_of_mem_take hb); omega) m1
    rw [List.drop_eq_getElem_cons hj] at c2
    have : l[j].off = y := c2.1
    omega
  have hp := hs _ (List.getElem_mem hi)
  have hq := hs _ (List.getElem_mem hj)
  rcases Nat.lt_trichotomy i j with h1 | h1 | h1
  · have := key hi hj h1; omega
  · exact h1
  · have := key hj hi h1; omega
section
variable {K : Nat} {s : St} {S B M : Nat} {ml : List Mb} {H : Hp} {nx : Nat}
theorem usedM_app (l m : List Mb) : usedM (l ++ m) = usedM l ++ usedM m := List.filter_append _ _
theorem mem_usedM {l : List Mb} {m : Mb} : m ∈ usedM l ↔ m ∈ l ∧ m.b.used = true := List.mem_filter
theorem Ms.used_off (h : Ms K s S B M ml H nx) {i j : Nat} (hi : i < ml.length) (hj : j < ml.length) (e : ml[i].b.off = ml[j].b.off) : i = j := by
  refine chain_inj h.wk.hi.ch (l := s.h.bl) (fun b hb => by have := (h.wk.hi.bs b hb).size0; omega) (by rw [← h.bs, bks_len]; exact hi) (by rw [← h.bs, bks_len]; exact hj) ?_
  simp only [← h.bs, bks, List.getElem_map]
  exact e
theorem usedM_take (m : Mb) (pd need o n : Int) (d : D) : usedM (takeM m pd need o n d) = [⟨⟨m.b.off + pd, if m.b.size - pd - need < 48 then need + (m.b.size - pd - need) else need, true, o, n⟩, d⟩] := by
  unfold takeM usedM
  by_cases h1 : 0 < pd <;> by_cases h2 : 48 ≤ m.b.size - pd - need <;> simp [h1, h2, freeB]
theorem free_take (m : Mb) (pd need o n : Int) (d : D) : FreeNil (takeM m pd need o n d) := by
  intro x hx hu
  unfold takeM at hx
  simp only [List.mem_append] at hx
  rcases hx with hx | hx | hx
  · split at hx
    · simp only [List.mem_singleton] at hx; subst hx; rfl
    · cases hx
  · simp only [List.mem_singleton] at hx; subst hx; simp at hu
  · split at hx
    · simp only [List.mem_singleton] at hx; subst hx; rfl
    · cases hx
theorem NewD.dt {n0 : Nat} {H' : Hp} {w : Nat} {d : D} (h : NewD n0 H' w d) : Dt H' d (List.replicate w 0) := by
  cases h with
  | none h => subst h; exact .nil
  | some o h ho hH =>
    have := Dt.obj (H := H') o (List.replicate w 0) (by simpa using h) hH
    simpa using this
theorem NewD.oid {n0 : Nat} {H' : Hp} {w : Nat} {d : D} (h : NewD n0 H' w d) {o : Nat} (ho : d.oid = Option.some o) : n0 ≤ o := by
  cases h with
  | none h => cases ho
  | some o' h ho' hH => injection ho with ho; omega
end
end Go.Proofs.Ytapdaefpkddioaa.Pe
namespace Go.Proofs.Ytapdaefpkddioaa.Pe
open Go
set_option maxHeartbeats 2000000
theorem NmOk.mono {s t : St} (h : NmOk s) (hn : t.names = s.names) (hb : ∀ b ∈ s.h.bl, b.used = true → b.owner = 0 → ∃ c ∈ t.h.bl, c.used = true ∧ c.owner = 0 ∧ c.off = b.off) : NmOk t :=
  ⟨by rw [hn]; exact h.le, by rw [hn]; exact h.pk, by
    rw [hn]
    intro e he
    obtain ⟨b, h1, h2, h3, h4⟩ := h.at_ e he
    obtain ⟨c, k1, k2, k3, k4⟩ := hb b h1 h2 h3
    exact ⟨c, k1, k2, k3, by rw [k4]; exact h4⟩, by rw [hn]; exact h.nn, by rw [hn]; exact h.no⟩
section
variable {K : Nat} {s : St} {S B M : Nat} {ml : List Mb} {H : Hp} {nx : Nat}
theorem Ms.more (h : Ms K s S B M ml H nx) : Ms (K + 1) s S B M ml H nx :=
  ⟨h.hs, h.mp, h.bs, h.dt, h.df, h.nd, h.wk, Nat.le_succ_of_le h.dl, h.pos, h.nm⟩
theorem Ms.usedB (h : Ms K s S B M ml H nx) {b : Bk} (hb : b ∈ s.h.bl) (hu : b.used = true) : ∃ m ∈ usedM ml, m.b = b := by
  rw [← h.bs] at hb
  obtain ⟨m, h1, h2⟩ := List.mem_map.1 hb
  exact ⟨m, mem_usedM.2 ⟨h1, by rw [h2]; exact hu⟩, h2⟩
theorem nodup_mid {α : Type} {A C : List α} (h : (A ++ C).Nodup) {X : List α} (hX : X.Nodup) (hd : ∀ x ∈ X, x ∉ A ∧ x ∉ C) : (A ++ (X ++ C)).Nodup := by
  rw [List.nodup_append] at h ⊢
  obtain ⟨h1, h2, h3⟩ := h
  refine ⟨h1, ?_, ?_⟩
  · rw [List.nodup_append]
    exact ⟨hX, h2, fun a ha b hb e => (hd a ha).2 (e ▸ hb)⟩
  · intro a ha b hb e
    rcases List.mem_append.1 hb with hb | hb
    · exact (hd b hb).1 (e ▸ ha)
    · exact h3 a ha b hb e
theorem splitM {α : Type} {l : List α} {i : Nat} (hi : i < l.length) : l = l.take i ++ (l[i] :: l.drop (i + 1)) := by rw [← List.drop_eq_getElem_cons hi, List.take_append_drop]
theorem oid_nodup (d : D) : (d.oid.toList).Nodup := by cases d.oid <;> simp
theorem take_ms (hK : K < 49000) (h : Ms K s S B M ml H nx) {o n al : Int} (o0 : 0 ≤ o) (o1 : o ≤ 8) (hn : U64 n) (ha : U64 al) :
    ∃ B' ml' H' nx', takeMF [.one (.ptr S 12 0 0), .one (.int .i64 o), .one (.int .u64 n), .one (.int .u64 al)] H nx = some (.a (.many (resC (takeSV s o n al).2.1 (takeSV s o n al).2.2 0)), H', nx') ∧
      Ms (K + 1) (takeSV s o n al).1 S B' M ml' H' nx' ∧ (∀ m ∈ usedM ml, m ∈ usedM ml') ∧ nx ≤ nx' ∧ (B' = B ∨ nx ≤ B') ∧ (∀ t, t < nx → t ≠ S → t ≠ B → H' t = H t) ∧
      ((takeSV s o n al).2.1 = 0 → (∀ m ∈ usedM ml, m.b.off + 32 ≠ (takeSV s o n al).2.2) ∧ ∃ m ∈ usedM ml', m.b.off + 32 = (takeSV s o n al).2.2 ∧ m.b.owner = o) := by
  have h8 := h.wk.lv8
  have ok := h.tok
  have stay : ∀ e : Int, e ≠ 0 → takeSV s o n al = (s, e, 0) → takeMF [.one (.ptr S 12 0 0), .one (.int .i64 o), .one (.int .u64 n), .one (.int .u64 al)] H nx = some (.a (.many [.int .i64 e, .int .u64 0, .int .u64 0]), H, nx) →
      ∃ B' ml' H' nx', takeMF [.one (.ptr S 12 0 0), .one (.int .i64 o), .one (.int .u64 n), .one (.int .u64 al)] H nx = some (.a (.many (resC (takeSV s o n al).2.1 (takeSV s o n al).2.2 0)), H', nx') ∧
      Ms (K + 1) (takeSV s o n al).1 S B' M ml' H' nx' ∧ (∀ m ∈ usedM ml, m ∈ usedM ml') ∧ nx ≤ nx' ∧ (B' = B ∨ nx ≤ B') ∧ (∀ t, t < nx → t ≠ S → t ≠ B → H' t = H t) ∧
      ((takeSV s o n al).2.1 = 0 → (∀ m ∈ usedM ml, m.b.off + 32 ≠ (takeSV s o n al).2.2) ∧ ∃ m ∈ usedM ml', m.b.off + 32 = (takeSV s o n al).2.2 ∧ m.b.owner = o) := by
    intro e he0 he hr
    rw [he]
    exact ⟨B, ml, H, nx, hr, h.more, fun _ h => h, Nat.le_refl _, .inl rfl, fun _ _ _ _ => rfl, fun h0 => absurd h0 he0⟩
  cases hal : alignV al with
  | false => exact stay 1 (by omega) (by simp [takeSV, takeV, fitV, hal]) (takeMF_al h8 h.hs ok hn ha o0 o1 hal)
  | true =>
    cases hnd : needV n with
    | none => exact stay 2 (by omega) (by simp [takeSV, takeV, fitV, hal, hnd]) (takeMF_size h8 h.hs ok hn ha o0 o1 hal hnd)
    | some need =>
      have hll : s.h.bl.length = ml.length := by rw [← h.bs, bks_len]
      cases hbe : bestUpto (bks ml) need al ml.length with
      | none => exact stay 3 (by omega) (by simp [takeSV, takeV, fitV, hal, hnd, hll, ← h.bs, bks_len, hbe]) (takeMF_room h8 h.hs ok hn ha o0 o1 hal hnd hbe)
      | some i =>
        obtain ⟨hi1, hff⟩ := best_fits _ _ _ _ _ hbe
        have hi : i < ml.length := by rw [bks_len] at hi1; exact hi1
        have hbl : i < s.h.bl.length := by omega
        have hbg : s.h.bl[i] = ml[i].b := by simp only [← h.bs, bks, List.getElem_map]
        obtain ⟨d, B', H', nx', he, hs', st, hd⟩ := takeMF_good h8 h.hs ok hn ha o0 o1 hal hnd hbe hi
        have hlen : takeL ml i (padV ml[i].b.off al) need o n d = ml.take i ++ (takeM ml[i] (padV ml[i].b.off al) need o n d ++ ml.drop (i + 1)) := by unfold takeL; rw [List.getElem?_eq_getElem hi]
        have hgb : (bks ml)[i] = ml[i].b := by simp [bks]
        rw [hgb] at hff
        simp only [fits, Bool.and_eq_true, Bool.not_eq_true', decide_eq_true_eq] at hff
        obtain ⟨⟨f1, f2⟩, f3⟩ := hff
        have pf := (pad_facts (ok.off16 _ (List.getElem_mem hi)) (align_16 hal).1 (align_16 hal).2.1).2.1
        have hnr := (needV_range hn hnd).1
        have htv : takeV s.h o n al = ({ s.h with bl := takeB s.h.bl i (padV ml[i].b.off al) need o n, ls := listAdd s.h.ls o (ml[i].b.off + padV ml[i].b.off al) }, ml[i].b.off + padV ml[i].b.off al + 32, 0) := by
          unfold takeV fitV
          simp [hal, hnd, hll, ← h.bs, bks_len, hbe]
          simp [bks, hi]
        have hsm := take_small h.wk.hi (o := o) (n := n) (a := al) hn (by rw [htv])
        have hinv := takeV_inv h.wk.hi (o := o) (n := n) (a := al) o0 o1 hn
        rw [htv] at hinv hsm
        generalize padV ml[i].b.off al = pd at *
        have hts : takeSV s o n al = ({ s with h := { s.h with bl := takeB s.h.bl i pd need o n, ls := listAdd s.h.ls o (ml[i].b.off + pd) }, data := putV s.data (ml[i].b.off + pd + 32) (sizedV [] (wordsV n).toNat) }, 0, ml[i].b.off + pd + 32) := by
          unfold takeSV
          rw [htv]
          simp
        rw [hts]
        have hml : ml = ml.take i ++ (ml[i] :: ml.drop (i + 1)) := splitM hi
        have hum : usedM ml = usedM (ml.take i) ++ usedM (ml.drop (i + 1)) := by
          have e := congrArg usedM hml
          rw [usedM_app] at e
          rw [e]
          congr 1
          unfold usedM
          rw [List.filter_cons, f1]
          rfl
        have hun : usedM (takeL ml i pd need o n d) = usedM (ml.take i) ++ ([⟨⟨ml[i].b.off + pd, if ml[i].b.size - pd - need < 48 then need + (ml[i].b.size - pd - need) else need, true, o, n⟩, d⟩] ++ usedM (ml.drop (i + 1))) := by
          rw [hlen, usedM_app, usedM_app, usedM_take]
        have hkeep : ∀ m ∈ usedM ml, m ∈ usedM (takeL ml i pd need o n d) := by
          intro m hm
          rw [hum] at hm
          rw [hun]
          rcases List.mem_append.1 hm with hm | hm
          · exact List.mem_append_left _ hm
          · exact List.mem_append_right _ (List.mem_append_right _ hm)
        obtain ⟨lM, nS, nB⟩ := h.ltM
        have cp := h.wk.hi.cutp hbl
        rw [hbg] at cp
        have hoff : ∀ m ∈ usedM ml, m.b.off ≠ ml[i].b.off + pd := by
          intro m hm e
          rw [hum] at hm
          rcases List.mem_append.1 hm with hm | hm
          · have h1 : m.b ∈ s.h.bl.take i := by rw [← h.bs, ← bks_take]; exact List.mem_map.2 ⟨m, (mem_usedM.1 hm).1, rfl⟩
            have h2 := cp.ls _ h1
            have h3 := (h.rng (List.mem_of_mem_take (mem_usedM.1 hm).1)).2.2.1
            omega
          · have h1 : m.b ∈ s.h.bl.drop (i + 1) := by rw [← h.bs]; simp only [bks, ← List.map_drop]; exact List.mem_map.2 ⟨m, (mem_usedM.1 hm).1, rfl⟩
            have h2 := cp.lt _ h1
            omega
        have hold : ∀ m ∈ usedM ml, Dt H' m.d (dlV (putV s.data (ml[i].b.off + pd + 32) (sizedV [] (wordsV n).toNat)) (m.b.off + 32)) := by
          intro m hm
          rw [dlV_put, if_neg (by have := hoff m hm; omega), ← dataV_eq]
          refine (h.dt m hm).frame fun t ht => ?_
          obtain ⟨k1, k2, k3, k4⟩ := h.oid hm ht
          exact st.same t k1 k2 k3
        refine ⟨B', _, H', nx', he, ⟨hs', by rw [st.same M lM nS nB]; exact h.mp, by rw [takeL_bks, h.bs], ?_, ?_, ?_, ⟨hinv, h.wk.lv8, h.wk.fin1, h.wk.all0, h.wk.all1, ?_, ?_, h.wk.nl⟩, ?_, h.pos, ?_⟩, hkeep, st.le, st.bl, st.same, fun _ => ⟨fun m hm e => hoff m hm (by simp only at e; omega), _, by rw [hun]; exact List.mem_append_right _ (List.mem_append_left _ (List.mem_singleton.2 rfl)), rfl, rfl⟩⟩
        · intro m hm
          rw [dataV_eq]
          rw [hun] at hm
          rcases List.mem_append.1 hm with hm | hm
          · exact hold m (by rw [hum]; exact List.mem_append_left _ hm)
          · rcases List.mem_append.1 hm with hm | hm
            · simp only [List.mem_singleton] at hm
              subst hm
              simp only
              rw [dlV_put, if_pos rfl, sizedV_nil]
              exact hd.dt
            · exact hold m (by rw [hum]; exact List.mem_append_right _ hm)
        · rw [hlen]
          intro m hm hu
          rcases List.mem_append.1 hm with hm | hm
          · exact h.df m (List.mem_of_mem_take hm) hu
          · rcases List.mem_append.1 hm with hm | hm
            · exact free_take _ _ _ _ _ _ m hm hu
            · exact h.df m (List.mem_of_mem_drop hm) hu
        · have hnd0 := h.nd
          rw [hum, List.filterMap_append] at hnd0
          rw [hun, List.filterMap_append, List.filterMap_append]
          refine nodup_mid hnd0 ?_ ?_
          · cases hdo : d.oid <;> simp [hdo]
          · intro x hx
            have hxd : d.oid = some x := by
              cases hdo : d.oid with
              | none => simp [hdo] at hx
              | some y => simp [hdo] at hx; rw [hx]
            have hge := hd.oid hxd
            constructor
            · intro hc
              obtain ⟨m, hm, hmo⟩ := List.mem_filterMap.1 hc
              have := (h.oid (m := m) (by rw [hum]; exact List.mem_append_left _ hm) hmo).1
              omega
            · intro hc
              obtain ⟨m, hm, hmo⟩ := List.mem_filterMap.1 hc
              have := (h.oid (m := m) (by rw [hum]; exact List.mem_append_right _ hm) hmo).1
              omega
        · have := putV_len s.data (ml[i].b.off + pd + 32) (sizedV [] (wordsV n).toNat)
          have := h.dl
          simp only
          omega
        · refine putV_sm h.wk.ds ?_
          rw [Sm, sizedV_len]
          have := hsm.1
          have := h.wk.fin1
          have := hn.1
          unfold wordsV
          omega
        · have := putV_len s.data (ml[i].b.off + pd + 32) (sizedV [] (wordsV n).toNat)
          have := h.dl
          simp only
          omega
        · refine h.nm.mono rfl fun b hb hu ho => ?_
          obtain ⟨m, hm, rfl⟩ := h.usedB hb hu
          refine ⟨m.b, ?_, hu, ho, rfl⟩
          show m.b ∈ takeB s.h.bl i pd need o n
          rw [← h.bs, ← takeL_bks (d := d)]
          exact List.mem_map.2 ⟨m, (mem_usedM.1 (hkeep m hm)).1, rfl⟩
end
end Go.Proofs.Ytapdaefpkddioaa.Pe
