/- A part of the proof of PmD. -/
import Derived.Test.YtapdaefpkddioaaGreatCb28
set_option linter.unusedSimpArgs false
set_option linter.unusedVariables false
set_option linter.unusedSectionVars false
namespace Go.Proofs.YtapdaefpkddioaaGreat.Pe
open Go
set_option maxHeartbeats 2000000
def Cx76 : (Nat → Prop) → Ctx := fun X => { nt := 224, tt := tt, fns := ofList [(121, .ext overF)], keep := keep92, X := X }
noncomputable def repT : List AD → Hp → Nat → Option (RV × Hp × Nat) := semT Tryz.f92 Cx76 Tryz.f92.results
theorem repT_ok : FnEff Tryz.prog 92 repT := semT_ok mixed Tryz.func92 rfl (fun X => ok_of (l := [(121, .ext overF)]) tt_ok ⟨over_ok, by kernel_rfl, trivial⟩ (noEqs _)) (fun _ => rfl) (fun _ => rfl) (by decide) rfl
section
variable {B n c nx i : Nat} {F ys : List (List D)} {H : Hp} (hB : H B = some ⟨some 55, 6, F⟩) (hl : F.length = c) (hn : n ≤ c) (hi : i < n) (sm : n ≤ 100000) (hy : ys.all (fun r => decide (r.length = 6)) = true) (m1 : 1 ≤ ys.length) (m3 : ys.length ≤ 3) (hu : ∀ r ∈ F, r.length = 6)
include hB hl hn hi sm hy m1 m3 hu
theorem repT_end (he : i + 1 = n) : repT [.one (.refc B 6 0 n c), .one (.int .i64 i), .one (.int .i64 ((i : Int) + 1)), .one (.sl ys)] H nx = some (.a (.one (.ref nx 6 0 (i + ys.length))), updO (updO H B none) nx (some ⟨some 55, 6, F.take i ++ ys⟩), nx + 1) := by
  unfold repT
  rw [Tryz.results92]
  refine semT_eq rfl (by simp [Tryz.ntmps92]) fun X R hR => ?_
  unfold Cx76
  (repeat ((try simp only [cl_seq, cl_skip]); with_reducible refine cg fun K hK => ?_; (simp (maxSteps := 1000000) only [go_sem, hB, hl, hy, show ¬ (i : Int) = c by omega, show ((i : Int) + 1).toNat = i + 1 by omega]); (repeat refine ck ?_); (try simp (disch := omega) only [wrap64, wrapi64]); refine hK _ ?_; clear hK K))
  (((try simp only [cl_seq, cl_skip]); refine cl_cond rfl (fun hd => ?_) (fun hd => ?_)))
  · exact absurd hd (by simp; omega)
  (repeat ((try simp only [cl_seq, cl_skip]); with_reducible refine cg fun K hK => ?_; (simp (maxSteps := 1000000) only [go_sem, hB, hl, hy]); (repeat refine ck ?_); (try simp (disch := omega) only [wrap64, wrapi64]); refine hK _ ?_; clear hK K))
  (((try simp only [cl_seq, cl_skip]); refine cl_cond rfl (fun hd2 => ?_) (fun hd2 => ?_)))
  · (repeat ((try simp only [cl_seq, cl_skip]); with_reducible refine cg fun K hK => ?_; (simp (maxSteps := 1000000) only [go_sem, hB, hl, hy, show ¬ (0 : Int) = c by omega, show i ≤ F.length by omega, show i ≤ c by omega, show min i c = i by omega]); (repeat refine ck ?_); (try simp (disch := omega) only [wrap64, wrapi64]); refine hK _ ?_; clear hK K))
    (((try simp only [cl_seq, cl_skip]); refine cl_cond rfl (fun hd3 => ?_) (fun hd3 => ?_)))
    · exact absurd hd3 (by simp; omega)
    (repeat ((try simp only [cl_seq, cl_skip]); with_reducible refine cg fun K hK => ?_; (simp (maxSteps := 1000000) only [go_sem]); (repeat refine ck ?_); (try simp (disch := omega) only [wrap64, wrapi64]); refine hK _ ?_; clear hK K))
    (((try simp only [cl_seq, cl_skip]); (try simp only [cl_ret]); refine hR _ _ (.inr rfl) ?_; (simp (maxSteps := 1000000) only [go_sem])))
  · exact absurd hd2 (by simp; omega)
theorem repT_grow (he : i + 1 < n) (hc : c < n - 1 + ys.length) (hBn : B ≠ nx) : repT [.one (.refc B 6 0 n c), .one (.int .i64 i), .one (.int .i64 ((i : Int) + 1)), .one (.sl ys)] H nx = some (.a (.one (.ref nx 6 0 (n - 1 + ys.length))), updO H nx (some ⟨some 55, 6, F.take i ++ (ys ++ (F.take n).drop (i + 1))⟩), nx + 1) := by
  have hA := all6 hu
  have hB' : ∀ x, updO H nx x B = some ⟨some 55, 6, F⟩ := fun x => by rw [← hB]; simp [updO, hBn]
  unfold repT
  rw [Tryz.results92]
  refine semT_eq rfl (by simp [Tryz.ntmps92]) fun X R hR => ?_
  unfold Cx76
  (repeat ((try simp only [cl_seq, cl_skip]); with_reducible refine cg fun K hK => ?_; (simp (maxSteps := 1000000) only [go_sem, hB, hl, hy, hA, Nat.sub_self, show ¬ (0 : Int) = c by omega, show ¬ (i : Int) = c by omega, show ((i : Int) + 1).toNat = i + 1 by omega, wrapi64 (n := (i : Int) + ys.length) (by omega) (by omega), show (i : Int) + (ys.length : Int) + ((n - (i + 1) : Nat) : Int) = ((n - 1 + ys.length : Nat) : Int) by omega, wrapi64 (n := ((n - 1 + ys.length : Nat) : Int)) (by omega) (by omega), show ((i : Int) + ys.length).toNat = i + ys.length by omega]); (repeat refine ck ?_); (try simp (disch := omega) only [wrap64, wrapi64]); refine hK _ ?_; clear hK K))
  (((try simp only [cl_seq, cl_skip]); refine cl_cond rfl (fun hd => ?_) (fun hd => ?_)))
  · exact absurd hd (by simp; omega)
  (repeat ((try simp only [cl_seq, cl_skip]); with_reducible refine cg fun K hK => ?_; (simp (maxSteps := 1000000) only [go_sem, hB, hl, hy, hA, Nat.sub_self, show ¬ (0 : Int) = c by omega, show ¬ (i : Int) = c by omega, show ((i : Int) + 1).toNat = i + 1 by omega, wrapi64 (n := (i : Int) + ys.length) (by omega) (by omega), show (i : Int) + (ys.length : Int) + ((n - (i + 1) : Nat) : Int) = ((n - 1 + ys.length : Nat) : Int) by omega, wrapi64 (n := ((n - 1 + ys.length : Nat) : Int)) (by omega) (by omega), show ((i : Int) + ys.length).toNat = i + ys.length by omega]); (repeat refine ck ?_); (try simp (disch := omega) only [wrap64, wrapi64]); refine hK _ ?_; clear hK K))
  (((try simp only [cl_seq, cl_skip]); refine cl_cond rfl (fun hd2 => ?_) (fun hd2 => ?_)))
  · exact absurd hd2 (by simp; omega)
  (repeat ((try simp only [cl_seq, cl_skip]); with_reducible refine cg fun K hK => ?_; (simp (maxSteps := 1000000) only [go_sem, hB, hl, hy, hA, Nat.sub_self, show ¬ (0 : Int) = c by omega, show ¬ (i : Int) = c by omega, show ((i : Int) + 1).toNat = i + 1 by omega, wrapi64 (n := (i : Int) + ys.length) (by omega) (by omega), show (i : Int) + (ys.length : Int) + ((n - (i + 1) : Nat) : Int) = ((n - 1 + ys.length : Nat) : Int) by omega, wrapi64 (n := ((n - 1 + ys.length : Nat) : Int)) (by omega) (by omega), show ((i : Int) + ys.length).toNat = i + ys.length by omega, show ¬ (i : Int) + 1 = c by omega]); (repeat refine ck ?_); (try simp (disch := omega) only [wrap64, wrapi64]); refine hK _ ?_; clear hK K))
  (((try simp only [cl_seq, cl_skip]); refine cl_cond rfl (fun hd3 => ?_) (fun hd3 => ?_)))
  · (repeat ((try simp only [cl_seq, cl_skip]); with_reducible refine cg fun K hK => ?_; (simp (maxSteps := 1000000) only [go_sem, hB, hl, hy, hA, Nat.sub_self, show ¬ (0 : Int) = c by omega, show ¬ (i : Int) = c by omega, show ((i : Int) + 1).toNat = i + 1 by omega, wrapi64 (n := (i : Int) + ys.length) (by omega) (by omega), show (i : Int) + (ys.length : Int) + ((n - (i + 1) : Nat) : Int) = ((n - 1 + ys.length : Nat) : Int) by omega, wrapi64 (n := ((n - 1 + ys.length : Nat) : Int)) (by omega) (by omega), show ((i : Int) + ys.length).toNat = i + ys.length by omega, hB', show ¬ (i : Int) + 1 = c by omega, wrapi64 (n := ((n - 1 + ys.length : Nat) : Int) - i) (by omega) (by omega), show (((n - 1 + ys.length : Nat) : Int) - i).toNat = n - 1 + ys.length - i by omega, overRows]); (repeat refine ck ?_); (try simp (disch := omega) only [wrap64, wrapi64]); refine hK _ ?_; clear hK K))
    (((try simp only [cl_seq, cl_skip]); (try simp only [cl_ret]); refine hR _ _ (.inr rfl) ?_; (simp (maxSteps := 1000000) only [go_sem])))
    refine ⟨by rw [show i + (n - 1 + ys.length - i) = n - 1 + ys.length by omega], ?_⟩
    refine congrArg (fun r => AV.heap (updO H nx (some ⟨some 55, 6, r⟩)) (nx + 1)) ?_
    apply List.ext_getElem?
    intro k
    simp only [List.getElem?_cons, List.getElem?_nil, List.getElem?_replicate, List.getElem?_append, List.getElem?_take, List.getElem?_drop, List.length_append, List.length_take, List.length_drop, List.length_cons, List.length_nil, List.length_replicate, hl]
    repeat' split
    all_goals first | rfl | omega | (congr 1; omega) | (exfalso; omega) | (symm; exact List.getElem?_eq_none (by omega)) | (exact List.getElem?_eq_none (by omega)) | trace_state
  · exact absurd hd3 (by simp; omega)
theorem repT_one (he : i + 1 < n) (h1 : ys.length = 1) : ∃ R, repT [.one (.refc B 6 0 n c), .one (.int .i64 i), .one (.int .i64 ((i : Int) + 1)), .one (.sl ys)] H nx = some (.a (.one (.refc B 6 0 n c)), updO H B (some ⟨some 55, 6, R⟩), nx) ∧ n ≤ R.length ∧ R.take n = F.take i ++ (ys ++ (F.take n).drop (i + 1)) := by
  have hA := all6 hu
  have hyu : ∀ r ∈ ys, r.length = 6 := fun r hr => by simpa using List.all_eq_true.1 hy r hr
  have hA1 : ∀ p q a b, (((F.take i ++ ys.take p ++ F.drop q).drop a).take b).all (fun r => decide (r.length = 6)) = true := fun p q a b => all6 (fun r hr => by
    rcases List.mem_append.1 hr with hr | hr
    · rcases List.mem_append.1 hr with hr | hr
      · exact hu r (List.mem_of_mem_take hr)
      · exact hyu r (List.mem_of_mem_take hr)
    · exact hu r (List.mem_of_mem_drop hr)) a b
  refine ⟨(F.take i ++ ys.take (n - 1 + ys.length - i) ++ F.drop (i + min (n - 1 + ys.length - i) ys.length)).take (i + ys.length) ++ (((F.take i ++ ys.take (n - 1 + ys.length - i) ++ F.drop (i + min (n - 1 + ys.length - i) ys.length)).drop (i + 1)).take (n - (i + 1))).take (n - 1 + ys.length - (i + ys.length)) ++ (F.take i ++ ys.take (n - 1 + ys.length - i) ++ F.drop (i + min (n - 1 + ys.length - i) ys.length)).drop (i + ys.length + min (n - 1 + ys.length - (i + ys.length)) (min (n - (i + 1)) ((F.take i ++ ys.take (n - 1 + ys.length - i) ++ F.drop (i + min (n - 1 + ys.length - i) ys.length)).length - (i + 1)))), ?h1, ?h2⟩
  case h1 =>
    unfold repT
    rw [Tryz.results92]
    refine semT_eq rfl (by simp [Tryz.ntmps92]) fun X R hR => ?_
    unfold Cx76
    (repeat ((try simp only [cl_seq, cl_skip]); with_reducible refine cg fun K hK => ?_; (simp (maxSteps := 1000000) only [go_sem, hB, hl, hy, hA, Nat.sub_self, show ¬ (0 : Int) = c by omega, show ¬ (i : Int) = c by omega, show ((i : Int) + 1).toNat = i + 1 by omega, wrapi64 (n := (i : Int) + ys.length) (by omega) (by omega), show (i : Int) + (ys.length : Int) + ((n - (i + 1) : Nat) : Int) = ((n - 1 + ys.length : Nat) : Int) by omega, wrapi64 (n := ((n - 1 + ys.length : Nat) : Int)) (by omega) (by omega), show ((i : Int) + ys.length).toNat = i + ys.length by omega]); (repeat refine ck ?_); (try simp (disch := omega) only [wrap64, wrapi64]); refine hK _ ?_; clear hK K))
    (((try simp only [cl_seq, cl_skip]); refine cl_cond rfl (fun hd => ?_) (fun hd => ?_)))
    · exact absurd hd (by simp; omega)
    (repeat ((try simp only [cl_seq, cl_skip]); with_reducible refine cg fun K hK => ?_; (simp (maxSteps := 1000000) only [go_sem, hB, hl, hy, hA, Nat.sub_self, show ¬ (0 : Int) = c by omega, show ¬ (i : Int) = c by omega, show ((i : Int) + 1).toNat = i + 1 by omega, wrapi64 (n := (i : Int) + ys.length) (by omega) (by omega), show (i : Int) + (ys.length : Int) + ((n - (i + 1) : Nat) : Int) = ((n - 1 + ys.length : Nat) : Int) by omega, wrapi64 (n := ((n - 1 + ys.length : Nat) : Int)) (by omega) (by omega), show ((i : Int) + ys.length).toNat = i + ys.length by omega]); (repeat refine ck ?_); (try simp (disch := omega) only [wrap64, wrapi64]); refine hK _ ?_; clear hK K))
    (((try simp only [cl_seq, cl_skip]); refine cl_cond rfl (fun hd2 => ?_) (fun hd2 => ?_)))
    · exact absurd hd2 (by simp; omega)
    (repeat ((try simp only [cl_seq, cl_skip]); with_reducible refine cg fun K hK => ?_; (simp (maxSteps := 1000000) only [go_sem, hB, hl, hy, hA, Nat.sub_self, show ¬ (0 : Int) = c by omega, show ¬ (i : Int) = c by omega, show ((i : Int) + 1).toNat = i + 1 by omega, wrapi64 (n := (i : Int) + ys.length) (by omega) (by omega), show (i : Int) + (ys.length : Int) + ((n - (i + 1) : Nat) : Int) = ((n - 1 + ys.length : Nat) : Int) by omega, wrapi64 (n := ((n - 1 + ys.length : Nat) : Int)) (by omega) (by omega), show ((i : Int) + ys.length).toNat = i + ys.length by omega, show ¬ (i : Int) + 1 = c by omega]); (repeat refine ck ?_); (try simp (disch := omega) only [wrap64, wrapi64]); refine hK _ ?_; clear hK K))
    (((try simp only [cl_seq, cl_skip]); refine cl_cond rfl (fun hd3 => ?_) (fun hd3 => ?_)))
    · exact absurd hd3 (by simp; omega)
    (repeat ((try simp only [cl_seq, cl_skip]); with_reducible refine cg fun K hK => ?_; (simp (maxSteps := 1000000) only [go_sem, hB, hl, hy, hA, Nat.sub_self, show ¬ (0 : Int) = c by omega, show ¬ (i : Int) = c by omega, show ((i : Int) + 1).toNat = i + 1 by omega, wrapi64 (n := (i : Int) + ys.length) (by omega) (by omega), show (i : Int) + (ys.length : Int) + ((n - (i + 1) : Nat) : Int) = ((n - 1 + ys.length : Nat) : Int) by omega, wrapi64 (n := ((n - 1 + ys.length : Nat) : Int)) (by omega) (by omega), show ((i : Int) + ys.length).toNat = i + ys.length by omega, show ¬ (i : Int) + 1 = c by omega]); (repeat refine ck ?_); (try simp (disch := omega) only [wrap64, wrapi64]); refine hK _ ?_; clear hK K))
    (((try simp only [cl_seq, cl_skip]); refine cl_cond rfl (fun hd4 => ?_) (fun hd4 => ?_)))
    · (repeat ((try simp only [cl_seq, cl_skip]); with_reducible refine cg fun K hK => ?_; (simp (maxSteps := 1000000) only [go_sem, hB, hl, hy, hA, Nat.sub_self, show ¬ (0 : Int) = c by omega, show ¬ (i : Int) = c by omega, show ((i : Int) + 1).toNat = i + 1 by omega, wrapi64 (n := (i : Int) + ys.length) (by omega) (by omega), show (i : Int) + (ys.length : Int) + ((n - (i + 1) : Nat) : Int) = ((n - 1 + ys.length : Nat) : Int) by omega, wrapi64 (n := ((n - 1 + ys.length : Nat) : Int)) (by omega) (by omega), show ((i : Int) + ys.length).toNat = i + ys.length by omega, hA1, show ¬ (i : Int) + 1 = c by omega, show ¬ (i : Int) + (ys.length : Int) = c by omega, overRows]); (repeat refine ck ?_); (try simp (disch := omega) only [wrap64, wrapi64]); refine hK _ ?_; clear hK K))
      by_cases hcc : ((n - 1 + ys.length : Nat) : Int) = c
      · (repeat ((try simp only [cl_seq, cl_skip]); with_reducible refine cg fun K hK => ?_; (simp (maxSteps := 1000000) only [go_sem, hB, hl, hy, hA, Nat.sub_self, show ¬ (0 : Int) = c by omega, show ¬ (i : Int) = c by omega, show ((i : Int) + 1).toNat = i + 1 by omega, wrapi64 (n := (i : Int) + ys.length) (by omega) (by omega), show (i : Int) + (ys.length : Int) + ((n - (i + 1) : Nat) : Int) = ((n - 1 + ys.length : Nat) : Int) by omega, wrapi64 (n := ((n - 1 + ys.length : Nat) : Int)) (by omega) (by omega), show ((i : Int) + ys.length).toNat = i + ys.length by omega, hcc, show n - (n - 1 + ys.length) = 0 by omega]); (repeat refine ck ?_); (try simp (disch := omega) only [wrap64, wrapi64]); refine hK _ ?_; clear hK K))
        (((try simp only [cl_seq, cl_skip]); (try simp only [cl_ret]); refine hR _ _ (.inr rfl) ?_; (simp (maxSteps := 1000000) only [go_sem])))
        exact congrArg (fun k => RV.a (AD.one (D.refc B 6 0 k c))) (by omega)
      · (repeat ((try simp only [cl_seq, cl_skip]); with_reducible refine cg fun K hK => ?_; (simp (maxSteps := 1000000) only [go_sem, hB, hl, hy, hA, Nat.sub_self, show ¬ (0 : Int) = c by omega, show ¬ (i : Int) = c by omega, show ((i : Int) + 1).toNat = i + 1 by omega, wrapi64 (n := (i : Int) + ys.length) (by omega) (by omega), show (i : Int) + (ys.length : Int) + ((n - (i + 1) : Nat) : Int) = ((n - 1 + ys.length : Nat) : Int) by omega, wrapi64 (n := ((n - 1 + ys.length : Nat) : Int)) (by omega) (by omega), show ((i : Int) + ys.length).toNat = i + ys.length by omega, hcc, show n - (n - 1 + ys.length) = 0 by omega]); (repeat refine ck ?_); (try simp (disch := omega) only [wrap64, wrapi64]); refine hK _ ?_; clear hK K))
        (((try simp only [cl_seq, cl_skip]); (try simp only [cl_ret]); refine hR _ _ (.inr rfl) ?_; (simp (maxSteps := 1000000) only [go_sem])))
        exact congrArg (fun k => RV.a (AD.one (D.refc B 6 0 k c))) (by omega)
    · exact absurd hd4 (by simp; omega)
  case h2 =>
    refine ⟨by simp only [List.length_append, List.length_take, List.length_drop]; omega, ?_⟩
    apply List.ext_getElem?
    intro k
    simp only [List.getElem?_cons, List.getElem?_nil, List.getElem?_replicate, List.getElem?_append, List.getElem?_take, List.getElem?_drop, List.length_append, List.length_take, List.length_drop, List.length_cons, List.length_nil, List.length_replicate, hl]
    repeat' split
    all_goals first | rfl | omega | (congr 1; omega) | (exfalso; omega) | (symm; exact List.getElem?_eq_none (by omega)) | (exact List.getElem?_eq_none (by omega)) | trace_state
theorem repT_room (he : i + 1 < n) (h2 : 2 ≤ ys.length) (hc : n - 1 + ys.length ≤ c) : ∃ R, repT [.one (.refc B 6 0 n c), .one (.int .i64 i), .one (.int .i64 ((i : Int) + 1)), .one (.sl ys)] H nx = some (.a (.one (.refc B 6 0 (n - 1 + ys.length) c)), updO H B (some ⟨some 55, 6, R⟩), nx) ∧ n - 1 + ys.length ≤ R.length ∧ R.take (n - 1 + ys.length) = F.take i ++ (ys ++ (F.take n).drop (i + 1)) := by
  have hA := all6 hu
  have hov : ∀ nx, overF [.one (.refc B 6 (i + ys.length) (n - 1 + ys.length - (i + ys.length)) (c - (i + ys.length))), .one (.sl ys)] H nx = some (.a (.one (.bool false))) := fun nx => by
    cases ys with
    | nil => simp at m1
    | cons y ys => simp [overF, hB]
  refine ⟨?R, ?h1, ?h2⟩
  case h1 =>
    unfold repT
    rw [Tryz.results92]
    refine semT_eq rfl (by simp [Tryz.ntmps92]) fun X R hR => ?_
    unfold Cx76
    (repeat ((try simp only [cl_seq, cl_skip]); with_reducible refine cg fun K hK => ?_; (simp (maxSteps := 1000000) only [go_sem, hB, hl, hy, hA, Nat.sub_self, show ¬ (0 : Int) = c by omega, show ¬ (i : Int) = c by omega, show ((i : Int) + 1).toNat = i + 1 by omega, wrapi64 (n := (i : Int) + ys.length) (by omega) (by omega), show (i : Int) + (ys.length : Int) + ((n - (i + 1) : Nat) : Int) = ((n - 1 + ys.length : Nat) : Int) by omega, wrapi64 (n := ((n - 1 + ys.length : Nat) : Int)) (by omega) (by omega), show ((i : Int) + ys.length).toNat = i + ys.length by omega]); (repeat refine ck ?_); (try simp (disch := omega) only [wrap64, wrapi64]); refine hK _ ?_; clear hK K))
    (((try simp only [cl_seq, cl_skip]); refine cl_cond rfl (fun hd => ?_) (fun hd => ?_)))
    · exact absurd hd (by simp; omega)
    (repeat ((try simp only [cl_seq, cl_skip]); with_reducible refine cg fun K hK => ?_; (simp (maxSteps := 1000000) only [go_sem, hB, hl, hy, hA, Nat.sub_self, show ¬ (0 : Int) = c by omega, show ¬ (i : Int) = c by omega, show ((i : Int) + 1).toNat = i + 1 by omega, wrapi64 (n := (i : Int) + ys.length) (by omega) (by omega), show (i : Int) + (ys.length : Int) + ((n - (i + 1) : Nat) : Int) = ((n - 1 + ys.length : Nat) : Int) by omega, wrapi64 (n := ((n - 1 + ys.length : Nat) : Int)) (by omega) (by omega), show ((i : Int) + ys.length).toNat = i + ys.length by omega]); (repeat refine ck ?_); (try simp (disch := omega) only [wrap64, wrapi64]); refine hK _ ?_; clear hK K))
    (((try simp only [cl_seq, cl_skip]); refine cl_cond rfl (fun hd2 => ?_) (fun hd2 => ?_)))
    · exact absurd hd2 (by simp; omega)
    (repeat ((try simp only [cl_seq, cl_skip]); with_reducible refine cg fun K hK => ?_; (simp (maxSteps := 1000000) only [go_sem, hB, hl, hy, hA, Nat.sub_self, show ¬ (0 : Int) = c by omega, show ¬ (i : Int) = c by omega, show ((i : Int) + 1).toNat = i + 1 by omega, wrapi64 (n := (i : Int) + ys.length) (by omega) (by omega), show (i : Int) + (ys.length : Int) + ((n - (i + 1) : Nat) : Int) = ((n - 1 + ys.length : Nat) : Int) by omega, wrapi64 (n := ((n - 1 + ys.length : Nat) : Int)) (by omega) (by omega), show ((i : Int) + ys.length).toNat = i + ys.length by omega, show ¬ (i : Int) + 1 = c by omega]); (repeat refine ck ?_); (try simp (disch := omega) only [wrap64, wrapi64]); refine hK _ ?_; clear hK K))
    (((try simp only [cl_seq, cl_skip]); refine cl_cond rfl (fun hd3 => ?_) (fun hd3 => ?_)))
    · exact absurd hd3 (by simp; omega)
    (repeat ((try simp only [cl_seq, cl_skip]); with_reducible refine cg fun K hK => ?_; (simp (maxSteps := 1000000) only [go_sem, hB, hl, hy, hA, Nat.sub_self, show ¬ (0 : Int) = c by omega, show ¬ (i : Int) = c by omega, show ((i : Int) + 1).toNat = i + 1 by omega, wrapi64 (n := (i : Int) + ys.length) (by omega) (by omega), show (i : Int) + (ys.length : Int) + ((n - (i + 1) : Nat) : Int) = ((n - 1 + ys.length : Nat) : Int) by omega, wrapi64 (n := ((n - 1 + ys.length : Nat) : Int)) (by omega) (by omega), show ((i : Int) + ys.length).toNat = i + ys.length by omega, show ¬ (i : Int) + 1 = c by omega]); (repeat refine ck ?_); (try simp (disch := omega) only [wrap64, wrapi64]); refine hK _ ?_; clear hK K))
    (((try simp only [cl_seq, cl_skip]); refine cl_cond rfl (fun hd4 => ?_) (fun hd4 => ?_)))
    · exact absurd hd4 (by simp; omega)
    (repeat ((try simp only [cl_seq, cl_skip]); with_reducible refine cg fun K hK => ?_; (simp (maxSteps := 1000000) only [go_sem, hB, hl, hy, hA, Nat.sub_self, show ¬ (0 : Int) = c by omega, show ¬ (i : Int) = c by omega, show ((i : Int) + 1).toNat = i + 1 by omega, wrapi64 (n := (i : Int) + ys.length) (by omega) (by omega), show (i : Int) + (ys.length : Int) + ((n - (i + 1) : Nat) : Int) = ((n - 1 + ys.length : Nat) : Int) by omega, wrapi64 (n := ((n - 1 + ys.length : Nat) : Int)) (by omega) (by omega), show ((i : Int) + ys.length).toNat = i + ys.length by omega, hov, show ¬ (i : Int) + 1 = c by omega, show ¬ (i : Int) + (ys.length : Int) = c by omega]); (repeat refine ck ?_); (try simp (disch := omega) only [wrap64, wrapi64]); refine hK _ ?_; clear hK K))
    (((try simp only [cl_seq, cl_skip]); refine cl_cond (b := true) rfl (fun _ => ?_) (fun h => nomatch h)))
    (repeat ((try simp only [cl_seq, cl_skip]); with_reducible refine cg fun K hK => ?_; (simp (maxSteps := 1000000) only [go_sem, hB, hl, hy, hA, Nat.sub_self, show ¬ (0 : Int) = c by omega, show ¬ (i : Int) = c by omega, show ((i : Int) + 1).toNat = i + 1 by omega, wrapi64 (n := (i : Int) + ys.length) (by omega) (by omega), show (i : Int) + (ys.length : Int) + ((n - (i + 1) : Nat) : Int) = ((n - 1 + ys.length : Nat) : Int) by omega, wrapi64 (n := ((n - 1 + ys.length : Nat) : Int)) (by omega) (by omega), show ((i : Int) + ys.length).toNat = i + ys.length by omega, show ¬ (i : Int) + 1 = c by omega, show ¬ (i : Int) + (ys.length : Int) = c by omega, overRows]); (repeat refine ck ?_); (try simp (disch := omega) only [wrap64, wrapi64]); refine hK _ ?_; clear hK K))
    (((try simp only [cl_seq, cl_skip]); (try simp only [cl_ret]); refine hR _ _ (.inr rfl) ?_; (simp (maxSteps := 1000000) only [go_sem])))
    exact rfl
  case h2 =>
    refine ⟨by simp only [List.length_append, List.length_take, List.length_drop]; omega, ?_⟩
    apply List.ext_getElem?
    intro k
    simp only [List.getElem?_cons, List.getElem?_nil, List.getElem?_replicate, List.getElem?_append, List.getElem?_take, List.getElem?_drop, List.length_append, List.length_take, List.length_drop, List.length_cons, List.length_nil, List.length_replicate, hl]
    repeat' split
    all_goals first | rfl | omega | (congr 1; omega) | (exfalso; omega) | (symm; exact List.getElem?_eq_none (by omega)) | (exact List.getElem?_eq_none (by omega)) | trace_state
end
def replaceF : List AD → Hp → Nat → Option (RV × Hp × Nat)
  | [.one (.ref B 6 0 n), .one (.int .i64 i), .one (.int .i64 j), .one (.sl ys)], H, nx => match H B with
    | some ⟨some 55, 6, rows⟩ => if rows.length = n ∧ j = i + 1 ∧ 0 ≤ i ∧ i < n ∧ n ≤ 100000 ∧ 1 ≤ ys.length ∧ ys.length ≤ 3 ∧ ys.all (fun r => decide (r.length = 6)) = true ∧ B ≠ nx then
        some (.a (.one (.ref nx 6 0 (n - 1 + ys.length))), updO (updO H B none) nx (some ⟨some 55, 6, rows.take i.toNat ++ (ys ++ rows.drop (i.toNat + 1))⟩), nx + 1) else none
    | _ => none
  | _, _, _ => none
theorem replace_ok : FnEff Tryz.prog 92 replaceF := by
  intro ads H nx r H' nx' hF w ι M vals hM hok hl hargs
  unfold replaceF at hF
  split at hF
  · rename_i B n i j ys
    split at hF
    · rename_i rows hB
      split at hF
      · rename_i hh
        obtain ⟨hn, hj, i0, i1, sm, m1, m3, hy, hBn⟩ := hh
        subst hj
        injection hF with hF
        injection hF with hr hF
        injection hF with hH hnx
        subst hr; subst hH; subst hnx
        obtain ⟨k, rfl⟩ : ∃ k : Nat, i = k := ⟨i.toNat, by omega⟩
        simp only [Int.toNat_natCast]
        have h3 : vals.size = 4 := hl
        have hv0 : Rd w ι M vals[0] (.ref B 6 0 n) := hargs 0 _ _ (Array.getElem?_eq_getElem (by omega)) rfl
        obtain ⟨c, c1, c2, c3, c4, c5, c6, c7⟩ := full_heap hok hB hn hv0
        have hargs2 : ∀ (j : Nat) v a, vals[j]? = some v → [AD.one (.refc B 6 0 n c), .one (.int .i64 k), .one (.int .i64 ((k : Int) + 1)), .one (.sl ys)][j]? = some a → RdA w ι M v a := by
          intro j v a hv ha
          match j with
          | 0 =>
            rw [Array.getElem?_eq_getElem (by omega)] at hv
            simp at hv ha
            subst ha; subst hv
            exact c7
          | j + 1 => exact hargs (j + 1) v a hv ha
        have hdom : ∀ o, (∃ x, updO H B (some ⟨some 55, 6, fullR rows 6 c⟩) o = some x) ↔ ∃ x, H o = some x := by
          intro o
          unfold updO
          split
          · rename_i e; subst e; exact ⟨fun _ => ⟨_, hB⟩, fun _ => ⟨_, rfl⟩⟩
          · exact Iff.rfl
        have hH1 : updO H B (some ⟨some 55, 6, fullR rows 6 c⟩) B = some ⟨some 55, 6, fullR rows 6 c⟩ := by simp [updO]
        generalize hFd : fullR rows 6 c = F at *
        have hk : k < n := by omega
        have hdd : (F.take n).drop (k + 1) = rows.drop (k + 1) := by rw [c4]
        have htt : F.take k = rows.take k := by rw [← c4, List.take_take, Nat.min_eq_left (by omega)]
        by_cases he : k + 1 = n
        · have he := repT_end (nx := nx) hH1 c3 c1 hk sm hy m1 m3 c5 he
          refine (repT_ok _ _ _ _ _ _ he w ι M vals hM c6 (by simp [h3]) hargs2).mono fun e w' hp => ?_
          have hp : EffPost w ι M _ _ _ _ e w' := hp
          have e1 : updO (updO (updO H B (some ⟨some 55, 6, F⟩)) B none) nx (some ⟨some 55, 6, F.take k ++ ys⟩) = updO (updO H B none) nx (some ⟨some 55, 6, rows.take k ++ (ys ++ rows.drop (k + 1))⟩) := by
            rw [updO_same, htt, show rows.drop (k + 1) = [] from List.drop_of_length_le (by omega), List.append_nil]
          rw [e1, show k + ys.length = n - 1 + ys.length by omega] at hp
          exact hp.dom hdom
        · by_cases hc : c < n - 1 + ys.length
          · have he := repT_grow (nx := nx) hH1 c3 c1 hk sm hy m1 m3 c5 (by omega) hc hBn
            refine (repT_ok _ _ _ _ _ _ he w ι M vals hM c6 (by simp [h3]) hargs2).mono fun e w' hp => ?_
            have hp : EffPost w ι M _ _ _ _ e w' := hp
            rw [htt, hdd] at hp
            refine (hp.dom hdom).drop fun o x ho => ?_
            unfold updO at ho ⊢
            split at ho
            · rename_i e; rw [if_pos e]; exact ho
            · rename_i e
              rw [if_neg e]
              split at ho
              · cases ho
              · rename_i e2; rw [if_neg e2]; exact ho
          · by_cases h2 : 2 ≤ ys.length
            · obtain ⟨R, he, hRl, hRt⟩ := repT_room (nx := nx) hH1 c3 c1 hk sm hy m1 m3 c5 (by omega) h2 (by omega)
              refine (repT_ok _ _ _ _ _ _ he w ι M vals hM c6 (by simp [h3]) hargs2).mono fun e w' hp => ?_
              have hp : EffPost w ι M _ _ _ _ e w' := hp
              have := (hp.dom hdom).rename (T := 55) (R := R) (by simp [updO]) hRl
              rw [updO_same, updO_same, hRt, htt, hdd] at this
              exact this
            · have h1 : ys.length = 1 := by omega
              obtain ⟨R, he, hRl, hRt⟩ := repT_one (nx := nx) hH1 c3 c1 hk sm hy m1 m3 c5 (by omega) h1
              refine (repT_ok _ _ _ _ _ _ he w ι M vals hM c6 (by simp [h3]) hargs2).mono fun e w' hp => ?_
              have hp : EffPost w ι M _ _ _ _ e w' := hp
              have := (hp.dom hdom).rename (T := 55) (R := R) (by simp [updO]) hRl
              rw [updO_same, updO_same, hRt, htt, hdd] at this
              rw [show n - 1 + ys.length = n by omega]
              exact this
      · cases hF
    · cases hF
  · cases hF
theorem replace_c : cok Tryz.prog 92 (.eff replaceF) = true := by kernel_rfl
end Go.Proofs.YtapdaefpkddioaaGreat.Pe
