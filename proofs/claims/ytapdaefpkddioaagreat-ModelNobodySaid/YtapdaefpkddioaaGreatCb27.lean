/- A part of the proof of PmD. -/
import Derived.Test.YtapdaefpkddioaaGreatCb14
set_option linter.unusedSimpArgs false
set_option linter.unusedVariables false
set_option linter.unusedSectionVars false
namespace Go.Proofs.YtapdaefpkddioaaGreat.Pe
open Go
set_option maxHeartbeats 2000000
def rows8 (l : List Int) : List (List D) := l.map fun n => [.int .u8 n]
theorem rows8_len (l : List Int) : (rows8 l).length = l.length := by simp [rows8]
theorem rows8_get' (l : List Int) (i : Nat) (h : i < l.length) : (rows8 l)[i]? = some [.int .u8 l[i]] := by simp [rows8, h]
attribute [go_sem] rows8_len rows8_get'
def packL (s : ByteArray) : List Int := (s.size : Int) :: s.data.toList.map fun b => (b.toNat : Int)
theorem packL_rows (s : ByteArray) : [.int .u8 (s.size : Int)] :: bytesD s = rows8 (packL s) := by simp [rows8, packL, bytesD]
theorem packL_len (s : ByteArray) : (packL s).length = s.size + 1 := by simp [packL]
theorem packL_range (s : ByteArray) (h : s.size ≤ 15) : ∀ x ∈ packL s, 0 ≤ x ∧ x < 256 := by
  intro x hx
  simp only [packL, List.mem_cons, List.mem_map] at hx
  rcases hx with rfl | ⟨b, _, rfl⟩
  · omega
  · have := b.toNat_lt; omega
def packStep (l : List Int) (w : Int × Int) (i : Nat) : Int × Int :=
  if i < 8 then (IntKind.u64.wrap (IntKind.u64.wrap (256 * w.1) + (l[i]?.getD 0)), w.2) else (w.1, IntKind.u64.wrap (IntKind.u64.wrap (256 * w.2) + (l[i]?.getD 0)))
def packQ (l : List Int) : Nat → Int × Int
  | 0 => (0, 0)
  | j + 1 => packStep l (packQ l j) (l.length - 1 - j)
def packV (s : ByteArray) : Bool := decide (1 ≤ s.size) && decide (s.size ≤ 15)
def packW (s : ByteArray) : Int × Int := if packV s then packQ (packL s) (s.size + 1) else (0, 0)
def packF : List AD → Option RV
  | [.one (.str s)] => if s.size < 100000000 then some (.tup [.many [.int .u64 (packW s).1, .int .u64 (packW s).2], .one (.bool (packV s))]) else none
  | _ => none
theorem packF_eq {s : ByteArray} (h : s.size < 100000000) : packF [.one (.str s)] = some (.tup [.many [.int .u64 (packW s).1, .int .u64 (packW s).2], .one (.bool (packV s))]) := by simp [packF, h]
theorem wrapu8 {n : Int} (h0 : 0 ≤ n) (h1 : n < 256) : IntKind.u8.wrap n = n := by
  rw [IntKind.wrap_u8]; omega
theorem pack_ok : FnPure Tryz.prog 83 packF := by
  (refine fn_pure' (f := 83) mixed Tryz.func83 rfl (fun X => { nt := 45, tt := tt, fns := ofList [], keep := keep83, X := X }) (fun X => ok_of tt_ok trivial (noEqs _)) (fun _ => rfl) (fun _ => rfl) (by decide) Tryz.results83 packF ?_)
  intro l r h
  unfold packF at h
  split at h
  · rename_i s
    split at h
    · rename_i hsz
      injection h with hr
      refine ⟨by simp [Tryz.ntmps83], fun X nx R hR => ?_⟩
      (repeat ((try simp only [cl_seq, cl_skip]); with_reducible refine cg fun K hK => ?_; (simp (maxSteps := 1000000) only [go_sem]); (repeat refine ck ?_); (try simp (disch := omega) only [wrap64, wrapi64]); refine hK _ ?_; clear hK K))
      by_cases hs : 1 ≤ s.size ∧ s.size ≤ 15
      · have hv : packV s = true := by simp [packV, hs]
        obtain ⟨s1, s15⟩ := hs
        (repeat ((try simp only [cl_seq, cl_skip]); with_reducible refine cg fun K hK => ?_; (simp (maxSteps := 1000000) only [go_sem, show ¬ (s.size : Int) < 1 by omega, show ¬ (15 : Int) < s.size by omega]); (repeat refine ck ?_); (try simp (disch := omega) only [wrap64, wrapi64]); refine hK _ ?_; clear hK K))
        (((try simp only [cl_seq, cl_skip]); refine cl_cond (b := false) rfl (fun h => nomatch h) (fun _ => ?_)))
        (repeat ((try simp only [cl_seq, cl_skip]); with_reducible refine cg fun K hK => ?_; (simp (maxSteps := 1000000) only [go_sem, wrapu8 (n := (s.size : Int)) (by omega) (by omega)]); (repeat refine ck ?_); (try simp (disch := omega) only [wrap64, wrapi64]); refine hK _ ?_; clear hK K))
        have hpl := packL_len s
        have hpr := packL_range s s15
        (((try simp only [cl_seq, cl_skip]); refine cl_block fun K hK1 R hR1 X hX1 => ?_))
        refine cl_loop (fun E n => ∃ j : Nat, j ≤ s.size + 1 ∧ n = s.size + 1 - j ∧ E = mk [(1000000, .heap (fun _ => none) nx), (6, .v (.one (.int .i64 ((s.size : Int) - j)))), (2, .box 0 [.int .u64 0, .int .u64 0]), (4, .own 0 5 1 (rows8 (packL s))), (5, .box 0 [.int .u64 (packQ (packL s) j).1, .int .u64 (packQ (packL s) j).2])]) (s.size + 1) ⟨0, by omega, by omega, ?_⟩ ?_
        · rw [packL_rows, show ((s.size + 1 : Nat) : Int) - 1 = (s.size : Int) - (0 : Nat) by omega]
          rfl
        rintro E n ⟨j, hj, rfl, rfl⟩ J hJ R2 hR2 X2 hX2
        (repeat ((try simp only [cl_seq, cl_skip]); with_reducible refine cg fun K hK => ?_; (simp (maxSteps := 1000000) only [go_sem]); (repeat refine ck ?_); (try simp (disch := omega) only [wrap64, wrapi64]); refine hK _ ?_; clear hK K))
        (((try simp only [cl_seq, cl_skip]); refine cl_cond rfl (fun hc => ?_) (fun hc => ?_)))
        · simp only [ge_iff_le, decide_eq_true_eq] at hc
          have hi : s.size - j < (packL s).length := by omega
          have hii : (s.size : Int) - j = ((s.size - j : Nat) : Int) := by omega
          have hbr := hpr _ (List.getElem_mem hi)
          have hst : packQ (packL s) (j + 1) = packStep (packL s) (packQ (packL s) j) (s.size - j) := by
            show packStep _ _ ((packL s).length - 1 - j) = _
            rw [hpl]; rfl
          unfold packStep at hst
          rw [List.getElem?_eq_getElem hi, Option.getD_some] at hst
          (((try simp only [cl_seq, cl_skip]); refine cl_block fun K hK3 R hR3 X hX3 => ?_))
          rw [hii]
          generalize hij : s.size - j = i at *
          by_cases h8 : i < 8
          · rw [if_pos h8] at hst
            have hd : (i : Int).tdiv 8 = 0 := by rw [Int.tdiv_eq_ediv_of_nonneg (by omega)]; omega
            (repeat ((try simp only [cl_seq, cl_skip]); with_reducible refine cg fun K hK => ?_; (simp (maxSteps := 1000000) only [go_sem, hd, hi, wrapi64 (n := (0 : Int)) (by omega) (by omega), wrap64 (n := (packL s)[i]) (by omega) (by omega)]); (repeat refine ck ?_); (try simp (disch := omega) only [wrap64, wrapi64]); refine hK _ ?_; clear hK K))
            ((try simp only [cl_seq, cl_skip, cl_exit, cl_nil]))
            refine hK3 _ ?_
            (repeat ((try simp only [cl_seq, cl_skip]); with_reducible refine cg fun K hK => ?_; (simp (maxSteps := 1000000) only [go_sem, wrapi64 (n := (i : Int) - 1) (by omega) (by omega)]); (repeat refine ck ?_); (try simp (disch := omega) only [wrap64, wrapi64]); refine hK _ ?_; clear hK K))
            ((try simp only [cl_seq, cl_skip, cl_exit, cl_nil]))
            refine hJ _ (s.size + 1 - (j + 1)) (by omega) ⟨j + 1, by omega, rfl, ?_⟩
            rw [hst, show (i : Int) - 1 = (s.size : Int) - (j + 1 : Nat) by omega]
          · rw [if_neg h8] at hst
            have hd : (i : Int).tdiv 8 = 1 := by rw [Int.tdiv_eq_ediv_of_nonneg (by omega)]; omega
            (repeat ((try simp only [cl_seq, cl_skip]); with_reducible refine cg fun K hK => ?_; (simp (maxSteps := 1000000) only [go_sem, hd, hi, wrapi64 (n := (1 : Int)) (by omega) (by omega), wrap64 (n := (packL s)[i]) (by omega) (by omega)]); (repeat refine ck ?_); (try simp (disch := omega) only [wrap64, wrapi64]); refine hK _ ?_; clear hK K))
            ((try simp only [cl_seq, cl_skip, cl_exit, cl_nil]))
            refine hK3 _ ?_
            (repeat ((try simp only [cl_seq, cl_skip]); with_reducible refine cg fun K hK => ?_; (simp (maxSteps := 1000000) only [go_sem, wrapi64 (n := (i : Int) - 1) (by omega) (by omega)]); (repeat refine ck ?_); (try simp (disch := omega) only [wrap64, wrapi64]); refine hK _ ?_; clear hK K))
            ((try simp only [cl_seq, cl_skip, cl_exit, cl_nil]))
            refine hJ _ (s.size + 1 - (j + 1)) (by omega) ⟨j + 1, by omega, rfl, ?_⟩
            rw [hst, show (i : Int) - 1 = (s.size : Int) - (j + 1 : Nat) by omega]
        · simp only [ge_iff_le, decide_eq_false_iff_not] at hc
          have hjl : j = s.size + 1 := by omega
          subst hjl
          ((try simp only [cl_seq, cl_skip, cl_exit, cl_nil]))
          refine hX2 0 _ (hK1 _ ?_)
          (repeat ((try simp only [cl_seq, cl_skip]); with_reducible refine cg fun K hK => ?_; (simp (maxSteps := 1000000) only [go_sem]); (repeat refine ck ?_); (try simp (disch := omega) only [wrap64, wrapi64]); refine hK _ ?_; clear hK K))
          (((try simp only [cl_seq, cl_skip]); (try simp only [cl_ret]); refine hR _ _ (.inr rfl) ?_; (simp (maxSteps := 1000000) only [go_sem])))
          rw [← hr]
          simp [packW, hv]
      · have hv : packV s = false := by unfold packV; simp; omega
        (((try simp only [cl_seq, cl_skip]); refine cl_reg_b (g := ?g113) (t := ?t113) (L := ?L113) true (fun K hK => ?h1113) ?h2113; case' h1113 => (simp (maxSteps := 1000000) only [go_sem]); (repeat refine ck ?_); (repeat' (((refine ite_split (fun hb => ?_) (fun hb => ?_) <;> ((try (simp (maxSteps := 1000000) only [go_sem, hb])); (repeat refine ck ?_)))))); all_goals (first | ((try simp (disch := omega) only [wrap64, wrapi64]); refine hK _ ?_; clear hK K; first | rfl | grind | skip) | skip)))
        all_goals try (exfalso; simp at hb; omega)
        (((try simp only [cl_seq, cl_skip]); refine cl_cond (b := true) rfl (fun _ => ?_) (fun h => nomatch h)))
        (repeat ((try simp only [cl_seq, cl_skip]); with_reducible refine cg fun K hK => ?_; (simp (maxSteps := 1000000) only [go_sem]); (repeat refine ck ?_); (try simp (disch := omega) only [wrap64, wrapi64]); refine hK _ ?_; clear hK K))
        (((try simp only [cl_seq, cl_skip]); (try simp only [cl_ret]); refine hR _ _ (.inr rfl) ?_; (simp (maxSteps := 1000000) only [go_sem])))
        rw [← hr]
        simp [packW, hv]
    · cases h
  · cases h
end Go.Proofs.YtapdaefpkddioaaGreat.Pe
