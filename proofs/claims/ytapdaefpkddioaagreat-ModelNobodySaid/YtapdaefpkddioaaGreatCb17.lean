/- A part of the proof of PmD. -/
import Derived.Laws.Externs
import Derived.Laws.MathBits
import Derived.Laws.Closers25b
import Derived.Laws.BitsAllLaws
import Derived.Lib.Overlaps
import Derived.Test.YtapdaefpkddioaaGreatCb14
import Derived.Test.YtapdaefpkddioaaGreatCb15
import Derived.Test.YtapdaefpkddioaaGreatCb16
set_option linter.unusedSimpArgs false
set_option linter.unusedVariables false
set_option linter.unusedSectionVars false
namespace Go.Proofs.YtapdaefpkddioaaGreat.Pe
open Go
set_option maxHeartbeats 2000000
def cloneF : List AD → Hp → Nat → Option (RV × Hp × Nat)
  | [.one (.sl [])], H, nx => some (.a (.one (.sl [])), H, nx)
  | [.one (.ref o 1 0 n)], H, nx => match H o with
    | some ⟨some 26, 1, rows⟩ => if rows.length = n ∧ 0 < n ∧ n ≤ 100000 ∧ rows.all (fun r => decide (r.length = 1)) = true then some (.a (.one (.sl rows)), H, nx) else none
    | _ => none
  | _, _, _ => none
theorem clone_ok : FnEff Tryz.prog 47 cloneF := by
  (refine fn_eff' (f := 47) mixed Tryz.func47 rfl (fun X => { nt := 8, tt := tt, fns := ofList [], keep := keep47, X := X }) (fun X => ok_of tt_ok trivial (noEqs _)) (fun _ => rfl) (fun _ => rfl) (by decide) Tryz.results47 cloneF ?_)
  intro l H nx r H' nx' h
  unfold cloneF at h
  split at h
  · injection h with h
    injection h with h1 h
    injection h with h2 h3
    subst h1; subst h2; subst h3
    refine ⟨by simp [Tryz.ntmps47], fun X R hR => ?_⟩
    (repeat ((try simp only [cl_seq, cl_skip]); with_reducible refine cg fun K hK => ?_; (simp (maxSteps := 1000000) only [go_sem]); (repeat refine ck ?_); (try simp (disch := omega) only [wrap64, wrapi64]); refine hK _ ?_; clear hK K))
    (((try simp only [cl_seq, cl_skip]); refine cl_any rfl ?_ ?_))
    · (repeat ((try simp only [cl_seq, cl_skip]); with_reducible refine cg fun K hK => ?_; (simp (maxSteps := 1000000) only [go_sem]); (repeat refine ck ?_); (try simp (disch := omega) only [wrap64, wrapi64]); refine hK _ ?_; clear hK K))
      (((try simp only [cl_seq, cl_skip]); (try simp only [cl_ret]); refine hR _ _ (.inr rfl) ?_; (simp (maxSteps := 1000000) only [go_sem])))
    · (repeat ((try simp only [cl_seq, cl_skip]); with_reducible refine cg fun K hK => ?_; (simp (maxSteps := 1000000) only [go_sem]); (repeat refine ck ?_); (try simp (disch := omega) only [wrap64, wrapi64]); refine hK _ ?_; clear hK K))
      (((try simp only [cl_seq, cl_skip]); (try simp only [cl_ret]); refine hR _ _ (.inr rfl) ?_; (simp (maxSteps := 1000000) only [go_sem])))
  · rename_i o n
    split at h
    · rename_i rows ho
      split at h
      · rename_i hh
        obtain ⟨hn, h0, h1, hall⟩ := hh
        injection h with h
        injection h with h1' h
        injection h with h2 h3
        subst h1'; subst h2; subst h3
        refine ⟨by simp [Tryz.ntmps47], fun X R hR => ?_⟩
        (repeat ((try simp only [cl_seq, cl_skip]); with_reducible refine cg fun K hK => ?_; (simp (maxSteps := 1000000) only [go_sem]); (repeat refine ck ?_); (try simp (disch := omega) only [wrap64, wrapi64]); refine hK _ ?_; clear hK K))
        (((try simp only [cl_seq, cl_skip]); refine cl_cond (b := false) rfl (fun h => nomatch h) (fun _ => ?_)))
        have ht : rows.take n = rows := by rw [← hn, List.take_length]
        (repeat ((try simp only [cl_seq, cl_skip]); with_reducible refine cg fun K hK => ?_; (simp (maxSteps := 1000000) only [go_sem, ho, hn, ht, hall]); (repeat refine ck ?_); (try simp (disch := omega) only [wrap64, wrapi64]); refine hK _ ?_; clear hK K))
        (((try simp only [cl_seq, cl_skip]); (try simp only [cl_ret]); refine hR _ _ (.inr rfl) ?_; (simp (maxSteps := 1000000) only [go_sem])))
      · cases h
    · cases h
  · cases h
end Go.Proofs.YtapdaefpkddioaaGreat.Pe
namespace Go.Proofs.YtapdaefpkddioaaGreat.Pe
open Go
set_option maxHeartbeats 2000000
def failF : List AD → Option RV
  | [.one (.int .i64 e)] => some (.a (.many [.int .i64 e, .int .u64 0, .int .u64 0]))
  | _ => none
theorem failF_eq (e : Int) : failF [.one (.int .i64 e)] = some (.a (.many [.int .i64 e, .int .u64 0, .int .u64 0])) := rfl
theorem fail_ok : FnPure Tryz.prog 28 failF := by
  (refine fn_pure' (f := 28) mixed Tryz.func28 rfl (fun X => { nt := 5, tt := tt, fns := ofList [], keep := keep28, X := X }) (fun X => ok_of tt_ok trivial (noEqs _)) (fun _ => rfl) (fun _ => rfl) (by decide) Tryz.results28 failF ?_)
  intro l r h
  unfold failF at h
  split at h
  · rename_i e
    injection h with h
    refine ⟨by simp [Tryz.ntmps28], fun X nx R hR => ?_⟩
    (repeat ((try simp only [cl_seq, cl_skip]); with_reducible refine cg fun K hK => ?_; (simp (maxSteps := 1000000) only [go_sem]); (repeat refine ck ?_); (try simp (disch := omega) only [wrap64, wrapi64]); refine hK _ ?_; clear hK K))
    (((try simp only [cl_seq, cl_skip]); (try simp only [cl_ret]); refine hR _ _ (.inr rfl) ?_; (simp (maxSteps := 1000000) only [go_sem])))
    exact h
  · cases h
def newBad (n a : Int) : Bool := (n % 16 != 0) || (decide (n < 3824) || (decide (a < n) || (decide (1048576 < a) || (a % 8 != 0))))
def newMF : List AD → Hp → Nat → Option (RV × Hp × Nat)
  | [.one (.int .u64 n), .one (.int .u64 a)], H, nx => if U64 n ∧ U64 a then
      (if newBad n a then some (.a (.one .nilp), H, nx) else some (.a (.one (.ptr (nx + 2) 12 0 0)),
        updO (updO (updO H nx (some ⟨some 55, 6, [[.int .u64 3776, .int .u64 (n - 3776), .bool false, .int .i64 0, .int .u64 0, .sl []]]⟩)) (nx + 1) (some ⟨none, 0, []⟩)) (nx + 2)
          (some ⟨none, 12, [[.int .u64 a, .int .u64 n, .ref nx 6 0 1, .mp (nx + 1), .bool false, .bool false, .bool false, .bool false, .bool false, .bool false, .bool false, .bool false]]⟩), nx + 3)) else none
  | _, _, _ => none
theorem newM_ok : FnEff Tryz.prog 19 newMF := by
  refine fn_eff' (f := 19) mixed Tryz.func19 rfl (fun X => { nt := 35, tt := tt, fns := ofList [], keep := keep19, X := X, pub := fun t => t == 31 || t == 34 }) (fun X => ok_of tt_ok trivial (noEqs _)) (fun _ => rfl) (fun _ => rfl) (by decide) Tryz.results19 newMF ?_
  intro l H nx r H' nx' h
  unfold newMF at h
  split at h
  · rename_i n a
    split at h
    · rename_i hna
      obtain ⟨⟨n0, n1⟩, ⟨a0, a1⟩⟩ := hna
      refine ⟨by simp [Tryz.ntmps19], fun X R hR => ?_⟩
      have tn : n.tmod 16 = n % 16 := Int.tmod_eq_emod_of_nonneg n0
      have ta : a.tmod 8 = a % 8 := Int.tmod_eq_emod_of_nonneg a0
      (repeat ((try simp only [cl_seq, cl_skip]); with_reducible refine cg fun K hK => ?_; (simp (maxSteps := 1000000) only [go_sem, Nat.reduceBEq, Bool.or_false]); (repeat refine ck ?_); (try simp (disch := omega) only [wrap64, wrapi64]); refine hK _ ?_; clear hK K))
      (((try simp only [cl_seq, cl_skip]); refine cl_reg_b (g := ?g103) (t := ?t103) (L := ?L103) ((newBad n a)) (fun K hK => ?h1103) ?h2103; case' h1103 => (simp (maxSteps := 1000000) only [go_sem, Nat.reduceBEq, Bool.or_false, tn, ta]); (repeat refine ck ?_); (repeat' (((refine ite_split (fun hb => ?_) (fun hb => ?_) <;> ((try (simp (maxSteps := 1000000) only [go_sem, hb, Nat.reduceBEq, Bool.or_false, tn, ta])); (repeat refine ck ?_)))))); all_goals (first | ((try simp (disch := omega) only [wrap64, wrapi64]); refine hK _ ?_; clear hK K; first | rfl | grind | skip) | skip)))
      all_goals try (simp only [newBad, *, Bool.false_or, Bool.true_or, Bool.or_true]; done)
      (((try simp only [cl_seq, cl_skip]); refine cl_cond rfl (fun hc => ?_) (fun hc => ?_)))
      · rw [if_pos hc] at h
        injection h with h
        injection h with h1 h
        injection h with h2 h3
        subst h1; subst h2; subst h3
        (repeat ((try simp only [cl_seq, cl_skip]); with_reducible refine cg fun K hK => ?_; (simp (maxSteps := 1000000) only [go_sem, Nat.reduceBEq, Bool.or_false]); (repeat refine ck ?_); (try simp (disch := omega) only [wrap64, wrapi64]); refine hK _ ?_; clear hK K))
        (((try simp only [cl_seq, cl_skip]); (try simp only [cl_ret]); refine hR _ _ (.inr rfl) ?_; (simp (maxSteps := 1000000) only [go_sem])))
      · rw [if_neg (by rw [hc]; simp)] at h
        injection h with h
        injection h with h1 h
        injection h with h2 h3
        subst h1; subst h2; subst h3
        have h48 : 3824 ≤ n := by
          unfold newBad at hc
          simp only [Bool.or_eq_false_iff, decide_eq_false_iff_not] at hc
          omega
        (repeat ((try simp only [cl_seq, cl_skip]); with_reducible refine cg fun K hK => ?_; (simp (maxSteps := 1000000) only [go_sem, Nat.reduceBEq, Bool.or_false, Bool.or_true, wrap64 (n := n - 3776) (by omega) (by omega)]); (repeat refine ck ?_); (try simp (disch := omega) only [wrap64, wrapi64]); refine hK _ ?_; clear hK K))
        (((try simp only [cl_seq, cl_skip]); (try simp only [cl_ret]); refine hR _ _ (.inr rfl) ?_; (simp (maxSteps := 1000000) only [go_sem])))
        first | done | exact ⟨rfl, rfl⟩ | trivial | rfl
    · cases h
  · cases h
end Go.Proofs.YtapdaefpkddioaaGreat.Pe
namespace Go.Proofs.YtapdaefpkddioaaGreat.Pe
open Go
set_option maxHeartbeats 2000000
attribute [local irreducible] cl bits
def orW (w c i : Int) : Int := bits .or .u64 w (IntKind.u64.wrap (c * 2 ^ (min (8 * i.tmod 8).toNat 64)))
def orPutF : List AD → Hp → Nat → Option (RV × Hp × Nat)
  | [.one (.int .i64 i), .one (.int .u8 c), .one (.ptr o 2 0 0)], H, nx => match H o with
    | some ⟨none, 2, [[.int .u64 a, .int .u64 b]]⟩ => if 0 ≤ i ∧ i < 16 ∧ 0 ≤ c ∧ c < 256 then
        some (.tup [], updO H o (some ⟨none, 2, [if i < 8 then [.int .u64 (orW a c i), .int .u64 b] else [.int .u64 a, .int .u64 (orW b c i)]]⟩), nx) else none
    | _ => none
  | _, _, _ => none
theorem putc_ok : FnEff Tryz.prog 100 orPutF := by
  (refine fn_eff' (f := 100) mixed Tryz.func100 rfl (fun X => { nt := 17, tt := tt, fns := ofList [], keep := keep100, X := X }) (fun X => ok_of tt_ok trivial (noEqs _)) (fun _ => rfl) (fun _ => rfl) (by decide) Tryz.results100 orPutF ?_)
  intro l H nx r H' nx' h
  unfold orPutF at h
  split at h
  · rename_i i c o
    split at h
    · rename_i a b ho
      split at h
      · rename_i hh
        obtain ⟨i0, i1, c0, c1⟩ := hh
        injection h with h
        injection h with h1' h
        injection h with h2 h3
        subst h1'; subst h2; subst h3
        refine ⟨by simp [Tryz.ntmps100], fun X R hR => ?_⟩
        have htm : i.tmod 8 = i % 8 := Int.tmod_eq_emod_of_nonneg i0
        have hsh : ¬ IntKind.i64.wrap (8 * i.tmod 8) < 0 := by rw [htm, wrapi64 (by omega) (by omega)]; omega
        by_cases h8 : i < 8
        · have hd : i.tdiv 8 = 0 := by rw [Int.tdiv_eq_ediv_of_nonneg i0]; omega
          rw [if_pos h8] at hR
          (repeat ((try simp only [cl_seq, cl_skip]); with_reducible refine cg fun K hK => ?_; (simp (maxSteps := 1000000) only [go_sem, ho, hd, hsh, wrapi64 (n := (0 : Int)) (by omega) (by omega), wrap64 (n := c) (by omega) (by omega)]); (repeat refine ck ?_); (try simp (disch := omega) only [wrap64, wrapi64]); refine hK _ ?_; clear hK K))
          ((try simp only [cl_seq, cl_skip, cl_exit, cl_nil]))
          refine hR _ _ (.inl rfl) ?_
          (simp (maxSteps := 1000000) only [go_sem])
          rfl
        · have hd : i.tdiv 8 = 1 := by rw [Int.tdiv_eq_ediv_of_nonneg i0]; omega
          rw [if_neg h8] at hR
          (repeat ((try simp only [cl_seq, cl_skip]); with_reducible refine cg fun K hK => ?_; (simp (maxSteps := 1000000) only [go_sem, ho, hd, hsh, wrapi64 (n := (1 : Int)) (by omega) (by omega), wrap64 (n := c) (by omega) (by omega)]); (repeat refine ck ?_); (try simp (disch := omega) only [wrap64, wrapi64]); refine hK _ ?_; clear hK K))
          ((try simp only [cl_seq, cl_skip, cl_exit, cl_nil]))
          refine hR _ _ (.inl rfl) ?_
          (simp (maxSteps := 1000000) only [go_sem])
          rfl
      · cases h
    · cases h
  · cases h
end Go.Proofs.YtapdaefpkddioaaGreat.Pe
namespace Go.Proofs.YtapdaefpkddioaaGreat.Pe
open Go
set_option maxHeartbeats 2000000
def add64F : List AD → Hp → Nat → Option RV
  | [.one (.int .u64 a), .one (.int .u64 b), .one (.int .u64 c)], _, _ => if U64 a ∧ U64 b ∧ c = 0 then some (.tup [.one (.int .u64 ((a + b) % 18446744073709551616)), .one (.int .u64 ((a + b) / 18446744073709551616))]) else none
  | _, _, _ => none
theorem add64F_eq {a b : Int} {H : Hp} {nx : Nat} (ha : U64 a) (hb : U64 b) : add64F [.one (.int .u64 a), .one (.int .u64 b), .one (.int .u64 0)] H nx = some (.tup [.one (.int .u64 ((a + b) % 18446744073709551616)), .one (.int .u64 ((a + b) / 18446744073709551616))]) := by simp [add64F, ha, hb]
theorem add64_ok : FnExt Tryz.prog 101 add64F := by
  intro args H nx r h w ι M vals _ hl hargs
  unfold add64F at h
  split at h
  · rename_i a b c
    split at h
    · rename_i hh
      obtain ⟨ha, hb, rfl⟩ := hh
      injection h with h
      have g : ∀ (j : Nat) v d, vals[j]? = some v → [AD.one (.int .u64 a), .one (.int .u64 b), .one (.int .u64 0)][j]? = some d → RdA w ι M v d := hargs
      have hv : vals = #[.int .u64 a, .int .u64 b, .int .u64 0] := by
        have h3 : vals.size = 3 := hl
        have key : ∀ (j : Nat) (n : Int), [AD.one (.int .u64 a), .one (.int .u64 b), .one (.int .u64 0)][j]? = some (.one (.int .u64 n)) → j < 3 → vals[j]? = some (.int .u64 n) := by
          intro j n hj hlt
          have hs : vals[j]? = some vals[j] := Array.getElem?_eq_getElem (by omega)
          have := g j _ _ hs hj
          have hr : Rd w ι M vals[j] (.int .u64 n) := this
          rw [hs]
          generalize vals[j] = u at hr
          cases hr; rfl
        apply Array.ext_getElem?
        intro j
        match j with
        | 0 => exact key 0 a rfl (by omega)
        | 1 => exact key 1 b rfl (by omega)
        | 2 => exact key 2 0 rfl (by omega)
        | j + 3 => rw [Array.getElem?_eq_none (by omega), Array.getElem?_eq_none (by simp)]
      subst hv
      refine ⟨.tuple #[.int .u64 ((a + b + 0) % 18446744073709551616), .int .u64 ((a + b + 0) / 18446744073709551616)], ?_, ?_⟩
      · rw [run_callFunc_extern (P := Tryz.prog) (f := 101) (fn := Tryz.f101) Tryz.func101 (by kernel_rfl) (by kernel_rfl) (by kernel_rfl) (e := add64Entry) (by kernel_rfl), run_add64 a b 0 ha.1 hb.1 (by omega) (by omega)]
        rfl
      · subst h
        rw [Int.add_zero]
        refine ⟨_, rfl, rfl, fun j v x hv hx => ?_⟩
        match j with
        | 0 => simp at hv hx; subst hv; subst hx; exact .int _ _
        | 1 => simp at hv hx; subst hv; subst hx; exact .int _ _
        | j + 2 => simp at hv
    · cases h
  · cases h
theorem wadd_ok : FnPure Tryz.prog 71 addF := by
  (refine fn_pure' (f := 71) mixed Tryz.func71 rfl (fun X => { nt := 17, tt := tt, fns := ofList ([(101, .ext add64F)]), keep := keep71, X := X }) (fun X => ok_of tt_ok (⟨add64_ok, by kernel_rfl, trivial⟩) (noEqs _)) (fun _ => rfl) (fun _ => rfl) (by decide) Tryz.results71 addF ?_)
  intro l r h
  unfold addF at h
  split at h
  · rename_i a b
    split at h
    · rename_i hab
      obtain ⟨ha, hb⟩ := hab
      injection h with h
      have he := fun (H : Hp) (nx : Nat) => add64F_eq (H := H) (nx := nx) ha hb
      unfold U64 at ha hb
      refine ⟨by simp [Tryz.ntmps71], fun X nx R hR => ?_⟩
      (repeat ((try simp only [cl_seq, cl_skip]); with_reducible refine cg fun K hK => ?_; (simp (maxSteps := 1000000) only [go_sem, he]); (repeat refine ck ?_); (try simp (disch := omega) only [wrap64, wrapi64]); refine hK _ ?_; clear hK K))
      (((try simp only [cl_seq, cl_skip]); refine cl_cond rfl (fun hc => ?_) (fun hc => ?_)))
      · simp only [bne_iff_ne, ne_eq] at hc
        (repeat ((try simp only [cl_seq, cl_skip]); with_reducible refine cg fun K hK => ?_; (simp (maxSteps := 1000000) only [go_sem]); (repeat refine ck ?_); (try simp (disch := omega) only [wrap64, wrapi64]); refine hK _ ?_; clear hK K))
        (((try simp only [cl_seq, cl_skip]); (try simp only [cl_ret]); refine hR _ _ (.inr rfl) ?_; (simp (maxSteps := 1000000) only [go_sem])))
        rw [← h]
        simp [addV, optV, show ¬ a + b < 18446744073709551616 by omega]
      · simp only [bne_eq_false_iff_eq] at hc
        (repeat ((try simp only [cl_seq, cl_skip]); with_reducible refine cg fun K hK => ?_; (simp (maxSteps := 1000000) only [go_sem]); (repeat refine ck ?_); (try simp (disch := omega) only [wrap64, wrapi64]); refine hK _ ?_; clear hK K))
        (((try simp only [cl_seq, cl_skip]); (try simp only [cl_ret]); refine hR _ _ (.inr rfl) ?_; (simp (maxSteps := 1000000) only [go_sem])))
        rw [← h]
        have : a + b < 18446744073709551616 := by omega
        simp [addV, optV, this, show (a + b) % 18446744073709551616 = a + b by omega]
    · cases h
  · cases h
theorem wwords_ok : FnPure Tryz.prog 65 wordsF := by
  (refine fn_pure' (f := 65) mixed Tryz.func65 rfl (fun X => { nt := 9, tt := tt, fns := ofList [], keep := keep65, X := X }) (fun X => ok_of tt_ok trivial (noEqs _)) (fun _ => rfl) (fun _ => rfl) (by decide) Tryz.results65 wordsF ?_)
  intro l r h
  unfold wordsF at h
  split at h
  · rename_i a
    split at h
    · rename_i ha
      injection h with h
      unfold U64 at ha
      refine ⟨by simp [Tryz.ntmps65], fun X nx R hR => ?_⟩
      (repeat ((try simp only [cl_seq, cl_skip]); with_reducible refine cg fun K hK => ?_; (simp (maxSteps := 1000000) only [go_sem, Int.tmod_eq_emod_of_nonneg ha.1, Int.tdiv_eq_ediv_of_nonneg ha.1, wrap64 (n := a / 8) (by omega) (by omega)]); (repeat refine ck ?_); (try simp (disch := omega) only [wrap64, wrapi64]); refine hK _ ?_; clear hK K))
      (((try simp only [cl_seq, cl_skip]); (try simp only [cl_ret]); refine hR _ _ (.inr rfl) ?_; (simp (maxSteps := 1000000) only [go_sem])))
      rw [← h]
      by_cases h1 : 1 < a % 8
      · simp [h1, wordsV]; omega
      · simp [h1, wordsV]; omega
    · cases h
  · cases h
def mul64F : List AD → Option RV
  | [.one (.int .u64 a), .one (.int .u64 b)] => if U64 a ∧ U64 b then some (.tup [.one (.int .u64 (a * b / 18446744073709551616)), .one (.int .u64 (a * b % 18446744073709551616))]) else none
  | _ => none
theorem mul64F_eq {a b : Int} (ha : U64 a) (hb : U64 b) : mul64F [.one (.int .u64 a), .one (.int .u64 b)] = some (.tup [.one (.int .u64 (a * b / 18446744073709551616)), .one (.int .u64 (a * b % 18446744073709551616))]) := by simp [mul64F, ha, hb]
theorem mul64_ok : FnPure Tryz.prog 93 mul64F := by
  (refine fn_pure' (f := 93) mixed Tryz.func93 rfl (fun X => { nt := 51, tt := tt, fns := ofList [], keep := keep93, X := X }) (fun X => ok_of tt_ok trivial (noEqs _)) (fun _ => rfl) (fun _ => rfl) (by decide) Tryz.results93 mul64F ?_)
  intro l r h
  unfold mul64F at h
  split at h
  · rename_i a b
    split at h
    · rename_i hab
      obtain ⟨ha, hb⟩ := hab
      injection h with h
      unfold U64 at ha hb
      refine ⟨by simp [Tryz.ntmps93], fun X nx R hR => ?_⟩
      (repeat ((try simp only [cl_seq, cl_skip]); with_reducible refine cg fun K hK => ?_; (simp (maxSteps := 1000000) only [go_sem]); (repeat refine ck ?_); (try simp (disch := omega) only [wrap64, wrapi64]); refine hK _ ?_; clear hK K))
      (((try simp only [cl_seq, cl_skip]); (try simp only [cl_ret]); refine hR _ _ (.inr rfl) ?_; (simp (maxSteps := 1000000) only [go_sem])))
      rw [← h]
      have e32 : (2 : Int) ^ (min 32 64) = 4294967296 := by decide
      have fd : ∀ x : Int, x.fdiv 4294967296 = x / 4294967296 := fun x => Int.fdiv_eq_ediv_of_nonneg x (by decide)
      simp only [e32, fd, IntKind.wrap_u64]
      simp (disch := omega) only [and_low32]
      have := mul64_arith a b ha.1 ha.2 hb.1 hb.2
      rw [this]
    · cases h
  · cases h
theorem wmul_ok : FnPure Tryz.prog 62 mulF := by
  (refine fn_pure' (f := 62) mixed Tryz.func62 rfl (fun X => { nt := 17, tt := tt, fns := ofList ([(93, .pure mul64F)]), keep := keep62, X := X }) (fun X => ok_of tt_ok (⟨mul64_ok, by kernel_rfl, trivial⟩) (noEqs _)) (fun _ => rfl) (fun _ => rfl) (by decide) Tryz.results62 mulF ?_)
  intro l r h
  unfold mulF at h
  split at h
  · rename_i a b
    split at h
    · rename_i hab
      obtain ⟨ha, hb⟩ := hab
      injection h with h
      have he := mul64F_eq ha hb
      unfold U64 at ha hb
      have hp : 0 ≤ a * b := Int.mul_nonneg ha.1 hb.1
      refine ⟨by simp [Tryz.ntmps62], fun X nx R hR => ?_⟩
      (repeat ((try simp only [cl_seq, cl_skip]); with_reducible refine cg fun K hK => ?_; (simp (maxSteps := 1000000) only [go_sem, he]); (repeat refine ck ?_); (try simp (disch := omega) only [wrap64, wrapi64]); refine hK _ ?_; clear hK K))
      (((try simp only [cl_seq, cl_skip]); refine cl_cond rfl (fun hc => ?_) (fun hc => ?_)))
      · simp only [bne_iff_ne, ne_eq] at hc
        (repeat ((try simp only [cl_seq, cl_skip]); with_reducible refine cg fun K hK => ?_; (simp (maxSteps := 1000000) only [go_sem]); (repeat refine ck ?_); (try simp (disch := omega) only [wrap64, wrapi64]); refine hK _ ?_; clear hK K))
        (((try simp only [cl_seq, cl_skip]); (try simp only [cl_ret]); refine hR _ _ (.inr rfl) ?_; (simp (maxSteps := 1000000) only [go_sem])))
        rw [← h]
        simp [mulV, optV, show ¬ a * b < 18446744073709551616 by omega]
      · simp only [bne_eq_false_iff_eq] at hc
        (repeat ((try simp only [cl_seq, cl_skip]); with_reducible refine cg fun K hK => ?_; (simp (maxSteps := 1000000) only [go_sem]); (repeat refine ck ?_); (try simp (disch := omega) only [wrap64, wrapi64]); refine hK _ ?_; clear hK K))
        (((try simp only [cl_seq, cl_skip]); (try simp only [cl_ret]); refine hR _ _ (.inr rfl) ?_; (simp (maxSteps := 1000000) only [go_sem])))
        rw [← h]
        have : a * b < 18446744073709551616 := by omega
        simp [mulV, optV, this, show (a * b) % 18446744073709551616 = a * b by omega]
    · cases h
  · cases h
def on1 (a : Int) : Int := IntKind.u64.wrap (bits .and .u64 (a.fdiv (2 ^ min 1 64)) 6148914691236517205 + bits .and .u64 a 6148914691236517205)
def on2 (a : Int) : Int := IntKind.u64.wrap (bits .and .u64 (a.fdiv (2 ^ min 2 64)) 3689348814741910323 + bits .and .u64 a 3689348814741910323)
def on3 (a : Int) : Int := bits .and .u64 (IntKind.u64.wrap (a.fdiv (2 ^ min 4 64) + a)) 1085102592571150095
def on4 (a : Int) : Int := IntKind.u64.wrap (a + a.fdiv (2 ^ min 8 64))
def on5 (a : Int) : Int := IntKind.u64.wrap (a + a.fdiv (2 ^ min 16 64))
def on6 (a : Int) : Int := IntKind.u64.wrap (a + a.fdiv (2 ^ min 32 64))
def onesV (a : Int) : Int := bits .and .i64 (IntKind.i64.wrap (on6 (on5 (on4 (on3 (on2 (on1 a))))))) 127
def onesF : List AD → Option RV
  | [.one (.int .u64 a)] => if U64 a then some (.a (.one (.int .i64 (onesV a)))) else none
  | _ => none
theorem onesF_eq {a : Int} (ha : U64 a) : onesF [.one (.int .u64 a)] = some (.a (.one (.int .i64 (onesV a)))) := by simp [onesF, ha]
theorem ones_ok : FnPure Tryz.prog 120 onesF := by
  (refine fn_pure' (f := 120) mixed Tryz.func120 rfl (fun X => { nt := 35, tt := tt, fns := ofList [], keep := keep120, X := X }) (fun X => ok_of tt_ok trivial (noEqs _)) (fun _ => rfl) (fun _ => rfl) (by decide) Tryz.results120 onesF ?_)
  intro l r h
  unfold onesF at h
  split at h
  · rename_i a
    split at h
    · rename_i ha
      injection h with h
      refine ⟨by simp [Tryz.ntmps120], fun X nx R hR => ?_⟩
      (repeat ((try simp only [cl_seq, cl_skip]); with_reducible refine cg fun K hK => ?_; (simp (maxSteps := 1000000) only [go_sem]); (repeat refine ck ?_); (try simp (disch := omega) only [wrap64, wrapi64]); refine hK _ ?_; clear hK K))
      (((try simp only [cl_seq, cl_skip]); (try simp only [cl_ret]); refine hR _ _ (.inr rfl) ?_; (simp (maxSteps := 1000000) only [go_sem])))
      rw [← h]
      rfl
    · cases h
  · cases h
def pw : Nat → Nat → Bool
  | 0, _ => false
  | f + 1, a => if 1 < a ∧ a % 2 = 0 then pw f (a / 2) else a == 1
theorem pw_eq : ∀ (f a : Nat), a < 2 ^ f → pow2N a = pw (f + 1) a
  | 0, a, h => by
    have : a = 0 := by simpa using h
    subst this
    rw [pow2N]; rfl
  | f + 1, a, h => by
    rw [pow2N, pw]
    by_cases hh : 1 < a ∧ a % 2 = 0
    · rw [dif_pos hh, if_pos hh]
      exact pw_eq f (a / 2) (by rw [Nat.pow_succ] at h; omega)
    · rw [dif_neg hh, if_neg hh]
theorem ones_fin : ∀ m : Fin 65, ∀ n : Fin 64, (onesV ((64 * m.val + n.val : Nat) : Int) == 1) = pw 14 (64 * m.val + n.val) := by decide +kernel
theorem ones_pow {a : Int} (h0 : 0 ≤ a) (h1 : a ≤ 4096) : (onesV a = 1) ↔ pow2 a = true := by
  obtain ⟨n, rfl⟩ := Int.eq_ofNat_of_zero_le h0
  have := ones_fin ⟨n / 64, by omega⟩ ⟨n % 64, by omega⟩
  simp only at this
  rw [show 64 * (n / 64) + n % 64 = n by omega] at this
  rw [← pw_eq 13 n (by omega)] at this
  have e : pow2 (n : Int) = pow2N n := by simp [pow2]
  rw [e, ← this]
  simp
end Go.Proofs.YtapdaefpkddioaaGreat.Pe
namespace Go.Proofs.YtapdaefpkddioaaGreat.Pe
open Go
set_option maxHeartbeats 2000000
def overF : List AD → Hp → Nat → Option RV
  | [.one (.refc o 6 _ _ _), .one (.sl (_ :: _))], H, _ => if (H o).isSome then some (.a (.one (.bool false))) else none
  | [.one (.sl (_ :: _)), .one (.refc o 6 _ _ _)], H, _ => if (H o).isSome then some (.a (.one (.bool false))) else none
  | _, _, _ => none
theorem run_over {P : Program} (w : World) (tS tR e : TypeId) (ht : P.underlying tS = some (.slice e)) (size : Nat) (hz : ∀ w, (Go.sizeOf e).run P w = .ok size w)
    (a b : Addr) (la ca lb cb : Nat) (hne : a.block ≠ b.block) (tA tB : TypeId) (kA kB : Nat) (hsa : w.shape? a.block = some (tA, kA)) (hsb : w.shape? b.block = some (tB, kB))
    (h : (kB ≠ 0 ∧ w.frozen? a = false ∧ w.frozen? { block := a.block, off := kA } = false) ∨ (kA ≠ 0 ∧ w.frozen? b = false ∧ w.frozen? { block := b.block, off := kB } = false)) :
    (Extern.SlicesOverlaps.overlaps #[tS, tS] #[tR] #[.slice (some a) la ca, .slice (some b) lb cb]).run P w = .ok (.bool false) w := by
  rcases h with ⟨hk, hfa, hfe⟩ | ⟨hk, hfb, hfe⟩
  · exact Lib.run_overlaps_apart w tS tR e ht size hz a b la ca lb cb hne tA tB kA kB hsa hsb hk hfa hfe
  · have hnb : (a.block != b.block) = true := by simpa using hne
    have hnb' : (a.block == b.block) = false := by simpa using hne
    show Sem.run P (α := Value) (Bind.bind ?x ?f) w = _
    by_cases h0 : la = 0 ∨ lb = 0 ∨ size = 0
    · simp [run_underlying ht, hz, h0]
    · cases kA with
      | zero => exact absurd rfl hk
      | succ kA =>
        cases hfa : w.frozen? a <;> cases hfk : w.frozen? { block := a.block, off := kA + 1 } <;>
          simp [run_underlying ht, hz, h0, hnb, hnb', frozen, noView, viewAt, mayBeOne, stringish, shape, Sem.run, hsa, hsb, hfa, hfb, hfe, hfk]
theorem over_ok : FnExt Tryz.prog 121 overF := by
  have hut : (Tryz.prog).underlying 52 = some (.slice 55) := by kernel_rfl
  have hsz : ∀ w, (Go.sizeOf 55).run Tryz.prog w = .ok 6 w := fun w => by
    have : ∃ i, (Tryz.prog).info? 55 = some i ∧ i.size = 6 := by
      have h : ((Tryz.prog).info? 55).map (·.size) = some 6 := by kernel_rfl
      cases hi : (Tryz.prog).info? 55 with
      | none => rw [hi] at h; cases h
      | some i => rw [hi] at h; simp at h; exact ⟨i, rfl, h⟩
    obtain ⟨i, hi, h6⟩ := this
    rw [run_sizeOf' hi, h6]
  have key : ∀ (w : World) (ι : Nat → Option Nat) (M : Nat → Prop) (H : Hp) (nx o i n c : Nat) (ys : List (List D)) (u v : Value), HeapOk w ι M H nx → (H o).isSome = true → Rd w ι M u (.refc o 6 i n c) → Rd w ι M v (.sl ys) → ys ≠ [] →
      (Extern.SlicesOverlaps.overlaps #[52, 52] #[4] #[u, v]).run Tryz.prog w = .ok (.bool false) w ∧ (Extern.SlicesOverlaps.overlaps #[52, 52] #[4] #[v, u]).run Tryz.prog w = .ok (.bool false) w := by
    intro w ι M H nx o i n c ys u v hok ho hu hv hne0
    obtain ⟨x, hx⟩ := Option.isSome_iff_exists.1 ho
    obtain ⟨b, hb, rfl, _, _, _, cs, T, hat, hcs⟩ := refc_rd hu
    have hMb := hok.ctl o x b hx hb
    have hshb : w.shape? b = some (T, cs.size) := by simp [World.shape?, hat]
    have hfb : ∀ k, w.frozen? ⟨b, k, none⟩ = false := fun k => by
      simp [World.frozen?, hat]
    rcases hv.imm with ⟨A, c', rfl, rfl⟩ | ⟨ad, c', sz, rfl, hpos, _, him⟩
    · exact absurd rfl hne0
    · have hne : ad.block ≠ b := fun e => him.im (e ▸ hMb)
      obtain ⟨v0, hv0⟩ : ∃ v0, w.cell? ad = some v0 := by
        have hr0 : ys[0]? = some ys[0] := List.getElem?_eq_getElem hpos
        have hl0 := him.uni _ (List.getElem_mem hpos)
        have hp0 := him.pos
        obtain ⟨v0, h1, _⟩ := him.rd 0 0 ys[0] (ys[0][0]'(by omega)) hr0 (List.getElem?_eq_getElem (by omega))
        refine ⟨v0, ?_⟩
        rw [Nat.zero_mul, Nat.zero_add] at h1
        rwa [addr_add him.spot, Nat.add_zero, ← show ad = ⟨ad.block, ad.off, none⟩ by rw [← him.spot]] at h1
      have hsh : ∃ T' k, w.shape? ad.block = some (T', k) ∧ k ≠ 0 := by
        unfold World.cell? at hv0
        unfold World.shape?
        cases hh : w.heap[ad.block]? with
        | none => rw [hh] at hv0; simp at hv0
        | some ob =>
          rw [hh] at hv0
          cases ob with
          | cells cc T' fr =>
            refine ⟨T', cc.size, rfl, fun h0 => ?_⟩
            have : cc = #[] := Array.eq_empty_of_size_eq_zero h0
            subst this
            simp at hv0
          | _ => simp at hv0
      obtain ⟨T', k, hsh, hk⟩ := hsh
      constructor
      · exact run_over w 52 4 55 hut 6 hsz _ _ _ _ _ _ (fun e => hne e.symm) T T' _ _ hshb hsh (.inl ⟨hk, hfb _, hfb _⟩)
      · exact run_over w 52 4 55 hut 6 hsz _ _ _ _ _ _ hne T' T _ _ hsh hshb (.inr ⟨hk, hfb _, hfb _⟩)
  have ent : ∀ (w : World) (u v : Value), (Extern.SlicesOverlaps.overlaps #[52, 52] #[4] #[u, v]).run Tryz.prog w = .ok (.bool false) w → (callFunc 121 #[u, v]).run Tryz.prog w = .ok (.value (.bool false)) w := by
    intro w u v h
    rw [run_callFunc_extern (P := Tryz.prog) (f := 121) (fn := Tryz.f121) Tryz.func121 (by kernel_rfl) (by kernel_rfl) (by kernel_rfl) (e := Extern.SlicesOverlaps.overlaps #[52, 52] #[4]) (by kernel_rfl), h]
    rfl
  intro ads H nx r hF w ι M vals hok hl hargs
  have two : ∀ x y, ads = [x, y] → ∃ u v, vals = #[u, v] ∧ RdA w ι M u x ∧ RdA w ι M v y := by
    intro x y e
    subst e
    have h2 : vals.size = 2 := hl
    refine ⟨vals[0], vals[1], ?_, hargs 0 _ _ (Array.getElem?_eq_getElem (by omega)) rfl, hargs 1 _ _ (Array.getElem?_eq_getElem (by omega)) rfl⟩
    apply Array.ext_getElem?
    intro j
    match j with
    | 0 => simp [h2]
    | 1 => simp [h2]
    | j + 2 => rw [Array.getElem?_eq_none (by omega), Array.getElem?_eq_none (by simp)]
  unfold overF at hF
  split at hF
  · split at hF
    · rename_i ho
      injection hF with hF
      subst hF
      obtain ⟨u, v, rfl, h1, h2⟩ := two _ _ rfl
      exact ⟨_, ent w u v (key w ι M H nx _ _ _ _ _ u v hok ho h1 h2 (by simp)).1, .bool _⟩
    · cases hF
  · split at hF
    · rename_i ho
      injection hF with hF
      subst hF
      obtain ⟨u, v, rfl, h1, h2⟩ := two _ _ rfl
      exact ⟨_, ent w u v (key w ι M H nx _ _ _ _ _ v u hok ho h2 h1 (by simp)).2, .bool _⟩
    · cases hF
  · cases hF
end Go.Proofs.YtapdaefpkddioaaGreat.Pe
namespace Go.Proofs.YtapdaefpkddioaaGreat.Pe
open Go
def EffPost (w : World) (ι : Nat → Option Nat) (M : Nat → Prop) (H : Hp) (r : RV) (H' : Hp) (nx' : Nat) (e : Ending) (w' : World) : Prop :=
  ∃ v ι' M', e = .returned v ∧ RdV w' ι' M' v r ∧ HeapOk w' ι' M' H' nx' ∧ (∀ o b, ι o = some b → ι' o = some b) ∧ Evo (fun _ => False) (fun b => ∃ o x, H o = some x ∧ ι o = some b) w (fun b => ∃ o x, H' o = some x ∧ ι' o = some b) w' ∧
      (∀ b, M b → (∀ o x, H o = some x → ι o ≠ some b) → M' b) ∧ (∀ b, b < w.heap.size → M' b → M b) ∧ (∀ b, M' b → b < w'.heap.size)
section
variable {w w' : World} {ι : Nat → Option Nat} {M : Nat → Prop} {H H1 H' : Hp} {nx nx' : Nat} {r : RV} {e : Ending}
theorem EffPost.dom (h : EffPost w ι M H1 r H' nx' e w') (hd : ∀ o, (∃ x, H1 o = some x) ↔ ∃ x, H o = some x) : EffPost w ι M H r H' nx' e w' := by
  have hs : (fun b => ∃ o x, H1 o = some x ∧ ι o = some b) = fun b => ∃ o x, H o = some x ∧ ι o = some b := by
    funext b
    apply propext
    constructor
    · rintro ⟨o, x, h1, h2⟩
      obtain ⟨y, hy⟩ := (hd o).1 ⟨x, h1⟩
      exact ⟨o, y, hy, h2⟩
    · rintro ⟨o, x, h1, h2⟩
      obtain ⟨y, hy⟩ := (hd o).2 ⟨x, h1⟩
      exact ⟨o, y, hy, h2⟩
  obtain ⟨v, ι', M', h1, h2, h3, h4, h5, h6, h7, h8⟩ := h
  rw [hs] at h5
  refine ⟨v, ι', M', h1, h2, h3, h4, h5, fun b hb hn => h6 b hb (fun o x hx => ?_), h7, h8⟩
  obtain ⟨y, hy⟩ := (hd o).1 ⟨x, hx⟩
  exact hn o y hy
theorem HeapOk.dropped {ι' : Nat → Option Nat} {M' : Nat → Prop} (h : HeapOk w' ι' M' H' nx') {H2 : Hp} (hs : ∀ o x, H2 o = some x → H' o = some x) : HeapOk w' ι' M' H2 nx' :=
  ⟨h.new, fun o ob ho => h.objs o ob (hs o ob ho), fun o o' x x' b h1 h2 => h.inj o o' x x' b (hs _ _ h1) (hs _ _ h2), fun o x b h1 => h.ctl o x b (hs _ _ h1)⟩
theorem EffPost.drop (h : EffPost w ι M H r H' nx' e w') {H2 : Hp} (hs : ∀ o x, H2 o = some x → H' o = some x) : EffPost w ι M H r H2 nx' e w' := by
  obtain ⟨v, ι', M', h1, h2, h3, h4, h5, h6, h7, h8⟩ := h
  exact ⟨v, ι', M', h1, h2, h3.dropped hs, h4, ⟨h5.os, h5.tape, h5.output, h5.size, h5.same, fun b hb ⟨o, x, q1, q2⟩ => h5.back b hb ⟨o, x, hs _ _ q1, q2⟩, h5.keep, h5.shape⟩, h6, h7, h8⟩
theorem EffPost.rename {B T sz m c : Nat} {R : List (List D)} (h : EffPost w ι M H (.a (.one (.refc B sz 0 m c))) H' nx' e w') (hB : H' B = some ⟨some T, sz, R⟩) (hm : m ≤ R.length) :
    EffPost w ι M H (.a (.one (.ref nx' sz 0 m))) (updO (updO H' B none) nx' (some ⟨some T, sz, R.take m⟩)) (nx' + 1) e w' := by
  obtain ⟨v, ι', M', h1, h2, h3, h4, h5, h6, h7, h8⟩ := h
  obtain ⟨b, k1, k2, k3, k4, k5, k6⟩ := refc_rd (show Rd w' ι' M' v (.refc B sz 0 m c) from h2)
  have hnn : ι' nx' = none := (h3.new nx').1 (Nat.le_refl _)
  have hBn : B ≠ nx' := by rintro rfl; rw [hnn] at k1; cases k1
  have hi : ∀ o b', ι' o = some b' → setI ι' nx' b o = some b' := fun o b' ho => by
    unfold setI
    split
    · rename_i e; subst e; rw [hnn] at ho; cases ho
    · exact ho
  have hin : setI ι' nx' b nx' = some b := by simp [setI]
  have hne : ∀ o, o ≠ nx' → setI ι' nx' b o = ι' o := fun o ho => by simp [setI, ho]
  have hl : ∀ o x, updO (updO H' B none) nx' (some ⟨some T, sz, R.take m⟩) o = some x → (o = nx' ∧ x = ⟨some T, sz, R.take m⟩) ∨ (o ≠ nx' ∧ o ≠ B ∧ H' o = some x) := by
    intro o x ho
    unfold updO at ho
    split at ho
    · injection ho with ho; exact .inl ⟨by assumption, ho.symm⟩
    · split at ho
      · cases ho
      · exact .inr ⟨by assumption, by assumption, ho⟩
  have hok : HeapOk w' (setI ι' nx' b) M' (updO (updO H' B none) nx' (some ⟨some T, sz, R.take m⟩)) (nx' + 1) := by
    refine ⟨fun o => ?_, fun o ob ho => ?_, fun o o' x x' b' q1 q2 q3 q4 => ?_, fun o x b' q1 q2 => ?_⟩
    · by_cases ho : o = nx'
      · subst ho; rw [hin]; constructor
        · intro h; omega
        · intro h; cases h
      · rw [hne o ho, ← h3.new o]; omega
    · rcases hl o ob ho with ⟨rfl, rfl⟩ | ⟨q1, q2, q3⟩
      · obtain ⟨b1, p1, p2⟩ := h3.objs B _ hB
        rw [k1] at p1; injection p1 with p1; subst p1
        obtain ⟨T', cs, p3, p4⟩ := p2.blk k5
        refine ⟨b, hin, .inr ⟨T', cs, p3, ?_⟩⟩
        exact (p4.mono (Evo.refl (X := fun _ => False) M' w') hi rfl).take m
      · obtain ⟨b1, p1, p2⟩ := h3.objs o ob q3
        exact ⟨b1, hi o b1 p1, p2.mono (Evo.refl (X := fun _ => False) M' w') hi rfl⟩
    · rcases hl o x q1 with ⟨e1, e2⟩ | ⟨e1, e2, e3⟩ <;> rcases hl o' x' q2 with ⟨f1, f2⟩ | ⟨f1, f2, f3⟩
      · rw [e1, f1]
      · subst e1; rw [hin] at q3; injection q3 with q3; subst q3
        rw [hne o' f1] at q4
        exact absurd (h3.inj o' B x' _ b f3 hB q4 k1) f2
      · subst f1; rw [hin] at q4; injection q4 with q4; subst q4
        rw [hne o e1] at q3
        exact absurd (h3.inj o B x _ b e3 hB q3 k1) e2
      · rw [hne o e1] at q3; rw [hne o' f1] at q4
        exact h3.inj o o' x x' b' e3 f3 q3 q4
    · rcases hl o x q1 with ⟨e1, e2⟩ | ⟨e1, e2, e3⟩
      · subst e1; rw [hin] at q2; injection q2 with q2; subst q2
        exact h3.ctl B _ b hB k1
      · rw [hne o e1] at q2; exact h3.ctl o x b' e3 q2
  refine ⟨v, setI ι' nx' b, M', h1, ?_, hok, fun o b' ho => hi o b' (h4 o b' ho), ⟨h5.os, h5.tape, h5.output, h5.size, h5.same, fun b' hb' ⟨o, x, q1, q2⟩ => ?_, h5.keep, h5.shape⟩, h6, h7, h8⟩
  · rw [k2]
    exact Rd.ref (w := w') (ι := setI ι' nx' b) (M := M') nx' sz 0 m c b hin k3 k4 k5 k6
  · rcases hl o x q1 with ⟨e1, e2⟩ | ⟨e1, e2, e3⟩
    · subst e1; rw [hin] at q2; injection q2 with q2; subst q2
      exact h5.back b hb' ⟨B, _, hB, k1⟩
    · rw [hne o e1] at q2; exact h5.back b' hb' ⟨o, x, e3, q2⟩
def fullR (rows : List (List D)) (sz c : Nat) : List (List D) := rows ++ List.replicate (c - rows.length) (List.replicate sz .hole)
theorem full_heap {B T sz n : Nat} {rows : List (List D)} {v : Value} (h : HeapOk w ι M H nx) (hB : H B = some ⟨some T, sz, rows⟩) (hn : rows.length = n) (hv : Rd w ι M v (.ref B sz 0 n)) :
    ∃ c, n ≤ c ∧ c ≤ maxLen ∧ (fullR rows sz c).length = c ∧ (fullR rows sz c).take n = rows ∧ (∀ r ∈ fullR rows sz c, r.length = sz) ∧ HeapOk w ι M (updO H B (some ⟨some T, sz, fullR rows sz c⟩)) nx ∧ Rd w ι M v (.refc B sz 0 n c) := by
  obtain ⟨b, c, k1, k2, k3, k4, k5, cs, T', k6, k7⟩ := ref_rd hv
  obtain ⟨b1, p1, p2⟩ := h.objs B _ hB
  rw [k1] at p1; injection p1 with p1; subst p1
  obtain ⟨T2, cs2, p3, p4⟩ := p2.blk k5
  have e1 := p4.at_
  rw [k6] at e1
  injection e1 with e1
  injection e1 with e1 e2 _
  subst e1; subst e2
  have hT := p3 T rfl
  rw [Nat.zero_add] at k7
  have hlen : (fullR rows sz c).length = c := by simp [fullR]; omega
  have huni : ∀ r ∈ fullR rows sz c, r.length = sz := by
    intro r hr
    rcases List.mem_append.1 hr with hr | hr
    · exact p4.uni r hr
    · rw [(List.mem_replicate.1 hr).2]; simp
  refine ⟨c, k3, k4, hlen, by simp [fullR, ← hn], huni, ?_, ?_⟩
  · have hblk : Blk w ι M b T' cs sz (fullR rows sz c) := by
      refine ⟨k6, k5, by rw [hlen, k7]; exact Nat.le_refl _, huni, fun i j r d hr hd => ?_, p4.one⟩
      by_cases hi : i < rows.length
      · have : rows[i]? = some r := by
          unfold fullR at hr
          rwa [List.getElem?_append_left hi] at hr
        exact p4.rd i j r d this hd
      · have hil : i < c := by have := (List.getElem?_eq_some_iff.1 hr).1; rw [hlen] at this; exact this
        have hj : j < sz := by have := (List.getElem?_eq_some_iff.1 hd).1; have := huni r (List.mem_of_getElem? hr); omega
        have hlt : i * sz + j < cs.size := by
          have : (i + 1) * sz ≤ c * sz := Nat.mul_le_mul_right _ hil
          rw [Nat.add_mul] at this; omega
        have hdh : d = .hole := by
          unfold fullR at hr
          rw [List.getElem?_append_right (by omega)] at hr
          have := List.mem_of_getElem? hr
          rw [(List.mem_replicate.1 this).2] at hd
          exact (List.mem_replicate.1 (List.mem_of_getElem? hd)).2
        rw [hdh]
        refine ⟨cs[i * sz + j], Array.getElem?_eq_getElem hlt, .hole _ (p4.one _ (by simp))⟩
    have hl : ∀ o x, updO H B (some ⟨some T, sz, fullR rows sz c⟩) o = some x → (o = B ∧ x = ⟨some T, sz, fullR rows sz c⟩) ∨ (o ≠ B ∧ H o = some x) := by
      intro o x ho
      unfold updO at ho
      split at ho
      · injection ho with ho; exact .inl ⟨by assumption, ho.symm⟩
      · exact .inr ⟨by assumption, ho⟩
    have hex : ∀ o x, updO H B (some ⟨some T, sz, fullR rows sz c⟩) o = some x → ∃ y, H o = some y := fun o x ho => by
      rcases hl o x ho with ⟨e1, _⟩ | ⟨_, e2⟩
      · exact ⟨_, e1 ▸ hB⟩
      · exact ⟨x, e2⟩
    refine ⟨h.new, fun o ob ho => ?_, fun o o' x x' b' q1 q2 => ?_, fun o x b' q1 => ?_⟩
    · rcases hl o ob ho with ⟨e1, e2⟩ | ⟨_, e2⟩
      · subst e1; subst e2
        exact ⟨b, k1, .inr ⟨T', cs, fun e he => by injection he with he; rw [← he]; exact hT, hblk⟩⟩
      · exact h.objs o ob e2
    · obtain ⟨y, hy⟩ := hex o x q1
      obtain ⟨y', hy'⟩ := hex o' x' q2
      exact h.inj o o' y y' b' hy hy'
    · obtain ⟨y, hy⟩ := hex o x q1
      exact h.ctl o y b' hy
  · rw [k2]
    exact Rd.refc _ _ _ _ _ _ k1 k3 k4 k5 ⟨cs, T', k6, by rw [Nat.zero_add]; exact k7⟩
end
end Go.Proofs.YtapdaefpkddioaaGreat.Pe
