/- A part of the proof of PmD. -/
import Derived.Test.YtapdaefpkddioaaGreatCb17
import Derived.Test.YtapdaefpkddioaaGreatCb27
set_option linter.unusedSimpArgs false
set_option linter.unusedVariables false
set_option linter.unusedSectionVars false
namespace Go.Proofs.YtapdaefpkddioaaGreat.Pe
open Go
set_option maxHeartbeats 2000000
attribute [local irreducible] cl bits
theorem updO_same (H : Hp) (o : Nat) (a b : Option PObj) : updO (updO H o a) o b = updO H o b := by
  funext x; unfold updO; split <;> rfl
theorem updO_at (H : Hp) (o : Nat) (a : Option PObj) : updO H o a o = a := by simp [updO]
attribute [go_sem] updO_same updO_at
theorem orPutF_eq {i c a b : Int} {o nx : Nat} {H : Hp} (ho : H o = some ⟨none, 2, [[.int .u64 a, .int .u64 b]]⟩) (i0 : 0 ≤ i) (i1 : i < 16) (c0 : 0 ≤ c) (c1 : c < 256) :
    orPutF [.one (.int .i64 i), .one (.int .u8 c), .one (.ptr o 2 0 0)] H nx = some (.tup [], updO H o (some ⟨none, 2, [if i < 8 then [.int .u64 (orW a c i), .int .u64 b] else [.int .u64 a, .int .u64 (orW b c i)]]⟩), nx) := by
  simp [orPutF, ho, i0, i1, c0, c1]
def wStep (l : List Int) (w : Int × Int) (i : Nat) : Int × Int :=
  if i < 8 then (orW w.1 (l[i]?.getD 0) i, w.2) else (w.1, orW w.2 (l[i]?.getD 0) i)
def wUp (l : List Int) : Nat → Int × Int
  | 0 => (0, 0)
  | j + 1 => wStep l (wUp l j) j
def wPack (s : ByteArray) : Int × Int := if packV s then wUp (packL s) (s.size + 1) else (0, 0)
def wObj (w : Int × Int) : Option PObj := some ⟨none, 2, [[.int .u64 w.1, .int .u64 w.2]]⟩
def wpackF : List AD → Hp → Nat → Option (RV × Hp × Nat)
  | [.one (.str s)], H, nx => if s.size < 100000000 then some (.tup [.many [.int .u64 (wPack s).1, .int .u64 (wPack s).2], .one (.bool (packV s))], updO H nx (wObj (wPack s)), nx + 1) else none
  | _, _, _ => none
theorem wpack_ok : FnEff Tryz.prog 70 wpackF := by
  refine fn_eff' (f := 70) mixed Tryz.func70 rfl (fun X => { nt := 36, tt := tt, fns := ofList [(100, .eff orPutF)], keep := keep70, X := X, pub := fun t => t == 4 }) (fun X => ok_of tt_ok ⟨putc_ok, by kernel_rfl, trivial⟩ (noEqs _)) (fun _ => rfl) (fun _ => rfl) (by decide) Tryz.results70 wpackF ?_
  intro l H nx r H' nx' h
  unfold wpackF at h
  split at h
  · rename_i s
    split at h
    · rename_i hsz
      injection h with h
      injection h with h1' h
      injection h with h2 h3
      subst h2; subst h3
      refine ⟨by simp [Tryz.ntmps70], fun X R hR => ?_⟩
      (repeat ((try simp only [cl_seq, cl_skip]); with_reducible refine cg fun K hK => ?_; (simp (maxSteps := 1000000) only [go_sem, Nat.reduceBEq]); (repeat refine ck ?_); (try simp (disch := omega) only [wrap64, wrapi64]); refine hK _ ?_; clear hK K))
      by_cases hs : 1 ≤ s.size ∧ s.size ≤ 15
      · have hv : packV s = true := by simp [packV, hs]
        obtain ⟨s1, s15⟩ := hs
        (repeat ((try simp only [cl_seq, cl_skip]); with_reducible refine cg fun K hK => ?_; (simp (maxSteps := 1000000) only [go_sem, Nat.reduceBEq, show ¬ (s.size : Int) < 1 by omega, show ¬ (15 : Int) < s.size by omega]); (repeat refine ck ?_); (try simp (disch := omega) only [wrap64, wrapi64]); refine hK _ ?_; clear hK K))
        (((try simp only [cl_seq, cl_skip]); refine cl_cond (b := false) rfl (fun h => nomatch h) (fun _ => ?_)))
        have hp0 := orPutF_eq (i := 0) (c := s.size) (a := 0) (b := 0) (o := nx) (nx := nx + 1) (H := updO H nx (some ⟨none, 2, [[.int .u64 0, .int .u64 0]]⟩)) (updO_at _ _ _) (by omega) (by omega) (by omega) (by omega)
        (repeat ((try simp only [cl_seq, cl_skip]); with_reducible refine cg fun K hK => ?_; (simp (maxSteps := 1000000) only [go_sem, Nat.reduceBEq, List.size_toArray, Array.size_empty, Option.map_some, wrapu8 (n := (s.size : Int)) (by omega) (by omega), hp0]); (repeat refine ck ?_); (try simp (disch := omega) only [wrap64, wrapi64]); refine hK _ ?_; clear hK K))
        (((try simp only [cl_seq, cl_skip]); refine cl_block fun K hK1 R hR1 X hX1 => ?_))
        refine cl_loop (fun E n => ∃ j : Nat, j ≤ s.size ∧ n = s.size - j ∧ E = mk [(1000000, .heap (updO H nx (wObj (wUp (packL s) (j + 1)))) (nx + 1)), (24, .v (.one (.int .i64 j))), (0, .v (.one (.str s))), (2, .box 0 [.int .u64 0, .int .u64 0]), (4, .v (.one (.ptr nx 2 0 0))), (5, .v (.one (.clo 100 [.ptr nx 2 0 0]))), (23, .v (.one (.int .i64 s.size)))]) s.size ⟨0, by omega, by omega, ?_⟩ ?_
        · have e : wUp (packL s) (0 + 1) = (orW 0 s.size 0, 0) := rfl
          rw [e]
          rfl
        rintro E n ⟨j, hj, rfl, rfl⟩ J hJ R2 hR2 X2 hX2
        (repeat ((try simp only [cl_seq, cl_skip]); with_reducible refine cg fun K hK => ?_; (simp (maxSteps := 1000000) only [go_sem, Nat.reduceBEq]); (repeat refine ck ?_); (try simp (disch := omega) only [wrap64, wrapi64]); refine hK _ ?_; clear hK K))
        (((try simp only [cl_seq, cl_skip]); refine cl_cond rfl (fun hc => ?_) (fun hc => ?_)))
        · simp only [decide_eq_true_eq, Int.ofNat_lt] at hc
          obtain ⟨b, hb⟩ : ∃ b, s.data.toList[j]? = some b := ⟨_, List.getElem?_eq_getElem (by simpa using hc)⟩
          have hbt := b.toNat_lt
          have hpl : (packL s)[j + 1]? = some (b.toNat : Int) := by simp only [packL, List.getElem?_cons_succ, List.getElem?_map, hb]; rfl
          have hst : wUp (packL s) (j + 1 + 1) = wStep (packL s) (wUp (packL s) (j + 1)) (j + 1) := rfl
          unfold wStep at hst
          rw [hpl, Option.getD_some] at hst
          have hp := orPutF_eq (i := (j : Int) + 1) (c := b.toNat) (a := (wUp (packL s) (j + 1)).1) (b := (wUp (packL s) (j + 1)).2) (o := nx) (nx := nx + 1) (H := updO H nx (wObj (wUp (packL s) (j + 1)))) (updO_at _ _ _) (by omega) (by omega) (by omega) (by omega)
          (((try simp only [cl_seq, cl_skip]); refine cl_block fun K hK3 R hR3 X hX3 => ?_))
          (repeat ((try simp only [cl_seq, cl_skip]); with_reducible refine cg fun K hK => ?_; (simp (maxSteps := 1000000) only [go_sem, Nat.reduceBEq, Option.map_some, hb, hp, wrapi64 (n := (j : Int) + 1) (by omega) (by omega)]); (repeat refine ck ?_); (try simp (disch := omega) only [wrap64, wrapi64]); refine hK _ ?_; clear hK K))
          ((try simp only [cl_seq, cl_skip, cl_exit, cl_nil]))
          refine hK3 _ ?_
          have hob : (some ⟨none, 2, [if (j : Int) + 1 < 8 then [.int .u64 (orW (wUp (packL s) (j + 1)).1 b.toNat ((j : Int) + 1)), .int .u64 (wUp (packL s) (j + 1)).2] else [.int .u64 (wUp (packL s) (j + 1)).1, .int .u64 (orW (wUp (packL s) (j + 1)).2 b.toNat ((j : Int) + 1))]]⟩ : Option PObj) = wObj (wUp (packL s) (j + 1 + 1)) := by
            rw [hst]
            by_cases h8 : j + 1 < 8
            · rw [if_pos (by omega), if_pos h8]; rfl
            · rw [if_neg (by omega), if_neg h8]; rfl
          rw [hob]
          (repeat ((try simp only [cl_seq, cl_skip]); with_reducible refine cg fun K hK => ?_; (simp (maxSteps := 1000000) only [go_sem, Nat.reduceBEq, wrapi64 (n := (j : Int) + 1) (by omega) (by omega)]); (repeat refine ck ?_); (try simp (disch := omega) only [wrap64, wrapi64]); refine hK _ ?_; clear hK K))
          ((try simp only [cl_seq, cl_skip, cl_exit, cl_nil]))
          exact hJ _ (s.size - (j + 1)) (by omega) ⟨j + 1, by omega, rfl, rfl⟩
        · simp only [decide_eq_false_iff_not, Int.ofNat_lt] at hc
          have hjl : j = s.size := by omega
          subst hjl
          ((try simp only [cl_seq, cl_skip, cl_exit, cl_nil]))
          refine hX2 0 _ (hK1 _ ?_)
          have hw : wPack s = wUp (packL s) (s.size + 1) := by simp [wPack, hv]
          (repeat ((try simp only [cl_seq, cl_skip]); with_reducible refine cg fun K hK => ?_; (simp (maxSteps := 1000000) only [go_sem, Nat.reduceBEq, wObj]); (repeat refine ck ?_); (try simp (disch := omega) only [wrap64, wrapi64]); refine hK _ ?_; clear hK K))
          (((try simp only [cl_seq, cl_skip]); (try simp only [cl_ret]); refine hR _ _ (.inr rfl) ?_; (simp (maxSteps := 1000000) only [go_sem, wObj])))
          rw [← h1', hv, hw]
          exact ⟨rfl, rfl⟩
      · have hv : packV s = false := by unfold packV; simp; omega
        have hw : wPack s = (0, 0) := by simp [wPack, hv]
        (((try simp only [cl_seq, cl_skip]); refine cl_reg_b (g := ?g114) (t := ?t114) (L := ?L114) true (fun K hK => ?h1114) ?h2114; case' h1114 => (simp (maxSteps := 1000000) only [go_sem, Nat.reduceBEq]); (repeat refine ck ?_); (repeat' (((refine ite_split (fun hb => ?_) (fun hb => ?_) <;> ((try (simp (maxSteps := 1000000) only [go_sem, hb, Nat.reduceBEq])); (repeat refine ck ?_)))))); all_goals (first | ((try simp (disch := omega) only [wrap64, wrapi64]); refine hK _ ?_; clear hK K; first | rfl | grind | skip) | skip)))
        all_goals try (exfalso; simp at hb; omega)
        (((try simp only [cl_seq, cl_skip]); refine cl_cond (b := true) rfl (fun _ => ?_) (fun h => nomatch h)))
        (repeat ((try simp only [cl_seq, cl_skip]); with_reducible refine cg fun K hK => ?_; (simp (maxSteps := 1000000) only [go_sem, Nat.reduceBEq]); (repeat refine ck ?_); (try simp (disch := omega) only [wrap64, wrapi64]); refine hK _ ?_; clear hK K))
        (((try simp only [cl_seq, cl_skip]); (try simp only [cl_ret]); refine hR _ _ (.inr rfl) ?_; (simp (maxSteps := 1000000) only [go_sem])))
        rw [← h1', hv, hw]
        exact ⟨rfl, rfl⟩
    · cases h
  · cases h
end Go.Proofs.YtapdaefpkddioaaGreat.Pe
namespace Go.Proofs.YtapdaefpkddioaaGreat.Pe
open Go
set_option maxHeartbeats 2000000
def zRow : List D := [.int .u64 0, .int .u64 0, .bool false, .int .i64 0, .int .u64 0, .sl []]
def Cx78 : (Nat → Prop) → Ctx := fun X => { nt := 95, tt := tt, fns := ofList [(121, .ext overF)], keep := keep94, X := X }
noncomputable def insT : List AD → Hp → Nat → Option (RV × Hp × Nat) := semT Tryz.f94 Cx78 Tryz.f94.results
theorem insT_ok : FnEff Tryz.prog 94 insT := semT_ok mixed Tryz.func94 rfl (fun X => ok_of (l := [(121, .ext overF)]) tt_ok ⟨over_ok, by kernel_rfl, trivial⟩ (noEqs _)) (fun _ => rfl) (fun _ => rfl) (by decide) rfl
theorem all6 {F : List (List D)} (h : ∀ r ∈ F, r.length = 6) (a b : Nat) : ((F.drop a).take b).all (fun r => decide (r.length = 6)) = true := by
  rw [List.all_eq_true]
  intro r hr
  simpa using h r (List.mem_of_mem_drop (List.mem_of_mem_take hr))
theorem insT_end {B n c nx : Nat} {F : List (List D)} {y : List D} {H : Hp} (hB : H B = some ⟨some 55, 6, F⟩) (hl : F.length = c) (hn : n ≤ c) (sm : n ≤ 100000) (hy : y.length = 6) :
    insT [.one (.refc B 6 0 n c), .one (.int .i64 n), .one (.sl [y])] H nx = some (.a (.one (.ref nx 6 0 (n + 1))), updO (updO H B none) nx (some ⟨some 55, 6, F.take n ++ [y]⟩), nx + 1) := by
  unfold insT
  rw [Tryz.results94]
  refine semT_eq rfl (by simp [Tryz.ntmps94]) fun X R hR => ?_
  unfold Cx78
  by_cases hnc : (n : Int) = c
  all_goals
    (repeat ((try simp only [cl_seq, cl_skip]); with_reducible refine cg fun K hK => ?_; (simp (maxSteps := 1000000) only [go_sem, hB, hl, hnc, hy]); (repeat refine ck ?_); (try simp (disch := omega) only [wrap64, wrapi64]); refine hK _ ?_; clear hK K))
    (((try simp only [cl_seq, cl_skip]); refine cl_cond (b := false) rfl (fun h => nomatch h) (fun _ => ?_)))
    (repeat ((try simp only [cl_seq, cl_skip]); with_reducible refine cg fun K hK => ?_; (simp (maxSteps := 1000000) only [go_sem, hB, hl, hnc, hy]); (repeat refine ck ?_); (try simp (disch := omega) only [wrap64, wrapi64]); refine hK _ ?_; clear hK K))
    (((try simp only [cl_seq, cl_skip]); refine cl_cond rfl (fun hd => ?_) (fun hd => ?_)))
    · (repeat ((try simp only [cl_seq, cl_skip]); with_reducible refine cg fun K hK => ?_; (simp (maxSteps := 1000000) only [go_sem, hB, hl, hnc, hy, show n ≤ F.length by omega, show min n c = n by omega]); (repeat refine ck ?_); (try simp (disch := omega) only [wrap64, wrapi64]); refine hK _ ?_; clear hK K))
      (((try simp only [cl_seq, cl_skip]); (try simp only [cl_ret]); refine hR _ _ (.inr rfl) ?_; (simp (maxSteps := 1000000) only [go_sem])))
    · exact absurd hd (by simp)
theorem insT_room {B n c nx i : Nat} {F : List (List D)} {y : List D} {H : Hp} (hB : H B = some ⟨some 55, 6, F⟩) (hl : F.length = c) (hn : n + 1 ≤ c) (hi : i < n) (sm : n ≤ 100000) (hy : y.length = 6) (hu : ∀ r ∈ F, r.length = 6) :
    ∃ R, insT [.one (.refc B 6 0 n c), .one (.int .i64 i), .one (.sl [y])] H nx = some (.a (.one (.refc B 6 0 (n + 1) c)), updO H B (some ⟨some 55, 6, R⟩), nx) ∧ n + 1 ≤ R.length ∧ R.take (n + 1) = F.take i ++ ([y] ++ (F.take n).drop i) := by
  have hA := all6 hu
  have hov : ∀ nx, overF [.one (.sl [y]), .one (.refc B 6 (i + 1) (n + 1 - (i + 1)) (c - (i + 1)))] H nx = some (.a (.one (.bool false))) := fun nx => by simp [overF, hB]
  refine ⟨?R, ?h1, ?h2⟩
  case h1 =>
    unfold insT
    rw [Tryz.results94]
    refine semT_eq rfl (by simp [Tryz.ntmps94]) fun X R hR => ?_
    unfold Cx78
    (repeat ((try simp only [cl_seq, cl_skip]); with_reducible refine cg fun K hK => ?_; (simp (maxSteps := 1000000) only [go_sem, hB, hl, hy, show ¬ (i : Int) = c by omega]); (repeat refine ck ?_); (try simp (disch := omega) only [wrap64, wrapi64]); refine hK _ ?_; clear hK K))
    (((try simp only [cl_seq, cl_skip]); refine cl_cond (b := false) rfl (fun h => nomatch h) (fun _ => ?_)))
    (repeat ((try simp only [cl_seq, cl_skip]); with_reducible refine cg fun K hK => ?_; (simp (maxSteps := 1000000) only [go_sem, hB, hl, hy]); (repeat refine ck ?_); (try simp (disch := omega) only [wrap64, wrapi64]); refine hK _ ?_; clear hK K))
    (((try simp only [cl_seq, cl_skip]); refine cl_cond rfl (fun hd => ?_) (fun hd => ?_)))
    · exact absurd hd (by simp; omega)
    (repeat ((try simp only [cl_seq, cl_skip]); with_reducible refine cg fun K hK => ?_; (simp (maxSteps := 1000000) only [go_sem, hB, hl, hy, wrapi64 (n := (n : Int) + 1) (by omega) (by omega)]); (repeat refine ck ?_); (try simp (disch := omega) only [wrap64, wrapi64]); refine hK _ ?_; clear hK K))
    (((try simp only [cl_seq, cl_skip]); refine cl_cond rfl (fun hd2 => ?_) (fun hd2 => ?_)))
    · exact absurd hd2 (by simp; omega)
    (repeat ((try simp only [cl_seq, cl_skip]); with_reducible refine cg fun K hK => ?_; (simp (maxSteps := 1000000) only [go_sem, hB, hl, hy, hA, wrapi64 (n := (n : Int) + 1) (by omega) (by omega), wrapi64 (n := (i : Int) + 1) (by omega) (by omega), show ((1 : Nat) : Int) = 1 from rfl, show ((n : Int) + 1).toNat = n + 1 by omega, show ((i : Int) + 1).toNat = i + 1 by omega, show ¬ (0 : Int) = c by omega, show ¬ (i : Int) + 1 = c by omega, hov]); (repeat refine ck ?_); (try simp (disch := omega) only [wrap64, wrapi64]); refine hK _ ?_; clear hK K))
    (((try simp only [cl_seq, cl_skip]); refine cl_cond (b := true) rfl (fun _ => ?_) (fun h => nomatch h)))
    (repeat ((try simp only [cl_seq, cl_skip]); with_reducible refine cg fun K hK => ?_; (simp (maxSteps := 1000000) only [go_sem, hB, hl, hy, hA, wrapi64 (n := (n : Int) + 1) (by omega) (by omega), wrapi64 (n := (i : Int) + 1) (by omega) (by omega), show ((1 : Nat) : Int) = 1 from rfl, show ((n : Int) + 1).toNat = n + 1 by omega, show ((i : Int) + 1).toNat = i + 1 by omega, show ¬ (0 : Int) = c by omega, show ¬ (i : Int) + 1 = c by omega, show ¬ (i : Int) = c by omega, overRows]); (repeat refine ck ?_); (try simp (disch := omega) only [wrap64, wrapi64]); refine hK _ ?_; clear hK K))
    (((try simp only [cl_seq, cl_skip]); (try simp only [cl_ret]); refine hR _ _ (.inr rfl) ?_; (simp (maxSteps := 1000000) only [go_sem])))
    exact rfl
  case h2 =>
    have e1 : min (n + 1 - i) 1 = 1 := by omega
    have e2 : List.take (n + 1 - i) [y] = [y] := List.take_of_length_le (by simp; omega)
    have e3 : min (n + 1 - (i + 1)) (min (n + 1 - i) (c - i)) = n - i := by omega
    rw [e1, e2, e3]
    refine ⟨by simp; omega, ?_⟩
    apply List.ext_getElem?
    intro k
    simp only [List.getElem?_append, List.getElem?_take, List.getElem?_drop, List.length_append, List.length_take, List.length_drop, List.length_cons, List.length_nil, hl]
    repeat' split
    all_goals first | rfl | omega | (congr 1; omega) | (exfalso; omega) | skip
theorem insT_grow {B n c nx i : Nat} {F : List (List D)} {y : List D} {H : Hp} (hB : H B = some ⟨some 55, 6, F⟩) (hl : F.length = c) (hn : n ≤ c) (hc : c < n + 1) (hi : i < n) (sm : n ≤ 100000) (hy : y.length = 6) (hu : ∀ r ∈ F, r.length = 6) (hBn : B ≠ nx) :
    insT [.one (.refc B 6 0 n c), .one (.int .i64 i), .one (.sl [y])] H nx = some (.a (.one (.ref nx 6 0 (n + 1))), updO H nx (some ⟨some 55, 6, F.take i ++ ([y] ++ (F.take n).drop i)⟩), nx + 1) := by
  have hA := all6 hu
  have hB' : ∀ x, updO H nx x B = some ⟨some 55, 6, F⟩ := fun x => by rw [← hB]; simp [updO, hBn]
  have hAn : ∀ x, updO H nx x nx = x := fun x => by simp [updO]
  unfold insT
  rw [Tryz.results94]
  refine semT_eq rfl (by simp [Tryz.ntmps94]) fun X R hR => ?_
  unfold Cx78
  (repeat ((try simp only [cl_seq, cl_skip]); with_reducible refine cg fun K hK => ?_; (simp (maxSteps := 1000000) only [go_sem, hB, hl, hy, show ¬ (i : Int) = c by omega]); (repeat refine ck ?_); (try simp (disch := omega) only [wrap64, wrapi64]); refine hK _ ?_; clear hK K))
  (((try simp only [cl_seq, cl_skip]); refine cl_cond (b := false) rfl (fun h => nomatch h) (fun _ => ?_)))
  (repeat ((try simp only [cl_seq, cl_skip]); with_reducible refine cg fun K hK => ?_; (simp (maxSteps := 1000000) only [go_sem, hB, hl, hy]); (repeat refine ck ?_); (try simp (disch := omega) only [wrap64, wrapi64]); refine hK _ ?_; clear hK K))
  (((try simp only [cl_seq, cl_skip]); refine cl_cond rfl (fun hd => ?_) (fun hd => ?_)))
  · exact absurd hd (by simp; omega)
  (repeat ((try simp only [cl_seq, cl_skip]); with_reducible refine cg fun K hK => ?_; (simp (maxSteps := 1000000) only [go_sem, hB, hl, hy, show ((1 : Nat) : Int) = 1 from rfl, wrapi64 (n := (n : Int) + 1) (by omega) (by omega)]); (repeat refine ck ?_); (try simp (disch := omega) only [wrap64, wrapi64]); refine hK _ ?_; clear hK K))
  (((try simp only [cl_seq, cl_skip]); refine cl_cond rfl (fun hd2 => ?_) (fun hd2 => ?_)))
  · (repeat ((try simp only [cl_seq, cl_skip]); with_reducible refine cg fun K hK => ?_; (simp (maxSteps := 1000000) only [go_sem, hB, hB', hl, hy, hA, show ((1 : Nat) : Int) = 1 from rfl, wrapi64 (n := (n : Int) + 1) (by omega) (by omega), wrapi64 (n := (n : Int) + 1 - i) (by omega) (by omega), wrapi64 (n := (i : Int) + 1) (by omega) (by omega), show ((n : Int) + 1 - i).toNat = n + 1 - i by omega, show ((i : Int) + 1).toNat = i + 1 by omega, show ¬ (0 : Int) = c by omega, show ¬ (i : Int) = c by omega, overRows]); (repeat refine ck ?_); (try simp (disch := omega) only [wrap64, wrapi64]); refine hK _ ?_; clear hK K))
    (((try simp only [cl_seq, cl_skip]); (try simp only [cl_ret]); refine hR _ _ (.inr rfl) ?_; (simp (maxSteps := 1000000) only [go_sem])))
    have e2 : List.take (i + (n + 1 - i) - i) [y] = [y] := List.take_of_length_le (by simp; omega)
    rw [e2]
    refine ⟨by rw [show i + (n + 1 - i) = n + 1 by omega], ?_⟩
    refine congrArg (fun r => AV.heap (updO H nx (some ⟨some 55, 6, r⟩)) (nx + 1)) ?_
    apply List.ext_getElem?
    intro k
    simp only [List.getElem?_cons, List.getElem?_nil, List.getElem?_replicate, List.getElem?_append, List.getElem?_take, List.getElem?_drop, List.length_append, List.length_take, List.length_drop, List.length_cons, List.length_nil, List.length_replicate, hl]
    repeat' split
    all_goals first | rfl | omega | (congr 1; omega) | (exfalso; omega) | (symm; exact List.getElem?_eq_none (by omega)) | (exact List.getElem?_eq_none (by omega)) | trace_state
  · exact absurd hd2 (by simp; omega)
def insertF : List AD → Hp → Nat → Option (RV × Hp × Nat)
  | [.one (.ref B 6 0 n), .one (.int .i64 i), .one (.sl ys)], H, nx => match H B with
    | some ⟨some 55, 6, rows⟩ => if rows.length = n ∧ 0 < n ∧ 0 ≤ i ∧ i ≤ n ∧ n ≤ 100000 ∧ ys.length = 1 ∧ ys.all (fun r => decide (r.length = 6)) = true ∧ (H nx).isNone = true ∧ B ≠ nx then
        some (.a (.one (.ref nx 6 0 (n + 1))), updO (updO H B none) nx (some ⟨some 55, 6, rows.take i.toNat ++ (ys ++ rows.drop i.toNat)⟩), nx + 1) else none
    | _ => none
  | _, _, _ => none
theorem insert_ok : FnEff Tryz.prog 94 insertF := by
  intro ads H nx r H' nx' hF w ι M vals hM hok hl hargs
  unfold insertF at hF
  split at hF
  · rename_i B n i ys
    split at hF
    · rename_i rows hB
      split at hF
      · rename_i hh
        obtain ⟨hn, h0, i0, i1, sm, hy1, hyl, hfr, hBn⟩ := hh
        injection hF with hF
        injection hF with hr hF
        injection hF with hH hnx
        subst hr; subst hH; subst hnx
        obtain ⟨y, rfl⟩ : ∃ y, ys = [y] := List.length_eq_one_iff.1 hy1
        have hy : y.length = 6 := by simpa using hyl
        obtain ⟨k, rfl⟩ : ∃ k : Nat, i = k := ⟨i.toNat, by omega⟩
        simp only [Int.toNat_natCast]
        have h3 : vals.size = 3 := hl
        have hv0 : Rd w ι M vals[0] (.ref B 6 0 n) := hargs 0 _ _ (Array.getElem?_eq_getElem (by omega)) rfl
        obtain ⟨c, c1, c2, c3, c4, c5, c6, c7⟩ := full_heap hok hB hn hv0
        have hargs2 : ∀ (j : Nat) v a, vals[j]? = some v → [AD.one (.refc B 6 0 n c), .one (.int .i64 k), .one (.sl [y])][j]? = some a → RdA w ι M v a := by
          intro j v a hv ha
          match j with
          | 0 =>
            rw [Array.getElem?_eq_getElem (by omega)] at hv
            simp at hv ha
            subst ha; subst hv
            exact c7
          | j + 1 => exact hargs (j + 1) v a hv ha
        have hdom : ∀ o, (∃ x, updO H B (some ⟨some 55, 6, fullR rows 6 c⟩) o = some x) ↔ ∃ x, H o = some x := by
          intro o
          unfold updO
          split
          · rename_i e; subst e; exact ⟨fun _ => ⟨_, hB⟩, fun _ => ⟨_, rfl⟩⟩
          · exact Iff.rfl
        have hH1 : updO H B (some ⟨some 55, 6, fullR rows 6 c⟩) B = some ⟨some 55, 6, fullR rows 6 c⟩ := by simp [updO]
        have hfn : H nx = none := by simpa using hfr
        generalize hFd : fullR rows 6 c = F at *
        have hdd : (F.take n).drop k = rows.drop k := by rw [c4]
        have htt : F.take k = rows.take k := by rw [← c4, List.take_take, Nat.min_eq_left (by omega)]
        by_cases hk : k = n
        · subst hk
          have he := insT_end (nx := nx) hH1 c3 c1 sm hy
          refine (insT_ok _ _ _ _ _ _ he w ι M vals hM c6 (by simp [h3]) hargs2).mono fun e w' hp => ?_
          have hp : EffPost w ι M _ _ _ _ e w' := hp
          have e1 : updO (updO (updO H B (some ⟨some 55, 6, F⟩)) B none) nx (some ⟨some 55, 6, F.take k ++ [y]⟩) = updO (updO H B none) nx (some ⟨some 55, 6, rows.take k ++ ([y] ++ rows.drop k)⟩) := by
            rw [updO_same, c4, ← hn, List.take_length, List.drop_length, List.append_nil]
          rw [e1] at hp
          exact hp.dom hdom
        · by_cases hc : c < n + 1
          · have he := insT_grow (nx := nx) hH1 c3 c1 hc (show k < n by omega) sm hy c5 hBn
            refine (insT_ok _ _ _ _ _ _ he w ι M vals hM c6 (by simp [h3]) hargs2).mono fun e w' hp => ?_
            have hp : EffPost w ι M _ _ _ _ e w' := hp
            rw [htt, hdd] at hp
            refine (hp.dom hdom).drop fun o x ho => ?_
            unfold updO at ho ⊢
            split at ho
            · rename_i e; rw [if_pos e]; exact ho
            · rename_i e
              rw [if_neg e]
              split at ho
              · cases ho
              · rename_i e2; rw [if_neg e2]; exact ho
          · obtain ⟨R, he, hRl, hRt⟩ := insT_room (nx := nx) hH1 c3 (by omega) (show k < n by omega) sm hy c5
            refine (insT_ok _ _ _ _ _ _ he w ι M vals hM c6 (by simp [h3]) hargs2).mono fun e w' hp => ?_
            have hp : EffPost w ι M _ _ _ _ e w' := hp
            have := (hp.dom hdom).rename (T := 55) (R := R) (by simp [updO]) hRl
            rw [updO_same, updO_same, hRt, htt, hdd] at this
            exact this
      · cases hF
    · cases hF
  · cases hF
theorem insert_c : cok Tryz.prog 94 (.eff insertF) = true := by kernel_rfl
end Go.Proofs.YtapdaefpkddioaaGreat.Pe
