/- A part of the proof of PmD. -/
import Derived.Test.YtapdaefpkddioaaGreatCb15
import Derived.Test.YtapdaefpkddioaaGreatCb17
import Derived.Test.YtapdaefpkddioaaGreatCb26
import Derived.Test.YtapdaefpkddioaaGreatCb28
import Derived.Test.YtapdaefpkddioaaGreatCb30
set_option linter.unusedSimpArgs false
set_option linter.unusedVariables false
set_option linter.unusedSectionVars false
namespace Go.Proofs.YtapdaefpkddioaaGreat.Pe
open Go
set_option maxHeartbeats 2000000
structure Mb where
  b : Bk
  d : D
def Mb.c (m : Mb) : List D := [.int .u64 m.b.off, .int .u64 m.b.size, .bool m.b.used, .int .i64 m.b.owner, .int .u64 m.b.len, m.d]
def rowsM (l : List Mb) : List (List D) := l.map Mb.c
theorem rowsM_len (l : List Mb) : (rowsM l).length = l.length := by simp [rowsM]
theorem rowsM_get' (l : List Mb) (i : Nat) (h : i < l.length) : (rowsM l)[i]? = some l[i].c := by simp [rowsM, h]
theorem rowsM_all (l : List Mb) : (rowsM l).all (fun r => decide (r.length = 6)) = true := by simp [rowsM, Mb.c]
theorem rowsM_app (l m : List Mb) : rowsM l ++ rowsM m = rowsM (l ++ m) := by simp [rowsM]
theorem rowsM_take (l : List Mb) (i : Nat) : (rowsM l).take i = rowsM (l.take i) := by simp [rowsM, List.map_take]
theorem rowsM_drop (l : List Mb) (i : Nat) : (rowsM l).drop i = rowsM (l.drop i) := by simp [rowsM, List.map_drop]
theorem rowsM_appL (l : List Mb) (a s : Int) (u : Bool) (o n : Int) (d : D) : rowsM l ++ [[.int .u64 a, .int .u64 s, .bool u, .int .i64 o, .int .u64 n, d]] = rowsM (l ++ [⟨⟨a, s, u, o, n⟩, d⟩]) := rowsM_app l [⟨⟨a, s, u, o, n⟩, d⟩]
theorem rowsM_setL (l : List Mb) (i : Nat) (a s : Int) (u : Bool) (o n : Int) (d : D) : (rowsM l).set i [.int .u64 a, .int .u64 s, .bool u, .int .i64 o, .int .u64 n, d] = rowsM (l.set i ⟨⟨a, s, u, o, n⟩, d⟩) := by simp [rowsM, List.map_set, Mb.c]
attribute [go_sem] rowsM_len rowsM_get' rowsM_all rowsM_app rowsM_take rowsM_drop rowsM_appL rowsM_setL Mb.c
def topR (a f bd mp : D) (live : List Bool) : List D := a :: f :: bd :: mp :: rowsO live
def topO (a f bd mp : D) (live : List Bool) : Option PObj := some ⟨none, 12, [topR a f bd mp live]⟩
def blkO (l : List Mb) : Option PObj := some ⟨some 55, 6, rowsM l⟩
attribute [go_sem] topR topO blkO
def joinStepM (out : List Mb) (m : Mb) : List Mb := match out.getLast? with
  | some c => if !c.b.used && !m.b.used then out.dropLast ++ [⟨{ c.b with size := c.b.size + m.b.size }, c.d⟩] else out ++ [m]
  | none => [m]
def joinedM (l : List Mb) : List Mb := l.foldl joinStepM []
def bks (l : List Mb) : List Bk := l.map (·.b)
theorem joinStepM_bks (out : List Mb) (m : Mb) : bks (joinStepM out m) = joinStep (bks out) m.b := by
  rcases List.eq_nil_or_concat out with rfl | ⟨ys, c, rfl⟩
  · rfl
  · simp only [List.concat_eq_append, joinStepM, joinStep, bks, List.getLast?_append, List.getLast?_singleton, List.map_append, List.map_cons, List.map_nil, Option.some_or]
    split <;> simp
theorem foldM_bks : ∀ (l out : List Mb), bks (l.foldl joinStepM out) = (bks l).foldl joinStep (bks out)
  | [], _ => rfl
  | m :: l, out => by
    simp only [List.foldl_cons, bks, List.map_cons]
    rw [show (l.foldl joinStepM (joinStepM out m)).map (·.b) = bks (l.foldl joinStepM (joinStepM out m)) from rfl, foldM_bks l, joinStepM_bks]
    rfl
theorem joinedM_bks (l : List Mb) : bks (joinedM l) = joined (bks l) := foldM_bks l []
theorem bks_len (l : List Mb) : (bks l).length = l.length := by simp [bks]
theorem bks_take (l : List Mb) (i : Nat) : bks (l.take i) = (bks l).take i := by simp [bks, List.map_take]
theorem joinedM_take (l : List Mb) (i : Nat) (h : i < l.length) : joinedM (l.take (i + 1)) = joinStepM (joinedM (l.take i)) l[i] := by
  rw [take_one l i h]; unfold joinedM; rw [List.foldl_append]; rfl
theorem joinedM_len (l : List Mb) : (joinedM l).length ≤ l.length := by
  have := joined_len (bks l)
  rw [← joinedM_bks, bks_len, bks_len] at this
  exact this
theorem joinedM_pos {l : List Mb} (h : 0 < l.length) : 0 < (joinedM l).length := by
  rw [← bks_len, joinedM_bks]
  have h1 := sizes_joined (bks l)
  cases hj : joined (bks l) with
  | nil =>
    exfalso
    have key : ∀ (l out : List Bk), 0 < out.length → 0 < (l.foldl joinStep out).length := by
      intro l
      induction l with
      | nil => intro out h; exact h
      | cons b l ih =>
        intro out h
        refine ih _ ?_
        unfold joinStep
        split
        · split <;> simp
        · simp
    cases l with
    | nil => simp at h
    | cons m l =>
      have := key (bks l) (joinStep [] m.b) (by simp [joinStep])
      have e : joined (bks (m :: l)) = (bks l).foldl joinStep (joinStep [] m.b) := rfl
      rw [← e, hj] at this
      simp at this
  | cons b l => simp
structure MOk (l : List Mb) : Prop where
  pos : 0 < l.length
  sm : l.length ≤ 50000
  bs : ∀ m ∈ l, 0 ≤ m.b.size
  sum : sizes (bks l) ≤ 2199023255552
noncomputable def Cx45 : (Nat → Prop) → Ctx := fun X => { nt := 53, tt := tt, fns := ofList [], keep := keep45, X := X, pst := fun t => t == 50 }
noncomputable def mergeF : List AD → Hp → Nat → Option (RV × Hp × Nat) := semT Tryz.f45 Cx45 Tryz.f45.results
theorem merge_ok : FnEff Tryz.prog 45 mergeF := semT_ok mixed Tryz.func45 rfl (fun X => ok_of (l := []) tt_ok trivial (noEqs _)) (fun _ => rfl) (fun _ => rfl) (by decide) rfl
theorem mergeF_eq {S B : Nat} {a f mp : D} {live : List Bool} {ml : List Mb} {H : Hp} {nx : Nat} (h8 : live.length = 8) (hS : H S = topO a f (.ref B 6 0 ml.length) mp live) (hB : H B = blkO ml) (hn : S ≠ nx) (ok : MOk ml) :
    mergeF [.one (.ptr S 12 0 0)] H nx = some (.tup [], updO (updO H nx (blkO (joinedM ml))) S (topO a f (.ref nx 6 0 (joinedM ml).length) mp live), nx + 1) := by
  obtain ⟨pos, sm, bs, sum⟩ := ok
  unfold mergeF
  rw [Tryz.results45]
  refine semT_eq rfl (by simp [Tryz.ntmps45]) fun X R hR => ?_
  unfold Cx45
  have hlo := rowsO_len live
  (repeat ((try simp only [cl_seq, cl_skip]); with_reducible refine cg fun K hK => ?_; (simp (maxSteps := 1000000) only [go_sem, Nat.reduceBEq, hS, hB, hlo, h8]); (repeat refine ck ?_); (try simp (disch := omega) only [wrap64, wrapi64]); refine hK _ ?_; clear hK K))
  (((try simp only [cl_seq, cl_skip]); refine cl_block fun K hK1 R hR1 X hX1 => ?_))
  refine cl_loop (fun E n => ∃ i : Nat, i ≤ ml.length ∧ n = ml.length - i ∧ E = mk [(1000000, .heap H nx), (11, .v (.one (.int .i64 i))), (0, .v (.one (.ptr S 12 0 0))), (2, .own 0 55 6 (rowsM (joinedM (ml.take i)))), (9, .v (.one (.ref B 6 0 ml.length))), (10, .v (.one (.int .i64 ml.length)))]) ml.length ⟨0, by omega, by omega, rfl⟩ ?_
  rintro E n ⟨i, hi, rfl, rfl⟩ J hJ R2 hR2 X2 hX2
  (repeat ((try simp only [cl_seq, cl_skip]); with_reducible refine cg fun K hK => ?_; (simp (maxSteps := 1000000) only [go_sem, Nat.reduceBEq]); (repeat refine ck ?_); (try simp (disch := omega) only [wrap64, wrapi64]); refine hK _ ?_; clear hK K))
  (((try simp only [cl_seq, cl_skip]); refine cl_cond rfl (fun hc => ?_) (fun hc => ?_)))
  · simp only [decide_eq_true_eq, Int.ofNat_lt] at hc
    have hbi := bs _ (List.getElem_mem hc)
    have hjl : (joinedM (ml.take i)).length ≤ 50000 := Nat.le_trans (joinedM_len _) (by rw [List.length_take]; omega)
    have hjs : sizes (bks (joinedM (ml.take i))) ≤ 2199023255552 := by
      rw [joinedM_bks, sizes_joined, bks_take]
      exact Int.le_trans (sizes_take (fun b h => by obtain ⟨m, h1, rfl⟩ := List.mem_map.1 h; exact bs m h1) i) sum
    have hjb : ∀ b ∈ bks (joinedM (ml.take i)), 0 ≤ b.size := by
      rw [joinedM_bks]
      refine joined_all (p := fun b => 0 ≤ b.size) (fun c b h1 h2 => by simp only; omega) (fun b h => ?_)
      obtain ⟨m, h1, rfl⟩ := List.mem_map.1 h
      exact bs m (List.mem_of_mem_take h1)
    have hstep := joinedM_take ml i hc
    generalize joinedM (ml.take i) = out at *
    (((try simp only [cl_seq, cl_skip]); refine cl_block fun K3 hK3 R hR3 X hX3 => ?_))
    have hend : ∀ E', E' 1000000 = .heap H nx → E' 0 = .v (.one (.ptr S 12 0 0)) → E' 2 = .own 0 55 6 (rowsM (joinStepM out ml[i])) → E' 9 = .v (.one (.ref B 6 0 ml.length)) → E' 10 = .v (.one (.int .i64 ml.length)) → E' 11 = .v (.one (.int .i64 i)) → K3 E' := by
      intro E' e1 e2 e3 e4 e5 e6
      refine hK3 _ ?_
      (repeat ((try simp only [cl_seq, cl_skip]); with_reducible refine cg fun K hK => ?_; (simp (maxSteps := 1000000) only [go_sem, Nat.reduceBEq, wrapi64 (n := (i : Int) + 1) (by omega) (by omega), e1, e2, e3, e4, e5, e6]); (repeat refine ck ?_); (try simp (disch := omega) only [wrap64, wrapi64]); refine hK _ ?_; clear hK K))
      ((try simp only [cl_seq, cl_skip, cl_exit, cl_nil]))
      refine hJ _ (ml.length - (i + 1)) (by omega) ⟨i + 1, by omega, rfl, ?_⟩
      rw [hstep]
      rfl
    clear hK3
    (((try simp only [cl_seq, cl_skip]); with_reducible refine cl_reg fun K hK => ?_; (simp (maxSteps := 1000000) only [go_sem, Nat.reduceBEq, hS, hB, hc]); (repeat refine ck ?_); (first | ((try simp (disch := omega) only [wrap64, wrapi64]); refine hK _ ?_; clear hK K) | skip)))
    (((try simp only [cl_seq, cl_skip]); with_reducible refine cl_reg fun K hK => ?_; (simp (maxSteps := 1000000) only [go_sem, Nat.reduceBEq, hS, hB, hc]); (repeat refine ck ?_); (first | ((try simp (disch := omega) only [wrap64, wrapi64]); refine hK _ ?_; clear hK K) | skip)))
    rcases List.eq_nil_or_concat out with rfl | ⟨ys, c, rfl⟩
    · (((try simp only [cl_seq, cl_skip]); with_reducible refine cl_reg fun K hK => ?_; (simp (maxSteps := 1000000) only [go_sem, Nat.reduceBEq, show rowsM [] = [] from rfl, Int.natCast_zero]); (repeat refine ck ?_); (first | ((try simp (disch := omega) only [wrap64, wrapi64]); refine hK _ ?_; clear hK K) | skip)))
      (((try simp only [cl_seq, cl_skip]); refine cl_cond rfl (fun hd => ?_) (fun hd => ?_)))
      · exact absurd hd (by simp)
      · (repeat ((try simp only [cl_seq, cl_skip]); with_reducible refine cg fun K hK => ?_; (simp (maxSteps := 1000000) only [go_sem, Nat.reduceBEq, show rowsM [] = [] from rfl]); (repeat refine ck ?_); (try simp (disch := omega) only [wrap64, wrapi64]); refine hK _ ?_; clear hK K))
        ((try simp only [cl_seq, cl_skip, cl_exit, cl_nil]))
        refine hend _ ?_ ?_ ?_ ?_ ?_ ?_ <;> simp [mk, joinStepM, rowsM, Mb.c]
    · simp only [List.concat_eq_append] at *
      have hyl : ys.length + 1 ≤ 50000 := by simpa using hjl
      have hw : IntKind.i64.wrap (((ys.length + 1 : Nat) : Int) - 1) = (ys.length : Int) := by
        rw [wrapi64 (by omega) (by omega)]; omega
      have hw2 : IntKind.i64.wrap (ys.length : Int) = (ys.length : Int) := wrapi64 (by omega) (by omega)
      have hgc : (rowsM (ys ++ [c]))[ys.length]? = some c.c := by simp [rowsM]
      have hcs := hjb c.b (by simp [bks])
      have hcs1 : c.b.size + ml[i].b.size < 18446744073709551616 := by
        have h1 := size_le (l := bks (ys ++ [c])) hjb (b := c.b) (by simp [bks])
        have h2 := size_le (l := bks ml) (fun b h => by obtain ⟨m, h1, rfl⟩ := List.mem_map.1 h; exact bs m h1) (b := ml[i].b) (List.mem_map.2 ⟨_, List.getElem_mem hc, rfl⟩)
        omega
      (((try simp only [cl_seq, cl_skip]); refine cl_reg_b (g := ?g115) (t := ?t115) (L := ?L115) ((!c.b.used && !ml[i].b.used)) (fun K hK => ?h1115) ?h2115; case' h1115 => (simp (maxSteps := 1000000) only [go_sem, Nat.reduceBEq, List.length_append, hw, hw2, hgc]); (repeat refine ck ?_); (repeat' (((refine ite_split (fun hb => ?_) (fun hb => ?_) <;> ((try (simp (maxSteps := 1000000) only [go_sem, hb, Nat.reduceBEq, List.length_append, hw, hw2, hgc])); (repeat refine ck ?_)))))); all_goals (first | ((try simp (disch := omega) only [wrap64, wrapi64]); refine hK _ ?_; clear hK K; first | rfl | grind | skip) | skip)))
      (((try simp only [cl_seq, cl_skip]); refine cl_cond rfl (fun hd => ?_) (fun hd => ?_)))
      · (repeat ((try simp only [cl_seq, cl_skip]); with_reducible refine cg fun K hK => ?_; (simp (maxSteps := 1000000) only [go_sem, Nat.reduceBEq, List.length_append, hw, hw2, hgc, wrap64 (n := c.b.size + ml[i].b.size) (by omega) (by omega)]); (repeat refine ck ?_); (try simp (disch := omega) only [wrap64, wrapi64]); refine hK _ ?_; clear hK K))
        ((try simp only [cl_seq, cl_skip, cl_exit, cl_nil]))
        refine hend _ rfl rfl ?_ rfl rfl rfl
        have e : joinStepM (ys ++ [c]) ml[i] = ys ++ [⟨{ c.b with size := c.b.size + ml[i].b.size }, c.d⟩] := by simp [joinStepM, hd]
        rw [e]
        simp [mk, List.set_append]
      · (repeat ((try simp only [cl_seq, cl_skip]); with_reducible refine cg fun K hK => ?_; (simp (maxSteps := 1000000) only [go_sem, Nat.reduceBEq, List.length_append]); (repeat refine ck ?_); (try simp (disch := omega) only [wrap64, wrapi64]); refine hK _ ?_; clear hK K))
        ((try simp only [cl_seq, cl_skip, cl_exit, cl_nil]))
        refine hend _ rfl rfl ?_ rfl rfl rfl
        have e : joinStepM (ys ++ [c]) ml[i] = ys ++ [c] ++ [ml[i]] := by simp [joinStepM, hd]
        rw [e]
        simp [mk]
  · simp only [decide_eq_false_iff_not, Int.ofNat_lt] at hc
    have hil : i = ml.length := by omega
    subst hil
    rw [List.take_length]
    have hjp := joinedM_pos pos
    have hne : rowsM (joinedM ml) ≠ [] := by
      intro h
      have := rowsM_len (joinedM ml)
      rw [h] at this
      simp at this; omega
    ((try simp only [cl_seq, cl_skip, cl_exit, cl_nil]))
    refine hX2 0 _ (hK1 _ ?_)
    have hu : ∀ x, updO H nx x S = topO a f (.ref B 6 0 ml.length) mp live := fun x => by rw [← hS]; simp [updO, hn]
    (repeat ((try simp only [cl_seq, cl_skip]); with_reducible refine cg fun K hK => ?_; (simp (maxSteps := 1000000) only [go_sem, Nat.reduceBEq, hne, hu, hlo, h8]); (repeat refine ck ?_); (try simp (disch := omega) only [wrap64, wrapi64]); refine hK _ ?_; clear hK K))
    (((try simp only [cl_seq, cl_skip]); (try simp only [cl_nil]); refine hR _ _ (.inl rfl) ?_; (simp (maxSteps := 1000000) only [go_sem])))
end Go.Proofs.YtapdaefpkddioaaGreat.Pe
