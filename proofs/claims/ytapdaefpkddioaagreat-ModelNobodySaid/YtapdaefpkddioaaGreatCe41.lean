/- A part of the proof of PmD. -/
import Derived.Test.YtapdaefpkddioaaGreatCb39
import Derived.Test.YtapdaefpkddioaaGreatCe40
import Derived.Test.YtapdaefpkddioaaGreatCe39
set_option linter.unusedSimpArgs false
set_option linter.unusedVariables false
set_option linter.unusedSectionVars false
namespace Go.Proofs.YtapdaefpkddioaaGreat.Pe
open Go
set_option maxHeartbeats 2000000
def kf (c : Int) (m : Mb) : Mb := if (m.b.used && m.b.owner == c + 1) = true then freeM m else m
noncomputable def Cx16 : (Nat → Prop) → Ctx := fun X => { nt := 54, tt := tt, fns := ofList [(45, .eff mergeF)], keep := keep13, X := X, eqs := fun t => t == 25 || t == 46 }
noncomputable def killMF : List AD → Hp → Nat → Option (RV × Hp × Nat) := semT Tryz.f13 Cx16 Tryz.f13.results
theorem killM_ok : FnEff Tryz.prog 13 killMF := semT_ok mixed Tryz.func13 rfl (fun X => ok_of (l := [(45, .eff mergeF)]) tt_ok ⟨merge_ok, by kernel_rfl, trivial⟩ eqsOk) (fun _ => rfl) (fun _ => rfl) (by decide) rfl
section
variable {K : Nat} {s : St} {S B M : Nat} {ml : List Mb} {H : Hp} {nx : Nat} {c : Int}
theorem kill_bad (h : Ms K s S B M ml H nx) (hc : c < 0 ∨ 7 < c) : killMF [.one (.ptr S 12 0 0), .one (.int .i64 c)] H nx = some (.tup [], H, nx) := by
 unfold killMF
 rw [Tryz.results13]
 refine semT_eq rfl (by simp [Tryz.ntmps13]) fun X R hR => ?_
 unfold Cx16 at hR ⊢
 (((try simp only [cZ]); refine cl_reg_b (g := ?g128) (t := ?t128) (L := ?L128) ((decide (c < 0) || decide (8 ≤ c))) (fun K hK => ?h1128) ?h2128; case' h1128 => simp only [go_sem, Nat.reduceBEq, Bool.or_false, Bool.or_true, ge_iff_le]; (repeat refine ck ?_); (repeat' (((refine ite_split (fun hb => ?_) (fun hb => ?_) <;> ((try (simp only [go_sem, hb, Nat.reduceBEq, Bool.or_false, Bool.or_true, ge_iff_le])); (repeat refine ck ?_)))))); all_goals (first | ((try simp (disch := omega) only [wZ]); refine hK _ ?_; clear hK K; first | rfl | grind | skip) | skip)))
 all_goals try (simp only [*, Bool.false_or, Bool.true_or, Bool.or_true]; done)
 (((try simp only [cZ]); refine cl_cond rfl (fun g => ?_) (fun g => ?_)))
 ·(((try simp only [cZ]); (try simp only [cl_ret]); refine hR _ _ (.inr rfl) ?_; (simp only [go_sem])))
 ·exfalso; simp at g; omega
theorem kill_hs (h : Ms K s S B M ml H nx) {k : Nat} (hk : k < 8) : ∃ B' H' nx', killMF [.one (.ptr S 12 0 0), .one (.int .i64 k)] H nx = some (.tup [], H', nx') ∧ Hs S B' (.int .u64 s.all) (.int .u64 s.h.fin) (.mp M) (s.live.set k false) (joinedM (ml.map (kf k))) H' nx' ∧ Stp S B H nx B' H' nx' := by
 have h8 := h.wk.lv8
 have hkl : k < s.live.length := by omega
 have hlo := rowsO_len s.live
 have hlo2 := rowsO_len (s.live.set k false)
 have hl0 := h.setLive k false
 have hS := h.hs.top
 have hS0 := hl0.hs.top
 have hB0 := hl0.hs.bl
 have st0 : Stp S B H nx B (updO H S (topO (.int .u64 s.all) (.int .u64 s.h.fin) (.ref B 6 0 ml.length) (.mp M) (s.live.set k false))) nx := ⟨Nat.le_refl _, .inl rfl, fun o _ h1 _ => updO_ne h1⟩
 obtain ⟨hs1, st1⟩ := set_hs hl0.hs (ml.map (kf k)) (by simp)
 have hkb : ∀ m : Mb, (kf k m).b.size = m.b.size := fun m => by unfold kf; split <;> rfl
 have okm : MOk (ml.map (kf k)) := by
  have m := h.mok
  refine ⟨by simpa using m.pos, by simpa using m.sm, fun x hx => ?_, ?_⟩
  ·obtain ⟨y, hy, rfl⟩ := List.mem_map.1 hx
   rw [hkb]; exact m.bs y hy
  ·have e : (bks (ml.map (kf k))).map (·.size) = (bks ml).map (·.size) := by
    simp only [bks, List.map_map]
    exact List.map_congr_left fun x _ => hkb x
   have := m.sum
   unfold sizes at this ⊢
   rw [e]; exact this
 obtain ⟨B', H', nx', he, hs2, st2⟩ := merge_hs (by simp [h8]) hs1 okm
 refine ⟨B', H', nx', ?_, hs2, (st0.trans st1).trans st2⟩
 unfold killMF
 rw [Tryz.results13]
 refine semT_eq rfl (by simp [Tryz.ntmps13]) fun X R hR => ?_
 unfold Cx16 at hR ⊢
 generalize hH0 : updO H S (topO (.int .u64 s.all) (.int .u64 s.h.fin) (.ref B 6 0 ml.length) (.mp M) (s.live.set k false)) = H0 at *
 simp only [topO, topR] at hH0
 have hsB := h.hs.ne
 have hB00 : ∀ L, updO H0 B (blkO L) B = blkO L := fun L => updO_at _ _ _
 have hSS : ∀ L, updO H0 B (blkO L) S = topO (.int .u64 s.all) (.int .u64 s.h.fin) (.ref B 6 0 ml.length) (.mp M) (s.live.set k false) := fun L => by rw [updO_ne hsB]; exact hS0
 (repeat ((try simp only [cZ]); with_reducible refine cg fun K hK => ?_; simp only [go_sem, Nat.reduceBEq, Bool.or_false, Bool.or_true, ge_iff_le, show decide ((k : Int) < 0) = false by simp, show decide (8 ≤ (k : Int)) = false by simp; omega]; (repeat refine ck ?_); (try simp (disch := omega) only [wZ]); refine hK _ ?_; clear hK K))
 (((try simp only [cZ]); refine cl_cond (b := false) rfl (fun h => nomatch h) (fun _ => ?_)))
 (repeat ((try simp only [cZ]); with_reducible refine cg fun K hK => ?_; simp only [go_sem, Nat.reduceBEq, Bool.or_false, Bool.or_true, hS, hlo, h8, topR_wr' _ _ _ _ _ _ _ hkl, topR_wr _ _ _ _ _ _ _ hkl, hH0, hS0, hlo2, List.length_set]; (repeat refine ck ?_); (try simp (disch := omega) only [wZ]); refine hK _ ?_; clear hK K))
 (((try simp only [cZ]); refine cl_block fun K hK1 R hR1 X hX1 => ?_))
 have hsame0 : updO H0 B (blkO ((ml.take 0).map (kf k) ++ ml.drop 0)) = H0 := by
  funext t
  unfold updO
  split
  ·rename_i e; subst e; simp [hB0]
  ·rfl
 refine cl_loop (fun E n => ∃ i : Nat, i ≤ ml.length ∧ n = ml.length - i ∧ E = mk [(1000000, .heap (updO H0 B (blkO ((ml.take i).map (kf k) ++ ml.drop i))) nx), (26, .v (.one (.int .i64 i))), (0, .v (.one (.ptr S 12 0 0))), (1, .v (.one (.int .i64 k))), (24, .v (.one (.ref B 6 0 ml.length))), (25, .v (.one (.int .i64 ml.length)))]) ml.length ⟨0, by omega, by omega, by rw [hsame0]; rfl⟩ ?_
 rintro E n ⟨i, hi, rfl, rfl⟩ J hJ R2 hR2 X2 hX2
 (repeat ((try simp only [cZ]); with_reducible refine cg fun K hK => ?_; simp only [go_sem, Nat.reduceBEq, Bool.or_false, Bool.or_true]; (repeat refine ck ?_); (try simp (disch := omega) only [wZ]); refine hK _ ?_; clear hK K))
 (((try simp only [cZ]); refine cl_cond rfl (fun hc => ?_) (fun hc => ?_)))
 ·simp only [decide_eq_true_eq, Int.ofNat_lt] at hc
  have hlm := h.len
  have hnext : (ml.take (i + 1)).map (kf k) ++ ml.drop (i + 1) = ((ml.take i).map (kf k) ++ ml.drop i).set i (kf k ml[i]) := by
   rw [take_one ml i hc, List.map_append, List.append_assoc, List.set_append, if_neg (by simp; omega)]
   simp only [List.length_map, List.length_take, Nat.min_eq_left hi, Nat.sub_self, List.map_cons, List.map_nil]
   rw [List.drop_eq_getElem_cons hc]
   rfl
  have hLl : ((ml.take i).map (kf k) ++ ml.drop i).length = ml.length := by simp; omega
  have hLi : (rowsM ((ml.take i).map (kf k) ++ ml.drop i))[i]? = some ml[i].c := by
   unfold rowsM
   rw [List.getElem?_map, List.getElem?_append_right (by simp; omega)]
   simp only [List.length_map, List.length_take, Nat.min_eq_left hi, Nat.sub_self, List.getElem?_drop, Nat.add_zero]
   rw [List.getElem?_eq_getElem hc]; rfl
  generalize hLd : (ml.take i).map (kf k) ++ ml.drop i = L at *
  have hBL := hB00 L
  have hSL := hSS L
  simp only [blkO, topO, topR] at hSL
  (((try simp only [cZ]); refine cl_block fun K hK3 R hR3 X hX3 => ?_))
  cases hu : ml[i].b.used with
  | false =>
   have hw : True := trivial
   (repeat ((try simp only [cZ]); with_reducible refine cg fun K hK => ?_; simp only [go_sem, Nat.reduceBEq, Bool.or_false, Bool.or_true, hBL, hLi, wrapi64 (n := (k : Int) + 1) (by omega) (by omega), hu]; (repeat refine ck ?_); (try simp (disch := omega) only [wZ]); refine hK _ ?_; clear hK K))
   (((try simp only [cZ]); refine cl_cond (b := false) rfl (fun h => nomatch h) (fun _ => ?_)))
   have hkf : kf k ml[i] = ml[i] := by unfold kf; simp [hu, hw]
   have hset : L.set i ml[i] = L := by
    apply List.ext_getElem?
    intro j
    rw [List.getElem?_set]
    split
    ·rename_i e; subst e
     rw [← hLd, List.getElem?_append_right (by simp; omega)]
     simp only [List.length_map, List.length_take, Nat.min_eq_left hi, Nat.sub_self, List.getElem?_drop, Nat.add_zero]
     split
     ·rw [List.getElem?_eq_getElem hc]
     ·rename_i hh; exfalso; apply hh; simp; omega
    ·rfl
   rw [hkf, hset] at hnext
   ((try simp only [cZ, cl_exit, cl_nil]))
   refine hK3 _ ?_
   (repeat ((try simp only [cZ]); with_reducible refine cg fun K hK => ?_; simp only [go_sem, Nat.reduceBEq, Bool.or_false, Bool.or_true, wrapi64 (n := (i : Int) + 1) (by omega) (by omega)]; (repeat refine ck ?_); (try simp (disch := omega) only [wZ]); refine hK _ ?_; clear hK K))
   ((try simp only [cZ, cl_exit, cl_nil]))
   refine hJ _ (ml.length - (i + 1)) (by omega) ⟨i + 1, by omega, rfl, ?_⟩
   rw [hnext]
   rfl
  | true =>
   by_cases how : ml[i].b.owner = (k : Int) + 1
   ·(repeat ((try simp only [cZ]); with_reducible refine cg fun K hK => ?_; simp only [go_sem, Nat.reduceBEq, Bool.or_false, Bool.or_true, hBL, hLi, wrapi64 (n := (k : Int) + 1) (by omega) (by omega), hu, how, beq_self_eq_true]; (repeat refine ck ?_); (try simp (disch := omega) only [wZ]); refine hK _ ?_; clear hK K))
    (((try simp only [cZ]); refine cl_cond (b := true) rfl (fun _ => ?_) (fun h => nomatch h)))
    have hkf : kf k ml[i] = freeM ml[i] := by unfold kf; simp [hu, how]
    rw [hkf] at hnext
    (repeat ((try simp only [cZ]); with_reducible refine cg fun K hK => ?_; simp only [go_sem, Nat.reduceBEq, Bool.or_false, Bool.or_true, hBL, hSL, hLi, hu, hlo2, h8, List.length_set, updO_same]; (repeat refine ck ?_); (try simp (disch := omega) only [wZ]); refine hK _ ?_; clear hK K))
    ((try simp only [cZ, cl_exit, cl_nil]))
    refine hK3 _ ?_
    (repeat ((try simp only [cZ]); with_reducible refine cg fun K hK => ?_; simp only [go_sem, Nat.reduceBEq, Bool.or_false, Bool.or_true, wrapi64 (n := (i : Int) + 1) (by omega) (by omega)]; (repeat refine ck ?_); (try simp (disch := omega) only [wZ]); refine hK _ ?_; clear hK K))
    ((try simp only [cZ, cl_exit, cl_nil]))
    refine hJ _ (ml.length - (i + 1)) (by omega) ⟨i + 1, by omega, rfl, ?_⟩
    rw [hnext]
    rfl
   ·have hw : (ml[i].b.owner == (k : Int) + 1) = false := by simpa using how
    (repeat ((try simp only [cZ]); with_reducible refine cg fun K hK => ?_; simp only [go_sem, Nat.reduceBEq, Bool.or_false, Bool.or_true, hBL, hLi, wrapi64 (n := (k : Int) + 1) (by omega) (by omega), hu, hw]; (repeat refine ck ?_); (try simp (disch := omega) only [wZ]); refine hK _ ?_; clear hK K))
    (((try simp only [cZ]); refine cl_cond (b := false) rfl (fun h => nomatch h) (fun _ => ?_)))
    have hkf : kf k ml[i] = ml[i] := by unfold kf; simp [hu, hw]
    have hset : L.set i ml[i] = L := by
     apply List.ext_getElem?
     intro j
     rw [List.getElem?_set]
     split
     ·rename_i e; subst e
      rw [← hLd, List.getElem?_append_right (by simp; omega)]
      simp only [List.length_map, List.length_take, Nat.min_eq_left hi, Nat.sub_self, List.getElem?_drop, Nat.add_zero]
      split
      ·rw [List.getElem?_eq_getElem hc]
      ·rename_i hh; exfalso; apply hh; simp; omega
     ·rfl
    rw [hkf, hset] at hnext
    ((try simp only [cZ, cl_exit, cl_nil]))
    refine hK3 _ ?_
    (repeat ((try simp only [cZ]); with_reducible refine cg fun K hK => ?_; simp only [go_sem, Nat.reduceBEq, Bool.or_false, Bool.or_true, wrapi64 (n := (i : Int) + 1) (by omega) (by omega)]; (repeat refine ck ?_); (try simp (disch := omega) only [wZ]); refine hK _ ?_; clear hK K))
    ((try simp only [cZ, cl_exit, cl_nil]))
    refine hJ _ (ml.length - (i + 1)) (by omega) ⟨i + 1, by omega, rfl, ?_⟩
    rw [hnext]
    rfl
 ·simp only [decide_eq_false_iff_not, Int.ofNat_lt] at hc
  have hil : i = ml.length := by omega
  subst hil
  ((try simp only [cZ, cl_exit, cl_nil]))
  refine hX2 0 _ (hK1 _ ?_)
  rw [List.take_length, List.drop_length, List.append_nil]
  simp only [blkO] at he
  (repeat ((try simp only [cZ]); with_reducible refine cg fun K hK => ?_; simp only [go_sem, Nat.reduceBEq, Bool.or_false, Bool.or_true, he]; (repeat refine ck ?_); (try simp (disch := omega) only [wZ]); refine hK _ ?_; clear hK K))
  (((try simp only [cZ]); (try simp only [cl_nil]); refine hR _ _ (.inl rfl) ?_; (simp only [go_sem])))
end
end Go.Proofs.YtapdaefpkddioaaGreat.Pe
