/- A part of the proof of PmD. -/
import Derived.Test.YtapdaefpkddioaaGreatCe41
import Derived.Test.YtapdaefpkddioaaGreatCe39
set_option linter.unusedSimpArgs false
set_option linter.unusedVariables false
set_option linter.unusedSectionVars false
namespace Go.Proofs.YtapdaefpkddioaaGreat.Pe
open Go
set_option maxHeartbeats 2000000
section
variable {K : Nat} {s : St} {S B M : Nat} {ml : List Mb} {H : Hp} {nx : Nat} {c : Int}
theorem usedM_kf (k : Int) (l : List Mb) : usedM (l.map (kf k)) = (usedM l).filter (fun m => !(m.b.owner == k + 1)) := by
 induction l with
 | nil => rfl
 | cons m l ih =>
  unfold usedM at ih ⊢
  rw [List.map_cons, List.filter_cons, List.filter_cons, ih]
  cases hu : m.b.used with
  | false =>
   have : (kf k m).b.used = false := by unfold kf; split <;> first | rfl | exact hu
   rw [this]
   simp
  | true =>
   cases ho : (m.b.owner == k + 1) with
   | true =>
    have : (kf k m).b.used = false := by unfold kf; simp [hu, ho, freeM, freeB]
    rw [this]
    simp [List.filter_cons, ho]
   | false =>
    have : kf k m = m := by unfold kf; simp [hu, ho]
    rw [this, hu]
    simp [List.filter_cons, ho]
theorem kill_ms (h : Ms K s S B M ml H nx) (c : Int) : ∃ B' ml' H' nx', killMF [.one (.ptr S 12 0 0), .one (.int .i64 c)] H nx = some (.tup [], H', nx') ∧ Ms K (killV s c) S B' M ml' H' nx' := by
 by_cases hc : c < 0 ∨ 7 < c
 ·refine ⟨B, ml, H, nx, kill_bad h hc, ?_⟩
  unfold killV
  rw [if_pos hc]
  exact h
 ·obtain ⟨k, rfl⟩ : ∃ k : Nat, c = k := ⟨c.toNat, by omega⟩
  have hk : k < 8 := by omega
  obtain ⟨B', H', nx', he, hs', st⟩ := kill_hs h hk
  refine ⟨B', joinedM (ml.map (kf k)), H', nx', he, ?_⟩
  have h8 := h.wk.hi.eight
  have hkl : k < s.h.ls.length := by omega
  have ow := h.wk.hi.own k hkl
  have hkv : killV s (k : Int) = { freedAll s s.h.ls[k] with live := s.live.set k false } := by
   unfold killV
   rw [if_neg hc]
   simp only [Int.toNat_natCast, List.getElem?_eq_getElem hkl, Option.getD_some]
   rw [(freedAll_same s.h.ls[k] s).2.2.2.1]
  have hx : ∀ x ∈ s.h.ls[k], ∃ b ∈ s.h.bl, b.used = true ∧ b.off = x := fun x hx => by
   obtain ⟨b, h1, h2, _, h4⟩ := (ow.mem x).1 hx
   exact ⟨b, h1, h2, h4⟩
  have hfu := freedAll_used s.h.ls[k] h.wk ow.nd hx
  have hwk := freedAll_wk s.h.ls[k] h.wk
  obtain ⟨g1, g2, g3, g4, g5, g6⟩ := freedAll_same s.h.ls[k] s
  have hin : ∀ b ∈ s.h.bl, b.used = true → (b.off ∈ s.h.ls[k] ↔ b.owner = (k : Int) + 1) := by
   intro b hb hu
   rw [ow.mem]
   constructor
   ·rintro ⟨b', q1, q2, q3, q4⟩
    rw [← off_inj h.wk.hi q1 hb q4]; exact q3
   ·intro ho
    exact ⟨b, hb, hu, ho, rfl⟩
  have hbl : bks (joinedM (ml.map (kf k))) = (freedAll s s.h.ls[k]).h.bl := by
   have hmap : bks (ml.map (kf k)) = s.h.bl.map (fun b => if (b.used && b.owner == (k : Int) + 1) = true then freeB b.off b.size else b) := by
    rw [← h.bs]
    simp only [bks, List.map_map]
    refine List.map_congr_left fun m _ => ?_
    simp only [Function.comp, kf]
    split <;> rfl
   have hoff : (bks (ml.map (kf k))).map (fun b => (b.off, b.size)) = s.h.bl.map (fun b => (b.off, b.size)) := by
    rw [hmap, List.map_map]
    refine List.map_congr_left fun b _ => ?_
    simp only [Function.comp]
    split <;> rfl
   have hgood : ∀ b ∈ bks (ml.map (kf k)), b.good := by
    rw [hmap]
    intro b hb
    obtain ⟨b0, hb0, rfl⟩ := List.mem_map.1 hb
    have g0 := h.wk.hi.bs b0 hb0
    split
    ·exact freeB_good g0.size0 g0.size16
    ·exact g0
   rw [joinedM_bks]
   refine bl_uniq _ _ 3776 s.h.fin (chain_joined (chain_congr hoff.symm h.wk.hi.ch)) ?_ (merged_joined _) hwk.hi.mg (joined_good hgood) hwk.hi.bs ?_
   ·have := hwk.hi.ch
    rw [g2] at this
    exact this
   ·rw [used_joined, hfu]
    have e1 : (bks (ml.map (kf k))).filter (·.used) = bks (usedM (ml.map (kf k))) := by
     simp only [bks, usedM, List.filter_map]; rfl
    have e2 : s.h.bl.filter (·.used) = bks (usedM ml) := by
     rw [← h.bs]; simp only [bks, usedM, List.filter_map]; rfl
    rw [e1, e2, usedM_kf]
    simp only [bks, List.filter_map]
    congr 1
    refine List.filter_congr fun m hm => ?_
    have hmm := mem_usedM.1 hm
    have := hin m.b (h.mem hmm.1) hmm.2
    simp only [Function.comp]
    by_cases ho : m.b.owner = (k : Int) + 1
    ·simp [ho, this.2 ho]
    ·have hn : m.b.off ∉ s.h.ls[k] := fun hh => ho (this.1 hh)
     simp [ho, hn]
  obtain ⟨lM, nS, nB⟩ := h.ltM
  have hum : usedM (joinedM (ml.map (kf k))) = (usedM ml).filter (fun m => !(m.b.owner == (k : Int) + 1)) := by rw [usedM_joined, usedM_kf]
  rw [hkv]
  refine ⟨by simp only; rw [g1, g2]; exact hs', by rw [st.same M lM nS nB]; simp only; rw [g3]; exact h.mp, hbl, ?_, ?_, ?_, ⟨hwk.hi, by simp [h.wk.lv8], hwk.fin1, hwk.all0, hwk.all1, hwk.dl, hwk.ds, hwk.nl⟩, ?_, ?_, ?_⟩
  ·intro m hm
   rw [hum] at hm
   obtain ⟨h1, h2⟩ := List.mem_filter.1 hm
   have hmm := mem_usedM.1 h1
   have hni : m.b.off ∉ s.h.ls[k] := fun hh => by
    have := (hin m.b (h.mem hmm.1) hmm.2).1 hh
    simp [this] at h2
   rw [dataV_eq]
   simp only
   rw [g6, if_neg (by rw [show m.b.off + 32 - 32 = m.b.off by omega]; exact hni), ← dataV_eq]
   refine (h.dt m h1).frame fun t ht => ?_
   obtain ⟨k1, k2, k3, _⟩ := h.oid h1 ht
   exact st.same t k1 k2 k3
  ·refine freeNil_join fun m hm hf => ?_
   obtain ⟨m0, hm0, rfl⟩ := List.mem_map.1 hm
   unfold kf at hf ⊢
   split
   ·rfl
   ·rename_i hn
    rw [if_neg hn] at hf
    exact h.df m0 hm0 hf
  ·rw [hum]
   exact h.nd.sublist ((List.filter_sublist).filterMap _)
  ·exact Nat.le_trans g5 h.dl
  ·simp only; rw [g2]; exact h.pos
  ·refine h.nm.mono g3 fun b hb hu ho => ⟨b, ?_, hu, ho, rfl⟩
   have : b ∈ (freedAll s s.h.ls[k]).h.bl.filter (·.used) := by
    rw [hfu, List.mem_filter, List.mem_filter]
    refine ⟨⟨hb, hu⟩, ?_⟩
    simp only [decide_eq_true_eq]
    intro hh
    have := (hin b hb hu).1 hh
    omega
   exact (List.mem_filter.1 this).1
end
structure Vb where
 b : Bk
 v : List Int
def Vb.c (x : Vb) : List D := [.int .u64 x.b.off, .int .u64 x.b.size, .bool x.b.used, .int .i64 x.b.owner, .int .u64 x.b.len, .sl (rowsN x.v)]
def rowsVb (l : List Vb) : List (List D) := l.map Vb.c
theorem rowsVb_len (l : List Vb) : (rowsVb l).length = l.length := by simp [rowsVb]
theorem rowsVb_get' (l : List Vb) (i : Nat) (h : i < l.length) : (rowsVb l)[i]? = some l[i].c := by simp [rowsVb, h]
theorem rowsVb_all (l : List Vb) : (rowsVb l).all (fun r => decide (r.length = 6)) = true := by simp [rowsVb, Vb.c]
theorem rowsVb_appL (l : List Vb) (a z : Int) (u : Bool) (o n : Int) (v : List Int) : rowsVb l ++ [[.int .u64 a, .int .u64 z, .bool u, .int .i64 o, .int .u64 n, .sl (rowsN v)]] = rowsVb (l ++ [⟨⟨a, z, u, o, n⟩, v⟩]) := by simp [rowsVb, Vb.c]
attribute [go_sem] rowsVb_len rowsVb_get' rowsVb_all rowsVb_appL Vb.c
def valB (s : St) (b : Bk) : List Int := if b.used then dataV s (b.off + 32) else []
def viewV (s : St) : List Vb := s.h.bl.map fun b => ⟨b, valB s b⟩
section
variable {K : Nat} {s : St} {S B M : Nat} {ml : List Mb} {H : Hp} {nx : Nat} {c : Int}
theorem clone_dt {d : D} {v : List Int} (h : Dt H d v) (hv : v.length ≤ 100000) : cloneF [.one d] H nx = some (.a (.one (.sl (rowsN v))), H, nx) := by
 cases h with
 | nil => rfl
 | obj o v h0 hH =>
  simp only [cloneF, hH]
  rw [if_pos ⟨rowsN_len v, h0, hv, rowsN_all v⟩]
noncomputable def Cx8 : (Nat → Prop) → Ctx := fun X => { nt := 27, tt := tt, fns := ofList [(47, .eff cloneF)], keep := keep15, X := X, eqs := fun t => t == 25 || t == 46 }
noncomputable def blocksT : List AD → Hp → Nat → Option (RV × Hp × Nat) := semT Tryz.f15 Cx8 Tryz.f15.results
theorem blocksT_ok : FnEff Tryz.prog 15 blocksT := semT_ok mixed Tryz.func15 rfl (fun X => ok_of (l := [(47, .eff cloneF)]) tt_ok ⟨clone_ok, by kernel_rfl, trivial⟩ eqsOk) (fun _ => rfl) (fun _ => rfl) (by decide) rfl
theorem blocks_run (h : Ms K s S B M ml H nx) : blocksT [.one (.ptr S 12 0 0)] H nx = some (.a (.one (.sl (rowsVb (viewV s)))), H, nx) := by
 have h8 := h.wk.lv8
 have hlo := rowsO_len s.live
 have hS := h.hs.top
 have hB := h.hs.bl
 have hlm := h.len
 have hview : viewV s = ml.map fun m => ⟨m.b, valB s m.b⟩ := by unfold viewV; rw [← h.bs]; simp [bks]
 have hdt : ∀ (i : Nat) (hi : i < ml.length), cloneF [.one ml[i].d] H nx = some (.a (.one (.sl (rowsN (valB s ml[i].b)))), H, nx) := by
  intro i hi
  unfold valB
  cases hu : ml[i].b.used with
  | true => exact clone_dt (h.dt _ (mem_usedM.2 ⟨List.getElem_mem hi, hu⟩)) (dataV_len h.wk _)
  | false =>
   rw [h.df _ (List.getElem_mem hi) hu]
   rfl
 rw [hview]
 generalize hVd : (fun m : Mb => (⟨m.b, valB s m.b⟩ : Vb)) = V
 have hV : ∀ m, V m = ⟨m.b, valB s m.b⟩ := fun m => by rw [← hVd]
 unfold blocksT
 rw [Tryz.results15]
 refine semT_eq rfl (by simp [Tryz.ntmps15]) fun X R hR => ?_
 unfold Cx8 at hR ⊢
 (repeat ((try simp only [cZ]); with_reducible refine cg fun K hK => ?_; simp only [go_sem, Nat.reduceBEq, Bool.or_false]; (repeat refine ck ?_); (try simp (disch := omega) only [wZ]); refine hK _ ?_; clear hK K))
 (((try simp only [cZ]); refine cl_cond (b := false) rfl (fun h => nomatch h) (fun _ => ?_)))
 (repeat ((try simp only [cZ]); with_reducible refine cg fun K hK => ?_; simp only [go_sem, Nat.reduceBEq, Bool.or_false, hS, hlo, h8]; (repeat refine ck ?_); (try simp (disch := omega) only [wZ]); refine hK _ ?_; clear hK K))
 (((try simp only [cZ]); refine cl_block fun K hK1 R hR1 X hX1 => ?_))
 refine cl_loop (fun E n => ∃ i : Nat, i ≤ ml.length ∧ n = ml.length - i ∧ E = mk [(1000000, .heap H nx), (13, .v (.one (.int .i64 i))), (3, .own 0 55 6 (rowsVb ((ml.take i).map V))), (11, .v (.one (.ref B 6 0 ml.length))), (12, .v (.one (.int .i64 ml.length)))]) ml.length ⟨0, by omega, by omega, rfl⟩ ?_
 rintro E n ⟨i, hi, rfl, rfl⟩ J hJ R2 hR2 X2 hX2
 (repeat ((try simp only [cZ]); with_reducible refine cg fun K hK => ?_; simp only [go_sem, Nat.reduceBEq, Bool.or_false]; (repeat refine ck ?_); (try simp (disch := omega) only [wZ]); refine hK _ ?_; clear hK K))
 (((try simp only [cZ]); refine cl_cond rfl (fun hc => ?_) (fun hc => ?_)))
 ·simp only [decide_eq_true_eq, Int.ofNat_lt] at hc
  have hcl := hdt i hc
  have hVi := hV ml[i]
  have hstep : (ml.take (i + 1)).map V = (ml.take i).map V ++ [V ml[i]] := by rw [take_one ml i hc, List.map_append]; rfl
  have hlL : ((ml.take i).map V).length ≤ 22000 := by simp; omega
  generalize (ml.take i).map V = L at *
  (((try simp only [cZ]); refine cl_block fun K hK3 R hR3 X hX3 => ?_))
  (repeat ((try simp only [cZ]); with_reducible refine cg fun K hK => ?_; simp only [go_sem, Nat.reduceBEq, Bool.or_false, hB, hc, hcl]; (repeat refine ck ?_); (try simp (disch := omega) only [wZ]); refine hK _ ?_; clear hK K))
  ((try simp only [cZ, cl_exit, cl_nil]))
  refine hK3 _ ?_
  (repeat ((try simp only [cZ]); with_reducible refine cg fun K hK => ?_; simp only [go_sem, Nat.reduceBEq, Bool.or_false, wrapi64 (n := (i : Int) + 1) (by omega) (by omega)]; (repeat refine ck ?_); (try simp (disch := omega) only [wZ]); refine hK _ ?_; clear hK K))
  ((try simp only [cZ, cl_exit, cl_nil]))
  refine hJ _ (ml.length - (i + 1)) (by omega) ⟨i + 1, by omega, rfl, ?_⟩
  rw [hstep, hVi]
  rfl
 ·simp only [decide_eq_false_iff_not, Int.ofNat_lt] at hc
  have hil : i = ml.length := by omega
  subst hil
  rw [List.take_length]
  ((try simp only [cZ, cl_exit, cl_nil]))
  refine hX2 0 _ (hK1 _ ?_)
  (repeat ((try simp only [cZ]); with_reducible refine cg fun K hK => ?_; simp only [go_sem, Nat.reduceBEq, Bool.or_false]; (repeat refine ck ?_); (try simp (disch := omega) only [wZ]); refine hK _ ?_; clear hK K))
  (((try simp only [cZ]); (try simp only [cl_ret]); refine hR _ _ (.inr rfl) ?_; (simp only [go_sem])))
end
end Go.Proofs.YtapdaefpkddioaaGreat.Pe
namespace Go.Proofs.YtapdaefpkddioaaGreat.Pe
open Go
set_option maxHeartbeats 4000000
section
variable {K : Nat} {s : St} {S B M : Nat} {ml : List Mb} {H : Hp} {nx : Nat} {c : Int} {op : Opn}
theorem do_bad (h : Ms K s S B M ml H nx) (hb : op.kind < 1 ∨ 15 < op.kind ∨ c < 0 ∨ 7 < c) : OpRes doMF K s S M H nx c op (s, 1, 0, 0) := by
 refine ⟨B, ml, H, nx, ?_, h.more⟩
 unfold doMF
 rw [Tryz.results11]
 refine semT_eq rfl (by simp [Tryz.ntmps11]) fun X R hR => ?_
 unfold Cx9 at hR ⊢
 simp only [resC] at hR
 (repeat ((try simp only [cZ]); with_reducible refine cg fun K hK => ?_; simp only [go_sem, Opn.c, Nat.reduceBEq]; (repeat refine ck ?_); (try simp (disch := omega) only [wZ]); refine hK _ ?_; clear hK K))
 (((try simp only [cZ]); refine cl_block fun K hK1 R hR1 X hX1 => ?_))
 (((try simp only [cZ]); refine cl_reg_b (g := ?g129) (t := ?t129) (L := ?L129) ((((decide (op.kind < 1) || decide (15 < op.kind)) || decide (c < 0)) || decide (8 ≤ c))) (fun K hK => ?h1129) ?h2129; case' h1129 => simp only [go_sem, Nat.reduceBEq, Bool.or_false, Bool.or_true, gt_iff_lt, ge_iff_le]; (repeat refine ck ?_); (repeat' (((refine ite_split (fun hb => ?_) (fun hb => ?_) <;> ((try (simp only [go_sem, hb, Nat.reduceBEq, Bool.or_false, Bool.or_true, gt_iff_lt, ge_iff_le])); (repeat refine ck ?_)))))); all_goals (first | ((try simp (disch := omega) only [wZ]); refine hK _ ?_; clear hK K; first | rfl | grind | skip) | skip)))
 all_goals try (simp only [*, Bool.false_or, Bool.true_or, Bool.or_true]; done)
 (((try simp only [cZ]); refine cl_cond rfl (fun g => ?_) (fun g => ?_)))
 ·(repeat ((try simp only [cZ]); with_reducible refine cg fun K hK => ?_; simp only [go_sem, Nat.reduceBEq, Bool.or_false, Bool.or_true, failF]; (repeat refine ck ?_); (try simp (disch := omega) only [wZ]); refine hK _ ?_; clear hK K))
  (((try simp only [cZ]); (try simp only [cl_ret]); refine hR1 _ (hR _ _ (.inr rfl) ?_); (simp only [go_sem])))
 ·exfalso; simp at g; omega
theorem do_dead (h : Ms K s S B M ml H nx) (k1 : 1 ≤ op.kind) (k15 : op.kind < 15) (c0 : 0 ≤ c) (c1 : c ≤ 7) (hl : s.live[c.toNat]?.getD false = false) : OpRes doMF K s S M H nx c op (s, 10, 0, 0) := by
 have h8 := h.wk.lv8
 have hlo := rowsO_len s.live
 have hS := h.hs.top
 obtain ⟨k, rfl⟩ : ∃ k : Nat, c = k := ⟨c.toNat, by omega⟩
 have hkl : k < s.live.length := by omega
 have hl2 : s.live[k] = false := by
  rw [Int.toNat_natCast, List.getElem?_eq_getElem hkl, Option.getD_some] at hl; exact hl
 refine ⟨B, ml, H, nx, ?_, h.more⟩
 unfold doMF
 rw [Tryz.results11]
 refine semT_eq rfl (by simp [Tryz.ntmps11]) fun X R hR => ?_
 unfold Cx9 at hR ⊢
 simp only [resC] at hR
 (repeat ((try simp only [cZ]); with_reducible refine cg fun K hK => ?_; simp only [go_sem, Opn.c, Nat.reduceBEq]; (repeat refine ck ?_); (try simp (disch := omega) only [wZ]); refine hK _ ?_; clear hK K))
 (((try simp only [cZ]); refine cl_block fun K hK1 R hR1 X hX1 => ?_))
 (repeat ((try simp only [cZ]); with_reducible refine cg fun K hK => ?_; simp only [go_sem, Nat.reduceBEq, Bool.or_false, Bool.or_true, gt_iff_lt, ge_iff_le, show decide (op.kind < 1) = false by simp; omega, show decide (15 < op.kind) = false by simp; omega, show decide ((k : Int) < 0) = false by simp, show decide (8 ≤ (k : Int)) = false by simp; omega]; (repeat refine ck ?_); (try simp (disch := omega) only [wZ]); refine hK _ ?_; clear hK K))
 (((try simp only [cZ]); refine cl_cond (b := false) rfl (fun h => nomatch h) (fun _ => ?_)))
 (repeat ((try simp only [cZ]); with_reducible refine cg fun K hK => ?_; simp only [go_sem, Nat.reduceBEq, hS, hlo, h8, topR_rd _ _ _ _ _ _ hkl, hl2, Bool.not_false, Bool.or_false, show (op.kind != 15) = true by simp; omega]; (repeat refine ck ?_); (try simp (disch := omega) only [wZ]); refine hK _ ?_; clear hK K))
 (((try simp only [cZ]); refine cl_cond (b := true) rfl (fun _ => ?_) (fun h => nomatch h)))
 (repeat ((try simp only [cZ]); with_reducible refine cg fun K hK => ?_; simp only [go_sem, Nat.reduceBEq, Bool.or_false, Bool.or_true, failF]; (repeat refine ck ?_); (try simp (disch := omega) only [wZ]); refine hK _ ?_; clear hK K))
 (((try simp only [cZ]); (try simp only [cl_ret]); refine hR1 _ (hR _ _ (.inr rfl) ?_); (simp only [go_sem])))
theorem do_run (hK : K < 48000) (h : Ms K s S B M ml H nx) (ho : op.ok) (hnm : op.name.size < 100000000) : OpRes doMF K s S M H nx c op (doV s c op) := by
 by_cases hb : op.kind < 1 ∨ 15 < op.kind ∨ c < 0 ∨ 7 < c
 ·have : doV s c op = (s, 1, 0, 0) := by unfold doV; rw [if_pos hb]
  rw [this]
  exact do_bad h hb
 ·have c0 : 0 ≤ c := by omega
  have c1 : c ≤ 7 := by omega
  by_cases h15 : op.kind = 15
  ·exact do_15 hK h c0 c1 ho hnm h15
  ·cases hl : s.live[c.toNat]?.getD false with
   | false =>
    have : doV s c op = (s, 10, 0, 0) := by unfold doV; rw [if_neg hb, if_pos ⟨hl, h15⟩]
    rw [this]
    exact do_dead h (by omega) (by omega) c0 c1 hl
   | true =>
    have : op.kind = 1 ∨ op.kind = 2 ∨ op.kind = 3 ∨ op.kind = 4 ∨ op.kind = 5 ∨ op.kind = 6 ∨ op.kind = 7 ∨ op.kind = 8 ∨ op.kind = 9 ∨ op.kind = 10 ∨ op.kind = 11 ∨ op.kind = 12 ∨ op.kind = 13 ∨ op.kind = 14 := by omega
    rcases this with hk | hk | hk | hk | hk | hk | hk | hk | hk | hk | hk | hk | hk | hk
    ·exact do_1 hK h c0 c1 ho hnm hk hl
    ·exact do_2 hK h c0 c1 ho hnm hk hl
    ·exact do_3 hK h c0 c1 ho hnm hk hl
    ·exact do_4 hK h c0 c1 ho hnm hk hl
    ·exact do_5 hK h c0 c1 ho hnm hk hl
    ·exact do_6 hK h c0 c1 ho hnm hk hl
    ·exact do_7 hK h c0 c1 ho hnm hk hl
    ·exact do_8 hK h c0 c1 ho hnm hk hl
    ·exact do_9 hK h c0 c1 ho hnm hk hl
    ·exact do_10 hK h c0 c1 ho hnm hk hl
    ·exact do_11 hK h c0 c1 ho hnm hk hl
    ·exact do_12 hK h c0 c1 ho hnm hk hl
    ·exact do_13 hK h c0 c1 ho hnm hk hl
    ·exact do_14 hK h c0 c1 ho hnm hk hl
end
end Go.Proofs.YtapdaefpkddioaaGreat.Pe
namespace Go.Proofs.YtapdaefpkddioaaGreat.Pe
open Go
set_option maxHeartbeats 4000000
def newH (n a : Int) (H : Hp) (nx : Nat) : Hp := updO (updO (updO H nx (some ⟨some 55, 6, [[.int .u64 3776, .int .u64 (n - 3776), .bool false, .int .i64 0, .int .u64 0, .sl []]]⟩)) (nx + 1) (some ⟨none, 0, []⟩)) (nx + 2)
     (some ⟨none, 12, [[.int .u64 a, .int .u64 n, .ref nx 6 0 1, .mp (nx + 1), .bool false, .bool false, .bool false, .bool false, .bool false, .bool false, .bool false, .bool false]]⟩)
theorem newMF_eq {n a : Int} {H : Hp} {nx : Nat} (h1 : n % 16 = 0) (h2 : 3824 ≤ n) (h3 : n ≤ a) (h4 : a ≤ 100000) (h5 : a % 8 = 0) :
  newMF [.one (.int .u64 n), .one (.int .u64 a)] H nx = some (.a (.one (.ptr (nx + 2) 12 0 0)), newH n a H nx, nx + 3) := by
 have hb : newBad n a = false := by simp [newBad]; omega
 have hu : U64 n ∧ U64 a := by unfold U64; omega
 simp only [newMF, hb, if_pos hu]
 rfl
theorem st0_wk {n a : Int} (h1 : n % 16 = 0) (h2 : 3824 ≤ n) (h3 : n ≤ a) (h4 : a ≤ 100000) : (st0 n a).Wk := by
 refine ⟨⟨rfl, ?_, by simp only [st0, heap0]; omega, ?_, ?_, ?_⟩, rfl, by simp only [st0, heap0]; omega, by simp only [st0]; omega, by simp only [st0]; omega, by simp [st0], by simp [st0], by simp [st0]⟩
 ·simp [st0, heap0, chain]; try omega
 ·intro b hb
  simp only [st0, heap0, List.mem_singleton] at hb
  subst hb
  exact ⟨by simp only; omega, by simp only; omega, by simp, by simp, ⟨by simp, by simp⟩, by simp, by simp⟩
 ·intro k hk
  have hk8 : k < 8 := hk
  have nil : ∀ k, Owns (st0 n a).h.bl k [] := fun k => ⟨by simp, fun x => by simp [st0, heap0]⟩
  match k, hk8 with
  | 0, _ => exact nil 0
  | 1, _ => exact nil 1
  | 2, _ => exact nil 2
  | 3, _ => exact nil 3
  | 4, _ => exact nil 4
  | 5, _ => exact nil 5
  | 6, _ => exact nil 6
  | 7, _ => exact nil 7
 ·simp [st0, heap0, merged]
theorem new_ms {n a : Int} {H : Hp} {nx : Nat} (hf : ∀ o, nx ≤ o → H o = none) (h1 : n % 16 = 0) (h2 : 3824 ≤ n) (h3 : n ≤ a) (h4 : a ≤ 100000) :
  Ms 0 (st0 n a) (nx + 2) nx (nx + 1) [⟨⟨3776, n - 3776, false, 0, 0⟩, .sl []⟩] (newH n a H nx) (nx + 3) := by
 refine ⟨⟨?_, ?_, ?_⟩, ?_, rfl, ?_, ?_, ?_, st0_wk h1 h2 h3 h4, by simp [st0], by simp only [st0, heap0]; omega, ?_⟩
 ·unfold newH; rw [updO_at]; rfl
 ·unfold newH; rw [updO_ne (by omega), updO_ne (by omega), updO_at]; rfl
 ·intro o ho
  unfold newH; rw [updO_ne (by omega), updO_ne (by omega), updO_ne (by omega)]; exact hf o (by omega)
 ·unfold newH; rw [updO_ne (by omega), updO_at]; rfl
 ·intro m hm; simp [usedM] at hm
 ·intro m hm _; simp only [List.mem_singleton] at hm; subst hm; rfl
 ·simp [usedM]
 ·exact ⟨by simp [st0], by simp [st0], by simp [st0], by simp [st0], by simp [st0]⟩
def opA : Opn := ⟨1, 8, 0, 0, 0, 0, 0, ⟨#[]⟩⟩
def opT : Opn := ⟨15, 0, 0, 0, 0, 0, 0, ⟨#[]⟩⟩
def sA : St := ⟨4000, ⟨4000, [⟨3776, 48, true, 2, 8⟩, ⟨3824, 176, false, 0, 0⟩], [[], [3776], [], [], [], [], [], []]⟩, [⟨3808, [0]⟩], [], [false, true, false, false, false, false, false, false]⟩
def sT : St := (doV (st0 4000 4000) 1 opT).1
theorem opA_ok : opA.ok := ⟨⟨by decide, by decide⟩, ⟨by decide, by decide⟩, ⟨by decide, by decide⟩, ⟨by decide, by decide⟩, ⟨by decide, by decide⟩⟩
theorem opT_ok : opT.ok := ⟨⟨by decide, by decide⟩, ⟨by decide, by decide⟩, ⟨by decide, by decide⟩, ⟨by decide, by decide⟩, ⟨by decide, by decide⟩⟩
theorem aw1 : doV (st0 4000 4000) 1 opA = (st0 4000 4000, 10, 0, 0) := by kernel_rfl
theorem aw2 : doV (st0 4000 4000) 1 opT = (sT, 0, 0, 0) := by kernel_rfl
theorem aw3 : doV sT 1 opA = (sA, 0, 3808, 0) := by kernel_rfl
theorem aw4 : viewV sA = [⟨⟨3776, 48, true, 2, 8⟩, [0]⟩, ⟨⟨3824, 176, false, 0, 0⟩, []⟩] := by kernel_rfl
noncomputable def Cx5 : (Nat → Prop) → Ctx := fun X => { nt := 51, tt := tt, fns := ofList [(19, .eff newMF), (11, .eff doMF), (15, .eff blocksT)], keep := keep7, X := X, eqs := fun t => t == 25 || t == 46 }
noncomputable def awakeT : List AD → Hp → Nat → Option (RV × Hp × Nat) := semT Tryz.f7 Cx5 Tryz.f7.results
theorem awake_ok : FnEff Tryz.prog 7 awakeT := semT_ok mixed Tryz.func7 rfl (fun X => ok_of (l := [(19, .eff newMF), (11, .eff doMF), (15, .eff blocksT)]) tt_ok ⟨newM_ok, by kernel_rfl, doM_ok, by kernel_rfl, blocksT_ok, by kernel_rfl, trivial⟩ eqsOk) (fun _ => rfl) (fun _ => rfl) (by decide) rfl
theorem awake_run {H : Hp} {nx : Nat} (hf : ∀ o, nx ≤ o → H o = none) : ∃ H' nx', awakeT [] H nx = some (.a (.one (.bool true)), H', nx') ∧ ∀ o, nx' ≤ o → H' o = none := by
 have hn := newMF_eq (n := 4000) (a := 4000) (H := H) (nx := nx) (by decide) (by decide) (by decide) (by decide) (by decide)
 have m0 := new_ms (n := 4000) (a := 4000) hf (by decide) (by decide) (by decide) (by decide)
 have r1 := do_run (c := 1) (op := opA) (by omega) m0 opA_ok (by decide)
 rw [aw1] at r1
 obtain ⟨B1, ml1, H1, nx1, e1, m1⟩ := r1
 have r2 := do_run (c := 1) (op := opT) (by omega) m1 opT_ok (by decide)
 simp only at r2
 rw [aw2] at r2
 obtain ⟨B2, ml2, H2, nx2, e2, m2⟩ := r2
 have r3 := do_run (c := 1) (op := opA) (by omega) m2 opA_ok (by decide)
 simp only at r3
 rw [aw3] at r3
 obtain ⟨B3, ml3, H3, nx3, e3, m3⟩ := r3
 have r4 := blocks_run m3
 simp only at r4
 rw [aw4] at r4
 refine ⟨H3, nx3, ?_, m3.hs.fresh⟩
 unfold awakeT
 rw [Tryz.results7]
 refine semT_eq rfl (by simp [Tryz.ntmps7]) fun X R hR => ?_
 unfold Cx5 at hR ⊢
 simp only [opA, opT, Opn.c, resC] at e1 e2 e3
 simp only [rowsVb, List.map_cons, List.map_nil, Vb.c] at r4
 generalize newH 4000 4000 H nx = H0 at *
 (repeat ((try simp only [cZ]); with_reducible refine cg fun K hK => ?_; simp only [go_sem, Nat.reduceBEq, Bool.or_false, Bool.or_true, hn, e1, e2, e3, r4, List.length_cons, List.length_nil, show rowsN [0] = [[.int .u64 0]] from rfl]; (repeat refine ck ?_); (try simp (disch := omega) only [wZ]); refine hK _ ?_; clear hK K))
 (((try simp only [cZ]); (try simp only [cl_ret]); refine hR _ _ (.inr rfl) ?_; (simp only [go_sem])))
 rfl
end Go.Proofs.YtapdaefpkddioaaGreat.Pe
