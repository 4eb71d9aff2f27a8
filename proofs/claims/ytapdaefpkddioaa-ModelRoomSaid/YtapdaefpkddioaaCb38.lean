/- A part of the proof of PmD. -/
import Derived.Laws.Strings
import Derived.Test.YtapdaefpkddioaaCb37
set_option linter.unusedSimpArgs false
set_option linter.unusedVariables false
set_option linter.unusedSectionVars false
namespace Go.Proofs.Ytapdaefpkddioaa.Pe
open Go
set_option maxHeartbeats 2000000
def OpRes (F : List AD → Hp → Nat → Option (RV × Hp × Nat)) (K : Nat) (s : St) (S M : Nat) (H : Hp) (nx : Nat) (c : Int) (op : Opn) (r : St × Int × Int × Int) : Prop :=
  ∃ B' ml' H' nx', F [.one (.ptr S 12 0 0), .one (.int .i64 c), .many op.c] H nx = some (.a (.many (resC r.2.1 r.2.2.1 r.2.2.2)), H', nx') ∧ Ms (K + 1) r.1 S B' M ml' H' nx'
noncomputable def Cx20 : (Nat → Prop) → Ctx := fun X => { nt := 13, tt := tt, fns := ofList [(47, .eff takeMF)], keep := keep20, X := X }
noncomputable def allocT : List AD → Hp → Nat → Option (RV × Hp × Nat) := semT Try.f20 Cx20 Try.f20.results
theorem allocT_ok : FnEff Try.prog 20 allocT := semT_ok mixed Try.func20 rfl (fun X => ok_of (l := [(47, .eff takeMF)]) tt_ok ⟨takeM_ok, by kernel_rfl, trivial⟩ (noEqs _)) (fun _ => rfl) (fun _ => rfl) (by decide) rfl
noncomputable def Cx21 : (Nat → Prop) → Ctx := fun X => { nt := 15, tt := tt, fns := ofList [(47, .eff takeMF)], keep := keep21, X := X }
noncomputable def alignedT : List AD → Hp → Nat → Option (RV × Hp × Nat) := semT Try.f21 Cx21 Try.f21.results
theorem alignedT_ok : FnEff Try.prog 21 alignedT := semT_ok mixed Try.func21 rfl (fun X => ok_of (l := [(47, .eff takeMF)]) tt_ok ⟨takeM_ok, by kernel_rfl, trivial⟩ (noEqs _)) (fun _ => rfl) (fun _ => rfl) (by decide) rfl
noncomputable def Cx22 : (Nat → Prop) → Ctx := fun X => { nt := 25, tt := tt, fns := ofList [(47, .eff takeMF), (48, .pure mulF), (19, .pure failF)], keep := keep22, X := X }
noncomputable def callocT : List AD → Hp → Nat → Option (RV × Hp × Nat) := semT Try.f22 Cx22 Try.f22.results
theorem callocT_ok : FnEff Try.prog 22 callocT := semT_ok mixed Try.func22 rfl (fun X => ok_of (l := [(47, .eff takeMF), (48, .pure mulF), (19, .pure failF)]) tt_ok ⟨takeM_ok, by kernel_rfl, wmul_ok, by kernel_rfl, fail_ok, by kernel_rfl, trivial⟩ (noEqs _)) (fun _ => rfl) (fun _ => rfl) (by decide) rfl
noncomputable def Cx34 : (Nat → Prop) → Ctx := fun X => { nt := 20, tt := tt, fns := ofList [(19, .pure failF)], keep := keep34, X := X }
noncomputable def attachT : List AD → Hp → Nat → Option (RV × Hp × Nat) := semT Try.f34 Cx34 Try.f34.results
theorem attachT_ok : FnEff Try.prog 34 attachT := semT_ok mixed Try.func34 rfl (fun X => ok_of (l := [(19, .pure failF)]) tt_ok ⟨fail_ok, by kernel_rfl, trivial⟩ (noEqs _)) (fun _ => rfl) (fun _ => rfl) (by decide) rfl
noncomputable def Cx33 : (Nat → Prop) → Ctx := fun X => { nt := 20, tt := tt, fns := ofList [(19, .pure failF), (58, .eff containsF)], keep := keep33, X := X, pub := fun t => t == 4 }
noncomputable def detachT : List AD → Hp → Nat → Option (RV × Hp × Nat) := semT Try.f33 Cx33 Try.f33.results
theorem detachT_ok : FnEff Try.prog 33 detachT := semT_ok mixed Try.func33 rfl (fun X => ok_of (l := [(19, .pure failF), (58, .eff containsF)]) tt_ok ⟨fail_ok, by kernel_rfl, contains_ok, by kernel_rfl, trivial⟩ (noEqs _)) (fun _ => rfl) (fun _ => rfl) (by decide) rfl
section
variable {K : Nat} {s : St} {S B M : Nat} {ml : List Mb} {H : Hp} {nx : Nat} {c : Int} {op : Opn}
theorem alloc_run (hK : K < 49000) (h : Ms K s S B M ml H nx) (c0 : 0 ≤ c) (c1 : c ≤ 7) (ho : op.ok) :
    OpRes allocT K s S M H nx c op ((takeSV s (c + 1) op.n 16).1, (takeSV s (c + 1) op.n 16).2.1, (takeSV s (c + 1) op.n 16).2.2, 0) := by
  obtain ⟨B', ml', H', nx', he, hm, _⟩ := take_ms hK h (o := c + 1) (n := op.n) (al := 16) (by omega) (by omega) ho.n (by unfold U64; omega)
  refine ⟨B', ml', H', nx', ?_, hm⟩
  unfold allocT
  rw [Try.results20]
  refine semT_eq rfl (by simp [Try.ntmps20]) fun X R hR => ?_
  unfold Cx20 at hR ⊢
  simp only [resC] at he hR
  (repeat ((try simp only [cl_seq, cl_skip]); with_reducible refine cg fun K hK => ?_; (simp (maxSteps := 1000000) only [go_sem, Opn.c, he, wrapi64 (n := c + 1) (by omega) (by omega)]); (repeat refine ck ?_); (try simp (disch := omega) only [wrap64, wrapi64]); refine hK _ ?_; clear hK K))
  (((try simp only [cl_seq, cl_skip]); (try simp only [cl_ret]); refine hR _ _ (.inr rfl) ?_; (simp (maxSteps := 1000000) only [go_sem])))
theorem aligned_run (hK : K < 49000) (h : Ms K s S B M ml H nx) (c0 : 0 ≤ c) (c1 : c ≤ 7) (ho : op.ok) :
    OpRes alignedT K s S M H nx c op ((takeSV s (c + 1) op.n op.a).1, (takeSV s (c + 1) op.n op.a).2.1, (takeSV s (c + 1) op.n op.a).2.2, 0) := by
  obtain ⟨B', ml', H', nx', he, hm, _⟩ := take_ms hK h (o := c + 1) (n := op.n) (al := op.a) (by omega) (by omega) ho.n ho.a
  refine ⟨B', ml', H', nx', ?_, hm⟩
  unfold alignedT
  rw [Try.results21]
  refine semT_eq rfl (by simp [Try.ntmps21]) fun X R hR => ?_
  unfold Cx21 at hR ⊢
  simp only [resC] at he hR
  (repeat ((try simp only [cl_seq, cl_skip]); with_reducible refine cg fun K hK => ?_; (simp (maxSteps := 1000000) only [go_sem, Opn.c, he, wrapi64 (n := c + 1) (by omega) (by omega)]); (repeat refine ck ?_); (try simp (disch := omega) only [wrap64, wrapi64]); refine hK _ ?_; clear hK K))
  (((try simp only [cl_seq, cl_skip]); (try simp only [cl_ret]); refine hR _ _ (.inr rfl) ?_; (simp (maxSteps := 1000000) only [go_sem])))
theorem mulV_u64 {a b m : Int} (ha : U64 a) (hb : U64 b) (h : mulV a b = some m) : U64 m := by
  unfold mulV at h
  split at h
  · injection h with h
    subst h
    exact ⟨Int.mul_nonneg ha.1 hb.1, by assumption⟩
  · cases h
theorem calloc_run (hK : K < 49000) (h : Ms K s S B M ml H nx) (c0 : 0 ≤ c) (c1 : c ≤ 7) (ho : op.ok) :
    OpRes callocT K s S M H nx c op (match mulV op.n op.a with
      | none => (s, 2, 0, 0)
      | some m => ((takeSV s (c + 1) m 16).1, (takeSV s (c + 1) m 16).2.1, (takeSV s (c + 1) m 16).2.2, 0)) := by
  have hmf := mulF_eq ho.n ho.a
  cases hm : mulV op.n op.a with
  | none =>
    refine ⟨B, ml, H, nx, ?_, h.more⟩
    unfold callocT
    rw [Try.results22]
    refine semT_eq rfl (by simp [Try.ntmps22]) fun X R hR => ?_
    unfold Cx22 at hR ⊢
    simp only [resC] at hR
    (repeat ((try simp only [cl_seq, cl_skip]); with_reducible refine cg fun K hK => ?_; (simp (maxSteps := 1000000) only [go_sem, Opn.c, hmf, hm, optV, Option.isSome_none, Bool.not_false]); (repeat refine ck ?_); (try simp (disch := omega) only [wrap64, wrapi64]); refine hK _ ?_; clear hK K))
    (((try simp only [cl_seq, cl_skip]); refine cl_cond (b := true) rfl (fun _ => ?_) (fun h => nomatch h)))
    (repeat ((try simp only [cl_seq, cl_skip]); with_reducible refine cg fun K hK => ?_; (simp (maxSteps := 1000000) only [go_sem, failF_eq]); (repeat refine ck ?_); (try simp (disch := omega) only [wrap64, wrapi64]); refine hK _ ?_; clear hK K))
    (((try simp only [cl_seq, cl_skip]); (try simp only [cl_ret]); refine hR _ _ (.inr rfl) ?_; (simp (maxSteps := 1000000) only [go_sem])))
  | some m =>
    obtain ⟨B', ml', H', nx', he, hms, _⟩ := take_ms hK h (o := c + 1) (n := m) (al := 16) (by omega) (by omega) (mulV_u64 ho.n ho.a hm) (by unfold U64; omega)
    refine ⟨B', ml', H', nx', ?_, hms⟩
    unfold callocT
    rw [Try.results22]
    refine semT_eq rfl (by simp [Try.ntmps22]) fun X R hR => ?_
    unfold Cx22 at hR ⊢
    simp only [resC] at hR he
    (repeat ((try simp only [cl_seq, cl_skip]); with_reducible refine cg fun K hK => ?_; (simp (maxSteps := 1000000) only [go_sem, Opn.c, hmf, hm, optV, Option.isSome_some, Bool.not_true]); (repeat refine ck ?_); (try simp (disch := omega) only [wrap64, wrapi64]); refine hK _ ?_; clear hK K))
    (((try simp only [cl_seq, cl_skip]); refine cl_cond (b := false) rfl (fun h => nomatch h) (fun _ => ?_)))
    (repeat ((try simp only [cl_seq, cl_skip]); with_reducible refine cg fun K hK => ?_; (simp (maxSteps := 1000000) only [go_sem, Opn.c, he, wrapi64 (n := c + 1) (by omega) (by omega)]); (repeat refine ck ?_); (try simp (disch := omega) only [wrap64, wrapi64]); refine hK _ ?_; clear hK K))
    (((try simp only [cl_seq, cl_skip]); (try simp only [cl_ret]); refine hR _ _ (.inr rfl) ?_; (simp (maxSteps := 1000000) only [go_sem])))
theorem topR_rd (a f bd mp : D) (live : List Bool) (k : Nat) (hk : k < live.length) : List.take 1 (List.drop (4 + k * 1) (a :: f :: bd :: mp :: rowsO live)) = [.bool live[k]] := by
  have hl := rowsO_len live
  rw [Nat.mul_one, show 4 + k = k + 4 by omega]
  simp only [List.drop_succ_cons]
  rw [List.drop_eq_getElem_cons (by rw [hl]; exact hk)]
  simp [rowsO]
theorem topR_wr (a f bd mp : D) (live : List Bool) (k : Nat) (v : Bool) (hk : k < live.length) : List.take (4 + k * 1) (a :: f :: bd :: mp :: rowsO live) ++ .bool v :: List.drop (4 + k * 1) (f :: bd :: mp :: rowsO live) = a :: f :: bd :: mp :: rowsO (live.set k v) := by
  have hl := rowsO_len live
  rw [Nat.mul_one, show 4 + k = k + 4 by omega]
  simp only [List.take_succ_cons, List.cons_append]
  rw [show k + 4 = k + 1 + 3 by omega]
  simp only [List.drop_succ_cons]
  congr 4
  unfold rowsO
  rw [List.map_set, List.set_eq_take_append_cons_drop, if_pos (by simpa using hk)]
theorem topR_wr' (a f bd mp : D) (live : List Bool) (k : Nat) (v : Bool) (hk : k < live.length) : List.take (4 + k * 1) (a :: f :: bd :: mp :: rowsO live) ++ [.bool v] ++ List.drop (4 + k * 1) (f :: bd :: mp :: rowsO live) = a :: f :: bd :: mp :: rowsO (live.set k v) := by
  rw [List.append_assoc]; exact topR_wr a f bd mp live k v hk
theorem Ms.setLive (h : Ms K s S B M ml H nx) (k : Nat) (v : Bool) : Ms K { s with live := s.live.set k v } S B M ml (updO H S (topO (.int .u64 s.all) (.int .u64 s.h.fin) (.ref B 6 0 ml.length) (.mp M) (s.live.set k v))) nx := by
  obtain ⟨lM, nS, nB⟩ := h.ltM
  refine ⟨⟨updO_at _ _ _, by rw [updO_ne h.hs.ne.symm]; exact h.hs.bl, fun o ho => by rw [updO_ne (by have := h.hs.ltS; omega)]; exact h.hs.fresh o ho⟩, by rw [updO_ne nS]; exact h.mp, h.bs, fun m hm => ?_, h.df, h.nd, ⟨h.wk.hi, by simp [h.wk.lv8], h.wk.fin1, h.wk.all0, h.wk.all1, h.wk.dl, h.wk.ds, h.wk.nl⟩, h.dl, h.pos, h.nm.mono rfl fun b hb hu ho => ⟨b, hb, hu, ho, rfl⟩⟩
  exact (h.dt m hm).frame fun o ho => updO_ne (h.oid hm ho).2.1
theorem attach_run (h : Ms K s S B M ml H nx) (c0 : 0 ≤ c) (c1 : c ≤ 7) :
    OpRes attachT K s S M H nx c op (if s.live[c.toNat]?.getD false then (s, 7, 0, 0) else ({ s with live := s.live.set c.toNat true }, 0, 0, 0)) := by
  obtain ⟨k, rfl⟩ : ∃ k : Nat, c = k := ⟨c.toNat, by omega⟩
  have h8 := h.wk.lv8
  have hk : k < s.live.length := by omega
  have hlo := rowsO_len s.live
  have hS := h.hs.top
  rw [Int.toNat_natCast, List.getElem?_eq_getElem hk, Option.getD_some]
  cases hl : s.live[k] with
  | true =>
    refine ⟨B, ml, H, nx, ?_, h.more⟩
    unfold attachT
    rw [Try.results34]
    refine semT_eq rfl (by simp [Try.ntmps34]) fun X R hR => ?_
    unfold Cx34 at hR ⊢
    simp only [resC] at hR
    (repeat ((try simp only [cl_seq, cl_skip]); with_reducible refine cg fun K hK => ?_; (simp (maxSteps := 1000000) only [go_sem, Opn.c, hS, hlo, h8, topR_rd _ _ _ _ _ _ hk, hl]); (repeat refine ck ?_); (try simp (disch := omega) only [wrap64, wrapi64]); refine hK _ ?_; clear hK K))
    (((try simp only [cl_seq, cl_skip]); refine cl_cond (b := true) rfl (fun _ => ?_) (fun h => nomatch h)))
    (repeat ((try simp only [cl_seq, cl_skip]); with_reducible refine cg fun K hK => ?_; (simp (maxSteps := 1000000) only [go_sem, failF_eq]); (repeat refine ck ?_); (try simp (disch := omega) only [wrap64, wrapi64]); refine hK _ ?_; clear hK K))
    (((try simp only [cl_seq, cl_skip]); (try simp only [cl_ret]); refine hR _ _ (.inr rfl) ?_; (simp (maxSteps := 1000000) only [go_sem])))
  | false =>
    refine ⟨B, ml, _, nx, ?_, (h.setLive k true).more⟩
    unfold attachT
    rw [Try.results34]
    refine semT_eq rfl (by simp [Try.ntmps34]) fun X R hR => ?_
    unfold Cx34 at hR ⊢
    simp only [resC] at hR
    (repeat ((try simp only [cl_seq, cl_skip]); with_reducible refine cg fun K hK => ?_; (simp (maxSteps := 1000000) only [go_sem, Opn.c, hS, hlo, h8, topR_rd _ _ _ _ _ _ hk, hl]); (repeat refine ck ?_); (try simp (disch := omega) only [wrap64, wrapi64]); refine hK _ ?_; clear hK K))
    (((try simp only [cl_seq, cl_skip]); refine cl_cond (b := false) rfl (fun h => nomatch h) (fun _ => ?_)))
    (repeat ((try simp only [cl_seq, cl_skip]); with_reducible refine cg fun K hK => ?_; (simp (maxSteps := 1000000) only [go_sem, hS, hlo, h8, topR_wr' _ _ _ _ _ _ _ hk, topR_wr _ _ _ _ _ _ _ hk]); (repeat refine ck ?_); (try simp (disch := omega) only [wrap64, wrapi64]); refine hK _ ?_; clear hK K))
    (((try simp only [cl_seq, cl_skip]); (try simp only [cl_ret]); refine hR _ _ (.inr rfl) ?_; (simp (maxSteps := 1000000) only [go_sem])))
end
end Go.Proofs.Ytapdaefpkddioaa.Pe
namespace Go.Proofs.Ytapdaefpkddioaa.Pe
open Go
set_option maxHeartbeats 2000000
section
variable {K : Nat} {s : St} {S B M : Nat} {ml : List Mb} {H : Hp} {nx : Nat} {c : Int} {op : Opn}
theorem Ms.junk (h : Ms K s S B M ml H nx) (x : Option PObj) : Ms K s S B M ml (updO H nx x) (nx + 1) := by
  obtain ⟨lM, nS, nB⟩ := h.ltM
  have h1 := h.hs.ltS
  have h2 := h.hs.ltB
  refine ⟨⟨by rw [updO_ne (by omega)]; exact h.hs.top, by rw [updO_ne (by omega)]; exact h.hs.bl, fun o ho => by rw [updO_ne (by omega)]; exact h.hs.fresh o (by omega)⟩, by rw [updO_ne (by omega)]; exact h.mp, h.bs, fun m hm => ?_, h.df, h.nd, h.wk, h.dl, h.pos, h.nm⟩
  exact (h.dt m hm).frame fun o ho => updO_ne (by have := (h.oid hm ho).1; omega)
theorem Ms.his (h : Ms K s S B M ml H nx) (k : Nat) (hk : k < 8) : ((ml.findIdx? fun m => m.b.used && m.b.owner == (k : Int) + 1).isSome = true) ↔ 0 < (s.h.ls[k]?.getD []).length := by
  have h8 := h.wk.hi.eight
  have hk' : k < s.h.ls.length := by omega
  have ow := h.wk.hi.own k hk'
  rw [List.getElem?_eq_getElem hk', Option.getD_some, List.findIdx?_isSome, List.any_eq_true]
  constructor
  · rintro ⟨m, hm, hp⟩
    simp only [Bool.and_eq_true, beq_iff_eq] at hp
    exact List.length_pos_of_mem ((ow.mem m.b.off).2 ⟨m.b, h.mem hm, hp.1, hp.2, rfl⟩)
  · intro hp
    obtain ⟨x, hx⟩ := List.exists_mem_of_length_pos hp
    obtain ⟨b, hb, h1, h2, h3⟩ := (ow.mem x).1 hx
    obtain ⟨m, hm, rfl⟩ := h.usedB hb h1
    exact ⟨m, (mem_usedM.1 hm).1, by simp [h1, h2]⟩
theorem detach_run (h : Ms K s S B M ml H nx) (c0 : 0 ≤ c) (c1 : c ≤ 7) :
    OpRes detachT K s S M H nx c op (if 0 < (s.h.ls[c.toNat]?.getD []).length then (s, 11, 0, 0) else ({ s with live := s.live.set c.toNat false }, 0, 0, 0)) := by
  obtain ⟨k, rfl⟩ : ∃ k : Nat, c = k := ⟨c.toNat, by omega⟩
  have h8 := h.wk.lv8
  have hk : k < s.live.length := by omega
  have hlo := rowsO_len s.live
  have hj := h.junk (boxO .i64 k)
  have hS := hj.hs.top
  have hix := containsF_eq (indexF_eq (g := 59) (o := nx) (nx := nx + 1) (H := updO H nx (boxO .i64 k)) (fun m => m.b.used && m.b.owner == (k : Int) + 1) isHisF rfl hj.hs.bl (by have := h.len; omega)
    (fun i hi => isHisF_eq (updO_at _ _ _) c0 c1))
  have hhis := h.his k (by omega)
  simp only [boxO] at hix hS hj
  rw [Int.toNat_natCast]
  cases hc : (ml.findIdx? fun m => m.b.used && m.b.owner == (k : Int) + 1).isSome with
  | true =>
    rw [if_pos (hhis.1 hc)]
    rw [hc] at hix
    refine ⟨B, ml, _, nx + 1, ?_, hj.more⟩
    unfold detachT
    rw [Try.results33]
    refine semT_eq rfl (by simp [Try.ntmps33]) fun X R hR => ?_
    unfold Cx33 at hR ⊢
    simp only [resC] at hR
    (repeat ((try simp only [cl_seq, cl_skip]); with_reducible refine cg fun K hK => ?_; (simp (maxSteps := 1000000) only [go_sem, Opn.c, Nat.reduceBEq, hS, hlo, h8, List.size_toArray, Array.size_empty, Option.map_some, hix]); (repeat refine ck ?_); (try simp (disch := omega) only [wrap64, wrapi64]); refine hK _ ?_; clear hK K))
    (((try simp only [cl_seq, cl_skip]); refine cl_cond (b := true) rfl (fun _ => ?_) (fun h => nomatch h)))
    (repeat ((try simp only [cl_seq, cl_skip]); with_reducible refine cg fun K hK => ?_; (simp (maxSteps := 1000000) only [go_sem, Nat.reduceBEq, failF_eq]); (repeat refine ck ?_); (try simp (disch := omega) only [wrap64, wrapi64]); refine hK _ ?_; clear hK K))
    (((try simp only [cl_seq, cl_skip]); (try simp only [cl_ret]); refine hR _ _ (.inr rfl) ?_; (simp (maxSteps := 1000000) only [go_sem])))
  | false =>
    rw [if_neg (fun hp => by rw [hhis.2 hp] at hc; cases hc)]
    rw [hc] at hix
    refine ⟨B, ml, _, nx + 1, ?_, (hj.setLive k false).more⟩
    unfold detachT
    rw [Try.results33]
    refine semT_eq rfl (by simp [Try.ntmps33]) fun X R hR => ?_
    unfold Cx33 at hR ⊢
    simp only [resC] at hR
    (repeat ((try simp only [cl_seq, cl_skip]); with_reducible refine cg fun K hK => ?_; (simp (maxSteps := 1000000) only [go_sem, Opn.c, Nat.reduceBEq, hS, hlo, h8, List.size_toArray, Array.size_empty, Option.map_some, hix]); (repeat refine ck ?_); (try simp (disch := omega) only [wrap64, wrapi64]); refine hK _ ?_; clear hK K))
    (((try simp only [cl_seq, cl_skip]); refine cl_cond (b := false) rfl (fun h => nomatch h) (fun _ => ?_)))
    (repeat ((try simp only [cl_seq, cl_skip]); with_reducible refine cg fun K hK => ?_; (simp (maxSteps := 1000000) only [go_sem, Nat.reduceBEq, hS, hlo, h8, updO_at, topR_wr' _ _ _ _ _ _ _ hk, topR_wr _ _ _ _ _ _ _ hk]); (repeat refine ck ?_); (try simp (disch := omega) only [wrap64, wrapi64]); refine hK _ ?_; clear hK K))
    (((try simp only [cl_seq, cl_skip]); (try simp only [cl_ret]); refine hR _ _ (.inr rfl) ?_; (simp (maxSteps := 1000000) only [go_sem])))
end
end Go.Proofs.Ytapdaefpkddioaa.Pe
namespace Go.Proofs.Ytapdaefpkddioaa.Pe
open Go
set_option maxHeartbeats 2000000
theorem bytes_ext {a b : ByteArray} (h : a.data.toList = b.data.toList) : a = b := _root_.ByteArray.ext (Array.toList_inj.mp h)
theorem bytes_beq (a b : ByteArray) : (a == b) = decide (a = b) := by
  have e : (a == b) = (a.data == b.data) := rfl
  rw [e]
  by_cases h : a = b
  · subst h; simp
  · rw [decide_eq_false h]
    refine beq_eq_false_iff_ne.2 fun hd => h (_root_.ByteArray.ext hd)
theorem bytes_tbeq (a b : ByteArray) : (a.toList == b.toList) = decide (a = b) := by
  by_cases h : a = b
  · subst h; simp
  · rw [decide_eq_false h]
    refine beq_eq_false_iff_ne.2 fun hd => h (bytes_ext ?_)
    rw [ByteArray.toList_eq, ByteArray.toList_eq] at hd
    exact hd
theorem findIdx_congr {α : Type} {l : List α} {p q : α → Bool} (h : ∀ x ∈ l, p x = q x) : l.findIdx? p = l.findIdx? q := by
  induction l with
  | nil => rfl
  | cons x l ih => rw [List.findIdx?_cons, List.findIdx?_cons, h x (by simp), ih (fun y hy => h y (by simp [hy]))]
def isNm (nm : ByteArray) (e : En) : Bool := decide (e.name = nm)
theorem mapFind_rowsE (nm : ByteArray) : ∀ (l : List En) (i : Nat), mapFind (.str nm) (rowsE l) i = some ((l.findIdx? (isNm nm)).map fun j => (i + j, .int .u64 ((l[j]?.map (·.off)).getD 0)))
  | [], _ => rfl
  | e :: l, i => by
    simp only [rowsE, List.map_cons, En.c, mapFind, keyEq, bytes_beq]
    by_cases h : nm = e.name
    · rw [decide_eq_true h]
      simp [List.findIdx?_cons, isNm, h]
    · rw [decide_eq_false h]
      have h' : ¬ e.name = nm := fun e => h e.symm
      have ih := mapFind_rowsE nm l (i + 1)
      unfold rowsE at ih
      simp only [ih]
      rw [List.findIdx?_cons]
      have hb : isNm nm e = false := by simp [isNm, h']
      rw [hb]
      cases hf : l.findIdx? (isNm nm) with
      | none => rfl
      | some j => simp; omega
section
variable {K : Nat} {s : St} {S B M : Nat} {ml : List Mb} {H : Hp} {nx : Nat} {c : Int} {op : Opn}
theorem Ms.offn (h : Ms K s S B M ml H nx) : ∀ e ∈ s.names, 3808 ≤ e.off ∧ e.off ≤ 100032 := by
  intro e he
  obtain ⟨b, hb, _, _, h4⟩ := h.nm.at_ e he
  have h1 := h.wk.hi.mem hb
  have h2 := (h.wk.hi.bs b hb).size0
  have h3 := h.wk.fin1
  omega
theorem Ms.named (h : Ms K s S B M ml H nx) (nm : ByteArray) : namedV s.names nm 0 = match s.names.findIdx? (isNm nm) with
    | some i => (i : Int)
    | none => -1 := by
  have hc : ∀ e ∈ s.names, nameP nm 0 e = isNm nm e := by
    intro e he
    have := h.offn e he
    unfold nameP isNm
    rw [bytes_tbeq, show (e.off == 0) = false by simp; omega, Bool.or_false]
  unfold namedV
  rw [findIdx_congr hc]
  cases s.names.findIdx? (isNm nm) <;> rfl
noncomputable def Cx28 : (Nat → Prop) → Ctx := fun X => { nt := 35, tt := tt, fns := ofList [(56, .eff wpackF), (19, .pure failF)], keep := keep28, X := X }
noncomputable def findT : List AD → Hp → Nat → Option (RV × Hp × Nat) := semT Try.f28 Cx28 Try.f28.results
theorem findT_ok : FnEff Try.prog 28 findT := semT_ok mixed Try.func28 rfl (fun X => ok_of (l := [(56, .eff wpackF), (19, .pure failF)]) tt_ok ⟨wpack_ok, by kernel_rfl, fail_ok, by kernel_rfl, trivial⟩ (noEqs _)) (fun _ => rfl) (fun _ => rfl) (by decide) rfl
def findR (s : St) (op : Opn) : Int × Int := if packV op.name then (match s.names.findIdx? (isNm op.name) with
  | none => (6, 0)
  | some i => (0, (s.names[i]?.map (·.off)).getD 0)) else (8, 0)
theorem find_run (h : Ms K s S B M ml H nx) (hnm : op.name.size < 100000000) :
    findT [.one (.ptr S 12 0 0), .one (.int .i64 c), .many op.c] H nx = some (.a (.many (resC (findR s op).1 (findR s op).2 0)), updO H nx (wObj (wPack op.name)), nx + 1) ∧ Ms K s S B M ml (updO H nx (wObj (wPack op.name))) (nx + 1) := by
  have hj := h.junk (wObj (wPack op.name))
  refine ⟨?_, hj⟩
  have h8 := h.wk.lv8
  have hlo := rowsO_len s.live
  have hS := hj.hs.top
  have hM := hj.mp
  have hp : wpackF [.one (.str op.name)] H nx = some (.tup [.many [.int .u64 (wPack op.name).1, .int .u64 (wPack op.name).2], .one (.bool (packV op.name))], updO H nx (wObj (wPack op.name)), nx + 1) := by simp [wpackF, hnm]
  have hf := mapFind_rowsE op.name s.names 0
  generalize updO H nx (wObj (wPack op.name)) = H1 at *
  generalize hv : (RV.a (.many (resC (findR s op).1 (findR s op).2 0))) = r
  unfold findR at hv
  unfold findT
  rw [Try.results28]
  refine semT_eq rfl (by simp [Try.ntmps28]) fun X R hR => ?_
  unfold Cx28 at hR ⊢
  simp only [resC] at hR
  cases hpk : packV op.name with
  | false =>
    rw [hpk] at hp hv
    (repeat ((try simp only [cl_seq, cl_skip]); with_reducible refine cg fun K hK => ?_; (simp (maxSteps := 1000000) only [go_sem, Opn.c, hp, Bool.not_false]); (repeat refine ck ?_); (try simp (disch := omega) only [wrap64, wrapi64]); refine hK _ ?_; clear hK K))
    (((try simp only [cl_seq, cl_skip]); refine cl_cond (b := true) rfl (fun _ => ?_) (fun h => nomatch h)))
    (repeat ((try simp only [cl_seq, cl_skip]); with_reducible refine cg fun K hK => ?_; (simp (maxSteps := 1000000) only [go_sem, failF_eq]); (repeat refine ck ?_); (try simp (disch := omega) only [wrap64, wrapi64]); refine hK _ ?_; clear hK K))
    (((try simp only [cl_seq, cl_skip]); (try simp only [cl_ret]); refine hR _ _ (.inr rfl) ?_; (simp (maxSteps := 1000000) only [go_sem])))
    rw [← hv]; rfl
  | true =>
    rw [hpk] at hp hv
    simp only [↓reduceIte] at hv
    cases hfi : s.names.findIdx? (isNm op.name) with
    | none =>
      rw [hfi] at hf hv
      (repeat ((try simp only [cl_seq, cl_skip]); with_reducible refine cg fun K hK => ?_; (simp (maxSteps := 1000000) only [go_sem, Opn.c, hp, Bool.not_true]); (repeat refine ck ?_); (try simp (disch := omega) only [wrap64, wrapi64]); refine hK _ ?_; clear hK K))
      (((try simp only [cl_seq, cl_skip]); refine cl_cond (b := false) rfl (fun h => nomatch h) (fun _ => ?_)))
      (repeat ((try simp only [cl_seq, cl_skip]); with_reducible refine cg fun K hK => ?_; (simp (maxSteps := 1000000) only [go_sem, hS, hM, hlo, h8, hf, Option.map_none, Bool.not_false]); (repeat refine ck ?_); (try simp (disch := omega) only [wrap64, wrapi64]); refine hK _ ?_; clear hK K))
      (((try simp only [cl_seq, cl_skip]); refine cl_cond (b := true) rfl (fun _ => ?_) (fun h => nomatch h)))
      (repeat ((try simp only [cl_seq, cl_skip]); with_reducible refine cg fun K hK => ?_; (simp (maxSteps := 1000000) only [go_sem, failF_eq]); (repeat refine ck ?_); (try simp (disch := omega) only [wrap64, wrapi64]); refine hK _ ?_; clear hK K))
      (((try simp only [cl_seq, cl_skip]); (try simp only [cl_ret]); refine hR _ _ (.inr rfl) ?_; (simp (maxSteps := 1000000) only [go_sem])))
      rw [← hv]; rfl
    | some i =>
      rw [hfi] at hf hv
      (repeat ((try simp only [cl_seq, cl_skip]); with_reducible refine cg fun K hK => ?_; (simp (maxSteps := 1000000) only [go_sem, Opn.c, hp, Bool.not_true]); (repeat refine ck ?_); (try simp (disch := omega) only [wrap64, wrapi64]); refine hK _ ?_; clear hK K))
      (((try simp only [cl_seq, cl_skip]); refine cl_cond (b := false) rfl (fun h => nomatch h) (fun _ => ?_)))
      (repeat ((try simp only [cl_seq, cl_skip]); with_reducible refine cg fun K hK => ?_; (simp (maxSteps := 1000000) only [go_sem, hS, hM, hlo, h8, hf, Option.map_some, Bool.not_true]); (repeat refine ck ?_); (try simp (disch := omega) only [wrap64, wrapi64]); refine hK _ ?_; clear hK K))
      (((try simp only [cl_seq, cl_skip]); refine cl_cond (b := false) rfl (fun h => nomatch h) (fun _ => ?_)))
      (repeat ((try simp only [cl_seq, cl_skip]); with_reducible refine cg fun K hK => ?_; (simp (maxSteps := 1000000) only [go_sem]); (repeat refine ck ?_); (try simp (disch := omega) only [wrap64, wrapi64]); refine hK _ ?_; clear hK K))
      (((try simp only [cl_seq, cl_skip]); (try simp only [cl_ret]); refine hR _ _ (.inr rfl) ?_; (simp (maxSteps := 1000000) only [go_sem])))
      rw [← hv]; rfl
end
end Go.Proofs.Ytapdaefpkddioaa.Pe
namespace Go.Proofs.Ytapdaefpkddioaa.Pe
open Go
set_option maxHeartbeats 2000000
theorem merged_congr : ∀ {l m : List Bk}, l.map (·.used) = m.map (·.used) → merged l → merged m
  | [], [], _, _ => trivial
  | [], _ :: _, h, _ => by simp at h
  | _ :: _, [], h, _ => by simp at h
  | [_], [_], _, _ => trivial
  | [_], _ :: _ :: _, h, _ => by simp at h
  | _ :: _ :: _, [_], h, _ => by simp at h
  | a :: b :: l, c :: d :: m, h, hm => by
    simp only [List.map_cons, List.cons.injEq] at h
    refine ⟨?_, merged_congr (l := b :: l) (m := d :: m) (by simp [h.2.1, h.2.2]) hm.2⟩
    rw [← h.1, ← h.2.1]; exact hm.1
theorem chain_congr : ∀ {l m : List Bk} {a z : Int}, l.map (fun b => (b.off, b.size)) = m.map (fun b => (b.off, b.size)) → chain a l z → chain a m z
  | [], [], _, _, _, h => h
  | [], _ :: _, _, _, h, _ => by simp at h
  | _ :: _, [], _, _, h, _ => by simp at h
  | b :: l, c :: m, a, z, h, hc => by
    simp only [List.map_cons, List.cons.injEq, Prod.mk.injEq] at h
    refine ⟨by rw [← h.1.1]; exact hc.1, ?_⟩
    rw [← h.1.2]
    exact chain_congr h.2 hc.2
theorem map_set_same {α β : Type} {l : List α} {i : Nat} (hi : i < l.length) {c : α} {f : α → β} (hf : f c = f l[i]) : (l.set i c).map f = l.map f := by
  apply List.ext_getElem?
  intro j
  rw [List.getElem?_map, List.getElem?_map, List.getElem?_set]
  split
  · rename_i e; subst e
    simp [hi, hf]
  · rfl
theorem off_inj {h : Hpp} (v : h.Inv) {b c : Bk} (hb : b ∈ h.bl) (hc : c ∈ h.bl) (e : b.off = c.off) : b = c := by
  obtain ⟨i, hi, rfl⟩ := List.getElem_of_mem hb
  obtain ⟨j, hj, rfl⟩ := List.getElem_of_mem hc
  have := chain_inj v.ch (fun b hb => by have := (v.bs b hb).size0; omega) hi hj e
  subst this; rfl
theorem listDel_get (ls : List (List Int)) (o x : Int) (k : Nat) (hk : k < ls.length) (hk' : k < (listDel ls o x).length) : (listDel ls o x)[k] = if o = (k : Int) + 1 then ls[k].filter (· ≠ x) else ls[k] := by
  have key : (listDel ls o x)[k]? = some (if o = (k : Int) + 1 then ls[k].filter (· ≠ x) else ls[k]) := by
    unfold listDel
    split
    · rename_i h0
      by_cases e : o = (k : Int) + 1
      · have : (o - 1).toNat = k := by omega
        rw [this, if_pos e, List.getElem?_set_self hk, List.getElem?_eq_getElem hk, Option.getD_some]
      · have : ¬ (o - 1).toNat = k := by omega
        rw [if_neg e, List.getElem?_set_ne this, List.getElem?_eq_getElem hk]
    · rename_i h0
      rw [if_neg (by omega), List.getElem?_eq_getElem hk]
  exact (List.getElem?_eq_some_iff.1 key).2
theorem listAdd_get (ls : List (List Int)) (o x : Int) (k : Nat) (hk : k < ls.length) (hk' : k < (listAdd ls o x).length) : (listAdd ls o x)[k] = if o = (k : Int) + 1 then x :: ls[k] else ls[k] := by
  have key : (listAdd ls o x)[k]? = some (if o = (k : Int) + 1 then x :: ls[k] else ls[k]) := by
    unfold listAdd
    split
    · rename_i h0
      by_cases e : o = (k : Int) + 1
      · have : (o - 1).toNat = k := by omega
        rw [this, if_pos e, List.getElem?_set_self hk, List.getElem?_eq_getElem hk, Option.getD_some]
      · have : ¬ (o - 1).toNat = k := by omega
        rw [if_neg e, List.getElem?_set_ne this, List.getElem?_eq_getElem hk]
    · rename_i h0
      rw [if_neg (by omega), List.getElem?_eq_getElem hk]
  exact (List.getElem?_eq_some_iff.1 key).2
theorem listAdd_len (ls : List (List Int)) (o x : Int) : (listAdd ls o x).length = ls.length := by unfold listAdd; split <;> simp
theorem ownerH_inv {h : Hpp} (v : h.Inv) {i : Nat} (hi : i < h.bl.length) (hu : h.bl[i].used = true) {who : Int} (w0 : 0 ≤ who) (w1 : who ≤ 8) :
    ({ h with bl := h.bl.set i { h.bl[i] with owner := who }, ls := listAdd (listDel h.ls h.bl[i].owner h.bl[i].off) who h.bl[i].off } : Hpp).Inv := by
  have hg := v.bs _ (List.getElem_mem hi)
  have hmem : ∀ b, b ∈ h.bl.set i { h.bl[i] with owner := who } ↔ (b = { h.bl[i] with owner := who }) ∨ (b ∈ h.bl ∧ b.off ≠ h.bl[i].off) := by
    intro b
    constructor
    · intro hb
      obtain ⟨j, hj, rfl⟩ := List.getElem_of_mem hb
      rw [List.length_set] at hj
      rw [List.getElem_set]
      split
      · exact .inl rfl
      · rename_i hne
        refine .inr ⟨List.getElem_mem hj, fun e => hne ?_⟩
        exact (chain_inj v.ch (fun b hb => by have := (v.bs b hb).size0; omega) hj hi e).symm
    · rintro (rfl | ⟨hb, hne⟩)
      · exact List.mem_iff_getElem.2 ⟨i, by rw [List.length_set]; exact hi, by simp⟩
      · obtain ⟨j, hj, rfl⟩ := List.getElem_of_mem hb
        refine List.mem_iff_getElem.2 ⟨j, by rw [List.length_set]; exact hj, ?_⟩
        rw [List.getElem_set_ne]
        rintro rfl
        exact hne rfl
  refine ⟨by simp only; rw [listAdd_len, listDel_len]; exact v.eight, chain_congr (l := h.bl) (map_set_same (c := { h.bl[i] with owner := who }) (f := fun b => (b.off, b.size)) hi rfl).symm v.ch, v.fin1, ?_, ?_, merged_congr (l := h.bl) (map_set_same (c := { h.bl[i] with owner := who }) (f := fun b => b.used) hi rfl).symm v.mg⟩
  · intro b hb
    rcases (hmem b).1 hb with rfl | ⟨hb, _⟩
    · exact ⟨hg.size0, hg.size16, w0, w1, hg.len0, hg.need, fun hf => by simp only [hu] at hf; cases hf⟩
    · exact v.bs b hb
  · intro k hk
    simp only at hk ⊢
    have hk1 : k < (listDel h.ls h.bl[i].owner h.bl[i].off).length := by rw [listAdd_len] at hk; exact hk
    have hk0 : k < h.ls.length := by rw [listDel_len] at hk1; exact hk1
    have ow := v.own k hk0
    rw [listAdd_get _ _ _ _ hk1 hk, listDel_get _ _ _ _ hk0 hk1]
    have hx : h.bl[i].off ∈ h.ls[k] ↔ h.bl[i].owner = (k : Int) + 1 := by
      rw [ow.mem]
      constructor
      · rintro ⟨b, hb, _, h2, h3⟩
        have := off_inj v hb (List.getElem_mem hi) h3
        rw [← this]; exact h2
      · intro e
        exact ⟨_, List.getElem_mem hi, hu, e, rfl⟩
    have hrest : ∀ y, (y ∈ (if h.bl[i].owner = (k : Int) + 1 then h.ls[k].filter (· ≠ h.bl[i].off) else h.ls[k])) ↔ y ∈ h.ls[k] ∧ y ≠ h.bl[i].off := by
      intro y
      split
      · simp
      · rename_i hne
        constructor
        · intro hy
          refine ⟨hy, fun e => hne ?_⟩
          subst e
          exact hx.1 hy
        · exact fun h => h.1
    have hndr : (if h.bl[i].owner = (k : Int) + 1 then h.ls[k].filter (· ≠ h.bl[i].off) else h.ls[k]).Nodup := by
      split
      · exact ow.nd.filter _
      · exact ow.nd
    refine ⟨?_, fun y => ?_⟩
    · split
      · exact List.nodup_cons.2 ⟨fun hc => ((hrest _).1 hc).2 rfl, hndr⟩
      · exact hndr
    · have hr : (∃ b ∈ h.bl.set i { h.bl[i] with owner := who }, b.used = true ∧ b.owner = (k : Int) + 1 ∧ b.off = y) ↔ (who = (k : Int) + 1 ∧ y = h.bl[i].off) ∨ (y ∈ h.ls[k] ∧ y ≠ h.bl[i].off) := by
        constructor
        · rintro ⟨b, hb, h1, h2, h3⟩
          rcases (hmem b).1 hb with rfl | ⟨hb, hne⟩
          · exact .inl ⟨h2, h3.symm⟩
          · exact .inr ⟨(ow.mem y).2 ⟨b, hb, h1, h2, h3⟩, by rw [← h3]; exact hne⟩
        · rintro (⟨h1, h2⟩ | ⟨h1, h2⟩)
          · exact ⟨_, (hmem _).2 (.inl rfl), hu, h1, h2.symm⟩
          · obtain ⟨b, hb, q1, q2, q3⟩ := (ow.mem y).1 h1
            exact ⟨b, (hmem b).2 (.inr ⟨hb, by rw [q3]; exact h2⟩), q1, q2, q3⟩
      rw [hr]
      by_cases hw : who = (k : Int) + 1
      · rw [if_pos hw, List.mem_cons, hrest]
        simp [hw]
      · rw [if_neg hw, hrest]
        simp [hw]
section
variable {K : Nat} {s : St} {S B M : Nat} {ml : List Mb} {H : Hp} {nx : Nat} {c : Int} {op : Opn}
theorem Ms.owner (h : Ms K s S B M ml H nx) {i : Nat} (hi : i < ml.length) (hu : ml[i].b.used = true) (hne : ml[i].b.owner ≠ 0) {who : Int} (w0 : 0 ≤ who) (w1 : who ≤ 8) :
    Ms K (ownerV s i who) S B M (ml.set i ⟨{ ml[i].b with owner := who }, ml[i].d⟩) (updO H B (blkO (ml.set i ⟨{ ml[i].b with owner := who }, ml[i].d⟩))) nx := by
  have hib : i < s.h.bl.length := by rw [← h.bs, bks_len]; exact hi
  have hbg : s.h.bl[i] = ml[i].b := by simp only [← h.bs, bks, List.getElem_map]
  have hov : ownerV s i who = { s with h := { s.h with bl := s.h.bl.set i { s.h.bl[i] with owner := who }, ls := listAdd (listDel s.h.ls s.h.bl[i].owner s.h.bl[i].off) who s.h.bl[i].off } } := by
    unfold ownerV; rw [List.getElem?_eq_getElem hib]
  have hinv := ownerH_inv h.wk.hi hib (by rw [hbg]; exact hu) w0 w1
  obtain ⟨lM, nS, nB⟩ := h.ltM
  obtain ⟨hs1, _⟩ := set_hs h.hs (ml.set i ⟨{ ml[i].b with owner := who }, ml[i].d⟩) (by simp)
  rw [hov]
  have hmap : ∀ {β : Type} (f : Mb → β), f ⟨{ ml[i].b with owner := who }, ml[i].d⟩ = f ml[i] → (ml.set i ⟨{ ml[i].b with owner := who }, ml[i].d⟩).map f = ml.map f := fun f hf => map_set_same hi hf
  have hud : ∀ l l' : List Mb, l.map (fun m => (m.b.used, m.d)) = l'.map (fun m => (m.b.used, m.d)) → (usedM l).filterMap (·.d.oid) = (usedM l').filterMap (·.d.oid) := by
    intro l
    induction l with
    | nil => intro l' e; cases l' with
      | nil => rfl
      | cons => simp at e
    | cons m l ih => intro l' e; cases l' with
      | nil => simp at e
      | cons m' l' =>
        simp only [List.map_cons, List.cons.injEq, Prod.mk.injEq] at e
        have := ih l' e.2
        unfold usedM at this ⊢
        rw [List.filter_cons, List.filter_cons, e.1.1]
        split
        · rw [List.filterMap_cons, List.filterMap_cons, e.1.2, this]
        · exact this
  refine ⟨hs1, by rw [updO_ne nB]; exact h.mp, ?_, ?_, ?_, ?_, ⟨hinv, h.wk.lv8, h.wk.fin1, h.wk.all0, h.wk.all1, h.wk.dl, h.wk.ds, h.wk.nl⟩, h.dl, h.pos, ?_⟩
  · rw [bks_set, h.bs, hbg]
  · intro m hm
    obtain ⟨h1, h2⟩ := mem_usedM.1 hm
    rcases List.mem_or_eq_of_mem_set h1 with h1 | h1
    · exact (h.dt m (mem_usedM.2 ⟨h1, h2⟩)).frame fun o ho => updO_ne (h.oid (mem_usedM.2 ⟨h1, h2⟩) ho).2.2.1
    · subst h1
      have hmi : ml[i] ∈ usedM ml := mem_usedM.2 ⟨List.getElem_mem hi, hu⟩
      exact (h.dt _ hmi).frame fun o ho => updO_ne (h.oid hmi ho).2.2.1
  · intro m hm hf
    rcases List.mem_or_eq_of_mem_set hm with h1 | h1
    · exact h.df m h1 hf
    · subst h1; simp only [hu] at hf; cases hf
  · rw [hud _ ml (hmap (fun m => (m.b.used, m.d)) rfl)]
    exact h.nd
  · refine h.nm.mono rfl fun b hb hbu hbo => ⟨b, ?_, hbu, hbo, rfl⟩
    obtain ⟨j, hj, rfl⟩ := List.getElem_of_mem hb
    refine List.mem_iff_getElem.2 ⟨j, by simp only [List.length_set]; exact hj, ?_⟩
    simp only
    rw [List.getElem_set_ne]
    rintro rfl
    rw [hbg] at hbo
    exact hne hbo
end
end Go.Proofs.Ytapdaefpkddioaa.Pe
