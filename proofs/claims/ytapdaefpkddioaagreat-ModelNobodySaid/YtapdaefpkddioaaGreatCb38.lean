/- A part of the proof of PmD. -/
import Derived.Test.YtapdaefpkddioaaGreatCb37
set_option linter.unusedSimpArgs false
set_option linter.unusedVariables false
set_option linter.unusedSectionVars false
namespace Go.Proofs.YtapdaefpkddioaaGreat.Pe
open Go
set_option maxHeartbeats 2000000
noncomputable def Cx24 : (Nat → Prop) → Ctx := fun X => { nt := 31, tt := tt, fns := ofList [(63, .eff mineT), (28, .pure failF), (69, .eff namedMF), (68, .eff freeMF)], keep := keep33, X := X }
noncomputable def freedT : List AD → Hp → Nat → Option (RV × Hp × Nat) := semT Tryz.f33 Cx24 Tryz.f33.results
theorem freedT_ok : FnEff Tryz.prog 33 freedT := semT_ok mixed Tryz.func33 rfl (fun X => ok_of (l := [(63, .eff mineT), (28, .pure failF), (69, .eff namedMF), (68, .eff freeMF)]) tt_ok ⟨mineT_ok, by kernel_rfl, fail_ok, by kernel_rfl, namedM_ok, by kernel_rfl, freeM_ok, by kernel_rfl, trivial⟩ (noEqs _)) (fun _ => rfl) (fun _ => rfl) (by decide) rfl
noncomputable def Cx29 : (Nat → Prop) → Ctx := fun X => { nt := 29, tt := tt, fns := ofList [(37, .eff findT), (67, .rd atR), (68, .eff freeMF)], keep := keep38, X := X }
noncomputable def destroyT : List AD → Hp → Nat → Option (RV × Hp × Nat) := semT Tryz.f38 Cx29 Tryz.f38.results
theorem destroyT_ok : FnEff Tryz.prog 38 destroyT := semT_ok mixed Tryz.func38 rfl (fun X => ok_of (l := [(37, .eff findT), (67, .rd atR), (68, .eff freeMF)]) tt_ok ⟨findT_ok, by kernel_rfl, atR_ok, at_c, freeM_ok, by kernel_rfl, trivial⟩ (noEqs _)) (fun _ => rfl) (fun _ => rfl) (by decide) rfl
section
variable {K : Nat} {s : St} {S B M : Nat} {ml : List Mb} {H : Hp} {nx : Nat} {c : Int} {op : Opn}
theorem packV_ne {nm : ByteArray} (h : packV nm = true) : nm ≠ ⟨#[]⟩ := by
  rintro rfl
  simp [packV, ByteArray.size] at h
theorem Ms.namedp (h : Ms K s S B M ml H nx) (p : Int) : (0 ≤ namedV s.names ⟨#[]⟩ p) ↔ (s.names.any (·.off == p)) = true := by
  have hc : ∀ e ∈ s.names, nameP ⟨#[]⟩ p e = (e.off == p) := by
    intro e he
    have := packV_ne (h.nm.pk e he)
    unfold nameP
    rw [bytes_tbeq, decide_eq_false this, Bool.false_or]
  unfold namedV
  rw [findIdx_congr hc]
  have := List.findIdx?_isSome (xs := s.names) (p := fun e => e.off == p)
  rw [← this]
  cases s.names.findIdx? (fun e => e.off == p) <;> simp
theorem freed_run (h : Ms K s S B M ml H nx) (c0 : 0 ≤ c) (c1 : c ≤ 7) (hk : op.kind = 5) : OpRes freedT K s S M H nx c op (blockV s c op) := by
  have h8 := h.wk.lv8
  have hlo := rowsO_len s.live
  have hmi := mineT_eq (c := c) (op := op) (al := true) h8 h.hs (by have := h.len; omega) h.offs c0 c1
  have hm := h.mine (c := c) (op := op) true (by simp [pubK, hk])
  generalize mineV (bks ml) c op.off true = mv at *
  have hnm := namedMF_eq (nx := nx) (p := op.off) h8 h.hs.top h.mp (by have := h.nm.le; omega) h.nameU
  have hnp := h.namedp op.off
  cases hm with
  | no e i he hd =>
    have hbv : blockV s c op = (s, e, 0, 0) := by unfold blockV; simp only [hd]; rw [if_pos (by omega)]
    rw [hbv]
    refine ⟨B, ml, H, nx, ?_, h.more⟩
    unfold freedT
    rw [Tryz.results33]
    refine semT_eq rfl (by simp [Tryz.ntmps33]) fun X R hR => ?_
    unfold Cx24 at hR ⊢
    simp only [resC] at hR
    simp only [iiRV, Opn.c] at hmi
    (repeat ((try simp only [cl_seq, cl_skip]); with_reducible refine cg fun K hK => ?_; (simp (maxSteps := 1000000) only [go_sem, Opn.c, hmi]); (repeat refine ck ?_); (try simp (disch := omega) only [wrap64, wrapi64]); refine hK _ ?_; clear hK K))
    (((try simp only [cl_seq, cl_skip]); refine cl_block fun K hK1 R hR1 X hX1 => ?_))
    (repeat ((try simp only [cl_seq, cl_skip]); with_reducible refine cg fun K hK => ?_; (simp (maxSteps := 1000000) only [go_sem]); (repeat refine ck ?_); (try simp (disch := omega) only [wrap64, wrapi64]); refine hK _ ?_; clear hK K))
    (((try simp only [cl_seq, cl_skip]); refine cl_cond rfl (fun g => ?_) (fun g => ?_)))
    · (repeat ((try simp only [cl_seq, cl_skip]); with_reducible refine cg fun K hK => ?_; (simp (maxSteps := 1000000) only [go_sem, failF_eq]); (repeat refine ck ?_); (try simp (disch := omega) only [wrap64, wrapi64]); refine hK _ ?_; clear hK K))
      (((try simp only [cl_seq, cl_skip]); (try simp only [cl_ret]); refine hR1 _ (hR _ _ (.inr rfl) ?_); (simp (maxSteps := 1000000) only [go_sem])))
    · exact absurd g (by simp; omega)
  | yes i hi hu hp hd ho =>
    cases hany : s.names.any (·.off == op.off) with
    | true =>
      have hbv : blockV s c op = (s, 7, 0, 0) := by
        have := hnp.2 hany
        unfold blockV; simp [hd, hk, this]
      rw [hbv]
      rw [hany] at hnm
      refine ⟨B, ml, H, nx, ?_, h.more⟩
      unfold freedT
      rw [Tryz.results33]
      refine semT_eq rfl (by simp [Tryz.ntmps33]) fun X R hR => ?_
      unfold Cx24 at hR ⊢
      simp only [resC] at hR
      simp only [iiRV, Opn.c] at hmi
      (repeat ((try simp only [cl_seq, cl_skip]); with_reducible refine cg fun K hK => ?_; (simp (maxSteps := 1000000) only [go_sem, Opn.c, hmi]); (repeat refine ck ?_); (try simp (disch := omega) only [wrap64, wrapi64]); refine hK _ ?_; clear hK K))
      (((try simp only [cl_seq, cl_skip]); refine cl_block fun K hK1 R hR1 X hX1 => ?_))
      (repeat ((try simp only [cl_seq, cl_skip]); with_reducible refine cg fun K hK => ?_; (simp (maxSteps := 1000000) only [go_sem]); (repeat refine ck ?_); (try simp (disch := omega) only [wrap64, wrapi64]); refine hK _ ?_; clear hK K))
      (((try simp only [cl_seq, cl_skip]); refine cl_cond rfl (fun g => ?_) (fun g => ?_)))
      · exact absurd g (by simp)
      (repeat ((try simp only [cl_seq, cl_skip]); with_reducible refine cg fun K hK => ?_; (simp (maxSteps := 1000000) only [go_sem, hnm]); (repeat refine ck ?_); (try simp (disch := omega) only [wrap64, wrapi64]); refine hK _ ?_; clear hK K))
      (((try simp only [cl_seq, cl_skip]); refine cl_cond (b := true) rfl (fun _ => ?_) (fun h => nomatch h)))
      (repeat ((try simp only [cl_seq, cl_skip]); with_reducible refine cg fun K hK => ?_; (simp (maxSteps := 1000000) only [go_sem, failF_eq]); (repeat refine ck ?_); (try simp (disch := omega) only [wrap64, wrapi64]); refine hK _ ?_; clear hK K))
      (((try simp only [cl_seq, cl_skip]); (try simp only [cl_ret]); refine hR1 _ (hR _ _ (.inr rfl) ?_); (simp (maxSteps := 1000000) only [go_sem])))
    | false =>
      have hbv : blockV s c op = (freedV s op.off, 0, 0, 0) := by
        have : ¬ 0 ≤ namedV s.names ⟨#[]⟩ op.off := fun hh => by rw [hnp.1 hh] at hany; cases hany
        unfold blockV; simp [hd, hk, this]
      rw [hbv]
      rw [hany] at hnm
      obtain ⟨B', H', nx', he, hms, st⟩ := free_ms h hi hu (fun e he => by
        rw [hp]
        intro hc
        have : s.names.any (·.off == op.off) = true := List.any_eq_true.2 ⟨e, he, by simp [hc]⟩
        rw [hany] at this; cases this)
      rw [hp] at hms
      refine ⟨B', _, H', nx', ?_, hms.more⟩
      unfold freedT
      rw [Tryz.results33]
      refine semT_eq rfl (by simp [Tryz.ntmps33]) fun X R hR => ?_
      unfold Cx24 at hR ⊢
      simp only [resC] at hR
      simp only [iiRV, Opn.c] at hmi
      (repeat ((try simp only [cl_seq, cl_skip]); with_reducible refine cg fun K hK => ?_; (simp (maxSteps := 1000000) only [go_sem, Opn.c, hmi]); (repeat refine ck ?_); (try simp (disch := omega) only [wrap64, wrapi64]); refine hK _ ?_; clear hK K))
      (((try simp only [cl_seq, cl_skip]); refine cl_block fun K hK1 R hR1 X hX1 => ?_))
      (repeat ((try simp only [cl_seq, cl_skip]); with_reducible refine cg fun K hK => ?_; (simp (maxSteps := 1000000) only [go_sem]); (repeat refine ck ?_); (try simp (disch := omega) only [wrap64, wrapi64]); refine hK _ ?_; clear hK K))
      (((try simp only [cl_seq, cl_skip]); refine cl_cond rfl (fun g => ?_) (fun g => ?_)))
      · exact absurd g (by simp)
      (repeat ((try simp only [cl_seq, cl_skip]); with_reducible refine cg fun K hK => ?_; (simp (maxSteps := 1000000) only [go_sem, hnm]); (repeat refine ck ?_); (try simp (disch := omega) only [wrap64, wrapi64]); refine hK _ ?_; clear hK K))
      (((try simp only [cl_seq, cl_skip]); refine cl_cond (b := false) rfl (fun h => nomatch h) (fun _ => ?_)))
      ((try simp only [cl_seq, cl_skip, cl_exit, cl_nil]))
      refine hK1 _ ?_
      (repeat ((try simp only [cl_seq, cl_skip]); with_reducible refine cg fun K hK => ?_; (simp (maxSteps := 1000000) only [go_sem, he]); (repeat refine ck ?_); (try simp (disch := omega) only [wrap64, wrapi64]); refine hK _ ?_; clear hK K))
      (((try simp only [cl_seq, cl_skip]); (try simp only [cl_ret]); refine hR _ _ (.inr rfl) ?_; (simp (maxSteps := 1000000) only [go_sem])))
end
end Go.Proofs.YtapdaefpkddioaaGreat.Pe
namespace Go.Proofs.YtapdaefpkddioaaGreat.Pe
open Go
set_option maxHeartbeats 2000000
noncomputable def Cx27 : (Nat → Prop) → Ctx := fun X => { nt := 56, tt := tt, fns := ofList [(70, .eff wpackF), (28, .pure failF), (61, .eff takeMF)], keep := keep36, X := X }
noncomputable def constructT : List AD → Hp → Nat → Option (RV × Hp × Nat) := semT Tryz.f36 Cx27 Tryz.f36.results
theorem constructT_ok : FnEff Tryz.prog 36 constructT := semT_ok mixed Tryz.func36 rfl (fun X => ok_of (l := [(70, .eff wpackF), (28, .pure failF), (61, .eff takeMF)]) tt_ok ⟨wpack_ok, by kernel_rfl, fail_ok, by kernel_rfl, takeM_ok, by kernel_rfl, trivial⟩ (noEqs _)) (fun _ => rfl) (fun _ => rfl) (by decide) rfl
section
variable {K : Nat} {s : St} {S B M : Nat} {ml : List Mb} {H : Hp} {nx : Nat} {c : Int} {op : Opn}
theorem Ms.names (h : Ms K s S B M ml H nx) (l : List En) (hl : NmOk { s with names := l }) : Ms K { s with names := l } S B M ml (updO H M (some ⟨none, 0, rowsE l⟩)) nx := by
  obtain ⟨lM, nS, nB⟩ := h.ltM
  refine ⟨⟨by rw [updO_ne nS.symm]; exact h.hs.top, by rw [updO_ne nB.symm]; exact h.hs.bl, fun o ho => by rw [updO_ne (by omega)]; exact h.hs.fresh o ho⟩, updO_at _ _ _, h.bs, fun m hm => ?_, h.df, h.nd, ⟨h.wk.hi, h.wk.lv8, h.wk.fin1, h.wk.all0, h.wk.all1, h.wk.dl, h.wk.ds, by have := hl.le; simp only at this ⊢; omega⟩, h.dl, h.pos, hl⟩
  exact (h.dt m hm).frame fun o ho => updO_ne (h.oid hm ho).2.2.2
theorem NmOk.erase (h : NmOk s) (i : Nat) : NmOk { s with names := s.names.take i ++ s.names.drop (i + 1) } := by
  have hs : (s.names.take i ++ s.names.drop (i + 1)).Sublist s.names := by
    rw [← List.eraseIdx_eq_take_drop_succ]
    exact List.eraseIdx_sublist _ _
  exact ⟨Nat.le_trans hs.length_le h.le, fun e he => h.pk e (hs.subset he), fun e he => h.at_ e (hs.subset he), h.nn.sublist (hs.map _), h.no.sublist (hs.map _)⟩
theorem findIdx_isNm {nm : ByteArray} {l : List En} {i : Nat} (h : l.findIdx? (isNm nm) = some i) : ∃ hi : i < l.length, l[i].name = nm := by
  rw [List.findIdx?_eq_some_iff_getElem] at h
  obtain ⟨hi, h1, _⟩ := h
  exact ⟨hi, by simpa [isNm] using h1⟩
theorem destroy_run (h : Ms K s S B M ml H nx) (hk : op.kind = 10) (hnm : op.name.size < 100000000) : OpRes destroyT K s S M H nx c op (nameV s op) := by
  obtain ⟨hf, hms⟩ := find_run (c := c) h hnm
  have hnd := h.named op.name
  have h8 := h.wk.lv8
  have hlo := rowsO_len s.live
  generalize updO H nx (wObj (wPack op.name)) = H1 at *
  have bad : ∀ e : Int, e ≠ 0 → findR s op = (e, 0) → nameV s op = (s, e, 0, 0) → OpRes destroyT K s S M H nx c op (nameV s op) := by
    intro e he hfr hnv
    rw [hnv]
    rw [hfr] at hf
    refine ⟨B, ml, H1, nx + 1, ?_, hms.more⟩
    unfold destroyT
    rw [Tryz.results38]
    refine semT_eq rfl (by simp [Tryz.ntmps38]) fun X R hR => ?_
    unfold Cx29 at hR ⊢
    simp only [resC, Opn.c] at hR hf
    (repeat ((try simp only [cl_seq, cl_skip]); with_reducible refine cg fun K hK => ?_; (simp (maxSteps := 1000000) only [go_sem, Opn.c, hf]); (repeat refine ck ?_); (try simp (disch := omega) only [wrap64, wrapi64]); refine hK _ ?_; clear hK K))
    (((try simp only [cl_seq, cl_skip]); refine cl_cond rfl (fun g => ?_) (fun g => ?_)))
    · (repeat ((try simp only [cl_seq, cl_skip]); with_reducible refine cg fun K hK => ?_; (simp (maxSteps := 1000000) only [go_sem]); (repeat refine ck ?_); (try simp (disch := omega) only [wrap64, wrapi64]); refine hK _ ?_; clear hK K))
      (((try simp only [cl_seq, cl_skip]); (try simp only [cl_ret]); refine hR _ _ (.inr rfl) ?_; (simp (maxSteps := 1000000) only [go_sem])))
    · exact absurd g (by simp; omega)
  cases hpk : packV op.name with
  | false => exact bad 8 (by omega) (by simp [findR, hpk]) (by simp [nameV, hpk])
  | true =>
    cases hfi : s.names.findIdx? (isNm op.name) with
    | none =>
      rw [hfi] at hnd
      exact bad 6 (by omega) (by simp [findR, hpk, hfi]) (by unfold nameV; simp only [hpk, ↓reduceIte, hnd, hk]; simp)
    | some i =>
      rw [hfi] at hnd
      simp only at hnd
      obtain ⟨hi, hin⟩ := findIdx_isNm hfi
      have hnv : nameV s op = (freedV { s with names := s.names.take i ++ s.names.drop (i + 1) } s.names[i].off, 0, 0, 0) := by
        unfold nameV
        simp only [hpk, ↓reduceIte, hnd, hk, Int.toNat_natCast, List.getElem?_eq_getElem hi, Option.map_some, Option.getD_some]
        simp
      rw [hnv]
      have hfr : findR s op = (0, s.names[i].off) := by simp [findR, hpk, hfi, hi]
      rw [hfr] at hf
      have hn2 := hms.names _ (h.nm.erase i)
      obtain ⟨b, hb, hb1, hb2, hb3⟩ := h.nm.at_ _ (List.getElem_mem hi)
      obtain ⟨m, hm, hmb⟩ := h.usedB hb hb1
      obtain ⟨j, hj, rfl⟩ := List.getElem_of_mem (mem_usedM.1 hm).1
      have hoff : ml[j].b.off + 32 = s.names[i].off := by rw [hmb]; exact hb3
      have hpl := hn2.place hj (mem_usedM.1 hm).2
      rw [hoff, ← hn2.bs] at hpl
      have hat := atR_eq (p := s.names[i].off) hn2.wk.lv8 hn2.hs (by have := hn2.len; omega) hn2.offs
      rw [show placeV (bks ml) s.names[i].off = (j : Int) by simp [placeV, hpl]] at hat
      obtain ⟨B', H', nx', he, hms2, st⟩ := free_ms hn2 hj (mem_usedM.1 hm).2 (fun e he => by
        rw [hoff]
        intro hc
        have hno := h.nm.no
        have e1 := splitM hi
        rw [e1, List.map_append, List.map_cons, List.nodup_append] at hno
        obtain ⟨_, q2, q3⟩ := hno
        rcases List.mem_append.1 he with he | he
        · exact q3 e.off (List.mem_map.2 ⟨e, he, rfl⟩) _ List.mem_cons_self hc
        · have := (List.nodup_cons.1 q2).1
          exact this (List.mem_map.2 ⟨e, he, hc⟩))
      rw [hoff] at hms2
      refine ⟨B', _, H', nx', ?_, hms2.more⟩
      have hMf := mapFind_rowsE op.name s.names 0
      rw [hfi] at hMf
      have hS := hms.hs.top
      have hM := hms.mp
      have her : (rowsE s.names).eraseIdx (0 + i) = rowsE (s.names.take i ++ s.names.drop (i + 1)) := by
        rw [Nat.zero_add, List.eraseIdx_eq_take_drop_succ]
        simp [rowsE]
      unfold destroyT
      rw [Tryz.results38]
      refine semT_eq rfl (by simp [Tryz.ntmps38]) fun X R hR => ?_
      unfold Cx29 at hR ⊢
      simp only [resC, Opn.c] at hR hf
      (repeat ((try simp only [cl_seq, cl_skip]); with_reducible refine cg fun K hK => ?_; (simp (maxSteps := 1000000) only [go_sem, Opn.c, hf]); (repeat refine ck ?_); (try simp (disch := omega) only [wrap64, wrapi64]); refine hK _ ?_; clear hK K))
      (((try simp only [cl_seq, cl_skip]); refine cl_cond rfl (fun g => ?_) (fun g => ?_)))
      · exact absurd g (by simp)
      · simp only [Nat.zero_add] at her hMf
        (repeat ((try simp only [cl_seq, cl_skip]); with_reducible refine cg fun K hK => ?_; (simp (maxSteps := 1000000) only [go_sem, hS, hM, hlo, h8, hMf, Option.map_some, her, hat, he]); (repeat refine ck ?_); (try simp (disch := omega) only [wrap64, wrapi64]); refine hK _ ?_; clear hK K))
        (((try simp only [cl_seq, cl_skip]); (try simp only [cl_ret]); refine hR _ _ (.inr rfl) ?_; (simp (maxSteps := 1000000) only [go_sem])))
theorem construct_run (hK : K < 48999) (h : Ms K s S B M ml H nx) (hk : op.kind = 8) (ho : op.ok) (hnm : op.name.size < 100000000) : ∃ B' ml' H' nx', constructT [.one (.ptr S 12 0 0), .one (.int .i64 c), .many op.c] H nx = some (.a (.many (resC (nameV s op).2.1 (nameV s op).2.2.1 (nameV s op).2.2.2)), H', nx') ∧ Ms (K + 1) (nameV s op).1 S B' M ml' H' nx' := by
  have hms := h.junk (wObj (wPack op.name))
  have hp : wpackF [.one (.str op.name)] H nx = some (.tup [.many [.int .u64 (wPack op.name).1, .int .u64 (wPack op.name).2], .one (.bool (packV op.name))], updO H nx (wObj (wPack op.name)), nx + 1) := by simp [wpackF, hnm]
  have hnd := h.named op.name
  have h8 := h.wk.lv8
  have hlo := rowsO_len s.live
  have hMf := mapFind_rowsE op.name s.names 0
  have hel := rowsE_len s.names
  generalize updO H nx (wObj (wPack op.name)) = H1 at *
  have hS := hms.hs.top
  have hM := hms.mp
  cases hpk : packV op.name with
  | false =>
    have hnv : nameV s op = (s, 8, 0, 0) := by simp [nameV, hpk]
    rw [hnv]
    rw [hpk] at hp
    refine ⟨B, ml, H1, nx + 1, ?_, hms.more⟩
    unfold constructT
    rw [Tryz.results36]
    refine semT_eq rfl (by simp [Tryz.ntmps36]) fun X R hR => ?_
    unfold Cx27 at hR ⊢
    simp only [resC] at hR
    (repeat ((try simp only [cl_seq, cl_skip]); with_reducible refine cg fun K hK => ?_; (simp (maxSteps := 1000000) only [go_sem, Opn.c, hp, Bool.not_false]); (repeat refine ck ?_); (try simp (disch := omega) only [wrap64, wrapi64]); refine hK _ ?_; clear hK K))
    (((try simp only [cl_seq, cl_skip]); refine cl_cond (b := true) rfl (fun _ => ?_) (fun h => nomatch h)))
    (repeat ((try simp only [cl_seq, cl_skip]); with_reducible refine cg fun K hK => ?_; (simp (maxSteps := 1000000) only [go_sem, failF_eq]); (repeat refine ck ?_); (try simp (disch := omega) only [wrap64, wrapi64]); refine hK _ ?_; clear hK K))
    (((try simp only [cl_seq, cl_skip]); (try simp only [cl_ret]); refine hR _ _ (.inr rfl) ?_; (simp (maxSteps := 1000000) only [go_sem])))
  | true =>
    rw [hpk] at hp
    cases hfi : s.names.findIdx? (isNm op.name) with
    | some i =>
      rw [hfi] at hnd hMf
      simp only at hnd
      have hnv : nameV s op = (s, 7, 0, 0) := by unfold nameV; simp only [hpk, ↓reduceIte, hnd, hk]; simp
      rw [hnv]
      refine ⟨B, ml, H1, nx + 1, ?_, hms.more⟩
      unfold constructT
      rw [Tryz.results36]
      refine semT_eq rfl (by simp [Tryz.ntmps36]) fun X R hR => ?_
      unfold Cx27 at hR ⊢
      simp only [resC] at hR
      (repeat ((try simp only [cl_seq, cl_skip]); with_reducible refine cg fun K hK => ?_; (simp (maxSteps := 1000000) only [go_sem, Opn.c, hp, Bool.not_true]); (repeat refine ck ?_); (try simp (disch := omega) only [wrap64, wrapi64]); refine hK _ ?_; clear hK K))
      (((try simp only [cl_seq, cl_skip]); refine cl_cond (b := false) rfl (fun h => nomatch h) (fun _ => ?_)))
      (repeat ((try simp only [cl_seq, cl_skip]); with_reducible refine cg fun K hK => ?_; (simp (maxSteps := 1000000) only [go_sem, hS, hM, hlo, h8, hMf, Option.map_some]); (repeat refine ck ?_); (try simp (disch := omega) only [wrap64, wrapi64]); refine hK _ ?_; clear hK K))
      (((try simp only [cl_seq, cl_skip]); refine cl_cond (b := true) rfl (fun _ => ?_) (fun h => nomatch h)))
      (repeat ((try simp only [cl_seq, cl_skip]); with_reducible refine cg fun K hK => ?_; (simp (maxSteps := 1000000) only [go_sem, failF_eq]); (repeat refine ck ?_); (try simp (disch := omega) only [wrap64, wrapi64]); refine hK _ ?_; clear hK K))
      (((try simp only [cl_seq, cl_skip]); (try simp only [cl_ret]); refine hR _ _ (.inr rfl) ?_; (simp (maxSteps := 1000000) only [go_sem])))
    | none =>
      rw [hfi] at hnd hMf
      simp only at hnd
      by_cases h16 : 16 ≤ s.names.length
      · have hnv : nameV s op = (s, 9, 0, 0) := by unfold nameV; simp only [hpk, ↓reduceIte, hnd, hk]; simp [h16]
        rw [hnv]
        refine ⟨B, ml, H1, nx + 1, ?_, hms.more⟩
        unfold constructT
        rw [Tryz.results36]
        refine semT_eq rfl (by simp [Tryz.ntmps36]) fun X R hR => ?_
        unfold Cx27 at hR ⊢
        simp only [resC] at hR
        (repeat ((try simp only [cl_seq, cl_skip]); with_reducible refine cg fun K hK => ?_; (simp (maxSteps := 1000000) only [go_sem, Opn.c, hp, Bool.not_true]); (repeat refine ck ?_); (try simp (disch := omega) only [wrap64, wrapi64]); refine hK _ ?_; clear hK K))
        (((try simp only [cl_seq, cl_skip]); refine cl_cond (b := false) rfl (fun h => nomatch h) (fun _ => ?_)))
        (repeat ((try simp only [cl_seq, cl_skip]); with_reducible refine cg fun K hK => ?_; (simp (maxSteps := 1000000) only [go_sem, hS, hM, hlo, h8, hMf, Option.map_none]); (repeat refine ck ?_); (try simp (disch := omega) only [wrap64, wrapi64]); refine hK _ ?_; clear hK K))
        (((try simp only [cl_seq, cl_skip]); refine cl_cond (b := false) rfl (fun h => nomatch h) (fun _ => ?_)))
        (repeat ((try simp only [cl_seq, cl_skip]); with_reducible refine cg fun K hK => ?_; (simp (maxSteps := 1000000) only [go_sem, hS, hM, hlo, h8, hel, ge_iff_le]); (repeat refine ck ?_); (try simp (disch := omega) only [wrap64, wrapi64]); refine hK _ ?_; clear hK K))
        (((try simp only [cl_seq, cl_skip]); refine cl_cond rfl (fun g => ?_) (fun g => ?_)))
        · (repeat ((try simp only [cl_seq, cl_skip]); with_reducible refine cg fun K hK => ?_; (simp (maxSteps := 1000000) only [go_sem, failF_eq]); (repeat refine ck ?_); (try simp (disch := omega) only [wrap64, wrapi64]); refine hK _ ?_; clear hK K))
          (((try simp only [cl_seq, cl_skip]); (try simp only [cl_ret]); refine hR _ _ (.inr rfl) ?_; (simp (maxSteps := 1000000) only [go_sem])))
        · exact absurd g (by simp; omega)
      · obtain ⟨B', ml', H', nx', he, ht, hkeep, hle, hbl, hsame, hnew⟩ := take_ms (by omega) hms (o := 0) (n := op.n) (al := 16) (by omega) (by omega) ho.n (by unfold U64; omega)
        have hnv : nameV s op = (let t := takeSV s 0 op.n 16; if t.2.1 = 0 then ({ t.1 with names := t.1.names ++ [⟨op.name, t.2.2⟩] }, 0, t.2.2, 0) else (t.1, t.2.1, t.2.2, 0)) := by
          unfold nameV; simp only [hpk, ↓reduceIte, hnd, hk]; simp [h16]
        rw [hnv]
        have hst : (takeSV s 0 op.n 16).1.names = s.names ∧ (takeSV s 0 op.n 16).1.live = s.live := by unfold takeSV; simp only; split <;> exact ⟨rfl, rfl⟩
        simp only
        generalize takeSV s 0 op.n 16 = t at *
        obtain ⟨t1, e, off⟩ := t
        simp only at *
        have hS2 := ht.hs.top
        have hM2 := ht.mp
        rw [hst.1] at hM2
        have hlo2 := rowsO_len t1.live
        have h82 := ht.wk.lv8
        by_cases h0 : e = 0
        · subst h0
          simp only [↓reduceIte]
          obtain ⟨q1, m, q2, q3, q4⟩ := hnew rfl
          have hno : NmOk { t1 with names := t1.names ++ [⟨op.name, off⟩] } := by
            rw [hst.1]
            refine ⟨by simp only [List.length_append, List.length_singleton]; omega, fun x hx => ?_, fun x hx => ?_, ?_, ?_⟩
            · rcases List.mem_append.1 hx with hx | hx
              · exact h.nm.pk x hx
              · simp only [List.mem_singleton] at hx; rw [hx]; exact hpk
            · rcases List.mem_append.1 hx with hx | hx
              · exact ht.nm.at_ x (by rw [hst.1]; exact hx)
              · simp only [List.mem_singleton] at hx
                rw [hx]
                exact ⟨m.b, ht.mem (mem_usedM.1 q2).1, (mem_usedM.1 q2).2, q4, q3⟩
            · rw [List.map_append, List.nodup_append]
              refine ⟨h.nm.nn, by simp, ?_⟩
              intro a ha b hb hab
              simp only [List.map_cons, List.map_nil, List.mem_singleton] at hb
              obtain ⟨x, hx, rfl⟩ := List.mem_map.1 ha
              have hcn := List.findIdx?_eq_none_iff.1 hfi x hx
              simp only [isNm, decide_eq_false_iff_not] at hcn
              exact hcn (hab.trans hb)
            · rw [List.map_append, List.nodup_append]
              refine ⟨h.nm.no, by simp, ?_⟩
              intro a ha b hb hab
              simp only [List.map_cons, List.map_nil, List.mem_singleton] at hb
              obtain ⟨x, hx, rfl⟩ := List.mem_map.1 ha
              obtain ⟨bb, hbb, u1, u2, u3⟩ := h.nm.at_ x hx
              obtain ⟨mm, hmm, hme⟩ := hms.usedB hbb u1
              refine q1 mm hmm ?_
              rw [hme, u3, hab, hb]
          have hfin := ht.names _ hno
          refine ⟨B', ml', _, nx', ?_, hfin⟩
          rw [hst.1] at hfin ⊢
          unfold constructT
          rw [Tryz.results36]
          refine semT_eq rfl (by simp [Tryz.ntmps36]) fun X R hR => ?_
          unfold Cx27 at hR ⊢
          simp only [resC] at hR he
          (repeat ((try simp only [cl_seq, cl_skip]); with_reducible refine cg fun K hK => ?_; (simp (maxSteps := 1000000) only [go_sem, Opn.c, hp, Bool.not_true]); (repeat refine ck ?_); (try simp (disch := omega) only [wrap64, wrapi64]); refine hK _ ?_; clear hK K))
          (((try simp only [cl_seq, cl_skip]); refine cl_cond (b := false) rfl (fun h => nomatch h) (fun _ => ?_)))
          (repeat ((try simp only [cl_seq, cl_skip]); with_reducible refine cg fun K hK => ?_; (simp (maxSteps := 1000000) only [go_sem, hS, hM, hlo, h8, hMf, Option.map_none]); (repeat refine ck ?_); (try simp (disch := omega) only [wrap64, wrapi64]); refine hK _ ?_; clear hK K))
          (((try simp only [cl_seq, cl_skip]); refine cl_cond (b := false) rfl (fun h => nomatch h) (fun _ => ?_)))
          (repeat ((try simp only [cl_seq, cl_skip]); with_reducible refine cg fun K hK => ?_; (simp (maxSteps := 1000000) only [go_sem, hS, hM, hlo, h8, hel, ge_iff_le]); (repeat refine ck ?_); (try simp (disch := omega) only [wrap64, wrapi64]); refine hK _ ?_; clear hK K))
          (((try simp only [cl_seq, cl_skip]); refine cl_cond rfl (fun g => ?_) (fun g => ?_)))
          · exact absurd g (by simp; omega)
          (repeat ((try simp only [cl_seq, cl_skip]); with_reducible refine cg fun K hK => ?_; (simp (maxSteps := 1000000) only [go_sem, he]); (repeat refine ck ?_); (try simp (disch := omega) only [wrap64, wrapi64]); refine hK _ ?_; clear hK K))
          (((try simp only [cl_seq, cl_skip]); refine cl_cond rfl (fun g2 => ?_) (fun g2 => ?_)))
          · (repeat ((try simp only [cl_seq, cl_skip]); with_reducible refine cg fun K hK => ?_; (simp (maxSteps := 1000000) only [go_sem, hS2, hM2, hlo2, h82, hMf, Option.map_none, rowsE_appL]); (repeat refine ck ?_); (try simp (disch := omega) only [wrap64, wrapi64]); refine hK _ ?_; clear hK K))
            (((try simp only [cl_seq, cl_skip]); (try simp only [cl_ret]); refine hR _ _ (.inr rfl) ?_; (simp (maxSteps := 1000000) only [go_sem])))
          · exact absurd g2 (by simp)
        · simp only [h0, ↓reduceIte]
          refine ⟨B', ml', H', nx', ?_, ht⟩
          unfold constructT
          rw [Tryz.results36]
          refine semT_eq rfl (by simp [Tryz.ntmps36]) fun X R hR => ?_
          unfold Cx27 at hR ⊢
          simp only [resC] at hR he
          (repeat ((try simp only [cl_seq, cl_skip]); with_reducible refine cg fun K hK => ?_; (simp (maxSteps := 1000000) only [go_sem, Opn.c, hp, Bool.not_true]); (repeat refine ck ?_); (try simp (disch := omega) only [wrap64, wrapi64]); refine hK _ ?_; clear hK K))
          (((try simp only [cl_seq, cl_skip]); refine cl_cond (b := false) rfl (fun h => nomatch h) (fun _ => ?_)))
          (repeat ((try simp only [cl_seq, cl_skip]); with_reducible refine cg fun K hK => ?_; (simp (maxSteps := 1000000) only [go_sem, hS, hM, hlo, h8, hMf, Option.map_none]); (repeat refine ck ?_); (try simp (disch := omega) only [wrap64, wrapi64]); refine hK _ ?_; clear hK K))
          (((try simp only [cl_seq, cl_skip]); refine cl_cond (b := false) rfl (fun h => nomatch h) (fun _ => ?_)))
          (repeat ((try simp only [cl_seq, cl_skip]); with_reducible refine cg fun K hK => ?_; (simp (maxSteps := 1000000) only [go_sem, hS, hM, hlo, h8, hel, ge_iff_le]); (repeat refine ck ?_); (try simp (disch := omega) only [wrap64, wrapi64]); refine hK _ ?_; clear hK K))
          (((try simp only [cl_seq, cl_skip]); refine cl_cond rfl (fun g => ?_) (fun g => ?_)))
          · exact absurd g (by simp; omega)
          (repeat ((try simp only [cl_seq, cl_skip]); with_reducible refine cg fun K hK => ?_; (simp (maxSteps := 1000000) only [go_sem, he]); (repeat refine ck ?_); (try simp (disch := omega) only [wrap64, wrapi64]); refine hK _ ?_; clear hK K))
          (((try simp only [cl_seq, cl_skip]); refine cl_cond rfl (fun g2 => ?_) (fun g2 => ?_)))
          · exact absurd g2 (by simp [h0])
          · (repeat ((try simp only [cl_seq, cl_skip]); with_reducible refine cg fun K hK => ?_; (simp (maxSteps := 1000000) only [go_sem]); (repeat refine ck ?_); (try simp (disch := omega) only [wrap64, wrapi64]); refine hK _ ?_; clear hK K))
            (((try simp only [cl_seq, cl_skip]); (try simp only [cl_ret]); refine hR _ _ (.inr rfl) ?_; (simp (maxSteps := 1000000) only [go_sem])))
end
end Go.Proofs.YtapdaefpkddioaaGreat.Pe
namespace Go.Proofs.YtapdaefpkddioaaGreat.Pe
open Go
set_option maxHeartbeats 2000000
noncomputable def Cx32 : (Nat → Prop) → Ctx := fun X => { nt := 65, tt := tt, fns := ofList [(71, .pure addF), (28, .pure failF), (45, .eff mergeF)], keep := keep41, X := X }
noncomputable def growT : List AD → Hp → Nat → Option (RV × Hp × Nat) := semT Tryz.f41 Cx32 Tryz.f41.results
theorem growT_ok : FnEff Tryz.prog 41 growT := semT_ok mixed Tryz.func41 rfl (fun X => ok_of (l := [(71, .pure addF), (28, .pure failF), (45, .eff mergeF)]) tt_ok ⟨wadd_ok, by kernel_rfl, fail_ok, by kernel_rfl, merge_ok, by kernel_rfl, trivial⟩ (noEqs _)) (fun _ => rfl) (fun _ => rfl) (by decide) rfl
theorem Hs.setEnd {S B nx : Nat} {a f f' mp : D} {live : List Bool} {ml : List Mb} {H : Hp} (h : Hs S B a f mp live ml H nx) : Hs S B a f' mp live ml (updO H S (topO a f' (.ref B 6 0 ml.length) mp live)) nx ∧ Stp S B H nx B (updO H S (topO a f' (.ref B 6 0 ml.length) mp live)) nx :=
  ⟨⟨updO_at _ _ _, by rw [updO_ne h.ne.symm]; exact h.bl, fun o ho => by rw [updO_ne (by have := h.ltS; omega)]; exact h.fresh o ho⟩, ⟨Nat.le_refl _, .inl rfl, fun o _ h1 _ => updO_ne h1⟩⟩
section
variable {K : Nat} {s : St} {S B M : Nat} {ml : List Mb} {H : Hp} {nx : Nat} {c : Int} {op : Opn}
theorem grow_run (h : Ms K s S B M ml H nx) (ho : op.ok) : OpRes growT K s S M H nx c op ({ s with h := (growV s.h op.n s.all).1 }, (growV s.h op.n s.all).2, 0, 0) := by
  have h8 := h.wk.lv8
  have hlo := rowsO_len s.live
  have hS := h.hs.top
  have hB := h.hs.bl
  have hn := ho.n
  have hf0 := h.wk.hi.fin0
  have hf1 := h.wk.fin1
  have ha0 := h.wk.all0
  have ha1 := h.wk.all1
  have hadd := addF_eq (a := s.h.fin) (b := op.n) (by unfold U64; omega) hn
  unfold U64 at hn
  have tn : op.n.tmod 16 = op.n % 16 := Int.tmod_eq_emod_of_nonneg hn.1
  by_cases hb : op.n % 16 ≠ 0 ∨ op.n < 48
  · have hg : growV s.h op.n s.all = (s.h, 1) := by unfold growV; rw [if_pos hb]
    rw [hg]
    refine ⟨B, ml, H, nx, ?_, h.more⟩
    unfold growT
    rw [Tryz.results41]
    refine semT_eq rfl (by simp [Tryz.ntmps41]) fun X R hR => ?_
    unfold Cx32 at hR ⊢
    simp only [resC] at hR
    (repeat ((try simp only [cl_seq, cl_skip]); with_reducible refine cg fun K hK => ?_; (simp (maxSteps := 1000000) only [go_sem, Opn.c, hS, hlo, h8, hadd, optV]); (repeat refine ck ?_); (try simp (disch := omega) only [wrap64, wrapi64]); refine hK _ ?_; clear hK K))
    (((try simp only [cl_seq, cl_skip]); refine cl_block fun K hK1 R hR1 X hX1 => ?_))
    (((try simp only [cl_seq, cl_skip]); refine cl_reg_b (g := ?g124) (t := ?t124) (L := ?L124) (((op.n % 16 != 0) || decide (op.n < 48))) (fun K hK => ?h1124) ?h2124; case' h1124 => (simp (maxSteps := 1000000) only [go_sem, tn]); (repeat refine ck ?_); (repeat' (((refine ite_split (fun hb => ?_) (fun hb => ?_) <;> ((try (simp (maxSteps := 1000000) only [go_sem, hb, tn])); (repeat refine ck ?_)))))); all_goals (first | ((try simp (disch := omega) only [wrap64, wrapi64]); refine hK _ ?_; clear hK K; first | rfl | grind | skip) | skip)))
    all_goals try (simp only [*, Bool.false_or, Bool.true_or, Bool.or_true]; done)
    (((try simp only [cl_seq, cl_skip]); refine cl_cond rfl (fun g => ?_) (fun g => ?_)))
    · (repeat ((try simp only [cl_seq, cl_skip]); with_reducible refine cg fun K hK => ?_; (simp (maxSteps := 1000000) only [go_sem, failF_eq]); (repeat refine ck ?_); (try simp (disch := omega) only [wrap64, wrapi64]); refine hK _ ?_; clear hK K))
      (((try simp only [cl_seq, cl_skip]); (try simp only [cl_ret]); refine hR1 _ (hR _ _ (.inr rfl) ?_); (simp (maxSteps := 1000000) only [go_sem])))
    · exfalso
      simp only [Bool.or_eq_false_iff, bne_eq_false_iff_eq, decide_eq_false_iff_not] at g
      omega
  · have hb' : op.n % 16 = 0 ∧ 48 ≤ op.n := by omega
    have hgb : ((op.n % 16 != 0) || decide (op.n < 48)) = false := by simp [hb'.1]; omega
    by_cases hr : s.all < s.h.fin + op.n
    · have hg : growV s.h op.n s.all = (s.h, 3) := by unfold growV; rw [if_neg hb, if_pos hr]
      rw [hg]
      refine ⟨B, ml, H, nx, ?_, h.more⟩
      unfold growT
      rw [Tryz.results41]
      refine semT_eq rfl (by simp [Tryz.ntmps41]) fun X R hR => ?_
      unfold Cx32 at hR ⊢
      simp only [resC] at hR
      (repeat ((try simp only [cl_seq, cl_skip]); with_reducible refine cg fun K hK => ?_; (simp (maxSteps := 1000000) only [go_sem, Opn.c, hS, hlo, h8, hadd, optV]); (repeat refine ck ?_); (try simp (disch := omega) only [wrap64, wrapi64]); refine hK _ ?_; clear hK K))
      (((try simp only [cl_seq, cl_skip]); refine cl_block fun K hK1 R hR1 X hX1 => ?_))
      (((try simp only [cl_seq, cl_skip]); refine cl_reg_b (g := ?g125) (t := ?t125) (L := ?L125) (((op.n % 16 != 0) || decide (op.n < 48))) (fun K hK => ?h1125) ?h2125; case' h1125 => (simp (maxSteps := 1000000) only [go_sem, tn]); (repeat refine ck ?_); (repeat' (((refine ite_split (fun hb => ?_) (fun hb => ?_) <;> ((try (simp (maxSteps := 1000000) only [go_sem, hb, tn])); (repeat refine ck ?_)))))); all_goals (first | ((try simp (disch := omega) only [wrap64, wrapi64]); refine hK _ ?_; clear hK K; first | rfl | grind | skip) | skip)))
      all_goals try (simp only [*, Bool.false_or, Bool.true_or, Bool.or_true]; done)
      (((try simp only [cl_seq, cl_skip]); refine cl_cond rfl (fun g => ?_) (fun g => ?_)))
      · rw [hgb] at g; cases g
      have hov : (!(addV s.h.fin op.n).isSome || decide (s.all < (addV s.h.fin op.n).getD 0)) = true := by
        unfold addV
        split
        · simp; omega
        · rfl
      (((try simp only [cl_seq, cl_skip]); refine cl_reg_b (g := ?g126) (t := ?t126) (L := ?L126) ((!(addV s.h.fin op.n).isSome || decide (s.all < (addV s.h.fin op.n).getD 0))) (fun K hK => ?h1126) ?h2126; case' h1126 => (simp (maxSteps := 1000000) only [go_sem, hS, hlo, h8, gt_iff_lt]); (repeat refine ck ?_); (repeat' (((refine ite_split (fun hb => ?_) (fun hb => ?_) <;> ((try (simp (maxSteps := 1000000) only [go_sem, hb, hS, hlo, h8, gt_iff_lt])); (repeat refine ck ?_)))))); all_goals (first | ((try simp (disch := omega) only [wrap64, wrapi64]); refine hK _ ?_; clear hK K; first | rfl | grind | skip) | skip)))
      all_goals try (simp only [*, Bool.false_or, Bool.true_or, Bool.or_true, Bool.not_false, Bool.not_true]; done)
      (((try simp only [cl_seq, cl_skip]); refine cl_cond rfl (fun g2 => ?_) (fun g2 => ?_)))
      · (repeat ((try simp only [cl_seq, cl_skip]); with_reducible refine cg fun K hK => ?_; (simp (maxSteps := 1000000) only [go_sem, failF_eq]); (repeat refine ck ?_); (try simp (disch := omega) only [wrap64, wrapi64]); refine hK _ ?_; clear hK K))
        (((try simp only [cl_seq, cl_skip]); (try simp only [cl_ret]); refine hR1 _ (hR _ _ (.inr rfl) ?_); (simp (maxSteps := 1000000) only [go_sem])))
      · rw [hov] at g2; cases g2
    · have hg : growV s.h op.n s.all = ({ s.h with fin := s.h.fin + op.n, bl := joined (s.h.bl ++ [freeB s.h.fin op.n]) }, 0) := by unfold growV; rw [if_neg hb, if_neg hr]
      have hinv := growV_inv h.wk.hi (n := op.n) (all := s.all) (by omega)
      rw [hg] at hinv ⊢
      simp only at hinv ⊢
      have hav : addV s.h.fin op.n = some (s.h.fin + op.n) := by unfold addV; rw [if_pos (by omega)]
      rw [hav] at hadd
      obtain ⟨hs2, st2⟩ := ins_hs h.hs (ml ++ [⟨freeB s.h.fin op.n, .sl []⟩]) (ml.length + 1) (by simp)
      obtain ⟨hs3, st3⟩ := hs2.setEnd (f' := .int .u64 (s.h.fin + op.n))
      have ok2 : MOk (ml ++ [(⟨freeB s.h.fin op.n, .sl []⟩ : Mb)]) := by
        have m := h.mok
        refine ⟨by simp, by have := h.len; simp; omega, fun x hx => ?_, ?_⟩
        · rcases List.mem_append.1 hx with hx | hx
          · exact m.bs x hx
          · simp only [List.mem_singleton] at hx; rw [hx]; exact hn.1
        · have := h.sizes
          simp only [bks, List.map_append, List.map_cons, List.map_nil, sizes_app] at this ⊢
          simp [sizes, freeB] at this ⊢
          omega
      obtain ⟨B', H', nx', he, hs4, st4⟩ := merge_hs h8 hs3 ok2
      have st := (st2.trans st3).trans st4
      obtain ⟨lM, nS, nB⟩ := h.ltM
      have hum : usedM (joinedM (ml ++ [⟨freeB s.h.fin op.n, .sl []⟩])) = usedM ml := by
        rw [usedM_joined, usedM_app]; simp [usedM, freeB]
      refine ⟨B', _, H', nx', ?_, (?_ : Ms K _ S B' M (joinedM (ml ++ [⟨freeB s.h.fin op.n, .sl []⟩])) H' nx').more⟩
      · unfold growT
        rw [Tryz.results41]
        refine semT_eq rfl (by simp [Tryz.ntmps41]) fun X R hR => ?_
        unfold Cx32 at hR ⊢
        simp only [resC] at hR
        have hltS := h.hs.ltS
        have hlen0 := h.len
        have hSn : ∀ x, updO (updO H B none) nx x S = topO (.int .u64 s.all) (.int .u64 s.h.fin) (.ref B 6 0 ml.length) (.mp M) s.live := fun x => by
          rw [updO_ne (by omega), updO_ne h.hs.ne, hS]
        have hpos := h.ne
        have hlen1 : (ml ++ [(⟨freeB s.h.fin op.n, .sl []⟩ : Mb)]).length = ml.length + 1 := by simp
        rw [hlen1] at he
        simp only [topO, topR, blkO, freeB, updO_same] at he
        (repeat ((try simp only [cl_seq, cl_skip]); with_reducible refine cg fun K hK => ?_; (simp (maxSteps := 1000000) only [go_sem, Opn.c, hS, hlo, h8, hadd, optV]); (repeat refine ck ?_); (try simp (disch := omega) only [wrap64, wrapi64]); refine hK _ ?_; clear hK K))
        (((try simp only [cl_seq, cl_skip]); refine cl_block fun K hK1 R hR1 X hX1 => ?_))
        (((try simp only [cl_seq, cl_skip]); refine cl_reg_b (g := ?g127) (t := ?t127) (L := ?L127) (((op.n % 16 != 0) || decide (op.n < 48))) (fun K hK => ?h1127) ?h2127; case' h1127 => (simp (maxSteps := 1000000) only [go_sem, tn]); (repeat refine ck ?_); (repeat' (((refine ite_split (fun hb => ?_) (fun hb => ?_) <;> ((try (simp (maxSteps := 1000000) only [go_sem, hb, tn])); (repeat refine ck ?_)))))); all_goals (first | ((try simp (disch := omega) only [wrap64, wrapi64]); refine hK _ ?_; clear hK K; first | rfl | grind | skip) | skip)))
        all_goals try (simp only [*, Bool.false_or, Bool.true_or, Bool.or_true]; done)
        (((try simp only [cl_seq, cl_skip]); refine cl_cond rfl (fun g => ?_) (fun g => ?_)))
        · rw [hgb] at g; cases g
        (repeat ((try simp only [cl_seq, cl_skip]); with_reducible refine cg fun K hK => ?_; (simp (maxSteps := 1000000) only [go_sem, hS, hlo, h8, Option.isSome_some, Option.getD_some, Bool.not_true, gt_iff_lt]); (repeat refine ck ?_); (try simp (disch := omega) only [wrap64, wrapi64]); refine hK _ ?_; clear hK K))
        (((try simp only [cl_seq, cl_skip]); refine cl_cond rfl (fun g2 => ?_) (fun g2 => ?_)))
        · exfalso; simp at g2; omega
        ((try simp only [cl_seq, cl_skip, cl_exit, cl_nil]))
        refine hK1 _ ?_
        (repeat ((try simp only [cl_seq, cl_skip]); with_reducible refine cg fun K hK => ?_; (simp (maxSteps := 1000000) only [go_sem, hS, hB, hSn, hlo, h8, Opn.c, updO_at, updO_same, he]); (repeat refine ck ?_); (try simp (disch := omega) only [wrap64, wrapi64]); refine hK _ ?_; clear hK K))
        (((try simp only [cl_seq, cl_skip]); (try simp only [cl_ret]); refine hR _ _ (.inr rfl) ?_; (simp (maxSteps := 1000000) only [go_sem])))
      · refine ⟨hs4, by rw [st.same M lM nS nB]; exact h.mp, ?_, ?_, ?_, by rw [hum]; exact h.nd, ⟨hinv, h8, by simp only; omega, ha0, ha1, h.wk.dl, h.wk.ds, h.wk.nl⟩, h.dl, by have := h.pos; simp only; omega, ?_⟩
        · rw [joinedM_bks]
          simp only [bks, List.map_append, List.map_cons, List.map_nil]
          rw [show List.map (fun x => x.b) ml = bks ml from rfl, h.bs]
        · rw [hum]
          intro m hm
          refine (h.dt m hm).frame fun t ht => ?_
          obtain ⟨k1, k2, k3, _⟩ := h.oid hm ht
          exact st.same t k1 k2 k3
        · refine freeNil_join fun m hm hf => ?_
          rcases List.mem_append.1 hm with hm | hm
          · exact h.df m hm hf
          · simp only [List.mem_singleton] at hm; rw [hm]
        · refine h.nm.mono rfl fun b hb hu hbo => ⟨b, ?_, hu, hbo, rfl⟩
          simp only
          rw [mem_used (used_joined _) hu]
          exact List.mem_append_left _ hb
end
end Go.Proofs.YtapdaefpkddioaaGreat.Pe
