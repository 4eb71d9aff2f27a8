/- A part of the proof of PmD. -/
import Derived.WalkArith
import Derived.Test.YtapdaefpkddioaaGreatCb11
import Derived.Test.YtapdaefpkddioaaGreatCb32
import Derived.Test.YtapdaefpkddioaaGreatCb36
set_option linter.unusedSimpArgs false
set_option linter.unusedVariables false
set_option linter.unusedSectionVars false
namespace Go.Proofs.YtapdaefpkddioaaGreat.Pe
open Go
set_option maxHeartbeats 2000000
section
variable {K : Nat} {s : St} {S B M : Nat} {ml : List Mb} {H : Hp} {nx : Nat} {c : Int} {op : Opn}
theorem read_run (h : Ms K s S B M ml H nx) (c0 : 0 ≤ c) (c1 : c ≤ 7) (ho : op.ok) (hk : op.kind = 7) : OpRes readT K s S M H nx c op (blockV s c op) := by
  have h8 := h.wk.lv8
  have hlo := rowsO_len s.live
  have hS := h.hs.top
  have hB := h.hs.bl
  have hmi := mineT_eq (c := c) (op := op) (al := true) h8 h.hs (by have := h.len; omega) h.offs c0 c1
  have hm := h.mine (c := c) (op := op) true (by simp [pubK, hk])
  generalize mineV (bks ml) c op.off true = mv at *
  cases hm with
  | no e i he hd =>
    have hbv : blockV s c op = (s, e, 0, 0) := by unfold blockV; simp only [hd]; rw [if_pos (by omega)]
    rw [hbv]
    refine ⟨B, ml, H, nx, ?_, h.more⟩
    unfold readT
    rw [Tryz.results35]
    refine semT_eq rfl (by simp [Tryz.ntmps35]) fun X R hR => ?_
    unfold Cx26 at hR ⊢
    simp only [resC] at hR
    simp only [iiRV, Opn.c] at hmi
    (repeat ((try simp only [cl_seq, cl_skip]); with_reducible refine cg fun K hK => ?_; (simp (maxSteps := 1000000) only [go_sem, Opn.c, hmi]); (repeat refine ck ?_); (try simp (disch := omega) only [wrap64, wrapi64]); refine hK _ ?_; clear hK K))
    (((try simp only [cl_seq, cl_skip]); refine cl_block fun K hK1 R hR1 X hX1 => ?_))
    (repeat ((try simp only [cl_seq, cl_skip]); with_reducible refine cg fun K hK => ?_; (simp (maxSteps := 1000000) only [go_sem]); (repeat refine ck ?_); (try simp (disch := omega) only [wrap64, wrapi64]); refine hK _ ?_; clear hK K))
    (((try simp only [cl_seq, cl_skip]); refine cl_cond rfl (fun g => ?_) (fun g => ?_)))
    · (repeat ((try simp only [cl_seq, cl_skip]); with_reducible refine cg fun K hK => ?_; (simp (maxSteps := 1000000) only [go_sem, failF_eq]); (repeat refine ck ?_); (try simp (disch := omega) only [wrap64, wrapi64]); refine hK _ ?_; clear hK K))
      (((try simp only [cl_seq, cl_skip]); (try simp only [cl_ret]); refine hR1 _ (hR _ _ (.inr rfl) ?_); (simp (maxSteps := 1000000) only [go_sem])))
    · exact absurd g (by simp; omega)
  | yes i hi hu hp hd hown =>
    have dt := h.dt ml[i] (mem_usedM.2 ⟨List.getElem_mem hi, hu⟩)
    rw [hp] at dt
    have hdl := dataV_len h.wk op.off
    have oi := ho.i
    unfold U64 at oi
    obtain ⟨j, hj⟩ : ∃ j : Nat, op.i = j := ⟨op.i.toNat, by omega⟩
    by_cases hlt : op.i < (dataV s op.off).length
    · have hjl : j < (dataV s op.off).length := by omega
      have hbv : blockV s c op = (s, 0, 0, (dataV s op.off)[j]) := by
        unfold blockV
        simp only [hd, hk, hj, Int.toNat_natCast, List.getElem?_eq_getElem hjl, Option.getD_some]
        simp; omega
      rw [hbv]
      refine ⟨B, ml, H, nx, ?_, h.more⟩
      generalize dataV s op.off = v at *
      generalize hdd : ml[i].d = d at dt
      cases dt with
      | nil => simp at hjl
      | obj o v h0 hH =>
        unfold readT
        rw [Tryz.results35]
        refine semT_eq rfl (by simp [Tryz.ntmps35]) fun X R hR => ?_
        unfold Cx26 at hR ⊢
        simp only [resC] at hR
        simp only [iiRV, Opn.c] at hmi
        rw [hj] at hmi
        (repeat ((try simp only [cl_seq, cl_skip]); with_reducible refine cg fun K hK => ?_; (simp (maxSteps := 1000000) only [go_sem, Opn.c, hj, hmi]); (repeat refine ck ?_); (try simp (disch := omega) only [wrap64, wrapi64]); refine hK _ ?_; clear hK K))
        (((try simp only [cl_seq, cl_skip]); refine cl_block fun K hK1 R hR1 X hX1 => ?_))
        (repeat ((try simp only [cl_seq, cl_skip]); with_reducible refine cg fun K hK => ?_; (simp (maxSteps := 1000000) only [go_sem]); (repeat refine ck ?_); (try simp (disch := omega) only [wrap64, wrapi64]); refine hK _ ?_; clear hK K))
        (((try simp only [cl_seq, cl_skip]); refine cl_cond rfl (fun g => ?_) (fun g => ?_)))
        · exact absurd g (by simp)
        (repeat ((try simp only [cl_seq, cl_skip]); with_reducible refine cg fun K hK => ?_; (simp (maxSteps := 1000000) only [go_sem, hS, hB, hlo, h8, hi, hdd, ge_iff_le, wrap64 (n := (v.length : Int)) (by omega) (by omega)]); (repeat refine ck ?_); (try simp (disch := omega) only [wrap64, wrapi64]); refine hK _ ?_; clear hK K))
        (((try simp only [cl_seq, cl_skip]); refine cl_cond rfl (fun g2 => ?_) (fun g2 => ?_)))
        · exfalso; simp at g2; omega
        · ((try simp only [cl_seq, cl_skip, cl_exit, cl_nil]))
          refine hK1 _ ?_
          (repeat ((try simp only [cl_seq, cl_skip]); with_reducible refine cg fun K hK => ?_; (simp (maxSteps := 1000000) only [go_sem, hS, hB, hlo, h8, hi, hdd, hH, hjl]); (repeat refine ck ?_); (try simp (disch := omega) only [wrap64, wrapi64]); refine hK _ ?_; clear hK K))
          (((try simp only [cl_seq, cl_skip]); (try simp only [cl_ret]); refine hR _ _ (.inr rfl) ?_; (simp (maxSteps := 1000000) only [go_sem])))
    · have hbv : blockV s c op = (s, 1, 0, 0) := by unfold blockV; simp [hd, hk]; omega
      rw [hbv]
      refine ⟨B, ml, H, nx, ?_, h.more⟩
      generalize dataV s op.off = v at *
      generalize hdd : ml[i].d = d at dt
      cases dt with
      | nil =>
        unfold readT
        rw [Tryz.results35]
        refine semT_eq rfl (by simp [Tryz.ntmps35]) fun X R hR => ?_
        unfold Cx26 at hR ⊢
        simp only [resC] at hR
        simp only [iiRV, Opn.c] at hmi
        (repeat ((try simp only [cl_seq, cl_skip]); with_reducible refine cg fun K hK => ?_; (simp (maxSteps := 1000000) only [go_sem, Opn.c, hmi]); (repeat refine ck ?_); (try simp (disch := omega) only [wrap64, wrapi64]); refine hK _ ?_; clear hK K))
        (((try simp only [cl_seq, cl_skip]); refine cl_block fun K hK1 R hR1 X hX1 => ?_))
        (repeat ((try simp only [cl_seq, cl_skip]); with_reducible refine cg fun K hK => ?_; (simp (maxSteps := 1000000) only [go_sem]); (repeat refine ck ?_); (try simp (disch := omega) only [wrap64, wrapi64]); refine hK _ ?_; clear hK K))
        (((try simp only [cl_seq, cl_skip]); refine cl_cond rfl (fun g => ?_) (fun g => ?_)))
        · exact absurd g (by simp)
        (repeat ((try simp only [cl_seq, cl_skip]); with_reducible refine cg fun K hK => ?_; (simp (maxSteps := 1000000) only [go_sem, hS, hB, hlo, h8, hi, hdd, ge_iff_le, show ((0 : Nat) : Int) = 0 from rfl, wrap64 (n := 0) (by omega) (by omega)]); (repeat refine ck ?_); (try simp (disch := omega) only [wrap64, wrapi64]); refine hK _ ?_; clear hK K))
        (((try simp only [cl_seq, cl_skip]); refine cl_cond rfl (fun g2 => ?_) (fun g2 => ?_)))
        · (repeat ((try simp only [cl_seq, cl_skip]); with_reducible refine cg fun K hK => ?_; (simp (maxSteps := 1000000) only [go_sem, failF_eq]); (repeat refine ck ?_); (try simp (disch := omega) only [wrap64, wrapi64]); refine hK _ ?_; clear hK K))
          (((try simp only [cl_seq, cl_skip]); (try simp only [cl_ret]); refine hR1 _ (hR _ _ (.inr rfl) ?_); (simp (maxSteps := 1000000) only [go_sem])))
        · exfalso; simp at g2; omega
      | obj o v h0 hH =>
        unfold readT
        rw [Tryz.results35]
        refine semT_eq rfl (by simp [Tryz.ntmps35]) fun X R hR => ?_
        unfold Cx26 at hR ⊢
        simp only [resC] at hR
        simp only [iiRV, Opn.c] at hmi
        (repeat ((try simp only [cl_seq, cl_skip]); with_reducible refine cg fun K hK => ?_; (simp (maxSteps := 1000000) only [go_sem, Opn.c, hmi]); (repeat refine ck ?_); (try simp (disch := omega) only [wrap64, wrapi64]); refine hK _ ?_; clear hK K))
        (((try simp only [cl_seq, cl_skip]); refine cl_block fun K hK1 R hR1 X hX1 => ?_))
        (repeat ((try simp only [cl_seq, cl_skip]); with_reducible refine cg fun K hK => ?_; (simp (maxSteps := 1000000) only [go_sem]); (repeat refine ck ?_); (try simp (disch := omega) only [wrap64, wrapi64]); refine hK _ ?_; clear hK K))
        (((try simp only [cl_seq, cl_skip]); refine cl_cond rfl (fun g => ?_) (fun g => ?_)))
        · exact absurd g (by simp)
        (repeat ((try simp only [cl_seq, cl_skip]); with_reducible refine cg fun K hK => ?_; (simp (maxSteps := 1000000) only [go_sem, hS, hB, hlo, h8, hi, hdd, ge_iff_le, wrap64 (n := (v.length : Int)) (by omega) (by omega)]); (repeat refine ck ?_); (try simp (disch := omega) only [wrap64, wrapi64]); refine hK _ ?_; clear hK K))
        (((try simp only [cl_seq, cl_skip]); refine cl_cond rfl (fun g2 => ?_) (fun g2 => ?_)))
        · (repeat ((try simp only [cl_seq, cl_skip]); with_reducible refine cg fun K hK => ?_; (simp (maxSteps := 1000000) only [go_sem, failF_eq]); (repeat refine ck ?_); (try simp (disch := omega) only [wrap64, wrapi64]); refine hK _ ?_; clear hK K))
          (((try simp only [cl_seq, cl_skip]); (try simp only [cl_ret]); refine hR1 _ (hR _ _ (.inr rfl) ?_); (simp (maxSteps := 1000000) only [go_sem])))
        · exfalso; simp at g2; omega
theorem Ms.wordG (hK : K < 49000) (h : Ms K s S B M ml H nx) {i : Nat} (hi : i < ml.length) (hu : ml[i].b.used = true) {o : Nat} {v : List Int} (hd : ml[i].d = .ref o 1 0 v.length) (hv : dataV s (ml[i].b.off + 32) = v) (h0 : 0 < v.length) (hH : H o = some ⟨some 26, 1, rowsN v⟩) (v' : List Int) (hl : v'.length = v.length) :
    Ms (K + 1) { s with data := putV s.data (ml[i].b.off + 32) v' } S B M ml (updO H o (some ⟨some 26, 1, rowsN v'⟩)) nx := by
  have hmi : ml[i] ∈ usedM ml := mem_usedM.2 ⟨List.getElem_mem hi, hu⟩
  obtain ⟨q1, q2, q3, q4⟩ := h.oid hmi (o := o) (by rw [hd]; rfl)
  have hvl : v.length ≤ 100000 := by rw [← hv]; exact dataV_len h.wk _
  have hput := putV_len s.data (ml[i].b.off + 32) v'
  have hdl := h.dl
  have hsm : ∀ w ∈ putV s.data (ml[i].b.off + 32) v', Sm w.d := putV_sm h.wk.ds (by unfold Sm; rw [hl]; exact hvl)
  refine ⟨⟨by rw [updO_ne q2.symm]; exact h.hs.top, by rw [updO_ne q3.symm]; exact h.hs.bl, fun t ht => by rw [updO_ne (by omega)]; exact h.hs.fresh t ht⟩, by rw [updO_ne q4.symm]; exact h.mp, h.bs, ?_, h.df, h.nd, ⟨h.wk.hi, h.wk.lv8, h.wk.fin1, h.wk.all0, h.wk.all1, by simp only; omega, hsm, h.wk.nl⟩, by simp only; omega, h.pos, h.nm.mono rfl fun b hb hbu hbo => ⟨b, hb, hbu, hbo, rfl⟩⟩
  intro m hm
  rw [dataV_eq]
  simp only
  rw [dlV_put]
  by_cases hoff : m.b.off = ml[i].b.off
  · rw [if_pos (by omega)]
    obtain ⟨k, hk, rfl⟩ := List.getElem_of_mem (mem_usedM.1 hm).1
    have hki := h.used_off hk hi hoff
    subst hki
    rw [hd]
    have := Dt.obj (H := updO H o (some ⟨some 26, 1, rowsN v'⟩)) o v' (by rw [hl]; exact h0) (updO_at _ _ _)
    rw [hl] at this
    exact this
  · rw [if_neg (by omega), ← dataV_eq]
    refine (h.dt m hm).frame fun t ht => updO_ne ?_
    rintro rfl
    obtain ⟨k, hk, rfl⟩ := List.getElem_of_mem (mem_usedM.1 hm).1
    have hne : k ≠ i := fun e => by subst e; exact hoff rfl
    have hnd := h.nd
    have key : ∀ (l : List Mb) (a b : Nat) (ha : a < l.length) (hb : b < l.length), a < b → l[a].b.used = true → l[b].b.used = true → l[a].d.oid = some t → l[b].d.oid = some t → ¬ ((usedM l).filterMap (·.d.oid)).Nodup := by
      intro l a b ha hb hab hua hub hoa hob hn
      have e := splitM hb
      have e2 := congrArg usedM e
      rw [usedM_app] at e2
      rw [e2, List.filterMap_append, List.nodup_append] at hn
      obtain ⟨_, _, h3⟩ := hn
      refine h3 t ?_ t ?_ rfl
      · refine List.mem_filterMap.2 ⟨l[a], mem_usedM.2 ⟨?_, hua⟩, hoa⟩
        rw [List.mem_take_iff_getElem]
        exact ⟨a, by omega, rfl⟩
      · exact List.mem_filterMap.2 ⟨l[b], mem_usedM.2 ⟨List.mem_cons_self, hub⟩, hob⟩
    have hoi : ml[i].d.oid = some t := by rw [hd]; rfl
    rcases Nat.lt_or_gt_of_ne hne with hlt | hlt
    · exact key ml k i hk hi hlt (mem_usedM.1 hm).2 hu ht hoi hnd
    · exact key ml i k hi hk hlt hu (mem_usedM.1 hm).2 hoi ht hnd
theorem Ms.word (hK : K < 49000) (h : Ms K s S B M ml H nx) {i : Nat} (hi : i < ml.length) (hu : ml[i].b.used = true) {o : Nat} {v : List Int} (hd : ml[i].d = .ref o 1 0 v.length) (hv : dataV s (ml[i].b.off + 32) = v) (h0 : 0 < v.length) (hH : H o = some ⟨some 26, 1, rowsN v⟩) (j : Nat) (x : Int) :
    Ms (K + 1) { s with data := putV s.data (ml[i].b.off + 32) (v.set j x) } S B M ml (updO H o (some ⟨some 26, 1, rowsN (v.set j x)⟩)) nx := h.wordG hK hi hu hd hv h0 hH _ (by simp)
theorem write_run (hK : K < 49000) (h : Ms K s S B M ml H nx) (c0 : 0 ≤ c) (c1 : c ≤ 7) (ho : op.ok) (hk : op.kind = 6) : OpRes writeT K s S M H nx c op (blockV s c op) := by
  have h8 := h.wk.lv8
  have hlo := rowsO_len s.live
  have hS := h.hs.top
  have hB := h.hs.bl
  have hmi := mineT_eq (c := c) (op := op) (al := true) h8 h.hs (by have := h.len; omega) h.offs c0 c1
  have hm := h.mine (c := c) (op := op) true (by simp [pubK, hk])
  generalize mineV (bks ml) c op.off true = mv at *
  cases hm with
  | no e i he hd =>
    have hbv : blockV s c op = (s, e, 0, 0) := by unfold blockV; simp only [hd]; rw [if_pos (by omega)]
    rw [hbv]
    refine ⟨B, ml, H, nx, ?_, h.more⟩
    unfold writeT
    rw [Tryz.results34]
    refine semT_eq rfl (by simp [Tryz.ntmps34]) fun X R hR => ?_
    unfold Cx25 at hR ⊢
    simp only [resC] at hR
    simp only [iiRV, Opn.c] at hmi
    (repeat ((try simp only [cl_seq, cl_skip]); with_reducible refine cg fun K hK => ?_; (simp (maxSteps := 1000000) only [go_sem, Opn.c, hmi]); (repeat refine ck ?_); (try simp (disch := omega) only [wrap64, wrapi64]); refine hK _ ?_; clear hK K))
    (((try simp only [cl_seq, cl_skip]); refine cl_block fun K hK1 R hR1 X hX1 => ?_))
    (repeat ((try simp only [cl_seq, cl_skip]); with_reducible refine cg fun K hK => ?_; (simp (maxSteps := 1000000) only [go_sem]); (repeat refine ck ?_); (try simp (disch := omega) only [wrap64, wrapi64]); refine hK _ ?_; clear hK K))
    (((try simp only [cl_seq, cl_skip]); refine cl_cond rfl (fun g => ?_) (fun g => ?_)))
    · (repeat ((try simp only [cl_seq, cl_skip]); with_reducible refine cg fun K hK => ?_; (simp (maxSteps := 1000000) only [go_sem, failF_eq]); (repeat refine ck ?_); (try simp (disch := omega) only [wrap64, wrapi64]); refine hK _ ?_; clear hK K))
      (((try simp only [cl_seq, cl_skip]); (try simp only [cl_ret]); refine hR1 _ (hR _ _ (.inr rfl) ?_); (simp (maxSteps := 1000000) only [go_sem])))
    · exact absurd g (by simp; omega)
  | yes i hi hu hp hd hown =>
    have dt := h.dt ml[i] (mem_usedM.2 ⟨List.getElem_mem hi, hu⟩)
    have hdl := dataV_len h.wk op.off
    have oi := ho.i
    unfold U64 at oi
    obtain ⟨j, hj⟩ : ∃ j : Nat, op.i = j := ⟨op.i.toNat, by omega⟩
    by_cases hlt : op.i < (dataV s op.off).length
    · have hjl : j < (dataV s op.off).length := by omega
      have hbv : blockV s c op = ({ s with data := putV s.data op.off ((dataV s op.off).set j op.v) }, 0, 0, 0) := by
        unfold blockV
        simp only [hd, hk, hj, Int.toNat_natCast]
        simp; omega
      rw [hbv]
      generalize hvv : dataV s op.off = v at *
      rw [hp, hvv] at dt
      generalize hdd : ml[i].d = d at dt
      cases dt with
      | nil => simp at hjl
      | obj o v h0 hH =>
        have hms := h.word hK hi hu hdd (by rw [hp]; exact hvv) h0 hH j op.v
        rw [hp] at hms
        refine ⟨B, ml, _, nx, ?_, hms⟩
        unfold writeT
        rw [Tryz.results34]
        refine semT_eq rfl (by simp [Tryz.ntmps34]) fun X R hR => ?_
        unfold Cx25 at hR ⊢
        simp only [resC] at hR
        simp only [iiRV, Opn.c] at hmi
        rw [hj] at hmi
        (repeat ((try simp only [cl_seq, cl_skip]); with_reducible refine cg fun K hK => ?_; (simp (maxSteps := 1000000) only [go_sem, Opn.c, hj, hmi]); (repeat refine ck ?_); (try simp (disch := omega) only [wrap64, wrapi64]); refine hK _ ?_; clear hK K))
        (((try simp only [cl_seq, cl_skip]); refine cl_block fun K hK1 R hR1 X hX1 => ?_))
        (repeat ((try simp only [cl_seq, cl_skip]); with_reducible refine cg fun K hK => ?_; (simp (maxSteps := 1000000) only [go_sem]); (repeat refine ck ?_); (try simp (disch := omega) only [wrap64, wrapi64]); refine hK _ ?_; clear hK K))
        (((try simp only [cl_seq, cl_skip]); refine cl_cond rfl (fun g => ?_) (fun g => ?_)))
        · exact absurd g (by simp)
        (repeat ((try simp only [cl_seq, cl_skip]); with_reducible refine cg fun K hK => ?_; (simp (maxSteps := 1000000) only [go_sem, hS, hB, hlo, h8, hi, hdd, ge_iff_le, wrap64 (n := (v.length : Int)) (by omega) (by omega)]); (repeat refine ck ?_); (try simp (disch := omega) only [wrap64, wrapi64]); refine hK _ ?_; clear hK K))
        (((try simp only [cl_seq, cl_skip]); refine cl_cond rfl (fun g2 => ?_) (fun g2 => ?_)))
        · exfalso; simp at g2; omega
        · ((try simp only [cl_seq, cl_skip, cl_exit, cl_nil]))
          refine hK1 _ ?_
          (repeat ((try simp only [cl_seq, cl_skip]); with_reducible refine cg fun K hK => ?_; (simp (maxSteps := 1000000) only [go_sem, hS, hB, hlo, h8, hi, hdd, hH, hjl, rowsN_set]); (repeat refine ck ?_); (try simp (disch := omega) only [wrap64, wrapi64]); refine hK _ ?_; clear hK K))
          (((try simp only [cl_seq, cl_skip]); (try simp only [cl_ret]); refine hR _ _ (.inr rfl) ?_; (simp (maxSteps := 1000000) only [go_sem])))
    · have hbv : blockV s c op = (s, 1, 0, 0) := by unfold blockV; simp [hd, hk]; omega
      rw [hbv]
      refine ⟨B, ml, H, nx, ?_, h.more⟩
      rw [hp] at dt
      generalize dataV s op.off = v at *
      generalize hdd : ml[i].d = d at dt
      cases dt with
      | nil =>
        unfold writeT
        rw [Tryz.results34]
        refine semT_eq rfl (by simp [Tryz.ntmps34]) fun X R hR => ?_
        unfold Cx25 at hR ⊢
        simp only [resC] at hR
        simp only [iiRV, Opn.c] at hmi
        (repeat ((try simp only [cl_seq, cl_skip]); with_reducible refine cg fun K hK => ?_; (simp (maxSteps := 1000000) only [go_sem, Opn.c, hmi]); (repeat refine ck ?_); (try simp (disch := omega) only [wrap64, wrapi64]); refine hK _ ?_; clear hK K))
        (((try simp only [cl_seq, cl_skip]); refine cl_block fun K hK1 R hR1 X hX1 => ?_))
        (repeat ((try simp only [cl_seq, cl_skip]); with_reducible refine cg fun K hK => ?_; (simp (maxSteps := 1000000) only [go_sem]); (repeat refine ck ?_); (try simp (disch := omega) only [wrap64, wrapi64]); refine hK _ ?_; clear hK K))
        (((try simp only [cl_seq, cl_skip]); refine cl_cond rfl (fun g => ?_) (fun g => ?_)))
        · exact absurd g (by simp)
        (repeat ((try simp only [cl_seq, cl_skip]); with_reducible refine cg fun K hK => ?_; (simp (maxSteps := 1000000) only [go_sem, hS, hB, hlo, h8, hi, hdd, ge_iff_le, show ((0 : Nat) : Int) = 0 from rfl, wrap64 (n := 0) (by omega) (by omega)]); (repeat refine ck ?_); (try simp (disch := omega) only [wrap64, wrapi64]); refine hK _ ?_; clear hK K))
        (((try simp only [cl_seq, cl_skip]); refine cl_cond rfl (fun g2 => ?_) (fun g2 => ?_)))
        · (repeat ((try simp only [cl_seq, cl_skip]); with_reducible refine cg fun K hK => ?_; (simp (maxSteps := 1000000) only [go_sem, failF_eq]); (repeat refine ck ?_); (try simp (disch := omega) only [wrap64, wrapi64]); refine hK _ ?_; clear hK K))
          (((try simp only [cl_seq, cl_skip]); (try simp only [cl_ret]); refine hR1 _ (hR _ _ (.inr rfl) ?_); (simp (maxSteps := 1000000) only [go_sem])))
        · exfalso; simp at g2; omega
      | obj o v h0 hH =>
        unfold writeT
        rw [Tryz.results34]
        refine semT_eq rfl (by simp [Tryz.ntmps34]) fun X R hR => ?_
        unfold Cx25 at hR ⊢
        simp only [resC] at hR
        simp only [iiRV, Opn.c] at hmi
        (repeat ((try simp only [cl_seq, cl_skip]); with_reducible refine cg fun K hK => ?_; (simp (maxSteps := 1000000) only [go_sem, Opn.c, hmi]); (repeat refine ck ?_); (try simp (disch := omega) only [wrap64, wrapi64]); refine hK _ ?_; clear hK K))
        (((try simp only [cl_seq, cl_skip]); refine cl_block fun K hK1 R hR1 X hX1 => ?_))
        (repeat ((try simp only [cl_seq, cl_skip]); with_reducible refine cg fun K hK => ?_; (simp (maxSteps := 1000000) only [go_sem]); (repeat refine ck ?_); (try simp (disch := omega) only [wrap64, wrapi64]); refine hK _ ?_; clear hK K))
        (((try simp only [cl_seq, cl_skip]); refine cl_cond rfl (fun g => ?_) (fun g => ?_)))
        · exact absurd g (by simp)
        (repeat ((try simp only [cl_seq, cl_skip]); with_reducible refine cg fun K hK => ?_; (simp (maxSteps := 1000000) only [go_sem, hS, hB, hlo, h8, hi, hdd, ge_iff_le, wrap64 (n := (v.length : Int)) (by omega) (by omega)]); (repeat refine ck ?_); (try simp (disch := omega) only [wrap64, wrapi64]); refine hK _ ?_; clear hK K))
        (((try simp only [cl_seq, cl_skip]); refine cl_cond rfl (fun g2 => ?_) (fun g2 => ?_)))
        · (repeat ((try simp only [cl_seq, cl_skip]); with_reducible refine cg fun K hK => ?_; (simp (maxSteps := 1000000) only [go_sem, failF_eq]); (repeat refine ck ?_); (try simp (disch := omega) only [wrap64, wrapi64]); refine hK _ ?_; clear hK K))
          (((try simp only [cl_seq, cl_skip]); (try simp only [cl_ret]); refine hR1 _ (hR _ _ (.inr rfl) ?_); (simp (maxSteps := 1000000) only [go_sem])))
        · exfalso; simp at g2; omega
end
end Go.Proofs.YtapdaefpkddioaaGreat.Pe
namespace Go.Proofs.YtapdaefpkddioaaGreat.Pe
open Go
set_option maxHeartbeats 2000000
theorem place_at {h : Hpp} (v : h.Inv) {i : Nat} (hi : i < h.bl.length) (hu : h.bl[i].used = true) : placeN h.bl (h.bl[i].off + 32) = some i := by
  unfold placeN
  rw [List.findIdx?_eq_some_iff_getElem]
  refine ⟨hi, by simp [hu], fun j hj => ?_⟩
  simp only [Bool.not_eq_true, Bool.and_eq_false_iff]
  right
  simp only [beq_eq_false_iff_ne, ne_eq]
  intro e
  have := chain_inj v.ch (fun b hb => by have := (v.bs b hb).size0; omega) (show j < h.bl.length by omega) hi (by omega)
  omega
section
variable {K : Nat} {s : St} {S B M : Nat} {ml : List Mb} {H : Hp} {nx : Nat} {c : Int} {op : Opn}
theorem usedM_set_free {i : Nat} (hi : i < ml.length) (m : Mb) (hm : m.b.used = false) : usedM (ml.set i m) = usedM (ml.take i) ++ usedM (ml.drop (i + 1)) := by
  rw [List.set_eq_take_append_cons_drop, if_pos hi, usedM_app]
  congr 1
  unfold usedM
  rw [List.filter_cons, hm]
  rfl
theorem usedM_split {i : Nat} (hi : i < ml.length) : usedM ml = usedM (ml.take i) ++ (usedM [ml[i]] ++ usedM (ml.drop (i + 1))) := by
  have e := congrArg usedM (splitM hi)
  rw [usedM_app] at e
  rw [e]
  congr 1
  unfold usedM
  rw [List.filter_cons]
  split <;> rename_i hu <;> simp [hu]
theorem Ms.place (h : Ms K s S B M ml H nx) {i : Nat} (hi : i < ml.length) (hu : ml[i].b.used = true) : placeN s.h.bl (ml[i].b.off + 32) = some i := by
  have hib : i < s.h.bl.length := by rw [← h.bs, bks_len]; exact hi
  have hbg : s.h.bl[i] = ml[i].b := by simp only [← h.bs, bks, List.getElem_map]
  have := place_at h.wk.hi hib (by rw [hbg]; exact hu)
  rw [hbg] at this
  exact this
theorem free_ms (h : Ms K s S B M ml H nx) {i : Nat} (hi : i < ml.length) (hu : ml[i].b.used = true) (hnn : ∀ e ∈ s.names, e.off ≠ ml[i].b.off + 32) :
    ∃ B' H' nx', freeMF [.one (.ptr S 12 0 0), .one (.int .i64 i)] H nx = some (.tup [], H', nx') ∧ Ms K (freedV s (ml[i].b.off + 32)) S B' M (freeL ml i) H' nx' ∧ Stp S B H nx B' H' nx' := by
  have h8 := h.wk.lv8
  obtain ⟨B', H', nx', he, hs', st⟩ := freeMF_eq h8 h.hs h.mok hi
  refine ⟨B', H', nx', he, ?_, st⟩
  have hib : i < s.h.bl.length := by rw [← h.bs, bks_len]; exact hi
  have hbg : s.h.bl[i] = ml[i].b := by simp only [← h.bs, bks, List.getElem_map]
  have hpl := h.place hi hu
  have hfl : freeL ml i = joinedM (ml.set i (freeM ml[i])) := by unfold freeL; rw [List.getElem?_eq_getElem hi]
  have hfh : (freeHV s.h (ml[i].b.off + 32)).1 = { s.h with bl := joined (s.h.bl.set i (freeB s.h.bl[i].off s.h.bl[i].size)), ls := listDel s.h.ls s.h.bl[i].owner s.h.bl[i].off } := by
    unfold freeHV
    rw [hpl]
    simp only [List.getElem?_eq_getElem hib]
  have hwk := freedV_wk h.wk (ml[i].b.off + 32)
  obtain ⟨lM, nS, nB⟩ := h.ltM
  have hum : usedM (freeL ml i) = usedM (ml.take i) ++ usedM (ml.drop (i + 1)) := by
    rw [hfl, usedM_joined]; exact usedM_set_free hi _ rfl
  have hsub : ∀ m ∈ usedM (freeL ml i), m ∈ usedM ml ∧ m.b.off ≠ ml[i].b.off := by
    intro m hm
    rw [hfl, usedM_joined] at hm
    obtain ⟨h1, h2⟩ := mem_usedM.1 hm
    obtain ⟨j, hj, rfl⟩ := List.getElem_of_mem h1
    rw [List.length_set] at hj
    by_cases hji : i = j
    · subst hji
      rw [List.getElem_set_self] at h2
      cases h2
    · rw [List.getElem_set_ne hji] at h2 ⊢
      refine ⟨mem_usedM.2 ⟨List.getElem_mem hj, h2⟩, fun e => hji ?_⟩
      exact (h.used_off hj hi e).symm
  have hfv : freedV s (ml[i].b.off + 32) = { s with h := { s.h with bl := joined (s.h.bl.set i (freeB s.h.bl[i].off s.h.bl[i].size)), ls := listDel s.h.ls s.h.bl[i].owner s.h.bl[i].off }, data := dropV s.data (ml[i].b.off + 32) } := by
    unfold freedV; rw [hfh]
  rw [hfv] at hwk ⊢
  refine ⟨hs', by rw [st.same M lM nS nB]; exact h.mp, ?_, ?_, ?_, ?_, hwk, ?_, h.pos, ⟨h.nm.le, h.nm.pk, ?_, h.nm.nn, h.nm.no⟩⟩
  · rw [hfl, joinedM_bks, bks_set, h.bs, hbg]; rfl
  · intro m hm
    obtain ⟨h1, h2⟩ := hsub m hm
    rw [dataV_eq]
    simp only
    rw [dlV_drop, if_neg (by omega), ← dataV_eq]
    refine (h.dt m h1).frame fun t ht => ?_
    obtain ⟨k1, k2, k3, _⟩ := h.oid h1 ht
    exact st.same t k1 k2 k3
  · rw [hfl]
    refine freeNil_join fun m hm hf => ?_
    rcases List.mem_or_eq_of_mem_set hm with h1 | h1
    · exact h.df m h1 hf
    · subst h1; rfl
  · have hnd := h.nd
    rw [usedM_split hi, List.filterMap_append, List.filterMap_append] at hnd
    rw [hum, List.filterMap_append]
    exact hnd.sublist (List.Sublist.append (List.Sublist.refl _) (List.sublist_append_right _ _))
  · have := dropV_len s.data (ml[i].b.off + 32)
    have := h.dl
    simp only
    omega
  · intro e he
    obtain ⟨b, hb, h1, h2, h3⟩ := h.nm.at_ e he
    refine ⟨b, ?_, h1, h2, h3⟩
    simp only
    rw [mem_used (used_joined _) h1]
    obtain ⟨j, hj, rfl⟩ := List.getElem_of_mem hb
    refine List.mem_iff_getElem.2 ⟨j, by rw [List.length_set]; exact hj, ?_⟩
    rw [List.getElem_set_ne]
    rintro rfl
    rw [hbg] at h3
    exact hnn e he h3.symm
end
theorem Ms.nameU {K : Nat} {s : St} {S B M : Nat} {ml : List Mb} {H : Hp} {nx : Nat} (h : Ms K s S B M ml H nx) : ∀ e ∈ s.names, U64 e.off ∧ e.name.size ≤ 15 := by
  intro e he
  obtain ⟨b, hb, _, _, h3⟩ := h.nm.at_ e he
  have m := h.wk.hi.mem hb
  have g := h.wk.hi.bs b hb
  have f1 := h.wk.fin1
  have s0 := g.size0
  have hp := h.nm.pk e he
  unfold packV at hp
  simp only [Bool.and_eq_true, decide_eq_true_eq] at hp
  refine ⟨?_, hp.2⟩
  unfold U64
  omega
open Classical in
noncomputable def namedMF : List AD → Hp → Nat → Option (RV × Hp × Nat) := fun l H nx =>
  if h : ∃ x : Nat × Nat × List En × Int, l = [.one (.ptr x.1 12 0 0), .one (.int .u64 x.2.2.2)] ∧ (∃ a f bd live, live.length = 8 ∧ H x.1 = topO a f bd (.mp x.2.1) live) ∧ H x.2.1 = some ⟨none, 0, rowsE x.2.2.1⟩ ∧ x.2.2.1.length ≤ 1000 ∧ (∀ e ∈ x.2.2.1, U64 e.off ∧ e.name.size ≤ 15) then
    some (.a (.one (.bool ((Classical.choose h).2.2.1.any (·.off == (Classical.choose h).2.2.2)))), H, nx) else none
theorem namedMF_eq {S M nx : Nat} {names : List En} {p : Int} {H : Hp} {a f bd : D} {live : List Bool} (h8 : live.length = 8) (hS : H S = topO a f bd (.mp M) live) (hM : H M = some ⟨none, 0, rowsE names⟩) (hn : names.length ≤ 1000) (hu : ∀ e ∈ names, U64 e.off ∧ e.name.size ≤ 15) :
    namedMF [.one (.ptr S 12 0 0), .one (.int .u64 p)] H nx = some (.a (.one (.bool (names.any (·.off == p)))), H, nx) := by
  have hx : ∃ x : Nat × Nat × List En × Int, [AD.one (.ptr S 12 0 0), .one (.int .u64 p)] = [.one (.ptr x.1 12 0 0), .one (.int .u64 x.2.2.2)] ∧ (∃ a f bd live, live.length = 8 ∧ H x.1 = topO a f bd (.mp x.2.1) live) ∧ H x.2.1 = some ⟨none, 0, rowsE x.2.2.1⟩ ∧ x.2.2.1.length ≤ 1000 ∧ (∀ e ∈ x.2.2.1, U64 e.off ∧ e.name.size ≤ 15) := ⟨(S, M, names, p), rfl, ⟨a, f, bd, live, h8, hS⟩, hM, hn, hu⟩
  unfold namedMF
  rw [dif_pos hx]
  have sp := Classical.choose_spec hx
  generalize Classical.choose hx = x at sp ⊢
  obtain ⟨h1, ⟨a', f', bd', live', h8', h2⟩, h3, _⟩ := sp
  simp only [List.cons.injEq, AD.one.injEq, D.ptr.injEq, D.int.injEq, true_and, and_true] at h1
  rw [← h1.1, hS] at h2
  simp only [topO, topR, Option.some.injEq, PObj.mk.injEq, List.cons.injEq, D.mp.injEq, true_and, and_true] at h2
  rw [← h2.2.2.2.1, hM] at h3
  simp only [Option.some.injEq, PObj.mk.injEq, true_and] at h3
  rw [← rowsE_inj h3, ← h1.2]
end Go.Proofs.YtapdaefpkddioaaGreat.Pe
namespace Go.Proofs.YtapdaefpkddioaaGreat.Pe
open Go Go.RowKit Go.Sort
open Go.WideElems (Fit rd rg rg_of)
section
variable {w : World} {ι : Nat → Option Nat} {M : Nat → Prop} {b : Nat} {es : Array MapEntry} {clock : Nat} {names : List En}
theorem ent_of (h : MapAt w ι M b es clock (rowsE names)) {i : Nat} (hi : i < names.length) : ∃ hx : i < es.size, es[i].key = .string names[i].name ∧ es[i].val = .int .u64 names[i].off := by
  have hl := h.len
  have hr : (rowsE names).length = names.length := by simp [rowsE]
  have hx : i < es.size := by omega
  refine ⟨hx, ?_⟩
  obtain ⟨k, v, h1, h2, h3⟩ := h.rd i es[i] names[i].c (Array.getElem?_eq_getElem hx) (by simp [rowsE, hi])
  simp only [En.c, List.cons.injEq, and_true] at h1
  obtain ⟨rfl, rfl⟩ := h1
  refine ⟨?_, ?_⟩
  · generalize es[i].key = u at h2; cases h2; rfl
  · generalize es[i].val = u at h3; cases h3; rfl
theorem ent_rd (h : MapAt w ι M b es clock (rowsE names)) (hu : ∀ e ∈ names, U64 e.off ∧ e.name.size ≤ 15) {i : Nat} (hi : i < names.length) : ∃ hx : i < es.size, rd (H := Unit) Tryz.prog 9 (plainElem Tryz.prog 26) es[i] = some (.string names[i].name.data.toList, .lit (.int .u64 names[i].off)) ∧ keyOf Tryz.prog 9 es[i].key = some (.string names[i].name.data.toList) ∧ plainElem (H := Unit) Tryz.prog 26 es[i].val = some (.lit (.int .u64 names[i].off), []) := by
  obtain ⟨hx, hk, hv⟩ := ent_of h hi
  obtain ⟨u1, u2⟩ := hu _ (List.getElem_mem hi)
  have hw : (Lit.int .u64 names[i].off).wf = true := by
    obtain ⟨u3, u4⟩ := u1
    exact Go.WalkArith.wf_u64 ⟨u3, by omega⟩
  have q1 : keyOf Tryz.prog 9 es[i].key = some (.string names[i].name.data.toList) := by rw [hk]; exact WideMaps.keyOf_string_mk Tryz.underlying9 (by unfold maxLen; omega)
  have q2 : plainElem (H := Unit) Tryz.prog 26 es[i].val = some (.lit (.int .u64 names[i].off), []) := by rw [hv]; exact plainElem_int Tryz.underlying26 hw
  refine ⟨hx, ?_, q1, q2⟩
  simp [Go.WideElems.rd, q1, q2]
theorem names_fit (h : MapAt w ι M b es clock (rowsE names)) (hn : names.length ≤ 1000) (hu : ∀ e ∈ names, U64 e.off ∧ e.name.size ≤ 15) : Fit (H := Unit) Tryz.prog 9 (plainElem Tryz.prog 26) es clock := by
  have hl := h.len
  have hr : (rowsE names).length = names.length := by simp [rowsE]
  refine ⟨by unfold maxLen; omega, h.st, fun x hx => ?_⟩
  obtain ⟨i, hi, rfl⟩ := List.getElem_of_mem hx
  obtain ⟨_, q, _⟩ := ent_rd h hu (i := i) (by simp at hi; omega)
  exact ⟨_, by simpa using q⟩
noncomputable abbrev datumOf (es : Array MapEntry) : DataW Unit := .map ((es.toList.map (rg Tryz.prog 9 (plainElem Tryz.prog 26))).foldr DataW.insert [])
theorem names_vals (h : MapAt w ι M b es clock (rowsE names)) (hn : names.length ≤ 1000) (hu : ∀ e ∈ names, U64 e.off ∧ e.name.size ≤ 15) {ps : List (List UInt8 × Int)} (ha : Mv.AllOf (datumOf es) ps) (p : Int) :
    (ps.map (·.2)).contains p = names.any (·.off == p) := by
  have hf := names_fit h hn hu
  have hl := h.len
  have hr : (rowsE names).length = names.length := by simp [rowsE]
  have hK := Mv.law27
  obtain ⟨_, ha2, ha3⟩ := ha
  have key : ∀ (i : Nat) (hi : i < names.length) (zd : DataW Unit), (datumOf es).atKey (.string names[i].name.data.toList) zd = .lit (.int .u64 names[i].off) := by
    intro i hi zd
    obtain ⟨hx, q1, q2, q3⟩ := ent_rd h hu hi
    exact Go.WideElems.atKey_some (Go.WideMaps.string_law Tryz.underlying9) hf q2 (Array.mem_toList_iff.2 (Array.getElem_mem hx)) rfl q3 zd
  have hmem : ∀ x, Maps.has (datumOf es) (.string x) = true → ∃ (i : Nat) (hi : i < names.length), names[i].name.data.toList = x := by
    intro x hx
    obtain ⟨q, hq, hqk⟩ := List.any_eq_true.1 hx
    obtain ⟨e, he, rfl⟩ := List.mem_map.1 (mem_sorted.1 hq)
    obtain ⟨i, hi, rfl⟩ := List.getElem_of_mem he
    have hi' : i < names.length := by simp at hi; omega
    obtain ⟨hx2, q1, q2, q3⟩ := ent_rd h hu hi'
    have hrg : rg (H := Unit) Tryz.prog 9 (plainElem Tryz.prog 26) es.toList[i] = (.string names[i].name.data.toList, .lit (.int .u64 names[i].off)) := rg_of (by simpa using q1)
    rw [hrg] at hqk
    have := WideAt.sameKey_eq hqk
    simp only [Lit.string.injEq] at this
    exact ⟨i, hi', this⟩
  have hiff : p ∈ ps.map (·.2) ↔ ∃ e ∈ names, e.off = p := by
    constructor
    · intro hp
      obtain ⟨q, hq, rfl⟩ := List.mem_map.1 hp
      have hh := (ha2 q.1).1 (List.mem_map.2 ⟨q, hq, rfl⟩)
      obtain ⟨i, hi, hi2⟩ := hmem _ hh
      have h1 := ha3 q hq .nil
      rw [← hi2, key i hi] at h1
      injection h1 with h1
      injection h1 with _ h1
      exact ⟨names[i], List.getElem_mem hi, h1⟩
    · rintro ⟨e, he, rfl⟩
      obtain ⟨i, hi, rfl⟩ := List.getElem_of_mem he
      have hh : Maps.has (datumOf es) (.string names[i].name.data.toList) = true := Maps.has_true_of_atKey (y := .lit (.int .u64 names[i].off)) (fun z => key i hi z)
      obtain ⟨q, hq, hq2⟩ := List.mem_map.1 ((ha2 _).2 hh)
      have h1 := ha3 q hq .nil
      rw [hq2, key i hi] at h1
      injection h1 with h1
      injection h1 with _ h1
      exact List.mem_map.2 ⟨q, hq, h1.symm⟩
  rw [Bool.eq_iff_iff, List.contains_iff_mem, hiff, List.any_eq_true]
  constructor
  · rintro ⟨e, he, h1⟩; exact ⟨e, he, by simpa using h1⟩
  · rintro ⟨e, he, h1⟩; exact ⟨e, he, by simpa using h1⟩
theorem datum_size (h : MapAt w ι M b es clock (rowsE names)) : Maps.size (datumOf es) = names.length := by
  have hl := h.len
  have hr : (rowsE names).length = names.length := by simp [rowsE]
  simp [datumOf, Maps.size, length_sorted]
  omega
end
end Go.Proofs.YtapdaefpkddioaaGreat.Pe
namespace Go.Proofs.YtapdaefpkddioaaGreat.Pe
open Go Go.RowKit
attribute [local go_sem] Oper.semAt_some
theorem rowsN_ints {w : World} {ι : Nat → Option Nat} {M : Nat → Prop} {xs : List Int} {base : Nat} {v : Value} (h : w.ownsRow base 26 1 v xs.length (xs.map (Value.int .u64))) (hM : ∀ b, M b → b < base) : Rd w ι M v (.sl (rowsN xs)) := by
  rcases h.2 with ⟨rfl, h0⟩ | ⟨g, cap, cur, rfl, hg, hh, hn, hc, hs, ht⟩
  · have : xs = [] := List.eq_nil_of_length_eq_zero h0
    subst this
    exact .nil _ _
  · cases hxs : xs with
    | nil => exact .nil _ _
    | cons y ys =>
      rw [← hxs]
      have hpos : 0 < xs.length := by rw [hxs]; simp
      refine .sl _ _ _ 1 (rowsN xs) (fun i _ => .int .u64 (xs[i]?.getD 0)) (rowsN_len xs) hpos hn (by decide) (by simp [rowsN]) rfl (fun hm => by have := hM _ hm; simp only at this; omega) (fun i j hi hj => ?_) (fun i j r d hr hd => ?_)
      · have hj0 : j = 0 := by omega
        subst hj0
        rw [addr_add rfl, show 0 + (i * 1 + 0) = i by omega]
        have h1 : cur[i]? = some (Value.int .u64 (xs[i]?.getD 0)) := by
          have h2 : (cur.toList.take (xs.length * 1))[i]? = some (Value.int .u64 xs[i]) := by rw [ht]; simp [hi]
          rw [List.getElem?_take_of_lt (by omega), Array.getElem?_toList] at h2
          rw [h2, List.getElem?_eq_getElem hi]; rfl
        simp [World.cell?, hh, h1]
      · have hi : i < xs.length := by
          have := (List.getElem?_eq_some_iff.1 hr).1
          rw [rowsN_len] at this; exact this
        rw [rowsN_get' xs i hi] at hr
        injection hr with hr
        subst hr
        cases j with
        | zero => simp at hd; subst hd; rw [List.getElem?_eq_getElem hi]; exact .int _ _
        | succ j => simp at hd
set_option maxRecDepth 100000 in
set_option maxHeartbeats 2000000 in
theorem named_walk {w : World} {b bm : Nat} {es : Array MapEntry} {clock : Nat} {ι : Nat → Option Nat} {M : Nat → Prop} {names : List En} {p : Int} (hlt : ∀ b, M b → b < w.heap.size) (hnx : ∃ nx, ∀ o, nx ≤ o ↔ ι o = none)
    (hc : w.cell? ⟨b, 3, none⟩ = some (.map (some bm))) (hm : MapAt w ι M bm es clock (rowsE names)) (hn : names.length ≤ 1000) (hu : ∀ e ∈ names, U64 e.off ∧ e.name.size ≤ 15) :
    CallsIn Fence.wide 10 Tryz.prog 69 #[.pointer (some ⟨b, 0, none⟩), .int .u64 p] w fun e w' => e = .returned (.bool (names.any (·.off == p))) ∧ Below w.heap.size w w' := by
  have h1 : (1 : Nat) ≤ 10 := by omega
  have hd : Fence.wide.depth.isSome = true → 1 ≤ 10 := fun _ => h1
  refine callsIn_of_wp Tryz.func69 rfl trivial ?_ rfl
  simp only [Tryz.ntmps69, List.size_toArray, List.length_cons, List.length_nil, Nat.reduceAdd, Nat.reduceSub, Array.replicate_succ, Array.replicate_zero, List.push_toArray, List.append_toArray, List.nil_append, List.cons_append]
  have hA := hm.at_
  have hb0 : Below w.heap.size w (w.alloc (.cells #[.map (some bm)] 84)) := (Below.refl _ w).alloc (Nat.le_refl _) _
  have hbm : bm < w.heap.size := (Array.getElem?_eq_some_iff.1 hA).1
  have hown : (w.alloc (.cells #[.map (some bm)] 84)).ownsMap Tryz.prog 9 (plainElem Tryz.prog 26) bm names.length (datumOf es) := by
    have hl := hm.len
    have hr : (rowsE names).length = names.length := by simp [rowsE]
    exact ⟨es, clock, (hb0.block bm hbm).trans hA, names_fit hm hn hu, by omega, rfl⟩
  have hcell : (w.alloc (.cells #[.map (some bm)] 84)).cell? ⟨w.heap.size, 0, none⟩ = some (.map (some bm)) := by
    exact (Boxed.new w 84 (.map (some bm))).cell
  have hw1s : (w.alloc (.cells #[.map (some bm)] 84)).heap.size = w.heap.size + 1 := by simp
  generalize hw1 : w.alloc (.cells #[.map (some bm)] 84) = w1 at hb0 hown hcell hw1s
  gi_wp2
  refine ⟨trivial, ?_⟩
  refine (Mv.values_in Fence.wide 9 trivial rfl _ _).mono ?_
  rintro e w1' ⟨rfl, rfl⟩
  rw [hw1]
  gi_wp2
  refine ⟨trivial, ?_⟩
  refine (Mv.collect_in Fence.wide 9 trivial trivial trivial rfl (by omega) w.heap.size bm names.length (datumOf es) w1 (by omega) hcell hown (by rw [datum_size hm]; exact hn)).mono ?_
  rintro e w2 ⟨v, ps, rfl, hps, hrow, hb2⟩
  gi_wp2
  refine ⟨trivial, ?_⟩
  have hlen : (ps.map (·.2)).length ≤ 100000 := by
    have h2 := hps.1.length_eq
    rw [List.length_map] at h2 ⊢
    rw [h2]
    have := datum_size hm
    unfold Maps.size at this
    simp only [Go.strKeys, List.length_map, datumOf] at this ⊢
    omega
  have hrd : Rd w2 ι M v (.sl (rowsN (ps.map (·.2)))) := rowsN_ints hrow (fun b hb => by have := hlt b hb; omega)
  have hcall := contN_ok _ _ (contNF_eq (p := p) hlen) w2 ι M #[v, .int .u64 p] (fun b hb => by have := hlt b hb; have := hb2.size; omega) hnx rfl (by
    intro j u a hu ha
    match j with
    | 0 => simp at hu ha; subst hu; subst ha; exact hrd
    | 1 => simp at hu ha; subst hu; subst ha; exact .int _ _
    | j + 2 => simp at hu)
  refine (callsIn_wide.2 hcall).mono ?_
  rintro e w3 ⟨v3, rfl, hr3, hx⟩
  have hv3 : v3 = .bool (names.any (·.off == p)) := by
    have hr3' : Rd w3 ι M v3 (.bool ((ps.map (·.2)).contains p)) := hr3
    rw [names_vals hm hn hu hps p] at hr3'
    generalize hz : names.any (·.off == p) = z at hr3' ⊢
    cases hr3'; rfl
  subst hv3
  gi_wp2
  go_ret
  refine ⟨rfl, ?_⟩
  have hbb : Below w.heap.size w w2 := hb0.trans (hb2.mono (by omega))
  exact hbb.trans ⟨hx.os, hx.tape, hx.output, hx.size, fun k hk => hx.same k (by have := hbb.size; omega)⟩
theorem namedM_ok : FnEff Tryz.prog 69 namedMF := by
  intro l0 H nx r H' nx' hF w ι M vals hlt hok hsz hvals
  unfold namedMF at hF
  split at hF
  case isFalse => cases hF
  rename_i hx
  have sp := Classical.choose_spec hx
  generalize Classical.choose hx = x at sp hF
  obtain ⟨S, Mm, names, p⟩ := x
  obtain ⟨rfl, ⟨a, f, bd, live, h8, hS⟩, hM, hn, hu⟩ := sp
  simp only at hS hM hn hu
  simp only [Option.some.injEq, Prod.mk.injEq] at hF
  obtain ⟨rfl, rfl, rfl⟩ := hF
  have hv2 : vals.size = 2 := hsz
  obtain ⟨v0, v1, rfl⟩ : ∃ v0 v1, vals = #[v0, v1] := by
    obtain ⟨l⟩ := vals
    match l, hv2 with
    | [v0, v1], _ => exact ⟨v0, v1, rfl⟩
  have r0 : Rd w ι M v0 (.ptr S 12 0 0) := hvals 0 v0 _ rfl rfl
  have r1 : Rd w ι M v1 (.int .u64 p) := hvals 1 v1 _ rfl rfl
  have hp0 : ∃ b, ι S = some b ∧ v0 = .pointer (some ⟨b, 0, none⟩) := by
    cases r0 with
    | ptr _ _ _ _ b h hsz => exact ⟨b, h, by simp⟩
  obtain ⟨b, hb, rfl⟩ := hp0
  have hp1 : v1 = .int .u64 p := by cases r1; rfl
  subst hp1
  obtain ⟨b', hb', ob⟩ := hok.objs S _ hS
  rw [hb] at hb'
  injection hb' with hb'
  subst hb'
  obtain ⟨T, cs, _, bk⟩ := ob.blk (show 0 < 12 by omega)
  obtain ⟨u, hu1, hu2⟩ := bk.rd 0 3 (topR a f bd (.mp Mm) live) (.mp Mm) rfl rfl
  obtain ⟨bm, hbm, rfl⟩ : ∃ bm, ι Mm = some bm ∧ u = .map (some bm) := by
    cases hu2 with
    | mp _ bm h => exact ⟨bm, h, rfl⟩
  obtain ⟨b2, hb2, ob2⟩ := hok.objs Mm _ hM
  rw [hbm] at hb2
  injection hb2 with hb2
  subst hb2
  obtain ⟨es, clock, hma⟩ := ob2.map rfl
  have hc : w.cell? ⟨b, 3, none⟩ = some (.map (some bm)) := by
    simp only [Nat.zero_mul, Nat.zero_add] at hu1
    simp [World.cell?, bk.at_, hu1]
  refine (callsIn_wide.1 (named_walk hlt ⟨nx, hok.new⟩ hc hma hn hu)).mono ?_
  rintro e w' ⟨rfl, hbl⟩
  have hs : ∀ k, k < w.heap.size → w'.heap[k]? = w.heap[k]? := hbl.block
  have hev : ∀ X : Nat → Prop, Evo X M w M w' := fun X => ⟨hbl.os, hbl.tape, hbl.output, hbl.size, fun k hk _ => hs k hk, fun _ _ h => h, fun k hk _ => hs k hk, .of hs⟩
  refine ⟨_, ι, M, rfl, .bool _, ⟨hok.new, fun o ob ho => ?_, hok.inj, hok.ctl⟩, fun _ _ h => h, ?_, fun b hb _ => hb, fun _ _ h => h, fun b hb => Nat.lt_of_lt_of_le (hlt b hb) hbl.size⟩
  · obtain ⟨bo, h1, h2⟩ := hok.objs o ob ho
    exact ⟨bo, h1, h2.mono (hev (fun _ => False)) (fun _ _ h => h) (hs bo (hlt bo (hok.ctl o ob bo ho h1)))⟩
  · exact ⟨hbl.os, hbl.tape, hbl.output, hbl.size, fun k hk _ => hs k hk, fun _ _ h => h, fun k hk _ => hs k hk, .of hs⟩
end Go.Proofs.YtapdaefpkddioaaGreat.Pe
