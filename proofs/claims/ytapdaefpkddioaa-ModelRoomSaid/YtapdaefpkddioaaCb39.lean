/- A part of the proof of PmD. -/
import Derived.Test.YtapdaefpkddioaaCb38
set_option linter.unusedSimpArgs false
set_option linter.unusedVariables false
set_option linter.unusedSectionVars false
namespace Go.Proofs.Ytapdaefpkddioaa.Pe
open Go
set_option maxHeartbeats 2000000
noncomputable def Cx30 : (Nat → Prop) → Ctx := fun X => { nt := 28, tt := tt, fns := ofList [(49, .eff mineT), (19, .pure failF)], keep := keep30, X := X }
noncomputable def publishT : List AD → Hp → Nat → Option (RV × Hp × Nat) := semT Try.f30 Cx30 Try.f30.results
theorem publishT_ok : FnEff Try.prog 30 publishT := semT_ok mixed Try.func30 rfl (fun X => ok_of (l := [(49, .eff mineT), (19, .pure failF)]) tt_ok ⟨mineT_ok, by kernel_rfl, fail_ok, by kernel_rfl, trivial⟩ (noEqs _)) (fun _ => rfl) (fun _ => rfl) (by decide) rfl
noncomputable def Cx31 : (Nat → Prop) → Ctx := fun X => { nt := 52, tt := tt, fns := ofList [(49, .eff mineT), (19, .pure failF)], keep := keep31, X := X }
noncomputable def giveT : List AD → Hp → Nat → Option (RV × Hp × Nat) := semT Try.f31 Cx31 Try.f31.results
theorem giveT_ok : FnEff Try.prog 31 giveT := semT_ok mixed Try.func31 rfl (fun X => ok_of (l := [(49, .eff mineT), (19, .pure failF)]) tt_ok ⟨mineT_ok, by kernel_rfl, fail_ok, by kernel_rfl, trivial⟩ (noEqs _)) (fun _ => rfl) (fun _ => rfl) (by decide) rfl
noncomputable def Cx26 : (Nat → Prop) → Ctx := fun X => { nt := 49, tt := tt, fns := ofList [(49, .eff mineT), (19, .pure failF)], keep := keep26, X := X }
noncomputable def readT : List AD → Hp → Nat → Option (RV × Hp × Nat) := semT Try.f26 Cx26 Try.f26.results
theorem readT_ok : FnEff Try.prog 26 readT := semT_ok mixed Try.func26 rfl (fun X => ok_of (l := [(49, .eff mineT), (19, .pure failF)]) tt_ok ⟨mineT_ok, by kernel_rfl, fail_ok, by kernel_rfl, trivial⟩ (noEqs _)) (fun _ => rfl) (fun _ => rfl) (by decide) rfl
noncomputable def Cx25 : (Nat → Prop) → Ctx := fun X => { nt := 50, tt := tt, fns := ofList [(49, .eff mineT), (19, .pure failF)], keep := keep25, X := X }
noncomputable def writeT : List AD → Hp → Nat → Option (RV × Hp × Nat) := semT Try.f25 Cx25 Try.f25.results
theorem writeT_ok : FnEff Try.prog 25 writeT := semT_ok mixed Try.func25 rfl (fun X => ok_of (l := [(49, .eff mineT), (19, .pure failF)]) tt_ok ⟨mineT_ok, by kernel_rfl, fail_ok, by kernel_rfl, trivial⟩ (noEqs _)) (fun _ => rfl) (fun _ => rfl) (by decide) rfl
section
variable {K : Nat} {s : St} {S B M : Nat} {ml : List Mb} {H : Hp} {nx : Nat} {c : Int} {op : Opn}
inductive MineIs (s : St) (ml : List Mb) (c : Int) (op : Opn) (al : Bool) : Int × Int → Prop
  | no (e : Int) (i : Int) (h : e = 4 ∨ e = 5) (hd : ownedV s c op = (i, e)) : MineIs s ml c op al (i, e)
  | yes (i : Nat) (hi : i < ml.length) (hu : ml[i].b.used = true) (hp : ml[i].b.off + 32 = op.off) (hd : ownedV s c op = ((i : Int), 0)) (ho : ml[i].b.owner = c + 1 ∨ (al = true ∧ ml[i].b.owner = 0)) : MineIs s ml c op al ((i : Int), 0)
theorem Ms.mine (h : Ms K s S B M ml H nx) (al : Bool) (hal : pubK op.kind = al) : MineIs s ml c op al (mineV (bks ml) c op.off al) := by
  have hbl := bks_len ml
  unfold mineV
  have hov : ownedV s c op = match placeN s.h.bl op.off with
    | none => (-1, 4)
    | some i => (i, if (((s.h.bl[i]?.map (·.owner)).getD 0 != c + 1) && ((s.h.bl[i]?.map (·.owner)).getD 0 != 0 || !pubK op.kind)) then 5 else 0) := rfl
  rw [← h.bs] at hov
  cases hp : placeN (bks ml) op.off with
  | none => rw [hp] at hov; exact .no 4 (-1) (.inl rfl) hov
  | some i =>
    rw [hp] at hov
    obtain ⟨hi, h1, h2⟩ := place_some hp
    have hi' : i < ml.length := by rw [← hbl]; exact hi
    have hbi : (bks ml)[i]? = some ml[i].b := by simp [bks, hi']
    have hbg : (bks ml)[i] = ml[i].b := by simp [bks]
    rw [hbg] at h1 h2
    simp only [hbi, Option.map_some, Option.getD_some, hal] at hov ⊢
    have e : ((ml[i].b.owner != c + 1) && !(al && ml[i].b.owner == 0)) = ((ml[i].b.owner != c + 1) && (ml[i].b.owner != 0 || !al)) := by
      cases al <;> simp [bne]
    rw [e]
    split at hov
    · rename_i hc
      rw [if_pos hc]
      exact .no 5 i (.inr rfl) hov
    · rename_i hc
      rw [if_neg hc]
      refine .yes i hi' h1 h2 hov ?_
      cases al with
      | false => left; simpa using hc
      | true =>
        by_cases ho : ml[i].b.owner = c + 1
        · exact .inl ho
        · right
          refine ⟨rfl, ?_⟩
          simpa [ho] using hc
theorem publish_run (h : Ms K s S B M ml H nx) (c0 : 0 ≤ c) (c1 : c ≤ 7) (hk : op.kind = 11) : OpRes publishT K s S M H nx c op (blockV s c op) := by
  have h8 := h.wk.lv8
  have hlo := rowsO_len s.live
  have hS := h.hs.top
  have hB := h.hs.bl
  have hmi := mineT_eq (c := c) (op := op) (al := false) h8 h.hs (by have := h.len; omega) h.offs c0 c1
  have hm := h.mine (c := c) (op := op) false (by simp [pubK, hk])
  generalize mineV (bks ml) c op.off false = mv at *
  cases hm with
  | no e i he hd =>
    have hbv : blockV s c op = (s, e, 0, 0) := by unfold blockV; simp only [hd]; rw [if_pos (by omega)]
    rw [hbv]
    refine ⟨B, ml, H, nx, ?_, h.more⟩
    unfold publishT
    rw [Try.results30]
    refine semT_eq rfl (by simp [Try.ntmps30]) fun X R hR => ?_
    unfold Cx30 at hR ⊢
    simp only [resC] at hR
    simp only [iiRV, Opn.c] at hmi
    (repeat ((try simp only [cl_seq, cl_skip]); with_reducible refine cg fun K hK => ?_; (simp (maxSteps := 1000000) only [go_sem, Opn.c, hmi]); (repeat refine ck ?_); (try simp (disch := omega) only [wrap64, wrapi64]); refine hK _ ?_; clear hK K))
    (((try simp only [cl_seq, cl_skip]); refine cl_cond rfl (fun g => ?_) (fun g => ?_)))
    · (repeat ((try simp only [cl_seq, cl_skip]); with_reducible refine cg fun K hK => ?_; (simp (maxSteps := 1000000) only [go_sem, failF_eq]); (repeat refine ck ?_); (try simp (disch := omega) only [wrap64, wrapi64]); refine hK _ ?_; clear hK K))
      (((try simp only [cl_seq, cl_skip]); (try simp only [cl_ret]); refine hR _ _ (.inr rfl) ?_; (simp (maxSteps := 1000000) only [go_sem])))
    · exact absurd g (by simp; omega)
  | yes i hi hu hp hd ho =>
    have hown : ml[i].b.owner = c + 1 := by
      rcases ho with ho | ho
      · exact ho
      · exact absurd ho.1 (by simp)
    have hbv : blockV s c op = (ownerV s i 0, 0, 0, 0) := by unfold blockV; simp [hd, hk]
    rw [hbv]
    have hms := h.owner hi hu (by omega) (who := 0) (by omega) (by omega)
    refine ⟨B, _, _, nx, ?_, hms.more⟩
    unfold publishT
    rw [Try.results30]
    refine semT_eq rfl (by simp [Try.ntmps30]) fun X R hR => ?_
    unfold Cx30 at hR ⊢
    simp only [resC] at hR
    simp only [iiRV, Opn.c] at hmi
    (repeat ((try simp only [cl_seq, cl_skip]); with_reducible refine cg fun K hK => ?_; (simp (maxSteps := 1000000) only [go_sem, Opn.c, hmi]); (repeat refine ck ?_); (try simp (disch := omega) only [wrap64, wrapi64]); refine hK _ ?_; clear hK K))
    (((try simp only [cl_seq, cl_skip]); refine cl_cond rfl (fun g => ?_) (fun g => ?_)))
    · exact absurd g (by simp)
    · (repeat ((try simp only [cl_seq, cl_skip]); with_reducible refine cg fun K hK => ?_; (simp (maxSteps := 1000000) only [go_sem, hS, hB, hlo, h8, hi]); (repeat refine ck ?_); (try simp (disch := omega) only [wrap64, wrapi64]); refine hK _ ?_; clear hK K))
      (((try simp only [cl_seq, cl_skip]); (try simp only [cl_ret]); refine hR _ _ (.inr rfl) ?_; (simp (maxSteps := 1000000) only [go_sem])))
theorem give_run (h : Ms K s S B M ml H nx) (c0 : 0 ≤ c) (c1 : c ≤ 7) (hk : op.kind = 12) : OpRes giveT K s S M H nx c op (blockV s c op) := by
  have h8 := h.wk.lv8
  have hlo := rowsO_len s.live
  have hS := h.hs.top
  have hB := h.hs.bl
  have hmi := mineT_eq (c := c) (op := op) (al := false) h8 h.hs (by have := h.len; omega) h.offs c0 c1
  have hm := h.mine (c := c) (op := op) false (by simp [pubK, hk])
  generalize mineV (bks ml) c op.off false = mv at *
  cases hm with
  | no e i he hd =>
    have hbv : blockV s c op = (s, e, 0, 0) := by unfold blockV; simp only [hd]; rw [if_pos (by omega)]
    rw [hbv]
    refine ⟨B, ml, H, nx, ?_, h.more⟩
    unfold giveT
    rw [Try.results31]
    refine semT_eq rfl (by simp [Try.ntmps31]) fun X R hR => ?_
    unfold Cx31 at hR ⊢
    simp only [resC] at hR
    simp only [iiRV, Opn.c] at hmi
    (repeat ((try simp only [cl_seq, cl_skip]); with_reducible refine cg fun K hK => ?_; (simp (maxSteps := 1000000) only [go_sem, Opn.c, hmi]); (repeat refine ck ?_); (try simp (disch := omega) only [wrap64, wrapi64]); refine hK _ ?_; clear hK K))
    (((try simp only [cl_seq, cl_skip]); refine cl_block fun K hK1 R hR1 X hX1 => ?_))
    (repeat ((try simp only [cl_seq, cl_skip]); with_reducible refine cg fun K hK => ?_; (simp (maxSteps := 1000000) only [go_sem]); (repeat refine ck ?_); (try simp (disch := omega) only [wrap64, wrapi64]); refine hK _ ?_; clear hK K))
    (((try simp only [cl_seq, cl_skip]); refine cl_cond rfl (fun g => ?_) (fun g => ?_)))
    · (repeat ((try simp only [cl_seq, cl_skip]); with_reducible refine cg fun K hK => ?_; (simp (maxSteps := 1000000) only [go_sem, failF_eq]); (repeat refine ck ?_); (try simp (disch := omega) only [wrap64, wrapi64]); refine hK _ ?_; clear hK K))
      (((try simp only [cl_seq, cl_skip]); (try simp only [cl_ret]); refine hR1 _ (hR _ _ (.inr rfl) ?_); (simp (maxSteps := 1000000) only [go_sem])))
    · exact absurd g (by simp; omega)
  | yes i hi hu hp hd ho =>
    have hown : ml[i].b.owner = c + 1 := by
      rcases ho with ho | ho
      · exact ho
      · exact absurd ho.1 (by simp)
    by_cases ht : op.to_ < 0 ∨ 7 < op.to_
    · have hbv : blockV s c op = (s, 1, 0, 0) := by unfold blockV; simp [hd, hk, ht]
      rw [hbv]
      refine ⟨B, ml, H, nx, ?_, h.more⟩
      unfold giveT
      rw [Try.results31]
      refine semT_eq rfl (by simp [Try.ntmps31]) fun X R hR => ?_
      unfold Cx31 at hR ⊢
      simp only [resC] at hR
      simp only [iiRV, Opn.c] at hmi
      (repeat ((try simp only [cl_seq, cl_skip]); with_reducible refine cg fun K hK => ?_; (simp (maxSteps := 1000000) only [go_sem, Opn.c, hmi]); (repeat refine ck ?_); (try simp (disch := omega) only [wrap64, wrapi64]); refine hK _ ?_; clear hK K))
      (((try simp only [cl_seq, cl_skip]); refine cl_block fun K hK1 R hR1 X hX1 => ?_))
      (repeat ((try simp only [cl_seq, cl_skip]); with_reducible refine cg fun K hK => ?_; (simp (maxSteps := 1000000) only [go_sem]); (repeat refine ck ?_); (try simp (disch := omega) only [wrap64, wrapi64]); refine hK _ ?_; clear hK K))
      (((try simp only [cl_seq, cl_skip]); refine cl_cond rfl (fun g => ?_) (fun g => ?_)))
      · exact absurd g (by simp)
      · (((try simp only [cl_seq, cl_skip]); refine cl_reg_b (g := ?g123) (t := ?t123) (L := ?L123) ((decide (op.to_ < 0) || decide (8 ≤ op.to_))) (fun K hK => ?h1123) ?h2123; case' h1123 => (simp (maxSteps := 1000000) only [go_sem, ge_iff_le]); (repeat refine ck ?_); (repeat' (((refine ite_split (fun hb => ?_) (fun hb => ?_) <;> ((try (simp (maxSteps := 1000000) only [go_sem, hb, ge_iff_le])); (repeat refine ck ?_)))))); all_goals (first | ((try simp (disch := omega) only [wrap64, wrapi64]); refine hK _ ?_; clear hK K; first | rfl | grind | skip) | skip)))
        all_goals try (simp only [*, Bool.false_or, Bool.true_or, Bool.or_true]; done)
        (((try simp only [cl_seq, cl_skip]); refine cl_cond rfl (fun g2 => ?_) (fun g2 => ?_)))
        · (repeat ((try simp only [cl_seq, cl_skip]); with_reducible refine cg fun K hK => ?_; (simp (maxSteps := 1000000) only [go_sem, failF_eq]); (repeat refine ck ?_); (try simp (disch := omega) only [wrap64, wrapi64]); refine hK _ ?_; clear hK K))
          (((try simp only [cl_seq, cl_skip]); (try simp only [cl_ret]); refine hR1 _ (hR _ _ (.inr rfl) ?_); (simp (maxSteps := 1000000) only [go_sem])))
        · exfalso; simp at g2; omega
    · obtain ⟨k, hkk⟩ : ∃ k : Nat, op.to_ = k := ⟨op.to_.toNat, by omega⟩
      have hk8 : k < s.live.length := by omega
      have hgd : decide (op.to_ < 0) = false := by simp; omega
      have hgd2 : decide (8 ≤ op.to_) = false := by simp; omega
      cases hl : s.live[k] with
      | false =>
        have hbv : blockV s c op = (s, 6, 0, 0) := by unfold blockV; simp [hd, hk, ht, hkk, hk8, hl]; omega
        rw [hbv]
        refine ⟨B, ml, H, nx, ?_, h.more⟩
        unfold giveT
        rw [Try.results31]
        refine semT_eq rfl (by simp [Try.ntmps31]) fun X R hR => ?_
        unfold Cx31 at hR ⊢
        simp only [resC] at hR
        simp only [iiRV, Opn.c] at hmi
        rw [hkk] at hmi hgd hgd2
        (repeat ((try simp only [cl_seq, cl_skip]); with_reducible refine cg fun K hK => ?_; (simp (maxSteps := 1000000) only [go_sem, Opn.c, hkk, hmi]); (repeat refine ck ?_); (try simp (disch := omega) only [wrap64, wrapi64]); refine hK _ ?_; clear hK K))
        (((try simp only [cl_seq, cl_skip]); refine cl_block fun K hK1 R hR1 X hX1 => ?_))
        (repeat ((try simp only [cl_seq, cl_skip]); with_reducible refine cg fun K hK => ?_; (simp (maxSteps := 1000000) only [go_sem]); (repeat refine ck ?_); (try simp (disch := omega) only [wrap64, wrapi64]); refine hK _ ?_; clear hK K))
        (((try simp only [cl_seq, cl_skip]); refine cl_cond rfl (fun g => ?_) (fun g => ?_)))
        · exact absurd g (by simp)
        · (repeat ((try simp only [cl_seq, cl_skip]); with_reducible refine cg fun K hK => ?_; (simp (maxSteps := 1000000) only [go_sem, hgd, hgd2, ge_iff_le]); (repeat refine ck ?_); (try simp (disch := omega) only [wrap64, wrapi64]); refine hK _ ?_; clear hK K))
          (((try simp only [cl_seq, cl_skip]); refine cl_cond (b := false) rfl (fun h => nomatch h) (fun _ => ?_)))
          (repeat ((try simp only [cl_seq, cl_skip]); with_reducible refine cg fun K hK => ?_; (simp (maxSteps := 1000000) only [go_sem, hS, hlo, h8, topR_rd _ _ _ _ _ _ hk8, hl, Bool.not_false]); (repeat refine ck ?_); (try simp (disch := omega) only [wrap64, wrapi64]); refine hK _ ?_; clear hK K))
          (((try simp only [cl_seq, cl_skip]); refine cl_cond (b := true) rfl (fun _ => ?_) (fun h => nomatch h)))
          (repeat ((try simp only [cl_seq, cl_skip]); with_reducible refine cg fun K hK => ?_; (simp (maxSteps := 1000000) only [go_sem, failF_eq]); (repeat refine ck ?_); (try simp (disch := omega) only [wrap64, wrapi64]); refine hK _ ?_; clear hK K))
          (((try simp only [cl_seq, cl_skip]); (try simp only [cl_ret]); refine hR1 _ (hR _ _ (.inr rfl) ?_); (simp (maxSteps := 1000000) only [go_sem])))
      | true =>
        have hbv : blockV s c op = (ownerV s i (op.to_ + 1), 0, 0, 0) := by unfold blockV; simp [hd, hk, ht, hkk, hk8, hl]; omega
        rw [hbv]
        have hms := h.owner hi hu (by omega) (who := op.to_ + 1) (by omega) (by omega)
        refine ⟨B, _, _, nx, ?_, hms.more⟩
        unfold giveT
        rw [Try.results31]
        refine semT_eq rfl (by simp [Try.ntmps31]) fun X R hR => ?_
        unfold Cx31 at hR ⊢
        simp only [resC] at hR
        simp only [iiRV, Opn.c] at hmi
        rw [hkk] at hmi hgd hgd2 hR
        (repeat ((try simp only [cl_seq, cl_skip]); with_reducible refine cg fun K hK => ?_; (simp (maxSteps := 1000000) only [go_sem, Opn.c, hkk, hmi]); (repeat refine ck ?_); (try simp (disch := omega) only [wrap64, wrapi64]); refine hK _ ?_; clear hK K))
        (((try simp only [cl_seq, cl_skip]); refine cl_block fun K hK1 R hR1 X hX1 => ?_))
        (repeat ((try simp only [cl_seq, cl_skip]); with_reducible refine cg fun K hK => ?_; (simp (maxSteps := 1000000) only [go_sem]); (repeat refine ck ?_); (try simp (disch := omega) only [wrap64, wrapi64]); refine hK _ ?_; clear hK K))
        (((try simp only [cl_seq, cl_skip]); refine cl_cond rfl (fun g => ?_) (fun g => ?_)))
        · exact absurd g (by simp)
        · (repeat ((try simp only [cl_seq, cl_skip]); with_reducible refine cg fun K hK => ?_; (simp (maxSteps := 1000000) only [go_sem, hgd, hgd2, ge_iff_le]); (repeat refine ck ?_); (try simp (disch := omega) only [wrap64, wrapi64]); refine hK _ ?_; clear hK K))
          (((try simp only [cl_seq, cl_skip]); refine cl_cond (b := false) rfl (fun h => nomatch h) (fun _ => ?_)))
          (repeat ((try simp only [cl_seq, cl_skip]); with_reducible refine cg fun K hK => ?_; (simp (maxSteps := 1000000) only [go_sem, hS, hlo, h8, topR_rd _ _ _ _ _ _ hk8, hl, Bool.not_true]); (repeat refine ck ?_); (try simp (disch := omega) only [wrap64, wrapi64]); refine hK _ ?_; clear hK K))
          (((try simp only [cl_seq, cl_skip]); refine cl_cond (b := false) rfl (fun h => nomatch h) (fun _ => ?_)))
          ((try simp only [cl_seq, cl_skip, cl_exit, cl_nil]))
          refine hK1 _ ?_
          (repeat ((try simp only [cl_seq, cl_skip]); with_reducible refine cg fun K hK => ?_; (simp (maxSteps := 1000000) only [go_sem, hS, hB, hlo, h8, hi, wrapi64 (n := (k : Int) + 1) (by omega) (by omega)]); (repeat refine ck ?_); (try simp (disch := omega) only [wrap64, wrapi64]); refine hK _ ?_; clear hK K))
          (((try simp only [cl_seq, cl_skip]); (try simp only [cl_ret]); refine hR _ _ (.inr rfl) ?_; (simp (maxSteps := 1000000) only [go_sem])))
end
end Go.Proofs.Ytapdaefpkddioaa.Pe
namespace Go.Proofs.Ytapdaefpkddioaa.Pe
open Go
set_option maxHeartbeats 2000000
section
variable {K : Nat} {s : St} {S B M : Nat} {ml : List Mb} {H : Hp} {nx : Nat} {c : Int} {op : Opn}
theorem read_run (h : Ms K s S B M ml H nx) (c0 : 0 ≤ c) (c1 : c ≤ 7) (ho : op.ok) (hk : op.kind = 7) : OpRes readT K s S M H nx c op (blockV s c op) := by
  have h8 := h.wk.lv8
  have hlo := rowsO_len s.live
  have hS := h.hs.top
  have hB := h.hs.bl
  have hmi := mineT_eq (c := c) (op := op) (al := true) h8 h.hs (by have := h.len; omega) h.offs c0 c1
  have hm := h.mine (c := c) (op := op) true (by simp [pubK, hk])
  generalize mineV (bks ml) c op.off true = mv at *
  cases hm with
  | no e i he hd =>
    have hbv : blockV s c op = (s, e, 0, 0) := by unfold blockV; simp only [hd]; rw [if_pos (by omega)]
    rw [hbv]
    refine ⟨B, ml, H, nx, ?_, h.more⟩
    unfold readT
    rw [Try.results26]
    refine semT_eq rfl (by simp [Try.ntmps26]) fun X R hR => ?_
    unfold Cx26 at hR ⊢
    simp only [resC] at hR
    simp only [iiRV, Opn.c] at hmi
    (repeat ((try simp only [cl_seq, cl_skip]); with_reducible refine cg fun K hK => ?_; (simp (maxSteps := 1000000) only [go_sem, Opn.c, hmi]); (repeat refine ck ?_); (try simp (disch := omega) only [wrap64, wrapi64]); refine hK _ ?_; clear hK K))
    (((try simp only [cl_seq, cl_skip]); refine cl_block fun K hK1 R hR1 X hX1 => ?_))
    (repeat ((try simp only [cl_seq, cl_skip]); with_reducible refine cg fun K hK => ?_; (simp (maxSteps := 1000000) only [go_sem]); (repeat refine ck ?_); (try simp (disch := omega) only [wrap64, wrapi64]); refine hK _ ?_; clear hK K))
    (((try simp only [cl_seq, cl_skip]); refine cl_cond rfl (fun g => ?_) (fun g => ?_)))
    · (repeat ((try simp only [cl_seq, cl_skip]); with_reducible refine cg fun K hK => ?_; (simp (maxSteps := 1000000) only [go_sem, failF_eq]); (repeat refine ck ?_); (try simp (disch := omega) only [wrap64, wrapi64]); refine hK _ ?_; clear hK K))
      (((try simp only [cl_seq, cl_skip]); (try simp only [cl_ret]); refine hR1 _ (hR _ _ (.inr rfl) ?_); (simp (maxSteps := 1000000) only [go_sem])))
    · exact absurd g (by simp; omega)
  | yes i hi hu hp hd hown =>
    have dt := h.dt ml[i] (mem_usedM.2 ⟨List.getElem_mem hi, hu⟩)
    rw [hp] at dt
    have hdl := dataV_len h.wk op.off
    have oi := ho.i
    unfold U64 at oi
    obtain ⟨j, hj⟩ : ∃ j : Nat, op.i = j := ⟨op.i.toNat, by omega⟩
    by_cases hlt : op.i < (dataV s op.off).length
    · have hjl : j < (dataV s op.off).length := by omega
      have hbv : blockV s c op = (s, 0, 0, (dataV s op.off)[j]) := by
        unfold blockV
        simp only [hd, hk, hj, Int.toNat_natCast, List.getElem?_eq_getElem hjl, Option.getD_some]
        simp; omega
      rw [hbv]
      refine ⟨B, ml, H, nx, ?_, h.more⟩
      generalize dataV s op.off = v at *
      generalize hdd : ml[i].d = d at dt
      cases dt with
      | nil => simp at hjl
      | obj o v h0 hH =>
        unfold readT
        rw [Try.results26]
        refine semT_eq rfl (by simp [Try.ntmps26]) fun X R hR => ?_
        unfold Cx26 at hR ⊢
        simp only [resC] at hR
        simp only [iiRV, Opn.c] at hmi
        rw [hj] at hmi
        (repeat ((try simp only [cl_seq, cl_skip]); with_reducible refine cg fun K hK => ?_; (simp (maxSteps := 1000000) only [go_sem, Opn.c, hj, hmi]); (repeat refine ck ?_); (try simp (disch := omega) only [wrap64, wrapi64]); refine hK _ ?_; clear hK K))
        (((try simp only [cl_seq, cl_skip]); refine cl_block fun K hK1 R hR1 X hX1 => ?_))
        (repeat ((try simp only [cl_seq, cl_skip]); with_reducible refine cg fun K hK => ?_; (simp (maxSteps := 1000000) only [go_sem]); (repeat refine ck ?_); (try simp (disch := omega) only [wrap64, wrapi64]); refine hK _ ?_; clear hK K))
        (((try simp only [cl_seq, cl_skip]); refine cl_cond rfl (fun g => ?_) (fun g => ?_)))
        · exact absurd g (by simp)
        (repeat ((try simp only [cl_seq, cl_skip]); with_reducible refine cg fun K hK => ?_; (simp (maxSteps := 1000000) only [go_sem, hS, hB, hlo, h8, hi, hdd, ge_iff_le, wrap64 (n := (v.length : Int)) (by omega) (by omega)]); (repeat refine ck ?_); (try simp (disch := omega) only [wrap64, wrapi64]); refine hK _ ?_; clear hK K))
        (((try simp only [cl_seq, cl_skip]); refine cl_cond rfl (fun g2 => ?_) (fun g2 => ?_)))
        · exfalso; simp at g2; omega
        · ((try simp only [cl_seq, cl_skip, cl_exit, cl_nil]))
          refine hK1 _ ?_
          (repeat ((try simp only [cl_seq, cl_skip]); with_reducible refine cg fun K hK => ?_; (simp (maxSteps := 1000000) only [go_sem, hS, hB, hlo, h8, hi, hdd, hH, hjl]); (repeat refine ck ?_); (try simp (disch := omega) only [wrap64, wrapi64]); refine hK _ ?_; clear hK K))
          (((try simp only [cl_seq, cl_skip]); (try simp only [cl_ret]); refine hR _ _ (.inr rfl) ?_; (simp (maxSteps := 1000000) only [go_sem])))
    · have hbv : blockV s c op = (s, 1, 0, 0) := by unfold blockV; simp [hd, hk]; omega
      rw [hbv]
      refine ⟨B, ml, H, nx, ?_, h.more⟩
      generalize dataV s op.off = v at *
      generalize hdd : ml[i].d = d at dt
      cases dt with
      | nil =>
        unfold readT
        rw [Try.results26]
        refine semT_eq rfl (by simp [Try.ntmps26]) fun X R hR => ?_
        unfold Cx26 at hR ⊢
        simp only [resC] at hR
        simp only [iiRV, Opn.c] at hmi
        (repeat ((try simp only [cl_seq, cl_skip]); with_reducible refine cg fun K hK => ?_; (simp (maxSteps := 1000000) only [go_sem, Opn.c, hmi]); (repeat refine ck ?_); (try simp (disch := omega) only [wrap64, wrapi64]); refine hK _ ?_; clear hK K))
        (((try simp only [cl_seq, cl_skip]); refine cl_block fun K hK1 R hR1 X hX1 => ?_))
        (repeat ((try simp only [cl_seq, cl_skip]); with_reducible refine cg fun K hK => ?_; (simp (maxSteps := 1000000) only [go_sem]); (repeat refine ck ?_); (try simp (disch := omega) only [wrap64, wrapi64]); refine hK _ ?_; clear hK K))
        (((try simp only [cl_seq, cl_skip]); refine cl_cond rfl (fun g => ?_) (fun g => ?_)))
        · exact absurd g (by simp)
        (repeat ((try simp only [cl_seq, cl_skip]); with_reducible refine cg fun K hK => ?_; (simp (maxSteps := 1000000) only [go_sem, hS, hB, hlo, h8, hi, hdd, ge_iff_le, show ((0 : Nat) : Int) = 0 from rfl, wrap64 (n := 0) (by omega) (by omega)]); (repeat refine ck ?_); (try simp (disch := omega) only [wrap64, wrapi64]); refine hK _ ?_; clear hK K))
        (((try simp only [cl_seq, cl_skip]); refine cl_cond rfl (fun g2 => ?_) (fun g2 => ?_)))
        · (repeat ((try simp only [cl_seq, cl_skip]); with_reducible refine cg fun K hK => ?_; (simp (maxSteps := 1000000) only [go_sem, failF_eq]); (repeat refine ck ?_); (try simp (disch := omega) only [wrap64, wrapi64]); refine hK _ ?_; clear hK K))
          (((try simp only [cl_seq, cl_skip]); (try simp only [cl_ret]); refine hR1 _ (hR _ _ (.inr rfl) ?_); (simp (maxSteps := 1000000) only [go_sem])))
        · exfalso; simp at g2; omega
      | obj o v h0 hH =>
        unfold readT
        rw [Try.results26]
        refine semT_eq rfl (by simp [Try.ntmps26]) fun X R hR => ?_
        unfold Cx26 at hR ⊢
        simp only [resC] at hR
        simp only [iiRV, Opn.c] at hmi
        (repeat ((try simp only [cl_seq, cl_skip]); with_reducible refine cg fun K hK => ?_; (simp (maxSteps := 1000000) only [go_sem, Opn.c, hmi]); (repeat refine ck ?_); (try simp (disch := omega) only [wrap64, wrapi64]); refine hK _ ?_; clear hK K))
        (((try simp only [cl_seq, cl_skip]); refine cl_block fun K hK1 R hR1 X hX1 => ?_))
        (repeat ((try simp only [cl_seq, cl_skip]); with_reducible refine cg fun K hK => ?_; (simp (maxSteps := 1000000) only [go_sem]); (repeat refine ck ?_); (try simp (disch := omega) only [wrap64, wrapi64]); refine hK _ ?_; clear hK K))
        (((try simp only [cl_seq, cl_skip]); refine cl_cond rfl (fun g => ?_) (fun g => ?_)))
        · exact absurd g (by simp)
        (repeat ((try simp only [cl_seq, cl_skip]); with_reducible refine cg fun K hK => ?_; (simp (maxSteps := 1000000) only [go_sem, hS, hB, hlo, h8, hi, hdd, ge_iff_le, wrap64 (n := (v.length : Int)) (by omega) (by omega)]); (repeat refine ck ?_); (try simp (disch := omega) only [wrap64, wrapi64]); refine hK _ ?_; clear hK K))
        (((try simp only [cl_seq, cl_skip]); refine cl_cond rfl (fun g2 => ?_) (fun g2 => ?_)))
        · (repeat ((try simp only [cl_seq, cl_skip]); with_reducible refine cg fun K hK => ?_; (simp (maxSteps := 1000000) only [go_sem, failF_eq]); (repeat refine ck ?_); (try simp (disch := omega) only [wrap64, wrapi64]); refine hK _ ?_; clear hK K))
          (((try simp only [cl_seq, cl_skip]); (try simp only [cl_ret]); refine hR1 _ (hR _ _ (.inr rfl) ?_); (simp (maxSteps := 1000000) only [go_sem])))
        · exfalso; simp at g2; omega
theorem Ms.wordG (hK : K < 49000) (h : Ms K s S B M ml H nx) {i : Nat} (hi : i < ml.length) (hu : ml[i].b.used = true) {o : Nat} {v : List Int} (hd : ml[i].d = .ref o 1 0 v.length) (hv : dataV s (ml[i].b.off + 32) = v) (h0 : 0 < v.length) (hH : H o = some ⟨some 23, 1, rowsN v⟩) (v' : List Int) (hl : v'.length = v.length) :
    Ms (K + 1) { s with data := putV s.data (ml[i].b.off + 32) v' } S B M ml (updO H o (some ⟨some 23, 1, rowsN v'⟩)) nx := by
  have hmi : ml[i] ∈ usedM ml := mem_usedM.2 ⟨List.getElem_mem hi, hu⟩
  obtain ⟨q1, q2, q3, q4⟩ := h.oid hmi (o := o) (by rw [hd]; rfl)
  have hvl : v.length ≤ 100000 := by rw [← hv]; exact dataV_len h.wk _
  have hput := putV_len s.data (ml[i].b.off + 32) v'
  have hdl := h.dl
  have hsm : ∀ w ∈ putV s.data (ml[i].b.off + 32) v', Sm w.d := putV_sm h.wk.ds (by unfold Sm; rw [hl]; exact hvl)
  refine ⟨⟨by rw [updO_ne q2.symm]; exact h.hs.top, by rw [updO_ne q3.symm]; exact h.hs.bl, fun t ht => by rw [updO_ne (by omega)]; exact h.hs.fresh t ht⟩, by rw [updO_ne q4.symm]; exact h.mp, h.bs, ?_, h.df, h.nd, ⟨h.wk.hi, h.wk.lv8, h.wk.fin1, h.wk.all0, h.wk.all1, by simp only; omega, hsm, h.wk.nl⟩, by simp only; omega, h.pos, h.nm.mono rfl fun b hb hbu hbo => ⟨b, hb, hbu, hbo, rfl⟩⟩
  intro m hm
  rw [dataV_eq]
  simp only
  rw [dlV_put]
  by_cases hoff : m.b.off = ml[i].b.off
  · rw [if_pos (by omega)]
    obtain ⟨k, hk, rfl⟩ := List.getElem_of_mem (mem_usedM.1 hm).1
    have hki := h.used_off hk hi hoff
    subst hki
    rw [hd]
    have := Dt.obj (H := updO H o (some ⟨some 23, 1, rowsN v'⟩)) o v' (by rw [hl]; exact h0) (updO_at _ _ _)
    rw [hl] at this
    exact this
  · rw [if_neg (by omega), ← dataV_eq]
    refine (h.dt m hm).frame fun t ht => updO_ne ?_
    rintro rfl
    obtain ⟨k, hk, rfl⟩ := List.getElem_of_mem (mem_usedM.1 hm).1
    have hne : k ≠ i := fun e => by subst e; exact hoff rfl
    have hnd := h.nd
    have key : ∀ (l : List Mb) (a b : Nat) (ha : a < l.length) (hb : b < l.length), a < b → l[a].b.used = true → l[b].b.used = true → l[a].d.oid = some t → l[b].d.oid = some t → ¬ ((usedM l).filterMap (·.d.oid)).Nodup := by
      intro l a b ha hb hab hua hub hoa hob hn
      have e := splitM hb
      have e2 := congrArg usedM e
      rw [usedM_app] at e2
      rw [e2, List.filterMap_append, List.nodup_append] at hn
      obtain ⟨_, _, h3⟩ := hn
      refine h3 t ?_ t ?_ rfl
      · refine List.mem_filterMap.2 ⟨l[a], mem_usedM.2 ⟨?_, hua⟩, hoa⟩
        rw [List.mem_take_iff_getElem]
        exact ⟨a, by omega, rfl⟩
      · exact List.mem_filterMap.2 ⟨l[b], mem_usedM.2 ⟨List.mem_cons_self, hub⟩, hob⟩
    have hoi : ml[i].d.oid = some t := by rw [hd]; rfl
    rcases Nat.lt_or_gt_of_ne hne with hlt | hlt
    · exact key ml k i hk hi hlt (mem_usedM.1 hm).2 hu ht hoi hnd
    · exact key ml i k hi hk hlt hu (mem_usedM.1 hm).2 hoi ht hnd
theorem Ms.word (hK : K < 49000) (h : Ms K s S B M ml H nx) {i : Nat} (hi : i < ml.length) (hu : ml[i].b.used = true) {o : Nat} {v : List Int} (hd : ml[i].d = .ref o 1 0 v.length) (hv : dataV s (ml[i].b.off + 32) = v) (h0 : 0 < v.length) (hH : H o = some ⟨some 23, 1, rowsN v⟩) (j : Nat) (x : Int) :
    Ms (K + 1) { s with data := putV s.data (ml[i].b.off + 32) (v.set j x) } S B M ml (updO H o (some ⟨some 23, 1, rowsN (v.set j x)⟩)) nx := h.wordG hK hi hu hd hv h0 hH _ (by simp)
theorem write_run (hK : K < 49000) (h : Ms K s S B M ml H nx) (c0 : 0 ≤ c) (c1 : c ≤ 7) (ho : op.ok) (hk : op.kind = 6) : OpRes writeT K s S M H nx c op (blockV s c op) := by
  have h8 := h.wk.lv8
  have hlo := rowsO_len s.live
  have hS := h.hs.top
  have hB := h.hs.bl
  have hmi := mineT_eq (c := c) (op := op) (al := true) h8 h.hs (by have := h.len; omega) h.offs c0 c1
  have hm := h.mine (c := c) (op := op) true (by simp [pubK, hk])
  generalize mineV (bks ml) c op.off true = mv at *
  cases hm with
  | no e i he hd =>
    have hbv : blockV s c op = (s, e, 0, 0) := by unfold blockV; simp only [hd]; rw [if_pos (by omega)]
    rw [hbv]
    refine ⟨B, ml, H, nx, ?_, h.more⟩
    unfold writeT
    rw [Try.results25]
    refine semT_eq rfl (by simp [Try.ntmps25]) fun X R hR => ?_
    unfold Cx25 at hR ⊢
    simp only [resC] at hR
    simp only [iiRV, Opn.c] at hmi
    (repeat ((try simp only [cl_seq, cl_skip]); with_reducible refine cg fun K hK => ?_; (simp (maxSteps := 1000000) only [go_sem, Opn.c, hmi]); (repeat refine ck ?_); (try simp (disch := omega) only [wrap64, wrapi64]); refine hK _ ?_; clear hK K))
    (((try simp only [cl_seq, cl_skip]); refine cl_block fun K hK1 R hR1 X hX1 => ?_))
    (repeat ((try simp only [cl_seq, cl_skip]); with_reducible refine cg fun K hK => ?_; (simp (maxSteps := 1000000) only [go_sem]); (repeat refine ck ?_); (try simp (disch := omega) only [wrap64, wrapi64]); refine hK _ ?_; clear hK K))
    (((try simp only [cl_seq, cl_skip]); refine cl_cond rfl (fun g => ?_) (fun g => ?_)))
    · (repeat ((try simp only [cl_seq, cl_skip]); with_reducible refine cg fun K hK => ?_; (simp (maxSteps := 1000000) only [go_sem, failF_eq]); (repeat refine ck ?_); (try simp (disch := omega) only [wrap64, wrapi64]); refine hK _ ?_; clear hK K))
      (((try simp only [cl_seq, cl_skip]); (try simp only [cl_ret]); refine hR1 _ (hR _ _ (.inr rfl) ?_); (simp (maxSteps := 1000000) only [go_sem])))
    · exact absurd g (by simp; omega)
  | yes i hi hu hp hd hown =>
    have dt := h.dt ml[i] (mem_usedM.2 ⟨List.getElem_mem hi, hu⟩)
    have hdl := dataV_len h.wk op.off
    have oi := ho.i
    unfold U64 at oi
    obtain ⟨j, hj⟩ : ∃ j : Nat, op.i = j := ⟨op.i.toNat, by omega⟩
    by_cases hlt : op.i < (dataV s op.off).length
    · have hjl : j < (dataV s op.off).length := by omega
      have hbv : blockV s c op = ({ s with data := putV s.data op.off ((dataV s op.off).set j op.v) }, 0, 0, 0) := by
        unfold blockV
        simp only [hd, hk, hj, Int.toNat_natCast]
        simp; omega
      rw [hbv]
      generalize hvv : dataV s op.off = v at *
      rw [hp, hvv] at dt
      generalize hdd : ml[i].d = d at dt
      cases dt with
      | nil => simp at hjl
      | obj o v h0 hH =>
        have hms := h.word hK hi hu hdd (by rw [hp]; exact hvv) h0 hH j op.v
        rw [hp] at hms
        refine ⟨B, ml, _, nx, ?_, hms⟩
        unfold writeT
        rw [Try.results25]
        refine semT_eq rfl (by simp [Try.ntmps25]) fun X R hR => ?_
        unfold Cx25 at hR ⊢
        simp only [resC] at hR
        simp only [iiRV, Opn.c] at hmi
        rw [hj] at hmi
        (repeat ((try simp only [cl_seq, cl_skip]); with_reducible refine cg fun K hK => ?_; (simp (maxSteps := 1000000) only [go_sem, Opn.c, hj, hmi]); (repeat refine ck ?_); (try simp (disch := omega) only [wrap64, wrapi64]); refine hK _ ?_; clear hK K))
        (((try simp only [cl_seq, cl_skip]); refine cl_block fun K hK1 R hR1 X hX1 => ?_))
        (repeat ((try simp only [cl_seq, cl_skip]); with_reducible refine cg fun K hK => ?_; (simp (maxSteps := 1000000) only [go_sem]); (repeat refine ck ?_); (try simp (disch := omega) only [wrap64, wrapi64]); refine hK _ ?_; clear hK K))
        (((try simp only [cl_seq, cl_skip]); refine cl_cond rfl (fun g => ?_) (fun g => ?_)))
        · exact absurd g (by simp)
        (repeat ((try simp only [cl_seq, cl_skip]); with_reducible refine cg fun K hK => ?_; (simp (maxSteps := 1000000) only [go_sem, hS, hB, hlo, h8, hi, hdd, ge_iff_le, wrap64 (n := (v.length : Int)) (by omega) (by omega)]); (repeat refine ck ?_); (try simp (disch := omega) only [wrap64, wrapi64]); refine hK _ ?_; clear hK K))
        (((try simp only [cl_seq, cl_skip]); refine cl_cond rfl (fun g2 => ?_) (fun g2 => ?_)))
        · exfalso; simp at g2; omega
        · ((try simp only [cl_seq, cl_skip, cl_exit, cl_nil]))
          refine hK1 _ ?_
          (repeat ((try simp only [cl_seq, cl_skip]); with_reducible refine cg fun K hK => ?_; (simp (maxSteps := 1000000) only [go_sem, hS, hB, hlo, h8, hi, hdd, hH, hjl, rowsN_set]); (repeat refine ck ?_); (try simp (disch := omega) only [wrap64, wrapi64]); refine hK _ ?_; clear hK K))
          (((try simp only [cl_seq, cl_skip]); (try simp only [cl_ret]); refine hR _ _ (.inr rfl) ?_; (simp (maxSteps := 1000000) only [go_sem])))
    · have hbv : blockV s c op = (s, 1, 0, 0) := by unfold blockV; simp [hd, hk]; omega
      rw [hbv]
      refine ⟨B, ml, H, nx, ?_, h.more⟩
      rw [hp] at dt
      generalize dataV s op.off = v at *
      generalize hdd : ml[i].d = d at dt
      cases dt with
      | nil =>
        unfold writeT
        rw [Try.results25]
        refine semT_eq rfl (by simp [Try.ntmps25]) fun X R hR => ?_
        unfold Cx25 at hR ⊢
        simp only [resC] at hR
        simp only [iiRV, Opn.c] at hmi
        (repeat ((try simp only [cl_seq, cl_skip]); with_reducible refine cg fun K hK => ?_; (simp (maxSteps := 1000000) only [go_sem, Opn.c, hmi]); (repeat refine ck ?_); (try simp (disch := omega) only [wrap64, wrapi64]); refine hK _ ?_; clear hK K))
        (((try simp only [cl_seq, cl_skip]); refine cl_block fun K hK1 R hR1 X hX1 => ?_))
        (repeat ((try simp only [cl_seq, cl_skip]); with_reducible refine cg fun K hK => ?_; (simp (maxSteps := 1000000) only [go_sem]); (repeat refine ck ?_); (try simp (disch := omega) only [wrap64, wrapi64]); refine hK _ ?_; clear hK K))
        (((try simp only [cl_seq, cl_skip]); refine cl_cond rfl (fun g => ?_) (fun g => ?_)))
        · exact absurd g (by simp)
        (repeat ((try simp only [cl_seq, cl_skip]); with_reducible refine cg fun K hK => ?_; (simp (maxSteps := 1000000) only [go_sem, hS, hB, hlo, h8, hi, hdd, ge_iff_le, show ((0 : Nat) : Int) = 0 from rfl, wrap64 (n := 0) (by omega) (by omega)]); (repeat refine ck ?_); (try simp (disch := omega) only [wrap64, wrapi64]); refine hK _ ?_; clear hK K))
        (((try simp only [cl_seq, cl_skip]); refine cl_cond rfl (fun g2 => ?_) (fun g2 => ?_)))
        · (repeat ((try simp only [cl_seq, cl_skip]); with_reducible refine cg fun K hK => ?_; (simp (maxSteps := 1000000) only [go_sem, failF_eq]); (repeat refine ck ?_); (try simp (disch := omega) only [wrap64, wrapi64]); refine hK _ ?_; clear hK K))
          (((try simp only [cl_seq, cl_skip]); (try simp only [cl_ret]); refine hR1 _ (hR _ _ (.inr rfl) ?_); (simp (maxSteps := 1000000) only [go_sem])))
        · exfalso; simp at g2; omega
      | obj o v h0 hH =>
        unfold writeT
        rw [Try.results25]
        refine semT_eq rfl (by simp [Try.ntmps25]) fun X R hR => ?_
        unfold Cx25 at hR ⊢
        simp only [resC] at hR
        simp only [iiRV, Opn.c] at hmi
        (repeat ((try simp only [cl_seq, cl_skip]); with_reducible refine cg fun K hK => ?_; (simp (maxSteps := 1000000) only [go_sem, Opn.c, hmi]); (repeat refine ck ?_); (try simp (disch := omega) only [wrap64, wrapi64]); refine hK _ ?_; clear hK K))
        (((try simp only [cl_seq, cl_skip]); refine cl_block fun K hK1 R hR1 X hX1 => ?_))
        (repeat ((try simp only [cl_seq, cl_skip]); with_reducible refine cg fun K hK => ?_; (simp (maxSteps := 1000000) only [go_sem]); (repeat refine ck ?_); (try simp (disch := omega) only [wrap64, wrapi64]); refine hK _ ?_; clear hK K))
        (((try simp only [cl_seq, cl_skip]); refine cl_cond rfl (fun g => ?_) (fun g => ?_)))
        · exact absurd g (by simp)
        (repeat ((try simp only [cl_seq, cl_skip]); with_reducible refine cg fun K hK => ?_; (simp (maxSteps := 1000000) only [go_sem, hS, hB, hlo, h8, hi, hdd, ge_iff_le, wrap64 (n := (v.length : Int)) (by omega) (by omega)]); (repeat refine ck ?_); (try simp (disch := omega) only [wrap64, wrapi64]); refine hK _ ?_; clear hK K))
        (((try simp only [cl_seq, cl_skip]); refine cl_cond rfl (fun g2 => ?_) (fun g2 => ?_)))
        · (repeat ((try simp only [cl_seq, cl_skip]); with_reducible refine cg fun K hK => ?_; (simp (maxSteps := 1000000) only [go_sem, failF_eq]); (repeat refine ck ?_); (try simp (disch := omega) only [wrap64, wrapi64]); refine hK _ ?_; clear hK K))
          (((try simp only [cl_seq, cl_skip]); (try simp only [cl_ret]); refine hR1 _ (hR _ _ (.inr rfl) ?_); (simp (maxSteps := 1000000) only [go_sem])))
        · exfalso; simp at g2; omega
end
end Go.Proofs.Ytapdaefpkddioaa.Pe
