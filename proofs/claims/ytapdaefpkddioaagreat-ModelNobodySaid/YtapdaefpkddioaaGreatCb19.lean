/- A part of the proof of PmD. -/
import Derived.Test.YtapdaefpkddioaaGreatCb18
set_option linter.unusedSimpArgs false
set_option linter.unusedVariables false
set_option linter.unusedSectionVars false
namespace Go.Proofs.YtapdaefpkddioaaGreat.Pe
open Go
set_option maxHeartbeats 2000000
theorem pow2_even {a : Int} (h : 1 < a) (hp : pow2 a = true) : a % 2 = 0 ∧ pow2 (a / 2) = true := by
  by_cases he : a % 2 = 0
  · exact ⟨he, by rw [← pow2_half h he]; exact hp⟩
  · rw [pow2_end (by omega) (fun hh => he hh.2)] at hp
    simp at hp; omega
theorem align_16 {a : Int} (h : alignV a = true) : a % 16 = 0 ∧ 16 ≤ a ∧ a ≤ 4096 := by
  simp only [alignV, Bool.and_eq_true, decide_eq_true_eq] at h
  obtain ⟨⟨hp, h16⟩, hm⟩ := h
  obtain ⟨e1, p1⟩ := pow2_even (by omega) hp
  obtain ⟨e2, p2⟩ := pow2_even (by omega) p1
  obtain ⟨e3, p3⟩ := pow2_even (by omega) p2
  obtain ⟨e4, _⟩ := pow2_even (by omega) p3
  exact ⟨by omega, h16, hm⟩
def fits (need a : Int) (b : Bk) : Bool := !b.used && decide (need ≤ b.size) && decide (padV b.off a ≤ b.size - need)
def better (l : List Bk) (b : Bk) : Option Nat → Bool
  | none => true
  | some j => match l[j]? with
    | some c => decide (b.size < c.size)
    | none => false
def bestStep (l : List Bk) (need a : Int) (best : Option Nat) (i : Nat) : Option Nat := match l[i]? with
  | some b => if fits need a b && better l b best then some i else best
  | none => best
def bestUpto (l : List Bk) (need a : Int) (n : Nat) : Option Nat := (List.range n).foldl (bestStep l need a) none
theorem best_succ (l : List Bk) (need a : Int) (n : Nat) : bestUpto l need a (n + 1) = bestStep l need a (bestUpto l need a n) n := by
  unfold bestUpto; rw [List.range_succ, List.foldl_append]; rfl
theorem best_lt (l : List Bk) (need a : Int) : ∀ n j, bestUpto l need a n = some j → j < n ∧ j < l.length
  | 0, j, h => by cases h
  | n + 1, j, h => by
    rw [best_succ] at h
    have ih := best_lt l need a n j
    unfold bestStep at h
    split at h
    · rename_i b hb
      have hn := (List.getElem?_eq_some_iff.1 hb).1
      split at h
      · injection h with h; subst h; exact ⟨by omega, hn⟩
      · obtain ⟨h1, h2⟩ := ih h; exact ⟨by omega, h2⟩
    · obtain ⟨h1, h2⟩ := ih h; exact ⟨by omega, h2⟩
def optI : Option Nat → Int
  | some i => i
  | none => -1
def fitV (l : List Bk) (n a : Int) : Int × Int × Int × Int :=
  if alignV a then match needV n with
    | none => (0, 0, 0, 2)
    | some need => match bestUpto l need a l.length with
      | none => (0, 0, 0, 3)
      | some i => (i, padV ((l[i]?.map (·.off)).getD 0) a, need, 0)
  else (0, 0, 0, 1)
theorem needV_range {n s : Int} (hn : U64 n) (h : needV n = some s) : 48 ≤ s ∧ s < 18446744073709551616 ∧ s % 16 = 0 ∧ n + 40 ≤ s := by
  unfold needV at h
  unfold U64 at hn
  have hm0 : 8 ≤ (if n < 8 then 8 else n) ∧ n ≤ (if n < 8 then 8 else n) ∧ 0 ≤ (if n < 8 then 8 else n) := by split <;> omega
  generalize (if n < 8 then (8 : Int) else n) = m0 at hm0 h
  cases h1 : addV m0 40 with
  | none => rw [h1] at h; cases h
  | some m =>
    rw [h1] at h
    simp only [Option.bind_some] at h
    have hm : m = m0 + 40 ∧ m < 18446744073709551616 := by
      simp only [addV] at h1
      split at h1
      · rename_i hlt; injection h1 with h1; omega
      · cases h1
    unfold upV at h
    have hp : pow2 16 = true := by simp [pow2, pow2N]
    rw [if_pos hp] at h
    split at h
    · injection h with h; subst h; omega
    · unfold addV at h
      split at h
      · injection h with h; subst h; omega
      · cases h
def encHNN (x : Hpp × Int × Int) : List AD := [.many x.1.c, .one (.int .u64 x.2.1), .one (.int .u64 x.2.2)]
theorem encHNN_inj (x y : Hpp × Int × Int) (h : encHNN x = encHNN y) : x = y := by
  obtain ⟨a, b, c⟩ := x; obtain ⟨d, e, f⟩ := y
  simp only [encHNN, List.cons.injEq, AD.one.injEq, AD.many.injEq, D.int.injEq, true_and, and_true] at h
  rw [Hpp.c_inj h.1, h.2.1, h.2.2]
def fitRV (x : Int × Int × Int × Int) : RV := .tup [.one (.int .i64 x.1), .one (.int .u64 x.2.1), .one (.int .u64 x.2.2.1), .one (.int .i64 x.2.2.2)]
def Hpp.al (h : Hpp) : Prop := ∀ b ∈ h.bl, b.off % 16 = 0
noncomputable def fitF : List AD → Option RV := byEnc encHNN (fun x => x.1.ok ∧ x.1.al ∧ U64 x.2.1 ∧ U64 x.2.2) fun x => fitRV (fitV x.1.bl x.2.1 x.2.2)
theorem fitF_eq {h : Hpp} {n a : Int} (hh : h.ok) (ha : h.al) (h0 : U64 n) (h1 : U64 a) : fitF [.many h.c, .one (.int .u64 n), .one (.int .u64 a)] = some (fitRV (fitV h.bl n a)) := byEnc_eq (x := (h, n, a)) encHNN_inj ⟨hh, ha, h0, h1⟩
theorem fit_ok : FnPure Tryz.prog 114 fitF := by
  (refine fn_pure' (f := 114) mixed Tryz.func114 rfl (fun X => { nt := 87, tt := tt, fns := ofList ([(132, .pure alignF), (117, .pure needF), (133, .pure padF)]), keep := keep114, X := X }) (fun X => ok_of tt_ok (⟨align_ok, by kernel_rfl, need_ok, by kernel_rfl, pad_ok, by kernel_rfl, trivial⟩) (noEqs _)) (fun _ => rfl) (fun _ => rfl) (by decide) Tryz.results114 fitF ?_)
  intro l r hq
  obtain ⟨⟨h, n, a⟩, rfl, ⟨hh, hal, hn, ha⟩, rfl⟩ := byEnc_some hq
  clear hq
  simp only at hh hal hn ha
  have hsm := hh.sm
  simp only [Sm] at hsm
  have h8 : (rowsL h.ls).length = 8 := by rw [rowsL_len]; exact hh.eight
  refine ⟨by simp [encHNN, Tryz.ntmps114], fun X nx R hR => ?_⟩
  simp only [encHNN, Hpp.c]
  (((try simp only [cl_seq, cl_skip]); with_reducible refine cl_reg fun K hK => ?_; (simp (maxSteps := 1000000) only [go_sem, tt, keep114]); (repeat refine ck ?_); (first | ((try simp (disch := omega) only [wrap64, wrapi64]); refine hK _ ?_; clear hK K) | skip)))
  (((try simp only [cl_seq, cl_skip]); with_reducible refine cl_reg fun K hK => ?_; (simp (maxSteps := 1000000) only [go_sem, tt, keep114, alignF_eq ha]); (repeat refine ck ?_); (first | ((try simp (disch := omega) only [wrap64, wrapi64]); refine hK _ ?_; clear hK K) | skip)))
  (((try simp only [cl_seq, cl_skip]); refine cl_cond rfl (fun h1 => ?_) (fun h1 => ?_)))
  · simp only [Bool.not_eq_true'] at h1
    (((try simp only [cl_seq, cl_skip]); with_reducible refine cl_reg fun K hK => ?_; (simp (maxSteps := 1000000) only [go_sem, tt, keep114]); (repeat refine ck ?_); (first | ((try simp (disch := omega) only [wrap64, wrapi64]); refine hK _ ?_; clear hK K) | skip)))
    (((try simp only [cl_seq, cl_skip]); (try simp only [cl_ret]); refine hR _ _ (.inr rfl) ?_; (simp (maxSteps := 1000000) only [go_sem])))
    simp [fitRV, fitV, h1]
  · simp only [Bool.not_eq_false'] at h1
    obtain ⟨a16, a0, a1⟩ := align_16 h1
    (((try simp only [cl_seq, cl_skip]); with_reducible refine cl_reg fun K hK => ?_; (simp (maxSteps := 1000000) only [go_sem, tt, keep114, needF_eq hn, optV]); (repeat refine ck ?_); (first | ((try simp (disch := omega) only [wrap64, wrapi64]); refine hK _ ?_; clear hK K) | skip)))
    (((try simp only [cl_seq, cl_skip]); with_reducible refine cl_reg fun K hK => ?_; (simp (maxSteps := 1000000) only [go_sem, tt, keep114]); (repeat refine ck ?_); (first | ((try simp (disch := omega) only [wrap64, wrapi64]); refine hK _ ?_; clear hK K) | skip)))
    (((try simp only [cl_seq, cl_skip]); refine cl_cond rfl (fun h2 => ?_) (fun h2 => ?_)))
    · simp only [Bool.not_eq_true', Option.isSome_eq_false_iff, Option.isNone_iff_eq_none] at h2
      (((try simp only [cl_seq, cl_skip]); with_reducible refine cl_reg fun K hK => ?_; (simp (maxSteps := 1000000) only [go_sem, tt, keep114]); (repeat refine ck ?_); (first | ((try simp (disch := omega) only [wrap64, wrapi64]); refine hK _ ?_; clear hK K) | skip)))
      (((try simp only [cl_seq, cl_skip]); (try simp only [cl_ret]); refine hR _ _ (.inr rfl) ?_; (simp (maxSteps := 1000000) only [go_sem])))
      simp [fitRV, fitV, h1, h2]
    · simp only [Bool.not_eq_false', Option.isSome_iff_exists] at h2
      obtain ⟨need, h2⟩ := h2
      obtain ⟨n0, n1, n16, _⟩ := needV_range hn h2
      (((try simp only [cl_seq, cl_skip]); with_reducible refine cl_reg fun K hK => ?_; (simp (maxSteps := 1000000) only [go_sem, tt, keep114, h2, Option.getD_some]); (repeat refine ck ?_); (first | ((try simp (disch := omega) only [wrap64, wrapi64]); refine hK _ ?_; clear hK K) | skip)))
      (((try simp only [cl_seq, cl_skip]); with_reducible refine cl_reg fun K hK => ?_; (simp (maxSteps := 1000000) only [go_sem, tt, keep114]); (repeat refine ck ?_); (first | ((try simp (disch := omega) only [wrap64, wrapi64]); refine hK _ ?_; clear hK K) | skip)))
      (((try simp only [cl_seq, cl_skip]); refine cl_block fun K hK1 R hR1 X hX1 => ?_))
      refine cl_loop (fun E k => ∃ i : Nat, i ≤ h.bl.length ∧ k = h.bl.length - i ∧ E = mk [(1000000, .heap (fun _ => none) nx), (13, .v (.one (.int .i64 i))), (2, .v (.one (.int .u64 a))), (3, .box 0 (.int .u64 h.fin :: .sl (rowsB h.bl) :: rowsL h.ls)), (10, .v (.one (.int .u64 need))), (12, .v (.one (.int .i64 (optI (bestUpto h.bl need a i)))))]) h.bl.length ⟨0, by omega, by omega, rfl⟩ ?_
      rintro E k ⟨i, hi, rfl, rfl⟩ J hJ R2 hR2 X2 hX2
      (((try simp only [cl_seq, cl_skip]); with_reducible refine cl_reg fun K hK => ?_; (simp (maxSteps := 1000000) only [go_sem, tt, keep114, rowsB_len, h8]); (repeat refine ck ?_); (first | ((try simp (disch := omega) only [wrap64, wrapi64]); refine hK _ ?_; clear hK K) | skip)))
      (((try simp only [cl_seq, cl_skip]); refine cl_cond rfl (fun hc => ?_) (fun hc => ?_)))
      · simp only [decide_eq_true_eq, Int.ofNat_lt] at hc
        have hget : h.bl[i]? = some h.bl[i] := List.getElem?_eq_getElem hc
        have hb := hh.bs _ (List.getElem_mem hc)
        have hb16 := hal _ (List.getElem_mem hc)
        have hb0 := hb.off0
        have hb1 := hb.off1
        have hs0 := hb.size0
        have hs1 : h.bl[i].size ≤ 1099511627776 := Int.le_trans (size_le (fun b h' => (hh.bs b h').size0) (List.getElem_mem hc)) hh.sum
        have hstep := best_succ h.bl need a i
        unfold bestStep at hstep
        rw [hget] at hstep
        simp only at hstep
        have hblt := best_lt h.bl need a i
        generalize bestUpto h.bl need a i = best at *
        (((try simp only [cl_seq, cl_skip]); refine cl_block fun K3 hK3 R hR3 X hX3 => ?_))
        have hend : ∀ E', E' 1000000 = .heap (fun _ => none) nx → E' 2 = .v (.one (.int .u64 a)) → E' 3 = .box 0 (.int .u64 h.fin :: .sl (rowsB h.bl) :: rowsL h.ls) → E' 10 = .v (.one (.int .u64 need)) → E' 12 = .v (.one (.int .i64 (optI (bestUpto h.bl need a (i + 1))))) → E' 13 = .v (.one (.int .i64 i)) → K3 E' := by
          intro E' e1 e2 e3 e4 e5 e6
          refine hK3 _ ?_
          (((try simp only [cl_seq, cl_skip]); with_reducible refine cl_reg fun K hK => ?_; (simp (maxSteps := 1000000) only [go_sem, tt, keep114, wrapi64 (n := (i : Int) + 1) (by omega) (by omega), e1, e2, e3, e4, e5, e6]); (repeat refine ck ?_); (first | ((try simp (disch := omega) only [wrap64, wrapi64]); refine hK _ ?_; clear hK K) | skip)))
          ((try simp only [cl_seq, cl_skip, cl_exit, cl_nil]))
          exact hJ _ (h.bl.length - (i + 1)) (by omega) ⟨i + 1, by omega, rfl, rfl⟩
        clear hK3
        (((try simp only [cl_seq, cl_skip]); with_reducible refine cl_reg fun K hK => ?_; (simp (maxSteps := 1000000) only [go_sem, tt, keep114, rowsB_len, h8, rowsB_get, hget, Option.map_some, Bk.c]); (repeat refine ck ?_); (first | ((try simp (disch := omega) only [wrap64, wrapi64]); refine hK _ ?_; clear hK K) | skip)))
        ((try simp only [cl_seq, cl_skip, cl_exit, cl_nil]))
        refine cl_drw_b (g := ?g) (t := ?t) (L := ?L) (!fits need a h.bl[i]) (fun K hK => ?h1) ?h2
        case' h1 =>
          rcases Bool.eq_false_or_eq_true h.bl[i].used with hu | hu
          ·
            (((simp (maxSteps := 1000000) only [go_sem, tt, keep114, show (h.bl[i].used = true) = True by simp [hu], show (h.bl[i].used = false) = False by simp [hu]]); (repeat refine ck ?_)))
            refine hK _ ?_
            simp [fits, hu]
          · by_cases hz : need ≤ h.bl[i].size
            · (((simp (maxSteps := 1000000) only [go_sem, tt, keep114, show (h.bl[i].used = true) = False by simp [hu], show (h.bl[i].used = false) = True by simp [hu], show decide (h.bl[i].size < need) = false by simp; omega, padF_eq (off := h.bl[i].off) (a := a) ⟨hb0, hb1, hb16, a0, a1, a16⟩, wrap64 (n := h.bl[i].size - need) (by omega) (by omega)]); (repeat refine ck ?_)))
              refine hK _ ?_
              have e : (h.bl[i].size - need < padV h.bl[i].off a) ↔ ¬ (padV h.bl[i].off a ≤ h.bl[i].size - need) := by omega
              rw [show fits need a h.bl[i] = decide (padV h.bl[i].off a ≤ h.bl[i].size - need) by simp [fits, hu, hz], ← decide_not]
              exact decide_eq_decide.2 e
            · (((simp (maxSteps := 1000000) only [go_sem, tt, keep114, show (h.bl[i].used = true) = False by simp [hu], show (h.bl[i].used = false) = True by simp [hu], show decide (h.bl[i].size < need) = true by simp; omega]); (repeat refine ck ?_)))
              refine hK _ ?_
              simp [fits, hu, hz]
        (((try simp only [cl_seq, cl_skip]); refine cl_cond rfl (fun hd => ?_) (fun hd => ?_)))
        · simp only [Bool.not_eq_true'] at hd
          simp only [cl_exit]
          refine hend _ rfl rfl rfl rfl ?_ rfl
          rw [hstep, hd]
          rfl
        · simp only [Bool.not_eq_false'] at hd
          ((try simp only [cl_seq, cl_skip, cl_exit, cl_nil]))
          cases best with
          | none =>
            (((try simp only [cl_seq, cl_skip]); with_reducible refine cl_drw fun K hK => ?_; (simp (maxSteps := 1000000) only [go_sem, optI, show decide ((-1 : Int) < 0) = true from rfl]); (repeat refine ck ?_); (first | ((try simp (disch := omega) only [wrap64, wrapi64]); refine hK _ ?_; clear hK K) | skip)))
            (((try simp only [cl_seq, cl_skip]); refine cl_cond rfl (fun he => ?_) (fun he => ?_)))
            · (((try simp only [cl_seq, cl_skip]); with_reducible refine cl_reg fun K hK => ?_; (simp (maxSteps := 1000000) only [go_sem]); (repeat refine ck ?_); (first | ((try simp (disch := omega) only [wrap64, wrapi64]); refine hK _ ?_; clear hK K) | skip)))
              ((try simp only [cl_seq, cl_skip, cl_exit, cl_nil]))
              refine hend _ rfl rfl rfl rfl ?_ rfl
              rw [hstep, hd]; rfl
            · exact absurd he (by simp)
          | some j =>
            obtain ⟨j1, j2⟩ := hblt j rfl
            have hj : h.bl[j]? = some h.bl[j] := List.getElem?_eq_getElem j2
            have hbt : better h.bl h.bl[i] (some j) = decide (h.bl[i].size < h.bl[j].size) := by simp only [better, hj]
            (((try simp only [cl_seq, cl_skip]); with_reducible refine cl_drw fun K hK => ?_; (simp (maxSteps := 1000000) only [go_sem, optI, show decide ((j : Int) < 0) = false by simp, rowsB_len, h8, rowsB_get, hj, Option.map_some, Bk.c]); (repeat refine ck ?_); (first | ((try simp (disch := omega) only [wrap64, wrapi64]); refine hK _ ?_; clear hK K) | skip)))
            (((try simp only [cl_seq, cl_skip]); refine cl_cond rfl (fun he => ?_) (fun he => ?_)))
            · (((try simp only [cl_seq, cl_skip]); with_reducible refine cl_reg fun K hK => ?_; (simp (maxSteps := 1000000) only [go_sem]); (repeat refine ck ?_); (first | ((try simp (disch := omega) only [wrap64, wrapi64]); refine hK _ ?_; clear hK K) | skip)))
              ((try simp only [cl_seq, cl_skip, cl_exit, cl_nil]))
              refine hend _ rfl rfl rfl rfl ?_ rfl
              rw [hstep, hd, hbt, he]; rfl
            · ((try simp only [cl_seq, cl_skip, cl_exit, cl_nil]))
              refine hend _ rfl rfl rfl rfl ?_ rfl
              rw [hstep, hd, hbt, he]; rfl
      · simp only [decide_eq_false_iff_not, Int.ofNat_lt] at hc
        have hil : i = h.bl.length := by omega
        subst hil
        have hblt := best_lt h.bl need a h.bl.length
        ((try simp only [cl_seq, cl_skip, cl_exit, cl_nil]))
        refine hX2 0 _ (hK1 _ ?_)
        cases hbe : bestUpto h.bl need a h.bl.length with
        | none =>
          (((try simp only [cl_seq, cl_skip]); with_reducible refine cl_reg fun K hK => ?_; (simp (maxSteps := 1000000) only [go_sem, optI, show decide ((-1 : Int) < 0) = true from rfl]); (repeat refine ck ?_); (first | ((try simp (disch := omega) only [wrap64, wrapi64]); refine hK _ ?_; clear hK K) | skip)))
          (((try simp only [cl_seq, cl_skip]); refine cl_cond rfl (fun he => ?_) (fun he => ?_)))
          · (((try simp only [cl_seq, cl_skip]); with_reducible refine cl_reg fun K hK => ?_; (simp (maxSteps := 1000000) only [go_sem]); (repeat refine ck ?_); (first | ((try simp (disch := omega) only [wrap64, wrapi64]); refine hK _ ?_; clear hK K) | skip)))
            (((try simp only [cl_seq, cl_skip]); (try simp only [cl_ret]); refine hR _ _ (.inr rfl) ?_; (simp (maxSteps := 1000000) only [go_sem])))
            simp [fitRV, fitV, h1, h2, hbe]
          · exact absurd he (by simp)
        | some j =>
          obtain ⟨j1, j2⟩ := hblt j hbe
          have hj : h.bl[j]? = some h.bl[j] := List.getElem?_eq_getElem j2
          have hb := hh.bs _ (List.getElem_mem j2)
          have hb16 := hal _ (List.getElem_mem j2)
          have hb0 := hb.off0
          have hb1 := hb.off1
          (((try simp only [cl_seq, cl_skip]); with_reducible refine cl_reg fun K hK => ?_; (simp (maxSteps := 1000000) only [go_sem, optI, show decide ((j : Int) < 0) = false by simp]); (repeat refine ck ?_); (first | ((try simp (disch := omega) only [wrap64, wrapi64]); refine hK _ ?_; clear hK K) | skip)))
          (((try simp only [cl_seq, cl_skip]); refine cl_cond rfl (fun he => ?_) (fun he => ?_)))
          · exact absurd he (by simp)
          · (((try simp only [cl_seq, cl_skip]); with_reducible refine cl_reg fun K hK => ?_; (simp (maxSteps := 1000000) only [go_sem, j2, h8, Bk.c, padF_eq (off := h.bl[j].off) (a := a) ⟨hb0, hb1, hb16, a0, a1, a16⟩]); (repeat refine ck ?_); (first | ((try simp (disch := omega) only [wrap64, wrapi64]); refine hK _ ?_; clear hK K) | skip)))
            (((try simp only [cl_seq, cl_skip]); (try simp only [cl_ret]); refine hR _ _ (.inr rfl) ?_; (simp (maxSteps := 1000000) only [go_sem])))
            simp [fitRV, fitV, h1, h2, hbe, hj]
end Go.Proofs.YtapdaefpkddioaaGreat.Pe
