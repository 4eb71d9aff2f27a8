/- A part of the proof of PmD. -/
import Derived.Test.YtapdaefpkddioaaCb23
set_option linter.unusedSimpArgs false
set_option linter.unusedVariables false
set_option linter.unusedSectionVars false
namespace Go.Proofs.Ytapdaefpkddioaa.Pe
open Go
set_option maxHeartbeats 2000000
noncomputable def resizeF : List AD → Option RV := byEnc encHNN (fun x => x.1.Inv ∧ U64 x.2.2) fun x => takeRV (resizeV x.1 x.2.1 x.2.2)
theorem resizeF_eq {h : Hpp} {p n : Int} (hh : h.Inv) (hn : U64 n) : resizeF [.many h.c, .one (.int .u64 p), .one (.int .u64 n)] = some (takeRV (resizeV h p n)) := byEnc_eq (x := (h, p, n)) encHNN_inj ⟨hh, hn⟩
theorem Hpp.c_eq (h : Hpp) : AD.many (.int .u64 h.fin :: .sl (rowsB h.bl) :: rowsL h.ls) = .many h.c := rfl
theorem resize_ok : FnPure Try.prog 70 resizeF := by
  (refine fn_pure' (f := 70) mixed Try.func70 rfl (fun X => { nt := 95, tt := tt, fns := ofList ([(89, .pure placeF), (12, .pure needF), (90, .pure cutF), (61, .pure takeF), (73, .pure freeHF)]), keep := keep70, X := X }) (fun X => ok_of tt_ok (⟨place_ok, by kernel_rfl, need_ok, by kernel_rfl, cut_ok, by kernel_rfl, take_ok, by kernel_rfl, freeH_ok, by kernel_rfl, trivial⟩) (noEqs _)) (fun _ => rfl) (fun _ => rfl) (by decide) Try.results70 resizeF ?_)
  intro l r hq
  obtain ⟨⟨h, p, n⟩, rfl, ⟨hh, hn⟩, hr⟩ := byEnc_some hq
  clear hq
  simp only at hh hn hr
  have hok := hh.ok
  have hlen := hh.len
  have h8' := hh.eight
  have h8 : (rowsL h.ls).length = 8 := by rw [rowsL_len]; exact h8'
  have hpl := placeF_eq (p := p) hok
  rw [Hpp.c] at hpl
  have hne := needF_eq hn
  unfold resizeV at hr
  refine ⟨by simp [encHNN, Try.ntmps70], fun X nx R hR => ?_⟩
  simp only [encHNN, Hpp.c]
  cases hp : placeN h.bl p with
  | none =>
    rw [hp] at hr
    (repeat ((try simp only [cl_seq, cl_skip]); with_reducible refine cg fun K hK => ?_; (simp (maxSteps := 1000000) only [go_sem, h8, hpl, placeV, hp]); (repeat refine ck ?_); (try simp (disch := omega) only [wrap64, wrapi64]); refine hK _ ?_; clear hK K))
    (((try simp only [cl_seq, cl_skip]); refine cl_cond rfl (fun h2 => ?_) (fun h2 => ?_)))
    · (repeat ((try simp only [cl_seq, cl_skip]); with_reducible refine cg fun K hK => ?_; (simp (maxSteps := 1000000) only [go_sem, h8]); (repeat refine ck ?_); (try simp (disch := omega) only [wrap64, wrapi64]); refine hK _ ?_; clear hK K))
      (((try simp only [cl_seq, cl_skip]); (try simp only [cl_ret]); refine hR _ _ (.inr rfl) ?_; (simp (maxSteps := 1000000) only [go_sem, h8])))
      rw [hr]
      rfl
    · exact absurd h2 (by simp)
  | some i =>
    obtain ⟨hi, hu, ho⟩ := place_some hp
    have hget : h.bl[i]? = some h.bl[i] := List.getElem?_eq_getElem hi
    have g := hh.bs _ (List.getElem_mem hi)
    rw [hp] at hr
    simp only [hget] at hr
    (repeat ((try simp only [cl_seq, cl_skip]); with_reducible refine cg fun K hK => ?_; (simp (maxSteps := 1000000) only [go_sem, h8, hpl, placeV, hp]); (repeat refine ck ?_); (try simp (disch := omega) only [wrap64, wrapi64]); refine hK _ ?_; clear hK K))
    (((try simp only [cl_seq, cl_skip]); refine cl_cond rfl (fun h2 => ?_) (fun h2 => ?_)))
    · exact absurd h2 (by simp)
    cases hnn : needV n with
    | none =>
      rw [hnn] at hr
      (repeat ((try simp only [cl_seq, cl_skip]); with_reducible refine cg fun K hK => ?_; (simp (maxSteps := 1000000) only [go_sem, h8, hne, hnn, optV, Option.isSome_none, Bool.not_false]); (repeat refine ck ?_); (try simp (disch := omega) only [wrap64, wrapi64]); refine hK _ ?_; clear hK K))
      (((try simp only [cl_seq, cl_skip]); refine cl_cond rfl (fun h3 => ?_) (fun h3 => ?_)))
      · (repeat ((try simp only [cl_seq, cl_skip]); with_reducible refine cg fun K hK => ?_; (simp (maxSteps := 1000000) only [go_sem, h8]); (repeat refine ck ?_); (try simp (disch := omega) only [wrap64, wrapi64]); refine hK _ ?_; clear hK K))
        (((try simp only [cl_seq, cl_skip]); (try simp only [cl_ret]); refine hR _ _ (.inr rfl) ?_; (simp (maxSteps := 1000000) only [go_sem, h8])))
        rw [hr]
        rfl
      · exact absurd h3 (by simp)
    | some need =>
      rw [hnn] at hr
      simp only at hr
      (repeat ((try simp only [cl_seq, cl_skip]); with_reducible refine cg fun K hK => ?_; (simp (maxSteps := 1000000) only [go_sem, h8, hne, hnn, optV, Option.isSome_some, Bool.not_true, hi, Bk.c]); (repeat refine ck ?_); (try simp (disch := omega) only [wrap64, wrapi64]); refine hK _ ?_; clear hK K))
      (((try simp only [cl_seq, cl_skip]); refine cl_cond rfl (fun h3 => ?_) (fun h3 => ?_)))
      · exact absurd h3 (by simp)
      (repeat ((try simp only [cl_seq, cl_skip]); with_reducible refine cg fun K hK => ?_; (simp (maxSteps := 1000000) only [go_sem, h8, hi, Bk.c]); (repeat refine ck ?_); (try simp (disch := omega) only [wrap64, wrapi64]); refine hK _ ?_; clear hK K))
      (((try simp only [cl_seq, cl_skip]); refine cl_cond rfl (fun h4 => ?_) (fun h4 => ?_)))
      · simp only [decide_eq_true_eq] at h4
        rw [if_pos h4] at hr
        have hc := resize_len hh hp hi hn hnn h4
        have hce := cutF_eq hc
        have hci := hc.res.eight
        rw [Hpp.c] at hce
        simp only at hce
        (repeat ((try simp only [cl_seq, cl_skip]); with_reducible refine cg fun K hK => ?_; (simp (maxSteps := 1000000) only [go_sem, h8, hi, Bk.c, hce, hRV, Hpp.c, rowsL_len, hci]); (repeat refine ck ?_); (try simp (disch := omega) only [wrap64, wrapi64]); refine hK _ ?_; clear hK K))
        (((try simp only [cl_seq, cl_skip]); (try simp only [cl_ret]); refine hR _ _ (.inr rfl) ?_; (simp (maxSteps := 1000000) only [go_sem, rowsL_len, hci])))
        rw [hr]
        rfl
      · simp only [decide_eq_false_iff_not] at h4
        rw [if_neg h4] at hr
        have htk := takeF_eq (a := 16) hok hh.al g.own0 g.own1 hn (by decide)
        rw [Hpp.c] at htk
        have hti := takeV_inv (a := 16) hh g.own0 g.own1 hn
        generalize takeV h h.bl[i].owner n 16 = tk at *
        obtain ⟨k, q, e⟩ := tk
        simp only at hr hti
        have hk8 := hti.eight
        (repeat ((try simp only [cl_seq, cl_skip]); with_reducible refine cg fun K hK => ?_; (simp (maxSteps := 1000000) only [go_sem, h8, hi, Bk.c, htk, takeRV, Hpp.c, rowsL_len, hk8]); (repeat refine ck ?_); (try simp (disch := omega) only [wrap64, wrapi64]); refine hK _ ?_; clear hK K))
        (((try simp only [cl_seq, cl_skip]); refine cl_cond rfl (fun h5 => ?_) (fun h5 => ?_)))
        · simp only [bne_iff_ne, ne_eq] at h5
          (repeat ((try simp only [cl_seq, cl_skip]); with_reducible refine cg fun K hK => ?_; (simp (maxSteps := 1000000) only [go_sem, h8]); (repeat refine ck ?_); (try simp (disch := omega) only [wrap64, wrapi64]); refine hK _ ?_; clear hK K))
          (((try simp only [cl_seq, cl_skip]); (try simp only [cl_ret]); refine hR _ _ (.inr rfl) ?_; (simp (maxSteps := 1000000) only [go_sem, h8])))
          rw [hr, if_neg h5]
          rfl
        · simp only [bne_eq_false_iff_eq] at h5
          rw [if_pos h5] at hr
          have hfr := freeHF_eq (p := p) hti
          rw [Hpp.c] at hfr
          have hfi := (freeHV_inv hti p).eight
          (repeat ((try simp only [cl_seq, cl_skip]); with_reducible refine cg fun K hK => ?_; (simp (maxSteps := 1000000) only [go_sem, hfr, hRV, Hpp.c, rowsL_len, hk8, hfi]); (repeat refine ck ?_); (try simp (disch := omega) only [wrap64, wrapi64]); refine hK _ ?_; clear hK K))
          (((try simp only [cl_seq, cl_skip]); (try simp only [cl_ret]); refine hR _ _ (.inr rfl) ?_; (simp (maxSteps := 1000000) only [go_sem, rowsL_len, hfi])))
          rw [hr]
          rfl
def growRV (x : Hpp × Int) : RV := hRV x
noncomputable def growF : List AD → Option RV := byEnc encHNN (fun x => x.1.Inv ∧ U64 x.2.1 ∧ 0 ≤ x.2.2 ∧ x.2.2 ≤ 1048576) fun x => hRV (growV x.1 x.2.1 x.2.2)
theorem growF_eq {h : Hpp} {p n : Int} (hh : h.Inv) (hp : U64 p) (hn : 0 ≤ n) (h1 : n ≤ 1048576) : growF [.many h.c, .one (.int .u64 p), .one (.int .u64 n)] = some (hRV (growV h p n)) := byEnc_eq (x := (h, p, n)) encHNN_inj ⟨hh, hp, hn, h1⟩
theorem grow_ok : FnPure Try.prog 43 growF := by
  (refine fn_pure' (f := 43) mixed Try.func43 rfl (fun X => { nt := 55, tt := tt, fns := ofList ([(36, .pure addF), (67, .pure joinedF)]), keep := keep43, X := X }) (fun X => ok_of tt_ok (⟨add_ok, by kernel_rfl, joined_ok, by kernel_rfl, trivial⟩) (noEqs _)) (fun _ => rfl) (fun _ => rfl) (by decide) Try.results43 growF ?_)
  intro l r hq
  obtain ⟨⟨h, n, all⟩, rfl, ⟨hh, hn, ha0, ha1⟩, hr⟩ := byEnc_some hq
  clear hq
  simp only at hh hn hr ha0 ha1
  have hok := hh.ok
  have hlen := hh.len
  have h8' := hh.eight
  have h8 : (rowsL h.ls).length = 8 := by rw [rowsL_len]; exact h8'
  have f0 := hh.fin0
  have f1 := hh.fin1
  have hae := addF_eq (a := h.fin) (b := n) ⟨by omega, by omega⟩ hn
  obtain ⟨n0, n1⟩ := hn
  have htm : n.tmod 16 = n % 16 := Int.tmod_eq_emod_of_nonneg n0
  unfold growV at hr
  refine ⟨by simp [encHNN, Try.ntmps43], fun X nx R hR => ?_⟩
  simp only [encHNN, Hpp.c]
  (repeat ((try simp only [cl_seq, cl_skip]); with_reducible refine cg fun K hK => ?_; (simp (maxSteps := 1000000) only [go_sem, h8]); (repeat refine ck ?_); (try simp (disch := omega) only [wrap64, wrapi64]); refine hK _ ?_; clear hK K))
  by_cases hz : n % 16 = 0
  · by_cases h48 : n < 48
    · (repeat ((try simp only [cl_seq, cl_skip]); with_reducible refine cg fun K hK => ?_; (simp (maxSteps := 1000000) only [go_sem, htm, hz, bne_self_eq_false, show decide (n < 48) = true by simp; omega]); (repeat refine ck ?_); (try simp (disch := omega) only [wrap64, wrapi64]); refine hK _ ?_; clear hK K))
      (((try simp only [cl_seq, cl_skip]); refine cl_cond rfl (fun h2 => ?_) (fun h2 => ?_)))
      · rw [if_pos (.inr h48)] at hr
        (repeat ((try simp only [cl_seq, cl_skip]); with_reducible refine cg fun K hK => ?_; (simp (maxSteps := 1000000) only [go_sem, h8]); (repeat refine ck ?_); (try simp (disch := omega) only [wrap64, wrapi64]); refine hK _ ?_; clear hK K))
        (((try simp only [cl_seq, cl_skip]); (try simp only [cl_ret]); refine hR _ _ (.inr rfl) ?_; (simp (maxSteps := 1000000) only [go_sem, h8])))
        rw [hr]
        rfl
      · exact absurd h2 (by simp)
    · (repeat ((try simp only [cl_seq, cl_skip]); with_reducible refine cg fun K hK => ?_; (simp (maxSteps := 1000000) only [go_sem, htm, hz, bne_self_eq_false, show ¬ n < 48 by omega]); (repeat refine ck ?_); (try simp (disch := omega) only [wrap64, wrapi64]); refine hK _ ?_; clear hK K))
      (((try simp only [cl_seq, cl_skip]); refine cl_cond rfl (fun h2 => ?_) (fun h2 => ?_)))
      · exact absurd h2 (by simp)
      rw [if_neg (by omega)] at hr
      by_cases hall : all < h.fin + n
      · rw [if_pos hall] at hr
        by_cases hov : h.fin + n < 18446744073709551616
        · (repeat ((try simp only [cl_seq, cl_skip]); with_reducible refine cg fun K hK => ?_; (simp (maxSteps := 1000000) only [go_sem, h8, hae, addV, hov, optV, Option.isSome_some, Bool.not_true, show decide (all < h.fin + n) = true by simp; omega]); (repeat refine ck ?_); (try simp (disch := omega) only [wrap64, wrapi64]); refine hK _ ?_; clear hK K))
          (((try simp only [cl_seq, cl_skip]); refine cl_cond rfl (fun h3 => ?_) (fun h3 => ?_)))
          · (repeat ((try simp only [cl_seq, cl_skip]); with_reducible refine cg fun K hK => ?_; (simp (maxSteps := 1000000) only [go_sem, h8]); (repeat refine ck ?_); (try simp (disch := omega) only [wrap64, wrapi64]); refine hK _ ?_; clear hK K))
            (((try simp only [cl_seq, cl_skip]); (try simp only [cl_ret]); refine hR _ _ (.inr rfl) ?_; (simp (maxSteps := 1000000) only [go_sem, h8])))
            rw [hr]
            rfl
          · exact absurd h3 (by simp)
        · (repeat ((try simp only [cl_seq, cl_skip]); with_reducible refine cg fun K hK => ?_; (simp (maxSteps := 1000000) only [go_sem, h8, hae, addV, hov, optV, Option.isSome_none, Bool.not_false]); (repeat refine ck ?_); (try simp (disch := omega) only [wrap64, wrapi64]); refine hK _ ?_; clear hK K))
          (((try simp only [cl_seq, cl_skip]); refine cl_cond rfl (fun h3 => ?_) (fun h3 => ?_)))
          · (repeat ((try simp only [cl_seq, cl_skip]); with_reducible refine cg fun K hK => ?_; (simp (maxSteps := 1000000) only [go_sem, h8]); (repeat refine ck ?_); (try simp (disch := omega) only [wrap64, wrapi64]); refine hK _ ?_; clear hK K))
            (((try simp only [cl_seq, cl_skip]); (try simp only [cl_ret]); refine hR _ _ (.inr rfl) ?_; (simp (maxSteps := 1000000) only [go_sem, h8])))
            rw [hr]
            rfl
          · exact absurd h3 (by simp)
      · rw [if_neg hall] at hr
        have hj := joinedF_eq (l := h.bl ++ [⟨h.fin, n, false, 0, 0⟩]) (by unfold Sm; simp; omega) (fun b hb => by
          rcases List.mem_append.1 hb with hb | hb
          · exact hok.bs b hb
          · simp only [List.mem_singleton] at hb; subst hb; exact freeB_ok (by omega) (by omega) (by omega)) (by
          rw [sizes_app]; have := hok.sum; simp [sizes] at *; omega)
        (repeat ((try simp only [cl_seq, cl_skip]); with_reducible refine cg fun K hK => ?_; (simp (maxSteps := 1000000) only [go_sem, h8, hae, addV, show h.fin + n < 18446744073709551616 by omega, optV, Option.isSome_some, Bool.not_true, show ¬ all < h.fin + n from hall]); (repeat refine ck ?_); (try simp (disch := omega) only [wrap64, wrapi64]); refine hK _ ?_; clear hK K))
        (((try simp only [cl_seq, cl_skip]); refine cl_cond rfl (fun h3 => ?_) (fun h3 => ?_)))
        · exact absurd h3 (by simp)
        (repeat ((try simp only [cl_seq, cl_skip]); with_reducible refine cg fun K hK => ?_; (simp (maxSteps := 1000000) only [go_sem, h8, hj]); (repeat refine ck ?_); (try simp (disch := omega) only [wrap64, wrapi64]); refine hK _ ?_; clear hK K))
        (((try simp only [cl_seq, cl_skip]); (try simp only [cl_ret]); refine hR _ _ (.inr rfl) ?_; (simp (maxSteps := 1000000) only [go_sem, h8])))
        rw [hr]
        rfl
  · (repeat ((try simp only [cl_seq, cl_skip]); with_reducible refine cg fun K hK => ?_; (simp (maxSteps := 1000000) only [go_sem, htm, show (n % 16 != 0) = true by simp [hz]]); (repeat refine ck ?_); (try simp (disch := omega) only [wrap64, wrapi64]); refine hK _ ?_; clear hK K))
    (((try simp only [cl_seq, cl_skip]); refine cl_cond rfl (fun h2 => ?_) (fun h2 => ?_)))
    · rw [if_pos (.inl hz)] at hr
      (repeat ((try simp only [cl_seq, cl_skip]); with_reducible refine cg fun K hK => ?_; (simp (maxSteps := 1000000) only [go_sem, h8]); (repeat refine ck ?_); (try simp (disch := omega) only [wrap64, wrapi64]); refine hK _ ?_; clear hK K))
      (((try simp only [cl_seq, cl_skip]); (try simp only [cl_ret]); refine hR _ _ (.inr rfl) ?_; (simp (maxSteps := 1000000) only [go_sem, h8])))
      rw [hr]
      rfl
    · exact absurd h2 (by simp)
end Go.Proofs.Ytapdaefpkddioaa.Pe
