/- A part of the proof of PpD. -/
import Derived.Test.YtapdaefpkddioaaGreatCe43
import Derived.Test.YtapdaefpkddioaaGreatCe39
set_option linter.unusedSimpArgs false
set_option linter.unusedVariables false
set_option linter.unusedSectionVars false
namespace Go.Proofs.YtapdaefpkddioaaGreat.Pe
open Go
set_option maxHeartbeats 2000000
def cloneNF : List AD → Hp → Nat → Option (RV × Hp × Nat)
 | [.one (.sl [])], H, nx => some (.a (.one (.sl [])), H, nx)
 | [.one (.ref o 1 0 n)], H, nx => match H o with
  | some ⟨some 26, 1, rows⟩ => if rows.length = n ∧ 0 < n ∧ n ≤ 100000 ∧ rows.all (fun r => decide (r.length = 1)) = true then some (.a (.one (.ref nx 1 0 n)), updO H nx (some ⟨some 26, 1, rows⟩), nx + 1) else none
  | _ => none
 | _, _, _ => none
theorem cloneN_ok : FnEff Tryz.prog 47 cloneNF := by
 refine fn_eff' (f := 47) mixed Tryz.func47 rfl (fun X => { nt := 8, tt := tt, fns := ofList [], keep := keep47, X := X, pub := fun t => t == 7 }) (fun X => ok_of tt_ok trivial (noEqs _)) (fun _ => rfl) (fun _ => rfl) (by decide) Tryz.results47 cloneNF ?_
 intro l H nx r H' nx' h
 unfold cloneNF at h
 split at h
 ·injection h with h
  injection h with h1 h
  injection h with h2 h3
  subst h1; subst h2; subst h3
  refine ⟨by simp [Tryz.ntmps47], fun X R hR => ?_⟩
  (repeat ((try simp only [cZ]); with_reducible refine cg fun K hK => ?_; simp only [go_sem, Nat.reduceBEq]; (repeat refine ck ?_); (try simp (disch := omega) only [wZ]); refine hK _ ?_; clear hK K))
  (((try simp only [cZ]); refine cl_any rfl ?_ ?_))
  ·(repeat ((try simp only [cZ]); with_reducible refine cg fun K hK => ?_; simp only [go_sem, Nat.reduceBEq]; (repeat refine ck ?_); (try simp (disch := omega) only [wZ]); refine hK _ ?_; clear hK K))
   (((try simp only [cZ]); (try simp only [cl_ret]); refine hR _ _ (.inr rfl) ?_; (simp only [go_sem])))
  ·(repeat ((try simp only [cZ]); with_reducible refine cg fun K hK => ?_; simp only [go_sem, Nat.reduceBEq]; (repeat refine ck ?_); (try simp (disch := omega) only [wZ]); refine hK _ ?_; clear hK K))
   (((try simp only [cZ]); (try simp only [cl_ret]); refine hR _ _ (.inr rfl) ?_; (simp only [go_sem])))
 ·rename_i o n
  split at h
  ·rename_i rows ho
   split at h
   ·rename_i hh
    obtain ⟨hn, h0, h1, hall⟩ := hh
    injection h with h
    injection h with h1' h
    injection h with h2 h3
    subst h1'; subst h2; subst h3
    refine ⟨by simp [Tryz.ntmps47], fun X R hR => ?_⟩
    (repeat ((try simp only [cZ]); with_reducible refine cg fun K hK => ?_; simp only [go_sem, Nat.reduceBEq]; (repeat refine ck ?_); (try simp (disch := omega) only [wZ]); refine hK _ ?_; clear hK K))
    (((try simp only [cZ]); refine cl_cond (b := false) rfl (fun h => nomatch h) (fun _ => ?_)))
    have ht : rows.take n = rows := by rw [← hn, List.take_length]
    have hne : ¬ rows = [] := by rintro rfl; simp at hn; omega
    (repeat ((try simp only [cZ]); with_reducible refine cg fun K hK => ?_; simp only [go_sem, Nat.reduceBEq, ho, hn, ht, hall, hne]; (repeat refine ck ?_); (try simp (disch := omega) only [wZ]); refine hK _ ?_; clear hK K))
    (((try simp only [cZ]); (try simp only [cl_ret]); refine hR _ _ (.inr rfl) ?_; (simp only [go_sem])))
   ·cases h
  ·cases h
 ·cases h
def NewR (lo : Nat) (H : Hp) (nx : Nat) (d : D) : Prop := d = .sl [] ∨ ∃ o v, lo ≤ o ∧ o < nx ∧ 0 < v.length ∧ v.length ≤ 100000 ∧ d = .ref o 1 0 v.length ∧ H o = some ⟨some 26, 1, rowsN v⟩
def Above (lo : Nat) (H0 H : Hp) (nx : Nat) : Prop := lo ≤ nx ∧ (∀ o, o < lo → H o = H0 o) ∧ ∀ o, nx ≤ o → H o = none
theorem NewR.mono {lo : Nat} {H H' : Hp} {nx nx' : Nat} {d : D} (h : NewR lo H nx d) (hn : nx ≤ nx') (he : ∀ o, o < nx → H' o = H o) : NewR lo H' nx' d := by
 rcases h with h | ⟨o, v, h1, h2, h3, h4, h5, h6⟩
 ·exact .inl h
 ·exact .inr ⟨o, v, h1, by omega, h3, h4, h5, by rw [he o h2]; exact h6⟩
theorem cloneN_dt {H0 H : Hp} {lo nx : Nat} {d : D} {v : List Int} (h : Dt H0 d v) (hv : v.length ≤ 100000) (ho : ∀ o, d.oid = some o → o < lo) (ha : Above lo H0 H nx) :
  ∃ d' H' nx', cloneNF [.one d] H nx = some (.a (.one d'), H', nx') ∧ nx ≤ nx' ∧ (∀ o, o < nx → H' o = H o) ∧ Above lo H0 H' nx' ∧ NewR lo H' nx' d' := by
 obtain ⟨a1, a2, a3⟩ := ha
 cases h with
 | nil => exact ⟨_, _, _, rfl, Nat.le_refl _, fun _ _ => rfl, ⟨a1, a2, a3⟩, .inl rfl⟩
 | obj o v h0 hH =>
  have hlo := ho o rfl
  refine ⟨.ref nx 1 0 v.length, updO H nx (some ⟨some 26, 1, rowsN v⟩), nx + 1, ?_, by omega, fun t ht => updO_ne (by omega), ⟨by omega, fun t ht => by rw [updO_ne (by omega)]; exact a2 t ht, fun t ht => by rw [updO_ne (by omega)]; exact a3 t (by omega)⟩, .inr ⟨nx, v, a1, by omega, h0, hv, rfl, updO_at _ _ _⟩⟩
  simp only [cloneNF, a2 o hlo, hH]
  rw [if_pos ⟨rowsN_len v, h0, hv, rowsN_all v⟩]
section
variable {K : Nat} {s : St} {S B M : Nat} {ml : List Mb} {H : Hp} {nx : Nat}
theorem Ms.ext (h : Ms K s S B M ml H nx) {H' : Hp} {nx' : Nat} (ha : Above nx H H' nx') : Ms K s S B M ml H' nx' := by
 obtain ⟨a1, a2, a3⟩ := ha
 obtain ⟨lM, nS, nB⟩ := h.ltM
 refine ⟨⟨by rw [a2 _ h.hs.ltS]; exact h.hs.top, by rw [a2 _ h.hs.ltB]; exact h.hs.bl, a3⟩, by rw [a2 _ lM]; exact h.mp, h.bs, fun m hm => ?_, h.df, h.nd, h.wk, h.dl, h.pos, h.nm⟩
 refine (h.dt m hm).frame fun t ht => ?_
 exact a2 t (h.oid hm ht).1
noncomputable def Cx8w : (Nat → Prop) → Ctx := fun X => { nt := 27, tt := tt, fns := ofList [(47, .eff cloneNF)], keep := keep15, X := X, eqs := fun t => t == 25 || t == 46 }
noncomputable def blocksW : List AD → Hp → Nat → Option (RV × Hp × Nat) := semT Tryz.f15 Cx8w Tryz.f15.results
theorem blocksW_ok : FnEff Tryz.prog 15 blocksW := semT_ok mixed Tryz.func15 rfl (fun X => ok_of (l := [(47, .eff cloneNF)]) tt_ok ⟨cloneN_ok, by kernel_rfl, trivial⟩ eqsOk) (fun _ => rfl) (fun _ => rfl) (by decide) rfl
theorem blocksW_nil : blocksW [.one .nilp] H nx = some (.a (.one (.sl [])), H, nx) := by
 unfold blocksW
 rw [Tryz.results15]
 refine semT_eq rfl (by simp [Tryz.ntmps15]) fun X R hR => ?_
 unfold Cx8w at hR ⊢
 (repeat ((try simp only [cZ]); with_reducible refine cg fun K hK => ?_; simp only [go_sem]; (repeat refine ck ?_); (try simp (disch := omega) only [wZ]); refine hK _ ?_; clear hK K))
 (((try simp only [cZ]); refine cl_cond (b := true) rfl (fun _ => ?_) (fun h => nomatch h)))
 (repeat ((try simp only [cZ]); with_reducible refine cg fun K hK => ?_; simp only [go_sem]; (repeat refine ck ?_); (try simp (disch := omega) only [wZ]); refine hK _ ?_; clear hK K))
 (((try simp only [cZ]); (try simp only [cl_ret]); refine hR _ _ (.inr rfl) ?_; (simp only [go_sem])))
structure WSt where
 L : List Mb
 H : Hp
 nx : Nat
def WOk (lo : Nat) (H0 : Hp) (i : Nat) (x : WSt) : Prop := x.L.length = i ∧ Above lo H0 x.H x.nx ∧ ∀ m ∈ x.L, NewR lo x.H x.nx m.d
theorem blocksW_seq (h : Ms K s S B M ml H nx) : ∃ f : Nat → WSt, f 0 = ⟨[], H, nx⟩ ∧ ∀ i, i ≤ ml.length → WOk nx H i (f i) ∧ ∀ hi : i < ml.length, ∃ d', cloneNF [.one ml[i].d] (f i).H (f i).nx = some (.a (.one d'), (f (i + 1)).H, (f (i + 1)).nx) ∧ (f (i + 1)).L = (f i).L ++ [Mb.mk ml[i].b d'] := by
 obtain ⟨f, hf, hr⟩ := dep_choice (Pr := fun i x => i ≤ ml.length → WOk nx H i x) (Qr := fun i x y => ∀ hi : i < ml.length, ∃ d', cloneNF [.one ml[i].d] x.H x.nx = some (.a (.one d'), y.H, y.nx) ∧ y.L = x.L ++ [Mb.mk ml[i].b d']) ⟨[], H, nx⟩ (fun _ => ⟨rfl, ⟨Nat.le_refl _, fun _ _ => rfl, h.hs.fresh⟩, by simp⟩) (fun i x hx => by
  by_cases hi : i < ml.length
  ·obtain ⟨k1, k2, k3⟩ := hx (by omega)
   have hdt : Dt H ml[i].d (valB s ml[i].b) ∧ ∀ o, ml[i].d.oid = some o → o < nx := by
    unfold valB
    cases hu : ml[i].b.used with
    | true =>
     have hm := mem_usedM.2 ⟨List.getElem_mem hi, hu⟩
     exact ⟨h.dt _ hm, fun o ho => (h.oid hm ho).1⟩
    | false =>
     rw [h.df _ (List.getElem_mem hi) hu]
     exact ⟨.nil, by simp [D.oid]⟩
   have hl : (valB s ml[i].b).length ≤ 100000 := by
    unfold valB
    split
    ·exact dataV_len h.wk _
    ·simp
   obtain ⟨d', H', nx', e1, e2, e3, e4, e5⟩ := cloneN_dt hdt.1 hl hdt.2 k2
   refine ⟨⟨x.L ++ [Mb.mk ml[i].b d'], H', nx'⟩, fun _ => ⟨d', e1, rfl⟩, fun _ => ⟨by simp [k1], e4, fun m hm => ?_⟩⟩
   rcases List.mem_append.1 hm with hm | hm
   ·exact (k3 m hm).mono e2 e3
   ·simp only [List.mem_singleton] at hm
    subst hm
    exact e5
  ·exact ⟨x, fun h1 => absurd h1 hi, fun h1 => by omega⟩)
 exact ⟨f, hf, fun i hi => ⟨(hr i).1 hi, (hr i).2⟩⟩
theorem blocksW_run (h : Ms K s S B M ml H nx) : ∃ L H' nx', blocksW [.one (.ptr S 12 0 0)] H nx = some (.a (.one (.sl (rowsM L))), H', nx') ∧ L.length ≤ 22000 ∧ Above nx H H' nx' ∧ ∀ m ∈ L, NewR nx H' nx' m.d := by
 have h8 := h.wk.lv8
 have hlo := rowsO_len s.live
 have hS := h.hs.top
 have hB := h.hs.bl
 have hlm := h.len
 have q1 := h.hs.ltS
 have q2 := h.hs.ltB
 obtain ⟨f, f0, hf⟩ := blocksW_seq h
 obtain ⟨⟨k1, k2, k3⟩, _⟩ := hf ml.length (Nat.le_refl _)
 refine ⟨(f ml.length).L, (f ml.length).H, (f ml.length).nx, ?_, by omega, k2, k3⟩
 clear k1 k2 k3
 unfold blocksW
 rw [Tryz.results15]
 refine semT_eq rfl (by simp [Tryz.ntmps15]) fun X R hR => ?_
 unfold Cx8w at hR ⊢
 (repeat ((try simp only [cZ]); with_reducible refine cg fun K hK => ?_; simp only [go_sem, Nat.reduceBEq, Bool.or_false]; (repeat refine ck ?_); (try simp (disch := omega) only [wZ]); refine hK _ ?_; clear hK K))
 (((try simp only [cZ]); refine cl_cond (b := false) rfl (fun h => nomatch h) (fun _ => ?_)))
 (repeat ((try simp only [cZ]); with_reducible refine cg fun K hK => ?_; simp only [go_sem, Nat.reduceBEq, Bool.or_false, hS, hlo, h8]; (repeat refine ck ?_); (try simp (disch := omega) only [wZ]); refine hK _ ?_; clear hK K))
 (((try simp only [cZ]); refine cl_block fun K hK1 R hR1 X hX1 => ?_))
 refine cl_loop (fun E n => ∃ i : Nat, i ≤ ml.length ∧ n = ml.length - i ∧ E = mk [(1000000, .heap (f i).H (f i).nx), (13, .v (.one (.int .i64 i))), (3, .own 0 55 6 (rowsM (f i).L)), (11, .v (.one (.ref B 6 0 ml.length))), (12, .v (.one (.int .i64 ml.length)))]) ml.length ⟨0, by omega, by omega, by rw [f0]; rfl⟩ ?_
 rintro E n ⟨i, hi, rfl, rfl⟩ J hJ R2 hR2 X2 hX2
 obtain ⟨⟨k1, ⟨k2, k3, k4⟩, k5⟩, hst⟩ := hf i hi
 have hB' := (k3 B q2).trans hB
 (repeat ((try simp only [cZ]); with_reducible refine cg fun K hK => ?_; simp only [go_sem, Nat.reduceBEq, Bool.or_false]; (repeat refine ck ?_); (try simp (disch := omega) only [wZ]); refine hK _ ?_; clear hK K))
 (((try simp only [cZ]); refine cl_cond rfl (fun hc => ?_) (fun hc => ?_)))
 ·simp only [decide_eq_true_eq, Int.ofNat_lt] at hc
  obtain ⟨d', hcl, hL⟩ := hst hc
  generalize hg : f (i + 1) = g at *
  generalize f i = x at *
  have hlL : x.L.length ≤ 22000 := by omega
  (((try simp only [cZ]); refine cl_block fun K hK3 R hR3 X hX3 => ?_))
  (repeat ((try simp only [cZ]); with_reducible refine cg fun K hK => ?_; simp only [go_sem, Nat.reduceBEq, Bool.or_false, hB', hc, hcl]; (repeat refine ck ?_); (try simp (disch := omega) only [wZ]); refine hK _ ?_; clear hK K))
  ((try simp only [cZ, cl_exit, cl_nil]))
  refine hK3 _ ?_
  (repeat ((try simp only [cZ]); with_reducible refine cg fun K hK => ?_; simp only [go_sem, Nat.reduceBEq, Bool.or_false, wrapi64 (n := (i : Int) + 1) (by omega) (by omega)]; (repeat refine ck ?_); (try simp (disch := omega) only [wZ]); refine hK _ ?_; clear hK K))
  ((try simp only [cZ, cl_exit, cl_nil]))
  refine hJ _ (ml.length - (i + 1)) (by omega) ⟨i + 1, by omega, rfl, ?_⟩
  rw [hg, hL]
  rfl
 ·simp only [decide_eq_false_iff_not, Int.ofNat_lt] at hc
  have hil : i = ml.length := by omega
  subst hil
  ((try simp only [cZ, cl_exit, cl_nil]))
  refine hX2 0 _ (hK1 _ ?_)
  (repeat ((try simp only [cZ]); with_reducible refine cg fun K hK => ?_; simp only [go_sem, Nat.reduceBEq, Bool.or_false]; (repeat refine ck ?_); (try simp (disch := omega) only [wZ]); refine hK _ ?_; clear hK K))
  (((try simp only [cZ]); (try simp only [cl_ret]); refine hR _ _ (.inr rfl) ?_; (simp only [go_sem])))
end
end Go.Proofs.YtapdaefpkddioaaGreat.Pe
