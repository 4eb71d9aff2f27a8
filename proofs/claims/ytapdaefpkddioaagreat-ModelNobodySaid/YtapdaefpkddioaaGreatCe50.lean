/- A part of the proof of PpD. -/
import Derived.Test.YtapdaefpkddioaaGreatCe48
import Derived.Test.YtapdaefpkddioaaGreatCe49
import Derived.Test.YtapdaefpkddioaaGreatCe39
set_option linter.unusedSimpArgs false
set_option linter.unusedVariables false
set_option linter.unusedSectionVars false
namespace Go.Proofs.YtapdaefpkddioaaGreat.Pe
open Go
set_option maxHeartbeats 4000000
theorem new_may {n a : Int} (hn : U64 n) (ha : U64 a) (H : Hp) (nx : Nat) : ∃ d H' nx', newMF [.one (.int .u64 n), .one (.int .u64 a)] H nx = some (.a (.one d), H', nx') ∧ ((mayV n a = true ∧ ∃ o, d = .ptr o 12 0 0) ∨ (mayV n a = false ∧ d = .nilp)) := by
 simp only [newMF]
 rw [if_pos ⟨hn, ha⟩]
 have hb : newBad n a = !mayV n a := by
  rw [Bool.eq_iff_iff]
  simp only [newBad, mayV, fitsV, Bool.or_eq_true, bne_iff_ne, decide_eq_true_eq, Bool.not_eq_true', Bool.and_eq_false_iff, beq_eq_false_iff_ne, decide_eq_false_iff_not]
  omega
 cases hm : mayV n a with
 | true =>
  rw [hm] at hb
  rw [hb]
  exact ⟨_, _, _, rfl, .inl ⟨rfl, _, rfl⟩⟩
 | false =>
  rw [hm] at hb
  rw [hb]
  exact ⟨_, _, _, rfl, .inr ⟨rfl, rfl⟩⟩
def dlen : D → Nat
 | .ref _ _ _ n => n
 | _ => 0
def fillW (H : Hp) (d : D) : Nat → Hp
 | 0 => H
 | k + 1 => match d with
  | .ref o _ _ _ => match fillW H d k o with
   | some ob => updO (fillW H d k) o (some ⟨ob.e, ob.sz, ob.rows.set k [.int .u64 77]⟩)
   | none => fillW H d k
  | _ => fillW H d k
def fillL (H : Hp) (L : List Mb) : Nat → Hp
 | 0 => H
 | i + 1 => match L[i]? with
  | some m => fillW (fillL H L i) m.d (dlen m.d)
  | none => fillL H L i
def WInv (lo : Nat) (H0 : Hp) (L : List Mb) (nx : Nat) (H : Hp) : Prop := Above lo H0 H nx ∧ ∀ m ∈ L, NewR lo H nx m.d
section
variable {lo nx : Nat} {H0 H : Hp} {L : List Mb} {m : Mb}
theorem fillW_step {d : D} {k o : Nat} {n : Nat} {v : List Int} (hd : d = .ref o 1 0 n) (hH : fillW H d k o = some ⟨some 26, 1, rowsN v⟩) : fillW H d (k + 1) = updO (fillW H d k) o (some ⟨some 26, 1, rowsN (v.set k 77)⟩) := by
 subst hd
 rw [fillW]
 simp only [hH]
 rw [rowsN_set]
theorem NewR.write {d : D} {o : Nat} {v v' : List Int} (h : NewR lo H nx d) (hH : H o = some ⟨some 26, 1, rowsN v⟩) (hl : v'.length = v.length) : NewR lo (updO H o (some ⟨some 26, 1, rowsN v'⟩)) nx d := by
 rcases h with h | ⟨o', w, h1, h2, h3, h4, h5, h6⟩
 ·exact .inl h
 ·by_cases ho : o' = o
  ·subst ho
   rw [hH] at h6
   simp only [Option.some.injEq, PObj.mk.injEq, true_and] at h6
   have hw : w.length = v.length := by rw [← rowsN_len w, ← rowsN_len v, h6]
   exact .inr ⟨o', v', h1, h2, by omega, by omega, by rw [h5, hw, hl], updO_at _ _ _⟩
  ·exact .inr ⟨o', w, h1, h2, h3, h4, h5, by rw [updO_ne ho]; exact h6⟩
theorem fillW_inv (h : WInv lo H0 L nx H) (hm : m ∈ L) : ∀ k, WInv lo H0 L nx (fillW H m.d k)
 | 0 => h
 | k + 1 => by
  obtain ⟨⟨a1, a2, a3⟩, b⟩ := fillW_inv h hm k
  rcases b m hm with hd | ⟨o, v, h1, h2, h3, h4, h5, h6⟩
  ·have : fillW H m.d (k + 1) = fillW H m.d k := by rw [fillW, hd]; intro o sz i n e; rw [hd] at e; cases e
   rw [this]
   exact ⟨⟨a1, a2, a3⟩, b⟩
  ·rw [fillW_step h5 h6]
   refine ⟨⟨a1, fun t ht => by rw [updO_ne (by omega)]; exact a2 t ht, fun t ht => by rw [updO_ne (by omega)]; exact a3 t ht⟩, fun x hx => (b x hx).write h6 (by simp)⟩
theorem fillL_inv (h : WInv lo H0 L nx H) : ∀ i, WInv lo H0 L nx (fillL H L i)
 | 0 => h
 | i + 1 => by
  have ih := fillL_inv h i
  rw [fillL]
  split
  ·rename_i m hm
   exact fillW_inv ih (List.mem_of_getElem? hm) _
  ·exact ih
end
noncomputable def Cx1006 : (Nat → Prop) → Ctx := fun X => { nt := 110, tt := tt, fns := ofList [(7, .eff awakeT), (8, .pure fewF), (13, .eff killMF), (11, .eff doMF), (9, .eff playedT), (15, .eff blocksW), (10, .eff sameT), (16, .eff entNT), (17, .eff liveNT), (18, .eff sizeT), (19, .eff newMF), (20, .pure mayF)], keep := keep6, X := X, eqs := fun t => t == 4 || (t == 25 || t == 46) }
noncomputable def nobodyT : List AD → Hp → Nat → Option (RV × Hp × Nat) := semT Tryz.f6 Cx1006 Tryz.f6.results
theorem nobody_ok : FnEff Tryz.prog 6 nobodyT := semT_ok mixed Tryz.func6 rfl (fun X => ok_of (l := [(7, .eff awakeT), (8, .pure fewF), (13, .eff killMF), (11, .eff doMF), (9, .eff playedT), (15, .eff blocksW), (10, .eff sameT), (16, .eff entNT), (17, .eff liveNT), (18, .eff sizeT), (19, .eff newMF), (20, .pure mayF)]) tt_ok ⟨awake_ok, by kernel_rfl, few_ok, by kernel_rfl, killM_ok, by kernel_rfl, doM_ok, by kernel_rfl, played_ok, by kernel_rfl, blocksW_ok, by kernel_rfl, same_ok, by kernel_rfl, entN_ok, by kernel_rfl, liveN_ok, by kernel_rfl, size_ok, by kernel_rfl, newM_ok, by kernel_rfl, may_ok, by kernel_rfl, trivial⟩ eqsOk4) (fun _ => rfl) (fun _ => rfl) (by decide) rfl
set_option maxRecDepth 20000 in
theorem nobody_run {H : Hp} {nx : Nat} (hf : ∀ o, nx ≤ o → H o = none) {l : List Cl} {n a : Int} (hok : ∀ x ∈ l, x.ok) (hn : U64 n) (ha : U64 a) :
  ∃ H' nx', nobodyT [.one (.int .u64 n), .one (.int .u64 a), .one (.sl (rowsK l))] H nx = some (.a (.one (.bool true)), H', nx') := by
 obtain ⟨H1, n1, haw, hf1⟩ := awake_run hf
 have hfe := fewF_eq l
 by_cases hw : Few l
 ·obtain ⟨S, B, M, ml, H2, n2, hp, hm⟩ := played_run hf1 hw hok
  have hkn := kill_nil (H := H1) (nx := n1) (c := 1)
  have hdn := do_nil (H := H1) (nx := n1) (c := 1) (op := opT)
  obtain ⟨L, H3, n3, hb, hL, hab, hnw⟩ := blocksW_run hm
  have hin : ∀ i, WInv n2 H2 L n3 (fillL H3 L i) := fillL_inv ⟨hab, hnw⟩
  have hmf := hm.ext (hin L.length).1
  have hs := same_run hmf
  obtain ⟨d, H4, n4, hne, hd⟩ := new_may hn ha (fillL H3 L L.length) n3
  have hma : mayF [.one (.int .u64 n), .one (.int .u64 a)] = some (.a (.one (.bool (mayV n a)))) := by simp only [mayF]; rw [if_pos ⟨hn, ha⟩]
  have h8 := hm.wk.sh.ls8
  have h8' := hm.wk.lv8
  have hgo : ∀ H' nx', (n > 1048576 ∧ H' = fillL H3 L L.length ∧ nx' = n3) ∨ (¬ n > 1048576 ∧ H' = H4 ∧ nx' = n4) → nobodyT [.one (.int .u64 n), .one (.int .u64 a), .one (.sl (rowsK l))] H nx = some (.a (.one (.bool true)), H', nx') := by
   intro H' nx' hfin
   generalize playV l = s at *
   unfold nobodyT
   rw [Tryz.results6]
   refine semT_eq rfl (by simp [Tryz.ntmps6]) fun X R hR => ?_
   unfold Cx1006 at hR ⊢
   simp only [hw, decide_true] at hfe
   simp only [St.c, stc] at hp hs
   simp only [opT, Opn.c] at hdn
   have htl : (D.sl (rowsB s.h.bl) :: (rowsL s.h.ls ++ (D.sl (rowsW s.data) :: (D.sl (rowsE s.names) :: rowsO s.live)))).length = 19 := by
    rw [List.length_cons, List.length_append, rowsL_len, List.length_cons, List.length_cons, rowsO_len, h8, h8']
   generalize D.sl (rowsB s.h.bl) :: (rowsL s.h.ls ++ (D.sl (rowsW s.data) :: (D.sl (rowsE s.names) :: rowsO s.live))) = tl at *
   have htk : tl.take 19 = tl := by rw [← htl, List.take_length]
   (repeat ((try simp only [cZ]); with_reducible refine cg fun K hK => ?_; simp only [go_sem, haw, hfe]; (repeat refine ck ?_); (try simp (disch := omega) only [wZ]); refine hK _ ?_; clear hK K))
   (((try simp only [cZ]); refine cl_cond (b := false) rfl (fun h => nomatch h) (fun _ => ?_)))
   (repeat ((try simp only [cZ]); with_reducible refine cg fun K hK => ?_; simp only [go_sem, hkn, hdn, hp, htl, htk, hb]; (repeat refine ck ?_); (try simp (disch := omega) only [wZ]); refine hK _ ?_; clear hK K))
   (((try simp only [cZ]); refine cl_block fun K hK1 R hR1 X hX1 => ?_))
   refine cl_loop (fun E n' => ∃ i : Nat, i ≤ L.length ∧ n' = L.length - i ∧ E = mk [(1000000, .heap (fillL H3 L i) n3), (14, .v (.one (.int .i64 i))), (0, .v (.one (.int .u64 n))), (1, .v (.one (.int .u64 a))), (7, .v (.one (.bool true))), (8, .v (.one .nilp)), (9, .box 0 [.int .i64 1, .int .u64 0, .int .u64 0]), (10, .v (.one (.ptr S 12 0 0))), (11, .box 0 (.int .u64 s.all :: .int .u64 s.h.fin :: tl)), (12, .v (.one (.bool true))), (13, .v (.one (.sl (rowsM L))))]) L.length ⟨0, by omega, by omega, rfl⟩ ?_
   rintro E n' ⟨i, hi, rfl, rfl⟩ J hJ R2 hR2 X2 hX2
   (repeat ((try simp only [cZ]); with_reducible refine cg fun K hK => ?_; simp only [go_sem]; (repeat refine ck ?_); (try simp (disch := omega) only [wZ]); refine hK _ ?_; clear hK K))
   (((try simp only [cZ]); refine cl_cond rfl (fun hc => ?_) (fun hc => ?_)))
   ·simp only [decide_eq_true_eq, Int.ofNat_lt] at hc
    have hin1 := hin i
    have hstep : fillL H3 L (i + 1) = fillW (fillL H3 L i) L[i].d (dlen L[i].d) := by rw [fillL, List.getElem?_eq_getElem hc]
    have hmem := List.getElem_mem hc
    generalize hG : fillL H3 L i = G at hin1 hstep
    have hout : ∀ E', E' = mk [(1000000, .heap (fillL H3 L (i + 1)) n3), (14, .v (.one (.int .i64 ((i + 1 : Nat) : Int)))), (0, .v (.one (.int .u64 n))), (1, .v (.one (.int .u64 a))), (7, .v (.one (.bool true))), (8, .v (.one .nilp)), (9, .box 0 [.int .i64 1, .int .u64 0, .int .u64 0]), (10, .v (.one (.ptr S 12 0 0))), (11, .box 0 (.int .u64 s.all :: .int .u64 s.h.fin :: tl)), (12, .v (.one (.bool true))), (13, .v (.one (.sl (rowsM L))))] → J E' := fun E' hE => hJ _ (L.length - (i + 1)) (by omega) ⟨i + 1, by omega, rfl, hE⟩
    (((try simp only [cZ]); refine cl_block fun K hK3 R hR3 X hX3 => ?_))
    (repeat ((try simp only [cZ]); with_reducible refine cg fun K hK => ?_; simp only [go_sem]; (repeat refine ck ?_); (try simp (disch := omega) only [wZ]); refine hK _ ?_; clear hK K))
    (((try simp only [cZ]); refine cl_block fun K hL1 R hS1 X hY1 => ?_))
    refine cl_loop (fun E n' => ∃ k : Nat, k ≤ dlen L[i].d ∧ n' = dlen L[i].d - k ∧ E = mk [(1000000, .heap (fillW G L[i].d k) n3), (15, .v (.one (.int .i64 k))), (0, .v (.one (.int .u64 n))), (1, .v (.one (.int .u64 a))), (7, .v (.one (.bool true))), (8, .v (.one .nilp)), (9, .box 0 [.int .i64 1, .int .u64 0, .int .u64 0]), (10, .v (.one (.ptr S 12 0 0))), (11, .box 0 (.int .u64 s.all :: .int .u64 s.h.fin :: tl)), (12, .v (.one (.bool true))), (13, .v (.one (.sl (rowsM L)))), (14, .v (.one (.int .i64 i)))]) (dlen L[i].d) ⟨0, by omega, by omega, by rw [← hG]; rfl⟩ ?_
    rintro E n' ⟨k, hk, rfl, rfl⟩ J' hJ' R3 hR3' X3 hX3'
    obtain ⟨ha', hn'⟩ := fillW_inv hin1 hmem k
    rcases hn' _ hmem with hd0 | ⟨o, v, h1, h2, h3, h4, h5, h6⟩
    ·have hk0 : dlen L[i].d = 0 := by rw [hd0]; rfl
     have hkz : k = 0 := by omega
     subst hkz
     rw [hk0] at hstep
     (repeat ((try simp only [cZ]); with_reducible refine cg fun K hK => ?_; simp only [go_sem, hc, hd0, hk0]; (repeat refine ck ?_); (try simp (disch := omega) only [wZ]); refine hK _ ?_; clear hK K))
     (((try simp only [cZ]); refine cl_cond rfl (fun hc2 => ?_) (fun hc2 => ?_)))
     ·exfalso; simp at hc2
     ·((try simp only [cZ, cl_exit, cl_nil]))
      refine hX3' 2 _ (hL1 _ ?_)
      ((try simp only [cZ, cl_exit, cl_nil]))
      refine hK3 _ ?_
      (repeat ((try simp only [cZ]); with_reducible refine cg fun K hK => ?_; simp only [go_sem, wrapi64 (n := (i : Int) + 1) (by omega) (by omega)]; (repeat refine ck ?_); (try simp (disch := omega) only [wZ]); refine hK _ ?_; clear hK K))
      ((try simp only [cZ, cl_exit, cl_nil]))
      exact hout _ (by rw [hstep]; rfl)
    ·have hst := fillW_step (k := k) h5 h6
     have hdl : dlen L[i].d = v.length := by rw [h5]; rfl
     (repeat ((try simp only [cZ]); with_reducible refine cg fun K hK => ?_; simp only [go_sem, hc, h5]; (repeat refine ck ?_); (try simp (disch := omega) only [wZ]); refine hK _ ?_; clear hK K))
     (((try simp only [cZ]); refine cl_cond rfl (fun hc2 => ?_) (fun hc2 => ?_)))
     ·simp only [decide_eq_true_eq, Int.ofNat_lt] at hc2
      (((try simp only [cZ]); refine cl_block fun K hL3 R hS3 X hY3 => ?_))
      rw [h5] at h6
      (repeat ((try simp only [cZ]); with_reducible refine cg fun K hK => ?_; simp only [go_sem, hc, h5, h6, hc2, rowsN_set]; (repeat refine ck ?_); (try simp (disch := omega) only [wZ]); refine hK _ ?_; clear hK K))
      ((try simp only [cZ, cl_exit, cl_nil]))
      refine hL3 _ ?_
      (repeat ((try simp only [cZ]); with_reducible refine cg fun K hK => ?_; simp only [go_sem, wrapi64 (n := (k : Int) + 1) (by omega) (by omega)]; (repeat refine ck ?_); (try simp (disch := omega) only [wZ]); refine hK _ ?_; clear hK K))
      ((try simp only [cZ, cl_exit, cl_nil]))
      refine hJ' _ (dlen L[i].d - (k + 1)) (by omega) ⟨k + 1, by omega, rfl, ?_⟩
      rw [hst, h5]
      rfl
     ·simp only [decide_eq_false_iff_not, Int.ofNat_lt] at hc2
      have hkl : k = dlen L[i].d := by omega
      ((try simp only [cZ, cl_exit, cl_nil]))
      refine hX3' 2 _ (hL1 _ ?_)
      ((try simp only [cZ, cl_exit, cl_nil]))
      refine hK3 _ ?_
      (repeat ((try simp only [cZ]); with_reducible refine cg fun K hK => ?_; simp only [go_sem, wrapi64 (n := (i : Int) + 1) (by omega) (by omega)]; (repeat refine ck ?_); (try simp (disch := omega) only [wZ]); refine hK _ ?_; clear hK K))
      ((try simp only [cZ, cl_exit, cl_nil]))
      exact hout _ (by rw [hstep, ← hkl]; first | rfl | (rw [h5]; rfl))
   ·simp only [decide_eq_false_iff_not, Int.ofNat_lt] at hc
    have hil : i = L.length := by omega
    subst hil
    generalize fillL H3 L L.length = G at *
    ((try simp only [cZ, cl_exit, cl_nil]))
    refine hX2 0 _ (hK1 _ ?_)
    rcases hfin with ⟨hbig, rfl, rfl⟩ | ⟨hbig, rfl, rfl⟩
    ·(repeat ((try simp only [cZ]); with_reducible refine cg fun K hK => ?_; simp only [go_sem, show decide ((1048576 : Int) < n) = true from decide_eq_true hbig, htl, htk, hs, beq_self_eq_true, Option.map_some, blocksW_nil, entries_nil, live_nil, size_nil, show (((0 : Nat) : Int) == 0) = true from rfl]; (repeat refine ck ?_); (try simp (disch := omega) only [wZ]); refine hK _ ?_; clear hK K))
     (((try simp only [cZ]); (try simp only [cl_ret]); refine hR _ _ (.inr rfl) ?_; (simp only [go_sem])))
    ·rcases hd with ⟨hmv, o, rfl⟩ | ⟨hmv, rfl⟩
     ·rw [hmv] at hma
      (repeat ((try simp only [cZ]); with_reducible refine cg fun K hK => ?_; simp only [go_sem, show decide ((1048576 : Int) < n) = false from decide_eq_false hbig, htl, htk, hs, beq_self_eq_true, Option.map_some, blocksW_nil, entries_nil, live_nil, size_nil, show (((0 : Nat) : Int) == 0) = true from rfl, hne, hma]; (repeat refine ck ?_); (try simp (disch := omega) only [wZ]); refine hK _ ?_; clear hK K))
      (((try simp only [cZ]); (try simp only [cl_ret]); refine hR _ _ (.inr rfl) ?_; (simp only [go_sem])))
     ·rw [hmv] at hma
      (repeat ((try simp only [cZ]); with_reducible refine cg fun K hK => ?_; simp only [go_sem, show decide ((1048576 : Int) < n) = false from decide_eq_false hbig, htl, htk, hs, beq_self_eq_true, Option.map_some, blocksW_nil, entries_nil, live_nil, size_nil, show (((0 : Nat) : Int) == 0) = true from rfl, hne, hma]; (repeat refine ck ?_); (try simp (disch := omega) only [wZ]); refine hK _ ?_; clear hK K))
      (((try simp only [cZ]); (try simp only [cl_ret]); refine hR _ _ (.inr rfl) ?_; (simp only [go_sem])))
  by_cases hbig : n > 1048576
  ·exact ⟨_, _, hgo _ _ (.inl ⟨hbig, rfl, rfl⟩)⟩
  ·exact ⟨_, _, hgo _ _ (.inr ⟨hbig, rfl, rfl⟩)⟩
 ·refine ⟨H1, n1, ?_⟩
  unfold nobodyT
  rw [Tryz.results6]
  refine semT_eq rfl (by simp [Tryz.ntmps6]) fun X R hR => ?_
  unfold Cx1006 at hR ⊢
  simp only [hw, decide_false] at hfe
  (repeat ((try simp only [cZ]); with_reducible refine cg fun K hK => ?_; simp only [go_sem, haw, hfe]; (repeat refine ck ?_); (try simp (disch := omega) only [wZ]); refine hK _ ?_; clear hK K))
  (((try simp only [cZ]); refine cl_cond (b := true) rfl (fun _ => ?_) (fun h => nomatch h)))
  (repeat ((try simp only [cZ]); with_reducible refine cg fun K hK => ?_; simp only [go_sem]; (repeat refine ck ?_); (try simp (disch := omega) only [wZ]); refine hK _ ?_; clear hK K))
  (((try simp only [cZ]); (try simp only [cl_ret]); refine hR _ _ (.inr rfl) ?_; (simp only [go_sem])))
end Go.Proofs.YtapdaefpkddioaaGreat.Pe
