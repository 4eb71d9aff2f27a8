/- A part of the proof of PmD. -/
import Derived.Test.YtapdaefpkddioaaGreatCb4
import Derived.Test.YtapdaefpkddioaaGreatCb26
import Derived.Test.YtapdaefpkddioaaGreatCe42
import Derived.Test.YtapdaefpkddioaaGreatCe39
set_option linter.unusedSimpArgs false
set_option linter.unusedVariables false
set_option linter.unusedSectionVars false
namespace Go.Proofs.YtapdaefpkddioaaGreat.Pe
open Go
set_option maxHeartbeats 4000000
def rowsK (l : List Cl) : List (List D) := l.map Cl.c
theorem Cl.c_lit (x : Cl) : x.c = [.int .i64 x.cl, .int .i64 x.op.kind, .int .u64 x.op.n, .int .u64 x.op.a, .int .u64 x.op.off, .int .u64 x.op.i, .int .u64 x.op.v, .int .i64 x.op.to_, .str x.op.name, .int .u8 x.at_, .bool x.kill] := rfl
theorem Cl.c_len (x : Cl) : x.c.length = 11 := rfl
theorem rowsK_len (l : List Cl) : (rowsK l).length = l.length := by simp [rowsK]
theorem rowsK_get' (l : List Cl) (i : Nat) (h : i < l.length) : (rowsK l)[i]? = some l[i].c := by simp [rowsK, h]
theorem rowsK_all (l : List Cl) : (rowsK l).all (fun r => decide (r.length = 11)) = true := by simp [rowsK, Cl.c_len]
theorem rowsK_inj {l m : List Cl} (h : rowsK l = rowsK m) : l = m := by
 unfold rowsK at h
 exact List.map_inj_right (fun x y e => Cl.c_inj e) |>.1 h
attribute [go_sem] rowsK_len rowsK_get' rowsK_all Cl.c_lit Cl.c_len
def encK (l : List Cl) : List AD := [.one (.sl (rowsK l))]
theorem encK_inj (x y : List Cl) (h : encK x = encK y) : x = y := by
 simp only [encK, List.cons.injEq, AD.one.injEq, D.sl.injEq, and_true] at h
 exact rowsK_inj h
def Few (l : List Cl) : Prop := l.length ≤ 25 ∧ ∀ x ∈ l, x.op.name.size ≤ 60
instance (l : List Cl) : Decidable (Few l) := by unfold Few; infer_instance
noncomputable def fewF : List AD → Option RV := byEnc encK (fun _ => True) fun l => .a (.one (.bool (decide (Few l))))
theorem fewF_eq (l : List Cl) : fewF [.one (.sl (rowsK l))] = some (.a (.one (.bool (decide (Few l))))) := byEnc_eq (x := l) encK_inj trivial
theorem few_ok : FnPure Tryz.prog 8 fewF := by
 (refine fn_pure' (f := 8) mixed Tryz.func8 rfl (fun X => { nt := 25, tt := tt, fns := ofList [], keep := keep8, X := X }) (fun X => ok_of tt_ok trivial (noEqs _)) (fun _ => rfl) (fun _ => rfl) (by decide) Tryz.results8 fewF ?_)
 intro l r hq
 obtain ⟨l, rfl, _, hr⟩ := byEnc_some hq
 clear hq
 refine ⟨by simp [encK, Tryz.ntmps8], fun X nx R hR => ?_⟩
 simp only [encK]
 (repeat ((try simp only [cZ]); with_reducible refine cg fun K hK => ?_; simp only [go_sem]; (repeat refine ck ?_); (try simp (disch := omega) only [wZ]); refine hK _ ?_; clear hK K))
 (((try simp only [cZ]); refine cl_block fun K hK1 R hR1 X hX1 => ?_))
 refine cl_loop (fun E n => ∃ i : Nat, i ≤ l.length ∧ i ≤ 26 ∧ n = 26 - i ∧ (∀ j (h : j < l.length), j < i → l[j].op.name.size ≤ 60) ∧ E = mk [(1000000, .heap (fun _ => none) nx), (3, .v (.one (.int .i64 i))), (0, .v (.one (.sl (rowsK l))))]) 26 ⟨0, by omega, by omega, by omega, fun j _ h => by omega, rfl⟩ ?_
 rintro E n ⟨i, hi, hi2, rfl, hs, rfl⟩ J hJ R2 hR2 X2 hX2
 (((try simp only [cZ]); refine cl_reg_b (g := ?g130) (t := ?t130) (L := ?L130) ((decide (i < l.length) && decide (i < 26))) (fun K hK => ?h1130) ?h2130; case' h1130 => simp only [go_sem, Int.ofNat_lt, show ((26 : Int)) = ((26 : Nat) : Int) from rfl]; (repeat refine ck ?_); (repeat' (((refine ite_split (fun hb => ?_) (fun hb => ?_) <;> ((try (simp only [go_sem, hb, Int.ofNat_lt, show ((26 : Int)) = ((26 : Nat) : Int) from rfl])); (repeat refine ck ?_)))))); all_goals (first | ((try simp (disch := omega) only [wZ]); refine hK _ ?_; clear hK K; first | rfl | grind | skip) | skip)))
 (((try simp only [cZ]); refine cl_cond rfl (fun hc => ?_) (fun hc => ?_)))
 ·simp only [Bool.and_eq_true, decide_eq_true_eq] at hc
  obtain ⟨hc, hc2⟩ := hc
  (((try simp only [cZ]); refine cl_block fun K hK3 R hR3 X hX3 => ?_))
  (repeat ((try simp only [cZ]); with_reducible refine cg fun K hK => ?_; simp only [go_sem, hc]; (repeat refine ck ?_); (try simp (disch := omega) only [wZ]); refine hK _ ?_; clear hK K))
  (((try simp only [cZ]); refine cl_cond rfl (fun hd => ?_) (fun hd => ?_)))
  ·(repeat ((try simp only [cZ]); with_reducible refine cg fun K hK => ?_; simp only [go_sem]; (repeat refine ck ?_); (try simp (disch := omega) only [wZ]); refine hK _ ?_; clear hK K))
   ((try simp only [cZ, cl_exit, cl_nil]))
   simp only [cl_ret]
   refine hR3 _ (hR2 _ (hR1 _ ?_))
   refine hR _ _ (.inr rfl) ?_
   (simp only [go_sem])
   rw [hr]
   have : ¬ Few l := fun hf => by
    have := hf.2 _ (List.getElem_mem hc)
    simp at hd
    omega
   simp [this]
  ·simp only [decide_eq_false_iff_not] at hd
   ((try simp only [cZ, cl_exit, cl_nil]))
   refine hK3 _ ?_
   (repeat ((try simp only [cZ]); with_reducible refine cg fun K hK => ?_; simp only [go_sem, wrapi64 (n := (i : Int) + 1) (by omega) (by omega)]; (repeat refine ck ?_); (try simp (disch := omega) only [wZ]); refine hK _ ?_; clear hK K))
   ((try simp only [cZ, cl_exit, cl_nil]))
   refine hJ _ (26 - (i + 1)) (by omega) ⟨i + 1, by omega, by omega, rfl, fun j h hj => ?_, rfl⟩
   by_cases hji : j = i
   ·subst hji; omega
   ·exact hs j h (by omega)
 ·simp only [Bool.and_eq_false_iff, decide_eq_false_iff_not] at hc
  ((try simp only [cZ, cl_exit, cl_nil]))
  refine hX2 0 _ (hK1 _ ?_)
  (repeat ((try simp only [cZ]); with_reducible refine cg fun K hK => ?_; simp only [go_sem]; (repeat refine ck ?_); (try simp (disch := omega) only [wZ]); refine hK _ ?_; clear hK K))
  (((try simp only [cZ]); (try simp only [cl_ret]); refine hR _ _ (.inr rfl) ?_; (simp only [go_sem])))
  rw [hr]
  congr 3
  by_cases h25 : l.length ≤ 25
  ·have hil : i = l.length := by omega
   have hf : Few l := ⟨h25, fun x hx => by
    obtain ⟨j, hj, rfl⟩ := List.getElem_of_mem hx
    exact hs j hj (by omega)⟩
   simp [hf]; omega
  ·have hf : ¬ Few l := fun h => h25 h.1
   simp [hf]; omega
def attV : Nat → St
 | 0 => st0 4480 4800
 | i + 1 => (doV (attV i) i opT).1
def stepV (s : St) (x : Cl) : St := if x.kill then killV s x.cl else (doV s x.cl (resolveV s x)).1
def playV (l : List Cl) : St := l.foldl stepV (attV 8)
theorem resolveV_ok {s : St} (w : s.Wk) {x : Cl} (hx : x.ok) : (resolveV s x).ok ∧ (resolveV s x).name = x.op.name := by
 have hp := payl_range w.hi x.at_
 have f1 := w.fin1
 obtain ⟨h1, h2, h3, h4, h5⟩ := hx.op
 unfold resolveV
 split
 ·refine ⟨⟨h1, h2, ?_, h4, h5⟩, rfl⟩
  unfold U64 at h3 ⊢
  simp only
  omega
 ·exact ⟨⟨h1, h2, h3, h4, h5⟩, rfl⟩
noncomputable def Cx7 : (Nat → Prop) → Ctx := fun X => { nt := 101, tt := tt, fns := ofList [(19, .eff newMF), (21, .pure newF), (11, .eff doMF), (22, .pure doF), (13, .eff killMF), (14, .pure killF), (12, .pure resolveF)], keep := keep9, X := X, eqs := fun t => t == 25 || t == 46 }
noncomputable def playedT : List AD → Hp → Nat → Option (RV × Hp × Nat) := semT Tryz.f9 Cx7 Tryz.f9.results
theorem played_ok : FnEff Tryz.prog 9 playedT := semT_ok mixed Tryz.func9 rfl (fun X => ok_of (l := [(19, .eff newMF), (21, .pure newF), (11, .eff doMF), (22, .pure doF), (13, .eff killMF), (14, .pure killF), (12, .pure resolveF)]) tt_ok ⟨newM_ok, by kernel_rfl, new_ok, by kernel_rfl, doM_ok, by kernel_rfl, do_ok, by kernel_rfl, killM_ok, by kernel_rfl, kill_ok, by kernel_rfl, resolve_ok, by kernel_rfl, trivial⟩ eqsOk) (fun _ => rfl) (fun _ => rfl) (by decide) rfl
theorem dep_choice {α : Type} {Pr : Nat → α → Prop} {Qr : Nat → α → α → Prop} (x0 : α) (h0 : Pr 0 x0) (step : ∀ i x, Pr i x → ∃ y, Qr i x y ∧ Pr (i + 1) y) : ∃ f : Nat → α, f 0 = x0 ∧ ∀ i, Pr i (f i) ∧ Qr i (f i) (f (i + 1)) := by
 classical
 let g : (i : Nat) → { x // Pr i x } := fun i => Nat.rec ⟨x0, h0⟩ (fun i p => ⟨Classical.choose (step i p.1 p.2), (Classical.choose_spec (step i p.1 p.2)).2⟩) i
 refine ⟨fun i => (g i).1, rfl, fun i => ⟨(g i).2, ?_⟩⟩
 exact (Classical.choose_spec (step i (g i).1 (g i).2)).1
structure Mst where
 B : Nat
 ml : List Mb
 H : Hp
 nx : Nat
theorem att_seq {S M : Nat} (x0 : Mst) (h0 : Ms 0 (attV 0) S x0.B M x0.ml x0.H x0.nx) : ∃ f : Nat → Mst, f 0 = x0 ∧ ∀ i, i ≤ 8 → Ms i (attV i) S (f i).B M (f i).ml (f i).H (f i).nx ∧ (i < 8 → doMF [.one (.ptr S 12 0 0), .one (.int .i64 i), .many opT.c] (f i).H (f i).nx = some (.a (.many (resC (doV (attV i) i opT).2.1 (doV (attV i) i opT).2.2.1 (doV (attV i) i opT).2.2.2)), (f (i + 1)).H, (f (i + 1)).nx)) := by
 obtain ⟨f, hf, hr⟩ := dep_choice (Pr := fun i x => i ≤ 8 → Ms i (attV i) S x.B M x.ml x.H x.nx) (Qr := fun i x y => i < 8 → doMF [.one (.ptr S 12 0 0), .one (.int .i64 i), .many opT.c] x.H x.nx = some (.a (.many (resC (doV (attV i) i opT).2.1 (doV (attV i) i opT).2.2.1 (doV (attV i) i opT).2.2.2)), y.H, y.nx)) x0 (fun _ => h0) (fun i x hx => by
  by_cases hi : i < 8
  ·obtain ⟨B', ml', H', nx', he, hm⟩ := do_run (c := i) (op := opT) (by omega) (hx (by omega)) opT_ok (by decide)
   exact ⟨⟨B', ml', H', nx'⟩, fun _ => he, fun _ => hm⟩
  ·exact ⟨x, fun h => absurd h hi, fun h => by omega⟩)
 exact ⟨f, hf, fun i hi => ⟨(hr i).1 hi, (hr i).2⟩⟩
def stepM (S : Nat) (s : St) (x : Cl) (p q : Mst) : Prop :=
 if x.kill then killMF [.one (.ptr S 12 0 0), .one (.int .i64 x.cl)] p.H p.nx = some (.tup [], q.H, q.nx)
 else doMF [.one (.ptr S 12 0 0), .one (.int .i64 x.cl), .many (resolveV s x).c] p.H p.nx = some (.a (.many (resC (doV s x.cl (resolveV s x)).2.1 (doV s x.cl (resolveV s x)).2.2.1 (doV s x.cl (resolveV s x)).2.2.2)), q.H, q.nx)
theorem play_seq {S M K0 : Nat} {s0 : St} {l : List Cl} (hK : K0 + l.length ≤ 1000) (hok : ∀ x ∈ l, x.ok ∧ x.op.name.size ≤ 60) (x0 : Mst) (h0 : Ms K0 s0 S x0.B M x0.ml x0.H x0.nx) : ∃ f : Nat → Mst, f 0 = x0 ∧ ∀ i, i ≤ l.length → Ms (K0 + i) ((l.take i).foldl stepV s0) S (f i).B M (f i).ml (f i).H (f i).nx ∧ (∀ (hi : i < l.length), stepM S ((l.take i).foldl stepV s0) l[i] (f i) (f (i + 1))) := by
 have e : ∀ i (hi : i < l.length), (l.take (i + 1)).foldl stepV s0 = stepV ((l.take i).foldl stepV s0) l[i] := fun i hi => by
  rw [take_one l i hi, List.foldl_append]; rfl
 obtain ⟨f, hf, hr⟩ := dep_choice (Pr := fun i x => i ≤ l.length → Ms (K0 + i) ((l.take i).foldl stepV s0) S x.B M x.ml x.H x.nx) (Qr := fun i x y => ∀ (hi : i < l.length), stepM S ((l.take i).foldl stepV s0) l[i] x y) x0 (fun _ => by simpa using h0) (fun i x hx => by
  by_cases hi : i < l.length
  ·have hm := hx (by omega)
   obtain ⟨ok1, ok2⟩ := hok _ (List.getElem_mem hi)
   obtain ⟨ro, rn⟩ := resolveV_ok hm.wk ok1
   cases hk : l[i].kill with
   | true =>
    obtain ⟨B', ml', H', nx', he, hm'⟩ := kill_ms hm l[i].cl
    refine ⟨⟨B', ml', H', nx'⟩, fun _ => ?_, fun _ => ?_⟩
    ·unfold stepM; rw [if_pos hk]; exact he
    ·rw [e i hi]
     unfold stepV; rw [if_pos hk]
     exact hm'.reK (by have := hm'.dl; omega)
   | false =>
    obtain ⟨B', ml', H', nx', he, hm'⟩ := do_run (c := l[i].cl) (op := resolveV ((l.take i).foldl stepV s0) l[i]) (by omega) hm ro (by rw [rn]; omega)
    refine ⟨⟨B', ml', H', nx'⟩, fun _ => ?_, fun _ => ?_⟩
    ·unfold stepM; rw [if_neg (by rw [hk]; simp)]; exact he
    ·rw [e i hi]
     unfold stepV; rw [if_neg (by rw [hk]; simp)]
     exact hm'
  ·exact ⟨x, fun h => absurd h hi, fun h => by omega⟩)
 exact ⟨f, hf, fun i hi => ⟨(hr i).1 hi, (hr i).2⟩⟩
theorem played_run {H : Hp} {nx : Nat} (hf : ∀ o, nx ≤ o → H o = none) {l : List Cl} (hw : Few l) (hok : ∀ x ∈ l, x.ok) :
  ∃ S B M ml H' nx', playedT [.one (.sl (rowsK l))] H nx = some (.tup [.one (.ptr S 12 0 0), .many (playV l).c, .one (.bool true)], H', nx') ∧ Ms 40 (playV l) S B M ml H' nx' := by
 have hn := newMF_eq (n := 4480) (a := 4800) (H := H) (nx := nx) (by decide) (by decide) (by decide) (by decide) (by decide)
 have m0 := new_ms (n := 4480) (a := 4800) hf (by decide) (by decide) (by decide) (by decide)
 have hn2 := newF_eq (n := 4480) (a := 4800) (by omega)
 generalize newH 4480 4800 H nx = H0 at *
 obtain ⟨f, f0, hfr⟩ := att_seq ⟨_, _, _, _⟩ m0
 have m8 := (hfr 8 (by omega)).1
 have hl25 := hw.1
 obtain ⟨g, g0, hgr⟩ := play_seq (K0 := 8) (l := l) (by omega) (fun x hx => ⟨hok x hx, hw.2 x hx⟩) (f 8) m8
 have mN := (hgr l.length (Nat.le_refl _)).1
 rw [List.take_length] at mN
 refine ⟨nx + 2, _, _, _, _, _, ?_, mN.reK (by have := mN.dl; omega)⟩
 generalize nx + 2 = S at *
 have hf0H : (f 0).H = H0 := by rw [f0]
 have hf0n : (f 0).nx = nx + 3 := by rw [f0]
 generalize nx + 3 = n0 at *
 unfold playedT
 rw [Tryz.results9]
 refine semT_eq rfl (by simp [Tryz.ntmps9]) fun X R hR => ?_
 unfold Cx7 at hR ⊢
 have es0 : (st0 4480 4800).c = (attV 0).c := rfl
 rw [es0] at hn2
 (repeat ((try simp only [cZ]); with_reducible refine cg fun K hK => ?_; simp only [go_sem, Nat.reduceBEq, Bool.or_false, Bool.or_true, hn, hn2, St.c, stc, show (attV 0).h.ls.length = 8 from rfl, show (attV 0).live.length = 8 from rfl]; (repeat refine ck ?_); (try simp (disch := omega) only [wZ]); refine hK _ ?_; clear hK K))
 (((try simp only [cZ]); refine cl_block fun K hK1 R hR1 X hX1 => ?_))
 refine cl_loop (fun E n => ∃ i : Nat, i ≤ 8 ∧ n = 8 - i ∧ E = mk [(1000000, .heap (f i).H (f i).nx), (8, .v (.one (.int .i64 i))), (0, .v (.one (.sl (rowsK l)))), (3, .box 0 [D.int IntKind.u64 0, D.int IntKind.u64 0, D.sl [], D.sl [], D.sl [], D.sl [], D.sl [], D.sl [], D.sl [], D.sl [], D.sl [], D.sl [], D.sl [], D.bool false, D.bool false, D.bool false, D.bool false, D.bool false, D.bool false, D.bool false, D.bool false]), (5, .v (.one (.ptr S 12 0 0))), (6, .box 0 (attV i).c), (7, .v (.one (.bool true)))]) 8 ⟨0, by omega, by omega, ?_⟩ ?_
 ·rw [hf0H, hf0n]; rfl
 rintro E n ⟨i, hi, rfl, rfl⟩ J hJ R2 hR2 X2 hX2
 (repeat ((try simp only [cZ]); with_reducible refine cg fun K hK => ?_; simp only [go_sem, Nat.reduceBEq, Bool.or_false, Bool.or_true]; (repeat refine ck ?_); (try simp (disch := omega) only [wZ]); refine hK _ ?_; clear hK K))
 (((try simp only [cZ]); refine cl_cond rfl (fun hc => ?_) (fun hc => ?_)))
 ·simp only [decide_eq_true_eq] at hc
  have hi8 : i < 8 := by omega
  obtain ⟨hm, he⟩ := hfr i hi
  have hm1 := (hfr (i + 1) (by omega)).1
  have he := he hi8
  have hd := doF_eq (c := i) hm.wk opT_ok (by decide)
  have a1 := hm.wk.sh.ls8
  have a2 := hm.wk.lv8
  have b1 := hm1.wk.sh.ls8
  have b2 := hm1.wk.lv8
  have es : attV (i + 1) = (doV (attV i) i opT).1 := rfl
  generalize doV (attV i) i opT = D at *
  obtain ⟨s', r1, r2, r3⟩ := D
  simp only at es
  rw [es] at b1 b2
  simp only [opRV, stRV] at hd
  simp only [opT, Opn.c, St.c, stc, resC] at hd he
  (((try simp only [cZ]); refine cl_block fun K hK3 R hR3 X hX3 => ?_))
  simp only [St.c, stc]
  (repeat ((try simp only [cZ]); with_reducible refine cg fun K hK => ?_; simp only [go_sem, Nat.reduceBEq, Bool.or_false, Bool.or_true, he, hd, a1, a2, b1, b2, beq_self_eq_true, Bool.and_true, Bool.and_self]; (repeat refine ck ?_); (try simp (disch := omega) only [wZ]); refine hK _ ?_; clear hK K))
  ((try simp only [cZ, cl_exit, cl_nil]))
  refine hK3 _ ?_
  (repeat ((try simp only [cZ]); with_reducible refine cg fun K hK => ?_; simp only [go_sem, Nat.reduceBEq, Bool.or_false, Bool.or_true, wrapi64 (n := (i : Int) + 1) (by omega) (by omega)]; (repeat refine ck ?_); (try simp (disch := omega) only [wZ]); refine hK _ ?_; clear hK K))
  ((try simp only [cZ, cl_exit, cl_nil]))
  refine hJ _ (8 - (i + 1)) (by omega) ⟨i + 1, by omega, rfl, ?_⟩
  rw [es]
  simp only [beq_self_eq_true, Bool.and_self]
  rfl
 ·simp only [decide_eq_false_iff_not] at hc
  have hi8 : i = 8 := by omega
  subst hi8
  have a1 := m8.wk.sh.ls8
  have a2 := m8.wk.lv8
  ((try simp only [cZ, cl_exit, cl_nil]))
  refine hX2 0 _ (hK1 _ ?_)
  (repeat ((try simp only [cZ]); with_reducible refine cg fun K hK => ?_; simp only [go_sem, Nat.reduceBEq, Bool.or_false, Bool.or_true]; (repeat refine ck ?_); (try simp (disch := omega) only [wZ]); refine hK _ ?_; clear hK K))
  (((try simp only [cZ]); refine cl_block fun K hL1 R hS1 X hY1 => ?_))
  refine cl_loop (fun E n => ∃ i : Nat, i ≤ l.length ∧ n = l.length - i ∧ E = mk [(1000000, .heap (g i).H (g i).nx), (12, .v (.one (.int .i64 i))), (0, .v (.one (.sl (rowsK l)))), (3, .box 0 [D.int IntKind.u64 0, D.int IntKind.u64 0, D.sl [], D.sl [], D.sl [], D.sl [], D.sl [], D.sl [], D.sl [], D.sl [], D.sl [], D.sl [], D.sl [], D.bool false, D.bool false, D.bool false, D.bool false, D.bool false, D.bool false, D.bool false, D.bool false]), (5, .v (.one (.ptr S 12 0 0))), (6, .box 0 ((l.take i).foldl stepV (attV 8)).c), (7, .v (.one (.bool true)))]) l.length ⟨0, by omega, by omega, ?_⟩ ?_
  ·rw [g0]; rfl
  rintro E n ⟨i, hi, rfl, rfl⟩ J hJ R3 hR3 X3 hX3
  (repeat ((try simp only [cZ]); with_reducible refine cg fun K hK => ?_; simp only [go_sem, Nat.reduceBEq, Bool.or_false, Bool.or_true]; (repeat refine ck ?_); (try simp (disch := omega) only [wZ]); refine hK _ ?_; clear hK K))
  (((try simp only [cZ]); refine cl_cond rfl (fun hd => ?_) (fun hd => ?_)))
  ·simp only [decide_eq_true_eq, Int.ofNat_lt] at hd
   obtain ⟨hm, hst⟩ := hgr i hi
   have hst := hst hd
   have hm1 := (hgr (i + 1) (by omega)).1
   have ok1 := hok _ (List.getElem_mem hd)
   have ok2 := hw.2 _ (List.getElem_mem hd)
   have e : (l.take (i + 1)).foldl stepV (attV 8) = stepV ((l.take i).foldl stepV (attV 8)) l[i] := by
    rw [take_one l i hd, List.foldl_append]; rfl
   rw [e] at hm1
   generalize (l.take i).foldl stepV (attV 8) = s at *
   obtain ⟨ro, rn⟩ := resolveV_ok hm.wk ok1
   have a1 := hm.wk.sh.ls8
   have a2 := hm.wk.lv8
   have b1 := hm1.wk.sh.ls8
   have b2 := hm1.wk.lv8
   (((try simp only [cZ]); refine cl_block fun K hL3 R hS3 X hY3 => ?_))
   simp only [St.c, stc]
   (repeat ((try simp only [cZ]); with_reducible refine cg fun K hK => ?_; simp only [go_sem, Nat.reduceBEq, Bool.or_false, Bool.or_true, hd]; (repeat refine ck ?_); (try simp (disch := omega) only [wZ]); refine hK _ ?_; clear hK K))
   cases hk : l[i].kill with
   | true =>
    (((try simp only [cZ]); refine cl_cond (b := true) rfl (fun _ => ?_) (fun h => nomatch h)))
    have hkf := killF_eq (c := l[i].cl) hm.wk
    unfold stepM at hst
    rw [if_pos hk] at hst
    have hsv : stepV s l[i] = killV s l[i].cl := by unfold stepV; rw [if_pos hk]
    rw [hsv] at b1 b2 e
    generalize killV s l[i].cl = s' at *
    simp only [St.c, stc] at hkf
    (repeat ((try simp only [cZ]); with_reducible refine cg fun K hK => ?_; simp only [go_sem, Nat.reduceBEq, Bool.or_false, Bool.or_true, hd, hst, hkf, a1, a2, b1, b2]; (repeat refine ck ?_); (try simp (disch := omega) only [wZ]); refine hK _ ?_; clear hK K))
    ((try simp only [cZ, cl_exit, cl_nil]))
    simp only [↓reduceIte]
    refine hL3 _ ?_
    (repeat ((try simp only [cZ]); with_reducible refine cg fun K hK => ?_; simp only [go_sem, Nat.reduceBEq, Bool.or_false, Bool.or_true, wrapi64 (n := (i : Int) + 1) (by omega) (by omega)]; (repeat refine ck ?_); (try simp (disch := omega) only [wZ]); refine hK _ ?_; clear hK K))
    ((try simp only [cZ, cl_exit, cl_nil]))
    refine hJ _ (l.length - (i + 1)) (by omega) ⟨i + 1, by omega, rfl, ?_⟩
    rw [e]
    rfl
   | false =>
    (((try simp only [cZ]); refine cl_cond (b := false) rfl (fun h => nomatch h) (fun _ => ?_)))
    have hres := resolveF_eq hm.wk ok1
    have hdf := doF_eq (c := l[i].cl) hm.wk ro (by rw [rn]; omega)
    unfold stepM at hst
    rw [if_neg (by rw [hk]; simp)] at hst
    have hsv : stepV s l[i] = (doV s l[i].cl (resolveV s l[i])).1 := by unfold stepV; rw [if_neg (by rw [hk]; simp)]
    rw [hsv] at b1 b2 e
    generalize doV s l[i].cl (resolveV s l[i]) = D at *
    obtain ⟨s', r1, r2, r3⟩ := D
    generalize resolveV s l[i] = op at *
    simp only [opRV, stRV] at hdf
    simp only at b1 b2 e
    simp only [Opn.c, St.c, stc, resC, Cl.c_lit] at hdf hst hres
    (repeat ((try simp only [cZ]); with_reducible refine cg fun K hK => ?_; simp only [go_sem, Nat.reduceBEq, Bool.or_false, Bool.or_true, hd, hres, hst, hdf, a1, a2, b1, b2, beq_self_eq_true, Bool.and_true, Bool.and_self]; (repeat refine ck ?_); (try simp (disch := omega) only [wZ]); refine hK _ ?_; clear hK K))
    ((try simp only [cZ, cl_exit, cl_nil]))
    refine hL3 _ ?_
    (repeat ((try simp only [cZ]); with_reducible refine cg fun K hK => ?_; simp only [go_sem, Nat.reduceBEq, Bool.or_false, Bool.or_true, wrapi64 (n := (i : Int) + 1) (by omega) (by omega)]; (repeat refine ck ?_); (try simp (disch := omega) only [wZ]); refine hK _ ?_; clear hK K))
    ((try simp only [cZ, cl_exit, cl_nil]))
    refine hJ _ (l.length - (i + 1)) (by omega) ⟨i + 1, by omega, rfl, ?_⟩
    rw [e]
    simp only [beq_self_eq_true, Bool.and_self]
    rfl
  ·simp only [decide_eq_false_iff_not, Int.ofNat_lt] at hd
   have hil : i = l.length := by omega
   subst hil
   rw [List.take_length]
   have a1 := mN.wk.sh.ls8
   have a2 := mN.wk.lv8
   have ep : l.foldl stepV (attV 8) = playV l := rfl
   rw [ep] at a1 a2 ⊢
   ((try simp only [cZ, cl_exit, cl_nil]))
   refine hX3 2 _ (hL1 _ ?_)
   simp only [St.c, stc]
   (repeat ((try simp only [cZ]); with_reducible refine cg fun K hK => ?_; simp only [go_sem, Nat.reduceBEq, Bool.or_false, Bool.or_true, a1, a2]; (repeat refine ck ?_); (try simp (disch := omega) only [wZ]); refine hK _ ?_; clear hK K))
   (((try simp only [cZ]); (try simp only [cl_ret]); refine hR _ _ (.inr rfl) ?_; (simp only [go_sem, a1, a2])))
   rfl
end Go.Proofs.YtapdaefpkddioaaGreat.Pe
namespace Go.Proofs.YtapdaefpkddioaaGreat.Pe
open Go Go.ChangeShapes Go.WideShapes Go.ChangeAt Go.RowKit
section
variable {P : Program} {n : Nat} {t : TypeId} {ds : List D}
theorem okD_int {k : IntKind} (hu : P.underlying t = some (.int k)) (h : okD P (n + 1) t ds) : ∃ x, ds = [.int k x] ∧ (Lit.int k x).wf = true := by
 unfold okD at h; rw [hu] at h; exact h
theorem okD_bool (hu : P.underlying t = some .bool) (h : okD P (n + 1) t ds) : ∃ x, ds = [.bool x] := by
 unfold okD at h; rw [hu] at h; exact h
theorem okD_str (hu : P.underlying t = some .string) (h : okD P (n + 1) t ds) : ∃ x : ByteArray, ds = [.str x] ∧ x.size ≤ maxLen := by
 unfold okD at h; rw [hu] at h; exact h
theorem okD_st {fs : Array Field} (hu : P.underlying t = some (.struct fs)) (h : okD P (n + 1) t ds) : ds.length = P.cellsOf t ∧ ∀ f ∈ fs.toList, okD P n f.type ((ds.drop f.offset).take (P.cellsOf f.type)) := by
 unfold okD at h; rw [hu] at h; exact h
end
theorem wf_u64 {x : Int} (h : (Lit.int .u64 x).wf = true) : U64 x := by
 have := bounds_u64 h; unfold U64; omega
theorem wf_i64 {x : Int} (h : (Lit.int .i64 x).wf = true) : -9223372036854775808 ≤ x ∧ x ≤ 9223372036854775807 := by
 have := bounds_i64 h; omega
theorem wf_u8 {x : Int} (h : (Lit.int .u8 x).wf = true) : 0 ≤ x ∧ x < 256 := by
 have := bounds_u8 h; omega
theorem len8 {l : List D} (h : l.length = 8) : ∃ a b c d e f g i, l = [a, b, c, d, e, f, g, i] := by
 match l, h with
 | [a, b, c, d, e, f, g, i], _ => exact ⟨a, b, c, d, e, f, g, i, rfl⟩
theorem len11 {l : List D} (h : l.length = 11) : ∃ a b c d e f g i j k m, l = [a, b, c, d, e, f, g, i, j, k, m] := by
 match l, h with
 | [a, b, c, d, e, f, g, i, j, k, m], _ => exact ⟨a, b, c, d, e, f, g, i, j, k, m, rfl⟩
attribute [local irreducible] okD
theorem op_of {ds : List D} (h : okD Tryz.prog 2 41 ds) : ∃ x : Opn, ds = x.c ∧ x.ok := by
 obtain ⟨hl, hf⟩ := okD_st Tryz.underlying41 h
 rw [show Tryz.prog.cellsOf 41 = 8 by kernel_rfl] at hl
 simp only [List.mem_cons, List.not_mem_nil, or_false, forall_eq_or_imp, forall_eq] at hf
 obtain ⟨f0, f1, f2, f3, f4, f5, f6, f7⟩ := hf
 obtain ⟨d0, d1, d2, d3, d4, d5, d6, d7, rfl⟩ := len8 hl
 rw [show Tryz.prog.cellsOf 3 = 1 by kernel_rfl] at f0 f6
 rw [show Tryz.prog.cellsOf 26 = 1 by kernel_rfl] at f1 f2 f3 f4 f5
 rw [show Tryz.prog.cellsOf 9 = 1 by kernel_rfl] at f7
 obtain ⟨x0, e0, w0⟩ := okD_int Tryz.underlying3 f0
 obtain ⟨x1, e1, w1⟩ := okD_int Tryz.underlying26 f1
 obtain ⟨x2, e2, w2⟩ := okD_int Tryz.underlying26 f2
 obtain ⟨x3, e3, w3⟩ := okD_int Tryz.underlying26 f3
 obtain ⟨x4, e4, w4⟩ := okD_int Tryz.underlying26 f4
 obtain ⟨x5, e5, w5⟩ := okD_int Tryz.underlying26 f5
 obtain ⟨x6, e6, w6⟩ := okD_int Tryz.underlying3 f6
 obtain ⟨x7, e7, w7⟩ := okD_str Tryz.underlying9 f7
 simp only [List.drop_zero, List.drop_succ_cons, List.take_succ_cons, List.take_zero, List.cons.injEq, and_true] at e0 e1 e2 e3 e4 e5 e6 e7
 subst e0 e1 e2 e3 e4 e5 e6 e7
 exact ⟨⟨x0, x1, x2, x3, x4, x5, x6, x7⟩, rfl, ⟨wf_u64 w1, wf_u64 w2, wf_u64 w3, wf_u64 w4, wf_u64 w5⟩⟩
theorem call_of {ds : List D} (h : okD Tryz.prog 3 43 ds) : ∃ x : Cl, ds = x.c ∧ x.ok ∧ -9223372036854775808 ≤ x.cl ∧ x.cl ≤ 9223372036854775807 := by
 obtain ⟨hl, hf⟩ := okD_st Tryz.underlying43 h
 rw [show Tryz.prog.cellsOf 43 = 11 by kernel_rfl] at hl
 simp only [List.mem_cons, List.not_mem_nil, or_false, forall_eq_or_imp, forall_eq] at hf
 obtain ⟨f0, f1, f2, f3⟩ := hf
 obtain ⟨d0, d1, d2, d3, d4, d5, d6, d7, d8, d9, d10, rfl⟩ := len11 hl
 rw [show Tryz.prog.cellsOf 3 = 1 by kernel_rfl] at f0
 rw [show Tryz.prog.cellsOf 41 = 8 by kernel_rfl] at f1
 rw [show Tryz.prog.cellsOf 5 = 1 by kernel_rfl] at f2
 rw [show Tryz.prog.cellsOf 4 = 1 by kernel_rfl] at f3
 obtain ⟨x0, e0, w0⟩ := okD_int Tryz.underlying3 f0
 obtain ⟨o, e1, w1⟩ := op_of f1
 obtain ⟨x2, e2, w2⟩ := okD_int Tryz.underlying5 f2
 obtain ⟨x3, e3⟩ := okD_bool Tryz.underlying4 f3
 simp only [List.drop_zero, List.drop_succ_cons, List.take_succ_cons, List.take_zero, List.cons.injEq, and_true] at e0 e1 e2 e3
 subst e0 e2 e3
 refine ⟨⟨x0, o, x2, x3⟩, ?_, ⟨w1, (wf_u8 w2).1, (wf_u8 w2).2⟩, wf_i64 w0⟩
 simp only [Cl.c, ← e1]
 rfl
theorem calls_of {rows : List (List D)} (h : ∀ r ∈ rows, okD Tryz.prog 3 43 r) : ∃ l : List Cl, rows = rowsK l ∧ ∀ x ∈ l, x.ok := by
 induction rows with
 | nil => exact ⟨[], rfl, by simp⟩
 | cons r rows ih =>
  obtain ⟨l, rfl, hl⟩ := ih fun q hq => h q (by simp [hq])
  obtain ⟨x, rfl, hx, _⟩ := call_of (h r (by simp))
  exact ⟨x :: l, rfl, by simpa using ⟨hx, hl⟩⟩
end Go.Proofs.YtapdaefpkddioaaGreat.Pe
