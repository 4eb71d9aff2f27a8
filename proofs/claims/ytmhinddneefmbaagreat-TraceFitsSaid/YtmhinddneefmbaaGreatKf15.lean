/- A part of the proof of JdH. -/
import Derived.RangeFuncLeaves
import Derived.Test.YtmhinddneefmbaaGreatKf14
set_option linter.unusedSimpArgs false
set_option linter.unusedVariables false
set_option linter.unusedSectionVars false
namespace Go.Proofs.YtmhinddneefmbaaGreat.Pe
open Go
inductive Ex where
  | normal
  | exit (id : Nat)
  | ret
noncomputable def Ex.ex : Ex → Exit
  | .normal => .normal
  | .exit id => .exit id
  | .ret => .ret
noncomputable def condW (c : Operand) (E : Env) (x y : Prop) : Prop := match c with
  | .tmp t => match E t with
    | .v (.one (.bool b)) => if b = true then x else y
    | .v (.one .anyb) => x ∧ y
    | _ => False
  | .const (.bool b) => if b = true then x else y
  | _ => False
noncomputable def cwp (C : Ctx) : Code → (Ex → Env → Prop) → Env → Prop
  | .skip, Q, E => Q .normal E
  | .ret, Q, E => Q .ret E
  | .exit id, Q, E => Q (.exit id) E
  | .seq x y, Q, E => cwp C x (fun e E' => match e with
    | .normal => cwp C y Q E'
    | e => Q e E') E
  | .cond c x y, Q, E => condW c E (cwp C x Q E) (cwp C y Q E)
  | .block id c, Q, E => cwp C c (fun e E' => match e with
    | .exit id' => if id' = id then Q .normal E' else Q (.exit id') E'
    | e => Q e E') E
  | .loop c, Q, E => ∃ (I : Env → Nat → Prop) (n0 : Nat), I E n0 ∧ ∀ E' n, I E' n → cwp C c (fun e E'' => match e with
    | .normal => ∃ n', n' < n ∧ I E'' n'
    | e => Q e E'') E'
  | .region id ops false, Q, E => (runFrom C ops 0 ops.toList).wp (fun _ E' => Q .normal (norm (C.keep id) E')) E
  | .region id ops true, Q, E => drawW C ops 0 ops.toList (fun E' fp => indep ops fp = true ∧ Q .normal (norm (C.keep id) E')) E []
  | _, _, _ => False
section
variable {P : Program} {C : Ctx}
theorem code_sound {ro : Option Nat} {n : Nat} (hm : P.follows .mixedOrders = true) (hC : C.Ok P) : ∀ (c : Code) (Q : Ex → Env → Prop) (E : Env), cwp C c Q E → ∀ (a : Act) (w : World) (ι β : Nat → Option Nat) (M : Nat → Prop) (Qx : Exit → Act → World → Prop), Sim C E a w ι β M → Gens E (· ≤ 0) →
    (∀ e E' a' w' ι' β' M', Q e E' → Sim C E' a' w' ι' β' M' → Gens E' (· ≤ 0) → Evo C.X M w M' w' → (∀ o b, ι o = some b → ι' o = some b) → Qx e.ex a' w') → c.wpIn (Fx ro) n P Qx a w := by
  intro c
  induction c with
  | skip => intro Q E hq a w ι β M Qx h hg hK; exact wpIn_skip (hK .normal _ _ _ _ _ _ hq h hg (Evo.refl _ _) (fun _ _ h => h))
  | ret => intro Q E hq a w ι β M Qx h hg hK; exact wpIn_ret (hK .ret _ _ _ _ _ _ hq h hg (Evo.refl _ _) (fun _ _ h => h))
  | exit id => intro Q E hq a w ι β M Qx h hg hK; exact wpIn_exit (hK (.exit id) _ _ _ _ _ _ hq h hg (Evo.refl _ _) (fun _ _ h => h))
  | seq x y ihx ihy =>
    intro Q E hq a w ι β M Qx h hg hK
    refine wpIn_seq (ihx _ E hq a w ι β M _ h hg fun e E' a' w' ι' β' M' hq' s g ev i => ?_)
    cases e with
    | normal => exact ihy Q E' hq' a' w' ι' β' M' Qx s g fun e E2 a2 w2 ι2 β2 M2 hq2 s2 g2 ev2 i2 => hK e E2 a2 w2 ι2 β2 M2 hq2 s2 g2 (ev.trans ev2) (fun o b h => i2 _ _ (i _ _ h))
    | exit id => exact hK (.exit id) _ _ _ _ _ _ hq' s g ev i
    | ret => exact hK .ret _ _ _ _ _ _ hq' s g ev i
  | cond c x y ihx ihy =>
    intro Q E hq a w ι β M Qx h hg hK
    have key : ∀ b : Bool, a.eval c = .bool b → (if b = true then cwp C x Q E else cwp C y Q E) → (Code.cond c x y).wpIn (Fx ro) n P Qx a w := by
      intro b hb hq'
      cases b with
      | true => exact wpIn_cond_true hb (ihx Q E (by simpa using hq') a w ι β M Qx h hg hK)
      | false => exact wpIn_cond_false hb (ihy Q E (by simpa using hq') a w ι β M Qx h hg hK)
    simp only [cwp, condW] at hq
    split at hq
    · rename_i t
      have hh := h.hold t
      split at hq
      · rename_i b hE
        rw [hE] at hh
        have hr : Rd w ι M (valOf a t) (.bool b) := hh
        refine key b ?_ hq
        show valOf a t = _
        generalize valOf a t = u at hr
        cases hr; rfl
      · rename_i hE
        rw [hE] at hh
        have hr : Rd w ι M (valOf a t) .anyb := hh
        have hb : ∃ b, valOf a t = .bool b := by
          generalize valOf a t = u at hr
          cases hr with
          | anyb b => exact ⟨b, rfl⟩
        obtain ⟨b, hb⟩ := hb
        refine key b hb ?_
        cases b
        · exact hq.2
        · exact hq.1
      · exact hq.elim
    · exact key _ rfl hq
    · exact hq.elim
  | block id c ih =>
    intro Q E hq a w ι β M Qx h hg hK
    refine wpIn_block (ih _ E hq a w ι β M _ h hg fun e E' a' w' ι' β' M' hq' s g ev i => ?_)
    cases e with
    | normal => exact hK .normal _ _ _ _ _ _ hq' s g ev i
    | exit id' =>
      simp only at hq'
      show (Exit.inBlock id Qx) (.exit id') a' w'
      unfold Exit.inBlock
      split at hq'
      · rename_i he
        have : Qx .normal a' w' := hK .normal _ _ _ _ _ _ hq' s g ev i
        simpa [he] using this
      · rename_i he
        have : Qx (.exit id') a' w' := hK (.exit id') _ _ _ _ _ _ hq' s g ev i
        simpa [he] using this
    | ret => exact hK .ret _ _ _ _ _ _ hq' s g ev i
  | loop c ih =>
    intro Q E hq a w ι β M Qx h hg hK
    obtain ⟨I, n0, h0, hround⟩ := hq
    refine wpIn_loop_ghost (fun n a' w' => ∃ E' ι' β' M', I E' n ∧ Sim C E' a' w' ι' β' M' ∧ Gens E' (· ≤ 0) ∧ Evo C.X M w M' w' ∧ ∀ o b, ι o = some b → ι' o = some b) n0 ⟨E, ι, β, M, h0, h, hg, Evo.refl _ _, fun _ _ h => h⟩ ?_
    rintro n a1 w1 ⟨E1, ι1, β1, M1, hI, s1, g1, ev1, i1⟩
    refine ih _ E1 (hround E1 n hI) a1 w1 ι1 β1 M1 _ s1 g1 fun e E2 a2 w2 ι2 β2 M2 hq2 s2 g2 ev2 i2 => ?_
    cases e with
    | normal =>
      obtain ⟨n', hlt, hI'⟩ := hq2
      exact ⟨n', hlt, E2, ι2, β2, M2, hI', s2, g2, ev1.trans ev2, fun o b h => i2 _ _ (i1 _ _ h)⟩
    | exit id => exact hK (.exit id) _ _ _ _ _ _ hq2 s2 g2 (ev1.trans ev2) (fun o b h => i2 _ _ (i1 _ _ h))
    | ret => exact hK .ret _ _ _ _ _ _ hq2 s2 g2 (ev1.trans ev2) (fun o b h => i2 _ _ (i1 _ _ h))
  | region id ops draw =>
    intro Q E hq a w ι β M Qx h hg hK
    cases draw with
    | false =>
      obtain ⟨_, E1, hrun, hq1⟩ := Pe.Q.wp_run hq
      exact region_sound hC hrun h hg fun a' w' ι' β' M' s g e i => hK .normal _ a' w' ι' β' M' hq1 s g e i
    | true => exact draw_sound hm hC (K := fun E' => Q .normal E') hq h hg fun E' a' w' ι' β' M' hk s g e i => hK .normal E' a' w' ι' β' M' hk s g e i
  | rangeFunc => intro Q E hq; exact hq.elim
  | scope => intro Q E hq; exact hq.elim
  | label => intro Q E hq; exact hq.elim
  | goto => intro Q E hq; exact hq.elim
  | refuse => intro Q E hq; exact hq.elim
noncomputable def resQ1 (C : Ctx) : ResultVar → Q AD
  | .tmp t => data t
  | .cell s ty => .ask s fun
    | .box _ xs => if xs.length = (C.tt ty).size ∧ 0 < xs.length then
        (if (C.tt ty).k.agg = true then .ret (.many xs) else match xs with | [x] => .ret (.one x) | _ => .fail) else .fail
    | .v (.one (.ptr o sz i off)) => if 0 < (C.tt ty).size then (rdPl (C.tt ty).size (.obj o sz i off)).bind fun xs =>
        (if (C.tt ty).k.agg = true then .ret (.many xs) else match xs with | [x] => .ret (.one x) | _ => .fail) else .fail
    | _ => .fail
noncomputable def resQ (C : Ctx) : List ResultVar → Q (List AD)
  | [] => .ret []
  | x :: l => (resQ1 C x).bind fun a => (resQ C l).bind fun r => .ret (a :: r)
noncomputable def rvOf : List AD → RV
  | [a] => .a a
  | l => .tup l
noncomputable def startL : Nat → List AD → List (Nat × AV)
  | _, [] => []
  | k, x :: l => (k, .v x) :: startL (k + 1) l
theorem startL_at : ∀ (l : List AD) (k s : Nat), mk (startL k l) s = match l[s - k]? with | some x => if k ≤ s then .v x else .junk | none => .junk
  | [], k, s => by simp [startL, mk]
  | x :: l, k, s => by
    simp only [startL, mk_cons]
    by_cases h : s = k
    · subst h; simp
    · rw [if_neg h, startL_at l (k + 1) s]
      rcases Nat.lt_or_ge s k with h1 | h1
      · have h2 : ¬ k + 1 ≤ s := by omega
        have h3 : ¬ k ≤ s := by omega
        simp only [h2, h3, if_false]
        cases l[s - (k + 1)]? <;> cases (x :: l)[s - k]? <;> rfl
      · have h2 : s - k = (s - (k + 1)) + 1 := by omega
        have h3 : k + 1 ≤ s := by omega
        rw [h2, List.getElem?_cons_succ]
        simp only [h1, h3, if_true]
noncomputable def start (H : Hp) (nx : Nat) (ads : List AD) : Env := mk ((gs, .heap H nx) :: startL 0 ads)
theorem start_sim {w : World} {ι : Nat → Option Nat} {M : Nat → Prop} {H : Hp} {nx : Nat} {ads : List AD} {vals : Array Value} (hdf : C.dfs = []) (hsm : C.nt ≤ gs) (hl : vals.size = ads.length) (hn : ads.length ≤ C.nt)
    (hargs : ∀ (j : Nat) v a, vals[j]? = some v → ads[j]? = some a → RdA w ι M v a) (hh : HeapOk w ι M H nx) (hM : ∀ b, M b → b < w.heap.size) (hXM : ∀ b, C.X b → M b) (hXO : ∀ o x b, H o = some x → ι o = some b → ¬ C.X b) :
    Sim C (start H nx ads) { tmps := vals ++ Array.replicate (C.nt - vals.size) undef, defers := [] } w ι (fun _ => none) M := by
  have hgs : start H nx ads gs = .heap H nx := by simp [start, mk_cons]
  have hlv : live (start H nx ads) = H.get := by funext o; simp [live, hgs]
  refine ⟨by simp; omega, hdf.symm, hsm, ⟨H, nx, hgs, hh.new⟩, by rw [hlv]; exact hh.objs, by rw [hlv]; exact hh.inj, (fun s s' b h => by cases h), (fun o x s b _ _ h => by cases h), by rw [hlv]; exact hh.ctl, (fun s b h => by cases h), by rw [hlv]; exact hXO, (fun s b h => by cases h), fun b hb => hM b (hXM b hb), hXM, hM, fun s => ?_⟩
  by_cases hs : s = gs
  · subst hs; rw [hgs]; rfl
  · have : start H nx ads s = match ads[s]? with | some x => .v x | none => .junk := by
      unfold start
      rw [mk_cons, if_neg hs, startL_at]
      simp
    rw [this]
    cases hx : ads[s]? with
    | none => trivial
    | some x =>
      have hlt : s < vals.size := by rw [hl]; exact (List.getElem?_eq_some_iff.1 hx).1
      show RdA w ι M _ x
      refine hargs s _ x ?_ hx
      unfold valOf
      rw [Array.getD_eq_getD_getElem?, Array.getElem?_append_left hlt, Array.getElem?_eq_getElem hlt]
      rfl
theorem start_gens (H : Hp) (nx : Nat) (ads : List AD) : Gens (start H nx ads) (· ≤ 0) := fun s => by
  unfold start
  rw [mk_cons]
  split
  · trivial
  · rw [startL_at]
    split
    · split <;> trivial
    · trivial
noncomputable def rvOne (a : Act) : ResultVar → Sem Value
  | .tmp t => pure (a.tmps.getD t undef)
  | .cell s t => do loadVar t (← asAddr (a.tmps.getD s undef))
theorem res1_sound {E E1 : Env} {a : Act} {w : World} {ι β : Nat → Option Nat} {M : Nat → Prop} {x : ResultVar} {r : AD} (hC : C.Ok P) (h : Sim C E a w ι β M) (hq : (resQ1 C x).run E = some (r, E1)) :
    ∃ β1 M1 v, Sim C E1 a w ι β1 M1 ∧ Evo C.X M w M1 w ∧ RdA w ι M1 v r ∧ (rvOne a x).run P w = .ok v w := by
  cases x with
  | tmp t =>
    obtain ⟨β1, M1, s1, e1, r1⟩ := data_sound h hq
    exact ⟨β1, M1, _, s1, e1, r1, rfl⟩
  | cell s t =>
    simp only [resQ1, Q.run] at hq
    have hh := h.hold s
    cases hE : E s with
    | box g xs =>
      rw [hE] at hq hh
      obtain ⟨b, cs, T, h1, h2, h3⟩ := hh
      simp only at hq
      split at hq
      · rename_i hl
        obtain ⟨hl, hpos⟩ := hl
        have ht : TyOk P t (C.tt t) := by
          rcases hC.tt t with ht | ht
          · rw [ht] at hl
            have : xs.length = 0 := hl
            omega
          · exact ht
        have hsub : sub xs 0 (C.tt t).size = some xs := by
          unfold sub
          rw [if_pos (by omega), List.drop_zero, List.take_of_length_le (by omega)]
        have hcell : Cells w ι M ⟨b, 0, none⟩ xs := by
          have := h3.cells (i := 0) (r := xs) rfl hsub
          simpa using this
        obtain ⟨r1, r2⟩ := run_loadAt ht hcell hl
        have h2' : a.tmps.getD s undef = .pointer (some ⟨b, 0, none⟩) := h2
        split at hq
        · rename_i hag
          obtain ⟨rfl, rfl⟩ := ret_run hq
          obtain ⟨v, hv, hrd⟩ := r1 hag
          refine ⟨β, M, v, h, Evo.refl _ _, hrd, ?_⟩
          simp only [Instr.loadAt, Instr.sureAddr, Sem.run_bind, Sem.run_pure, Result.andThen_ok] at hv
          simp only [rvOne, h2', asAddr, Sem.run_bind, Sem.run_pure, Result.andThen_ok]
          exact hv
        · rename_i hag
          split at hq
          · rename_i x
            obtain ⟨rfl, rfl⟩ := ret_run hq
            obtain ⟨v, hv, hrd⟩ := r2 (by simpa using hag) x rfl
            refine ⟨β, M, v, h, Evo.refl _ _, hrd, ?_⟩
            simp only [Instr.loadAt, Instr.sureAddr, Sem.run_bind, Sem.run_pure, Result.andThen_ok] at hv
            simp only [rvOne, h2', asAddr, Sem.run_bind, Sem.run_pure, Result.andThen_ok]
            exact hv
          · cases hq
      · cases hq
    | v y =>
      rw [hE] at hq hh
      split at hq
      · rename_i e1; cases e1
      · rename_i o sz i off e1
        injection e1 with e1
        subst e1
        split at hq
        · rename_i hpos
          have ht : TyOk P t (C.tt t) := by
            rcases hC.tt t with ht | ht
            · rw [ht] at hpos; exact absurd hpos (Nat.lt_irrefl 0)
            · exact ht
          obtain ⟨cs, E3, h2, hq3⟩ := Pe.Q.run_bind_some hq
          have hp : PlHolds w ι β M E (valOf a s) (.obj o sz i off) := by
            have hr : Rd w ι M (valOf a s) (.ptr o sz i off) := hh
            show ∃ b, ι o = some b ∧ 0 < sz ∧ valOf a s = _
            generalize valOf a s = u at hr
            cases hr with
            | ptr _ _ _ _ b hb hz => exact ⟨b, hb, hz, rfl⟩
          obtain ⟨rfl, hl, ad, hv, hcell⟩ := rdPl_sound h hp h2
          obtain ⟨r1, r2⟩ := run_loadAt ht hcell hl
          have h2' : a.tmps.getD s undef = .pointer (some ad) := hv
          split at hq3
          · rename_i hag
            obtain ⟨rfl, rfl⟩ := ret_run hq3
            obtain ⟨v, hv, hrd⟩ := r1 hag
            refine ⟨β, M, v, h, Evo.refl _ _, hrd, ?_⟩
            simp only [Instr.loadAt, Instr.sureAddr, Sem.run_bind, Sem.run_pure, Result.andThen_ok] at hv
            simp only [rvOne, h2', asAddr, Sem.run_bind, Sem.run_pure, Result.andThen_ok]
            exact hv
          · rename_i hag
            split at hq3
            · rename_i x
              obtain ⟨rfl, rfl⟩ := ret_run hq3
              obtain ⟨v, hv, hrd⟩ := r2 (by simpa using hag) x rfl
              refine ⟨β, M, v, h, Evo.refl _ _, hrd, ?_⟩
              simp only [Instr.loadAt, Instr.sureAddr, Sem.run_bind, Sem.run_pure, Result.andThen_ok] at hv
              simp only [rvOne, h2', asAddr, Sem.run_bind, Sem.run_pure, Result.andThen_ok]
              exact hv
            · cases hq3
        · cases hq
      · cases hq
    | _ => rw [hE] at hq; cases hq
theorem res_sound {a : Act} {w : World} {ι : Nat → Option Nat} (hC : C.Ok P) : ∀ (l : List ResultVar) (E E1 : Env) (β : Nat → Option Nat) (M : Nat → Prop) (r : List AD), Sim C E a w ι β M → (resQ C l).run E = some (r, E1) →
    ∃ β1 M1 vs, Sim C E1 a w ι β1 M1 ∧ Evo C.X M w M1 w ∧ vs.length = r.length ∧ r.length = l.length ∧ (∀ (j : Nat) v x, vs[j]? = some v → r[j]? = some x → RdA w ι M1 v x) ∧
      (l.mapM (rvOne a)).run P w = .ok vs w
  | [], E, E1, β, M, r, h, hq => by
    obtain ⟨rfl, rfl⟩ := ret_run hq
    exact ⟨β, M, [], h, Evo.refl _ _, rfl, rfl, (fun j v x hv => by simp at hv), rfl⟩
  | x :: l, E, E1, β, M, r, h, hq => by
    simp only [resQ] at hq
    obtain ⟨y, E2, h1, hq2⟩ := Pe.Q.run_bind_some hq
    obtain ⟨ys, E3, h2, hq3⟩ := Pe.Q.run_bind_some hq2
    obtain ⟨rfl, rfl⟩ := ret_run hq3
    obtain ⟨β1, M1, v, s1, e1, r1, hv⟩ := res1_sound hC h h1
    obtain ⟨β2, M2, vs, s2, e2, hl, hl2, r2, hvs⟩ := res_sound hC l E2 E1 β1 M1 ys s1 h2
    refine ⟨β2, M2, v :: vs, s2, e1.trans e2, by simp [hl], by simp [hl2], fun j v' x' hv' hx' => ?_, ?_⟩
    · cases j with
      | zero => simp at hv' hx'; subst hv'; subst hx'; exact r1.mono e2 (fun _ _ h => h)
      | succ j => simp at hv' hx'; exact r2 j v' x' hv' hx'
    · simp only [List.mapM_cons, Sem.run_bind, hv, Result.andThen_ok, hvs, Sem.run_pure]
theorem results_sound {fn : Func} {E E1 : Env} {a : Act} {w : World} {ι β : Nat → Option Nat} {M : Nat → Prop} {r : List AD} (hC : C.Ok P) (h : Sim C E a w ι β M) (hq : (resQ C fn.results.toList).run E = some (r, E1)) :
    ∃ β1 M1 v, Sim C E1 a w ι β1 M1 ∧ Evo C.X M w M1 w ∧ RdV w ι M1 v (rvOf r) ∧ (results fn a.tmps).run P w = .ok v w := by
  obtain ⟨β1, M1, vs, s1, e1, hl, _, hr, hrun⟩ := res_sound hC _ _ _ _ _ _ h hq
  refine ⟨β1, M1, if h : vs.toArray.size = 1 then vs.toArray[0] else .tuple vs.toArray, s1, e1, ?_, ?_⟩
  · match vs, r, hl with
    | [], [], _ => exact ⟨_, rfl, rfl, fun j v x hv => by simp at hv⟩
    | [v], [x], _ => exact hr 0 v x rfl rfl
    | v :: v' :: vs, x :: x' :: r, hl =>
      refine ⟨(v :: v' :: vs).toArray, by simp, by simpa using hl, fun j u y hu hy => hr j u y (by simpa using hu) hy⟩
  · have hfun : results fn a.tmps = (do let vs ← fn.results.mapM (rvOne a); pure (if h : vs.size = 1 then vs[0] else .tuple vs)) := by
      unfold results
      congr 1
    rw [hfun, Array.mapM_eq_mapM_toList]
    simp only [Sem.run_bind, Sem.run_map, hrun, Result.andThen_ok, Sem.run_pure]
theorem fn_pure (hm : P.follows .mixedOrders = true) {f : Nat} {fn : Func} {body : Code} (hf : P.funcs[f]? = some fn) (hb : fn.body = some body) (Cx : (Nat → Prop) → Ctx) (hC : ∀ X, (Cx X).Ok P) (hX : ∀ X, (Cx X).X = X) (hnt : ∀ X, (Cx X).nt = fn.ntmps) (hsm : fn.ntmps ≤ gs) (hdf : ∀ X, (Cx X).dfs = [])
    (F : List AD → Option RV) (hF : ∀ ads r, F ads = some r → ads.length ≤ fn.ntmps ∧ ∀ X nx, cwp (Cx X) body (fun e E' => (e = .normal ∨ e = .ret) ∧ (resQ (Cx X) fn.results.toList).wp (fun l E'' => rvOf l = r ∧ E'' gs = .heap Hp.nil nx) E') (start Hp.nil nx ads)) : FnPure P f F := by
  intro ads r hr w ι M vals hM hnx hl hargs
  obtain ⟨hlen, hcw⟩ := hF ads r hr
  obtain ⟨nx, hnx⟩ := hnx
  have hok : HeapOk w ι M Hp.nil nx := ⟨hnx, (fun o ob h => by cases h), (fun o o' x x' b h => by cases h), (fun o x b h => by cases h)⟩
  have hs := start_sim (C := Cx M) (H := Hp.nil) (nx := nx) (hdf M) (by rw [hnt]; exact hsm) hl (by rw [hnt]; exact hlen) hargs hok hM (by rw [hX]; exact fun b h => h) (fun o x b h => by cases h)
  refine callsIn_fx.1 (callsIn_of_wp (F := Fx none) (n := 0) hf hb trivial ?_ rfl)
  rw [hnt] at hs
  refine code_sound hm (hC M) body _ _ (hcw M nx) _ w ι _ M _ hs (start_gens _ _ _) ?_
  rintro e E' a' w' ι' β' M' ⟨he, hres⟩ s g ev hi
  obtain ⟨l, E'', hrun, hrv, hgs⟩ := Pe.Q.wp_run hres
  obtain ⟨β1, M1, v, s1, e1, r1, hrs⟩ := results_sound (P := P) (fn := fn) (hC M) s hrun
  subst hrv
  have hι : ι' = ι := by
    obtain ⟨H2, nx2, h1, h2⟩ := s1.hp
    rw [hgs] at h1
    injection h1 with _ h1
    subst h1
    funext o
    cases ho : ι o with
    | some b => exact hi o b ho
    | none => exact (h2 o).1 ((hnx o).2 ho)
  subst hι
  have hpost : a'.defers = [] ∧ ∃ v, (results fn a'.tmps).run P w' = .ok v w' ∧ ∃ u, Ending.returned v = .returned u ∧ RdV w' ι' M u (rvOf l) ∧ Ext0 w w' := by
    refine ⟨s.defs.trans (hdf _), v, hrs, v, rfl, ?_, ?_⟩
    · refine RdV.mono (X := fun _ => False) r1 ⟨rfl, rfl, rfl, Nat.le_refl _, fun _ _ _ => rfl, fun b _ hb => s1.xM b (by rw [hX]; exact hb), fun _ _ _ => rfl, .refl _⟩ (fun _ _ h => h)
    · refine ⟨ev.os, ev.tape, ev.output, ev.size, fun b hb => ?_⟩
      by_cases hMb : M b
      · exact ev.keep b hb (by rw [hX]; exact hMb)
      · exact ev.same b hb hMb
  rcases he with rfl | rfl
  · exact hpost
  · exact hpost
theorem fn_new (hm : P.follows .mixedOrders = true) {f : Nat} {fn : Func} {body : Code} (hf : P.funcs[f]? = some fn) (hb : fn.body = some body) (Cx : (Nat → Prop) → Ctx) (hC : ∀ X, (Cx X).Ok P) (hX : ∀ X, (Cx X).X = X) (hnt : ∀ X, (Cx X).nt = fn.ntmps) (hsm : fn.ntmps ≤ gs) (hdf : ∀ X, (Cx X).dfs = []) {t : Nat} (hrs : fn.results = #[.tmp t])
    (F : List AD → Option (Nat × Nat × List (List D))) (hF : ∀ ads r, F ads = some r → ads.length ≤ fn.ntmps ∧ ∀ X nx, cwp (Cx X) body (fun e E' => (e = .normal ∨ e = .ret) ∧ (∃ g, E' t = .own g r.1 r.2.1 r.2.2) ∧ E' gs = .heap Hp.nil nx) (start Hp.nil nx ads)) : FnNew P f F := by
  intro ads r hr w ι M vals hM hnx hl hargs
  obtain ⟨hlen, hcw⟩ := hF ads r hr
  obtain ⟨nx, hnx⟩ := hnx
  have hok : HeapOk w ι M Hp.nil nx := ⟨hnx, (fun o ob h => by cases h), (fun o o' x x' b h => by cases h), (fun o x b h => by cases h)⟩
  have hs := start_sim (C := Cx M) (H := Hp.nil) (nx := nx) (hdf M) (by rw [hnt]; exact hsm) hl (by rw [hnt]; exact hlen) hargs hok hM (by rw [hX]; exact fun b h => h) (fun o x b h => by cases h)
  refine callsIn_fx.1 (callsIn_of_wp (F := Fx none) (n := 0) hf hb trivial ?_ rfl)
  rw [hnt] at hs
  refine code_sound hm (hC M) body _ _ (hcw M nx) _ w ι _ M _ hs (start_gens _ _ _) ?_
  rintro e E' a' w' ι' β' M' ⟨he, ⟨g, hown⟩, hgs⟩ s gg ev hi
  have hι : ι' = ι := by
    obtain ⟨H2, nx2, h1, h2⟩ := s.hp
    rw [hgs] at h1
    injection h1 with _ h1
    subst h1
    funext o
    cases ho : ι o with
    | some b => exact hi o b ho
    | none => exact (h2 o).1 ((hnx o).2 ho)
  subst hι
  have hex : Ext0 w w' := ⟨ev.os, ev.tape, ev.output, ev.size, fun b hb => by
    by_cases hMb : M b
    · exact ev.keep b hb (by rw [hX]; exact hMb)
    · exact ev.same b hb hMb⟩
  have hhold := s.hold t
  rw [hown] at hhold
  obtain ⟨hpos, hhold⟩ := hhold
  have hrun : (results fn a'.tmps).run P w' = .ok (valOf a' t) w' := by
    have hfun : results fn a'.tmps = (do let vs ← fn.results.mapM (rvOne a'); pure (if h : vs.size = 1 then vs[0] else .tuple vs)) := by
      unfold results
      congr 1
    rw [hfun, hrs, Array.mapM_eq_mapM_toList]
    simp [rvOne, valOf]
  have hpost : a'.defers = [] ∧ ∃ v, (results fn a'.tmps).run P w' = .ok v w' ∧ ∃ u, Ending.returned v = .returned u ∧ Ext0 w w' ∧ 0 < r.2.1 ∧ ((u = .slice none 0 0 ∧ r.2.2 = []) ∨
      ∃ b cs cap, w.heap.size ≤ b ∧ u = .slice (some ⟨b, 0, none⟩) r.2.2.length cap ∧ r.2.2.length ≤ cap ∧ cap ≤ maxLen ∧ cs.size = cap * r.2.1 ∧ Blk w' ι' (fun x => M x ∨ x = b) b r.1 cs r.2.1 r.2.2) := by
    refine ⟨s.defs.trans (hdf _), _, hrun, _, rfl, hex, hpos, ?_⟩
    rcases hhold with ⟨h1, h2, _⟩ | ⟨b, cs, cap, hb, h2, h3, h4, h5, h6⟩
    · exact .inl ⟨h1, h2⟩
    · have hMb := s.ctlB t b hb
      refine .inr ⟨b, cs, cap, ?_, h2, h3, h4, h5, ?_⟩
      · refine Nat.le_of_not_lt fun hlt => ?_
        exact s.xB t b hb (by rw [hX]; exact ev.back b hlt hMb)
      · refine h6.mono (X := fun _ => False) (M' := fun x => M x ∨ x = b) ⟨rfl, rfl, rfl, Nat.le_refl _, fun _ _ _ => rfl, fun x _ hx => ?_, fun _ _ _ => rfl, .refl _⟩ (fun _ _ h => h) rfl
        rcases hx with hx | rfl
        · exact s.xM x (by rw [hX]; exact hx)
        · exact hMb
  rcases he with rfl | rfl
  · exact hpost
  · exact hpost
theorem fn_eff (hm : P.follows .mixedOrders = true) {f : Nat} {fn : Func} {body : Code} (hf : P.funcs[f]? = some fn) (hb : fn.body = some body) (Cx : (Nat → Prop) → Ctx) (hC : ∀ X, (Cx X).Ok P) (hX : ∀ X, (Cx X).X = X) (hnt : ∀ X, (Cx X).nt = fn.ntmps) (hsm : fn.ntmps ≤ gs) (hdf : ∀ X, (Cx X).dfs = [])
    (F : List AD → Hp → Nat → Option (RV × Hp × Nat)) (hF : ∀ ads H nx r H' nx', F ads H nx = some (r, H', nx') → ads.length ≤ fn.ntmps ∧ ∀ X, cwp (Cx X) body (fun e E' => (e = .normal ∨ e = .ret) ∧ (resQ (Cx X) fn.results.toList).wp (fun l E'' => rvOf l = r ∧ E'' gs = .heap H' nx') E') (start H nx ads)) : FnEff P f F := by
  intro ads H nx r H' nx' hr w ι M vals hM hok hl hargs
  obtain ⟨hlen, hcw⟩ := hF ads H nx r H' nx' hr
  let X : Nat → Prop := fun b => M b ∧ ∀ o x, H o = some x → ι o ≠ some b
  have hs := start_sim (C := Cx X) (H := H) (nx := nx) (hdf X) (by rw [hnt]; exact hsm) hl (by rw [hnt]; exact hlen) hargs hok hM (by rw [hX]; exact fun b h => h.1) (by rw [hX]; exact fun o x b h1 h2 h3 => h3.2 o x h1 h2)
  refine callsIn_fx.1 (callsIn_of_wp (F := Fx none) (n := 0) hf hb trivial ?_ rfl)
  rw [hnt] at hs
  refine code_sound hm (hC X) body _ _ (hcw X) _ w ι _ M _ hs (start_gens _ _ _) ?_
  rintro e E' a' w' ι' β' M' ⟨he, hres⟩ s g ev hi
  obtain ⟨l, E'', hrun, hrv, hgs⟩ := Pe.Q.wp_run hres
  obtain ⟨β1, M1, v, s1, e1, r1, hrs⟩ := results_sound (P := P) (fn := fn) (hC X) s hrun
  subst hrv
  have hlv : ∀ o, live E'' o = H' o := fun o => by simp [live, hgs]
  have ev2 := ev.trans e1
  rw [hX] at ev2
  have hpost : a'.defers = [] ∧ ∃ v, (results fn a'.tmps).run P w' = .ok v w' ∧ ∃ u ι' M', Ending.returned v = .returned u ∧ RdV w' ι' M' u (rvOf l) ∧ HeapOk w' ι' M' H' nx' ∧ (∀ o b, ι o = some b → ι' o = some b) ∧ Evo (fun _ => False) (fun b => ∃ o x, H o = some x ∧ ι o = some b) w (fun b => ∃ o x, H' o = some x ∧ ι' o = some b) w' ∧
      (∀ b, M b → (∀ o x, H o = some x → ι o ≠ some b) → M' b) ∧ (∀ b, b < w.heap.size → M' b → M b) ∧ (∀ b, M' b → b < w'.heap.size) := by
    refine ⟨s.defs.trans (hdf _), v, hrs, v, ι', M1, rfl, r1, ⟨?_, fun o ob h => s1.objs o ob (by rw [hlv]; exact h), fun o o' x x' b h1 h2 => s1.injO o o' x x' b (by rw [hlv]; exact h1) (by rw [hlv]; exact h2), fun o x b h => s1.ctlO o x b (by rw [hlv]; exact h)⟩, hi, ?_, fun b hb hn => s1.xM b (by rw [hX]; exact ⟨hb, hn⟩), ev2.back, s1.lt⟩
    · obtain ⟨H2, nx2, h1, h2⟩ := s1.hp
      rw [hgs] at h1
      injection h1 with _ h1
      subst h1
      exact h2
    · refine ⟨ev2.os, ev2.tape, ev2.output, ev2.size, fun b hb hn => ?_, fun b hb h => ?_, fun b _ h => h.elim, ev2.shape⟩
      · by_cases hMb : M b
        · exact ev2.keep b hb ⟨hMb, fun o x h1 h2 => hn ⟨o, x, h1, h2⟩⟩
        · exact ev2.same b hb hMb
      · obtain ⟨o, x, h1, h2⟩ := h
        have hl' : live E'' o = some x := by rw [hlv]; exact h1
        have hMb := ev2.back b hb (s1.ctlO o x b hl' h2)
        have hnX := s1.xO o x b hl' h2
        rw [hX] at hnX
        apply Classical.byContradiction
        intro hn
        exact hnX ⟨hMb, fun o x h1 h2 => hn ⟨o, x, h1, h2⟩⟩
  rcases he with rfl | rfl
  · exact hpost
  · exact hpost
noncomputable def ofList : List (Nat × FnS) → Nat → FnS
  | [], _ => .none
  | (g, F) :: l, f => if f = g then F else ofList l f
noncomputable def SOk (P : Program) (f : Nat) : FnS → Prop
  | .none => True
  | .pure F => FnPure P f F
  | .eff F => FnEff P f F
  | .new F => FnNew P f F
  | .ext F => FnExt P f F
  | .rd F => FnRd P f F
noncomputable def cok (P : Program) (f : Nat) : FnS → Bool
  | .ext _ => true
  | _ => calleeOk P f
noncomputable def AllOk (P : Program) : List (Nat × FnS) → Prop
  | [] => True
  | (f, F) :: l => SOk P f F ∧ cok P f F = true ∧ AllOk P l
theorem ofList_ok {l : List (Nat × FnS)} (h : AllOk P l) : ∀ f, ofList l f ≠ .none → SOk P f (ofList l f) ∧ cok P f (ofList l f) = true := by
  induction l with
  | nil => intro f hf; exact absurd rfl hf
  | cons x l ih =>
    obtain ⟨g, G⟩ := x
    intro f hf
    simp only [ofList] at hf ⊢
    split at hf
    · rename_i e
      subst e
      rw [if_pos rfl]
      exact ⟨h.1, h.2.1⟩
    · rename_i e
      rw [if_neg e]
      exact ih h.2.2 f hf
theorem ok_of {tt : Nat → TyI} {l : List (Nat × FnS)} {nt : Nat} {keep : Nat → List Nat} {X : Nat → Prop} {pub eqs pst : Nat → Bool} (ht : ∀ t, tt t = dflt ∨ TyOk P t (tt t)) (h : AllOk P l) (he : ∀ t, eqs t = true → EqOk P t (tt t).eqn) :
    Ctx.Ok { nt := nt, tt := tt, fns := ofList l, keep := keep, X := X, pub := pub, eqs := eqs, pst := pst } P :=
  ⟨ht, fun f F hF => by
    have hF' : ofList l f = .pure F := hF
    have := ofList_ok h f (by rw [hF']; intro h; cases h)
    rw [hF'] at this; exact this,
   fun f F hF => by
    have hF' : ofList l f = .eff F := hF
    have := ofList_ok h f (by rw [hF']; intro h; cases h)
    rw [hF'] at this; exact this, he, fun f F hF => by
    have hF' : ofList l f = .new F := hF
    have := ofList_ok h f (by rw [hF']; intro h; cases h)
    rw [hF'] at this; exact this, fun f F hF => by
    have hF' : ofList l f = .ext F := hF
    have := ofList_ok h f (by rw [hF']; intro h; cases h)
    rw [hF'] at this; exact this.1, fun f F hF => by
    have hF' : ofList l f = .rd F := hF
    have := ofList_ok h f (by rw [hF']; intro h; cases h)
    rw [hF'] at this; exact this, fun _ _ _ _ _ _ _ h => (by cases h), fun _ _ h => (by cases h)⟩
theorem noEqs (P : Program) {n : Nat → Nat} : ∀ t, (fun _ => false : Nat → Bool) t = true → EqOk P t (n t) := fun _ h => by cases h
end
end Go.Proofs.YtmhinddneefmbaaGreat.Pe
namespace Go.Proofs.YtmhinddneefmbaaGreat.Pe
open Go
namespace Tr
def map {α γ : Type} (g : α → Option γ) : Tr α → Tr γ
  | .leaf => .leaf
  | .node v l r => .node (v.bind g) (l.map g) (r.map g)
theorem get_map {α γ : Type} (g : α → Option γ) : ∀ (t : Tr α) (n : Nat), (t.map g).get n = (t.get n).bind g
  | .leaf, n => rfl
  | .node v l r, 0 => rfl
  | .node v l r, n + 1 => by
    simp only [map, get_succ]
    split
    · exact get_map g l _
    · exact get_map g r _
end Tr
noncomputable def Hp.flat : Hp → Option (Tr PObj)
  | .tr t => some t
  | .upd H o x => if o < 1000000000 then H.flat.map (fun t => t.set x 30 o) else none
theorem Hp.flat_get : ∀ (H : Hp) (t : Tr PObj), H.flat = some t → ∀ o, H o = t.get o
  | .tr t, t', h, o => by simp only [flat, Option.some.injEq] at h; subst h; rfl
  | .upd H o' x, t', h, o => by
    simp only [flat] at h
    split at h
    · rename_i ho
      cases hf : H.flat with
      | none => rw [hf] at h; cases h
      | some t =>
        rw [hf] at h
        simp only [Option.map_some, Option.some.injEq] at h
        subst h
        rw [Tr.get_set _ _ _ _ (by omega), ← Hp.flat_get H t hf o]
        rfl
    · cases h
structure St where
  t : Tr AV
  H : Hp
  nx : Nat
noncomputable def St.env (s : St) : Env := fun i => Bool.rec (motive := fun _ => AV) (Option.rec (motive := fun _ => AV) .junk (fun v => v) (s.t.get i)) (.heap s.H s.nx) (Nat.beq i 1000000)
def AV.plain : AV → Bool
  | .v _ | .tup _ | .imm _ _ _ | .junk => true
  | _ => false
noncomputable def AV.put (s : St) (v : AV) : Option St := match v with
  | .heap H nx => some ⟨s.t, H, nx⟩
  | _ => none
noncomputable def St.set (s : St) (i : Nat) (v : AV) : Option St :=
  Bool.rec (motive := fun _ => Option St) (Bool.rec (motive := fun _ => Option St) none (some ⟨s.t.set (some v) 30 i, s.H, s.nx⟩) (Nat.blt i 1000000)) (v.put s) (Nat.beq i 1000000)
theorem beq_gs_ne {i : Nat} (h : i ≠ gs) : Nat.beq i 1000000 = false := by
  cases hb : Nat.beq i 1000000 with
  | true => exact absurd (Nat.eq_of_beq_eq_true hb) h
  | false => rfl
theorem St.env_gs (s : St) : s.env gs = .heap s.H s.nx := rfl
theorem St.env_ne (s : St) {i : Nat} (h : i ≠ gs) : s.env i = (s.t.get i).getD .junk := by
  unfold St.env
  rw [beq_gs_ne h]
  cases s.t.get i <;> rfl
theorem St.env_H (s : St) (H : Hp) (nx : Nat) : (⟨s.t, H, nx⟩ : St).env = upd s.env gs (.heap H nx) := by
  funext i
  by_cases hi : i = gs
  · subst hi; rw [St.env_gs, upd_same]
  · rw [St.env_ne _ hi, upd_ne _ _ hi, St.env_ne _ hi]
theorem St.set_env {s s' : St} {i : Nat} {v : AV} (h : s.set i v = some s') : s'.env = upd s.env i v := by
  unfold St.set at h
  by_cases hi : i = gs
  · subst hi
    have h' : v.put s = some s' := h
    unfold AV.put at h'
    split at h'
    · injection h' with h'; subst h'
      exact St.env_H s _ _
    · cases h'
  · rw [beq_gs_ne hi] at h
    cases hb : Nat.blt i 1000000 with
    | false => rw [hb] at h; cases h
    | true =>
      rw [hb] at h
      have hlt : i < 1000000 := Nat.le_of_ble_eq_true hb
      injection h with h; subst h
      funext j
      by_cases hj : j = gs
      · subst hj; rw [upd_ne _ _ (fun e => hi e.symm), St.env_gs, St.env_gs]
      · rw [St.env_ne _ hj]
        show ((s.t.set (some v) 30 i).get j).getD .junk = _
        rw [Tr.get_set _ _ _ _ (by omega)]
        by_cases hij : j = i
        · subst hij; rw [if_pos rfl, upd_same]; rfl
        · rw [if_neg hij, upd_ne _ _ hij, St.env_ne _ hj]
namespace Q
noncomputable def runS {α : Type} (q : Q α) : St → List Nat → List Nat → Option (α × St × List Nat × List Nat) :=
  Q.rec (motive := fun _ => St → List Nat → List Nat → Option (α × St × List Nat × List Nat)) (fun a s r u => some (a, s, r, u)) (fun _ _ _ => none) (fun i _ ih s r u => ih (s.env i) s (i :: r) u)
    (fun i v _ ih s r u => Option.rec (motive := fun _ => Option (α × St × List Nat × List Nat)) none (fun s' => ih s' r (i :: u)) (s.set i v)) q
theorem runS_ret {α : Type} (a : α) (s : St) (r u : List Nat) : (Q.ret a).runS s r u = some (a, s, r, u) := rfl
theorem runS_set {α : Type} (i : Nat) (v : AV) (k : Q α) (s : St) (r u : List Nat) : (Q.set i v k).runS s r u = match s.set i v with
    | some s' => k.runS s' r (i :: u)
    | none => none := by
  show Option.rec (motive := fun _ => Option (α × St × List Nat × List Nat)) none (fun s' => k.runS s' r (i :: u)) (s.set i v) = _
  cases s.set i v <;> rfl
theorem runS_run {α : Type} {q : Q α} : ∀ {s s' : St} {r u r' u' : List Nat} {a : α}, q.runS s r u = some (a, s', r', u') → ∀ K : α → Env → List Nat → List Nat → Prop, K a s'.env r' u' → q.wpT K s.env r u := by
  induction q with
  | ret b =>
    intro s s' r u r' u' a h K hK
    simp only [runS_ret, Option.some.injEq, Prod.mk.injEq] at h
    obtain ⟨rfl, rfl, rfl, rfl⟩ := h
    exact hK
  | fail => intro s s' r u r' u' a h; cases h
  | ask i k ih => intro s s' r u r' u' a h K hK; exact ih _ h K hK
  | set i v k ih =>
    intro s s' r u r' u' a h K hK
    rw [runS_set] at h
    split at h
    · rename_i s1 hs
      have := ih h K hK
      rw [St.set_env hs] at this
      exact this
    · cases h
theorem runS_same {α : Type} {q : Q α} : ∀ {s s' : St} {r u r' u' : List Nat} {a : α}, q.runS s r u = some (a, s', r', u') → (∀ i ∈ u, i ∈ u') ∧ ∀ i, i ∉ u' → s'.env i = s.env i := by
  induction q with
  | ret b =>
    intro s s' r u r' u' a h
    simp only [runS_ret, Option.some.injEq, Prod.mk.injEq] at h
    obtain ⟨rfl, rfl, rfl, rfl⟩ := h
    exact ⟨fun _ h => h, fun _ _ => rfl⟩
  | fail => intro s s' r u r' u' a h; cases h
  | ask i k ih => intro s s' r u r' u' a h; exact ih _ h
  | set i v k ih =>
    intro s s' r u r' u' a h
    rw [runS_set] at h
    split at h
    · rename_i s1 hs
      obtain ⟨h1, h2⟩ := ih h
      refine ⟨fun j hj => h1 j (List.mem_cons_of_mem _ hj), fun j hj => ?_⟩
      rw [h2 j hj, St.set_env hs]
      unfold upd
      rw [if_neg]
      intro e; subst e
      exact hj (h1 _ List.mem_cons_self)
    · cases h
end Q
def Plain (s : St) : Prop := ∀ i, i = gs ∨ (s.env i).plain = true
theorem Plain.gens {s : St} (h : Plain s) : Gens s.env (· ≤ 0) := fun i => by
  rcases h i with rfl | h
  · exact trivial
  · cases hE : s.env i <;> rw [hE] at h <;> first | trivial | cases h
noncomputable def runOps (C : Ctx) (ops : Array Oper) : Nat → List Oper → St → List (List Nat × List Nat) → Option (St × List (List Nat × List Nat))
  | _, [], s, acc => some (s, acc.reverse)
  | k, o :: l, s, acc => match (grdQ C ops k o).runS s [] [] with
    | some (_, s', r, u) => if u.all (fun i => i == gs || (s'.env i).plain) then runOps C ops (k + 1) l s' ((r, u) :: acc) else none
    | none => none
theorem runOps_sound {C : Ctx} {ops : Array Oper} : ∀ {l : List Oper} {k : Nat} {s s' : St} {acc fp : List (List Nat × List Nat)}, runOps C ops k l s acc = some (s', fp) → Plain s →
    Plain s' ∧ (runFrom C ops k l).run s.env = some ((), s'.env) ∧ ∀ K : Env → List (List Nat × List Nat) → Prop, K s'.env fp → drawW C ops k l K s.env acc
  | [], k, s, s', acc, fp, h, hp => by
    simp only [runOps, Option.some.injEq, Prod.mk.injEq] at h
    obtain ⟨rfl, rfl⟩ := h
    exact ⟨hp, rfl, fun K hK => hK⟩
  | o :: l, k, s, s', acc, fp, h, hp => by
    simp only [runOps] at h
    split at h
    · rename_i a s1 r u hr
      split at h
      · rename_i hall
        have hp1 : Plain s1 := fun i => by
          by_cases hi : i ∈ u
          · have := List.all_eq_true.1 hall i hi
            simp only [Bool.or_eq_true, beq_iff_eq] at this
            exact this
          · rw [(Q.runS_same hr).2 i hi]; exact hp i
        obtain ⟨h1, h2, h3⟩ := runOps_sound h hp1
        refine ⟨h1, ?_, fun K hK => ?_⟩
        · obtain ⟨_, E', hrun, hE⟩ := Q.wpT_run (Q.runS_run hr (fun _ E' _ _ => E' = s1.env) rfl)
          simp only [runFrom]
          rw [Q.run_bind, hrun, hE]
          exact h2
        · exact Q.runS_run hr (fun _ E' r u => drawW C ops (k + 1) l K E' ((r, u) :: acc)) (h3 K hK)
      · cases h
    · cases h
noncomputable def St.flat (s : St) : Option St := s.H.flat.map fun t => { s with H := .tr t }
end Go.Proofs.YtmhinddneefmbaaGreat.Pe
