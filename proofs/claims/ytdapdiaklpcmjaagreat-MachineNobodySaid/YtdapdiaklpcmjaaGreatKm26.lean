/- A part of the proof of KzA. -/
import Derived.Test.YtdapdiaklpcmjaaGreatKm25
set_option linter.unusedSimpArgs false
set_option linter.unusedVariables false
set_option linter.unusedSectionVars false
namespace Go.Proofs.YtdapdiaklpcmjaaGreat.Pe
open Go
def RRel (r : Option Nat) (ro : Option Nat) (ι : Nat → Option Nat) : Prop := match r with
  | none => ro = none
  | some lp => ∃ l, ro = some l ∧ ι lp = some l
def CodeOk (P : Program) (F : Nat → Option Nat → Code → St → Option (Ex × St)) : Prop :=
  ∀ nt r c s ex s', F nt r c s = some (ex, s') → ∀ (C : Ctx) (a : Act) (w : World) (ι β : Nat → Option Nat) (M : Nat → Prop) (B : Nat) (Qx : Exit → Act → World → Prop) (n : Nat) (ro : Option Nat),
    C.nt = nt → RRel r ro ι → Sim C s.env a w ι β M → Plain s → B ≤ w.heap.size → Marks B C.dfs w M →
    (∀ C' a' w' ι' β' M', C'.nt = nt → C'.X = C.X → (r ≠ none → C'.dfs = C.dfs) → Sim C' s'.env a' w' ι' β' M' → Plain s' → Marks B C'.dfs w' M' → Evo C.X M w M' w' → (∀ o b, ι o = some b → ι' o = some b) → Qx ex.ex a' w') → c.wpIn (Fx ro) n P Qx a w
structure EvsOk (S : Sys) (P : Program) (e : Evs) : Prop where
  fn : ∀ f, (S.tab f).isSome = true → FnEff P f (e.fn f)
  yld : YldOk P e.yld
  code : CodeOk P e.code
section
variable {P : Program} {S : Sys} {C C' : Ctx} {E E1 : Env} {a : Act} {w w' : World} {ι ι' β : Nat → Option Nat} {M M' : Nat → Prop} {e : Evs} {s s' : St}
theorem callFunc_ok {f : Nat} (hok : calleeOk P f = true) (args : Array Value) (w : World) : (callFunc f args).run P w = .ok (.enter f args) w := by
  unfold calleeOk at hok
  cases hfn : P.funcs[f]? with
  | none => rw [hfn] at hok; cases hok
  | some fn =>
    rw [hfn] at hok
    simp only [Bool.and_eq_true, bne_iff_ne, ne_eq] at hok
    obtain ⟨b, hb⟩ := Option.isSome_iff_exists.1 hok.2
    simp [callFunc, hfn, hok.1, hb]
theorem putLoop_evo {X : Nat → Prop} {l : Nat} {r : Loop} (h : w.heap[l]? = some (.loop r)) (hM : M l) (hX : ¬ X l) (r' : Loop) : Evo X M w M (w.putObj l (.loop r')) :=
  ⟨rfl, rfl, rfl, by rw [World.putObj_size]; exact Nat.le_refl _, fun b _ hb => World.putObj_heap_other (fun e => hb (e ▸ hM)), fun _ _ h => h, fun b _ hb => World.putObj_heap_other (fun e => hX (e ▸ hb)), fun b cs T hb => by
    have hne : b ≠ l := fun e => by rw [e, h] at hb; cases hb
    exact ⟨cs, (World.putObj_heap_other hne).trans hb, rfl⟩⟩
theorem recAt_some {H : Hp} {lp nt : Nat} {env : Tr (Bool × List D)} {ps : List Nat} {assign body : Code} {busy : Bool} {jump : Option Code} (hr : recAt H lp = some (nt, env, ps, assign, body, busy, jump)) :
    ∃ x, H lp = some x ∧ x.sz = 0 ∧ x.rows = [[.lrec nt env ps assign body busy jump]] := by
  unfold recAt at hr
  split at hr
  · rename_i e' nt' env' ps' assign' body' busy' jump' hH
    simp only [Option.some.injEq, Prod.mk.injEq] at hr
    obtain ⟨rfl, rfl, rfl, rfl, rfl, rfl, rfl⟩ := hr
    exact ⟨_, hH, rfl, rfl⟩
  · cases hr
theorem recAt_loop {H : Hp} {nx lp nt : Nat} {env : Tr (Bool × List D)} {ps : List Nat} {assign body : Code} {busy : Bool} {jump : Option Code} (hok : HeapOk w ι M H nx) (hr : recAt H lp = some (nt, env, ps, assign, body, busy, jump)) :
    ∃ l, ι lp = some l ∧ M l ∧ LoopAt w ι M l nt env ps assign body busy jump := by
  obtain ⟨x, hx, hsz, hrows⟩ := recAt_some hr
  obtain ⟨b, h1, h2⟩ := hok.objs lp x hx
  refine ⟨b, h1, hok.ctl lp x b hx h1, ?_⟩
  rcases h2 with ⟨_, ⟨hn, _⟩ | ⟨nt', env', ps', assign', body', busy', jump', hr', hl⟩ | ⟨t, n, T, cs, hr', _, _⟩ | ⟨t, n, T, cs, hr', _, _⟩⟩ | ⟨T, cs, _, hb⟩
  · rw [hrows] at hn; cases hn
  · rw [hrows] at hr'
    simp only [List.cons.injEq, D.lrec.injEq, and_true] at hr'
    obtain ⟨rfl, rfl, rfl, rfl, rfl, rfl, rfl⟩ := hr'
    exact hl
  · rw [hrows] at hr'; cases hr'
  · rw [hrows] at hr'; cases hr'
  · have := hb.pos; omega
theorem effTo_of_sim {H H' : Hp} {nx' : Nat} {a' : Act} {β' : Nat → Option Nat} {X : Nat → Prop} (hX : X = fun b => M b ∧ ∀ o x, H o = some x → ι o ≠ some b) (hCX : C.X = X) (s1 : Sim C E a' w' ι' β' M') (hgs : E gs = .heap H' nx')
    (ev : Evo X M w M' w') (hi : ∀ o b, ι o = some b → ι' o = some b) : EffTo w ι M H w' ι' M' H' nx' := by
  have hlv : ∀ o, live E o = H' o := fun o => by simp [live, hgs]
  subst hX
  refine ⟨s1.heapOk hgs, hi, ⟨ev.os, ev.tape, ev.output, ev.size, fun b hb hn => ?_, fun b hb h => ?_, fun b _ h => h.elim, ev.shape⟩, fun b hb hn => s1.xM b (by rw [hCX]; exact ⟨hb, hn⟩), ev.back, s1.lt⟩
  · by_cases hMb : M b
    · exact ev.keep b hb ⟨hMb, fun o x h1 h2 => hn ⟨o, x, h1, h2⟩⟩
    · exact ev.same b hb hMb
  · obtain ⟨o, x, h1, h2⟩ := h
    have hl' : live E o = some x := by rw [hlv]; exact h1
    have hMb := ev.back b hb (s1.ctlO o x b hl' h2)
    have hnX := s1.xO o x b hl' h2
    rw [hCX] at hnX
    apply Classical.byContradiction
    intro hn
    exact hnX ⟨hMb, fun o x h1 h2 => hn ⟨o, x, h1, h2⟩⟩
theorem mk_sim {t : Tr AV} {H : Hp} {nx : Nat} {tmps : Array Value} (hok : HeapOk w ι M H nx) (hM : ∀ b, M b → b < w.heap.size) (hnt : tmps.size = C.nt) (hsm : C.nt ≤ gs) (hdf : C.dfs = []) (hX : C.X = fun b => M b ∧ ∀ o x, H o = some x → ι o ≠ some b)
    (hv : ∀ i v, i ≠ gs → t.get i = some v → ∃ x, v = .v x ∧ RdA w ι M (tmps.getD i undef) x) : Sim C (St.env ⟨t, H, nx⟩) { tmps := tmps, defers := [] } w ι (fun _ => none) M ∧ Plain ⟨t, H, nx⟩ := by
  have hlv : live (St.env ⟨t, H, nx⟩) = H.get := by funext o; simp [live, St.env_gs]
  refine ⟨⟨hnt, hdf.symm, hsm, ⟨H, nx, St.env_gs _, hok.new⟩, by rw [hlv]; exact hok.objs, by rw [hlv]; exact hok.inj, fun s s' b h => (by cases h), fun o x s b _ _ h => (by cases h), by rw [hlv]; exact hok.ctl, fun s b h => (by cases h), by rw [hlv, hX]; exact fun o x b h1 h2 h3 => h3.2 o x h1 h2, fun s b h => (by cases h),
    by rw [hX]; exact fun b h => hM b h.1, by rw [hX]; exact fun b h => h.1, hM, fun i => ?_⟩, fun i => ?_⟩
  · by_cases hi : i = gs
    · subst hi; rw [St.env_gs]; rfl
    · rw [St.env_ne _ hi]
      show Holds w ι _ M _ _ i ((t.get i).getD .junk)
      cases ht : t.get i with
      | none => trivial
      | some v =>
        obtain ⟨x, rfl, hr⟩ := hv i v hi ht
        exact hr
  · by_cases hi : i = gs
    · exact .inl hi
    · right
      rw [St.env_ne _ hi]
      show ((t.get i).getD .junk).plain = true
      cases ht : t.get i with
      | none => rfl
      | some v =>
        obtain ⟨x, rfl, hr⟩ := hv i v hi ht
        rfl
theorem startS_get : ∀ (ads : List AD) (k : Nat) (t : Tr AV), k + ads.length ≤ 1000000 → ∀ i, (startS ads k t).get i = if k ≤ i ∧ i < k + ads.length then (ads[i - k]?).map .v else t.get i
  | [], k, t, _, i => by simp only [startS, List.length_nil]; rw [if_neg (by omega)]
  | x :: l, k, t, h, i => by
    simp only [List.length_cons] at h
    simp only [startS, List.length_cons]
    rw [startS_get l (k + 1) _ (by omega), Tr.get_set _ _ _ _ (by omega)]
    by_cases h1 : i = k
    · subst h1
      rw [if_neg (by omega), if_pos rfl, if_pos (by omega)]
      simp
    · rw [if_neg h1]
      by_cases h2 : k ≤ i ∧ i < k + (l.length + 1)
      · rw [if_pos h2, if_pos (by omega), show i - k = (i - (k + 1)) + 1 by omega, List.getElem?_cons_succ]
      · rw [if_neg h2, if_neg (by omega)]
theorem setPs_sound {nt : Nat} (hnt : nt ≤ 1000000) : ∀ (ps : List Nat) (ads : List AD) (vals : List Value) (t t' : Tr AV) (tmps : Array Value), setPs nt ps ads t = some t' → tmps.size = nt → vals.length = ads.length → (∀ (j : Nat) v x, vals[j]? = some v → ads[j]? = some x → RdA w ι M v x) →
    (∀ i v, i ≠ gs → t.get i = some v → ∃ x, v = .v x ∧ RdA w ι M (tmps.getD i undef) x) →
    ps.length = ads.length ∧ ((ps.zip vals).foldl (fun tmps (t, a) => tmps.setIfInBounds t a) tmps).size = nt ∧ ∀ i v, i ≠ gs → t'.get i = some v → ∃ x, v = .v x ∧ RdA w ι M (((ps.zip vals).foldl (fun tmps (t, a) => tmps.setIfInBounds t a) tmps).getD i undef) x
  | [], [], vals, t, t', tmps, h, hsz, hl, hr, hv => by
    simp only [setPs, Option.some.injEq] at h
    subst h
    exact ⟨rfl, hsz, hv⟩
  | p :: ps, x :: l, [], t, t', tmps, h, hsz, hl, hr, hv => by simp at hl
  | p :: ps, x :: l, u :: vals, t, t', tmps, h, hsz, hl, hr, hv => by
    simp only [setPs] at h
    split at h
    · rename_i hp
      obtain ⟨h1, h2, h3⟩ := setPs_sound hnt ps l vals _ t' (tmps.setIfInBounds p u) h (by simpa using hsz) (by simpa using hl) (fun j v y hv hy => hr (j + 1) v y (by simpa using hv) (by simpa using hy)) (fun i v hi ht => by
        rw [Tr.get_set _ _ _ _ (by omega)] at ht
        by_cases hip : i = p
        · subst hip
          rw [if_pos rfl] at ht
          injection ht with ht
          refine ⟨x, ht.symm, ?_⟩
          have : (tmps.setIfInBounds i u).getD i undef = u := by simp [Array.getD_eq_getD_getElem?, hsz, hp]
          rw [this]
          exact hr 0 u x rfl rfl
        · rw [if_neg hip] at ht
          obtain ⟨y, hy, hrd⟩ := hv i v hi ht
          refine ⟨y, hy, ?_⟩
          have : (tmps.setIfInBounds p u).getD i undef = tmps.getD i undef := by simp [Array.getD_eq_getD_getElem?, Array.getElem?_setIfInBounds_ne (fun e => hip e.symm)]
          rw [this]; exact hrd)
      exact ⟨by simp [h1], h2, h3⟩
    · cases h
  | [], x :: l, vals, t, t', tmps, h, hsz, hl, hr, hv => by cases h
  | p :: ps, [], vals, t, t', tmps, h, hsz, hl, hr, hv => by cases h
theorem toB_of {v : AV} {x : Bool × List D} (h : toB v = some x) : v = .v (ofB x) := by
  unfold toB at h
  split at h
  · injection h with h; subst h; rfl
  · injection h with h; subst h; rfl
  · cases h
theorem Evo.sh {X : Nat → Prop} {w1 : World} (h : Evo X M w M' w1) (hs : Sh w1 w') (hlow : ∀ b, b < w.heap.size → w'.heap[b]? = w1.heap[b]?) : Evo X M w M' w' :=
  ⟨hs.os.trans h.os, hs.tape.trans h.tape, hs.output.trans h.output, by rw [hs.size]; exact h.size, fun b hb hm => (hlow b hb).trans (h.same b hb hm), h.back, fun b hb hx => (hlow b hb).trans (h.keep b hb hx), fun b cs T hb => by
    obtain ⟨cs', h1, h2⟩ := h.shape b cs T hb
    exact ⟨cs', hs.at_ h1 (by simp), h2⟩⟩
theorem iter_sound {g : Operand} {f : Nat} {caps : List D} (h : Sim C s.env a w ι β M) (hq : iterS s g = some (f, caps)) : ∃ lb : Array Value, a.eval g = .func (.func f) #[] lb ∧ lb.size = caps.length ∧ ∀ (j : Nat) v d, lb[j]? = some v → caps[j]? = some d → Rd w ι M v d := by
  unfold iterS at hq
  split at hq
  · rename_i t
    have hh := h.hold t
    split at hq
    · rename_i f' hE
      simp only [Option.some.injEq, Prod.mk.injEq] at hq
      obtain ⟨rfl, rfl⟩ := hq
      rw [hE] at hh
      have hr : Rd w ι M (valOf a t) (.fn f') := hh
      refine ⟨#[], ?_, rfl, fun j v d hv => by simp at hv⟩
      show valOf a t = _
      generalize valOf a t = u at hr
      cases hr; rfl
    · rename_i f' caps' hE
      simp only [Option.some.injEq, Prod.mk.injEq] at hq
      obtain ⟨rfl, rfl⟩ := hq
      rw [hE] at hh
      have hr : Rd w ι M (valOf a t) (.clo f' caps') := hh
      show ∃ lb, valOf a t = _ ∧ _
      generalize valOf a t = u at hr
      cases hr with
      | clo _ cs _ hn hr => exact ⟨cs, rfl, hn, hr⟩
    · cases hq
  · rename_i f'
    simp only [Option.some.injEq, Prod.mk.injEq] at hq
    obtain ⟨rfl, rfl⟩ := hq
    exact ⟨#[], rfl, rfl, fun j v d hv => by simp at hv⟩
  · cases hq
theorem callee_sound (hS : SysOk S P) (hf : ∀ f, (S.tab f).isSome = true → FnEff P f (e.fn f)) {f : Nat} {ads : List AD} {H H' : Hp} {nx nx' : Nat} {r : RV} (hq : callee S e f ads H nx = some (r, H', nx')) :
    calleeOk P f = true ∧ ∃ F, FnEff P f F ∧ F ads H nx = some (r, H', nx') := by
  unfold callee at hq
  split at hq
  · split at hq
    · rename_i ht
      obtain ⟨fd, hfd⟩ := Option.isSome_iff_exists.1 ht
      obtain ⟨_, _, _, _, _, hok⟩ := hS.tab f fd hfd
      exact ⟨hok, _, hf f ht, hq⟩
    · cases hq
  · rename_i F hb
    have := hS.base f (by rw [hb]; simp)
    rw [hb] at this
    exact ⟨this.2, F, this.1, hq⟩
  · cases hq
end
end Go.Proofs.YtdapdiaklpcmjaaGreat.Pe
namespace Go.Proofs.YtdapdiaklpcmjaaGreat.Pe
open Go
section
variable {P : Program} {S : Sys} {C C' : Ctx} {E E1 : Env} {a : Act} {w w' : World} {ι ι' β : Nat → Option Nat} {M M' : Nat → Prop} {e : Evs} {s s' : St}
theorem Sim.flatH {H : Hp} {nx : Nat} {t : Tr PObj} (hf : H.flat = some t) (h : Sim C E a w ι β M) (hE : E gs = .heap H nx) : Sim C (upd E gs (.heap (.tr t) nx)) a w ι β M :=
  h.heq hE fun o => (Hp.flat_get _ _ hf o).symm
theorem HeapOk.flatH {H : Hp} {nx : Nat} {t : Tr PObj} (hf : H.flat = some t) (h : HeapOk w ι M H nx) : HeapOk w ι M (.tr t) nx := by
  have he : ∀ o, (Hp.tr t) o = H o := fun o => (Hp.flat_get _ _ hf o).symm
  exact ⟨h.new, fun o ob ho => h.objs o ob (by rw [← he]; exact ho), fun o o' x x' b h1 h2 => h.inj o o' x x' b (by rw [← he]; exact h1) (by rw [← he]; exact h2), fun o x b h1 => h.ctl o x b (by rw [← he]; exact h1)⟩
theorem resQ_cx (C : Ctx) (X : Nat → Prop) (ds : List Deferred) (pub : Nat → Bool) : ∀ l : List ResultVar, resQ { C with X := X, dfs := ds, pub := pub } l = resQ C l
  | [] => rfl
  | x :: l => by
    simp only [resQ, resQ_cx C X ds pub l]
    cases x <;> rfl
theorem fn_step (hS : SysOk S P) (ih : EvsOk S P e) (f : Nat) (hf : (S.tab f).isSome = true) : FnEff P f ((stepE S e).fn f) := by
  intro ads H nx r H' nx' hq w ι M vals hM hok hl hargs
  obtain ⟨fd, hfd⟩ := Option.isSome_iff_exists.1 hf
  obtain ⟨fn, k1, k2, k3, k4, k5⟩ := hS.tab f fd hfd
  simp only [stepE, hfd] at hq
  split at hq
  · rename_i hlen
    cases hcode : e.code fd.nt none fd.body ⟨startS ads 0 .leaf, H, nx⟩ with
    | none => rw [hcode] at hq; cases hq
    | some z =>
      obtain ⟨ex, s1⟩ := z
      rw [hcode] at hq
      simp only [Option.bind_some] at hq
      obtain ⟨hex, hres⟩ : (ex = .normal ∨ ex = .ret) ∧ ((resQ (ctxS S e fd.nt) fd.res).runS s1 [] []).bind (fun r => some (rvOf r.1, r.2.1.H, r.2.1.nx)) = some (r, H', nx') := by
        cases ex with
        | normal => exact ⟨.inl rfl, hq⟩
        | ret => exact ⟨.inr rfl, hq⟩
        | exit id => cases hq
      clear hq
      cases hrs : (resQ (ctxS S e fd.nt) fd.res).runS s1 [] [] with
      | none => rw [hrs] at hres; cases hres
      | some y =>
        obtain ⟨l, s2, rr, uu⟩ := y
        rw [hrs] at hres
        simp only [Option.bind_some, Option.some.injEq, Prod.mk.injEq] at hres
        obtain ⟨rfl, rfl, rfl⟩ := hres
        obtain ⟨hrun, _, _⟩ := Q.runS_at hrs
        let X : Nat → Prop := fun b => M b ∧ ∀ o x, H o = some x → ι o ≠ some b
        let C0 : Ctx := { ctxS S e fd.nt with X := X }
        have hsz : (vals ++ Array.replicate (fn.ntmps - vals.size) undef).size = fd.nt := by simp; omega
        obtain ⟨sm0, pl0⟩ := mk_sim (C := C0) (t := startS ads 0 .leaf) (tmps := vals ++ Array.replicate (fn.ntmps - vals.size) undef) hok hM hsz hlen.2 rfl rfl (fun i v hi hv => by
          rw [startS_get ads 0 .leaf (by omega)] at hv
          split at hv
          · rename_i hlt
            simp only [Nat.sub_zero] at hv
            cases hx : ads[i]? with
            | none => rw [hx] at hv; cases hv
            | some x =>
              rw [hx] at hv
              simp only [Option.map_some, Option.some.injEq] at hv
              have hil : i < vals.size := by omega
              refine ⟨x, hv.symm, ?_⟩
              have : (vals ++ Array.replicate (fn.ntmps - vals.size) undef).getD i undef = vals[i] := by
                rw [Array.getD_eq_getD_getElem?, Array.getElem?_append_left hil, Array.getElem?_eq_getElem hil]; rfl
              rw [this]
              exact hargs i _ x (Array.getElem?_eq_getElem hil) hx
          · cases hv)
        refine callsIn_fx.1 (callsIn_of_wp_marks (F := Fx none) (n := 0) k1 k2 trivial ?_ rfl)
        refine ih.code fd.nt none fd.body _ ex s1 hcode C0 _ w ι _ M w.heap.size _ 0 none rfl rfl sm0 pl0 (Nat.le_refl _) ⟨List.Pairwise.nil, fun d hd => by cases hd⟩ ?_
        intro C1 a1 w1 ι1 β1 M1 hnt1 hX1 _ sm1 pl1 mk1 ev1 hi1
        have goal : LeavesInM (Fx none) 0 P fn a1.tmps (fun e w' => ∃ v ι' M', e = .returned v ∧ RdV w' ι' M' v (rvOf l) ∧ HeapOk w' ι' M' s2.H s2.nx ∧ (∀ o b, ι o = some b → ι' o = some b) ∧ Evo (fun _ => False) (fun b => ∃ o x, H o = some x ∧ ι o = some b) w (fun b => ∃ o x, s2.H o = some x ∧ ι' o = some b) w' ∧
            (∀ b, M b → (∀ o x, H o = some x → ι o ≠ some b) → M' b) ∧ (∀ b, b < w.heap.size → M' b → M b) ∧ (∀ b, M' b → b < w'.heap.size)) a1.defers .returning w1 := by
          rw [sm1.defs]
          refine leaves_marks (B := w.heap.size) C1.dfs w1 mk1 ev1.size fun w2 hsh hlow => ?_
          have sm2 := sm1.sh pl1 hsh
          have hC := ctx_ok hS ih.fn ih.yld fd.nt C1.X C1.dfs (fun _ => true)
          have sm3 : Sim { ctxS S e fd.nt with X := C1.X, dfs := C1.dfs } s1.env a1 w2 ι1 β1 M1 := sm2.ctx hnt1.symm rfl rfl
          obtain ⟨β2, M2, v, s3, e3, r3, hrv⟩ := results_sound (P := P) (fn := fn) hC sm3 (by rw [k4, resQ_cx (ctxS S e fd.nt)]; exact hrun)
          refine ⟨v, hrv, v, ι1, M2, rfl, r3, ?_⟩
          have ev2 : Evo X M w M2 w2 := by
            have := (ev1.sh hsh hlow).trans (X := C0.X) (by have e3' := e3; rw [show ({ ctxS S e fd.nt with X := C1.X, dfs := C1.dfs } : Ctx).X = C0.X from hX1] at e3'; exact e3')
            exact this
          obtain ⟨t1, t2, t3, t4, t5, t6⟩ := effTo_of_sim (C := { ctxS S e fd.nt with X := C1.X, dfs := C1.dfs }) (X := X) rfl hX1 s3 (St.env_gs s2) ev2 hi1
          exact ⟨t1, t2, t3, t4, t5, t6⟩
        rcases hex with rfl | rfl
        · exact goal
        · exact goal
  · cases hq
theorem putRec_at (H : Hp) (lp nt : Nat) (env : Tr (Bool × List D)) (ps : List Nat) (assign body : Code) (busy : Bool) (jump : Option Code) : putRec H lp nt env ps assign body busy jump = updO H lp (some ⟨none, 0, [[.lrec nt env ps assign body busy jump]]⟩) := rfl
theorem sim_putRec {lp l : Nat} {nt : Nat} {env : Tr (Bool × List D)} {ps : List Nat} {assign body : Code} {busy busy' : Bool} {jump jump' : Option Code} {t : Tr PObj} {r : Loop} (h : Sim C s.env a w ι β M) (hp : Plain s) (hr : recAt s.H lp = some (nt, env, ps, assign, body, busy, jump)) (hl : ι lp = some l)
    (h1 : w.heap[l]? = some (.loop r)) (h2 : r.tmps.size = nt) (h3 : r.params.toList = ps) (h4 : r.assign = assign) (h5 : r.body = body) (h8 : ∀ s x, s ≠ gs → env.get s = some x → RdA w ι M (r.tmps.getD s undef) (ofB x))
    (st : LoopState) (hst : st = (if busy' then .busy else if jump'.isNone then .ready else .done)) (hf : (putRec s.H lp nt env ps assign body busy' jump').flat = some t) :
    Sim C (St.env ⟨s.t, .tr t, s.nx⟩) a (w.putObj l (.loop { r with state := st, pending := jump' })) ι β M ∧ Plain ⟨s.t, .tr t, s.nx⟩ ∧ Evo C.X M w M (w.putObj l (.loop { r with state := st, pending := jump' })) := by
  obtain ⟨x, hx, _, _⟩ := recAt_some hr
  have hlx : live s.env lp = some x := by simp [live, St.env_gs, hx]
  have hM : M l := h.ctlO lp x l hlx hl
  have hX : ¬ C.X l := h.xO lp x l hlx hl
  have hev := putLoop_evo (w := w) (X := C.X) h1 hM hX { r with state := st, pending := jump' }
  have hlt : l < w.heap.size := (Array.getElem?_eq_some_iff.1 h1).1
  have s2 := h.storedO (w' := w.putObj l (.loop { r with state := st, pending := jump' })) (St.env_gs s) hx hl hev (fun b hb => World.putObj_heap_other hb) (ob := ⟨none, 0, [[.lrec nt env ps assign body busy' jump']]⟩)
    (.inl ⟨rfl, .inr (.inl ⟨nt, env, ps, assign, body, busy', jump', rfl, { r with state := st, pending := jump' }, World.putObj_heap_same hlt, h2, h3, h4, h5, rfl, hst, fun i y hi hy => (h8 i y hi hy).mono hev (fun _ _ h => h)⟩)⟩)
  have s3 := s2.flatH (H := putRec s.H lp nt env ps assign body busy' jump') (nx := s.nx) hf (upd_same _ _ _)
  rw [upd_upd] at s3
  refine ⟨?_, hp.heap _ _, hev⟩
  rw [St.env_H]; exact s3
theorem yld_step (ih : EvsOk S P e) : YldOk P (stepE S e).yld := by
  intro lp ads H nx r H' nx' hq w ι M vals hM hok hsz hargs
  simp only [stepE] at hq
  cases hr0 : recAt H lp with
  | none => rw [hr0] at hq; cases hq
  | some z0 =>
    obtain ⟨nt, env, ps, assign, body, busy, jump⟩ := z0
    rw [hr0] at hq
    simp only [Option.bind_some] at hq
    obtain ⟨l, hl, hMl, r0, h1, h2, h3, h4, h5, h6, h7, h8⟩ := recAt_loop hok hr0
    split at hq
    · rename_i hc
      obtain ⟨hbusy, hjump, hnt⟩ := hc
      cases hps : setPs nt ps ads (ofEnv env) with
      | none => rw [hps] at hq; cases hq
      | some t =>
        rw [hps] at hq
        simp only [Option.bind_some] at hq
        cases hc1 : e.code nt (some lp) assign ⟨t, H, nx⟩ with
        | none => rw [hc1] at hq; cases hq
        | some z1 =>
          obtain ⟨ex1, s1⟩ := z1
          rw [hc1] at hq
          simp only [Option.bind_some] at hq
          cases ex1 with
          | ret => cases hq
          | exit => cases hq
          | normal =>
            simp only at hq
            cases hr1 : recAt s1.H lp with
            | none => rw [hr1] at hq; cases hq
            | some z2 =>
              obtain ⟨nt', env', ps', assign', body', busy', jump'⟩ := z2
              rw [hr1] at hq
              simp only [Option.bind_some] at hq
              split at hq
              · rename_i hc2
                obtain ⟨hbusy', hjump'⟩ := hc2
                cases hf1 : (putRec s1.H lp nt' env' ps' assign' body' true none).flat with
                | none => rw [hf1] at hq; cases hq
                | some H1 =>
                  rw [hf1] at hq
                  simp only [Option.bind_some] at hq
                  cases hc3 : e.code nt (some lp) body { s1 with H := .tr H1 } with
                  | none => rw [hc3] at hq; cases hq
                  | some z3 =>
                    obtain ⟨ex, s2⟩ := z3
                    rw [hc3] at hq
                    simp only [Option.bind_some] at hq
                    cases hr2 : recAt s2.H lp with
                    | none => rw [hr2] at hq; cases hq
                    | some z4 =>
                      obtain ⟨nt2, env2, ps2, assign2, body2, busy2, jump2⟩ := z4
                      rw [hr2] at hq
                      simp only [Option.bind_some] at hq
                      generalize hjmp : exJump ex = jmp at hq
                      cases hf2 : (putRec s2.H lp nt2 env2 ps2 assign2 body2 false jmp).flat with
                      | none => rw [hf2] at hq; cases hq
                      | some H2 =>
                        rw [hf2] at hq
                        simp only [Option.bind_some, Option.some.injEq, Prod.mk.injEq] at hq
                        obtain ⟨rfl, rfl, rfl⟩ := hq
                        have henv : ∀ i v, i ≠ gs → (ofEnv env).get i = some v → ∃ x, v = .v x ∧ RdA w ι M (r0.tmps.getD i undef) x := fun i v hi hv => by
                          unfold ofEnv at hv
                          rw [Tr.get_map] at hv
                          cases hx : env.get i with
                          | none => rw [hx] at hv; cases hv
                          | some y =>
                            rw [hx] at hv
                            simp only [Option.bind_some, Option.some.injEq] at hv
                            exact ⟨_, hv.symm, h8 i y hi hx⟩
                        obtain ⟨p1, p2, p3⟩ := setPs_sound (w := w) (ι := ι) (M := M) hnt ps ads vals.toList (ofEnv env) t r0.tmps hps h2 (by simpa using hsz) (fun j v x hv hx => hargs j v x (by simpa using hv) hx) henv
                        have hzip : ((r0.params.zip vals).foldl (fun tmps (t, a) => tmps.setIfInBounds t a) r0.tmps) = ((ps.zip vals.toList).foldl (fun tmps (t, a) => tmps.setIfInBounds t a) r0.tmps) := by
                          rw [← Array.foldl_toList, Array.toList_zip, h3]
                        refine ⟨l, r0.fn, _, r0.assign, r0.body, hl, run_yield h1 (by rw [← Array.length_toList (xs := r0.params), h3, p1, hsz]), fun n => ?_⟩
                        rw [hzip]
                        generalize (ps.zip vals.toList).foldl (fun tmps (t, a) => tmps.setIfInBounds t a) r0.tmps = tmps at p2 p3
                        refine roundIn_of_wpIn (F := Fence.wide) trivial ?_
                        rw [h4, h5]
                        let X : Nat → Prop := fun b => M b ∧ ∀ o x, H o = some x → ι o ≠ some b
                        let C0 : Ctx := { ctxS S e nt with X := X }
                        obtain ⟨sm0, pl0⟩ := mk_sim (C := C0) (t := t) (tmps := tmps) hok hM p2 hnt rfl rfl p3
                        refine ih.code nt (some lp) assign ⟨t, H, nx⟩ .normal s1 hc1 C0 _ w ι _ M 0 _ n (some l) rfl ⟨l, rfl, hl⟩ sm0 pl0 (Nat.zero_le _) ⟨List.Pairwise.nil, fun d hd => by cases hd⟩ ?_
                        intro C1 a1 w1 ι1 β1 M1 hnt1 hX1 hdf1 sm1 pl1 mk1 ev1 hi1
                        have hl1 : ι1 lp = some l := hi1 _ _ hl
                        obtain ⟨l', hl', hMl1, r1, g1, g2, g3, g4, g5, g6, g7, g8⟩ := recAt_loop (sm1.heapOk (St.env_gs s1)) hr1
                        rw [hl1] at hl'; injection hl' with hl'; subst hl'
                        have hst1 : r1.state = .ready := by rw [g7, hbusy']; simp [hjump']
                        refine ⟨_, run_beginRound g1 hst1, ?_⟩
                        have hpend : r1.pending = none := by
                          rw [g6]; cases jump' <;> first | rfl | cases hjump'
                        have hrec : ({ r1 with state := .busy } : Loop) = { r1 with state := .busy, pending := none } := by rw [← hpend]
                        rw [hrec]
                        obtain ⟨sm2, pl2, ev2⟩ := sim_putRec (busy' := true) (jump' := none) sm1 pl1 hr1 hl1 g1 g2 g3 g4 g5 g8 .busy rfl hf1
                        refine ih.code nt (some lp) body { s1 with H := .tr H1 } ex s2 hc3 C1 a1 _ ι1 β1 M1 0 _ n (some l) hnt1 ⟨l, rfl, hl1⟩ sm2 pl2 (Nat.zero_le _) (mk1.mono ev2) ?_
                        intro C2 a2 w3 ι2 β2 M2 hnt2 hX2 hdf2 sm3 pl3 mk3 ev3 hi2
                        have hl2 : ι2 lp = some l := hi2 _ _ hl1
                        obtain ⟨l', hl', hMl2, r2, q1, q2, q3, q4, q5, q6, q7, q8⟩ := recAt_loop (sm3.heapOk (St.env_gs s2)) hr2
                        rw [hl2] at hl'; injection hl' with hl'; subst hl'
                        obtain ⟨sm4, pl4, ev4⟩ := sim_putRec (busy' := false) (jump' := jmp) sm3 pl3 hr2 hl2 q1 q2 q3 q4 q5 q8 (if jmp.isNone then .ready else .done) rfl hf2
                        have hcx : C2.X = X := hX2.trans hX1
                        have ev1' : Evo X M w M1 w1 := ev1
                        have ev2' := ev2
                        rw [show C1.X = X from hX1] at ev2'
                        have ev3' := ev3
                        rw [show C1.X = X from hX1] at ev3'
                        have ev4' := ev4
                        rw [hcx] at ev4'
                        have hto := effTo_of_sim (X := X) rfl hcx sm4 (St.env_gs _) (((ev1'.trans ev2').trans ev3').trans ev4') (fun o b h => hi2 _ _ (hi1 _ _ h))
                        have hend := run_endRound (P := P) jmp q1
                        have fin : ∃ v w', (Instr.endRound l jmp).run P w3 = .ok v w' ∧ ∃ ι' M', Ending.returned v = Ending.returned (.bool jmp.isNone) ∧ EffTo w ι M H w' ι' M' (.tr H2) s2.nx := ⟨_, _, hend, ι2, M2, rfl, hto⟩
                        cases ex with
                        | normal => subst hjmp; exact fin
                        | ret => subst hjmp; exact fin
                        | exit id => subst hjmp; exact fin
              · cases hq
    · cases hq
end
end Go.Proofs.YtdapdiaklpcmjaaGreat.Pe
