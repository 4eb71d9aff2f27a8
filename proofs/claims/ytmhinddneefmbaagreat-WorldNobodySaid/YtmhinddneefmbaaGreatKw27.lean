/- A part of the proof of JbH. -/
import Derived.Test.YtmhinddneefmbaaGreatKw26
set_option linter.unusedSimpArgs false
set_option linter.unusedVariables false
set_option linter.unusedSectionVars false
namespace Go.Proofs.YtmhinddneefmbaaGreat.Pe
open Go
def RRel (r : Option Nat) (ro : Option Nat) (ι : Nat → Option Nat) : Prop := match r with
  | none => ro = none
  | some lp => ∃ l, ro = some l ∧ ι lp = some l
def CodeOk (P : Program) (F : Nat → Option Nat → Code → St → Option (Ex × St)) : Prop :=
  ∀ nt r c s ex s', F nt r c s = some (ex, s') → ∀ (C : Ctx) (a : Act) (w : World) (ι β : Nat → Option Nat) (M : Nat → Prop) (B : Bs) (Qx : Exit → Act → World → Prop) (n : Nat) (ro : Option Nat),
    C.nt = nt → RRel r ro ι → Sim C s.env a w ι β M → Plain s → B.lo ≤ w.heap.size → Marks B C.dfs w M →
    (∀ C' a' w' ι' β' M', C'.nt = nt → C'.X = C.X → (r ≠ none → C'.dfs = C.dfs) → Sim C' s'.env a' w' ι' β' M' → Plain s' → Marks B C'.dfs w' M' → Evo C.X M w M' w' → (∀ o b, ι o = some b → ι' o = some b) → Qx ex.ex a' w') → c.wpIn (Fx ro) n P Qx a w
structure EvsOk (S : Sys) (P : Program) (e : Evs) : Prop where
  fn : ∀ f, (S.tab f).isSome = true → FnEff P f (e.fn f)
  yld : YldOk P e.yld
  code : CodeOk P e.code
section
variable {P : Program} {S : Sys} {C C' : Ctx} {E E1 : Env} {a : Act} {w w' : World} {ι ι' β : Nat → Option Nat} {M M' : Nat → Prop} {e : Evs} {s s' : St}
theorem callFunc_ok {f : Nat} (hok : calleeOk P f = true) (args : Array Value) (w : World) : (callFunc f args).run P w = .ok (.enter f args) w := by
  unfold calleeOk at hok
  cases hfn : P.funcs[f]? with
  | none => rw [hfn] at hok; cases hok
  | some fn =>
    rw [hfn] at hok
    simp only [Bool.and_eq_true, bne_iff_ne, ne_eq] at hok
    obtain ⟨b, hb⟩ := Option.isSome_iff_exists.1 hok.2
    simp [callFunc, hfn, hok.1, hb]
theorem putLoop_evo {X : Nat → Prop} {l : Nat} {r : Loop} (h : w.heap[l]? = some (.loop r)) (hM : M l) (hX : ¬ X l) (r' : Loop) : Evo X M w M (w.putObj l (.loop r')) :=
  ⟨rfl, rfl, rfl, by rw [World.putObj_size]; exact Nat.le_refl _, fun b _ hb => World.putObj_heap_other (fun e => hb (e ▸ hM)), fun _ _ h => h, fun b _ hb => World.putObj_heap_other (fun e => hX (e ▸ hb)), fun b cs T hb => by
    have hne : b ≠ l := fun e => by rw [e, h] at hb; cases hb
    exact ⟨cs, (World.putObj_heap_other hne).trans hb, rfl⟩⟩
theorem recAt_some {H : Hp} {lp nt : Nat} {env : Tr (Bool × List D)} {ps : List Nat} {assign body : Code} {busy : Bool} {jump : Option Code} (hr : recAt H lp = some (nt, env, ps, assign, body, busy, jump)) :
    ∃ x, H lp = some x ∧ x.sz = 0 ∧ x.rows = [[.lrec nt env ps assign body busy jump]] := by
  unfold recAt at hr
  split at hr
  · rename_i e' nt' env' ps' assign' body' busy' jump' hH
    simp only [Option.some.injEq, Prod.mk.injEq] at hr
    obtain ⟨rfl, rfl, rfl, rfl, rfl, rfl, rfl⟩ := hr
    exact ⟨_, hH, rfl, rfl⟩
  · cases hr
theorem recAt_loop {H : Hp} {nx lp nt : Nat} {env : Tr (Bool × List D)} {ps : List Nat} {assign body : Code} {busy : Bool} {jump : Option Code} (hok : HeapOk w ι M H nx) (hr : recAt H lp = some (nt, env, ps, assign, body, busy, jump)) :
    ∃ l, ι lp = some l ∧ M l ∧ LoopAt w ι M l nt env ps assign body busy jump := by
  obtain ⟨x, hx, hsz, hrows⟩ := recAt_some hr
  obtain ⟨b, h1, h2⟩ := hok.objs lp x hx
  refine ⟨b, h1, hok.ctl lp x b hx h1, ?_⟩
  rcases h2 with ⟨_, ⟨hn, _⟩ | ⟨nt', env', ps', assign', body', busy', jump', hr', hl⟩ | ⟨t, n, T, cs, hr', _, _⟩ | ⟨t, n, T, cs, hr', _, _⟩⟩ | ⟨T, cs, _, hb⟩
  · rw [hrows] at hn; cases hn
  · rw [hrows] at hr'
    simp only [List.cons.injEq, D.lrec.injEq, and_true] at hr'
    obtain ⟨rfl, rfl, rfl, rfl, rfl, rfl, rfl⟩ := hr'
    exact hl
  · rw [hrows] at hr'; cases hr'
  · rw [hrows] at hr'; cases hr'
  · have := hb.pos; omega
theorem effTo_of_sim {H H' : Hp} {nx' : Nat} {a' : Act} {β' : Nat → Option Nat} {X : Nat → Prop} (hX : X = fun b => M b ∧ ∀ o x, H o = some x → ι o ≠ some b) (hCX : C.X = X) (s1 : Sim C E a' w' ι' β' M') (hgs : E gs = .heap H' nx')
    (ev : Evo X M w M' w') (hi : ∀ o b, ι o = some b → ι' o = some b) : EffTo w ι M H w' ι' M' H' nx' := by
  have hlv : ∀ o, live E o = H' o := fun o => by simp [live, hgs]
  subst hX
  refine ⟨s1.heapOk hgs, hi, ⟨ev.os, ev.tape, ev.output, ev.size, fun b hb hn => ?_, fun b hb h => ?_, fun b _ h => h.elim, ev.shape⟩, fun b hb hn => s1.xM b (by rw [hCX]; exact ⟨hb, hn⟩), ev.back, s1.lt⟩
  · by_cases hMb : M b
    · exact ev.keep b hb ⟨hMb, fun o x h1 h2 => hn ⟨o, x, h1, h2⟩⟩
    · exact ev.same b hb hMb
  · obtain ⟨o, x, h1, h2⟩ := h
    have hl' : live E o = some x := by rw [hlv]; exact h1
    have hMb := ev.back b hb (s1.ctlO o x b hl' h2)
    have hnX := s1.xO o x b hl' h2
    rw [hCX] at hnX
    apply Classical.byContradiction
    intro hn
    exact hnX ⟨hMb, fun o x h1 h2 => hn ⟨o, x, h1, h2⟩⟩
theorem mk_sim {t : Tr AV} {H : Hp} {nx : Nat} {tmps : Array Value} (hok : HeapOk w ι M H nx) (hM : ∀ b, M b → b < w.heap.size) (hnt : tmps.size = C.nt) (hsm : C.nt ≤ gs) (hdf : C.dfs = []) (hX : C.X = fun b => M b ∧ ∀ o x, H o = some x → ι o ≠ some b)
    (hv : ∀ i v, i ≠ gs → t.get i = some v → ∃ x, v = .v x ∧ RdA w ι M (tmps.getD i undef) x) : Sim C (St.env ⟨t, H, nx⟩) { tmps := tmps, defers := [] } w ι (fun _ => none) M ∧ Plain ⟨t, H, nx⟩ := by
  have hlv : live (St.env ⟨t, H, nx⟩) = H.get := by funext o; simp [live, St.env_gs]
  refine ⟨⟨hnt, hdf.symm, hsm, ⟨H, nx, St.env_gs _, hok.new⟩, by rw [hlv]; exact hok.objs, by rw [hlv]; exact hok.inj, fun s s' b h => (by cases h), fun o x s b _ _ h => (by cases h), by rw [hlv]; exact hok.ctl, fun s b h => (by cases h), by rw [hlv, hX]; exact fun o x b h1 h2 h3 => h3.2 o x h1 h2, fun s b h => (by cases h),
    by rw [hX]; exact fun b h => hM b h.1, by rw [hX]; exact fun b h => h.1, hM, fun i => ?_⟩, fun i => ?_⟩
  · by_cases hi : i = gs
    · subst hi; rw [St.env_gs]; rfl
    · rw [St.env_ne _ hi]
      show Holds w ι _ M _ _ i ((t.get i).getD .junk)
      cases ht : t.get i with
      | none => trivial
      | some v =>
        obtain ⟨x, rfl, hr⟩ := hv i v hi ht
        exact hr
  · by_cases hi : i = gs
    · exact .inl hi
    · right
      rw [St.env_ne _ hi]
      show ((t.get i).getD .junk).plain = true
      cases ht : t.get i with
      | none => rfl
      | some v =>
        obtain ⟨x, rfl, hr⟩ := hv i v hi ht
        rfl
theorem startS_get : ∀ (ads : List AD) (k : Nat) (t : Tr AV), k + ads.length ≤ 1000000 → ∀ i, (startS ads k t).get i = if k ≤ i ∧ i < k + ads.length then (ads[i - k]?).map .v else t.get i
  | [], k, t, _, i => by simp only [startS, List.length_nil]; rw [if_neg (by omega)]
  | x :: l, k, t, h, i => by
    simp only [List.length_cons] at h
    simp only [startS, List.length_cons]
    rw [startS_get l (k + 1) _ (by omega), Tr.get_set _ _ _ _ (by omega)]
    by_cases h1 : i = k
    · subst h1
      rw [if_neg (by omega), if_pos rfl, if_pos (by omega)]
      simp
    · rw [if_neg h1]
      by_cases h2 : k ≤ i ∧ i < k + (l.length + 1)
      · rw [if_pos h2, if_pos (by omega), show i - k = (i - (k + 1)) + 1 by omega, List.getElem?_cons_succ]
      · rw [if_neg h2, if_neg (by omega)]
theorem setPs_sound {nt : Nat} (hnt : nt ≤ 1000000) : ∀ (ps : List Nat) (ads : List AD) (vals : List Value) (t t' : Tr AV) (tmps : Array Value), setPs nt ps ads t = some t' → tmps.size = nt → vals.length = ads.length → (∀ (j : Nat) v x, vals[j]? = some v → ads[j]? = some x → RdA w ι M v x) →
    (∀ i v, i ≠ gs → t.get i = some v → ∃ x, v = .v x ∧ RdA w ι M (tmps.getD i undef) x) →
    ps.length = ads.length ∧ ((ps.zip vals).foldl (fun tmps (t, a) => tmps.setIfInBounds t a) tmps).size = nt ∧ ∀ i v, i ≠ gs → t'.get i = some v → ∃ x, v = .v x ∧ RdA w ι M (((ps.zip vals).foldl (fun tmps (t, a) => tmps.setIfInBounds t a) tmps).getD i undef) x
  | [], [], vals, t, t', tmps, h, hsz, hl, hr, hv => by
    simp only [setPs, Option.some.injEq] at h
    subst h
    exact ⟨rfl, hsz, hv⟩
  | p :: ps, x :: l, [], t, t', tmps, h, hsz, hl, hr, hv => by simp at hl
  | p :: ps, x :: l, u :: vals, t, t', tmps, h, hsz, hl, hr, hv => by
    simp only [setPs] at h
    split at h
    · rename_i hp
      obtain ⟨h1, h2, h3⟩ := setPs_sound hnt ps l vals _ t' (tmps.setIfInBounds p u) h (by simpa using hsz) (by simpa using hl) (fun j v y hv hy => hr (j + 1) v y (by simpa using hv) (by simpa using hy)) (fun i v hi ht => by
        rw [Tr.get_set _ _ _ _ (by omega)] at ht
        by_cases hip : i = p
        · subst hip
          rw [if_pos rfl] at ht
          injection ht with ht
          refine ⟨x, ht.symm, ?_⟩
          have : (tmps.setIfInBounds i u).getD i undef = u := by simp [Array.getD_eq_getD_getElem?, hsz, hp]
          rw [this]
          exact hr 0 u x rfl rfl
        · rw [if_neg hip] at ht
          obtain ⟨y, hy, hrd⟩ := hv i v hi ht
          refine ⟨y, hy, ?_⟩
          have : (tmps.setIfInBounds p u).getD i undef = tmps.getD i undef := by simp [Array.getD_eq_getD_getElem?, Array.getElem?_setIfInBounds_ne (fun e => hip e.symm)]
          rw [this]; exact hrd)
      exact ⟨by simp [h1], h2, h3⟩
    · cases h
  | [], x :: l, vals, t, t', tmps, h, hsz, hl, hr, hv => by cases h
  | p :: ps, [], vals, t, t', tmps, h, hsz, hl, hr, hv => by cases h
theorem toB_of {v : AV} {x : Bool × List D} (h : toB v = some x) : v = .v (ofB x) := by
  unfold toB at h
  split at h
  · injection h with h; subst h; rfl
  · injection h with h; subst h; rfl
  · cases h
theorem Evo.sh {X : Nat → Prop} {w1 : World} (h : Evo X M w M' w1) (hs : Sh w1 w') (hlow : ∀ b, b < w.heap.size → w'.heap[b]? = w1.heap[b]?) : Evo X M w M' w' :=
  ⟨hs.os.trans h.os, hs.tape.trans h.tape, hs.output.trans h.output, by rw [hs.size]; exact h.size, fun b hb hm => (hlow b hb).trans (h.same b hb hm), h.back, fun b hb hx => (hlow b hb).trans (h.keep b hb hx), fun b cs T hb => by
    obtain ⟨cs', h1, h2⟩ := h.shape b cs T hb
    exact ⟨cs', hs.at_ h1 (by simp), h2⟩⟩
theorem iter_sound {g : Operand} {f : Nat} {caps : List D} (h : Sim C s.env a w ι β M) (hq : iterS s g = some (f, caps)) : ∃ lb : Array Value, a.eval g = .func (.func f) #[] lb ∧ lb.size = caps.length ∧ ∀ (j : Nat) v d, lb[j]? = some v → caps[j]? = some d → Rd w ι M v d := by
  unfold iterS at hq
  split at hq
  · rename_i t
    have hh := h.hold t
    split at hq
    · rename_i f' hE
      simp only [Option.some.injEq, Prod.mk.injEq] at hq
      obtain ⟨rfl, rfl⟩ := hq
      rw [hE] at hh
      have hr : Rd w ι M (valOf a t) (.fn f') := hh
      refine ⟨#[], ?_, rfl, fun j v d hv => by simp at hv⟩
      show valOf a t = _
      generalize valOf a t = u at hr
      cases hr; rfl
    · rename_i f' caps' hE
      simp only [Option.some.injEq, Prod.mk.injEq] at hq
      obtain ⟨rfl, rfl⟩ := hq
      rw [hE] at hh
      have hr : Rd w ι M (valOf a t) (.clo f' caps') := hh
      show ∃ lb, valOf a t = _ ∧ _
      generalize valOf a t = u at hr
      cases hr with
      | clo _ cs _ hn hr => exact ⟨cs, rfl, hn, hr⟩
    · cases hq
  · rename_i f'
    simp only [Option.some.injEq, Prod.mk.injEq] at hq
    obtain ⟨rfl, rfl⟩ := hq
    exact ⟨#[], rfl, rfl, fun j v d hv => by simp at hv⟩
  · cases hq
theorem callee_sound (hS : SysOk S P) (hf : ∀ f, (S.tab f).isSome = true → FnEff P f (e.fn f)) {f : Nat} {ads : List AD} {H H' : Hp} {nx nx' : Nat} {r : RV} (hq : callee S e f ads H nx = some (r, H', nx')) :
    calleeOk P f = true ∧ ∃ F, FnEff P f F ∧ F ads H nx = some (r, H', nx') := by
  unfold callee at hq
  split at hq
  · split at hq
    · rename_i ht
      obtain ⟨fd, hfd⟩ := Option.isSome_iff_exists.1 ht
      obtain ⟨_, _, _, _, _, hok⟩ := hS.tab f fd hfd
      exact ⟨hok, _, hf f ht, hq⟩
    · cases hq
  · rename_i F hb
    have := hS.base f (by rw [hb]; simp)
    rw [hb] at this
    exact ⟨this.2, F, this.1, hq⟩
  · cases hq
end
end Go.Proofs.YtmhinddneefmbaaGreat.Pe
