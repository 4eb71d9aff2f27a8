/- A part of the proof of JbH. -/
import Derived.Test.YtmhinddneefmbaaGreatKw25
set_option linter.unusedSimpArgs false
set_option linter.unusedVariables false
set_option linter.unusedSectionVars false
namespace Go.Proofs.YtmhinddneefmbaaGreat.Pe
open Go
structure SysOk (S : Sys) (P : Program) : Prop where
  mixed : P.follows .mixedOrders = true
  tt : ∀ t, S.tt t = dflt ∨ TyOk P t (S.tt t)
  eqz : ∀ t k, S.eqz t = some k → EqZOk P t k
  tab : ∀ f fd, S.tab f = some fd → ∃ fn, P.funcs[f]? = some fn ∧ fn.body = some fd.body ∧ fn.ntmps = fd.nt ∧ fn.results.toList = fd.res ∧ calleeOk P f = true
  base : ∀ f, S.base f ≠ .none → SOk P f (S.base f) ∧ cok P f (S.base f) = true
section
variable {P : Program} {S : Sys} {C C' : Ctx} {E E1 : Env} {a : Act} {w w' : World} {ι ι' β : Nat → Option Nat} {M M' : Nat → Prop} {e : Evs} {s s' : St}
theorem Sim.ctx (h : Sim C E a w ι β M) (h1 : C'.nt = C.nt) (h2 : C'.X = C.X) (h3 : C'.dfs = C.dfs) : Sim C' E a w ι β M :=
  ⟨by rw [h1]; exact h.size, by rw [h3]; exact h.defs, by rw [h1]; exact h.small, h.hp, h.objs, h.injO, h.injB, h.disj, h.ctlO, h.ctlB, by rw [h2]; exact h.xO, by rw [h2]; exact h.xB, by rw [h2]; exact h.xlt, by rw [h2]; exact h.xM, h.lt, h.hold⟩
theorem Sim.dfr (h : Sim C E a w ι β M) (ds : List Deferred) : Sim { C with dfs := ds } E { a with defers := ds } w ι β M :=
  ⟨h.size, rfl, h.small, h.hp, h.objs, h.injO, h.injB, h.disj, h.ctlO, h.ctlB, h.xO, h.xB, h.xlt, h.xM, h.lt, h.hold⟩
theorem Sim.heq (h : Sim C E a w ι β M) {H H' : Hp} {nx : Nat} (hE : E gs = .heap H nx) (hH : ∀ o, H' o = H o) : Sim C (upd E gs (.heap H' nx)) a w ι β M := by
  have hk := h.heapOk hE
  refine (after_eff h hE (H' := H') (nx' := nx) (w' := w) (ι' := ι) (M' := M) ⟨⟨hk.new, fun o ob ho => hk.objs o ob (by rw [← hH]; exact ho), fun o o' x x' b h1 h2 => hk.inj o o' x x' b (by rw [← hH]; exact h1) (by rw [← hH]; exact h2), fun o x b h1 => hk.ctl o x b (by rw [← hH]; exact h1)⟩,
    fun _ _ h => h, ?_, fun b hb _ => hb, fun b _ hb => hb, h.lt⟩).1
  exact ⟨rfl, rfl, rfl, Nat.le_refl _, fun _ _ _ => rfl, fun b _ ⟨o, x, h1, h2⟩ => ⟨o, x, by rw [← hH]; exact h1, h2⟩, fun _ _ h => h.elim, .refl _⟩
theorem Plain.heap (h : Plain s) (H : Hp) (nx : Nat) : Plain ⟨s.t, H, nx⟩ := fun i => by
  rcases h i with h | h
  · exact .inl h
  · by_cases hi : i = gs
    · exact .inl hi
    · rw [St.env_ne _ hi] at h ⊢; exact .inr h
theorem St.flat_sim (hf : s.flat = some s') (h : Sim C s.env a w ι β M) (hp : Plain s) : Sim C s'.env a w ι β M ∧ Plain s' := by
  unfold St.flat at hf
  cases ht : s.H.flat with
  | none => rw [ht] at hf; cases hf
  | some t =>
    rw [ht] at hf
    simp only [Option.map_some, Option.some.injEq] at hf
    subst hf
    refine ⟨?_, hp.heap _ _⟩
    rw [St.env_H]
    exact h.heq (St.env_gs s) fun o => (Hp.flat_get _ _ ht o).symm
structure Bs where
  lo : Nat
  base : List Deferred
def Marks (B : Bs) (ds : List Deferred) (w : World) (M : Nat → Prop) : Prop :=
  ∃ ms : List Deferred, ds = ms ++ B.base ∧ ms.Pairwise (fun d d' => ∀ D, d.target = .collected D → d'.target ≠ .collected D) ∧ ∀ d ∈ ms, ∃ D, d.target = .collected D ∧ B.lo ≤ D ∧ w.heap[D]? = some (.deferred (some [])) ∧ ¬ M D
theorem Marks.mono {X : Nat → Prop} {B : Bs} {ds : List Deferred} (h : Marks B ds w M) (he : Evo X M w M' w') : Marks B ds w' M' := by
  obtain ⟨ms, h0, h1, h2⟩ := h
  refine ⟨ms, h0, h1, fun d hd => ?_⟩
  obtain ⟨D, h1, h2, h3, h4⟩ := h2 d hd
  have hlt : D < w.heap.size := (Array.getElem?_eq_some_iff.1 h3).1
  exact ⟨D, h1, h2, (he.same _ hlt h4).trans h3, fun hm => h4 (he.back _ hlt hm)⟩
theorem Marks.none (lo : Nat) (ds : List Deferred) (w : World) (M : Nat → Prop) : Marks ⟨lo, ds⟩ ds w M := ⟨[], rfl, List.Pairwise.nil, fun d hd => by cases hd⟩
theorem grdQ_cx (C : Ctx) (X : Nat → Prop) (ds : List Deferred) (ops : Array Oper) (i : Nat) (o : Oper) : grdQ { C with X := X, dfs := ds } ops i o = grdQ C ops i o := rfl
theorem runRec_cx (C : Ctx) (X : Nat → Prop) (ds : List Deferred) (ops : Array Oper) (late : List Nat) : ∀ (l : List Oper) (k : Nat) (s : St), runRec { C with X := X, dfs := ds } ops late k l s = runRec C ops late k l s
  | [], k, s => rfl
  | o :: l, k, s => by
    simp only [runRec, grdQ_cx]
    split
    · split
      · rw [runRec_cx C X ds ops late l]
      · rfl
    · rfl
theorem indepS_cx (C : Ctx) (X : Nat → Prop) (ds : List Deferred) (ops : Array Oper) (rs : List OpRec) (sf : St) : indepS { C with X := X, dfs := ds } ops rs sf = indepS C ops rs sf := rfl
theorem twoS_cx (C : Ctx) (X : Nat → Prop) (ds : List Deferred) (ops : Array Oper) (late : List Nat) (s : St) : twoS { C with X := X, dfs := ds } ops late s = twoS C ops late s := by
  unfold twoS
  simp only [runRec_cx, indepS_cx]
  rfl
theorem pubS_sound : ∀ (l : List Nat) (s s' : St) (ι β : Nat → Option Nat), pubS C.nt l s = some s' → Sim C s.env a w ι β M → PlainBut l s → ∃ ι' β', (∀ o b, ι o = some b → ι' o = some b) ∧ Sim C s'.env a w ι' β' M ∧ Plain s'
  | [], s, s', ι, β, h, hs, hp => by
    simp only [pubS, Option.some.injEq] at h
    subst h
    exact ⟨ι, β, fun _ _ h => h, hs, fun i => by have := hp i; simpa using this⟩
  | d :: l, s, s', ι, β, h, hs, hp => by
    simp only [pubS] at h
    split at h
    · rename_i hd
      split at h
      · rename_i u' s1 r u hr
        split at h
        · rename_i hall
          simp only [Bool.and_eq_true] at hall
          obtain ⟨q1, _, _⟩ := Q.runS_at hr
          obtain ⟨ι1, β1, hi1, hs1⟩ := pub_sound hs hd q1
          obtain ⟨ι2, β2, hi2, hs2, hp2⟩ := pubS_sound l s1 s' ι1 β1 h hs1 (fun i => by
            by_cases hi : i ∈ u
            · have := List.all_eq_true.1 hall.1 i hi
              simp only [Bool.or_eq_true, beq_iff_eq] at this
              rcases this with h' | h'
              · exact .inl h'
              · exact .inr (.inr h')
            · rw [(Q.runS_same hr).2 i hi]
              rcases hp i with h' | h' | h'
              · exact .inl h'
              · rcases List.mem_cons.1 h' with e | h'
                · subst e
                  right; right
                  have := hall.2
                  rwa [(Q.runS_same hr).2 i hi] at this
                · exact .inr (.inl h')
              · exact .inr (.inr h'))
          exact ⟨ι2, β2, fun o b h => hi2 o b (hi1 o b h), hs2, hp2⟩
        · cases h
      · cases h
    · cases h
theorem ctx_ok (hS : SysOk S P) (hf : ∀ f, (S.tab f).isSome = true → FnEff P f (e.fn f)) (hy : YldOk P e.yld) (nt : Nat) (X : Nat → Prop) (ds : List Deferred) (pub : Nat → Bool) : Ctx.Ok { ctxS S e nt with X := X, dfs := ds, pub := pub } P := by
  have key : ∀ f F, (ctxS S e nt).fns f = F → F ≠ .none → SOk P f F ∧ cok P f F = true := by
    intro f F h hn
    simp only [ctxS] at h
    split at h
    · split at h
      · rename_i ht
        subst h
        refine ⟨hf f ht, ?_⟩
        obtain ⟨fd, hfd⟩ := Option.isSome_iff_exists.1 ht
        obtain ⟨_, _, _, _, _, hok⟩ := hS.tab f fd hfd
        exact hok
      · exact absurd h.symm hn
    · rename_i hb
      subst h
      exact hS.base f hb
  refine ⟨hS.tt, fun f F h => key f _ h (by simp), fun f F h => key f _ h (by simp), fun t h => (by cases h), fun f F h => key f _ h (by simp), fun f F h => (key f _ h (by simp)).1, fun f F h => key f _ h (by simp), hy, hS.eqz⟩
theorem Txt.run {C : Ctx} {ops : Array Oper} {k : Nat} {l : List Oper} {E E1 : Env} {fp : List (List Nat × List (Nat × AV))} (h : Txt C ops k l E E1 fp) : (runFrom C ops k l).run E = some ((), E1) := by
  induction h with
  | nil => rfl
  | cons h t ih =>
    simp only [runFrom]
    rw [Q.run_bind, h]
    exact ih
theorem reg_sound (hS : SysOk S P) (hf : ∀ f, (S.tab f).isSome = true → FnEff P f (e.fn f)) (hy : YldOk P e.yld) {id nt : Nat} {ops : Array Oper} {d : Bool} {ro : Option Nat} {n : Nat} {Qx : Exit → Act → World → Prop} (hq : regS (ctxS S e nt) ops d s = some s') (hnt : C.nt = nt)
    (h : Sim C s.env a w ι β M) (hp : Plain s) (hK : ∀ a' w' ι' β' M', Sim C s'.env a' w' ι' β' M' → Plain s' → Evo C.X M w M' w' → (∀ o b, ι o = some b → ι' o = some b) → Qx .normal a' w') : (Code.region id ops d).wpIn (Fx ro) n P Qx a w := by
  unfold regS at hq
  split at hq
  · rename_i hdr
    subst hdr
    have hC := ctx_ok hS hf hy nt C.X C.dfs (fun d => !((lateOf ops).contains d))
    have h0 : Sim { ctxS S e nt with X := C.X, dfs := C.dfs, pub := fun d => !((lateOf ops).contains d) } s.env a w ι β M := h.ctx hnt.symm rfl rfl
    simp only at hq
    split at hq
    · rename_i sf rs hr
      split at hq
      · rename_i hin
        cases hps : pubS (ctxS S e nt).nt (lateOf ops) sf with
        | none => rw [hps] at hq; cases hq
        | some s2 =>
          rw [hps] at hq
          have hr' := hr
          rw [← runRec_cx { ctxS S e nt with pub := fun d => !((lateOf ops).contains d) } C.X C.dfs] at hr
          obtain ⟨_, _, _, hpb, _⟩ := runRec_txt _ _ _ _ _ hr
          refine draw_soundS hS.mixed hC hr hin h0 hp.gens fun a' w' ι' β' M' sm ev i => ?_
          have sm1 : Sim C sf.env a' w' ι' β' M' := sm.ctx (C' := C) hnt rfl rfl
          obtain ⟨ι2, β2, hi2, sm2, pl2⟩ := pubS_sound (C := C) (lateOf ops) sf s2 ι' β' (by rw [hnt]; exact hps) sm1 (hpb fun i => by
            rcases hp i with h' | h'
            · exact .inl h'
            · exact .inr (.inr h'))
          obtain ⟨k1, k2⟩ := St.flat_sim hq sm2 pl2
          exact hK a' w' ι2 β2 M' k1 k2 ev fun o b h => hi2 o b (i o b h)
      · cases ht : twoS { ctxS S e nt with pub := fun d => !((lateOf ops).contains d) } ops (lateOf ops) s with
        | none => rw [ht] at hq; cases hq
        | some sf' =>
          rw [ht] at hq
          simp only [Option.bind_some] at hq
          cases hps : pubS (ctxS S e nt).nt (lateOf ops) sf' with
          | none => rw [hps] at hq; cases hq
          | some s2 =>
            rw [hps] at hq
            rw [← twoS_cx { ctxS S e nt with pub := fun d => !((lateOf ops).contains d) } C.X C.dfs] at ht
            refine two_region hS.mixed hC ht h0 hp.gens (fun i => by
              rcases hp i with h' | h'
              · exact .inl h'
              · exact .inr (.inr h')) fun a' w' ι' β' M' sm plf ev i => ?_
            have sm1 : Sim C sf'.env a' w' ι' β' M' := sm.ctx (C' := C) hnt rfl rfl
            obtain ⟨ι2, β2, hi2, sm2, pl2⟩ := pubS_sound (C := C) (lateOf ops) sf' s2 ι' β' (by rw [hnt]; exact hps) sm1 plf
            obtain ⟨k1, k2⟩ := St.flat_sim hq sm2 pl2
            exact hK a' w' ι2 β2 M' k1 k2 ev fun o b h => hi2 o b (i o b h)
    · cases hq
  · rename_i hdr
    have hdf : d = false := by simpa using hdr
    subst hdf
    have hC := ctx_ok hS hf hy nt C.X C.dfs (fun _ => true)
    have h0 : Sim { ctxS S e nt with X := C.X, dfs := C.dfs } s.env a w ι β M := h.ctx hnt.symm rfl rfl
    split at hq
    · rename_i sf hrf
      obtain ⟨rs, hr⟩ := runF_ok (C := ctxS S e nt) ⟨fun _ => rfl, rfl, fun _ => rfl, fun _ => rfl⟩ hrf
      rw [← runRec_cx (ctxS S e nt) C.X C.dfs] at hr
      obtain ⟨htx, _, _, hpb, _⟩ := runRec_txt _ _ _ _ _ hr
      have hrun := htx.run
      refine wpIn_region ?_
      rw [List.range_eq_range', ← Array.length_toList]
      refine ops_sound hC ops.toList 0 s.env a w ι β M (fun j => by simp) hrun h0 hp.gens fun a' w' ι' β' M' sm _ ev i => ?_
      have pl : Plain sf := fun i => by
        have := hpb (fun i => by
          rcases hp i with h' | h'
          · exact .inl h'
          · exact .inr (.inr h')) i
        simpa using this
      obtain ⟨k1, k2⟩ := St.flat_sim hq (sm.ctx (C' := C) hnt rfl rfl) pl
      exact hK a' w' ι' β' M' k1 k2 ev i
    · unfold regL at hq
      simp only at hq
      have hC := ctx_ok hS hf hy nt C.X C.dfs (fun d => !((bareOf ops).contains d))
      have h0 : Sim { ctxS S e nt with X := C.X, dfs := C.dfs, pub := fun d => !((bareOf ops).contains d) } s.env a w ι β M := h.ctx hnt.symm rfl rfl
      split at hq
      · rename_i sf rs hr
        split at hq
        · rename_i hall
          rw [← runRec_cx { ctxS S e nt with pub := fun d => !((bareOf ops).contains d) } C.X C.dfs] at hr
          obtain ⟨htx, _, _, hpb, _⟩ := runRec_txt _ _ _ _ _ hr
          have hrun := htx.run
          refine wpIn_region ?_
          rw [List.range_eq_range', ← Array.length_toList]
          refine ops_sound hC ops.toList 0 s.env a w ι β M (fun j => by simp) hrun h0 hp.gens fun a' w' ι' β' M' sm _ ev i => ?_
          have pl : Plain sf := fun i => by
            rcases hpb (fun i => by
              rcases hp i with h' | h'
              · exact .inl h'
              · exact .inr (.inr h')) i with h' | h' | h'
            · exact .inl h'
            · exact .inr (List.all_eq_true.1 hall i h')
            · exact .inr h'
          obtain ⟨k1, k2⟩ := St.flat_sim hq (sm.ctx (C' := C) hnt rfl rfl) pl
          exact hK a' w' ι' β' M' k1 k2 ev i
        · cases hq
      · cases hq
theorem cond_sound {c : Operand} {b : Bool} (h : Sim C s.env a w ι β M) (hc : condS s c = some b) : a.eval c = .bool b := by
  unfold condS at hc
  split at hc
  · rename_i t
    split at hc
    · rename_i b' hE
      injection hc with hc; subst hc
      have hh := h.hold t
      rw [hE] at hh
      have hr : Rd w ι M (valOf a t) (.bool b') := hh
      show valOf a t = _
      generalize valOf a t = u at hr
      cases hr; rfl
    · cases hc
  · injection hc with hc; subst hc; rfl
  · cases hc
structure Sh (w w' : World) : Prop where
  os : w'.os = w.os
  tape : w'.tape = w.tape
  output : w'.output = w.output
  size : w'.heap.size = w.heap.size
  same : ∀ b : Nat, w'.heap[b]? = w.heap[b]? ∨ ∃ ds, w.heap[b]? = some (Obj.deferred ds)
theorem Sh.refl (w : World) : Sh w w := ⟨rfl, rfl, rfl, rfl, fun _ => .inl rfl⟩
theorem Sh.at_ (h : Sh w w') {b : Nat} {o : Obj} (ho : w.heap[b]? = some o) (hd : ∀ ds, o ≠ .deferred ds) : w'.heap[b]? = some o := by
  rcases h.same b with h1 | ⟨ds, h1⟩
  · exact h1.trans ho
  · rw [ho] at h1; injection h1 with h1; exact absurd h1 (hd ds)
theorem Sh.cell (h : Sh w w') {ad : Addr} {v : Value} (hc : w.cell? ad = some v) : w'.cell? ad = some v := by
  rw [← hc]
  refine World.cell?_of_block ?_
  cases ho : w.heap[ad.block]? with
  | none => simp [World.cell?, ho] at hc
  | some o =>
    refine h.at_ ho fun ds e => ?_
    subst e
    simp [World.cell?, ho] at hc
theorem Rd.sh {v : Value} {d : D} (h : Rd w ι M v d) (hs : Sh w w') : Rd w' ι M v d := by
  induction h with
  | int => exact .int _ _
  | bool => exact .bool _
  | str => exact .str _
  | nil => exact .nil _ _
  | sl a n c sz rows f hn h0 hnc hsz hs' ha hm hc hr ih => exact .sl a n c sz rows f hn h0 hnc hsz hs' ha hm (fun i j hi hj => hs.cell (hc i j hi hj)) ih
  | ptr o sz i off b h hz => exact .ptr _ _ _ _ _ h hz
  | nilp => exact .nilp
  | ref o sz i n c b h hnc hcm hz hc =>
    obtain ⟨cs, T, h1, h2⟩ := hc
    exact .ref _ _ _ _ _ _ h hnc hcm hz ⟨cs, T, hs.at_ h1 (by simp), h2⟩
  | fn => exact .fn _
  | nilm => exact .nilm
  | nilf => exact .nilf
  | anyb b => exact .anyb b
  | hole v h1 => exact .hole v h1
  | refc o sz i n c b h hnc hcm hz hc =>
    obtain ⟨cs, T, h1, h2⟩ := hc
    exact .refc _ _ _ _ _ _ h hnc hcm hz ⟨cs, T, hs.at_ h1 (by simp), h2⟩
  | mp o b h => exact .mp _ _ h
  | nils => exact .nils
  | yl o b h => exact .yl _ _ h
  | clo f cs caps hn hr ih => exact .clo f cs caps hn ih
theorem RdL.sh {vs : List Value} {ds : List D} (h : RdL w ι M vs ds) (hs : Sh w w') : RdL w' ι M vs ds := ⟨h.1, fun j v d hv hd => (h.2 j v d hv hd).sh hs⟩
theorem RdA.sh {v : Value} {x : AD} (h : RdA w ι M v x) (hs : Sh w w') : RdA w' ι M v x := by
  cases x with
  | one d => exact Rd.sh h hs
  | many ds => obtain ⟨cs, e, hl⟩ := h; exact ⟨cs, e, hl.sh hs⟩
theorem RdT.sh {v : Value} {l : List AD} (h : RdT w ι M v l) (hs : Sh w w') : RdT w' ι M v l := by
  obtain ⟨vs, e, hl, hr⟩ := h
  exact ⟨vs, e, hl, fun j v x hv hx => (hr j v x hv hx).sh hs⟩
theorem ObjAt.sh {b : Nat} {ob : PObj} (h : ObjAt w ι M b ob) (hs : Sh w w') : ObjAt w' ι M b ob := by
  rcases h with ⟨h0, ⟨hn, es, clock, h1, h2, h3, h4⟩ | ⟨nt, env, ps, assign, body, busy, jump, hr, r, h1, h2, h3, h4, h5, h6, h7, h8⟩ | ⟨t, n, T, cs, hr, hT, h1, h2, h3, h4, h5, h6⟩ | ⟨t, n, T, cs, hr, hT, h1, h2, h3, h4, h5, h6⟩⟩ | ⟨T, cs, hT, h1, h2, h3, h4, h5, h6⟩
  · exact .inl ⟨h0, .inl ⟨hn, es, clock, hs.at_ h1 (by simp), let ⟨rs, g1, g2, g3⟩ := h2; ⟨rs, g1, g2, fun i e r he hr => let ⟨k, v, q1, q2, q3⟩ := g3 i e r he hr; ⟨k, v, q1, q2.sh hs, q3.sh hs⟩⟩, h3, h4⟩⟩
  · exact .inl ⟨h0, .inr (.inl ⟨nt, env, ps, assign, body, busy, jump, hr, r, hs.at_ h1 (by simp), h2, h3, h4, h5, h6, h7, fun s x hne hx => (h8 s x hne hx).sh hs⟩)⟩
  · exact .inl ⟨h0, .inr (.inr (.inl ⟨t, n, T, cs, hr, hT, hs.at_ h1 (by simp), h2, h3, h4, fun i j r d hr hd => let ⟨v, q1, q2⟩ := h5 i j r d hr hd; ⟨v, q1, q2.sh hs⟩, h6⟩))⟩
  · exact .inl ⟨h0, .inr (.inr (.inr ⟨t, n, T, cs, hr, hT, hs.at_ h1 (by simp), h2, h3, h4, fun i j r d hr hd => let ⟨v, q1, q2⟩ := h5 i j r d hr hd; ⟨v, q1, q2.sh hs⟩, h6⟩))⟩
  · exact .inr ⟨T, cs, hT, hs.at_ h1 (by simp), h2, h3, h4, fun i j r d hr hd => let ⟨v, q1, q2⟩ := h5 i j r d hr hd; ⟨v, q1, q2.sh hs⟩, h6⟩
theorem Sim.sh (h : Sim C s.env a w ι β M) (hp : Plain s) (hs : Sh w w') : Sim C s.env a w' ι β M :=
  ⟨h.size, h.defs, h.small, h.hp, fun o ob hl => let ⟨b, h1, h2⟩ := h.objs o ob hl; ⟨b, h1, h2.sh hs⟩, h.injO, h.injB, h.disj, h.ctlO, h.ctlB, h.xO, h.xB, fun b hb => by rw [hs.size]; exact h.xlt b hb, h.xM, fun b hb => by rw [hs.size]; exact h.lt b hb, fun i => by
    have hh := h.hold i
    rcases hp i with rfl | hpl
    · rw [St.env_gs] at hh ⊢; exact hh
    · cases hE : s.env i with
      | v x => rw [hE] at hh; exact RdA.sh hh hs
      | tup l => rw [hE] at hh; exact RdT.sh hh hs
      | imm rows j off =>
        rw [hE] at hh
        obtain ⟨ad, sz, ⟨q1, q2, q3, q4, q5, q6⟩, q7⟩ := hh
        exact ⟨ad, sz, ⟨q1, q2, q3, q4, by rw [hs.size]; exact q5, fun i j r d hr hd => let ⟨v, z1, z2⟩ := q6 i j r d hr hd; ⟨v, hs.cell z1, z2.sh hs⟩⟩, q7⟩
      | junk => trivial
      | _ => rw [hE] at hpl; cases hpl⟩
theorem leaves_marks {ro : Option Nat} {n : Nat} {B : Bs} {fn : Func} {tmps : Array Value} {R : Ending → World → Prop} (ds : List Deferred) (w : World) (hm : Marks B ds w M) (hB : B.lo ≤ w.heap.size) (h : ∀ w', Sh w w' → (∀ b : Nat, b < B.lo → w'.heap[b]? = w.heap[b]?) → LeavesInM (Fx ro) n P fn tmps R B.base .returning w') :
    LeavesInM (Fx ro) n P fn tmps R ds .returning w := by
  obtain ⟨ms, rfl, hp, hd⟩ := hm
  induction ms generalizing w with
  | nil => exact h w (Sh.refl w) (fun _ _ => rfl)
  | cons d ms ih =>
    obtain ⟨D, h1, h2, h3, h4⟩ := hd d List.mem_cons_self
    have hlt : D < w.heap.size := (Array.getElem?_eq_some_iff.1 h3).1
    have hne : ∀ D', D' ≠ D → (w.putObj D (.deferred none)).heap[D']? = w.heap[D']? := fun D' hne => World.putObj_heap_other hne
    refine ⟨by simp, .inl ⟨D, w.putObj D (.deferred none), h1, run_takeDeferred h3, ?_⟩⟩
    have hsh : Sh w (w.putObj D (.deferred none)) := ⟨rfl, rfl, rfl, World.putObj_size, fun b => by
      by_cases hb : b = D
      · subst hb; exact .inr ⟨_, h3⟩
      · exact .inl (hne b hb)⟩
    refine ih (w.putObj D (.deferred none)) (by rw [World.putObj_size]; exact hB) (fun w' hs hb => ?_) (List.pairwise_cons.1 hp).2 (fun d' hd' => ?_)
    · refine h w' ⟨hs.os, hs.tape, hs.output, hs.size.trans World.putObj_size, fun b => ?_⟩ fun b hlt => (hb b hlt).trans (hne b (by omega))
      rcases hs.same b with q | ⟨ds', q⟩
      · rcases hsh.same b with z | z
        · exact .inl (q.trans z)
        · exact .inr z
      · by_cases hbD : b = D
        · subst hbD; exact .inr ⟨_, h3⟩
        · exact .inr ⟨ds', (hne b hbD).symm.trans q⟩
    · obtain ⟨D', q1, q2, q3, q4⟩ := hd d' (List.mem_cons_of_mem _ hd')
      have hDD : D' ≠ D := fun e => (List.pairwise_cons.1 hp).1 d' hd' D h1 (e ▸ q1)
      exact ⟨D', q1, q2, (hne D' hDD).trans q3, q4⟩
end
end Go.Proofs.YtmhinddneefmbaaGreat.Pe
