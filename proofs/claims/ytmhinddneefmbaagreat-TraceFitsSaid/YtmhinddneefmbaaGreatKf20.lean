/- A part of the proof of JdH. -/
import Derived.Test.YtmhinddneefmbaaGreatKf19
set_option linter.unusedSimpArgs false
set_option linter.unusedVariables false
set_option linter.unusedSectionVars false
namespace Go.Proofs.YtmhinddneefmbaaGreat.Pe
open Go
structure SysOk (S : Sys) (P : Program) : Prop where
  mixed : P.follows .mixedOrders = true
  tt : ∀ t, S.tt t = dflt ∨ TyOk P t (S.tt t)
  eqz : ∀ t k, S.eqz t = some k → EqZOk P t k
  tab : ∀ f fd, S.tab f = some fd → ∃ fn, P.funcs[f]? = some fn ∧ fn.body = some fd.body ∧ fn.ntmps = fd.nt ∧ fn.results.toList = fd.res ∧ calleeOk P f = true
  base : ∀ f, S.base f ≠ .none → SOk P f (S.base f) ∧ cok P f (S.base f) = true
section
variable {P : Program} {S : Sys} {C C' : Ctx} {E E1 : Env} {a : Act} {w w' : World} {ι ι' β : Nat → Option Nat} {M M' : Nat → Prop} {e : Evs} {s s' : St}
theorem Sim.ctx (h : Sim C E a w ι β M) (h1 : C'.nt = C.nt) (h2 : C'.X = C.X) (h3 : C'.dfs = C.dfs) : Sim C' E a w ι β M :=
  ⟨by rw [h1]; exact h.size, by rw [h3]; exact h.defs, by rw [h1]; exact h.small, h.hp, h.objs, h.injO, h.injB, h.disj, h.ctlO, h.ctlB, by rw [h2]; exact h.xO, by rw [h2]; exact h.xB, by rw [h2]; exact h.xlt, by rw [h2]; exact h.xM, h.lt, h.hold⟩
theorem Sim.dfr (h : Sim C E a w ι β M) (ds : List Deferred) : Sim { C with dfs := ds } E { a with defers := ds } w ι β M :=
  ⟨h.size, rfl, h.small, h.hp, h.objs, h.injO, h.injB, h.disj, h.ctlO, h.ctlB, h.xO, h.xB, h.xlt, h.xM, h.lt, h.hold⟩
theorem Sim.heq (h : Sim C E a w ι β M) {H H' : Hp} {nx : Nat} (hE : E gs = .heap H nx) (hH : ∀ o, H' o = H o) : Sim C (upd E gs (.heap H' nx)) a w ι β M := by
  have hk := h.heapOk hE
  refine (after_eff h hE (H' := H') (nx' := nx) (w' := w) (ι' := ι) (M' := M) ⟨⟨hk.new, fun o ob ho => hk.objs o ob (by rw [← hH]; exact ho), fun o o' x x' b h1 h2 => hk.inj o o' x x' b (by rw [← hH]; exact h1) (by rw [← hH]; exact h2), fun o x b h1 => hk.ctl o x b (by rw [← hH]; exact h1)⟩,
    fun _ _ h => h, ?_, fun b hb _ => hb, fun b _ hb => hb, h.lt⟩).1
  exact ⟨rfl, rfl, rfl, Nat.le_refl _, fun _ _ _ => rfl, fun b _ ⟨o, x, h1, h2⟩ => ⟨o, x, by rw [← hH]; exact h1, h2⟩, fun _ _ h => h.elim, .refl _⟩
theorem Plain.heap (h : Plain s) (H : Hp) (nx : Nat) : Plain ⟨s.t, H, nx⟩ := fun i => by
  rcases h i with h | h
  · exact .inl h
  · by_cases hi : i = gs
    · exact .inl hi
    · rw [St.env_ne _ hi] at h ⊢; exact .inr h
theorem St.flat_sim (hf : s.flat = some s') (h : Sim C s.env a w ι β M) (hp : Plain s) : Sim C s'.env a w ι β M ∧ Plain s' := by
  unfold St.flat at hf
  cases ht : s.H.flat with
  | none => rw [ht] at hf; cases hf
  | some t =>
    rw [ht] at hf
    simp only [Option.map_some, Option.some.injEq] at hf
    subst hf
    refine ⟨?_, hp.heap _ _⟩
    rw [St.env_H]
    exact h.heq (St.env_gs s) fun o => (Hp.flat_get _ _ ht o).symm
structure Bs where
  lo : Nat
  base : List Deferred
def Marks (B : Bs) (ds : List Deferred) (w : World) (M : Nat → Prop) : Prop :=
  ∃ ms : List Deferred, ds = ms ++ B.base ∧ ms.Pairwise (fun d d' => ∀ D, d.target = .collected D → d'.target ≠ .collected D) ∧ ∀ d ∈ ms, ∃ D, d.target = .collected D ∧ B.lo ≤ D ∧ w.heap[D]? = some (.deferred (some [])) ∧ ¬ M D
theorem Marks.mono {X : Nat → Prop} {B : Bs} {ds : List Deferred} (h : Marks B ds w M) (he : Evo X M w M' w') : Marks B ds w' M' := by
  obtain ⟨ms, h0, h1, h2⟩ := h
  refine ⟨ms, h0, h1, fun d hd => ?_⟩
  obtain ⟨D, h1, h2, h3, h4⟩ := h2 d hd
  have hlt : D < w.heap.size := (Array.getElem?_eq_some_iff.1 h3).1
  exact ⟨D, h1, h2, (he.same _ hlt h4).trans h3, fun hm => h4 (he.back _ hlt hm)⟩
theorem Marks.none (lo : Nat) (ds : List Deferred) (w : World) (M : Nat → Prop) : Marks ⟨lo, ds⟩ ds w M := ⟨[], rfl, List.Pairwise.nil, fun d hd => by cases hd⟩
theorem grdQ_cx (C : Ctx) (X : Nat → Prop) (ds : List Deferred) (ops : Array Oper) (i : Nat) (o : Oper) : grdQ { C with X := X, dfs := ds } ops i o = grdQ C ops i o := rfl
theorem runRec_cx (C : Ctx) (X : Nat → Prop) (ds : List Deferred) (ops : Array Oper) (late : List Nat) : ∀ (l : List Oper) (k : Nat) (s : St), runRec { C with X := X, dfs := ds } ops late k l s = runRec C ops late k l s
  | [], k, s => rfl
  | o :: l, k, s => by
    simp only [runRec, grdQ_cx]
    split
    · split
      · rw [runRec_cx C X ds ops late l]
      · rfl
    · rfl
theorem indepS_cx (C : Ctx) (X : Nat → Prop) (ds : List Deferred) (ops : Array Oper) (rs : List OpRec) (sf : St) : indepS { C with X := X, dfs := ds } ops rs sf = indepS C ops rs sf := rfl
theorem twoS_cx (C : Ctx) (X : Nat → Prop) (ds : List Deferred) (ops : Array Oper) (late : List Nat) (s : St) : twoS { C with X := X, dfs := ds } ops late s = twoS C ops late s := by
  unfold twoS
  simp only [runRec_cx, indepS_cx]
  rfl
theorem pubS_sound : ∀ (l : List Nat) (s s' : St) (ι β : Nat → Option Nat), pubS C.nt l s = some s' → Sim C s.env a w ι β M → PlainBut l s → ∃ ι' β', (∀ o b, ι o = some b → ι' o = some b) ∧ Sim C s'.env a w ι' β' M ∧ Plain s'
  | [], s, s', ι, β, h, hs, hp => by
    simp only [pubS, Option.some.injEq] at h
    subst h
    exact ⟨ι, β, fun _ _ h => h, hs, fun i => by have := hp i; simpa using this⟩
  | d :: l, s, s', ι, β, h, hs, hp => by
    simp only [pubS] at h
    split at h
    · rename_i hd
      split at h
      · rename_i u' s1 r u hr
        split at h
        · rename_i hall
          simp only [Bool.and_eq_true] at hall
          obtain ⟨q1, _, _⟩ := Q.runS_at hr
          obtain ⟨ι1, β1, hi1, hs1⟩ := pub_sound hs hd q1
          obtain ⟨ι2, β2, hi2, hs2, hp2⟩ := pubS_sound l s1 s' ι1 β1 h hs1 (fun i => by
            by_cases hi : i ∈ u
            · have := List.all_eq_true.1 hall.1 i hi
              simp only [Bool.or_eq_true, beq_iff_eq] at this
              rcases this with h' | h'
              · exact .inl h'
              · exact .inr (.inr h')
            · rw [(Q.runS_same hr).2 i hi]
              rcases hp i with h' | h' | h'
              · exact .inl h'
              · rcases List.mem_cons.1 h' with e | h'
                · subst e
                  right; right
                  have := hall.2
                  rwa [(Q.runS_same hr).2 i hi] at this
                · exact .inr (.inl h')
              · exact .inr (.inr h'))
          exact ⟨ι2, β2, fun o b h => hi2 o b (hi1 o b h), hs2, hp2⟩
        · cases h
      · cases h
    · cases h
theorem ctx_ok (hS : SysOk S P) (hf : ∀ f, (S.tab f).isSome = true → FnEff P f (e.fn f)) (hy : YldOk P e.yld) (nt : Nat) (X : Nat → Prop) (ds : List Deferred) (pub : Nat → Bool) : Ctx.Ok { ctxS S e nt with X := X, dfs := ds, pub := pub } P := by
  have key : ∀ f F, (ctxS S e nt).fns f = F → F ≠ .none → SOk P f F ∧ cok P f F = true := by
    intro f F h hn
    simp only [ctxS] at h
    split at h
    · split at h
      · rename_i ht
        subst h
        refine ⟨hf f ht, ?_⟩
        obtain ⟨fd, hfd⟩ := Option.isSome_iff_exists.1 ht
        obtain ⟨_, _, _, _, _, hok⟩ := hS.tab f fd hfd
        exact hok
      · exact absurd h.symm hn
    · rename_i hb
      subst h
      exact hS.base f hb
  refine ⟨hS.tt, fun f F h => key f _ h (by simp), fun f F h => key f _ h (by simp), fun t h => (by cases h), fun f F h => key f _ h (by simp), fun f F h => (key f _ h (by simp)).1, fun f F h => key f _ h (by simp), hy, hS.eqz⟩
theorem Txt.run {C : Ctx} {ops : Array Oper} {k : Nat} {l : List Oper} {E E1 : Env} {fp : List (List Nat × List (Nat × AV))} (h : Txt C ops k l E E1 fp) : (runFrom C ops k l).run E = some ((), E1) := by
  induction h with
  | nil => rfl
  | cons h t ih =>
    simp only [runFrom]
    rw [Q.run_bind, h]
    exact ih
theorem reg_sound (hS : SysOk S P) (hf : ∀ f, (S.tab f).isSome = true → FnEff P f (e.fn f)) (hy : YldOk P e.yld) {id nt : Nat} {ops : Array Oper} {d : Bool} {ro : Option Nat} {n : Nat} {Qx : Exit → Act → World → Prop} (hq : regS (ctxS S e nt) ops d s = some s') (hnt : C.nt = nt)
    (h : Sim C s.env a w ι β M) (hp : Plain s) (hK : ∀ a' w' ι' β' M', Sim C s'.env a' w' ι' β' M' → Plain s' → Evo C.X M w M' w' → (∀ o b, ι o = some b → ι' o = some b) → Qx .normal a' w') : (Code.region id ops d).wpIn (Fx ro) n P Qx a w := by
  unfold regS at hq
  split at hq
  · rename_i hdr
    subst hdr
    have hC := ctx_ok hS hf hy nt C.X C.dfs (fun d => !((lateOf ops).contains d))
    have h0 : Sim { ctxS S e nt with X := C.X, dfs := C.dfs, pub := fun d => !((lateOf ops).contains d) } s.env a w ι β M := h.ctx hnt.symm rfl rfl
    simp only at hq
    split at hq
    · rename_i sf rs hr
      split at hq
      · rename_i hin
        cases hps : pubS (ctxS S e nt).nt (lateOf ops) sf with
        | none => rw [hps] at hq; cases hq
        | some s2 =>
          rw [hps] at hq
          have hr' := hr
          rw [← runRec_cx { ctxS S e nt with pub := fun d => !((lateOf ops).contains d) } C.X C.dfs] at hr
          obtain ⟨_, _, _, hpb, _⟩ := runRec_txt _ _ _ _ _ hr
          refine draw_soundS hS.mixed hC hr hin h0 hp.gens fun a' w' ι' β' M' sm ev i => ?_
          have sm1 : Sim C sf.env a' w' ι' β' M' := sm.ctx (C' := C) hnt rfl rfl
          obtain ⟨ι2, β2, hi2, sm2, pl2⟩ := pubS_sound (C := C) (lateOf ops) sf s2 ι' β' (by rw [hnt]; exact hps) sm1 (hpb fun i => by
            rcases hp i with h' | h'
            · exact .inl h'
            · exact .inr (.inr h'))
          obtain ⟨k1, k2⟩ := St.flat_sim hq sm2 pl2
          exact hK a' w' ι2 β2 M' k1 k2 ev fun o b h => hi2 o b (i o b h)
      · cases ht : twoS { ctxS S e nt with pub := fun d => !((lateOf ops).contains d) } ops (lateOf ops) s with
        | none => rw [ht] at hq; cases hq
        | some sf' =>
          rw [ht] at hq
          simp only [Option.bind_some] at hq
          cases hps : pubS (ctxS S e nt).nt (lateOf ops) sf' with
          | none => rw [hps] at hq; cases hq
          | some s2 =>
            rw [hps] at hq
            rw [← twoS_cx { ctxS S e nt with pub := fun d => !((lateOf ops).contains d) } C.X C.dfs] at ht
            refine two_region hS.mixed hC ht h0 hp.gens (fun i => by
              rcases hp i with h' | h'
              · exact .inl h'
              · exact .inr (.inr h')) fun a' w' ι' β' M' sm plf ev i => ?_
            have sm1 : Sim C sf'.env a' w' ι' β' M' := sm.ctx (C' := C) hnt rfl rfl
            obtain ⟨ι2, β2, hi2, sm2, pl2⟩ := pubS_sound (C := C) (lateOf ops) sf' s2 ι' β' (by rw [hnt]; exact hps) sm1 plf
            obtain ⟨k1, k2⟩ := St.flat_sim hq sm2 pl2
            exact hK a' w' ι2 β2 M' k1 k2 ev fun o b h => hi2 o b (i o b h)
    · cases hq
  · rename_i hdr
    have hdf : d = false := by simpa using hdr
    subst hdf
    have hC := ctx_ok hS hf hy nt C.X C.dfs (fun _ => true)
    have h0 : Sim { ctxS S e nt with X := C.X, dfs := C.dfs } s.env a w ι β M := h.ctx hnt.symm rfl rfl
    split at hq
    · rename_i sf hrf
      obtain ⟨rs, hr⟩ := runF_ok (C := ctxS S e nt) ⟨fun _ => rfl, rfl, fun _ => rfl, fun _ => rfl⟩ hrf
      rw [← runRec_cx (ctxS S e nt) C.X C.dfs] at hr
      obtain ⟨htx, _, _, hpb, _⟩ := runRec_txt _ _ _ _ _ hr
      have hrun := htx.run
      refine wpIn_region ?_
      rw [List.range_eq_range', ← Array.length_toList]
      refine ops_sound hC ops.toList 0 s.env a w ι β M (fun j => by simp) hrun h0 hp.gens fun a' w' ι' β' M' sm _ ev i => ?_
      have pl : Plain sf := fun i => by
        have := hpb (fun i => by
          rcases hp i with h' | h'
          · exact .inl h'
          · exact .inr (.inr h')) i
        simpa using this
      obtain ⟨k1, k2⟩ := St.flat_sim hq (sm.ctx (C' := C) hnt rfl rfl) pl
      exact hK a' w' ι' β' M' k1 k2 ev i
    · unfold regL at hq
      simp only at hq
      have hC := ctx_ok hS hf hy nt C.X C.dfs (fun d => !((bareOf ops).contains d))
      have h0 : Sim { ctxS S e nt with X := C.X, dfs := C.dfs, pub := fun d => !((bareOf ops).contains d) } s.env a w ι β M := h.ctx hnt.symm rfl rfl
      split at hq
      · rename_i sf rs hr
        split at hq
        · rename_i hall
          rw [← runRec_cx { ctxS S e nt with pub := fun d => !((bareOf ops).contains d) } C.X C.dfs] at hr
          obtain ⟨htx, _, _, hpb, _⟩ := runRec_txt _ _ _ _ _ hr
          have hrun := htx.run
          refine wpIn_region ?_
          rw [List.range_eq_range', ← Array.length_toList]
          refine ops_sound hC ops.toList 0 s.env a w ι β M (fun j => by simp) hrun h0 hp.gens fun a' w' ι' β' M' sm _ ev i => ?_
          have pl : Plain sf := fun i => by
            rcases hpb (fun i => by
              rcases hp i with h' | h'
              · exact .inl h'
              · exact .inr (.inr h')) i with h' | h' | h'
            · exact .inl h'
            · exact .inr (List.all_eq_true.1 hall i h')
            · exact .inr h'
          obtain ⟨k1, k2⟩ := St.flat_sim hq (sm.ctx (C' := C) hnt rfl rfl) pl
          exact hK a' w' ι' β' M' k1 k2 ev i
        · cases hq
      · cases hq
theorem cond_sound {c : Operand} {b : Bool} (h : Sim C s.env a w ι β M) (hc : condS s c = some b) : a.eval c = .bool b := by
  unfold condS at hc
  split at hc
  · rename_i t
    split at hc
    · rename_i b' hE
      injection hc with hc; subst hc
      have hh := h.hold t
      rw [hE] at hh
      have hr : Rd w ι M (valOf a t) (.bool b') := hh
      show valOf a t = _
      generalize valOf a t = u at hr
      cases hr; rfl
    · cases hc
  · injection hc with hc; subst hc; rfl
  · cases hc
structure Sh (w w' : World) : Prop where
  os : w'.os = w.os
  tape : w'.tape = w.tape
  output : w'.output = w.output
  size : w'.heap.size = w.heap.size
  same : ∀ b : Nat, w'.heap[b]? = w.heap[b]? ∨ ∃ ds, w.heap[b]? = some (Obj.deferred ds)
theorem Sh.refl (w : World) : Sh w w := ⟨rfl, rfl, rfl, rfl, fun _ => .inl rfl⟩
theorem Sh.at_ (h : Sh w w') {b : Nat} {o : Obj} (ho : w.heap[b]? = some o) (hd : ∀ ds, o ≠ .deferred ds) : w'.heap[b]? = some o := by
  rcases h.same b with h1 | ⟨ds, h1⟩
  · exact h1.trans ho
  · rw [ho] at h1; injection h1 with h1; exact absurd h1 (hd ds)
theorem Sh.cell (h : Sh w w') {ad : Addr} {v : Value} (hc : w.cell? ad = some v) : w'.cell? ad = some v := by
  rw [← hc]
  refine World.cell?_of_block ?_
  cases ho : w.heap[ad.block]? with
  | none => simp [World.cell?, ho] at hc
  | some o =>
    refine h.at_ ho fun ds e => ?_
    subst e
    simp [World.cell?, ho] at hc
theorem Rd.sh {v : Value} {d : D} (h : Rd w ι M v d) (hs : Sh w w') : Rd w' ι M v d := by
  induction h with
  | int => exact .int _ _
  | bool => exact .bool _
  | str => exact .str _
  | nil => exact .nil _ _
  | sl a n c sz rows f hn h0 hnc hsz hs' ha hm hc hr ih => exact .sl a n c sz rows f hn h0 hnc hsz hs' ha hm (fun i j hi hj => hs.cell (hc i j hi hj)) ih
  | ptr o sz i off b h hz => exact .ptr _ _ _ _ _ h hz
  | nilp => exact .nilp
  | ref o sz i n c b h hnc hcm hz hc =>
    obtain ⟨cs, T, h1, h2⟩ := hc
    exact .ref _ _ _ _ _ _ h hnc hcm hz ⟨cs, T, hs.at_ h1 (by simp), h2⟩
  | fn => exact .fn _
  | nilm => exact .nilm
  | nilf => exact .nilf
  | anyb b => exact .anyb b
  | hole v h1 => exact .hole v h1
  | refc o sz i n c b h hnc hcm hz hc =>
    obtain ⟨cs, T, h1, h2⟩ := hc
    exact .refc _ _ _ _ _ _ h hnc hcm hz ⟨cs, T, hs.at_ h1 (by simp), h2⟩
  | mp o b h => exact .mp _ _ h
  | nils => exact .nils
  | yl o b h => exact .yl _ _ h
  | clo f cs caps hn hr ih => exact .clo f cs caps hn ih
theorem RdL.sh {vs : List Value} {ds : List D} (h : RdL w ι M vs ds) (hs : Sh w w') : RdL w' ι M vs ds := ⟨h.1, fun j v d hv hd => (h.2 j v d hv hd).sh hs⟩
theorem RdA.sh {v : Value} {x : AD} (h : RdA w ι M v x) (hs : Sh w w') : RdA w' ι M v x := by
  cases x with
  | one d => exact Rd.sh h hs
  | many ds => obtain ⟨cs, e, hl⟩ := h; exact ⟨cs, e, hl.sh hs⟩
theorem RdT.sh {v : Value} {l : List AD} (h : RdT w ι M v l) (hs : Sh w w') : RdT w' ι M v l := by
  obtain ⟨vs, e, hl, hr⟩ := h
  exact ⟨vs, e, hl, fun j v x hv hx => (hr j v x hv hx).sh hs⟩
theorem ObjAt.sh {b : Nat} {ob : PObj} (h : ObjAt w ι M b ob) (hs : Sh w w') : ObjAt w' ι M b ob := by
  rcases h with ⟨h0, ⟨hn, es, clock, h1, h2, h3, h4⟩ | ⟨nt, env, ps, assign, body, busy, jump, hr, r, h1, h2, h3, h4, h5, h6, h7, h8⟩ | ⟨t, n, T, cs, hr, hT, h1, h2, h3, h4, h5, h6⟩ | ⟨t, n, T, cs, hr, hT, h1, h2, h3, h4, h5, h6⟩⟩ | ⟨T, cs, hT, h1, h2, h3, h4, h5, h6⟩
  · exact .inl ⟨h0, .inl ⟨hn, es, clock, hs.at_ h1 (by simp), let ⟨rs, g1, g2, g3⟩ := h2; ⟨rs, g1, g2, fun i e r he hr => let ⟨k, v, q1, q2, q3⟩ := g3 i e r he hr; ⟨k, v, q1, q2.sh hs, q3.sh hs⟩⟩, h3, h4⟩⟩
  · exact .inl ⟨h0, .inr (.inl ⟨nt, env, ps, assign, body, busy, jump, hr, r, hs.at_ h1 (by simp), h2, h3, h4, h5, h6, h7, fun s x hne hx => (h8 s x hne hx).sh hs⟩)⟩
  · exact .inl ⟨h0, .inr (.inr (.inl ⟨t, n, T, cs, hr, hT, hs.at_ h1 (by simp), h2, h3, h4, fun i j r d hr hd => let ⟨v, q1, q2⟩ := h5 i j r d hr hd; ⟨v, q1, q2.sh hs⟩, h6⟩))⟩
  · exact .inl ⟨h0, .inr (.inr (.inr ⟨t, n, T, cs, hr, hT, hs.at_ h1 (by simp), h2, h3, h4, fun i j r d hr hd => let ⟨v, q1, q2⟩ := h5 i j r d hr hd; ⟨v, q1, q2.sh hs⟩, h6⟩))⟩
  · exact .inr ⟨T, cs, hT, hs.at_ h1 (by simp), h2, h3, h4, fun i j r d hr hd => let ⟨v, q1, q2⟩ := h5 i j r d hr hd; ⟨v, q1, q2.sh hs⟩, h6⟩
theorem Sim.sh (h : Sim C s.env a w ι β M) (hp : Plain s) (hs : Sh w w') : Sim C s.env a w' ι β M :=
  ⟨h.size, h.defs, h.small, h.hp, fun o ob hl => let ⟨b, h1, h2⟩ := h.objs o ob hl; ⟨b, h1, h2.sh hs⟩, h.injO, h.injB, h.disj, h.ctlO, h.ctlB, h.xO, h.xB, fun b hb => by rw [hs.size]; exact h.xlt b hb, h.xM, fun b hb => by rw [hs.size]; exact h.lt b hb, fun i => by
    have hh := h.hold i
    rcases hp i with rfl | hpl
    · rw [St.env_gs] at hh ⊢; exact hh
    · cases hE : s.env i with
      | v x => rw [hE] at hh; exact RdA.sh hh hs
      | tup l => rw [hE] at hh; exact RdT.sh hh hs
      | imm rows j off =>
        rw [hE] at hh
        obtain ⟨ad, sz, ⟨q1, q2, q3, q4, q5, q6⟩, q7⟩ := hh
        exact ⟨ad, sz, ⟨q1, q2, q3, q4, by rw [hs.size]; exact q5, fun i j r d hr hd => let ⟨v, z1, z2⟩ := q6 i j r d hr hd; ⟨v, hs.cell z1, z2.sh hs⟩⟩, q7⟩
      | junk => trivial
      | _ => rw [hE] at hpl; cases hpl⟩
theorem leaves_marks {ro : Option Nat} {n : Nat} {B : Bs} {fn : Func} {tmps : Array Value} {R : Ending → World → Prop} (ds : List Deferred) (w : World) (hm : Marks B ds w M) (hB : B.lo ≤ w.heap.size) (h : ∀ w', Sh w w' → (∀ b : Nat, b < B.lo → w'.heap[b]? = w.heap[b]?) → LeavesInM (Fx ro) n P fn tmps R B.base .returning w') :
    LeavesInM (Fx ro) n P fn tmps R ds .returning w := by
  obtain ⟨ms, rfl, hp, hd⟩ := hm
  induction ms generalizing w with
  | nil => exact h w (Sh.refl w) (fun _ _ => rfl)
  | cons d ms ih =>
    obtain ⟨D, h1, h2, h3, h4⟩ := hd d List.mem_cons_self
    have hlt : D < w.heap.size := (Array.getElem?_eq_some_iff.1 h3).1
    have hne : ∀ D', D' ≠ D → (w.putObj D (.deferred none)).heap[D']? = w.heap[D']? := fun D' hne => World.putObj_heap_other hne
    refine ⟨by simp, .inl ⟨D, w.putObj D (.deferred none), h1, run_takeDeferred h3, ?_⟩⟩
    have hsh : Sh w (w.putObj D (.deferred none)) := ⟨rfl, rfl, rfl, World.putObj_size, fun b => by
      by_cases hb : b = D
      · subst hb; exact .inr ⟨_, h3⟩
      · exact .inl (hne b hb)⟩
    refine ih (w.putObj D (.deferred none)) (by rw [World.putObj_size]; exact hB) (fun w' hs hb => ?_) (List.pairwise_cons.1 hp).2 (fun d' hd' => ?_)
    · refine h w' ⟨hs.os, hs.tape, hs.output, hs.size.trans World.putObj_size, fun b => ?_⟩ fun b hlt => (hb b hlt).trans (hne b (by omega))
      rcases hs.same b with q | ⟨ds', q⟩
      · rcases hsh.same b with z | z
        · exact .inl (q.trans z)
        · exact .inr z
      · by_cases hbD : b = D
        · subst hbD; exact .inr ⟨_, h3⟩
        · exact .inr ⟨ds', (hne b hbD).symm.trans q⟩
    · obtain ⟨D', q1, q2, q3, q4⟩ := hd d' (List.mem_cons_of_mem _ hd')
      have hDD : D' ≠ D := fun e => (List.pairwise_cons.1 hp).1 d' hd' D h1 (e ▸ q1)
      exact ⟨D', q1, q2, (hne D' hDD).trans q3, q4⟩
end
end Go.Proofs.YtmhinddneefmbaaGreat.Pe
namespace Go.Proofs.YtmhinddneefmbaaGreat.Pe
open Go
def RRel (r : Option Nat) (ro : Option Nat) (ι : Nat → Option Nat) : Prop := match r with
  | none => ro = none
  | some lp => ∃ l, ro = some l ∧ ι lp = some l
def CodeOk (P : Program) (F : Nat → Option Nat → Code → St → Option (Ex × St)) : Prop :=
  ∀ nt r c s ex s', F nt r c s = some (ex, s') → ∀ (C : Ctx) (a : Act) (w : World) (ι β : Nat → Option Nat) (M : Nat → Prop) (B : Bs) (Qx : Exit → Act → World → Prop) (n : Nat) (ro : Option Nat),
    C.nt = nt → RRel r ro ι → Sim C s.env a w ι β M → Plain s → B.lo ≤ w.heap.size → Marks B C.dfs w M →
    (∀ C' a' w' ι' β' M', C'.nt = nt → C'.X = C.X → (r ≠ none → C'.dfs = C.dfs) → Sim C' s'.env a' w' ι' β' M' → Plain s' → Marks B C'.dfs w' M' → Evo C.X M w M' w' → (∀ o b, ι o = some b → ι' o = some b) → Qx ex.ex a' w') → c.wpIn (Fx ro) n P Qx a w
structure EvsOk (S : Sys) (P : Program) (e : Evs) : Prop where
  fn : ∀ f, (S.tab f).isSome = true → FnEff P f (e.fn f)
  yld : YldOk P e.yld
  code : CodeOk P e.code
section
variable {P : Program} {S : Sys} {C C' : Ctx} {E E1 : Env} {a : Act} {w w' : World} {ι ι' β : Nat → Option Nat} {M M' : Nat → Prop} {e : Evs} {s s' : St}
theorem callFunc_ok {f : Nat} (hok : calleeOk P f = true) (args : Array Value) (w : World) : (callFunc f args).run P w = .ok (.enter f args) w := by
  unfold calleeOk at hok
  cases hfn : P.funcs[f]? with
  | none => rw [hfn] at hok; cases hok
  | some fn =>
    rw [hfn] at hok
    simp only [Bool.and_eq_true, bne_iff_ne, ne_eq] at hok
    obtain ⟨b, hb⟩ := Option.isSome_iff_exists.1 hok.2
    simp [callFunc, hfn, hok.1, hb]
theorem putLoop_evo {X : Nat → Prop} {l : Nat} {r : Loop} (h : w.heap[l]? = some (.loop r)) (hM : M l) (hX : ¬ X l) (r' : Loop) : Evo X M w M (w.putObj l (.loop r')) :=
  ⟨rfl, rfl, rfl, by rw [World.putObj_size]; exact Nat.le_refl _, fun b _ hb => World.putObj_heap_other (fun e => hb (e ▸ hM)), fun _ _ h => h, fun b _ hb => World.putObj_heap_other (fun e => hX (e ▸ hb)), fun b cs T hb => by
    have hne : b ≠ l := fun e => by rw [e, h] at hb; cases hb
    exact ⟨cs, (World.putObj_heap_other hne).trans hb, rfl⟩⟩
theorem recAt_some {H : Hp} {lp nt : Nat} {env : Tr (Bool × List D)} {ps : List Nat} {assign body : Code} {busy : Bool} {jump : Option Code} (hr : recAt H lp = some (nt, env, ps, assign, body, busy, jump)) :
    ∃ x, H lp = some x ∧ x.sz = 0 ∧ x.rows = [[.lrec nt env ps assign body busy jump]] := by
  unfold recAt at hr
  split at hr
  · rename_i e' nt' env' ps' assign' body' busy' jump' hH
    simp only [Option.some.injEq, Prod.mk.injEq] at hr
    obtain ⟨rfl, rfl, rfl, rfl, rfl, rfl, rfl⟩ := hr
    exact ⟨_, hH, rfl, rfl⟩
  · cases hr
theorem recAt_loop {H : Hp} {nx lp nt : Nat} {env : Tr (Bool × List D)} {ps : List Nat} {assign body : Code} {busy : Bool} {jump : Option Code} (hok : HeapOk w ι M H nx) (hr : recAt H lp = some (nt, env, ps, assign, body, busy, jump)) :
    ∃ l, ι lp = some l ∧ M l ∧ LoopAt w ι M l nt env ps assign body busy jump := by
  obtain ⟨x, hx, hsz, hrows⟩ := recAt_some hr
  obtain ⟨b, h1, h2⟩ := hok.objs lp x hx
  refine ⟨b, h1, hok.ctl lp x b hx h1, ?_⟩
  rcases h2 with ⟨_, ⟨hn, _⟩ | ⟨nt', env', ps', assign', body', busy', jump', hr', hl⟩ | ⟨t, n, T, cs, hr', _, _⟩ | ⟨t, n, T, cs, hr', _, _⟩⟩ | ⟨T, cs, _, hb⟩
  · rw [hrows] at hn; cases hn
  · rw [hrows] at hr'
    simp only [List.cons.injEq, D.lrec.injEq, and_true] at hr'
    obtain ⟨rfl, rfl, rfl, rfl, rfl, rfl, rfl⟩ := hr'
    exact hl
  · rw [hrows] at hr'; cases hr'
  · rw [hrows] at hr'; cases hr'
  · have := hb.pos; omega
theorem effTo_of_sim {H H' : Hp} {nx' : Nat} {a' : Act} {β' : Nat → Option Nat} {X : Nat → Prop} (hX : X = fun b => M b ∧ ∀ o x, H o = some x → ι o ≠ some b) (hCX : C.X = X) (s1 : Sim C E a' w' ι' β' M') (hgs : E gs = .heap H' nx')
    (ev : Evo X M w M' w') (hi : ∀ o b, ι o = some b → ι' o = some b) : EffTo w ι M H w' ι' M' H' nx' := by
  have hlv : ∀ o, live E o = H' o := fun o => by simp [live, hgs]
  subst hX
  refine ⟨s1.heapOk hgs, hi, ⟨ev.os, ev.tape, ev.output, ev.size, fun b hb hn => ?_, fun b hb h => ?_, fun b _ h => h.elim, ev.shape⟩, fun b hb hn => s1.xM b (by rw [hCX]; exact ⟨hb, hn⟩), ev.back, s1.lt⟩
  · by_cases hMb : M b
    · exact ev.keep b hb ⟨hMb, fun o x h1 h2 => hn ⟨o, x, h1, h2⟩⟩
    · exact ev.same b hb hMb
  · obtain ⟨o, x, h1, h2⟩ := h
    have hl' : live E o = some x := by rw [hlv]; exact h1
    have hMb := ev.back b hb (s1.ctlO o x b hl' h2)
    have hnX := s1.xO o x b hl' h2
    rw [hCX] at hnX
    apply Classical.byContradiction
    intro hn
    exact hnX ⟨hMb, fun o x h1 h2 => hn ⟨o, x, h1, h2⟩⟩
theorem mk_sim {t : Tr AV} {H : Hp} {nx : Nat} {tmps : Array Value} (hok : HeapOk w ι M H nx) (hM : ∀ b, M b → b < w.heap.size) (hnt : tmps.size = C.nt) (hsm : C.nt ≤ gs) (hdf : C.dfs = []) (hX : C.X = fun b => M b ∧ ∀ o x, H o = some x → ι o ≠ some b)
    (hv : ∀ i v, i ≠ gs → t.get i = some v → ∃ x, v = .v x ∧ RdA w ι M (tmps.getD i undef) x) : Sim C (St.env ⟨t, H, nx⟩) { tmps := tmps, defers := [] } w ι (fun _ => none) M ∧ Plain ⟨t, H, nx⟩ := by
  have hlv : live (St.env ⟨t, H, nx⟩) = H.get := by funext o; simp [live, St.env_gs]
  refine ⟨⟨hnt, hdf.symm, hsm, ⟨H, nx, St.env_gs _, hok.new⟩, by rw [hlv]; exact hok.objs, by rw [hlv]; exact hok.inj, fun s s' b h => (by cases h), fun o x s b _ _ h => (by cases h), by rw [hlv]; exact hok.ctl, fun s b h => (by cases h), by rw [hlv, hX]; exact fun o x b h1 h2 h3 => h3.2 o x h1 h2, fun s b h => (by cases h),
    by rw [hX]; exact fun b h => hM b h.1, by rw [hX]; exact fun b h => h.1, hM, fun i => ?_⟩, fun i => ?_⟩
  · by_cases hi : i = gs
    · subst hi; rw [St.env_gs]; rfl
    · rw [St.env_ne _ hi]
      show Holds w ι _ M _ _ i ((t.get i).getD .junk)
      cases ht : t.get i with
      | none => trivial
      | some v =>
        obtain ⟨x, rfl, hr⟩ := hv i v hi ht
        exact hr
  · by_cases hi : i = gs
    · exact .inl hi
    · right
      rw [St.env_ne _ hi]
      show ((t.get i).getD .junk).plain = true
      cases ht : t.get i with
      | none => rfl
      | some v =>
        obtain ⟨x, rfl, hr⟩ := hv i v hi ht
        rfl
theorem startS_get : ∀ (ads : List AD) (k : Nat) (t : Tr AV), k + ads.length ≤ 1000000 → ∀ i, (startS ads k t).get i = if k ≤ i ∧ i < k + ads.length then (ads[i - k]?).map .v else t.get i
  | [], k, t, _, i => by simp only [startS, List.length_nil]; rw [if_neg (by omega)]
  | x :: l, k, t, h, i => by
    simp only [List.length_cons] at h
    simp only [startS, List.length_cons]
    rw [startS_get l (k + 1) _ (by omega), Tr.get_set _ _ _ _ (by omega)]
    by_cases h1 : i = k
    · subst h1
      rw [if_neg (by omega), if_pos rfl, if_pos (by omega)]
      simp
    · rw [if_neg h1]
      by_cases h2 : k ≤ i ∧ i < k + (l.length + 1)
      · rw [if_pos h2, if_pos (by omega), show i - k = (i - (k + 1)) + 1 by omega, List.getElem?_cons_succ]
      · rw [if_neg h2, if_neg (by omega)]
theorem setPs_sound {nt : Nat} (hnt : nt ≤ 1000000) : ∀ (ps : List Nat) (ads : List AD) (vals : List Value) (t t' : Tr AV) (tmps : Array Value), setPs nt ps ads t = some t' → tmps.size = nt → vals.length = ads.length → (∀ (j : Nat) v x, vals[j]? = some v → ads[j]? = some x → RdA w ι M v x) →
    (∀ i v, i ≠ gs → t.get i = some v → ∃ x, v = .v x ∧ RdA w ι M (tmps.getD i undef) x) →
    ps.length = ads.length ∧ ((ps.zip vals).foldl (fun tmps (t, a) => tmps.setIfInBounds t a) tmps).size = nt ∧ ∀ i v, i ≠ gs → t'.get i = some v → ∃ x, v = .v x ∧ RdA w ι M (((ps.zip vals).foldl (fun tmps (t, a) => tmps.setIfInBounds t a) tmps).getD i undef) x
  | [], [], vals, t, t', tmps, h, hsz, hl, hr, hv => by
    simp only [setPs, Option.some.injEq] at h
    subst h
    exact ⟨rfl, hsz, hv⟩
  | p :: ps, x :: l, [], t, t', tmps, h, hsz, hl, hr, hv => by simp at hl
  | p :: ps, x :: l, u :: vals, t, t', tmps, h, hsz, hl, hr, hv => by
    simp only [setPs] at h
    split at h
    · rename_i hp
      obtain ⟨h1, h2, h3⟩ := setPs_sound hnt ps l vals _ t' (tmps.setIfInBounds p u) h (by simpa using hsz) (by simpa using hl) (fun j v y hv hy => hr (j + 1) v y (by simpa using hv) (by simpa using hy)) (fun i v hi ht => by
        rw [Tr.get_set _ _ _ _ (by omega)] at ht
        by_cases hip : i = p
        · subst hip
          rw [if_pos rfl] at ht
          injection ht with ht
          refine ⟨x, ht.symm, ?_⟩
          have : (tmps.setIfInBounds i u).getD i undef = u := by simp [Array.getD_eq_getD_getElem?, hsz, hp]
          rw [this]
          exact hr 0 u x rfl rfl
        · rw [if_neg hip] at ht
          obtain ⟨y, hy, hrd⟩ := hv i v hi ht
          refine ⟨y, hy, ?_⟩
          have : (tmps.setIfInBounds p u).getD i undef = tmps.getD i undef := by simp [Array.getD_eq_getD_getElem?, Array.getElem?_setIfInBounds_ne (fun e => hip e.symm)]
          rw [this]; exact hrd)
      exact ⟨by simp [h1], h2, h3⟩
    · cases h
  | [], x :: l, vals, t, t', tmps, h, hsz, hl, hr, hv => by cases h
  | p :: ps, [], vals, t, t', tmps, h, hsz, hl, hr, hv => by cases h
theorem toB_of {v : AV} {x : Bool × List D} (h : toB v = some x) : v = .v (ofB x) := by
  unfold toB at h
  split at h
  · injection h with h; subst h; rfl
  · injection h with h; subst h; rfl
  · cases h
theorem Evo.sh {X : Nat → Prop} {w1 : World} (h : Evo X M w M' w1) (hs : Sh w1 w') (hlow : ∀ b, b < w.heap.size → w'.heap[b]? = w1.heap[b]?) : Evo X M w M' w' :=
  ⟨hs.os.trans h.os, hs.tape.trans h.tape, hs.output.trans h.output, by rw [hs.size]; exact h.size, fun b hb hm => (hlow b hb).trans (h.same b hb hm), h.back, fun b hb hx => (hlow b hb).trans (h.keep b hb hx), fun b cs T hb => by
    obtain ⟨cs', h1, h2⟩ := h.shape b cs T hb
    exact ⟨cs', hs.at_ h1 (by simp), h2⟩⟩
theorem iter_sound {g : Operand} {f : Nat} {caps : List D} (h : Sim C s.env a w ι β M) (hq : iterS s g = some (f, caps)) : ∃ lb : Array Value, a.eval g = .func (.func f) #[] lb ∧ lb.size = caps.length ∧ ∀ (j : Nat) v d, lb[j]? = some v → caps[j]? = some d → Rd w ι M v d := by
  unfold iterS at hq
  split at hq
  · rename_i t
    have hh := h.hold t
    split at hq
    · rename_i f' hE
      simp only [Option.some.injEq, Prod.mk.injEq] at hq
      obtain ⟨rfl, rfl⟩ := hq
      rw [hE] at hh
      have hr : Rd w ι M (valOf a t) (.fn f') := hh
      refine ⟨#[], ?_, rfl, fun j v d hv => by simp at hv⟩
      show valOf a t = _
      generalize valOf a t = u at hr
      cases hr; rfl
    · rename_i f' caps' hE
      simp only [Option.some.injEq, Prod.mk.injEq] at hq
      obtain ⟨rfl, rfl⟩ := hq
      rw [hE] at hh
      have hr : Rd w ι M (valOf a t) (.clo f' caps') := hh
      show ∃ lb, valOf a t = _ ∧ _
      generalize valOf a t = u at hr
      cases hr with
      | clo _ cs _ hn hr => exact ⟨cs, rfl, hn, hr⟩
    · cases hq
  · rename_i f'
    simp only [Option.some.injEq, Prod.mk.injEq] at hq
    obtain ⟨rfl, rfl⟩ := hq
    exact ⟨#[], rfl, rfl, fun j v d hv => by simp at hv⟩
  · cases hq
theorem callee_sound (hS : SysOk S P) (hf : ∀ f, (S.tab f).isSome = true → FnEff P f (e.fn f)) {f : Nat} {ads : List AD} {H H' : Hp} {nx nx' : Nat} {r : RV} (hq : callee S e f ads H nx = some (r, H', nx')) :
    calleeOk P f = true ∧ ∃ F, FnEff P f F ∧ F ads H nx = some (r, H', nx') := by
  unfold callee at hq
  split at hq
  · split at hq
    · rename_i ht
      obtain ⟨fd, hfd⟩ := Option.isSome_iff_exists.1 ht
      obtain ⟨_, _, _, _, _, hok⟩ := hS.tab f fd hfd
      exact ⟨hok, _, hf f ht, hq⟩
    · cases hq
  · rename_i F hb
    have := hS.base f (by rw [hb]; simp)
    rw [hb] at this
    exact ⟨this.2, F, this.1, hq⟩
  · cases hq
end
end Go.Proofs.YtmhinddneefmbaaGreat.Pe
