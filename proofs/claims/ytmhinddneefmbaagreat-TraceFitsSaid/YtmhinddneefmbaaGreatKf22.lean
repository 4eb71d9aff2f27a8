/- A part of the proof of JdH. -/
import Derived.Test.YtmhinddneefmbaaGreatKf21
set_option linter.unusedSimpArgs false
set_option linter.unusedVariables false
set_option linter.unusedSectionVars false
namespace Go.Proofs.YtmhinddneefmbaaGreat.Pe
open Go Go.RowKit
section
variable {P : Program} {S : Sys} {C C' : Ctx} {E E1 : Env} {a : Act} {w w' : World} {ι ι' β : Nat → Option Nat} {M M' : Nat → Prop} {e : Evs} {s s' : St}
theorem RRel.ext {r ro : Option Nat} (h : RRel r ro ι) (hi : ∀ o b, ι o = some b → ι' o = some b) : RRel r ro ι' := by
  cases r with
  | none => exact h
  | some lp => obtain ⟨l, h1, h2⟩ := h; exact ⟨l, h1, hi _ _ h2⟩
theorem run_enterIn {l₀ : Nat} {r₀ : Loop} (h : w.heap[l₀]? = some (.loop r₀)) (fn : FuncId) (tmps : Array Value) (ps : Array Tmp) (assign body : Code) :
    (Instr.enterLoop fn tmps ps assign body (some l₀)).run P w =
      .ok (w.heap.size, []) (w.alloc (.loop { state := .ready, pending := none, fn, tmps, params := ps, assign, body, defers := r₀.defers })) := by
  unfold Instr.enterLoop
  simp only [Sem.run_bind, run_getLoop h, run_newObj_alloc, Result.andThen, Sem.run_pure]
theorem enter_loop {fn : Nat} {r ro : Option Nat} {ps : Array Tmp} {assign body : Code} (h : Sim C s.env a w ι β M) (hr : RRel r ro ι) (hl0 : insideOk s.H r = true) :
    ∃ l mark w1 rec, (Instr.enterLoop fn a.tmps ps assign body ro).run P w = .ok (l, mark) w1 ∧ w.heap.size ≤ l ∧ l < w1.heap.size ∧ w1.heap[l]? = some (.loop rec) ∧ rec.state = .ready ∧ rec.pending = none ∧ rec.tmps = a.tmps ∧ rec.params = ps ∧ rec.assign = assign ∧ rec.body = body ∧
      (∀ b, b < w.heap.size → w1.heap[b]? = w.heap[b]?) ∧ w1.os = w.os ∧ w1.tape = w.tape ∧ w1.output = w.output ∧ w.heap.size ≤ w1.heap.size ∧
      ((mark = [] ∧ r ≠ none) ∨ (r = none ∧ ∃ D, mark = [{ target := .collected D, args := #[] }] ∧ w.heap.size ≤ D ∧ D ≠ l ∧ w1.heap[D]? = some (Obj.deferred (some [])))) := by
  cases r with
  | none =>
    have hro : ro = none := hr
    subst hro
    have hsame : ∀ (x : Obj) (y : Obj), ∀ b, b < w.heap.size → ((w.alloc x).alloc y).heap[b]? = w.heap[b]? := fun x y b hb => (Below.heap_alloc (w.alloc x) y b (by simp; omega)).trans (Below.heap_alloc w x b hb)
    refine ⟨w.heap.size + 1, _, _, { state := .ready, pending := none, fn, tmps := a.tmps, params := ps, assign, body, defers := w.heap.size }, run_enterLoop_outer fn a.tmps ps assign body, Nat.le_succ _, by simp, ?_, rfl, rfl, rfl, rfl, rfl, rfl, hsame _ _, rfl, rfl, rfl, by simp; omega, .inr ⟨rfl, w.heap.size, rfl, Nat.le_refl _, by omega, ?_⟩⟩
    · have := World.alloc_heap_new (w.alloc (.deferred (some []))) (.loop { state := .ready, pending := none, fn, tmps := a.tmps, params := ps, assign, body, defers := w.heap.size })
      rwa [World.size_alloc] at this
    · exact (Below.heap_alloc _ _ _ (by simp)).trans (World.alloc_heap_new w _)
  | some lp =>
    obtain ⟨l0, hro, hl⟩ := hr
    subst hro
    obtain ⟨z, hz⟩ := Option.isSome_iff_exists.1 hl0
    obtain ⟨nt', env, ps', assign', body', busy, jump⟩ := z
    obtain ⟨l', hl', _, r0, h1, _⟩ := recAt_loop (h.heapOk (St.env_gs s)) hz
    rw [hl] at hl'; injection hl' with hl'; subst hl'
    refine ⟨w.heap.size, _, _, { state := .ready, pending := none, fn, tmps := a.tmps, params := ps, assign, body, defers := r0.defers }, run_enterIn h1 fn a.tmps ps assign body, Nat.le_refl _, by simp, World.alloc_heap_new w _, rfl, rfl, rfl, rfl, rfl, rfl, fun b hb => Below.heap_alloc w _ b hb, rfl, rfl, rfl, by simp, .inl ⟨rfl, by simp⟩⟩
theorem range_step (hS : SysOk S P) (ih : EvsOk S P e) {nt : Nat} {r ro : Option Nat} {g : Operand} {ps : Array Tmp} {assign body : Code} {ex : Ex} {B : Bs} {n : Nat} {Qx : Exit → Act → World → Prop}
    (hq : (stepE S e).code nt r (.rangeFunc g ps assign body) s = some (ex, s')) (hnt : C.nt = nt) (hrr : RRel r ro ι) (h : Sim C s.env a w ι β M) (hp : Plain s) (hB : B.lo ≤ w.heap.size) (hm : Marks B C.dfs w M)
    (hK : ∀ C' a' w' ι' β' M', C'.nt = nt → C'.X = C.X → (r ≠ none → C'.dfs = C.dfs) → Sim C' s'.env a' w' ι' β' M' → Plain s' → Marks B C'.dfs w' M' → Evo C.X M w M' w' → (∀ o b, ι o = some b → ι' o = some b) → Qx ex.ex a' w') : (Code.rangeFunc g ps assign body).wpIn (Fx ro) n P Qx a w := by
  simp only [stepE] at hq
  cases hit : iterS s g with
  | none => rw [hit] at hq; cases hq
  | some fc =>
    obtain ⟨f, caps⟩ := fc
    rw [hit] at hq
    simp only [Option.bind_some] at hq
    split at hq
    · rename_i hl0
      cases hf1 : (putRec s.H s.nx nt (s.t.map toB) ps.toList assign body false none).flat with
      | none => rw [hf1] at hq; cases hq
      | some H1 =>
        rw [hf1] at hq
        simp only [Option.bind_some] at hq
        cases hcal : callee S e f (.one (.yl s.nx) :: caps.map .one) (.tr H1) (s.nx + 1) with
        | none => rw [hcal] at hq; cases hq
        | some z =>
          obtain ⟨rv, H2, nx2⟩ := z
          rw [hcal] at hq
          simp only [Option.bind_some] at hq
          cases hr2 : recAt H2 s.nx with
          | none => rw [hr2] at hq; cases hq
          | some z2 =>
            obtain ⟨nt2, env2, ps2, assign2, body2, busy, jump⟩ := z2
            rw [hr2] at hq
            simp only [Option.bind_some] at hq
            cases busy with
            | true => cases hq
            | false =>
              simp only [Bool.false_eq_true, if_false] at hq
              cases hf3 : (updO H2 s.nx none).flat with
              | none => rw [hf3] at hq; cases hq
              | some H3 =>
                rw [hf3] at hq
                simp only [Option.bind_some] at hq
                cases hj : jumpOf jump with
                | none => rw [hj] at hq; cases hq
                | some ex' =>
                  rw [hj] at hq
                  simp only [Option.map_some, Option.some.injEq, Prod.mk.injEq] at hq
                  obtain ⟨rfl, rfl⟩ := hq
                  obtain ⟨hok, F, hF, hFq⟩ := callee_sound hS ih.fn hcal
                  obtain ⟨lb, hg, hlb, hlr⟩ := iter_sound h hit
                  refine wpIn_rangeFunc fun fn hfn => ?_
                  obtain ⟨l, mark, w1, rec, ent, e1, e2, e3, e4, e5, e6, e7, e8, e9, e10, e11, e12, e13, e14, e15⟩ := enter_loop (P := P) (fn := fn) (ps := ps) (assign := assign) (body := body) h hrr hl0
                  let M1 : Nat → Prop := fun b => M b ∨ b = l
                  have ev1 : Evo C.X M w M1 w1 := ⟨e11, e12, e13, e14, fun b hb _ => e10 b hb, fun b hb hm => by
                    rcases hm with hm | hm
                    · exact hm
                    · omega, fun b hb _ => e10 b hb, .of e10⟩
                  have sm1 : Sim C s.env a w1 ι β M1 := h.world ev1 (fun b hb => .inl hb) (fun b hb => by
                    rcases hb with hb | hb
                    · have := h.lt b hb; omega
                    · omega) (fun t b ht => e10 b (h.lt b (h.ctlB t b ht))) (fun o x b hl hi => e10 b (h.lt b (h.ctlO o x b hl hi)))
                  have hob : ObjAt w1 ι M1 l ⟨none, 0, [[.lrec nt (s.t.map toB) ps.toList assign body false none]]⟩ := .inl ⟨rfl, .inr (.inl ⟨nt, _, _, assign, body, false, none, rfl, rec, e3, by rw [e6, h.size, hnt], by rw [e7], e8, e9, e5, by rw [e4]; rfl, fun i x hi hx => by
                    rw [Tr.get_map] at hx
                    cases ht : s.t.get i with
                    | none => rw [ht] at hx; cases hx
                    | some av =>
                      rw [ht] at hx
                      simp only [Option.bind_some] at hx
                      have hav := toB_of hx
                      have hh := sm1.hold i
                      rw [St.env_ne _ hi, ht] at hh
                      simp only [Option.getD_some] at hh
                      rw [hav] at hh
                      rw [e6]
                      exact hh⟩)⟩
                  have sm2 := sm1.newObj (b := l) (St.env_gs s) hob (.inr rfl) (fun hx => by have := h.xlt _ hx; omega) (fun t ht => by have := h.lt _ (h.ctlB t _ ht); omega) (fun o x hl hi => by have := h.lt _ (h.ctlO o x _ hl hi); omega)
                  have sm3 := sm2.flatH (H := putRec s.H s.nx nt (s.t.map toB) ps.toList assign body false none) (nx := s.nx + 1) hf1 (upd_same _ _ _)
                  rw [upd_upd] at sm3
                  have hE3 : (upd s.env gs (.heap (.tr H1) (s.nx + 1))) gs = .heap (.tr H1) (s.nx + 1) := upd_same _ _ _
                  have hext1 : ∀ o b, ι o = some b → setI ι s.nx l o = some b := setI_mono (b := l) h (St.env_gs s)
                  have hln : setI ι s.nx l s.nx = some l := by simp [setI]
                  refine ⟨l, mark, w1, { target := .fn (.func f) lb, args := #[.func (.yield l) #[] #[]] }, w1, f, #[.func (.yield l) #[] #[]] ++ lb, w1, ent, ?_, fun _ _ => trivial, ?_, fun hd => by simp [Fx] at hd, ?_⟩
                  · simp only [resolve, hg]
                    simp [go_sem]
                  · simp [invoke, callFunc_ok hok]
                  · have hvsz : (#[Value.func (.yield l) #[] #[]] ++ lb).size = (AD.one (.yl s.nx) :: caps.map AD.one).length := by simp [hlb]; omega
                    have hargs : ∀ (j : Nat) v x, (#[Value.func (.yield l) #[] #[]] ++ lb)[j]? = some v → (AD.one (.yl s.nx) :: caps.map AD.one)[j]? = some x → RdA w1 (setI ι s.nx l) M1 v x := by
                      intro j v x hv hx
                      cases j with
                      | zero =>
                        rw [Array.getElem?_append_left (by simp)] at hv
                        simp at hv hx
                        subst hv; subst hx
                        exact Rd.yl _ _ hln
                      | succ j =>
                        rw [Array.getElem?_append_right (by simp)] at hv
                        simp at hv hx
                        obtain ⟨dd, h1, h2⟩ := hx
                        subst h2
                        exact Rd.mono (hlr j v dd hv h1) ev1.same ev1.back hext1 ev1.shape
                    have hcalls := hF _ _ _ rv H2 nx2 hFq w1 (setI ι s.nx l) M1 _ sm3.lt (sm3.heapOk hE3) hvsz hargs
                    refine callsIn_fx.2 (Calls.mono hcalls ?_)
                    · rintro en w3 ⟨v, ι3, M3, rfl, _, q1, q2, q3, q4, q5, q6⟩
                      obtain ⟨sm4, ev3⟩ := after_eff sm3 hE3 ⟨q1, q2, q3, q4, q5, q6⟩
                      have hl3 : ι3 s.nx = some l := q2 _ _ hln
                      have hE4 : (upd (upd s.env gs (.heap (.tr H1) (s.nx + 1))) gs (.heap H2 nx2)) gs = .heap H2 nx2 := upd_same _ _ _
                      obtain ⟨l', hl', hMl, r3, g1, g2, g3, g4, g5, g6, g7, g8⟩ := recAt_loop (sm4.heapOk hE4) hr2
                      rw [hl3] at hl'; injection hl' with hl'; subst hl'
                      have hnb : r3.state ≠ .busy := by rw [g7]; cases jump <;> simp
                      obtain ⟨x, hx, _, _⟩ := recAt_some hr2
                      have hlx : live (upd (upd s.env gs (.heap (.tr H1) (s.nx + 1))) gs (.heap H2 nx2)) s.nx = some x := by simp [live, hE4, hx]
                      have hXl : ¬ C.X l := sm4.xO s.nx x l hlx hl3
                      let w4 := w3.putObj l (.loop { r3 with state := .exhausted })
                      have ev4 : Evo C.X M3 w3 M3 w4 := putLoop_evo g1 hMl hXl _
                      have sm5 := sm4.dropO s.nx hE4
                      have sm6 : Sim C _ a w4 ι3 β M3 := sm5.world ev4 (fun _ h => h) (fun b hb => Nat.lt_of_lt_of_le (sm5.lt b hb) ev4.size)
                        (fun t b ht => World.putObj_heap_other (fun e => sm4.disj s.nx x t b hlx (e ▸ hl3) ht))
                        (fun o y b hy hb => World.putObj_heap_other (fun e => by
                          have hy' : live (upd (upd (upd s.env gs (.heap (.tr H1) (s.nx + 1))) gs (.heap H2 nx2)) gs (.heap (updO H2 s.nx none) nx2)) o = some y := hy
                          have h5 : (if o = s.nx then none else H2 o) = some y := by
                            have : live (upd (upd (upd s.env gs (.heap (.tr H1) (s.nx + 1))) gs (.heap H2 nx2)) gs (.heap (updO H2 s.nx none) nx2)) o = if o = s.nx then none else H2 o := by simp [live, upd, updO_at]
                            rw [← this]; exact hy'
                          split at h5
                          · cases h5
                          · rename_i hne
                            exact hne (sm4.injO o s.nx y x b (by simp [live, hE4, h5]) hlx hb (e ▸ hl3))))
                      have sm7 := sm6.flatH hf3 (upd_same _ _ _)
                      rw [upd_upd, upd_upd, upd_upd] at sm7
                      have sm8 : Sim C (St.env ⟨s.t, .tr H3, nx2⟩) a w4 ι3 β M3 := by rw [St.env_H]; exact sm7
                      have hdf : a.defers = C.dfs := h.defs
                      have sm9 := sm8.dfr (mark ++ C.dfs)
                      have evt : Evo C.X M w M3 w4 := (ev1.trans ev3).trans ev4
                      have mk : Marks B (mark ++ C.dfs) w4 M3 := by
                        have m0 := hm.mono evt
                        obtain ⟨ms0, z0, z1, z2⟩ := hm
                        obtain ⟨ms, y0, y1, y2⟩ := m0
                        have ems : ms = ms0 := List.append_cancel_right (y0.symm.trans z0)
                        subst ems
                        rcases e15 with ⟨hmk, _⟩ | ⟨_, D, hmk, hD1, hD2, hD3⟩
                        · rw [hmk]; exact ⟨ms, y0, y1, y2⟩
                        · rw [hmk]
                          have hDlt : D < w1.heap.size := (Array.getElem?_eq_some_iff.1 hD3).1
                          have hDM : ¬ M1 D := by
                            rintro (hh | hh)
                            · have := h.lt D hh; omega
                            · exact hD2 hh
                          refine ⟨_ :: ms, by rw [y0]; rfl, List.pairwise_cons.2 ⟨fun d' hd' D' h1 h2 => ?_, y1⟩, fun d' hd' => ?_⟩
                          · injection h1 with h1
                            subst h1
                            obtain ⟨D2, k1, _, k3, _⟩ := z2 d' hd'
                            rw [k1] at h2
                            injection h2 with h2
                            have := (Array.getElem?_eq_some_iff.1 k3).1
                            omega
                          · rcases List.mem_cons.1 hd' with rfl | hd'
                            · refine ⟨D, rfl, by omega, ?_, fun hh => hDM (ev3.back D hDlt hh)⟩
                              exact (World.putObj_heap_other hD2).trans ((ev3.same D hDlt hDM).trans hD3)
                            · exact y2 d' hd'
                      have hend : (Instr.endLoop l).run P w3 = .ok jump w4 := by
                        rw [← g6]; exact run_endLoop g1 hnb
                      have hfin : Qx ex'.ex { a with defers := mark ++ a.defers } w4 := by
                        rw [hdf]
                        exact hK { C with dfs := mark ++ C.dfs } _ w4 ι3 β M3 hnt rfl (fun hne => by
                          rcases e15 with ⟨hmk, _⟩ | ⟨hh, _⟩
                          · rw [hmk]; rfl
                          · exact absurd hh hne) sm9 (hp.heap _ _) mk evt (fun o b hb => q2 _ _ (hext1 _ _ hb))
                      refine ⟨jump, w4, hend, ?_⟩
                      unfold jumpOf at hj
                      split at hj
                      · injection hj with hj; subst hj; exact hfin
                      · injection hj with hj; subst hj; exact wpIn_ret hfin
                      · injection hj with hj; subst hj; exact wpIn_exit hfin
                      · cases hj
    · cases hq
theorem code_step (hS : SysOk S P) (k : Nat) (ih : ∀ j, j ≤ k → EvsOk S P (evs S j)) : CodeOk P (evs S (k + 1)).code := by
  have ih0 := ih k (Nat.le_refl k)
  intro nt r c s ex s' hq C a w ι β M B Qx n ro hnt hrr h hp hB hm hK
  have hq' : (stepE S (evs S k)).code nt r c s = some (ex, s') := hq
  cases c with
  | skip =>
    simp only [stepE, Option.some.injEq, Prod.mk.injEq] at hq'
    obtain ⟨rfl, rfl⟩ := hq'
    exact wpIn_skip (hK C a w ι β M hnt rfl (fun _ => rfl) h hp hm (Evo.refl _ _) (fun _ _ h => h))
  | ret =>
    simp only [stepE, Option.some.injEq, Prod.mk.injEq] at hq'
    obtain ⟨rfl, rfl⟩ := hq'
    exact wpIn_ret (hK C a w ι β M hnt rfl (fun _ => rfl) h hp hm (Evo.refl _ _) (fun _ _ h => h))
  | exit id =>
    simp only [stepE, Option.some.injEq, Prod.mk.injEq] at hq'
    obtain ⟨rfl, rfl⟩ := hq'
    exact wpIn_exit (hK C a w ι β M hnt rfl (fun _ => rfl) h hp hm (Evo.refl _ _) (fun _ _ h => h))
  | seq x y =>
    simp only [stepE] at hq'
    cases h1 : (evs S k).code nt r x s with
    | none => rw [h1] at hq'; cases hq'
    | some z =>
      obtain ⟨ex1, s1⟩ := z
      rw [h1] at hq'
      simp only [Option.bind_some] at hq'
      refine wpIn_seq (ih0.code nt r x s ex1 s1 h1 C a w ι β M B _ n ro hnt hrr h hp hB hm ?_)
      intro C1 a1 w1 ι1 β1 M1 hnt1 hX1 hd1 sm1 pl1 mk1 ev1 hi1
      cases ex1 with
      | normal =>
        refine ih0.code nt r y s1 ex s' hq' C1 a1 w1 ι1 β1 M1 B Qx n ro hnt1 (hrr.ext hi1) sm1 pl1 (Nat.le_trans hB ev1.size) mk1 ?_
        intro C2 a2 w2 ι2 β2 M2 hnt2 hX2 hd2 sm2 pl2 mk2 ev2 hi2
        rw [hX1] at ev2
        exact hK C2 a2 w2 ι2 β2 M2 hnt2 (hX2.trans hX1) (fun hne => (hd2 hne).trans (hd1 hne)) sm2 pl2 mk2 (ev1.trans ev2) (fun o b h => hi2 _ _ (hi1 _ _ h))
      | exit id =>
        simp only [Option.some.injEq, Prod.mk.injEq] at hq'
        obtain ⟨rfl, rfl⟩ := hq'
        exact hK C1 a1 w1 ι1 β1 M1 hnt1 hX1 hd1 sm1 pl1 mk1 ev1 hi1
      | ret =>
        simp only [Option.some.injEq, Prod.mk.injEq] at hq'
        obtain ⟨rfl, rfl⟩ := hq'
        exact hK C1 a1 w1 ι1 β1 M1 hnt1 hX1 hd1 sm1 pl1 mk1 ev1 hi1
  | cond cd x y =>
    simp only [stepE] at hq'
    cases hc : condS s cd with
    | none => rw [hc] at hq'; cases hq'
    | some b =>
      rw [hc] at hq'
      simp only [Option.bind_some] at hq'
      have hv := cond_sound h hc
      cases b with
      | true => exact wpIn_cond_true hv (ih0.code nt r x s ex s' (by simpa using hq') C a w ι β M B Qx n ro hnt hrr h hp hB hm hK)
      | false => exact wpIn_cond_false hv (ih0.code nt r y s ex s' (by simpa using hq') C a w ι β M B Qx n ro hnt hrr h hp hB hm hK)
  | block id b =>
    simp only [stepE] at hq'
    cases h1 : (evs S k).code nt r b s with
    | none => rw [h1] at hq'; cases hq'
    | some z =>
      obtain ⟨ex1, s1⟩ := z
      rw [h1] at hq'
      simp only [Option.map_some, Option.some.injEq] at hq'
      refine wpIn_block (ih0.code nt r b s ex1 s1 h1 C a w ι β M B _ n ro hnt hrr h hp hB hm ?_)
      intro C1 a1 w1 ι1 β1 M1 hnt1 hX1 hd1 sm1 pl1 mk1 ev1 hi1
      cases ex1 with
      | normal =>
        simp only [exOf, Prod.mk.injEq] at hq'
        obtain ⟨rfl, rfl⟩ := hq'
        exact hK C1 a1 w1 ι1 β1 M1 hnt1 hX1 hd1 sm1 pl1 mk1 ev1 hi1
      | ret =>
        simp only [exOf, Prod.mk.injEq] at hq'
        obtain ⟨rfl, rfl⟩ := hq'
        exact hK C1 a1 w1 ι1 β1 M1 hnt1 hX1 hd1 sm1 pl1 mk1 ev1 hi1
      | exit id' =>
        simp only [exOf] at hq'
        show (Exit.inBlock id Qx) (.exit id') a1 w1
        unfold Exit.inBlock
        split at hq'
        · rename_i he
          simp only [Prod.mk.injEq] at hq'
          obtain ⟨rfl, rfl⟩ := hq'
          have : Qx .normal a1 w1 := hK C1 a1 w1 ι1 β1 M1 hnt1 hX1 hd1 sm1 pl1 mk1 ev1 hi1
          simpa [he] using this
        · rename_i he
          simp only [Prod.mk.injEq] at hq'
          obtain ⟨rfl, rfl⟩ := hq'
          have : Qx (.exit id') a1 w1 := hK C1 a1 w1 ι1 β1 M1 hnt1 hX1 hd1 sm1 pl1 mk1 ev1 hi1
          simpa [he] using this
  | loop b =>
    refine wpIn_loop_ghost (fun j a1 w1 => ∃ s1 C1 ι1 β1 M1, j ≤ k + 1 ∧ (evs S j).code nt r (.loop b) s1 = some (ex, s') ∧ C1.nt = nt ∧ C1.X = C.X ∧ (r ≠ none → C1.dfs = C.dfs) ∧ Sim C1 s1.env a1 w1 ι1 β1 M1 ∧ Plain s1 ∧ Marks B C1.dfs w1 M1 ∧ Evo C.X M w M1 w1 ∧ ∀ o b, ι o = some b → ι1 o = some b) (k + 1)
      ⟨s, C, ι, β, M, Nat.le_refl _, hq, hnt, rfl, fun _ => rfl, h, hp, hm, Evo.refl _ _, fun _ _ h => h⟩ ?_
    rintro j a1 w1 ⟨s1, C1, ι1, β1, M1, hj, hq1, hnt1, hX1, hd1, sm1, pl1, mk1, ev1, hi1⟩
    cases j with
    | zero => cases hq1
    | succ j =>
      have hq1' : (stepE S (evs S j)).code nt r (.loop b) s1 = some (ex, s') := hq1
      simp only [stepE] at hq1'
      cases h1 : (evs S j).code nt r b s1 with
      | none => rw [h1] at hq1'; cases hq1'
      | some z =>
        obtain ⟨ex1, s2⟩ := z
        rw [h1] at hq1'
        simp only [Option.bind_some] at hq1'
        refine (ih j (by omega)).code nt r b s1 ex1 s2 h1 C1 a1 w1 ι1 β1 M1 B _ n ro hnt1 (hrr.ext hi1) sm1 pl1 (Nat.le_trans hB ev1.size) mk1 ?_
        intro C2 a2 w2 ι2 β2 M2 hnt2 hX2 hd2 sm2 pl2 mk2 ev2 hi2
        rw [hX1] at ev2
        cases ex1 with
        | normal => exact ⟨j, Nat.lt_succ_self j, s2, C2, ι2, β2, M2, by omega, hq1', hnt2, hX2.trans hX1, fun hne => (hd2 hne).trans (hd1 hne), sm2, pl2, mk2, ev1.trans ev2, fun o b h => hi2 _ _ (hi1 _ _ h)⟩
        | exit id =>
          simp only [Option.some.injEq, Prod.mk.injEq] at hq1'
          obtain ⟨rfl, rfl⟩ := hq1'
          exact hK C2 a2 w2 ι2 β2 M2 hnt2 (hX2.trans hX1) (fun hne => (hd2 hne).trans (hd1 hne)) sm2 pl2 mk2 (ev1.trans ev2) (fun o b h => hi2 _ _ (hi1 _ _ h))
        | ret =>
          simp only [Option.some.injEq, Prod.mk.injEq] at hq1'
          obtain ⟨rfl, rfl⟩ := hq1'
          exact hK C2 a2 w2 ι2 β2 M2 hnt2 (hX2.trans hX1) (fun hne => (hd2 hne).trans (hd1 hne)) sm2 pl2 mk2 (ev1.trans ev2) (fun o b h => hi2 _ _ (hi1 _ _ h))
  | region id ops d =>
    simp only [stepE] at hq'
    cases hr : regS (ctxS S (evs S k) nt) ops d s with
    | none => rw [hr] at hq'; cases hq'
    | some s1 =>
      rw [hr] at hq'
      simp only [Option.map_some, Option.some.injEq, Prod.mk.injEq] at hq'
      obtain ⟨rfl, rfl⟩ := hq'
      exact reg_sound hS ih0.fn ih0.yld hr hnt h hp fun a' w' ι' β' M' sm pl ev hi => hK C a' w' ι' β' M' hnt rfl (fun _ => rfl) sm pl (hm.mono ev) ev hi
  | rangeFunc g ps assign body => exact range_step hS ih0 hq' hnt hrr h hp hB hm hK
  | scope b => cases hq'
  | label l => cases hq'
  | goto l => cases hq'
  | refuse why => cases hq'
theorem evs_ok (hS : SysOk S P) (k : Nat) : EvsOk S P (evs S k) := by
  induction k using Nat.strongRecOn with
  | _ k ih =>
    cases k with
    | zero => exact ⟨fun f hf ads H nx r H' nx' hq => (by cases hq), fun lp ads H nx r H' nx' hq => (by cases hq), fun nt r c s ex s' hq => (by cases hq)⟩
    | succ k => exact ⟨fun f hf => fn_step hS (ih k (Nat.lt_succ_self k)) f hf, yld_step (ih k (Nat.lt_succ_self k)), code_step hS k fun j hj => ih j (by omega)⟩
end
end Go.Proofs.YtmhinddneefmbaaGreat.Pe
namespace Go.Proofs.YtmhinddneefmbaaGreat.Pe
open Go
noncomputable def mkTr {α : Type} : List (Nat × α) → Tr α
  | [] => .leaf
  | x :: l => (mkTr l).set (some x.2) 30 x.1
theorem mkTr_get {α : Type} : ∀ (l : List (Nat × α)), l.all (fun x => decide (x.1 < 1000000000)) = true → ∀ n a, (mkTr l).get n = some a → (n, a) ∈ l
  | [], _, n, a, h => by cases h
  | x :: l, hl, n, a, h => by
    simp only [List.all_cons, Bool.and_eq_true, decide_eq_true_eq] at hl
    simp only [mkTr] at h
    rw [Tr.get_set _ _ _ _ (by omega)] at h
    split at h
    · rename_i e
      injection h with h
      subst h; subst e
      exact List.mem_cons_self
    · exact List.mem_cons_of_mem _ (mkTr_get l hl.2 n a h)
noncomputable def AllTy (P : Program) : List (Nat × TyI) → Prop
  | [] => True
  | x :: l => TyOk P x.1 x.2 ∧ AllTy P l
theorem AllTy.mem {P : Program} : ∀ {l : List (Nat × TyI)}, AllTy P l → ∀ x ∈ l, TyOk P x.1 x.2
  | y :: l, h, x, hx => by
    rcases List.mem_cons.1 hx with rfl | hx
    · exact h.1
    · exact AllTy.mem h.2 x hx
noncomputable def AllEz (P : Program) : List (Nat × EK) → Prop
  | [] => True
  | x :: l => EqZOk P x.1 x.2 ∧ AllEz P l
theorem AllEz.mem {P : Program} : ∀ {l : List (Nat × EK)}, AllEz P l → ∀ x ∈ l, EqZOk P x.1 x.2
  | y :: l, h, x, hx => by
    rcases List.mem_cons.1 hx with rfl | hx
    · exact h.1
    · exact AllEz.mem h.2 x hx
noncomputable def FdOk (P : Program) (f : Nat) (fd : FD) : Prop := ∃ fn, P.funcs[f]? = some fn ∧ fn.body = some fd.body ∧ fn.ntmps = fd.nt ∧ fn.results.toList = fd.res ∧ calleeOk P f = true
noncomputable def AllFd (P : Program) : List (Nat × FD) → Prop
  | [] => True
  | x :: l => FdOk P x.1 x.2 ∧ AllFd P l
theorem AllFd.mem {P : Program} : ∀ {l : List (Nat × FD)}, AllFd P l → ∀ x ∈ l, FdOk P x.1 x.2
  | y :: l, h, x, hx => by
    rcases List.mem_cons.1 hx with rfl | hx
    · exact h.1
    · exact AllFd.mem h.2 x hx
noncomputable def AllBs (P : Program) : List (Nat × FnS) → Prop
  | [] => True
  | x :: l => (SOk P x.1 x.2 ∧ cok P x.1 x.2 = true) ∧ AllBs P l
theorem AllBs.mem {P : Program} : ∀ {l : List (Nat × FnS)}, AllBs P l → ∀ x ∈ l, SOk P x.1 x.2 ∧ cok P x.1 x.2 = true
  | y :: l, h, x, hx => by
    rcases List.mem_cons.1 hx with rfl | hx
    · exact h.1
    · exact AllBs.mem h.2 x hx
noncomputable def fdOf (fn : Func) : FD := ⟨fn.ntmps, fn.body.getD .skip, fn.results.toList⟩
theorem fdOf_ok {P : Program} {f : Nat} {fn : Func} (h : P.funcs[f]? = some fn) (hb : fn.body.isSome = true) (hn : (fn.name != "runtime.NumGoroutine") = true) : FdOk P f (fdOf fn) := by
  have hok : calleeOk P f = true := by unfold calleeOk; rw [h]; simp only [hn, hb, Bool.and_self]
  obtain ⟨b, hb⟩ := Option.isSome_iff_exists.1 hb
  exact ⟨fn, h, by simp [fdOf, hb], rfl, rfl, hok⟩
theorem eqz_fnT {P : Program} {t : Nat} (h : (match P.underlying t with | some (.func _ _ _) => true | _ => false) = true) : EqZOk P t .fn := by
  split at h
  · rename_i hu; exact eqz_fn hu
  · cases h
noncomputable def sysOf (tts : Tr TyI) (ezs : Tr EK) (fns : Tr FD) (bs : Tr FnS) : Sys where
  tt := fun t => (tts.get t).getD dflt
  eqz := ezs.get
  tab := fns.get
  base := fun f => (bs.get f).getD .none
theorem sysOf_ok {P : Program} {tts : List (Nat × TyI)} {ezs : List (Nat × EK)} {fns : List (Nat × FD)} {bs : List (Nat × FnS)} (hm : P.follows .mixedOrders = true)
    (h1 : AllTy P tts) (k1 : tts.all (fun x => decide (x.1 < 1000000000)) = true) (h2 : AllEz P ezs) (k2 : ezs.all (fun x => decide (x.1 < 1000000000)) = true)
    (h3 : AllFd P fns) (k3 : fns.all (fun x => decide (x.1 < 1000000000)) = true) (h4 : AllBs P bs) (k4 : bs.all (fun x => decide (x.1 < 1000000000)) = true) : SysOk (sysOf (mkTr tts) (mkTr ezs) (mkTr fns) (mkTr bs)) P := by
  refine ⟨hm, fun t => ?_, fun t k hk => h2.mem (t, k) (mkTr_get _ k2 _ _ hk), fun f fd hf => h3.mem (f, fd) (mkTr_get _ k3 _ _ hf), fun f hf => ?_⟩
  · show ((mkTr tts).get t).getD dflt = dflt ∨ TyOk P t (((mkTr tts).get t).getD dflt)
    cases h : (mkTr tts).get t with
    | none => exact .inl rfl
    | some x => exact .inr (h1.mem (t, x) (mkTr_get _ k1 _ _ h))
  · have hf' : ((mkTr bs).get f).getD .none ≠ .none := hf
    show SOk P f (((mkTr bs).get f).getD .none) ∧ cok P f (((mkTr bs).get f).getD .none) = true
    cases h : (mkTr bs).get f with
    | none => rw [h] at hf'; exact absurd rfl hf'
    | some x => exact h4.mem (f, x) (mkTr_get _ k4 _ _ h)
end Go.Proofs.YtmhinddneefmbaaGreat.Pe
namespace Go.Proofs.YtmhinddneefmbaaGreat.Pe
open Go
noncomputable def segAt (H : Hp) (sg : Nat) : Option (Nat × Nat × Tr Nat) := match H sg with
  | some ⟨_, 1, [[.ref o 1 0 n]]⟩ => match H o with
    | some ⟨some e, 0, [[.wds t m]]⟩ => Bool.rec (motive := fun _ => Option (Nat × Nat × Tr Nat)) none (some (o, n, t)) (Nat.beq n m)
    | _ => none
  | _ => none
noncomputable def inW (off n : Nat) : Bool := and (Nat.beq (Nat.mod off 8) 0) (Nat.blt off n)
noncomputable def newW (e : Nat) (c : Nat) (ads : List AD) (H : Hp) (nx : Nat) : Option (RV × Hp × Nat) := match ads with
  | [.one (.int .u64 (.ofNat n))] => Bool.rec (motive := fun _ => Option (RV × Hp × Nat)) (some (.a (.one .nilp), H, nx))
      (Bool.rec (motive := fun _ => Option (RV × Hp × Nat)) none
        (some (.a (.one (.ptr (nx + 1) 1 0 0)), .tr (((match H with | .tr t => t | _ => (.leaf : Tr PObj)).set (some (⟨some e, 0, [[.wds .leaf n]]⟩ : PObj)) 30 nx).set (some (⟨none, 1, [[.ref nx 1 0 n]]⟩ : PObj)) 30 (nx + 1)), nx + 2))
        (and (Nat.blt (nx + c) 1000000000) (match H with | .tr _ => true | _ => false)))
      (and (Bool.not (Nat.beq n 0)) (and (Nat.beq (Nat.mod n 8) 0) (Nat.ble n 1048576)))
  | _ => none
noncomputable def sizeW (ads : List AD) (H : Hp) (nx : Nat) : Option (RV × Hp × Nat) := match ads with
  | [.one .nilp] => some (.a (.one (.int .u64 0)), H, nx)
  | [.one (.ptr sg 1 0 0)] => match H sg with
    | some ⟨_, 1, [[.ref _ 1 0 n]]⟩ => some (.a (.one (.int .u64 n)), H, nx)
    | _ => none
  | _ => none
noncomputable def loadW (c : Nat) (ads : List AD) (H : Hp) (nx : Nat) : Option (RV × Hp × Nat) := match ads with
  | [.one .nilp, .one (.int .u64 _)] => some (.tup [.one (.int .u64 0), .one (.int .i64 1)], H, nx)
  | [.one (.ptr sg 1 0 0), .one (.int .u64 (.ofNat off))] => match segAt H sg with
    | some (_, n, t) => Bool.rec (motive := fun _ => Option (RV × Hp × Nat)) (some (.tup [.one (.int .u64 0), .one (.int .i64 1)], H, nx))
        ((fun v => Bool.rec (motive := fun _ => Option (RV × Hp × Nat)) none (some (.tup [.one (.int .u64 (.ofNat v)), .one (.int .i64 0)], H, nx + c)) (and (Nat.blt (nx + c) 1000000000) (Nat.blt v 18446744073709551616))) (Option.rec (motive := fun _ => Nat) 0 (fun v => v) (t.get (Nat.div off 8)))) (inW off n)
    | none => none
  | _ => none
noncomputable def storeW (c : Nat) (ads : List AD) (H : Hp) (nx : Nat) : Option (RV × Hp × Nat) := match ads with
  | [.one .nilp, .one (.int .u64 _), .one (.int .u64 _)] => some (.a (.one (.int .i64 1)), H, nx)
  | [.one (.ptr sg 1 0 0), .one (.int .u64 (.ofNat off)), .one (.int .u64 (.ofNat v))] => match segAt H sg with
    | some (o, n, t) => Bool.rec (motive := fun _ => Option (RV × Hp × Nat)) (some (.a (.one (.int .i64 1)), H, nx + 1))
        (Bool.rec (motive := fun _ => Option (RV × Hp × Nat)) none (match H, H o with
          | .tr tr, some ob => some (.a (.one (.int .i64 0)), .tr (tr.set (some (⟨ob.e, 0, [[.wds (t.set (some v) 30 (Nat.div off 8)) n]]⟩ : PObj)) 30 o), nx + c)
          | _, _ => none) (and (Nat.blt (nx + c) 1000000000) (Nat.blt v 18446744073709551616))) (inW off n)
    | none => none
  | _ => none
end Go.Proofs.YtmhinddneefmbaaGreat.Pe
namespace Go.Proofs.YtmhinddneefmbaaGreat.Pe
open Go
noncomputable def PObj.exp (ob : PObj) : PObj := match ob with
  | ⟨e, 0, [[.wds t n]]⟩ => ⟨e, 1, wdsRows t n⟩
  | ob => ob
noncomputable def expH : Hp → Hp
  | .tr t => .tr (t.map fun ob => some ob.exp)
  | .upd H o x => .upd (expH H) o (x.map PObj.exp)
theorem expH_at : ∀ (H : Hp) (o : Nat), expH H o = (H o).map PObj.exp
  | .tr t, o => by
    show (t.map fun ob => some ob.exp).get o = (t.get o).map PObj.exp
    rw [Tr.get_map]
    cases t.get o <;> rfl
  | .upd H o' x, o => by
    show (if o = o' then x.map PObj.exp else expH H o) = (if o = o' then x else H o).map PObj.exp
    split
    · rfl
    · exact expH_at H o
variable {w : World} {ι : Nat → Option Nat} {M : Nat → Prop} {b nx : Nat} {P : Program}
theorem ObjAt.exp {ob : PObj} (h : ObjAt w ι M b ob) : ObjAt w ι M b ob.exp := by
  unfold PObj.exp
  split
  · rename_i e t n
    rcases h with ⟨_, ⟨hn, _⟩ | ⟨nt, env, ps, assign, body, busy, jump, hr, _⟩ | ⟨t', n', T, cs, hr, hT, hb⟩ | ⟨t', n', T, cs, hr, hT, hb⟩⟩ | ⟨T, cs, hT, hb⟩
    · cases hn
    · cases hr
    · simp only [List.cons.injEq, D.wds.injEq, and_true] at hr
      obtain ⟨rfl, rfl⟩ := hr
      exact .inr ⟨T, cs, hT, hb⟩
    · cases hr
    · have := hb.pos; simp at this
  · exact h
theorem ObjAt.unexp {ob : PObj} (h : ObjAt w ι M b ob.exp) : ObjAt w ι M b ob := by
  unfold PObj.exp at h
  split at h
  · rename_i e t n
    rcases h with ⟨h0, _⟩ | ⟨T, cs, hT, hb⟩
    · simp at h0
    · exact .inl ⟨rfl, .inr (.inr (.inl ⟨t, n, T, cs, rfl, hT, hb⟩))⟩
  · exact h
theorem HeapOk.exp {H : Hp} (h : HeapOk w ι M H nx) : HeapOk w ι M (expH H) nx := by
  have key : ∀ o ob, expH H o = some ob → ∃ x, H o = some x ∧ ob = x.exp := fun o ob ho => by
    rw [expH_at] at ho
    cases hx : H o with
    | none => rw [hx] at ho; cases ho
    | some x => rw [hx] at ho; injection ho with ho; exact ⟨x, rfl, ho.symm⟩
  refine ⟨h.new, fun o ob ho => ?_, fun o o' x x' b ho ho' => ?_, fun o x b ho => ?_⟩
  · obtain ⟨x, hx, rfl⟩ := key o ob ho
    obtain ⟨b, h1, h2⟩ := h.objs o x hx
    exact ⟨b, h1, h2.exp⟩
  · obtain ⟨y, hy, _⟩ := key o x ho
    obtain ⟨y', hy', _⟩ := key o' x' ho'
    exact h.inj o o' y y' b hy hy'
  · obtain ⟨y, hy, _⟩ := key o x ho
    exact h.ctl o y b hy
theorem HeapOk.sub {K H : Hp} (h : HeapOk w ι M K nx) (hs : ∀ o x, H o = some x → K o = some x.exp) : HeapOk w ι M H nx :=
  ⟨h.new, fun o ob ho => let ⟨b, h1, h2⟩ := h.objs o _ (hs o ob ho); ⟨b, h1, h2.unexp⟩, fun o o' x x' b ho ho' => h.inj o o' _ _ b (hs o x ho) (hs o' x' ho'), fun o x b ho => h.ctl o _ b (hs o x ho)⟩
theorem FnEff.words {f : Nat} {F G : List AD → Hp → Nat → Option (RV × Hp × Nat)} (hF : FnEff P f F)
    (hG : ∀ ads H nx r H' nx', G ads H nx = some (r, H', nx') → ∀ w ι M, HeapOk w ι M H nx → ∃ K, F ads (expH H) nx = some (r, K, nx') ∧ ∀ o x, H' o = some x → K o = some x.exp) : FnEff P f G := by
  intro ads H nx r H' nx' hq w ι M vals hM hok hsz hargs
  obtain ⟨K, h1, h2⟩ := hG ads H nx r H' nx' hq w ι M hok
  refine (hF ads (expH H) nx r K nx' h1 w ι M vals hM hok.exp hsz hargs).mono fun e w' hp => ?_
  obtain ⟨v, ι', M', he, hr, hk, hi, hev, hkept, hback, hlt⟩ := hp
  have dom : ∀ b, (∃ o x, expH H o = some x ∧ ι o = some b) ↔ ∃ o x, H o = some x ∧ ι o = some b := fun b => by
    constructor
    · rintro ⟨o, x, ho, hb⟩
      rw [expH_at] at ho
      cases hx : H o with
      | none => rw [hx] at ho; cases ho
      | some y => exact ⟨o, y, hx, hb⟩
    · rintro ⟨o, x, ho, hb⟩
      exact ⟨o, x.exp, by rw [expH_at, ho]; rfl, hb⟩
  refine ⟨v, ι', M', he, hr, hk.sub h2, hi, ?_, fun b hb hn => hkept b hb fun o x ho => ?_, hback, hlt⟩
  · refine ⟨hev.os, hev.tape, hev.output, hev.size, fun b hb hn => hev.same b hb fun hh => hn ((dom b).1 hh), fun b hb hh => ?_, fun b hb h => h.elim, hev.shape⟩
    obtain ⟨o, x, ho, hb'⟩ := hh
    exact (dom b).1 (hev.back b hb ⟨o, x.exp, h2 o x ho, hb'⟩)
  · rw [expH_at] at ho
    cases hx : H o with
    | none => rw [hx] at ho; cases ho
    | some y => exact hn o y hx
end Go.Proofs.YtmhinddneefmbaaGreat.Pe
