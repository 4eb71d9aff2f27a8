/- A part of the proof of KrA. -/
import Derived.Test.YtdpphbcneihllaaGreatKa15
set_option linter.unusedSimpArgs false
set_option linter.unusedVariables false
set_option linter.unusedSectionVars false
namespace Go.Proofs.YtdpphbcneihllaaGreat.Pe
open Go
section
variable {P : Program} {S : Sys} {C C' : Ctx} {E E1 : Env} {a : Act} {w w' : World} {ι ι' β : Nat → Option Nat} {M M' : Nat → Prop} {e : Evs} {s s' : St}
theorem Sim.flatH {H : Hp} {nx : Nat} {t : Tr PObj} (hf : H.flat = some t) (h : Sim C E a w ι β M) (hE : E gs = .heap H nx) : Sim C (upd E gs (.heap (.tr t) nx)) a w ι β M :=
  h.heq hE fun o => (Hp.flat_get _ _ hf o).symm
theorem HeapOk.flatH {H : Hp} {nx : Nat} {t : Tr PObj} (hf : H.flat = some t) (h : HeapOk w ι M H nx) : HeapOk w ι M (.tr t) nx := by
  have he : ∀ o, (Hp.tr t) o = H o := fun o => (Hp.flat_get _ _ hf o).symm
  exact ⟨h.new, fun o ob ho => h.objs o ob (by rw [← he]; exact ho), fun o o' x x' b h1 h2 => h.inj o o' x x' b (by rw [← he]; exact h1) (by rw [← he]; exact h2), fun o x b h1 => h.ctl o x b (by rw [← he]; exact h1)⟩
theorem resQ_cx (C : Ctx) (X : Nat → Prop) (ds : List Deferred) (pub : Nat → Bool) : ∀ l : List ResultVar, resQ { C with X := X, dfs := ds, pub := pub } l = resQ C l
  | [] => rfl
  | x :: l => by
    simp only [resQ, resQ_cx C X ds pub l]
    cases x <;> rfl
theorem fn_step (hS : SysOk S P) (ih : EvsOk S P e) (f : Nat) (hf : (S.tab f).isSome = true) : FnEff P f ((stepE S e).fn f) := by
  intro ads H nx r H' nx' hq w ι M vals hM hok hl hargs
  obtain ⟨fd, hfd⟩ := Option.isSome_iff_exists.1 hf
  obtain ⟨fn, k1, k2, k3, k4, k5⟩ := hS.tab f fd hfd
  simp only [stepE, hfd] at hq
  split at hq
  · rename_i hlen
    cases hcode : e.code fd.nt none fd.body ⟨startS ads 0 .leaf, H, nx⟩ with
    | none => rw [hcode] at hq; cases hq
    | some z =>
      obtain ⟨ex, s1⟩ := z
      rw [hcode] at hq
      simp only [Option.bind_some] at hq
      obtain ⟨hex, hres⟩ : (ex = .normal ∨ ex = .ret) ∧ ((resQ (ctxS S e fd.nt) fd.res).runS s1 [] []).bind (fun r => some (rvOf r.1, r.2.1.H, r.2.1.nx)) = some (r, H', nx') := by
        cases ex with
        | normal => exact ⟨.inl rfl, hq⟩
        | ret => exact ⟨.inr rfl, hq⟩
        | exit id => cases hq
      clear hq
      cases hrs : (resQ (ctxS S e fd.nt) fd.res).runS s1 [] [] with
      | none => rw [hrs] at hres; cases hres
      | some y =>
        obtain ⟨l, s2, rr, uu⟩ := y
        rw [hrs] at hres
        simp only [Option.bind_some, Option.some.injEq, Prod.mk.injEq] at hres
        obtain ⟨rfl, rfl, rfl⟩ := hres
        obtain ⟨hrun, _, _⟩ := Q.runS_at hrs
        let X : Nat → Prop := fun b => M b ∧ ∀ o x, H o = some x → ι o ≠ some b
        let C0 : Ctx := { ctxS S e fd.nt with X := X }
        have hsz : (vals ++ Array.replicate (fn.ntmps - vals.size) undef).size = fd.nt := by simp; omega
        obtain ⟨sm0, pl0⟩ := mk_sim (C := C0) (t := startS ads 0 .leaf) (tmps := vals ++ Array.replicate (fn.ntmps - vals.size) undef) hok hM hsz hlen.2 rfl rfl (fun i v hi hv => by
          rw [startS_get ads 0 .leaf (by omega)] at hv
          split at hv
          · rename_i hlt
            simp only [Nat.sub_zero] at hv
            cases hx : ads[i]? with
            | none => rw [hx] at hv; cases hv
            | some x =>
              rw [hx] at hv
              simp only [Option.map_some, Option.some.injEq] at hv
              have hil : i < vals.size := by omega
              refine ⟨x, hv.symm, ?_⟩
              have : (vals ++ Array.replicate (fn.ntmps - vals.size) undef).getD i undef = vals[i] := by
                rw [Array.getD_eq_getD_getElem?, Array.getElem?_append_left hil, Array.getElem?_eq_getElem hil]; rfl
              rw [this]
              exact hargs i _ x (Array.getElem?_eq_getElem hil) hx
          · cases hv)
        refine callsIn_fx.1 (callsIn_of_wp_marks (F := Fx none) (n := 0) k1 k2 trivial ?_ rfl)
        refine ih.code fd.nt none fd.body _ ex s1 hcode C0 _ w ι _ M w.heap.size _ 0 none rfl rfl sm0 pl0 (Nat.le_refl _) ⟨List.Pairwise.nil, fun d hd => by cases hd⟩ ?_
        intro C1 a1 w1 ι1 β1 M1 hnt1 hX1 _ sm1 pl1 mk1 ev1 hi1
        have goal : LeavesInM (Fx none) 0 P fn a1.tmps (fun e w' => ∃ v ι' M', e = .returned v ∧ RdV w' ι' M' v (rvOf l) ∧ HeapOk w' ι' M' s2.H s2.nx ∧ (∀ o b, ι o = some b → ι' o = some b) ∧ Evo (fun _ => False) (fun b => ∃ o x, H o = some x ∧ ι o = some b) w (fun b => ∃ o x, s2.H o = some x ∧ ι' o = some b) w' ∧
            (∀ b, M b → (∀ o x, H o = some x → ι o ≠ some b) → M' b) ∧ (∀ b, b < w.heap.size → M' b → M b) ∧ (∀ b, M' b → b < w'.heap.size)) a1.defers .returning w1 := by
          rw [sm1.defs]
          refine leaves_marks (B := w.heap.size) C1.dfs w1 mk1 ev1.size fun w2 hsh hlow => ?_
          have sm2 := sm1.sh pl1 hsh
          have hC := ctx_ok hS ih.fn ih.yld fd.nt C1.X C1.dfs (fun _ => true)
          have sm3 : Sim { ctxS S e fd.nt with X := C1.X, dfs := C1.dfs } s1.env a1 w2 ι1 β1 M1 := sm2.ctx hnt1.symm rfl rfl
          obtain ⟨β2, M2, v, s3, e3, r3, hrv⟩ := results_sound (P := P) (fn := fn) hC sm3 (by rw [k4, resQ_cx (ctxS S e fd.nt)]; exact hrun)
          refine ⟨v, hrv, v, ι1, M2, rfl, r3, ?_⟩
          have ev2 : Evo X M w M2 w2 := by
            have := (ev1.sh hsh hlow).trans (X := C0.X) (by have e3' := e3; rw [show ({ ctxS S e fd.nt with X := C1.X, dfs := C1.dfs } : Ctx).X = C0.X from hX1] at e3'; exact e3')
            exact this
          obtain ⟨t1, t2, t3, t4, t5, t6⟩ := effTo_of_sim (C := { ctxS S e fd.nt with X := C1.X, dfs := C1.dfs }) (X := X) rfl hX1 s3 (St.env_gs s2) ev2 hi1
          exact ⟨t1, t2, t3, t4, t5, t6⟩
        rcases hex with rfl | rfl
        · exact goal
        · exact goal
  · cases hq
theorem putRec_at (H : Hp) (lp nt : Nat) (env : Tr (Bool × List D)) (ps : List Nat) (assign body : Code) (busy : Bool) (jump : Option Code) : putRec H lp nt env ps assign body busy jump = updO H lp (some ⟨none, 0, [[.lrec nt env ps assign body busy jump]]⟩) := rfl
theorem sim_putRec {lp l : Nat} {nt : Nat} {env : Tr (Bool × List D)} {ps : List Nat} {assign body : Code} {busy busy' : Bool} {jump jump' : Option Code} {t : Tr PObj} {r : Loop} (h : Sim C s.env a w ι β M) (hp : Plain s) (hr : recAt s.H lp = some (nt, env, ps, assign, body, busy, jump)) (hl : ι lp = some l)
    (h1 : w.heap[l]? = some (.loop r)) (h2 : r.tmps.size = nt) (h3 : r.params.toList = ps) (h4 : r.assign = assign) (h5 : r.body = body) (h8 : ∀ s x, s ≠ gs → env.get s = some x → RdA w ι M (r.tmps.getD s undef) (ofB x))
    (st : LoopState) (hst : st = (if busy' then .busy else if jump'.isNone then .ready else .done)) (hf : (putRec s.H lp nt env ps assign body busy' jump').flat = some t) :
    Sim C (St.env ⟨s.t, .tr t, s.nx⟩) a (w.putObj l (.loop { r with state := st, pending := jump' })) ι β M ∧ Plain ⟨s.t, .tr t, s.nx⟩ ∧ Evo C.X M w M (w.putObj l (.loop { r with state := st, pending := jump' })) := by
  obtain ⟨x, hx, _, _⟩ := recAt_some hr
  have hlx : live s.env lp = some x := by simp [live, St.env_gs, hx]
  have hM : M l := h.ctlO lp x l hlx hl
  have hX : ¬ C.X l := h.xO lp x l hlx hl
  have hev := putLoop_evo (w := w) (X := C.X) h1 hM hX { r with state := st, pending := jump' }
  have hlt : l < w.heap.size := (Array.getElem?_eq_some_iff.1 h1).1
  have s2 := h.storedO (w' := w.putObj l (.loop { r with state := st, pending := jump' })) (St.env_gs s) hx hl hev (fun b hb => World.putObj_heap_other hb) (ob := ⟨none, 0, [[.lrec nt env ps assign body busy' jump']]⟩)
    (.inl ⟨rfl, .inr (.inl ⟨nt, env, ps, assign, body, busy', jump', rfl, { r with state := st, pending := jump' }, World.putObj_heap_same hlt, h2, h3, h4, h5, rfl, hst, fun i y hi hy => (h8 i y hi hy).mono hev (fun _ _ h => h)⟩)⟩)
  have s3 := s2.flatH (H := putRec s.H lp nt env ps assign body busy' jump') (nx := s.nx) hf (upd_same _ _ _)
  rw [upd_upd] at s3
  refine ⟨?_, hp.heap _ _, hev⟩
  rw [St.env_H]; exact s3
theorem yld_step (ih : EvsOk S P e) : YldOk P (stepE S e).yld := by
  intro lp ads H nx r H' nx' hq w ι M vals hM hok hsz hargs
  simp only [stepE] at hq
  cases hr0 : recAt H lp with
  | none => rw [hr0] at hq; cases hq
  | some z0 =>
    obtain ⟨nt, env, ps, assign, body, busy, jump⟩ := z0
    rw [hr0] at hq
    simp only [Option.bind_some] at hq
    obtain ⟨l, hl, hMl, r0, h1, h2, h3, h4, h5, h6, h7, h8⟩ := recAt_loop hok hr0
    split at hq
    · rename_i hc
      obtain ⟨hbusy, hjump, hnt⟩ := hc
      cases hps : setPs nt ps ads (ofEnv env) with
      | none => rw [hps] at hq; cases hq
      | some t =>
        rw [hps] at hq
        simp only [Option.bind_some] at hq
        cases hc1 : e.code nt (some lp) assign ⟨t, H, nx⟩ with
        | none => rw [hc1] at hq; cases hq
        | some z1 =>
          obtain ⟨ex1, s1⟩ := z1
          rw [hc1] at hq
          simp only [Option.bind_some] at hq
          cases ex1 with
          | ret => cases hq
          | exit => cases hq
          | normal =>
            simp only at hq
            cases hr1 : recAt s1.H lp with
            | none => rw [hr1] at hq; cases hq
            | some z2 =>
              obtain ⟨nt', env', ps', assign', body', busy', jump'⟩ := z2
              rw [hr1] at hq
              simp only [Option.bind_some] at hq
              split at hq
              · rename_i hc2
                obtain ⟨hbusy', hjump'⟩ := hc2
                cases hf1 : (putRec s1.H lp nt' env' ps' assign' body' true none).flat with
                | none => rw [hf1] at hq; cases hq
                | some H1 =>
                  rw [hf1] at hq
                  simp only [Option.bind_some] at hq
                  cases hc3 : e.code nt (some lp) body { s1 with H := .tr H1 } with
                  | none => rw [hc3] at hq; cases hq
                  | some z3 =>
                    obtain ⟨ex, s2⟩ := z3
                    rw [hc3] at hq
                    simp only [Option.bind_some] at hq
                    cases hr2 : recAt s2.H lp with
                    | none => rw [hr2] at hq; cases hq
                    | some z4 =>
                      obtain ⟨nt2, env2, ps2, assign2, body2, busy2, jump2⟩ := z4
                      rw [hr2] at hq
                      simp only [Option.bind_some] at hq
                      generalize hjmp : exJump ex = jmp at hq
                      cases hf2 : (putRec s2.H lp nt2 env2 ps2 assign2 body2 false jmp).flat with
                      | none => rw [hf2] at hq; cases hq
                      | some H2 =>
                        rw [hf2] at hq
                        simp only [Option.bind_some, Option.some.injEq, Prod.mk.injEq] at hq
                        obtain ⟨rfl, rfl, rfl⟩ := hq
                        have henv : ∀ i v, i ≠ gs → (ofEnv env).get i = some v → ∃ x, v = .v x ∧ RdA w ι M (r0.tmps.getD i undef) x := fun i v hi hv => by
                          unfold ofEnv at hv
                          rw [Tr.get_map] at hv
                          cases hx : env.get i with
                          | none => rw [hx] at hv; cases hv
                          | some y =>
                            rw [hx] at hv
                            simp only [Option.bind_some, Option.some.injEq] at hv
                            exact ⟨_, hv.symm, h8 i y hi hx⟩
                        obtain ⟨p1, p2, p3⟩ := setPs_sound (w := w) (ι := ι) (M := M) hnt ps ads vals.toList (ofEnv env) t r0.tmps hps h2 (by simpa using hsz) (fun j v x hv hx => hargs j v x (by simpa using hv) hx) henv
                        have hzip : ((r0.params.zip vals).foldl (fun tmps (t, a) => tmps.setIfInBounds t a) r0.tmps) = ((ps.zip vals.toList).foldl (fun tmps (t, a) => tmps.setIfInBounds t a) r0.tmps) := by
                          rw [← Array.foldl_toList, Array.toList_zip, h3]
                        refine ⟨l, r0.fn, _, r0.assign, r0.body, hl, run_yield h1 (by rw [← Array.length_toList (xs := r0.params), h3, p1, hsz]), fun n => ?_⟩
                        rw [hzip]
                        generalize (ps.zip vals.toList).foldl (fun tmps (t, a) => tmps.setIfInBounds t a) r0.tmps = tmps at p2 p3
                        refine roundIn_of_wpIn (F := Fence.wide) trivial ?_
                        rw [h4, h5]
                        let X : Nat → Prop := fun b => M b ∧ ∀ o x, H o = some x → ι o ≠ some b
                        let C0 : Ctx := { ctxS S e nt with X := X }
                        obtain ⟨sm0, pl0⟩ := mk_sim (C := C0) (t := t) (tmps := tmps) hok hM p2 hnt rfl rfl p3
                        refine ih.code nt (some lp) assign ⟨t, H, nx⟩ .normal s1 hc1 C0 _ w ι _ M 0 _ n (some l) rfl ⟨l, rfl, hl⟩ sm0 pl0 (Nat.zero_le _) ⟨List.Pairwise.nil, fun d hd => by cases hd⟩ ?_
                        intro C1 a1 w1 ι1 β1 M1 hnt1 hX1 hdf1 sm1 pl1 mk1 ev1 hi1
                        have hl1 : ι1 lp = some l := hi1 _ _ hl
                        obtain ⟨l', hl', hMl1, r1, g1, g2, g3, g4, g5, g6, g7, g8⟩ := recAt_loop (sm1.heapOk (St.env_gs s1)) hr1
                        rw [hl1] at hl'; injection hl' with hl'; subst hl'
                        have hst1 : r1.state = .ready := by rw [g7, hbusy']; simp [hjump']
                        refine ⟨_, run_beginRound g1 hst1, ?_⟩
                        have hpend : r1.pending = none := by
                          rw [g6]; cases jump' <;> first | rfl | cases hjump'
                        have hrec : ({ r1 with state := .busy } : Loop) = { r1 with state := .busy, pending := none } := by rw [← hpend]
                        rw [hrec]
                        obtain ⟨sm2, pl2, ev2⟩ := sim_putRec (busy' := true) (jump' := none) sm1 pl1 hr1 hl1 g1 g2 g3 g4 g5 g8 .busy rfl hf1
                        refine ih.code nt (some lp) body { s1 with H := .tr H1 } ex s2 hc3 C1 a1 _ ι1 β1 M1 0 _ n (some l) hnt1 ⟨l, rfl, hl1⟩ sm2 pl2 (Nat.zero_le _) (mk1.mono ev2) ?_
                        intro C2 a2 w3 ι2 β2 M2 hnt2 hX2 hdf2 sm3 pl3 mk3 ev3 hi2
                        have hl2 : ι2 lp = some l := hi2 _ _ hl1
                        obtain ⟨l', hl', hMl2, r2, q1, q2, q3, q4, q5, q6, q7, q8⟩ := recAt_loop (sm3.heapOk (St.env_gs s2)) hr2
                        rw [hl2] at hl'; injection hl' with hl'; subst hl'
                        obtain ⟨sm4, pl4, ev4⟩ := sim_putRec (busy' := false) (jump' := jmp) sm3 pl3 hr2 hl2 q1 q2 q3 q4 q5 q8 (if jmp.isNone then .ready else .done) rfl hf2
                        have hcx : C2.X = X := hX2.trans hX1
                        have ev1' : Evo X M w M1 w1 := ev1
                        have ev2' := ev2
                        rw [show C1.X = X from hX1] at ev2'
                        have ev3' := ev3
                        rw [show C1.X = X from hX1] at ev3'
                        have ev4' := ev4
                        rw [hcx] at ev4'
                        have hto := effTo_of_sim (X := X) rfl hcx sm4 (St.env_gs _) (((ev1'.trans ev2').trans ev3').trans ev4') (fun o b h => hi2 _ _ (hi1 _ _ h))
                        have hend := run_endRound (P := P) jmp q1
                        have fin : ∃ v w', (Instr.endRound l jmp).run P w3 = .ok v w' ∧ ∃ ι' M', Ending.returned v = Ending.returned (.bool jmp.isNone) ∧ EffTo w ι M H w' ι' M' (.tr H2) s2.nx := ⟨_, _, hend, ι2, M2, rfl, hto⟩
                        cases ex with
                        | normal => subst hjmp; exact fin
                        | ret => subst hjmp; exact fin
                        | exit id => subst hjmp; exact fin
              · cases hq
    · cases hq
end
end Go.Proofs.YtdpphbcneihllaaGreat.Pe
namespace Go.Proofs.YtdpphbcneihllaaGreat.Pe
open Go Go.RowKit
section
variable {P : Program} {S : Sys} {C C' : Ctx} {E E1 : Env} {a : Act} {w w' : World} {ι ι' β : Nat → Option Nat} {M M' : Nat → Prop} {e : Evs} {s s' : St}
theorem RRel.ext {r ro : Option Nat} (h : RRel r ro ι) (hi : ∀ o b, ι o = some b → ι' o = some b) : RRel r ro ι' := by
  cases r with
  | none => exact h
  | some lp => obtain ⟨l, h1, h2⟩ := h; exact ⟨l, h1, hi _ _ h2⟩
theorem run_enterIn {l₀ : Nat} {r₀ : Loop} (h : w.heap[l₀]? = some (.loop r₀)) (fn : FuncId) (tmps : Array Value) (ps : Array Tmp) (assign body : Code) :
    (Instr.enterLoop fn tmps ps assign body (some l₀)).run P w =
      .ok (w.heap.size, []) (w.alloc (.loop { state := .ready, pending := none, fn, tmps, params := ps, assign, body, defers := r₀.defers })) := by
  unfold Instr.enterLoop
  simp only [Sem.run_bind, run_getLoop h, run_newObj_alloc, Result.andThen, Sem.run_pure]
theorem enter_loop {fn : Nat} {r ro : Option Nat} {ps : Array Tmp} {assign body : Code} (h : Sim C s.env a w ι β M) (hr : RRel r ro ι) (hl0 : insideOk s.H r = true) :
    ∃ l mark w1 rec, (Instr.enterLoop fn a.tmps ps assign body ro).run P w = .ok (l, mark) w1 ∧ w.heap.size ≤ l ∧ l < w1.heap.size ∧ w1.heap[l]? = some (.loop rec) ∧ rec.state = .ready ∧ rec.pending = none ∧ rec.tmps = a.tmps ∧ rec.params = ps ∧ rec.assign = assign ∧ rec.body = body ∧
      (∀ b, b < w.heap.size → w1.heap[b]? = w.heap[b]?) ∧ w1.os = w.os ∧ w1.tape = w.tape ∧ w1.output = w.output ∧ w.heap.size ≤ w1.heap.size ∧
      ((mark = [] ∧ r ≠ none) ∨ (r = none ∧ ∃ D, mark = [{ target := .collected D, args := #[] }] ∧ w.heap.size ≤ D ∧ D ≠ l ∧ w1.heap[D]? = some (Obj.deferred (some [])))) := by
  cases r with
  | none =>
    have hro : ro = none := hr
    subst hro
    have hsame : ∀ (x : Obj) (y : Obj), ∀ b, b < w.heap.size → ((w.alloc x).alloc y).heap[b]? = w.heap[b]? := fun x y b hb => (Below.heap_alloc (w.alloc x) y b (by simp; omega)).trans (Below.heap_alloc w x b hb)
    refine ⟨w.heap.size + 1, _, _, { state := .ready, pending := none, fn, tmps := a.tmps, params := ps, assign, body, defers := w.heap.size }, run_enterLoop_outer fn a.tmps ps assign body, Nat.le_succ _, by simp, ?_, rfl, rfl, rfl, rfl, rfl, rfl, hsame _ _, rfl, rfl, rfl, by simp; omega, .inr ⟨rfl, w.heap.size, rfl, Nat.le_refl _, by omega, ?_⟩⟩
    · have := World.alloc_heap_new (w.alloc (.deferred (some []))) (.loop { state := .ready, pending := none, fn, tmps := a.tmps, params := ps, assign, body, defers := w.heap.size })
      rwa [World.size_alloc] at this
    · exact (Below.heap_alloc _ _ _ (by simp)).trans (World.alloc_heap_new w _)
  | some lp =>
    obtain ⟨l0, hro, hl⟩ := hr
    subst hro
    obtain ⟨z, hz⟩ := Option.isSome_iff_exists.1 hl0
    obtain ⟨nt', env, ps', assign', body', busy, jump⟩ := z
    obtain ⟨l', hl', _, r0, h1, _⟩ := recAt_loop (h.heapOk (St.env_gs s)) hz
    rw [hl] at hl'; injection hl' with hl'; subst hl'
    refine ⟨w.heap.size, _, _, { state := .ready, pending := none, fn, tmps := a.tmps, params := ps, assign, body, defers := r0.defers }, run_enterIn h1 fn a.tmps ps assign body, Nat.le_refl _, by simp, World.alloc_heap_new w _, rfl, rfl, rfl, rfl, rfl, rfl, fun b hb => Below.heap_alloc w _ b hb, rfl, rfl, rfl, by simp, .inl ⟨rfl, by simp⟩⟩
theorem range_step (hS : SysOk S P) (ih : EvsOk S P e) {nt : Nat} {r ro : Option Nat} {g : Operand} {ps : Array Tmp} {assign body : Code} {ex : Ex} {B n : Nat} {Qx : Exit → Act → World → Prop}
    (hq : (stepE S e).code nt r (.rangeFunc g ps assign body) s = some (ex, s')) (hnt : C.nt = nt) (hrr : RRel r ro ι) (h : Sim C s.env a w ι β M) (hp : Plain s) (hB : B ≤ w.heap.size) (hm : Marks B C.dfs w M)
    (hK : ∀ C' a' w' ι' β' M', C'.nt = nt → C'.X = C.X → (r ≠ none → C'.dfs = C.dfs) → Sim C' s'.env a' w' ι' β' M' → Plain s' → Marks B C'.dfs w' M' → Evo C.X M w M' w' → (∀ o b, ι o = some b → ι' o = some b) → Qx ex.ex a' w') : (Code.rangeFunc g ps assign body).wpIn (Fx ro) n P Qx a w := by
  simp only [stepE] at hq
  cases hit : iterS s g with
  | none => rw [hit] at hq; cases hq
  | some fc =>
    obtain ⟨f, caps⟩ := fc
    rw [hit] at hq
    simp only [Option.bind_some] at hq
    split at hq
    · rename_i hl0
      cases hf1 : (putRec s.H s.nx nt (s.t.map toB) ps.toList assign body false none).flat with
      | none => rw [hf1] at hq; cases hq
      | some H1 =>
        rw [hf1] at hq
        simp only [Option.bind_some] at hq
        cases hcal : callee S e f (.one (.yl s.nx) :: caps.map .one) (.tr H1) (s.nx + 1) with
        | none => rw [hcal] at hq; cases hq
        | some z =>
          obtain ⟨rv, H2, nx2⟩ := z
          rw [hcal] at hq
          simp only [Option.bind_some] at hq
          cases hr2 : recAt H2 s.nx with
          | none => rw [hr2] at hq; cases hq
          | some z2 =>
            obtain ⟨nt2, env2, ps2, assign2, body2, busy, jump⟩ := z2
            rw [hr2] at hq
            simp only [Option.bind_some] at hq
            cases busy with
            | true => cases hq
            | false =>
              simp only [Bool.false_eq_true, if_false] at hq
              cases hf3 : (updO H2 s.nx none).flat with
              | none => rw [hf3] at hq; cases hq
              | some H3 =>
                rw [hf3] at hq
                simp only [Option.bind_some] at hq
                cases hj : jumpOf jump with
                | none => rw [hj] at hq; cases hq
                | some ex' =>
                  rw [hj] at hq
                  simp only [Option.map_some, Option.some.injEq, Prod.mk.injEq] at hq
                  obtain ⟨rfl, rfl⟩ := hq
                  obtain ⟨hok, F, hF, hFq⟩ := callee_sound hS ih.fn hcal
                  obtain ⟨lb, hg, hlb, hlr⟩ := iter_sound h hit
                  refine wpIn_rangeFunc fun fn hfn => ?_
                  obtain ⟨l, mark, w1, rec, ent, e1, e2, e3, e4, e5, e6, e7, e8, e9, e10, e11, e12, e13, e14, e15⟩ := enter_loop (P := P) (fn := fn) (ps := ps) (assign := assign) (body := body) h hrr hl0
                  let M1 : Nat → Prop := fun b => M b ∨ b = l
                  have ev1 : Evo C.X M w M1 w1 := ⟨e11, e12, e13, e14, fun b hb _ => e10 b hb, fun b hb hm => by
                    rcases hm with hm | hm
                    · exact hm
                    · omega, fun b hb _ => e10 b hb, .of e10⟩
                  have sm1 : Sim C s.env a w1 ι β M1 := h.world ev1 (fun b hb => .inl hb) (fun b hb => by
                    rcases hb with hb | hb
                    · have := h.lt b hb; omega
                    · omega) (fun t b ht => e10 b (h.lt b (h.ctlB t b ht))) (fun o x b hl hi => e10 b (h.lt b (h.ctlO o x b hl hi)))
                  have hob : ObjAt w1 ι M1 l ⟨none, 0, [[.lrec nt (s.t.map toB) ps.toList assign body false none]]⟩ := .inl ⟨rfl, .inr (.inl ⟨nt, _, _, assign, body, false, none, rfl, rec, e3, by rw [e6, h.size, hnt], by rw [e7], e8, e9, e5, by rw [e4]; rfl, fun i x hi hx => by
                    rw [Tr.get_map] at hx
                    cases ht : s.t.get i with
                    | none => rw [ht] at hx; cases hx
                    | some av =>
                      rw [ht] at hx
                      simp only [Option.bind_some] at hx
                      have hav := toB_of hx
                      have hh := sm1.hold i
                      rw [St.env_ne _ hi, ht] at hh
                      simp only [Option.getD_some] at hh
                      rw [hav] at hh
                      rw [e6]
                      exact hh⟩)⟩
                  have sm2 := sm1.newObj (b := l) (St.env_gs s) hob (.inr rfl) (fun hx => by have := h.xlt _ hx; omega) (fun t ht => by have := h.lt _ (h.ctlB t _ ht); omega) (fun o x hl hi => by have := h.lt _ (h.ctlO o x _ hl hi); omega)
                  have sm3 := sm2.flatH (H := putRec s.H s.nx nt (s.t.map toB) ps.toList assign body false none) (nx := s.nx + 1) hf1 (upd_same _ _ _)
                  rw [upd_upd] at sm3
                  have hE3 : (upd s.env gs (.heap (.tr H1) (s.nx + 1))) gs = .heap (.tr H1) (s.nx + 1) := upd_same _ _ _
                  have hext1 : ∀ o b, ι o = some b → setI ι s.nx l o = some b := setI_mono (b := l) h (St.env_gs s)
                  have hln : setI ι s.nx l s.nx = some l := by simp [setI]
                  refine ⟨l, mark, w1, { target := .fn (.func f) lb, args := #[.func (.yield l) #[] #[]] }, w1, f, #[.func (.yield l) #[] #[]] ++ lb, w1, ent, ?_, fun _ _ => trivial, ?_, fun hd => by simp [Fx] at hd, ?_⟩
                  · simp only [resolve, hg]
                    simp [go_sem]
                  · simp [invoke, callFunc_ok hok]
                  · have hvsz : (#[Value.func (.yield l) #[] #[]] ++ lb).size = (AD.one (.yl s.nx) :: caps.map AD.one).length := by simp [hlb]; omega
                    have hargs : ∀ (j : Nat) v x, (#[Value.func (.yield l) #[] #[]] ++ lb)[j]? = some v → (AD.one (.yl s.nx) :: caps.map AD.one)[j]? = some x → RdA w1 (setI ι s.nx l) M1 v x := by
                      intro j v x hv hx
                      cases j with
                      | zero =>
                        rw [Array.getElem?_append_left (by simp)] at hv
                        simp at hv hx
                        subst hv; subst hx
                        exact Rd.yl _ _ hln
                      | succ j =>
                        rw [Array.getElem?_append_right (by simp)] at hv
                        simp at hv hx
                        obtain ⟨dd, h1, h2⟩ := hx
                        subst h2
                        exact Rd.mono (hlr j v dd hv h1) ev1.same ev1.back hext1 ev1.shape
                    have hcalls := hF _ _ _ rv H2 nx2 hFq w1 (setI ι s.nx l) M1 _ sm3.lt (sm3.heapOk hE3) hvsz hargs
                    refine callsIn_fx.2 (Calls.mono hcalls ?_)
                    · rintro en w3 ⟨v, ι3, M3, rfl, _, q1, q2, q3, q4, q5, q6⟩
                      obtain ⟨sm4, ev3⟩ := after_eff sm3 hE3 ⟨q1, q2, q3, q4, q5, q6⟩
                      have hl3 : ι3 s.nx = some l := q2 _ _ hln
                      have hE4 : (upd (upd s.env gs (.heap (.tr H1) (s.nx + 1))) gs (.heap H2 nx2)) gs = .heap H2 nx2 := upd_same _ _ _
                      obtain ⟨l', hl', hMl, r3, g1, g2, g3, g4, g5, g6, g7, g8⟩ := recAt_loop (sm4.heapOk hE4) hr2
                      rw [hl3] at hl'; injection hl' with hl'; subst hl'
                      have hnb : r3.state ≠ .busy := by rw [g7]; cases jump <;> simp
                      obtain ⟨x, hx, _, _⟩ := recAt_some hr2
                      have hlx : live (upd (upd s.env gs (.heap (.tr H1) (s.nx + 1))) gs (.heap H2 nx2)) s.nx = some x := by simp [live, hE4, hx]
                      have hXl : ¬ C.X l := sm4.xO s.nx x l hlx hl3
                      let w4 := w3.putObj l (.loop { r3 with state := .exhausted })
                      have ev4 : Evo C.X M3 w3 M3 w4 := putLoop_evo g1 hMl hXl _
                      have sm5 := sm4.dropO s.nx hE4
                      have sm6 : Sim C _ a w4 ι3 β M3 := sm5.world ev4 (fun _ h => h) (fun b hb => Nat.lt_of_lt_of_le (sm5.lt b hb) ev4.size)
                        (fun t b ht => World.putObj_heap_other (fun e => sm4.disj s.nx x t b hlx (e ▸ hl3) ht))
                        (fun o y b hy hb => World.putObj_heap_other (fun e => by
                          have hy' : live (upd (upd (upd s.env gs (.heap (.tr H1) (s.nx + 1))) gs (.heap H2 nx2)) gs (.heap (updO H2 s.nx none) nx2)) o = some y := hy
                          have h5 : (if o = s.nx then none else H2 o) = some y := by
                            have : live (upd (upd (upd s.env gs (.heap (.tr H1) (s.nx + 1))) gs (.heap H2 nx2)) gs (.heap (updO H2 s.nx none) nx2)) o = if o = s.nx then none else H2 o := by simp [live, upd, updO_at]
                            rw [← this]; exact hy'
                          split at h5
                          · cases h5
                          · rename_i hne
                            exact hne (sm4.injO o s.nx y x b (by simp [live, hE4, h5]) hlx hb (e ▸ hl3))))
                      have sm7 := sm6.flatH hf3 (upd_same _ _ _)
                      rw [upd_upd, upd_upd, upd_upd] at sm7
                      have sm8 : Sim C (St.env ⟨s.t, .tr H3, nx2⟩) a w4 ι3 β M3 := by rw [St.env_H]; exact sm7
                      have hdf : a.defers = C.dfs := h.defs
                      have sm9 := sm8.dfr (mark ++ C.dfs)
                      have evt : Evo C.X M w M3 w4 := (ev1.trans ev3).trans ev4
                      have mk : Marks B (mark ++ C.dfs) w4 M3 := by
                        have m0 := hm.mono evt
                        rcases e15 with ⟨hmk, _⟩ | ⟨_, D, hmk, hD1, hD2, hD3⟩
                        · rw [hmk]; exact m0
                        · rw [hmk]
                          have hDlt : D < w1.heap.size := (Array.getElem?_eq_some_iff.1 hD3).1
                          have hDM : ¬ M1 D := by
                            rintro (hh | hh)
                            · have := h.lt D hh; omega
                            · exact hD2 hh
                          refine ⟨List.pairwise_cons.2 ⟨fun d' hd' D' h1 h2 => ?_, m0.1⟩, fun d' hd' => ?_⟩
                          · injection h1 with h1
                            subst h1
                            obtain ⟨D2, k1, _, k3, _⟩ := hm.2 d' hd'
                            rw [k1] at h2
                            injection h2 with h2
                            have := (Array.getElem?_eq_some_iff.1 k3).1
                            omega
                          · rcases List.mem_cons.1 hd' with rfl | hd'
                            · refine ⟨D, rfl, by omega, ?_, fun hh => hDM (ev3.back D hDlt hh)⟩
                              exact (World.putObj_heap_other hD2).trans ((ev3.same D hDlt hDM).trans hD3)
                            · exact m0.2 d' hd'
                      have hend : (Instr.endLoop l).run P w3 = .ok jump w4 := by
                        rw [← g6]; exact run_endLoop g1 hnb
                      have hfin : Qx ex'.ex { a with defers := mark ++ a.defers } w4 := by
                        rw [hdf]
                        exact hK { C with dfs := mark ++ C.dfs } _ w4 ι3 β M3 hnt rfl (fun hne => by
                          rcases e15 with ⟨hmk, _⟩ | ⟨hh, _⟩
                          · rw [hmk]; rfl
                          · exact absurd hh hne) sm9 (hp.heap _ _) mk evt (fun o b hb => q2 _ _ (hext1 _ _ hb))
                      refine ⟨jump, w4, hend, ?_⟩
                      unfold jumpOf at hj
                      split at hj
                      · injection hj with hj; subst hj; exact hfin
                      · injection hj with hj; subst hj; exact wpIn_ret hfin
                      · injection hj with hj; subst hj; exact wpIn_exit hfin
                      · cases hj
    · cases hq
theorem code_step (hS : SysOk S P) (k : Nat) (ih : ∀ j, j ≤ k → EvsOk S P (evs S j)) : CodeOk P (evs S (k + 1)).code := by
  have ih0 := ih k (Nat.le_refl k)
  intro nt r c s ex s' hq C a w ι β M B Qx n ro hnt hrr h hp hB hm hK
  have hq' : (stepE S (evs S k)).code nt r c s = some (ex, s') := hq
  cases c with
  | skip =>
    simp only [stepE, Option.some.injEq, Prod.mk.injEq] at hq'
    obtain ⟨rfl, rfl⟩ := hq'
    exact wpIn_skip (hK C a w ι β M hnt rfl (fun _ => rfl) h hp hm (Evo.refl _ _) (fun _ _ h => h))
  | ret =>
    simp only [stepE, Option.some.injEq, Prod.mk.injEq] at hq'
    obtain ⟨rfl, rfl⟩ := hq'
    exact wpIn_ret (hK C a w ι β M hnt rfl (fun _ => rfl) h hp hm (Evo.refl _ _) (fun _ _ h => h))
  | exit id =>
    simp only [stepE, Option.some.injEq, Prod.mk.injEq] at hq'
    obtain ⟨rfl, rfl⟩ := hq'
    exact wpIn_exit (hK C a w ι β M hnt rfl (fun _ => rfl) h hp hm (Evo.refl _ _) (fun _ _ h => h))
  | seq x y =>
    simp only [stepE] at hq'
    cases h1 : (evs S k).code nt r x s with
    | none => rw [h1] at hq'; cases hq'
    | some z =>
      obtain ⟨ex1, s1⟩ := z
      rw [h1] at hq'
      simp only [Option.bind_some] at hq'
      refine wpIn_seq (ih0.code nt r x s ex1 s1 h1 C a w ι β M B _ n ro hnt hrr h hp hB hm ?_)
      intro C1 a1 w1 ι1 β1 M1 hnt1 hX1 hd1 sm1 pl1 mk1 ev1 hi1
      cases ex1 with
      | normal =>
        refine ih0.code nt r y s1 ex s' hq' C1 a1 w1 ι1 β1 M1 B Qx n ro hnt1 (hrr.ext hi1) sm1 pl1 (Nat.le_trans hB ev1.size) mk1 ?_
        intro C2 a2 w2 ι2 β2 M2 hnt2 hX2 hd2 sm2 pl2 mk2 ev2 hi2
        rw [hX1] at ev2
        exact hK C2 a2 w2 ι2 β2 M2 hnt2 (hX2.trans hX1) (fun hne => (hd2 hne).trans (hd1 hne)) sm2 pl2 mk2 (ev1.trans ev2) (fun o b h => hi2 _ _ (hi1 _ _ h))
      | exit id =>
        simp only [Option.some.injEq, Prod.mk.injEq] at hq'
        obtain ⟨rfl, rfl⟩ := hq'
        exact hK C1 a1 w1 ι1 β1 M1 hnt1 hX1 hd1 sm1 pl1 mk1 ev1 hi1
      | ret =>
        simp only [Option.some.injEq, Prod.mk.injEq] at hq'
        obtain ⟨rfl, rfl⟩ := hq'
        exact hK C1 a1 w1 ι1 β1 M1 hnt1 hX1 hd1 sm1 pl1 mk1 ev1 hi1
  | cond cd x y =>
    simp only [stepE] at hq'
    cases hc : condS s cd with
    | none => rw [hc] at hq'; cases hq'
    | some b =>
      rw [hc] at hq'
      simp only [Option.bind_some] at hq'
      have hv := cond_sound h hc
      cases b with
      | true => exact wpIn_cond_true hv (ih0.code nt r x s ex s' (by simpa using hq') C a w ι β M B Qx n ro hnt hrr h hp hB hm hK)
      | false => exact wpIn_cond_false hv (ih0.code nt r y s ex s' (by simpa using hq') C a w ι β M B Qx n ro hnt hrr h hp hB hm hK)
  | block id b =>
    simp only [stepE] at hq'
    cases h1 : (evs S k).code nt r b s with
    | none => rw [h1] at hq'; cases hq'
    | some z =>
      obtain ⟨ex1, s1⟩ := z
      rw [h1] at hq'
      simp only [Option.map_some, Option.some.injEq] at hq'
      refine wpIn_block (ih0.code nt r b s ex1 s1 h1 C a w ι β M B _ n ro hnt hrr h hp hB hm ?_)
      intro C1 a1 w1 ι1 β1 M1 hnt1 hX1 hd1 sm1 pl1 mk1 ev1 hi1
      cases ex1 with
      | normal =>
        simp only [exOf, Prod.mk.injEq] at hq'
        obtain ⟨rfl, rfl⟩ := hq'
        exact hK C1 a1 w1 ι1 β1 M1 hnt1 hX1 hd1 sm1 pl1 mk1 ev1 hi1
      | ret =>
        simp only [exOf, Prod.mk.injEq] at hq'
        obtain ⟨rfl, rfl⟩ := hq'
        exact hK C1 a1 w1 ι1 β1 M1 hnt1 hX1 hd1 sm1 pl1 mk1 ev1 hi1
      | exit id' =>
        simp only [exOf] at hq'
        show (Exit.inBlock id Qx) (.exit id') a1 w1
        unfold Exit.inBlock
        split at hq'
        · rename_i he
          simp only [Prod.mk.injEq] at hq'
          obtain ⟨rfl, rfl⟩ := hq'
          have : Qx .normal a1 w1 := hK C1 a1 w1 ι1 β1 M1 hnt1 hX1 hd1 sm1 pl1 mk1 ev1 hi1
          simpa [he] using this
        · rename_i he
          simp only [Prod.mk.injEq] at hq'
          obtain ⟨rfl, rfl⟩ := hq'
          have : Qx (.exit id') a1 w1 := hK C1 a1 w1 ι1 β1 M1 hnt1 hX1 hd1 sm1 pl1 mk1 ev1 hi1
          simpa [he] using this
  | loop b =>
    refine wpIn_loop_ghost (fun j a1 w1 => ∃ s1 C1 ι1 β1 M1, j ≤ k + 1 ∧ (evs S j).code nt r (.loop b) s1 = some (ex, s') ∧ C1.nt = nt ∧ C1.X = C.X ∧ (r ≠ none → C1.dfs = C.dfs) ∧ Sim C1 s1.env a1 w1 ι1 β1 M1 ∧ Plain s1 ∧ Marks B C1.dfs w1 M1 ∧ Evo C.X M w M1 w1 ∧ ∀ o b, ι o = some b → ι1 o = some b) (k + 1)
      ⟨s, C, ι, β, M, Nat.le_refl _, hq, hnt, rfl, fun _ => rfl, h, hp, hm, Evo.refl _ _, fun _ _ h => h⟩ ?_
    rintro j a1 w1 ⟨s1, C1, ι1, β1, M1, hj, hq1, hnt1, hX1, hd1, sm1, pl1, mk1, ev1, hi1⟩
    cases j with
    | zero => cases hq1
    | succ j =>
      have hq1' : (stepE S (evs S j)).code nt r (.loop b) s1 = some (ex, s') := hq1
      simp only [stepE] at hq1'
      cases h1 : (evs S j).code nt r b s1 with
      | none => rw [h1] at hq1'; cases hq1'
      | some z =>
        obtain ⟨ex1, s2⟩ := z
        rw [h1] at hq1'
        simp only [Option.bind_some] at hq1'
        refine (ih j (by omega)).code nt r b s1 ex1 s2 h1 C1 a1 w1 ι1 β1 M1 B _ n ro hnt1 (hrr.ext hi1) sm1 pl1 (Nat.le_trans hB ev1.size) mk1 ?_
        intro C2 a2 w2 ι2 β2 M2 hnt2 hX2 hd2 sm2 pl2 mk2 ev2 hi2
        rw [hX1] at ev2
        cases ex1 with
        | normal => exact ⟨j, Nat.lt_succ_self j, s2, C2, ι2, β2, M2, by omega, hq1', hnt2, hX2.trans hX1, fun hne => (hd2 hne).trans (hd1 hne), sm2, pl2, mk2, ev1.trans ev2, fun o b h => hi2 _ _ (hi1 _ _ h)⟩
        | exit id =>
          simp only [Option.some.injEq, Prod.mk.injEq] at hq1'
          obtain ⟨rfl, rfl⟩ := hq1'
          exact hK C2 a2 w2 ι2 β2 M2 hnt2 (hX2.trans hX1) (fun hne => (hd2 hne).trans (hd1 hne)) sm2 pl2 mk2 (ev1.trans ev2) (fun o b h => hi2 _ _ (hi1 _ _ h))
        | ret =>
          simp only [Option.some.injEq, Prod.mk.injEq] at hq1'
          obtain ⟨rfl, rfl⟩ := hq1'
          exact hK C2 a2 w2 ι2 β2 M2 hnt2 (hX2.trans hX1) (fun hne => (hd2 hne).trans (hd1 hne)) sm2 pl2 mk2 (ev1.trans ev2) (fun o b h => hi2 _ _ (hi1 _ _ h))
  | region id ops d =>
    simp only [stepE] at hq'
    cases hr : regS (ctxS S (evs S k) nt) ops d s with
    | none => rw [hr] at hq'; cases hq'
    | some s1 =>
      rw [hr] at hq'
      simp only [Option.map_some, Option.some.injEq, Prod.mk.injEq] at hq'
      obtain ⟨rfl, rfl⟩ := hq'
      exact reg_sound hS ih0.fn ih0.yld hr hnt h hp fun a' w' ι' β' M' sm pl ev hi => hK C a' w' ι' β' M' hnt rfl (fun _ => rfl) sm pl (hm.mono ev) ev hi
  | rangeFunc g ps assign body => exact range_step hS ih0 hq' hnt hrr h hp hB hm hK
  | scope b => cases hq'
  | label l => cases hq'
  | goto l => cases hq'
  | refuse why => cases hq'
theorem evs_ok (hS : SysOk S P) (k : Nat) : EvsOk S P (evs S k) := by
  induction k using Nat.strongRecOn with
  | _ k ih =>
    cases k with
    | zero => exact ⟨fun f hf ads H nx r H' nx' hq => (by cases hq), fun lp ads H nx r H' nx' hq => (by cases hq), fun nt r c s ex s' hq => (by cases hq)⟩
    | succ k => exact ⟨fun f hf => fn_step hS (ih k (Nat.lt_succ_self k)) f hf, yld_step (ih k (Nat.lt_succ_self k)), code_step hS k fun j hj => ih j (by omega)⟩
end
end Go.Proofs.YtdpphbcneihllaaGreat.Pe
namespace Go.Proofs.YtdpphbcneihllaaGreat.Pe
open Go
noncomputable def mkTr {α : Type} : List (Nat × α) → Tr α
  | [] => .leaf
  | x :: l => (mkTr l).set (some x.2) 30 x.1
theorem mkTr_get {α : Type} : ∀ (l : List (Nat × α)), l.all (fun x => decide (x.1 < 1000000000)) = true → ∀ n a, (mkTr l).get n = some a → (n, a) ∈ l
  | [], _, n, a, h => by cases h
  | x :: l, hl, n, a, h => by
    simp only [List.all_cons, Bool.and_eq_true, decide_eq_true_eq] at hl
    simp only [mkTr] at h
    rw [Tr.get_set _ _ _ _ (by omega)] at h
    split at h
    · rename_i e
      injection h with h
      subst h; subst e
      exact List.mem_cons_self
    · exact List.mem_cons_of_mem _ (mkTr_get l hl.2 n a h)
noncomputable def AllTy (P : Program) : List (Nat × TyI) → Prop
  | [] => True
  | x :: l => TyOk P x.1 x.2 ∧ AllTy P l
theorem AllTy.mem {P : Program} : ∀ {l : List (Nat × TyI)}, AllTy P l → ∀ x ∈ l, TyOk P x.1 x.2
  | y :: l, h, x, hx => by
    rcases List.mem_cons.1 hx with rfl | hx
    · exact h.1
    · exact AllTy.mem h.2 x hx
noncomputable def AllEz (P : Program) : List (Nat × EK) → Prop
  | [] => True
  | x :: l => EqZOk P x.1 x.2 ∧ AllEz P l
theorem AllEz.mem {P : Program} : ∀ {l : List (Nat × EK)}, AllEz P l → ∀ x ∈ l, EqZOk P x.1 x.2
  | y :: l, h, x, hx => by
    rcases List.mem_cons.1 hx with rfl | hx
    · exact h.1
    · exact AllEz.mem h.2 x hx
noncomputable def FdOk (P : Program) (f : Nat) (fd : FD) : Prop := ∃ fn, P.funcs[f]? = some fn ∧ fn.body = some fd.body ∧ fn.ntmps = fd.nt ∧ fn.results.toList = fd.res ∧ calleeOk P f = true
noncomputable def AllFd (P : Program) : List (Nat × FD) → Prop
  | [] => True
  | x :: l => FdOk P x.1 x.2 ∧ AllFd P l
theorem AllFd.mem {P : Program} : ∀ {l : List (Nat × FD)}, AllFd P l → ∀ x ∈ l, FdOk P x.1 x.2
  | y :: l, h, x, hx => by
    rcases List.mem_cons.1 hx with rfl | hx
    · exact h.1
    · exact AllFd.mem h.2 x hx
noncomputable def AllBs (P : Program) : List (Nat × FnS) → Prop
  | [] => True
  | x :: l => (SOk P x.1 x.2 ∧ cok P x.1 x.2 = true) ∧ AllBs P l
theorem AllBs.mem {P : Program} : ∀ {l : List (Nat × FnS)}, AllBs P l → ∀ x ∈ l, SOk P x.1 x.2 ∧ cok P x.1 x.2 = true
  | y :: l, h, x, hx => by
    rcases List.mem_cons.1 hx with rfl | hx
    · exact h.1
    · exact AllBs.mem h.2 x hx
noncomputable def fdOf (fn : Func) : FD := ⟨fn.ntmps, fn.body.getD .skip, fn.results.toList⟩
theorem fdOf_ok {P : Program} {f : Nat} {fn : Func} (h : P.funcs[f]? = some fn) (hb : fn.body.isSome = true) (hn : (fn.name != "runtime.NumGoroutine") = true) : FdOk P f (fdOf fn) := by
  have hok : calleeOk P f = true := by unfold calleeOk; rw [h]; simp only [hn, hb, Bool.and_self]
  obtain ⟨b, hb⟩ := Option.isSome_iff_exists.1 hb
  exact ⟨fn, h, by simp [fdOf, hb], rfl, rfl, hok⟩
theorem eqz_fnT {P : Program} {t : Nat} (h : (match P.underlying t with | some (.func _ _ _) => true | _ => false) = true) : EqZOk P t .fn := by
  split at h
  · rename_i hu; exact eqz_fn hu
  · cases h
noncomputable def sysOf (tts : Tr TyI) (ezs : Tr EK) (fns : Tr FD) (bs : Tr FnS) : Sys where
  tt := fun t => (tts.get t).getD dflt
  eqz := ezs.get
  tab := fns.get
  base := fun f => (bs.get f).getD .none
theorem sysOf_ok {P : Program} {tts : List (Nat × TyI)} {ezs : List (Nat × EK)} {fns : List (Nat × FD)} {bs : List (Nat × FnS)} (hm : P.follows .mixedOrders = true)
    (h1 : AllTy P tts) (k1 : tts.all (fun x => decide (x.1 < 1000000000)) = true) (h2 : AllEz P ezs) (k2 : ezs.all (fun x => decide (x.1 < 1000000000)) = true)
    (h3 : AllFd P fns) (k3 : fns.all (fun x => decide (x.1 < 1000000000)) = true) (h4 : AllBs P bs) (k4 : bs.all (fun x => decide (x.1 < 1000000000)) = true) : SysOk (sysOf (mkTr tts) (mkTr ezs) (mkTr fns) (mkTr bs)) P := by
  refine ⟨hm, fun t => ?_, fun t k hk => h2.mem (t, k) (mkTr_get _ k2 _ _ hk), fun f fd hf => h3.mem (f, fd) (mkTr_get _ k3 _ _ hf), fun f hf => ?_⟩
  · show ((mkTr tts).get t).getD dflt = dflt ∨ TyOk P t (((mkTr tts).get t).getD dflt)
    cases h : (mkTr tts).get t with
    | none => exact .inl rfl
    | some x => exact .inr (h1.mem (t, x) (mkTr_get _ k1 _ _ h))
  · have hf' : ((mkTr bs).get f).getD .none ≠ .none := hf
    show SOk P f (((mkTr bs).get f).getD .none) ∧ cok P f (((mkTr bs).get f).getD .none) = true
    cases h : (mkTr bs).get f with
    | none => rw [h] at hf'; exact absurd rfl hf'
    | some x => exact h4.mem (f, x) (mkTr_get _ k4 _ _ h)
end Go.Proofs.YtdpphbcneihllaaGreat.Pe
namespace Go.Proofs.YtdpphbcneihllaaGreat.Pe
open Go
noncomputable def segAt (H : Hp) (sg : Nat) : Option (Nat × Nat × Tr Nat) := match H sg with
  | some ⟨_, 1, [[.ref o 1 0 n]]⟩ => match H o with
    | some ⟨some e, 0, [[.wds t m]]⟩ => Bool.rec (motive := fun _ => Option (Nat × Nat × Tr Nat)) none (some (o, n, t)) (Nat.beq n m)
    | _ => none
  | _ => none
noncomputable def inW (off n : Nat) : Bool := and (Nat.beq (Nat.mod off 8) 0) (Nat.blt off n)
noncomputable def newW (e : Nat) (c : Nat) (ads : List AD) (H : Hp) (nx : Nat) : Option (RV × Hp × Nat) := match ads with
  | [.one (.int .u64 (.ofNat n))] => Bool.rec (motive := fun _ => Option (RV × Hp × Nat)) (some (.a (.one .nilp), H, nx))
      (Bool.rec (motive := fun _ => Option (RV × Hp × Nat)) none
        (some (.a (.one (.ptr (nx + 1) 1 0 0)), .tr (((match H with | .tr t => t | _ => (.leaf : Tr PObj)).set (some (⟨some e, 0, [[.wds .leaf n]]⟩ : PObj)) 30 nx).set (some (⟨none, 1, [[.ref nx 1 0 n]]⟩ : PObj)) 30 (nx + 1)), nx + 2))
        (and (Nat.blt (nx + c) 1000000000) (match H with | .tr _ => true | _ => false)))
      (and (Bool.not (Nat.beq n 0)) (and (Nat.beq (Nat.mod n 8) 0) (Nat.ble n 1048576)))
  | _ => none
noncomputable def sizeW (ads : List AD) (H : Hp) (nx : Nat) : Option (RV × Hp × Nat) := match ads with
  | [.one .nilp] => some (.a (.one (.int .u64 0)), H, nx)
  | [.one (.ptr sg 1 0 0)] => match H sg with
    | some ⟨_, 1, [[.ref _ 1 0 n]]⟩ => some (.a (.one (.int .u64 n)), H, nx)
    | _ => none
  | _ => none
noncomputable def loadW (c : Nat) (ads : List AD) (H : Hp) (nx : Nat) : Option (RV × Hp × Nat) := match ads with
  | [.one .nilp, .one (.int .u64 _)] => some (.tup [.one (.int .u64 0), .one (.int .i64 1)], H, nx)
  | [.one (.ptr sg 1 0 0), .one (.int .u64 (.ofNat off))] => match segAt H sg with
    | some (_, n, t) => Bool.rec (motive := fun _ => Option (RV × Hp × Nat)) (some (.tup [.one (.int .u64 0), .one (.int .i64 1)], H, nx))
        ((fun v => Bool.rec (motive := fun _ => Option (RV × Hp × Nat)) none (some (.tup [.one (.int .u64 (.ofNat v)), .one (.int .i64 0)], H, nx + c)) (and (Nat.blt (nx + c) 1000000000) (Nat.blt v 18446744073709551616))) (Option.rec (motive := fun _ => Nat) 0 (fun v => v) (t.get (Nat.div off 8)))) (inW off n)
    | none => none
  | _ => none
noncomputable def storeW (c : Nat) (ads : List AD) (H : Hp) (nx : Nat) : Option (RV × Hp × Nat) := match ads with
  | [.one .nilp, .one (.int .u64 _), .one (.int .u64 _)] => some (.a (.one (.int .i64 1)), H, nx)
  | [.one (.ptr sg 1 0 0), .one (.int .u64 (.ofNat off)), .one (.int .u64 (.ofNat v))] => match segAt H sg with
    | some (o, n, t) => Bool.rec (motive := fun _ => Option (RV × Hp × Nat)) (some (.a (.one (.int .i64 1)), H, nx + 1))
        (Bool.rec (motive := fun _ => Option (RV × Hp × Nat)) none (match H, H o with
          | .tr tr, some ob => some (.a (.one (.int .i64 0)), .tr (tr.set (some (⟨ob.e, 0, [[.wds (t.set (some v) 30 (Nat.div off 8)) n]]⟩ : PObj)) 30 o), nx + c)
          | _, _ => none) (and (Nat.blt (nx + c) 1000000000) (Nat.blt v 18446744073709551616))) (inW off n)
    | none => none
  | _ => none
end Go.Proofs.YtdpphbcneihllaaGreat.Pe
