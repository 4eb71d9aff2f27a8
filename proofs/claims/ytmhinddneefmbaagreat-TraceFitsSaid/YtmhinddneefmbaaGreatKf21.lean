/- A part of the proof of JdH. -/
import Derived.Test.YtmhinddneefmbaaGreatKf20
set_option linter.unusedSimpArgs false
set_option linter.unusedVariables false
set_option linter.unusedSectionVars false
namespace Go.Proofs.YtmhinddneefmbaaGreat.Pe
open Go
section
variable {P : Program} {S : Sys} {C C' : Ctx} {E E1 : Env} {a : Act} {w w' : World} {ι ι' β : Nat → Option Nat} {M M' : Nat → Prop} {e : Evs} {s s' : St}
theorem Sim.flatH {H : Hp} {nx : Nat} {t : Tr PObj} (hf : H.flat = some t) (h : Sim C E a w ι β M) (hE : E gs = .heap H nx) : Sim C (upd E gs (.heap (.tr t) nx)) a w ι β M :=
  h.heq hE fun o => (Hp.flat_get _ _ hf o).symm
theorem HeapOk.flatH {H : Hp} {nx : Nat} {t : Tr PObj} (hf : H.flat = some t) (h : HeapOk w ι M H nx) : HeapOk w ι M (.tr t) nx := by
  have he : ∀ o, (Hp.tr t) o = H o := fun o => (Hp.flat_get _ _ hf o).symm
  exact ⟨h.new, fun o ob ho => h.objs o ob (by rw [← he]; exact ho), fun o o' x x' b h1 h2 => h.inj o o' x x' b (by rw [← he]; exact h1) (by rw [← he]; exact h2), fun o x b h1 => h.ctl o x b (by rw [← he]; exact h1)⟩
theorem resQ_cx (C : Ctx) (X : Nat → Prop) (ds : List Deferred) (pub : Nat → Bool) : ∀ l : List ResultVar, resQ { C with X := X, dfs := ds, pub := pub } l = resQ C l
  | [] => rfl
  | x :: l => by
    simp only [resQ, resQ_cx C X ds pub l]
    cases x <;> rfl
theorem fn_step (hS : SysOk S P) (ih : EvsOk S P e) (f : Nat) (hf : (S.tab f).isSome = true) : FnEff P f ((stepE S e).fn f) := by
  intro ads H nx r H' nx' hq w ι M vals hM hok hl hargs
  obtain ⟨fd, hfd⟩ := Option.isSome_iff_exists.1 hf
  obtain ⟨fn, k1, k2, k3, k4, k5⟩ := hS.tab f fd hfd
  simp only [stepE, hfd] at hq
  split at hq
  · rename_i hlen
    cases hcode : e.code fd.nt none fd.body ⟨startS ads 0 .leaf, H, nx⟩ with
    | none => rw [hcode] at hq; cases hq
    | some z =>
      obtain ⟨ex, s1⟩ := z
      rw [hcode] at hq
      simp only [Option.bind_some] at hq
      obtain ⟨hex, hres⟩ : (ex = .normal ∨ ex = .ret) ∧ ((resQ (ctxS S e fd.nt) fd.res).runS s1 [] []).bind (fun r => some (rvOf r.1, r.2.1.H, r.2.1.nx)) = some (r, H', nx') := by
        cases ex with
        | normal => exact ⟨.inl rfl, hq⟩
        | ret => exact ⟨.inr rfl, hq⟩
        | exit id => cases hq
      clear hq
      cases hrs : (resQ (ctxS S e fd.nt) fd.res).runS s1 [] [] with
      | none => rw [hrs] at hres; cases hres
      | some y =>
        obtain ⟨l, s2, rr, uu⟩ := y
        rw [hrs] at hres
        simp only [Option.bind_some, Option.some.injEq, Prod.mk.injEq] at hres
        obtain ⟨rfl, rfl, rfl⟩ := hres
        obtain ⟨hrun, _, _⟩ := Q.runS_at hrs
        let X : Nat → Prop := fun b => M b ∧ ∀ o x, H o = some x → ι o ≠ some b
        let C0 : Ctx := { ctxS S e fd.nt with X := X }
        have hsz : (vals ++ Array.replicate (fn.ntmps - vals.size) undef).size = fd.nt := by simp; omega
        obtain ⟨sm0, pl0⟩ := mk_sim (C := C0) (t := startS ads 0 .leaf) (tmps := vals ++ Array.replicate (fn.ntmps - vals.size) undef) hok hM hsz hlen.2 rfl rfl (fun i v hi hv => by
          rw [startS_get ads 0 .leaf (by omega)] at hv
          split at hv
          · rename_i hlt
            simp only [Nat.sub_zero] at hv
            cases hx : ads[i]? with
            | none => rw [hx] at hv; cases hv
            | some x =>
              rw [hx] at hv
              simp only [Option.map_some, Option.some.injEq] at hv
              have hil : i < vals.size := by omega
              refine ⟨x, hv.symm, ?_⟩
              have : (vals ++ Array.replicate (fn.ntmps - vals.size) undef).getD i undef = vals[i] := by
                rw [Array.getD_eq_getD_getElem?, Array.getElem?_append_left hil, Array.getElem?_eq_getElem hil]; rfl
              rw [this]
              exact hargs i _ x (Array.getElem?_eq_getElem hil) hx
          · cases hv)
        refine callsIn_fx.1 (callsIn_of_wp_marks (F := Fx none) (n := 0) k1 k2 trivial ?_ rfl)
        refine ih.code fd.nt none fd.body _ ex s1 hcode C0 _ w ι _ M ⟨w.heap.size, []⟩ _ 0 none rfl rfl sm0 pl0 (Nat.le_refl _) (Marks.none _ _ _ _) ?_
        intro C1 a1 w1 ι1 β1 M1 hnt1 hX1 _ sm1 pl1 mk1 ev1 hi1
        have goal : LeavesInM (Fx none) 0 P fn a1.tmps (fun e w' => ∃ v ι' M', e = .returned v ∧ RdV w' ι' M' v (rvOf l) ∧ HeapOk w' ι' M' s2.H s2.nx ∧ (∀ o b, ι o = some b → ι' o = some b) ∧ Evo (fun _ => False) (fun b => ∃ o x, H o = some x ∧ ι o = some b) w (fun b => ∃ o x, s2.H o = some x ∧ ι' o = some b) w' ∧
            (∀ b, M b → (∀ o x, H o = some x → ι o ≠ some b) → M' b) ∧ (∀ b, b < w.heap.size → M' b → M b) ∧ (∀ b, M' b → b < w'.heap.size)) a1.defers .returning w1 := by
          rw [sm1.defs]
          refine leaves_marks (B := ⟨w.heap.size, []⟩) C1.dfs w1 mk1 ev1.size fun w2 hsh hlow => ?_
          have sm2 := sm1.sh pl1 hsh
          have hC := ctx_ok hS ih.fn ih.yld fd.nt C1.X C1.dfs (fun _ => true)
          have sm3 : Sim { ctxS S e fd.nt with X := C1.X, dfs := C1.dfs } s1.env a1 w2 ι1 β1 M1 := sm2.ctx hnt1.symm rfl rfl
          obtain ⟨β2, M2, v, s3, e3, r3, hrv⟩ := results_sound (P := P) (fn := fn) hC sm3 (by rw [k4, resQ_cx (ctxS S e fd.nt)]; exact hrun)
          refine ⟨v, hrv, v, ι1, M2, rfl, r3, ?_⟩
          have ev2 : Evo X M w M2 w2 := by
            have := (ev1.sh hsh hlow).trans (X := C0.X) (by have e3' := e3; rw [show ({ ctxS S e fd.nt with X := C1.X, dfs := C1.dfs } : Ctx).X = C0.X from hX1] at e3'; exact e3')
            exact this
          obtain ⟨t1, t2, t3, t4, t5, t6⟩ := effTo_of_sim (C := { ctxS S e fd.nt with X := C1.X, dfs := C1.dfs }) (X := X) rfl hX1 s3 (St.env_gs s2) ev2 hi1
          exact ⟨t1, t2, t3, t4, t5, t6⟩
        rcases hex with rfl | rfl
        · exact goal
        · exact goal
  · cases hq
theorem putRec_at (H : Hp) (lp nt : Nat) (env : Tr (Bool × List D)) (ps : List Nat) (assign body : Code) (busy : Bool) (jump : Option Code) : putRec H lp nt env ps assign body busy jump = updO H lp (some ⟨none, 0, [[.lrec nt env ps assign body busy jump]]⟩) := rfl
theorem sim_putRec {lp l : Nat} {nt : Nat} {env : Tr (Bool × List D)} {ps : List Nat} {assign body : Code} {busy busy' : Bool} {jump jump' : Option Code} {t : Tr PObj} {r : Loop} (h : Sim C s.env a w ι β M) (hp : Plain s) (hr : recAt s.H lp = some (nt, env, ps, assign, body, busy, jump)) (hl : ι lp = some l)
    (h1 : w.heap[l]? = some (.loop r)) (h2 : r.tmps.size = nt) (h3 : r.params.toList = ps) (h4 : r.assign = assign) (h5 : r.body = body) (h8 : ∀ s x, s ≠ gs → env.get s = some x → RdA w ι M (r.tmps.getD s undef) (ofB x))
    (st : LoopState) (hst : st = (if busy' then .busy else if jump'.isNone then .ready else .done)) (hf : (putRec s.H lp nt env ps assign body busy' jump').flat = some t) :
    Sim C (St.env ⟨s.t, .tr t, s.nx⟩) a (w.putObj l (.loop { r with state := st, pending := jump' })) ι β M ∧ Plain ⟨s.t, .tr t, s.nx⟩ ∧ Evo C.X M w M (w.putObj l (.loop { r with state := st, pending := jump' })) := by
  obtain ⟨x, hx, _, _⟩ := recAt_some hr
  have hlx : live s.env lp = some x := by simp [live, St.env_gs, hx]
  have hM : M l := h.ctlO lp x l hlx hl
  have hX : ¬ C.X l := h.xO lp x l hlx hl
  have hev := putLoop_evo (w := w) (X := C.X) h1 hM hX { r with state := st, pending := jump' }
  have hlt : l < w.heap.size := (Array.getElem?_eq_some_iff.1 h1).1
  have s2 := h.storedO (w' := w.putObj l (.loop { r with state := st, pending := jump' })) (St.env_gs s) hx hl hev (fun b hb => World.putObj_heap_other hb) (ob := ⟨none, 0, [[.lrec nt env ps assign body busy' jump']]⟩)
    (.inl ⟨rfl, .inr (.inl ⟨nt, env, ps, assign, body, busy', jump', rfl, { r with state := st, pending := jump' }, World.putObj_heap_same hlt, h2, h3, h4, h5, rfl, hst, fun i y hi hy => (h8 i y hi hy).mono hev (fun _ _ h => h)⟩)⟩)
  have s3 := s2.flatH (H := putRec s.H lp nt env ps assign body busy' jump') (nx := s.nx) hf (upd_same _ _ _)
  rw [upd_upd] at s3
  refine ⟨?_, hp.heap _ _, hev⟩
  rw [St.env_H]; exact s3
theorem yld_step (ih : EvsOk S P e) : YldOk P (stepE S e).yld := by
  intro lp ads H nx r H' nx' hq w ι M vals hM hok hsz hargs
  simp only [stepE] at hq
  cases hr0 : recAt H lp with
  | none => rw [hr0] at hq; cases hq
  | some z0 =>
    obtain ⟨nt, env, ps, assign, body, busy, jump⟩ := z0
    rw [hr0] at hq
    simp only [Option.bind_some] at hq
    obtain ⟨l, hl, hMl, r0, h1, h2, h3, h4, h5, h6, h7, h8⟩ := recAt_loop hok hr0
    split at hq
    · rename_i hc
      obtain ⟨hbusy, hjump, hnt⟩ := hc
      cases hps : setPs nt ps ads (ofEnv env) with
      | none => rw [hps] at hq; cases hq
      | some t =>
        rw [hps] at hq
        simp only [Option.bind_some] at hq
        cases hc1 : e.code nt (some lp) assign ⟨t, H, nx⟩ with
        | none => rw [hc1] at hq; cases hq
        | some z1 =>
          obtain ⟨ex1, s1⟩ := z1
          rw [hc1] at hq
          simp only [Option.bind_some] at hq
          cases ex1 with
          | ret => cases hq
          | exit => cases hq
          | normal =>
            simp only at hq
            cases hr1 : recAt s1.H lp with
            | none => rw [hr1] at hq; cases hq
            | some z2 =>
              obtain ⟨nt', env', ps', assign', body', busy', jump'⟩ := z2
              rw [hr1] at hq
              simp only [Option.bind_some] at hq
              split at hq
              · rename_i hc2
                obtain ⟨hbusy', hjump'⟩ := hc2
                cases hf1 : (putRec s1.H lp nt' env' ps' assign' body' true none).flat with
                | none => rw [hf1] at hq; cases hq
                | some H1 =>
                  rw [hf1] at hq
                  simp only [Option.bind_some] at hq
                  cases hc3 : e.code nt (some lp) body { s1 with H := .tr H1 } with
                  | none => rw [hc3] at hq; cases hq
                  | some z3 =>
                    obtain ⟨ex, s2⟩ := z3
                    rw [hc3] at hq
                    simp only [Option.bind_some] at hq
                    cases hr2 : recAt s2.H lp with
                    | none => rw [hr2] at hq; cases hq
                    | some z4 =>
                      obtain ⟨nt2, env2, ps2, assign2, body2, busy2, jump2⟩ := z4
                      rw [hr2] at hq
                      simp only [Option.bind_some] at hq
                      generalize hjmp : exJump ex = jmp at hq
                      cases hf2 : (putRec s2.H lp nt2 env2 ps2 assign2 body2 false jmp).flat with
                      | none => rw [hf2] at hq; cases hq
                      | some H2 =>
                        rw [hf2] at hq
                        simp only [Option.bind_some, Option.some.injEq, Prod.mk.injEq] at hq
                        obtain ⟨rfl, rfl, rfl⟩ := hq
                        have henv : ∀ i v, i ≠ gs → (ofEnv env).get i = some v → ∃ x, v = .v x ∧ RdA w ι M (r0.tmps.getD i undef) x := fun i v hi hv => by
                          unfold ofEnv at hv
                          rw [Tr.get_map] at hv
                          cases hx : env.get i with
                          | none => rw [hx] at hv; cases hv
                          | some y =>
                            rw [hx] at hv
                            simp only [Option.bind_some, Option.some.injEq] at hv
                            exact ⟨_, hv.symm, h8 i y hi hx⟩
                        obtain ⟨p1, p2, p3⟩ := setPs_sound (w := w) (ι := ι) (M := M) hnt ps ads vals.toList (ofEnv env) t r0.tmps hps h2 (by simpa using hsz) (fun j v x hv hx => hargs j v x (by simpa using hv) hx) henv
                        have hzip : ((r0.params.zip vals).foldl (fun tmps (t, a) => tmps.setIfInBounds t a) r0.tmps) = ((ps.zip vals.toList).foldl (fun tmps (t, a) => tmps.setIfInBounds t a) r0.tmps) := by
                          rw [← Array.foldl_toList, Array.toList_zip, h3]
                        refine ⟨l, r0.fn, _, r0.assign, r0.body, hl, run_yield h1 (by rw [← Array.length_toList (xs := r0.params), h3, p1, hsz]), fun n => ?_⟩
                        rw [hzip]
                        generalize (ps.zip vals.toList).foldl (fun tmps (t, a) => tmps.setIfInBounds t a) r0.tmps = tmps at p2 p3
                        refine roundIn_of_wpIn (F := Fence.wide) trivial ?_
                        rw [h4, h5]
                        let X : Nat → Prop := fun b => M b ∧ ∀ o x, H o = some x → ι o ≠ some b
                        let C0 : Ctx := { ctxS S e nt with X := X }
                        obtain ⟨sm0, pl0⟩ := mk_sim (C := C0) (t := t) (tmps := tmps) hok hM p2 hnt rfl rfl p3
                        refine ih.code nt (some lp) assign ⟨t, H, nx⟩ .normal s1 hc1 C0 _ w ι _ M ⟨0, []⟩ _ n (some l) rfl ⟨l, rfl, hl⟩ sm0 pl0 (Nat.zero_le _) (Marks.none _ _ _ _) ?_
                        intro C1 a1 w1 ι1 β1 M1 hnt1 hX1 hdf1 sm1 pl1 mk1 ev1 hi1
                        have hl1 : ι1 lp = some l := hi1 _ _ hl
                        obtain ⟨l', hl', hMl1, r1, g1, g2, g3, g4, g5, g6, g7, g8⟩ := recAt_loop (sm1.heapOk (St.env_gs s1)) hr1
                        rw [hl1] at hl'; injection hl' with hl'; subst hl'
                        have hst1 : r1.state = .ready := by rw [g7, hbusy']; simp [hjump']
                        refine ⟨_, run_beginRound g1 hst1, ?_⟩
                        have hpend : r1.pending = none := by
                          rw [g6]; cases jump' <;> first | rfl | cases hjump'
                        have hrec : ({ r1 with state := .busy } : Loop) = { r1 with state := .busy, pending := none } := by rw [← hpend]
                        rw [hrec]
                        obtain ⟨sm2, pl2, ev2⟩ := sim_putRec (busy' := true) (jump' := none) sm1 pl1 hr1 hl1 g1 g2 g3 g4 g5 g8 .busy rfl hf1
                        refine ih.code nt (some lp) body { s1 with H := .tr H1 } ex s2 hc3 C1 a1 _ ι1 β1 M1 ⟨0, []⟩ _ n (some l) hnt1 ⟨l, rfl, hl1⟩ sm2 pl2 (Nat.zero_le _) (mk1.mono ev2) ?_
                        intro C2 a2 w3 ι2 β2 M2 hnt2 hX2 hdf2 sm3 pl3 mk3 ev3 hi2
                        have hl2 : ι2 lp = some l := hi2 _ _ hl1
                        obtain ⟨l', hl', hMl2, r2, q1, q2, q3, q4, q5, q6, q7, q8⟩ := recAt_loop (sm3.heapOk (St.env_gs s2)) hr2
                        rw [hl2] at hl'; injection hl' with hl'; subst hl'
                        obtain ⟨sm4, pl4, ev4⟩ := sim_putRec (busy' := false) (jump' := jmp) sm3 pl3 hr2 hl2 q1 q2 q3 q4 q5 q8 (if jmp.isNone then .ready else .done) rfl hf2
                        have hcx : C2.X = X := hX2.trans hX1
                        have ev1' : Evo X M w M1 w1 := ev1
                        have ev2' := ev2
                        rw [show C1.X = X from hX1] at ev2'
                        have ev3' := ev3
                        rw [show C1.X = X from hX1] at ev3'
                        have ev4' := ev4
                        rw [hcx] at ev4'
                        have hto := effTo_of_sim (X := X) rfl hcx sm4 (St.env_gs _) (((ev1'.trans ev2').trans ev3').trans ev4') (fun o b h => hi2 _ _ (hi1 _ _ h))
                        have hend := run_endRound (P := P) jmp q1
                        have fin : ∃ v w', (Instr.endRound l jmp).run P w3 = .ok v w' ∧ ∃ ι' M', Ending.returned v = Ending.returned (.bool jmp.isNone) ∧ EffTo w ι M H w' ι' M' (.tr H2) s2.nx := ⟨_, _, hend, ι2, M2, rfl, hto⟩
                        cases ex with
                        | normal => subst hjmp; exact fin
                        | ret => subst hjmp; exact fin
                        | exit id => subst hjmp; exact fin
              · cases hq
    · cases hq
end
end Go.Proofs.YtmhinddneefmbaaGreat.Pe
