/- A part of the proof of JdH. -/
import Derived.OrdersIn
import Derived.RangeFuncRecord
import Derived.Test.YtmhinddneefmbaaGreatKf12
set_option linter.unusedSimpArgs false
set_option linter.unusedVariables false
set_option linter.unusedSectionVars false
namespace Go.Proofs.YtmhinddneefmbaaGreat.Pe
open Go
namespace Q
variable {α γ : Type}
theorem wp_run {q : Q α} {K : α → Env → Prop} {E : Env} (h : q.wp K E) : ∃ a E', q.run E = some (a, E') ∧ K a E' := by
  induction q generalizing E with
  | ret a => exact ⟨a, E, rfl, h⟩
  | fail => exact h.elim
  | ask s k ih => exact ih _ h
  | set s v k ih => exact ih h
theorem wp_bind (q : Q α) (f : α → Q γ) (K : γ → Env → Prop) (E : Env) : (q.bind f).wp K E = q.wp (fun a E' => (f a).wp K E') E := by
  induction q generalizing E with
  | ret a => rfl
  | fail => rfl
  | ask s k ih => exact ih _ _
  | set s v k ih => exact ih _
theorem wp_ite (c : Prop) [Decidable c] (p q : Q α) (K : α → Env → Prop) (E : Env) : (if c then p else q).wp K E = if c then p.wp K E else q.wp K E := by split <;> rfl
theorem wp_ret (a : α) (K : α → Env → Prop) (E : Env) : (Q.ret a).wp K E = K a E := rfl
theorem wp_fail (K : α → Env → Prop) (E : Env) : (Q.fail : Q α).wp K E = False := rfl
theorem wp_ask (s : Nat) (k : AV → Q α) (K : α → Env → Prop) (E : Env) : (Q.ask s k).wp K E = (k (E s)).wp K E := rfl
theorem wp_set (s : Nat) (v : AV) (k : Q α) (K : α → Env → Prop) (E : Env) : (Q.set s v k).wp K E = k.wp K (upd E s v) := rfl
end Q
noncomputable def Fx (ro : Option Nat) : Fence := { fn := fun _ => True, depth := none, alive := false, round := ro }
theorem fenced_fx {P : Program} (ro : Option Nat) : Machine.fenced P (Fx ro) = Machine.fenced P Fence.wide := rfl
theorem room_fx (ro : Option Nat) (n : Nat) : (Fx ro).room n := fun _ h => by cases h
theorem comesIn_fx {P : Program} {ro : Option Nat} {m m' : Machine} {e : Ending} : ComesIn (Machine.fenced P (Fx ro)) P m m' e ↔ Comes P m m' e := by
  rw [fenced_fx]; exact comesIn_wide
theorem callsIn_fx {ro : Option Nat} {n : Nat} {P : Program} {f : FuncId} {args : Array Value} {w : World} {R : Ending → World → Prop} : CallsIn (Fx ro) n P f args w R ↔ Calls P f args w R :=
  ⟨fun h cs => let ⟨e, w', fr, r, s, x⟩ := h.2 cs (room_fx _ _); ⟨e, w', fr, r, comesIn_fx.1 s, x⟩,
   fun h => ⟨trivial, fun cs _ => let ⟨e, w', fr, r, s, x⟩ := h cs; ⟨e, w', fr, r, comesIn_fx.2 s, x⟩⟩⟩
theorem rowsIn_fx {ro : Option Nat} {n : Nat} {P : Program} {row : String} {args : Array Value} {w : World} {R : Value → World → Prop} (h : Rows P row args w R) : RowsIn (Fx ro) n P row args w R :=
  fun c cs _ => let ⟨v, w', r, s⟩ := h c cs; ⟨v, w', r, by rw [fenced_fx]; exact stepsIn_wide.2 s⟩
theorem wpIn_of_wp {P : Program} {ro : Option Nat} {n : Nat} {o : Oper} {a : Act} {w : World} {K : Act → World → Prop} {Q : Exit → Act → World → Prop} (hnd : ∀ c, o.op ≠ .defer c) (h : o.wp P a w K Q) : o.wpIn (Fx ro) n P a w K Q := by
  refine ⟨fun _ _ => trivial, ?_⟩
  rw [Oper.semAt_eq _ _ _ hnd]
  unfold Oper.wp at h
  generalize (execOp a.eval o).run P w = r at h
  cases r with
  | ok x w' =>
    cases x <;> simp only [Oper.upon, Oper.uponIn] at h ⊢ <;>
      first
        | exact h
        | exact ⟨fun hd => by simp [Fx] at hd, callsIn_fx.2 h⟩
        | exact ⟨fun hd => by simp [Fx] at hd, rowsIn_fx h⟩
        | exact h.elim
  | halt x w' => cases x <;> simp only [Oper.upon, Oper.uponIn] at h ⊢ <;> exact h
theorem wpIn_loop_ghost {F : Fence} {m : Nat} {P : Program} {Q : Exit → Act → World → Prop} {a : Act} {w : World} {c : Code} (I : Nat → Act → World → Prop) (n0 : Nat) (h₀ : I n0 a w)
    (round : ∀ k a w, I k a w → c.wpIn F m P (Exit.then (fun a' w' => ∃ k', k' < k ∧ I k' a' w') Q) a w) : (Code.loop c).wpIn F m P Q a w := by
  intro b k cs hro hb hr
  have key : ∀ j a w, I j a w →
      ∃ e a' w', Q e a' w' ∧ ArrivesIn (Machine.fenced P F) P (lone (b.atR a (.code c :: .inLoop c :: k)) cs w) b k cs e a' w' := by
    intro j
    induction j using Nat.strongRecOn with
    | _ j ih =>
      intro a w hI
      obtain ⟨e, a₁, w₁, hq, harr⟩ := round j a w hI b (.inLoop c :: k) cs hro hb hr
      cases e with
      | normal =>
        obtain ⟨j', hlt, hI₁⟩ := hq
        obtain ⟨e₂, a₂, w₂, hq₂, harr₂⟩ := ih j' hlt a₁ w₁ hI₁
        exact ⟨e₂, a₂, w₂, hq₂, .of_steps (StepsIn.trans harr (.one (fenced_calm hb hr rfl) stepR_inLoop)) harr₂⟩
      | exit id => exact ⟨_, a₁, w₁, hq, .pass (x := .inLoop c) rfl (fun _ _ => .inl (by simp)) harr⟩
      | goto l => exact ⟨_, a₁, w₁, hq, .pass (x := .inLoop c) rfl (fun _ _ => .inl (by simp)) harr⟩
      | ret => exact ⟨_, a₁, w₁, hq, .pass (x := .inLoop c) rfl (fun _ _ => .inl (by simp)) harr⟩
      | panic ch => exact ⟨_, a₁, w₁, hq, .pass (x := .inLoop c) rfl (fun _ _ => .inl (by simp)) harr⟩
      | outgrown => exact ⟨_, a₁, w₁, hq, .pass (x := .inLoop c) rfl (fun _ _ => .inl (by simp)) harr⟩
  obtain ⟨e, a', w', hq, harr⟩ := key _ a w h₀
  exact ⟨e, a', w', hq, .of_steps (.one (fenced_calm hb hr rfl) stepR_loop) harr⟩
noncomputable def skipQ (C : Ctx) (o : Oper) : Q Unit := match o.dst with
  | some d => if d < C.nt then .set d (.tup []) (.ret ()) else .fail
  | none => .ret ()
noncomputable def yldQ (C : Ctx) (d lp : Nat) (args : List Operand) : Q Unit :=
  (opds args).bind fun ads => .ask gs fun
    | .heap H nx => (ofOpt (C.yld lp ads H nx)).bind fun r => .set gs (.heap r.2.1 r.2.2) (.set d (.v (.one (.bool r.1))) (.ret ()))
    | _ => .fail
noncomputable def semY (C : Ctx) (i : Nat) (o : Oper) : Q Unit :=
  match o.op with
  | .call c => (match c.callee with
    | .value (.tmp t) => .ask t fun
      | .v (.one (.yl lp)) => dstQ o (fun d => yldQ C d lp c.args.toList) C
      | _ => semOp C i o
    | _ => semOp C i o)
  | _ => semOp C i o
theorem yldQ_gen {U : Nat → Prop} (C : Ctx) (d lp : Nat) (args : List Operand) : (yldQ C d lp args).Gen U (fun _ => True) := by
  refine (opds_gen _).bind fun ads _ => ?_
  intro v hv
  cases v with
  | heap H nx => exact (ofOpt_gen _).bind fun r _ => ⟨trivial, trivial, trivial⟩
  | _ => trivial
theorem semY_gen {U : Nat → Prop} (C : Ctx) {i : Nat} (hg : U (i + 1)) (o : Oper) : (semY C i o).Gen U (fun _ => True) := by
  unfold semY
  split
  · split
    · intro v hv
      cases v with
      | v x => cases x with
        | one dd => cases dd with
          | yl lp => exact dstQ_gen C o fun d => yldQ_gen C d lp _
          | _ => exact semOp_gen C hg o
        | many => exact semOp_gen C hg o
      | _ => exact semOp_gen C hg o
    · exact semOp_gen C hg o
  · exact semOp_gen C hg o
noncomputable def grdQ (C : Ctx) (ops : Array Oper) (i : Nat) (o : Oper) : Q Unit :=
  match o.guard with
  | none => semY C i o
  | some (j, want) => match (ops[j]?).bind (·.dst) with
    | some t => .ask t fun
      | .v (.one (.bool b)) => if b = want then semY C i o else skipQ C o
      | .tup [] => skipQ C o
      | _ => .fail
    | none => .fail
theorem skip_gen {C : Ctx} {o : Oper} {U : Nat → Prop} : (skipQ C o).Gen U (fun _ => True) := by
  unfold skipQ; split
  · split <;> first | exact ⟨trivial, trivial⟩ | trivial
  · trivial
noncomputable def runFrom (C : Ctx) (ops : Array Oper) : Nat → List Oper → Q Unit
  | _, [] => .ret ()
  | k, o :: l => (grdQ C ops k o).bind fun _ => runFrom C ops (k + 1) l
noncomputable def normAV : AV → AV
  | .box _ xs => .box 0 xs
  | .own _ e sz rows => .own 0 e sz rows
  | .loc _ _ _ | .oloc _ _ _ _ | .vw _ _ => .junk
  | v => v
noncomputable def norm (keep : List Nat) (E : Env) : Env := mk ((gs :: keep).map fun s => (s, normAV (E s)))
theorem norm_at (keep : List Nat) (E : Env) (s : Nat) : norm keep E s = if s ∈ gs :: keep then normAV (E s) else .junk := by
  unfold norm
  generalize gs :: keep = l
  induction l with
  | nil => simp [mk]
  | cons t l ih =>
    simp only [List.map_cons, mk_cons]
    by_cases h : s = t
    · subst h; simp
    · rw [if_neg h, ih]; simp [h]
section
variable {P : Program} {C : Ctx} {E E1 : Env} {a : Act} {w : World} {ι β : Nat → Option Nat} {M : Nat → Prop}
theorem grd_gen {U : Nat → Prop} {ops : Array Oper} {i : Nat} {o : Oper} (hU : U (i + 1)) : (grdQ C ops i o).Gen U (fun _ => True) := by
  unfold grdQ
  split
  · exact semY_gen C hU o
  · split
    · intro v hv
      cases v with
      | v x => cases x with
        | one dd => cases dd with
          | bool b =>
            show (if _ then _ else _ : Q Unit).Gen U _
            split
            · exact semY_gen C hU o
            · exact skip_gen
          | _ => trivial
        | many => trivial
      | tup l => cases l with
        | nil => exact skip_gen
        | cons => trivial
      | _ => trivial
    · trivial
theorem skip_sound {o : Oper} {K : Act → World → Prop} (hq : (skipQ C o).run E = some ((), E1)) (h : Sim C E a w ι β M) (hK : Then C E1 M w ι K) : K (a.put o.dst undef) w := by
  unfold skipQ at hq
  split at hq
  · rename_i d hd
    split at hq
    · rename_i hdn
      have := set_run hq
      subst this
      rw [hd]
      exact hK _ _ _ _ _ (h.put (av := .tup []) hdn rfl (by simp only [Holds]; rw [h.val_put hdn]; exact ⟨#[], rfl, rfl, fun j v a hv => by simp at hv⟩)) (Evo.refl _ _) (fun _ _ h => h)
    · cases hq
  · rename_i hd
    obtain ⟨_, rfl⟩ := ret_run hq
    rw [hd]
    exact hK _ _ _ _ _ h (Evo.refl _ _) (fun _ _ h => h)
theorem sem_no_defer {i : Nat} {o : Oper} (hq : (semOp C i o).run E = some ((), E1)) : ∀ c, o.op ≠ .defer c := by
  intro c hc
  unfold semOp at hq
  obtain ⟨_, E0, h0, hq⟩ := Q.run_bind_some hq
  obtain ⟨_, E2, h1, hq⟩ := Q.run_bind_some hq
  unfold semOp1 semOp0 at h1
  rw [hc] at h1
  cases h1
theorem yld_sound {ro : Option Nat} {n : Nat} {o : Oper} {c : Call} {t lp d : Nat} {K : Act → World → Prop} {Qx : Exit → Act → World → Prop} (ho : o.op = .call c) (hcal : c.callee = .value (.tmp t)) (hE : E t = .v (.one (.yl lp))) (hC : C.Ok P) (h : Sim C E a w ι β M) (hd : d < C.nt) (hdst : o.dst = some d)
    (hq : (yldQ C d lp c.args.toList).run E = some ((), E1)) (hK : Then C E1 M w ι K) : o.wpIn (Fx ro) n P a w K Qx := by
  unfold yldQ at hq
  obtain ⟨ads, E2, h1, hq2⟩ := Q.run_bind_some hq
  obtain ⟨β1, M1, s1, e1, hsz, hr0⟩ := opds_sound h h1
  have hr : ∀ (j : Nat) v x, (c.args.map a.eval)[j]? = some v → ads[j]? = some x → RdA w ι M1 v x := by
    intro j v x hv hx
    rw [Array.getElem?_map] at hv
    cases hj : c.args[j]? with
    | none => rw [hj] at hv; cases hv
    | some y =>
      rw [hj] at hv
      simp only [Option.map_some, Option.some.injEq] at hv
      subst hv
      exact hr0 j y x (by simpa using hj) hx
  have hv : a.eval (.tmp t) = .func (.yield ((ι lp).getD 0)) #[] #[] := by
    have hh := h.hold t
    rw [hE] at hh
    have hr : Rd w ι M (valOf a t) (.yl lp) := hh
    show valOf a t = _
    generalize valOf a t = u at hr
    cases hr with
    | yl _ b hb => rw [hb]; rfl
  simp only [Q.run] at hq2
  cases hg : E2 gs with
  | heap H nx =>
    rw [hg] at hq2
    obtain ⟨r, E3, h2, hq3⟩ := Q.run_bind_some hq2
    obtain ⟨hF, rfl⟩ := ofOpt_run h2
    obtain ⟨b, H', nx'⟩ := r
    simp only [Q.run] at hq3
    simp only [Option.some.injEq, Prod.mk.injEq, true_and] at hq3
    subst hq3
    obtain ⟨l, fn, tmps, assign, body, hl, hy, hround⟩ := hC.yld lp ads H nx b H' nx' hF w ι M1 (c.args.map a.eval) s1.lt (s1.heapOk hg) (by simpa using hsz.symm) hr
    refine ⟨fun _ _ => trivial, ?_⟩
    rw [Oper.semAt_eq _ _ _ (by rw [ho]; intro c h; cases h)]
    have hrun : (execOp a.eval o).run P w = .ok (.round l fn tmps assign body) w := by
      rw [hl] at hv
      simp [execOp, ho, resolve, hcal, hv, invoke, Deferred.ofValue, hy]
    rw [hrun, Oper.uponIn_round, hdst]
    refine ⟨fun hd => by simp [Fx] at hd, trivial, fun cl cs _ => ?_⟩
    obtain ⟨e, w', ⟨ι', M', he, ht⟩, hs⟩ := (hround (n - 1)).2 cl cs (room_wide _)
    refine ⟨e, w', ?_, hs⟩
    subst he
    obtain ⟨s2, hev⟩ := after_eff s1 hg ht
    exact (hK.of e1) _ _ _ _ _ (s2.put_v hd (v := .bool b) (x := .one (.bool b)) (.bool b)) hev ht.ext
  | _ => rw [hg] at hq2; cases hq2
theorem semIn_sound {ro : Option Nat} {n : Nat} {U : Nat → Prop} {i : Nat} {o : Oper} {K : Act → World → Prop} {Qx : Exit → Act → World → Prop} (hC : C.Ok P) (hq : (semY C i o).run E = some ((), E1)) (h : Sim C E a w ι β M) (hg : Gens E U) (hU : ¬ U (i + 1)) (hK : Then C E1 M w ι K) : o.wpIn (Fx ro) n P a w K Qx := by
  have hel : (semOp C i o).run E = some ((), E1) → o.wpIn (Fx ro) n P a w K Qx := fun hq => wpIn_of_wp (sem_no_defer hq) (op_sound hC hq h hg hU hK)
  unfold semY at hq
  split at hq
  · rename_i c ho
    split at hq
    · rename_i t hcal
      simp only [Q.run] at hq
      split at hq
      · rename_i lp hE
        obtain ⟨d, hdst, hd, hq⟩ := dstQ_some hq
        exact yld_sound ho hcal hE hC h hd hdst hq hK
      · exact hel hq
    · exact hel hq
  · exact hel hq
theorem grd_sound {ro : Option Nat} {n : Nat} {U : Nat → Prop} {ops : Array Oper} {i : Nat} {o : Oper} {K : Act → World → Prop} {Qx : Exit → Act → World → Prop} (hC : C.Ok P) (ho : ops[i]? = some o) (hq : (grdQ C ops i o).run E = some ((), E1)) (h : Sim C E a w ι β M) (hg : Gens E U) (hU : ¬ U (i + 1)) (hK : Then C E1 M w ι K) :
    wpOpIn (Fx ro) n P ops Qx i K a w := by
  unfold wpOpIn
  rw [ho]
  simp only
  unfold grdQ at hq
  split at hq
  · rename_i hgd
    rw [if_pos (by simp [Region.wanted, hgd])]
    exact semIn_sound hC hq h hg hU hK
  · rename_i j want hgd
    split at hq
    · rename_i t ht
      simp only [Q.run] at hq
      have hh := h.hold t
      cases hE : E t with
      | v x =>
        rw [hE] at hq hh
        cases x with
        | one dd =>
          cases dd with
          | bool b =>
            have hv : valOf a t = .bool b := by
              have hr : Rd w ι M (valOf a t) (.bool b) := hh
              generalize valOf a t = u at hr
              cases hr; rfl
            have hlt : a.tmps[t]? = some (.bool b) := by
              unfold valOf at hv
              rw [Array.getD_eq_getD_getElem?] at hv
              cases hx : a.tmps[t]? with
              | none => rw [hx] at hv; cases hv
              | some y => rw [hx] at hv; simp only [Option.getD_some] at hv; rw [hv]
            have hy : yielded ops a.tmps j = some b := by
              unfold yielded
              rw [ht]
              simp only [Option.bind_some, hlt]
            have hw : Region.wanted o (yielded ops a.tmps) = (b == want) := by
              simp only [Region.wanted, hgd, hy]
              cases b <;> cases want <;> rfl
            rw [hw]
            simp only at hq
            split at hq
            · rename_i hb
              rw [if_pos (by simp [hb])]
              exact semIn_sound hC hq h hg hU hK
            · rename_i hb
              rw [if_neg (by simp [hb])]
              exact ⟨fun _ _ => trivial, skip_sound hq h hK⟩
          | _ => cases hq
        | many => cases hq
      | tup l =>
        rw [hE] at hq hh
        cases l with
        | nil =>
          obtain ⟨vs, hv, hl, _⟩ := hh
          have hw : Region.wanted o (yielded ops a.tmps) = false := by
            have hy : yielded ops a.tmps j = none := by
              unfold yielded
              rw [ht]
              simp only [Option.bind_some]
              unfold valOf at hv
              rw [Array.getD_eq_getD_getElem?] at hv
              cases hx : a.tmps[t]? with
              | none => rfl
              | some y => rw [hx] at hv; simp only [Option.getD_some] at hv; rw [hv]
            simp only [Region.wanted, hgd, hy]
            cases want <;> rfl
          rw [hw]
          exact ⟨fun _ _ => trivial, skip_sound hq h hK⟩
        | cons => cases hq
      | _ => rw [hE] at hq; cases hq
    · cases hq
theorem Gens.mono {U V : Nat → Prop} (h : Gens E U) (hUV : ∀ g, U g → V g) : Gens E V := fun s => by
  have := h s
  cases hE : E s <;> rw [hE] at this <;> first | exact hUV _ this | trivial
theorem ops_sound {ro : Option Nat} {n : Nat} {ops : Array Oper} {Qx : Exit → Act → World → Prop} (hC : C.Ok P) : ∀ (l : List Oper) (k : Nat) (E : Env) (a : Act) (w : World) (ι β : Nat → Option Nat) (M : Nat → Prop), (∀ j, l[j]? = ops[k + j]?) →
    (runFrom C ops k l).run E = some ((), E1) → Sim C E a w ι β M → Gens E (· ≤ k) →
    (∀ a' w' ι' β' M', Sim C E1 a' w' ι' β' M' → Gens E1 (fun _ => True) → Evo C.X M w M' w' → (∀ o b, ι o = some b → ι' o = some b) → Qx .normal a' w') → wpOpsIn (Fx ro) n P ops Qx (List.range' k l.length) a w
  | [], k, E, a, w, ι, β, M, _, hq, h, hg, hK => by
    obtain ⟨_, rfl⟩ := ret_run hq
    exact hK _ _ _ _ _ h (hg.mono fun _ _ => trivial) (Evo.refl _ _) (fun _ _ h => h)
  | o :: l, k, E, a, w, ι, β, M, hl, hq, h, hg, hK => by
    simp only [runFrom] at hq
    obtain ⟨_, E2, h1, hq2⟩ := Q.run_bind_some hq
    simp only [List.length_cons, List.range'_succ]
    rw [wpOpsIn_cons]
    have ho : ops[k]? = some o := by have := hl 0; simpa using this.symm
    have hg2 : Gens E2 (· ≤ k + 1) := ((grd_gen (U := (· ≤ k + 1)) (Nat.le_refl _)).run (hg.mono fun g hg => Nat.le_succ_of_le hg) h1).1
    refine grd_sound hC ho h1 h hg (by omega) ?_
    intro a' w' ι' β' M' s e i
    refine ops_sound hC l (k + 1) E2 a' w' ι' β' M' (fun j => ?_) hq2 s hg2 fun a2 w2 ι2 β2 M2 s2 g2 e2 i2 => hK a2 w2 ι2 β2 M2 s2 g2 (e.trans e2) (fun o b h => i2 _ _ (i _ _ h))
    have := hl (j + 1)
    simpa [Nat.add_assoc, Nat.add_comm 1 j] using this
theorem Sim.normed (h : Sim C E a w ι β M) (keep : List Nat) : Sim C (Pe.norm keep E) a w ι (fun s => if s ∈ gs :: keep then β s else none) M := by
  have hgs : Pe.norm keep E gs = E gs := by
    rw [norm_at, if_pos (by simp)]
    obtain ⟨H, nx, hH, _⟩ := h.hp
    rw [hH]; rfl
  have hl : live (Pe.norm keep E) = live E := by funext o; unfold live; rw [hgs]
  have hu : ∀ s b, (if s ∈ gs :: keep then β s else none) = some b → β s = some b := fun s b hs => by
    split at hs
    · exact hs
    · cases hs
  refine ⟨h.size, h.defs, h.small, by rw [hgs]; exact h.hp, by rw [hl]; exact h.objs, by rw [hl]; exact h.injO, fun s s' b h1 h2 => h.injB s s' b (hu s b h1) (hu s' b h2), by rw [hl]; exact fun o x s b h1 h2 h3 => h.disj o x s b h1 h2 (hu s b h3), by rw [hl]; exact h.ctlO, fun s b hs => h.ctlB s b (hu s b hs), by rw [hl]; exact h.xO, fun s b hs => h.xB s b (hu s b hs), h.xlt, h.xM, h.lt, fun s => ?_⟩
  rw [norm_at]
  by_cases hs : s ∈ gs :: keep
  · rw [if_pos hs]
    have hh := h.hold s
    generalize hx : E s = x at hh
    cases x with
    | box g xs => simpa only [normAV, Holds, if_pos hs] using hh
    | own g e sz rows => simpa only [normAV, Holds, if_pos hs] using hh
    | loc => trivial
    | oloc => trivial
    | vw => trivial
    | _ => exact hh
  · rw [if_neg hs]; trivial
theorem norm_gens (keep : List Nat) (E : Env) : Gens (norm keep E) (· ≤ 0) := fun s => by
  rw [norm_at]
  split
  · cases E s <;> first | exact Nat.le_refl 0 | trivial
  · trivial
theorem region_sound {ro : Option Nat} {n : Nat} {id : Nat} {ops : Array Oper} {Qx : Exit → Act → World → Prop} (hC : C.Ok P) (hq : (runFrom C ops 0 ops.toList).run E = some ((), E1)) (h : Sim C E a w ι β M) (hg : Gens E (· ≤ 0))
    (hK : ∀ a' w' ι' β' M', Sim C (norm (C.keep id) E1) a' w' ι' β' M' → Gens (norm (C.keep id) E1) (· ≤ 0) → Evo C.X M w M' w' → (∀ o b, ι o = some b → ι' o = some b) → Qx .normal a' w') : (Code.region id ops false).wpIn (Fx ro) n P Qx a w := by
  refine wpIn_region ?_
  rw [List.range_eq_range', ← Array.length_toList]
  exact ops_sound hC ops.toList 0 E a w ι β M (fun j => by simp) hq h hg fun a' w' ι' β' M' s _ e i => hK a' w' ι' _ M' (s.normed _) (norm_gens _ _) e i
end
end Go.Proofs.YtmhinddneefmbaaGreat.Pe
