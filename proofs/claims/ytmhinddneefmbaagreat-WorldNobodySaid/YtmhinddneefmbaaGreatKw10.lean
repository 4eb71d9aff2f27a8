/- A part of the proof of JbH. -/
import Derived.Test.YtmhinddneefmbaaGreatKw8
import Derived.Test.YtmhinddneefmbaaGreatKw9
set_option linter.unusedSimpArgs false
set_option linter.unusedVariables false
set_option linter.unusedSectionVars false
namespace Go.Proofs.YtmhinddneefmbaaGreat.Pe
open Go
structure Ext0 (w w' : World) : Prop where
  os : w'.os = w.os
  tape : w'.tape = w.tape
  output : w'.output = w.output
  size : w.heap.size ≤ w'.heap.size
  same : ∀ b, b < w.heap.size → w'.heap[b]? = w.heap[b]?
def FnPure (P : Program) (f : Nat) (F : List AD → Option RV) : Prop :=
  ∀ ads r, F ads = some r → ∀ (w : World) (ι : Nat → Option Nat) (M : Nat → Prop) (vals : Array Value), (∀ b, M b → b < w.heap.size) → (∃ nx, ∀ o, nx ≤ o ↔ ι o = none) → vals.size = ads.length →
    (∀ (j : Nat) v a, vals[j]? = some v → ads[j]? = some a → RdA w ι M v a) →
    Calls P f vals w fun e w' => ∃ v, e = .returned v ∧ RdV w' ι M v r ∧ Ext0 w w'
def FnNew (P : Program) (f : Nat) (F : List AD → Option (Nat × Nat × List (List D))) : Prop :=
  ∀ ads r, F ads = some r → ∀ (w : World) (ι : Nat → Option Nat) (M : Nat → Prop) (vals : Array Value), (∀ b, M b → b < w.heap.size) → (∃ nx, ∀ o, nx ≤ o ↔ ι o = none) → vals.size = ads.length →
    (∀ (j : Nat) v a, vals[j]? = some v → ads[j]? = some a → RdA w ι M v a) →
    Calls P f vals w fun e w' => ∃ v, e = .returned v ∧ Ext0 w w' ∧ 0 < r.2.1 ∧ ((v = .slice none 0 0 ∧ r.2.2 = []) ∨
      ∃ b cs cap, w.heap.size ≤ b ∧ v = .slice (some ⟨b, 0, none⟩) r.2.2.length cap ∧ r.2.2.length ≤ cap ∧ cap ≤ maxLen ∧ cs.size = cap * r.2.1 ∧ Blk w' ι (fun x => M x ∨ x = b) b r.1 cs r.2.1 r.2.2)
structure HeapOk (w : World) (ι : Nat → Option Nat) (M : Nat → Prop) (H : Hp) (nx : Nat) : Prop where
  new : ∀ o, nx ≤ o ↔ ι o = none
  objs : ∀ o ob, H o = some ob → ∃ b, ι o = some b ∧ ObjAt w ι M b ob
  inj : ∀ o o' x x' b, H o = some x → H o' = some x' → ι o = some b → ι o' = some b → o = o'
  ctl : ∀ o x b, H o = some x → ι o = some b → M b
def FnExt (P : Program) (f : Nat) (F : List AD → Hp → Nat → Option RV) : Prop :=
  ∀ ads H nx r, F ads H nx = some r → ∀ (w : World) (ι : Nat → Option Nat) (M : Nat → Prop) (vals : Array Value), HeapOk w ι M H nx → vals.size = ads.length →
    (∀ (j : Nat) v a, vals[j]? = some v → ads[j]? = some a → RdA w ι M v a) →
    ∃ v, (callFunc f vals).run P w = .ok (.value v) w ∧ RdV w ι M v r
def FnEff (P : Program) (f : Nat) (F : List AD → Hp → Nat → Option (RV × Hp × Nat)) : Prop :=
  ∀ ads H nx r H' nx', F ads H nx = some (r, H', nx') → ∀ (w : World) (ι : Nat → Option Nat) (M : Nat → Prop) (vals : Array Value), (∀ b, M b → b < w.heap.size) → HeapOk w ι M H nx → vals.size = ads.length →
    (∀ (j : Nat) v a, vals[j]? = some v → ads[j]? = some a → RdA w ι M v a) →
    Calls P f vals w fun e w' => ∃ v ι' M', e = .returned v ∧ RdV w' ι' M' v r ∧ HeapOk w' ι' M' H' nx' ∧ (∀ o b, ι o = some b → ι' o = some b) ∧ Evo (fun _ => False) (fun b => ∃ o x, H o = some x ∧ ι o = some b) w (fun b => ∃ o x, H' o = some x ∧ ι' o = some b) w' ∧
      (∀ b, M b → (∀ o x, H o = some x → ι o ≠ some b) → M' b) ∧ (∀ b, b < w.heap.size → M' b → M b) ∧ (∀ b, M' b → b < w'.heap.size)
structure EffTo (w : World) (ι : Nat → Option Nat) (M : Nat → Prop) (H : Hp) (w' : World) (ι' : Nat → Option Nat) (M' : Nat → Prop) (H' : Hp) (nx' : Nat) : Prop where
  ok : HeapOk w' ι' M' H' nx'
  ext : ∀ o b, ι o = some b → ι' o = some b
  evo : Evo (fun _ => False) (fun b => ∃ o x, H o = some x ∧ ι o = some b) w (fun b => ∃ o x, H' o = some x ∧ ι' o = some b) w'
  kept : ∀ b, M b → (∀ o x, H o = some x → ι o ≠ some b) → M' b
  back : ∀ b, b < w.heap.size → M' b → M b
  lt : ∀ b, M' b → b < w'.heap.size
def YldOk (P : Program) (F : Nat → List AD → Hp → Nat → Option (Bool × Hp × Nat)) : Prop :=
  ∀ lp ads H nx r H' nx', F lp ads H nx = some (r, H', nx') → ∀ (w : World) (ι : Nat → Option Nat) (M : Nat → Prop) (vals : Array Value), (∀ b, M b → b < w.heap.size) → HeapOk w ι M H nx → vals.size = ads.length →
    (∀ (j : Nat) v a, vals[j]? = some v → ads[j]? = some a → RdA w ι M v a) →
    ∃ l fn tmps assign body, ι lp = some l ∧ (Instr.yield l vals).run P w = .ok (.round l fn tmps assign body) w ∧
      ∀ n, RoundIn Fence.wide n P l fn tmps assign body w fun e w' => ∃ ι' M', e = .returned (.bool r) ∧ EffTo w ι M H w' ι' M' H' nx'
def FnRd (P : Program) (f : Nat) (F : List AD → Hp → Nat → Option RV) : Prop := FnEff P f fun ads H nx => (F ads H nx).map fun r => (r, H, nx)
def calleeOk (P : Program) (f : Nat) : Bool := match P.funcs[f]? with
  | some fn => fn.name != "runtime.NumGoroutine" && fn.body.isSome
  | none => false
def EqOk (P : Program) (t n : Nat) : Prop :=
  ∀ (w : World) (ι : Nat → Option Nat) (M : Nat → Prop) u v x y r, RdA w ι M u x → RdA w ι M v y → fitEq n x y = true → eqAD x y = some r →
    (binOp .eql t u v).run P w = .ok (.bool r) w ∧ (binOp .neq t u v).run P w = .ok (.bool !r) w ∧ ∀ op p q, (eqGuard op t p q u v).run P w = .ok () w
structure Ctx.Ok (C : Ctx) (P : Program) : Prop where
  tt : ∀ t, C.tt t = dflt ∨ TyOk P t (C.tt t)
  pure : ∀ f F, C.fns f = .pure F → FnPure P f F ∧ calleeOk P f = true
  eff : ∀ f F, C.fns f = .eff F → FnEff P f F ∧ calleeOk P f = true
  eqs : ∀ t, C.eqs t = true → EqOk P t (C.tt t).eqn
  new : ∀ f F, C.fns f = .new F → FnNew P f F ∧ calleeOk P f = true
  ext : ∀ f F, C.fns f = .ext F → FnExt P f F
  rd : ∀ f F, C.fns f = .rd F → FnRd P f F ∧ calleeOk P f = true
  yld : YldOk P C.yld
  eqz : ∀ t k, C.eqz t = some k → EqZOk P t k
section
variable {P : Program} {C : Ctx} {E E1 : Env} {a : Act} {w : World} {ι β : Nat → Option Nat} {M : Nat → Prop} {K : Act → World → Prop} {Qx : Exit → Act → World → Prop} {o : Oper} {d : Nat} {U : Nat → Prop} {γ : Nat}
theorem lenQ_sound {x : Operand} {n : Nat} (h : Sim C E a w ι β M) (hq : (lenQ x).run E = some (n, E1)) : E1 = E ∧ ∃ A c, a.eval x = .slice A n c := by
  cases x with
  | tmp t =>
    have hh := h.hold t
    simp only [lenQ, Q.run] at hq
    have own : ∀ s g e sz rows, E s = .own g e sz rows → ∃ A c, valOf a s = .slice A rows.length c := fun s g e sz rows hE => by
      have hh := h.hold s
      rw [hE] at hh
      obtain ⟨_, hh⟩ := hh
      rcases hh with ⟨h1, h2, _⟩ | ⟨b, cs, cap, _, h2, _⟩
      · subst h2; exact ⟨none, 0, h1⟩
      · exact ⟨_, _, h2⟩
    cases hE : E t with
    | own g e sz rows =>
      rw [hE] at hq
      obtain ⟨rfl, rfl⟩ := ret_run hq
      obtain ⟨A, c, hv⟩ := own t g e sz rows hE
      exact ⟨rfl, A, c, hv⟩
    | vw s g =>
      rw [hE] at hq hh
      simp only [Q.run] at hq
      cases hS : E s with
      | own g' e sz rows =>
        rw [hS] at hq
        simp only at hq
        split at hq
        · rename_i hg; subst hg
          obtain ⟨rfl, rfl⟩ := ret_run hq
          obtain ⟨A, c, hv⟩ := own s g e sz rows hS
          exact ⟨rfl, A, c, (hh e sz rows hS).trans hv⟩
        · cases hq
      | _ => rw [hS] at hq; cases hq
    | v y =>
      rw [hE] at hq hh
      cases y with
      | one dd =>
        have hr : Rd w ι M (valOf a t) dd := hh
        cases dd with
        | sl rows =>
          obtain ⟨rfl, rfl⟩ := ret_run hq
          rcases hr.imm with ⟨A, c, h1, h2⟩ | ⟨ad, c, sz, h1, _⟩
          · subst h2; exact ⟨rfl, A, c, h1⟩
          · exact ⟨rfl, _, c, h1⟩
        | ref ob sz i n' =>
          obtain ⟨rfl, rfl⟩ := ret_run hq
          refine ⟨rfl, ?_⟩
          show ∃ A c, valOf a t = _
          generalize valOf a t = u at hr
          cases hr with
          | ref _ _ _ _ c b hb _ _ _ _ => exact ⟨_, _, rfl⟩
        | nils =>
          obtain ⟨rfl, rfl⟩ := ret_run hq
          refine ⟨rfl, ?_⟩
          show ∃ A c, valOf a t = _
          generalize valOf a t = u at hr
          cases hr with
          | nils => exact ⟨_, _, rfl⟩
        | refc ob sz i n' cc =>
          obtain ⟨rfl, rfl⟩ := ret_run hq
          refine ⟨rfl, ?_⟩
          show ∃ A c, valOf a t = _
          generalize valOf a t = u at hr
          cases hr with
          | refc _ _ _ _ _ b hb _ _ _ _ => exact ⟨_, _, rfl⟩
        | _ => cases hq
      | many => cases hq
    | _ => rw [hE] at hq; cases hq
  | _ => cases hq
theorem tk_of {t : Nat} {k : TK} (ht : C.tt t = dflt ∨ TyOk P t (C.tt t)) (hk : (C.tt t).k = k) (hne : k ≠ .ot) : TkOk P t k := by
  rcases ht with ht | ht
  · rw [ht] at hk; exact absurd hk.symm hne
  · have := ht.und; rw [hk] at this; exact this
theorem op_convert {s t : TypeId} {x : Operand} (ho : o.op = .convert s t x) (hC : C.Ok P) (h : Sim C E a w ι β M) (hd : d < C.nt) (hdst : o.dst = some d)
    (hq : ((opd x).bind fun a => (ofOpt a.int?).bind fun n => match (C.tt s).k, (C.tt t).k with
      | .int _, .int k => .set d (.v (.one (.int k (k.wrap n.2)))) (.ret ())
      | _, _ => .fail : Q Unit).run E = some ((), E1)) (hK : Then C E1 M w ι K) : o.wp P a w K Qx := by
  obtain ⟨x', E2, h1, hq2⟩ := Q.run_bind_some hq
  obtain ⟨β1, M1, s1, e1, r1⟩ := opd_sound h h1
  obtain ⟨n, E4, h3, hq4⟩ := Q.run_bind_some hq2
  obtain ⟨hx, rfl⟩ := ofOpt_run h3
  rw [AD.int_some hx] at r1
  have hv := int_rd r1
  split at hq4
  · rename_i k' k hk' hk
    have hu : P.underlying t = some (.int k) := tk_of (hC.tt t) hk (by simp)
    have hds : P.underlying s = some (.int k') := tk_of (hC.tt s) hk' (by simp)
    refine put_data s1 hd hdst (x := .one (.int k (k.wrap n.2))) (v := .int k (k.wrap n.2)) (.int _ _) ?_ (set_run hq4) (hK.of e1)
    simp [execOp, ho, hv, convert, run_underlying hds, run_underlying hu, Conv.intToInt]
  · cases hq4
theorem run_call_builtin {c : Call} {b : Builtin} (ho : o.op = .call c) (hc : c.callee = .builtin b) : (execOp a.eval o) = builtin b c.argTypes o.type (c.args.map fun | .const _ => true | _ => false) (c.args.map a.eval) := by
  simp [execOp, ho, resolve, hc, invoke]
  rfl
theorem op_mm {c : Call} {b : Builtin} {f : D → D → Option D} (ho : o.op = .call c) (hc : c.callee = .builtin b) (h : Sim C E a w ι β M) (hd : d < C.nt) (hdst : o.dst = some d)
    (hf : ∀ (u v : Value) (x y r : D) (M : Nat → Prop), Rd w ι M u x → Rd w ι M v y → f x y = some r → ∃ z, (builtin b c.argTypes o.type (c.args.map fun | .const _ => true | _ => false) #[u, v]).run P w = .ok (.value z) w ∧ Rd w ι M z r)
    (hq : (mmQ d f c.args.toList).run E = some ((), E1)) (hK : Then C E1 M w ι K) : o.wp P a w K Qx := by
  have hrun := run_call_builtin (a := a) ho hc
  unfold mmQ at hq
  split at hq
  · rename_i x y hxy
    have ha : c.args.map a.eval = #[a.eval x, a.eval y] := by
      have : c.args = #[x, y] := by rw [← Array.toArray_toList (xs := c.args), hxy]
      rw [this]; simp
    obtain ⟨x', E2, h1, hq2⟩ := Q.run_bind_some hq
    obtain ⟨β1, M1, s1, e1, r1⟩ := opd_sound h h1
    obtain ⟨y', E3, h2, hq3⟩ := Q.run_bind_some hq2
    obtain ⟨β2, M2, s2, e2, r2⟩ := opd_sound s1 h2
    obtain ⟨x2, E4, h3, hq4⟩ := Q.run_bind_some hq3
    obtain ⟨hx, rfl⟩ := ofOpt_run h3
    obtain ⟨y2, E5, h4, hq5⟩ := Q.run_bind_some hq4
    obtain ⟨hy, rfl⟩ := ofOpt_run h4
    obtain ⟨r, E6, h5, hq6⟩ := Q.run_bind_some hq5
    obtain ⟨hb, rfl⟩ := ofOpt_run h5
    rw [AD.d_some hx] at r1
    rw [AD.d_some hy] at r2
    have r1' : Rd w ι M2 (a.eval x) x2 := Rd.mono r1 e2.same e2.back (fun _ _ h => h) e2.shape
    obtain ⟨z, f1, f2⟩ := hf _ _ _ _ _ M2 r1' r2 hb
    exact put_data s2 hd hdst (x := .one r) f2 (by rw [hrun, ha]; exact f1) (set_run hq6) ((hK.of e1).of e2)
  · cases hq
theorem args1 {c : Call} {x : Operand} {t : TypeId} (ha : c.args.toList = [x]) (ht : c.argTypes.toList = [t]) : c.args = #[x] ∧ c.argTypes = #[t] := by
  constructor
  · rw [← Array.toArray_toList (xs := c.args), ha]
  · rw [← Array.toArray_toList (xs := c.argTypes), ht]
theorem args2 {c : Call} {x y : Operand} {t u : TypeId} (ha : c.args.toList = [x, y]) (ht : c.argTypes.toList = [t, u]) : c.args = #[x, y] ∧ c.argTypes = #[t, u] := by
  constructor
  · rw [← Array.toArray_toList (xs := c.args), ha]
  · rw [← Array.toArray_toList (xs := c.argTypes), ht]
theorem op_len {c : Call} (ho : o.op = .call c) (hc : c.callee = .builtin .len) (hC : C.Ok P) (h : Sim C E a w ι β M) (hd : d < C.nt) (hdst : o.dst = some d)
    (hq : (match c.args.toList, c.argTypes.toList with
        | [x], [t] => (match (C.tt t).k with
          | .sl .. => (lenQ x).bind fun n => .set d (.v (.one (.int .i64 n))) (.ret ())
          | .str => (opd x).bind fun a => (match a with | .one (.str s) => .set d (.v (.one (.int .i64 s.size))) (.ret ()) | _ => .fail)
          | _ => .fail)
        | _, _ => .fail : Q Unit).run E = some ((), E1)) (hK : Then C E1 M w ι K) : o.wp P a w K Qx := by
  have hrun := run_call_builtin (a := a) ho hc
  split at hq
  · rename_i x t hx ht
    obtain ⟨e1, e2⟩ := args1 hx ht
    rw [e1, e2] at hrun
    split at hq
    · rename_i hk
      have hu := (sl_some (tk_of (hC.tt t) hk (by simp))).1
      obtain ⟨n, E2, h1, hq2⟩ := Q.run_bind_some hq
      obtain ⟨rfl, hv⟩ := lenQ_sound h h1
      obtain ⟨A, cc, hv⟩ := hv
      exact put_data h hd hdst (x := .one (.int .i64 n)) (v := .int .i64 n) (.int _ _) (by rw [hrun]; simp [builtin, Builtin.len_, hv, run_underlying hu, goInt]) (set_run hq2) hK
    · rename_i hk
      have hu : P.underlying t = some .string := tk_of (hC.tt t) hk (by simp)
      obtain ⟨y, E2, h1, hq2⟩ := Q.run_bind_some hq
      obtain ⟨β1, M1, s1, e1', r1⟩ := opd_sound h h1
      split at hq2
      · rename_i s
        have hr : Rd w ι M1 (a.eval x) (.str s) := r1
        have hv : a.eval x = .string s := by generalize a.eval x = u at hr; cases hr; rfl
        exact put_data s1 hd hdst (x := .one (.int .i64 s.size)) (v := .int .i64 s.size) (.int _ _) (by rw [hrun]; simp [builtin, Builtin.len_, hv, run_underlying hu, goInt]) (set_run hq2) (hK.of e1')
      · cases hq2
    · cases hq
  · cases hq
end
end Go.Proofs.YtmhinddneefmbaaGreat.Pe
