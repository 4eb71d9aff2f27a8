/- A part of the proof of KzA. -/
import Derived.Test.YtdapdiaklpcmjaaGreatKm30
set_option linter.unusedSimpArgs false
set_option linter.unusedVariables false
set_option linter.unusedSectionVars false
namespace Go.Proofs.YtdapdiaklpcmjaaGreat.Pe
open Go
def StepQ (C : Ctx) (ops : Array Oper) (k : Nat) (o : Oper) (s s' : St) : Prop := ∃ r u, (grdQ C ops k o).runS s [] [] = some ((), s', r, u) ∧ ∀ x ∈ u, x = gs ∨ (s'.env x).plain = true
def StepY (C : Ctx) (k : Nat) (o : Oper) (s s' : St) : Prop := ∃ r u, (semY C k o).runS s [] [] = some ((), s', r, u) ∧ ∀ x ∈ u, x = gs ∨ (s'.env x).plain = true
noncomputable def run1 (C : Ctx) (ops : Array Oper) (k : Nat) (o : Oper) (s : St) : Option St := Option.rec (motive := fun _ => Option St) (slowF C ops k o s) (fun s' => some s') (fastO C ops o s)
theorem runF_cons1 (C : Ctx) (ops : Array Oper) (k : Nat) (o : Oper) (l : List Oper) (s s' : St) (h : run1 C ops k o s = some s') : runF C ops k (o :: l) s = runF C ops (k + 1) l s' := by
  rw [runF_cons]
  unfold run1 at h
  cases hf : fastO C ops o s with
  | some s1 => rw [hf] at h; injection h with h; rw [h]
  | none => rw [hf] at h; have h : slowF C ops k o s = some s' := h; rw [h]
theorem all_plain {u : List Nat} {s : St} (h : ∀ x ∈ u, x = gs ∨ (s.env x).plain = true) : u.all (fun i => i == gs || (s.env i).plain) = true := by
  rw [List.all_eq_true]
  intro x hx
  rcases h x hx with h | h
  · subst h; simp
  · simp [h]
theorem StepQ.run1 {C : Ctx} (hC : Uni C) {ops : Array Oper} {k : Nat} {o : Oper} {s s' : St} (h : StepQ C ops k o s s') : run1 C ops k o s = some s' := by
  obtain ⟨r, u, h1, h2⟩ := h
  unfold Pe.run1
  cases hf : fastO C ops o s with
  | some s1 =>
    obtain ⟨r', u', k1, _⟩ := fastO_ok (i := k) hC hf
    rw [h1] at k1
    simp only [Option.some.injEq, Prod.mk.injEq] at k1
    rw [k1.2.1]
  | none =>
    show slowF C ops k o s = some s'
    unfold slowF
    rw [h1]
    simp only [all_plain h2, br]
theorem run1_step {C : Ctx} (hC : Uni C) {ops : Array Oper} {k : Nat} {o : Oper} {s s' : St} (h : run1 C ops k o s = some s') : StepQ C ops k o s s' := by
  unfold run1 at h
  cases hf : fastO C ops o s with
  | some s1 =>
    rw [hf] at h; injection h with h; subst h
    exact fastO_ok (i := k) hC hf
  | none =>
    rw [hf] at h
    have h : slowF C ops k o s = some s' := h
    unfold slowF at h
    split at h
    · rename_i s2 r u hq
      obtain ⟨h1, h2⟩ := br_some h
      injection h2 with h2; subst h2
      refine ⟨r, u, hq, fun x hx => ?_⟩
      have := List.all_eq_true.1 h1 x hx
      simpa using this
    · cases h
noncomputable def fallU (C : Ctx) (k : Nat) (o : Oper) (s : St) : Option St := match fastU C o s with
  | some s' => some s'
  | none => match (semY C k o).runS s [] [] with
    | some (_, s', _, u) => br (u.all (fun i => i == gs || (s'.env i).plain)) (some s') none
    | none => none
theorem fallU_ok {C : Ctx} (hC : Uni C) {k : Nat} {o : Oper} {s s' : St} (h : fallU C k o s = some s') : StepY C k o s s' := by
  unfold fallU at h
  split at h
  · rename_i s1 hf
    injection h with h; subst h
    exact fastU_ok (i := k) hC hf
  · split at h
    · rename_i s2 r u hq
      obtain ⟨h1, h2⟩ := br_some h
      injection h2 with h2; subst h2
      refine ⟨r, u, hq, fun x hx => ?_⟩
      have := List.all_eq_true.1 h1 x hx
      simpa using this
    · cases h
theorem StepY.of_R {C : Ctx} {k d : Nat} {o : Oper} {s s' : St} (h : R d (semY C k o) s () s') (hv : (s'.env d).plain = true) : StepY C k o s s' := by
  obtain ⟨r, u, h1, h2⟩ := h [] []
  refine ⟨r, u, h1, fun x hx => ?_⟩
  rcases h2 x hx with h | h | h
  · cases h
  · exact .inl h
  · subst h; exact .inr hv
theorem StepY.grd {C : Ctx} {ops : Array Oper} {k : Nat} {o : Oper} {s s' : St} {j t : Nat} {want : Bool} (h : StepY C k o s s') (hg : o.guard = some (j, want)) (ht : (ops[j]?).bind (·.dst) = some t) (hb : avF s t = some (.v (.one (.bool want)))) : StepQ C ops k o s s' := by
  obtain ⟨r, u, k1, k2⟩ := h
  obtain ⟨r', u', hb1, hb2⟩ := (Q.runS_any k1 [t] [])
  have hb2 := hb2 rfl
  refine ⟨r', u', ?_, fun x hx => k2 x (hb2 ▸ hx)⟩
  unfold grdQ
  rw [hg]
  simp only [ht]
  show ((match s.env t with | .v (.one (.bool b)) => if b = want then semY C k o else skipQ C o | .tup [] => skipQ C o | _ => .fail)).runS s [t] [] = _
  rw [avF_env hb]
  simp only [if_true]
  exact hb1
theorem StepY.step {C : Ctx} {ops : Array Oper} {k : Nat} {o : Oper} {s s' : St} (h : StepY C k o s s') (hg : o.guard = none) : StepQ C ops k o s s' := by
  unfold StepQ grdQ
  rw [hg]
  exact h
abbrev PF := List AD → Hp → Nat → TL → Option ((RV × Hp × Nat) × TL)
structure SysP extends Sys where
  pb : Nat → Option PF
def PfOk (G : PF) (F : List AD → Hp → Nat → Option (RV × Hp × Nat)) : Prop := ∀ ads H nx T q T', G ads H nx T = some (q, T') → T.Le T' ∧ (T'.Ok → F ads H nx = some q)
structure PbOk (S : SysP) : Prop where
  pb : ∀ f G, S.pb f = some G → ∃ F, S.base f = .eff F ∧ PfOk G F
structure EvT where
  fn : Nat → List AD → Hp → Nat → TL → Option ((RV × Hp × Nat) × TL)
  yld : Nat → List AD → Hp → Nat → TL → Option ((Bool × Hp × Nat) × TL)
  code : Nat → Option Nat → Code → St → TL → Option ((Ex × St) × TL)
structure EvTOk (e : Evs) (t : EvT) : Prop where
  fn : ∀ f ads H nx T q T', t.fn f ads H nx T = some (q, T') → T.Le T' ∧ (T'.Ok → e.fn f ads H nx = some q)
  yld : ∀ lp ads H nx T q T', t.yld lp ads H nx T = some (q, T') → T.Le T' ∧ (T'.Ok → e.yld lp ads H nx = some q)
  code : ∀ nt r c s T z T', t.code nt r c s T = some (z, T') → T.Le T' ∧ (T'.Ok → e.code nt r c s = some z)
noncomputable def calleeT (S : SysP) (t : EvT) (f : Nat) (ads : List AD) (H : Hp) (nx : Nat) (T : TL) : Option ((RV × Hp × Nat) × TL) := match S.pb f with
  | some G => G ads H nx T
  | none => match S.base f with
    | .none => if (S.tab f).isSome then t.fn f ads H nx T else none
    | .eff F => match F ads H nx with
      | some q => some (q, T)
      | none => none
    | _ => none
section
variable {S : SysP} {e : Evs} {t : EvT} (hP : PbOk S) (hE : EvTOk e t)
include hP hE
theorem calleeT_ok {f : Nat} {ads : List AD} {H : Hp} {nx : Nat} {T T' : TL} {q : RV × Hp × Nat} (h : calleeT S t f ads H nx T = some (q, T')) : T.Le T' ∧ (T'.Ok → callee S.toSys e f ads H nx = some q) := by
  unfold calleeT at h
  split at h
  · rename_i G hG
    obtain ⟨F, hF, hFG⟩ := hP.pb f G hG
    obtain ⟨h1, h2⟩ := hFG _ _ _ _ _ _ h
    refine ⟨h1, fun hT => ?_⟩
    unfold callee
    rw [hF]
    exact h2 hT
  · split at h
    · rename_i hb
      split at h
      · rename_i ht
        obtain ⟨h1, h2⟩ := hE.fn _ _ _ _ _ _ _ h
        refine ⟨h1, fun hT => ?_⟩
        unfold callee
        rw [hb]
        simp only
        rw [if_pos ht]
        exact h2 hT
      · cases h
    · rename_i F hb
      split at h
      · rename_i q' hq
        simp only [Option.some.injEq, Prod.mk.injEq] at h
        obtain ⟨rfl, rfl⟩ := h
        refine ⟨.refl _, fun _ => ?_⟩
        unfold callee
        rw [hb]
        exact hq
      · cases h
    · cases h
end
theorem callee_enter {S : SysP} {e : Evs} {nt f d : Nat} {ads : List AD} {s : St} {q : RV × Hp × Nat} (h : callee S.toSys e f ads s.H s.nx = some q) : enterF (ctxS S.toSys e nt) s d f ads = some (retF s d q) := by
  unfold callee at h
  unfold enterF
  show (match (match S.base f with | .none => if (S.tab f).isSome then FnS.eff (e.fn f) else .none | x => x) with | .eff F => _ | _ => _) = _
  cases hb : S.base f with
  | none =>
    rw [hb] at h
    simp only at h ⊢
    split at h
    · rename_i ht
      rw [if_pos ht]
      simp only [h]
    · cases h
  | eff F =>
    rw [hb] at h
    simp only at h ⊢
    rw [h]
  | _ => rw [hb] at h; cases h
noncomputable def isNilS : Operand → Bool
  | .const (.slice none 0 0) => true
  | _ => false
noncomputable def rdA (s : St) (x : Operand) : Option AD := br (isNilS x) (some (.one .nils)) (rdF s x)
theorem rdA_ok {s : St} {x : Operand} {a : AD} {d : Nat} (h : rdA s x = some a) : R d (opd x) s a s := by
  unfold rdA at h
  cases hn : isNilS x with
  | false => rw [hn] at h; exact rdF_ok h
  | true =>
    rw [hn] at h
    injection h with h; subst h
    unfold isNilS at hn
    split at hn
    · exact R.ret
    · cases hn
noncomputable def rdsA (s : St) : List Operand → Option (List AD)
  | [] => some []
  | x :: l => match rdA s x with
    | some a => match rdsA s l with
      | some r => some (a :: r)
      | none => none
    | none => none
theorem rdsA_ok {s : St} {d : Nat} : ∀ {l : List Operand} {bs : List AD}, rdsA s l = some bs → R d (opds l) s bs s
  | [], bs, h => by injection h with h; subst h; exact R.ret
  | x :: l, bs, h => by
    simp only [rdsA] at h
    split at h
    · rename_i a ha
      split at h
      · rename_i r hr
        injection h with h; subst h
        exact (rdA_ok ha).bind ((rdsA_ok hr).bind R.ret)
      · cases h
    · cases h
noncomputable def putT (s : St) (d : Nat) (x : Option (AV × TL)) : Option (St × TL) := match x with
  | some v => some (putF s d v.1, v.2)
  | none => none
noncomputable def booT (b : Bool) (T : TL) : Option (AV × TL) := match decT b T with
  | (x, T') => some (.v (.one (.bool x)), T')
noncomputable def binT (C : Ctx) (op : BinOp) (t : Nat) (x y : Operand) (s : St) (T : TL) : Option (AV × TL) := match rdF s x with
  | some a => match rdF s y with
    | some b => match C.eqz t with
      | some k => match eqZ k a b with
        | some r => match op with
          | .eql => booT r T
          | .neq => booT (not r) T
          | _ => none
        | none => none
      | none => br ((C.tt t).k.isSl) none (match a, b with
        | .one (.int k (.ofNat a)), .one (.int k' (.ofNat b)) => match binI op k k' a b with
          | .num k n cs => some (.v (.one (.int k (.ofNat n))), T.need cs)
          | .boo b => booT b T
          | .no => none
        | _, _ => none)
    | none => none
  | none => none
noncomputable def loadT (C : Ctx) (t : Nat) (x : Operand) (s : St) (T : TL) : Option (AV × TL) := match loadO C t x s with
  | some (.v (.one (.bool b))) => booT b T
  | some v => some (v, T)
  | none => none
noncomputable def convN (k : IntKind) (n : Nat) : IR := match k with
  | .u64 => .num k n [Nat.blt n (limU k)]
  | k => wrapN k n []
noncomputable def convT (C : Ctx) (t1 t2 : Nat) (x : Operand) (s : St) (T : TL) : Option (AV × TL) := match rdF s x with
  | some (.one (.int k0 (.ofNat n))) => match (C.tt t1).k, (C.tt t2).k with
    | .int _, .int k => match convN k n with
      | .num k n cs => some (.v (.one (.int k (.ofNat n))), T.need cs)
      | _ => none
    | _, _ => none
  | _ => none
noncomputable def callT (S : SysP) (t : EvT) (d : Nat) (c : Call) (s : St) (T : TL) : Option (St × TL) := match c.callee with
  | .value f => match rdsA s c.args.toList with
    | some ads => match f with
      | .func f => match calleeT S t f ads s.H s.nx T with
        | some q => some (retF s d q.1, q.2)
        | none => none
      | .tmp i => match avF s i with
        | some (.v (.one (.clo f caps))) => match calleeT S t f (ads ++ caps.map .one) s.H s.nx T with
          | some q => some (retF s d q.1, q.2)
          | none => none
        | some (.v (.one (.fn f))) => match calleeT S t f ads s.H s.nx T with
          | some q => some (retF s d q.1, q.2)
          | none => none
        | some (.v (.one (.yl lp))) => match t.yld lp ads s.H s.nx T with
          | some q => some (⟨s.t.set (some (.v (.one (.bool q.1.1)))) 30 d, q.1.2.1, q.1.2.2⟩, q.2)
          | none => none
        | _ => none
      | _ => none
    | none => none
  | _ => none
noncomputable def withT (T : TL) (x : Option St) : Option (St × TL) := match x with
  | some s => some (s, T)
  | none => none
noncomputable def orT (x : Option (St × TL)) (y : Option (St × TL)) : Option (St × TL) := match x with
  | some z => some z
  | none => y
noncomputable def unT (S : SysP) (e : Evs) (t : EvT) (nt k : Nat) (o : Oper) (s : St) (T : TL) : Option (St × TL) := match o.dst with
  | some d => br (Nat.blt d nt) (br (Nat.blt d 1000000) (match o.op with
    | .call c => match c.callee with
      | .value _ => callT S t d c s T
      | _ => withT T (fallU (ctxS S.toSys e nt) k o s)
    | .binOp op t x y _ => orT (putT s d (binT (ctxS S.toSys e nt) op t x y s T)) (withT T (fallU (ctxS S.toSys e nt) k o s))
    | .load t x => orT (putT s d (loadT (ctxS S.toSys e nt) t x s T)) (withT T (fallU (ctxS S.toSys e nt) k o s))
    | .convert t1 t2 x => orT (putT s d (convT (ctxS S.toSys e nt) t1 t2 x s T)) (withT T (fallU (ctxS S.toSys e nt) k o s))
    | _ => withT T (fallU (ctxS S.toSys e nt) k o s)) none) none
  | none => withT T (fallU (ctxS S.toSys e nt) k o s)
noncomputable def opT (S : SysP) (e : Evs) (t : EvT) (nt : Nat) (ops : Array Oper) (k : Nat) (o : Oper) (s : St) (T : TL) : Option (St × TL) := match o.guard with
  | none => unT S e t nt k o s T
  | some (j, want) => match (ops[j]?).bind (·.dst) with
    | some i => match avF s i with
      | some (.v (.one (.bool b))) => br (Bool.rec (not want) want b) (unT S e t nt k o s T) (withT T (run1 (ctxS S.toSys e nt) ops k o s))
      | _ => withT T (run1 (ctxS S.toSys e nt) ops k o s)
    | none => none
noncomputable def runT (S : SysP) (e : Evs) (t : EvT) (nt : Nat) (ops : Array Oper) : Nat → List Oper → St → TL → Option (St × TL)
  | _, [], s, T => some (s, T)
  | k, o :: l, s, T => match opT S e t nt ops k o s T with
    | some z => runT S e t nt ops (k + 1) l z.1 z.2
    | none => none
theorem ctxS_uni (S : Sys) (e : Evs) (nt : Nat) : Uni (ctxS S e nt) := ⟨fun _ => rfl, rfl, fun _ => rfl, fun _ => rfl⟩
theorem booT_ok {b : Bool} {T T' : TL} {v : AV} (h : booT b T = some (v, T')) : T.Le T' ∧ (∃ x, v = .v (.one (.bool x))) ∧ (T'.Ok → v = .v (.one (.bool b))) := by
  unfold booT at h
  split at h
  rename_i x T1 hd
  simp only [Option.some.injEq, Prod.mk.injEq] at h
  obtain ⟨rfl, rfl⟩ := h
  refine ⟨decT_le hd, ⟨x, rfl⟩, fun hT => ?_⟩
  rw [decT_ok hd hT]
theorem putT_some {s s' : St} {d : Nat} {x : Option (AV × TL)} {T : TL} (h : putT s d x = some (s', T)) : ∃ v, x = some (v, T) ∧ s' = putF s d v := by
  unfold putT at h
  split at h
  · rename_i v
    simp only [Option.some.injEq, Prod.mk.injEq] at h
    obtain ⟨rfl, rfl⟩ := h
    exact ⟨v.1, rfl, rfl⟩
  · cases h
theorem withT_some {x : Option St} {s : St} {T T' : TL} (h : withT T x = some (s, T')) : x = some s ∧ T' = T := by
  unfold withT at h
  split at h
  · simp only [Option.some.injEq, Prod.mk.injEq] at h
    obtain ⟨rfl, rfl⟩ := h
    exact ⟨rfl, rfl⟩
  · cases h
theorem convN_ok {k k2 : IntKind} {n m : Nat} {cs : List Bool} (h : convN k n = .num k2 m cs) (hc : ∀ c ∈ cs, c = true) : D.int k2 (.ofNat m) = .int k (k.wrap (n : Int)) := by
  unfold convN at h
  split at h
  · simp only [IR.num.injEq] at h
    obtain ⟨rfl, rfl, rfl⟩ := h
    rw [wrap_i (blt_lt (hc _ List.mem_cons_self))]; rfl
  · have := wrapN_ok (k := k) (n := n) (cs := []) (by rw [h]; exact hc)
    rw [h] at this
    injection this
section
variable {C : Ctx} (hC : Uni C) {i d : Nat} {o : Oper} {s s' : St} {T T' : TL} (ho : o.dst = some d) (hn : d < C.nt) (hd : Nat.blt d 1000000 = true)
include hC ho hn hd
theorem binT_ok {op : BinOp} {t tr : Nat} {x y : Operand} {v : AV} (hop : o.op = .binOp op t x y tr) (h : binT C op t x y s T = some (v, T')) : T.Le T' ∧ (T'.Ok → StepY C i o s (putF s d v)) := by
  unfold binT at h
  split at h
  · rename_i a ha
    split at h
    · rename_i b hb
      have fin : ∀ r : D, R d (semOp1 C i o) s () (putF s d (.v (.one r))) → StepY C i o s (putF s d (.v (.one r))) := fun r hr =>
        .of_R (d := d) (by rw [semY_of (by rw [hop]; simp)]; exact of_semOp1 hC ho (by rw [hop]; intros; simp) hr (by rw [putF_at hd]; rfl)) (by rw [putF_at hd]; rfl)
      have bin : ∀ r : D, binF C op t a b = some r → StepY C i o s (putF s d (.v (.one r))) := fun r hr => fin r (binF_ok hC ho hop hd hn ha hb hr)
      split at h
      · rename_i k hk
        split at h
        · rename_i r hr
          split at h
          · obtain ⟨h1, _, h3⟩ := booT_ok h
            refine ⟨h1, fun hT => ?_⟩
            rw [h3 hT]
            refine bin _ ?_
            unfold binF; rw [hk]; simp only [hr]
          · obtain ⟨h1, _, h3⟩ := booT_ok h
            refine ⟨h1, fun hT => ?_⟩
            rw [h3 hT]
            refine bin _ ?_
            unfold binF; rw [hk]; simp only [hr]
          · cases h
        · cases h
      · rename_i hk
        obtain ⟨h1, h2⟩ := br_some' h
        split at h2
        · rename_i k a k' b
          have num : ∀ r : D, (binI op k k' a b).D = some r → (∀ c ∈ (binI op k k' a b).cs, c = true) → StepY C i o s (putF s d (.v (.one r))) := fun r hr hc => by
            have hbd := binI_ok hr hc
            refine fin r ?_
            unfold semOp1
            rw [hop]
            simp only
            rw [hk, hC.eqs, h1]
            simp only [Option.isSome_none, Bool.false_eq_true, if_false, Bool.false_and]
            unfold semOp0
            rw [hop]
            simp only [dstQ, ho, if_pos hn]
            exact (rdF_ok ha).bind ((rdF_ok hb).bind (R.bind (R.opt rfl) (R.bind (R.opt rfl) (R.bind (R.opt hbd) (R.put hd R.ret)))))
          split at h2
          · rename_i k2 n cs hI
            simp only [Option.some.injEq, Prod.mk.injEq] at h2
            obtain ⟨rfl, rfl⟩ := h2
            refine ⟨TL.need_le _ _, fun hT => num _ (by rw [hI]; rfl) (by rw [hI]; exact TL.need_ok hT)⟩
          · rename_i b' hI
            obtain ⟨h1, _, h3⟩ := booT_ok h2
            refine ⟨h1, fun hT => ?_⟩
            rw [h3 hT]
            exact num _ (by rw [hI]; rfl) (by rw [hI]; exact fun _ h => (by cases h))
          · cases h2
        · cases h2
    · cases h
  · cases h
theorem loadT_ok {t : Nat} {x : Operand} {v : AV} (hop : o.op = .load t x) (h : loadT C t x s T = some (v, T')) : T.Le T' ∧ (T'.Ok → StepY C i o s (putF s d v)) := by
  have key : ∀ v, loadO C t x s = some v → StepY C i o s (putF s d v) := fun v hv => by
    have := fastD_ok (i := i) hC ho hn hd (s' := putF s d v) (by rw [hop]; show putO s d (loadO C t x s) = _; rw [hv]; rfl)
    exact .of_R this.1 this.2
  unfold loadT at h
  split at h
  · rename_i b hb
    obtain ⟨h1, _, h3⟩ := booT_ok h
    refine ⟨h1, fun hT => ?_⟩
    rw [h3 hT]
    exact key _ hb
  · rename_i v' _ hv
    simp only [Option.some.injEq, Prod.mk.injEq] at h
    obtain ⟨rfl, rfl⟩ := h
    exact ⟨.refl _, fun _ => key _ hv⟩
  · cases h
theorem convT_ok {t1 t2 : Nat} {x : Operand} {v : AV} (hop : o.op = .convert t1 t2 x) (h : convT C t1 t2 x s T = some (v, T')) : T.Le T' ∧ (T'.Ok → StepY C i o s (putF s d v)) := by
  unfold convT at h
  split at h
  · rename_i k0 n hx
    split at h
    · rename_i k1 k h1 h2
      split at h
      · rename_i k2 m cs hI
        simp only [Option.some.injEq, Prod.mk.injEq] at h
        obtain ⟨rfl, rfl⟩ := h
        refine ⟨TL.need_le _ _, fun hT => ?_⟩
        rw [convN_ok hI (TL.need_ok hT)]
        refine .of_R (d := d) ?_ (by rw [putF_at hd]; rfl)
        rw [semY_of (by rw [hop]; simp)]
        refine op_put hC ho hn hd (by rw [hop]; intros; simp) rfl ?_
        unfold semOp1; rw [hop]
        simp only [h1, h2, TK.isStr, Bool.false_eq_true, if_false]
        unfold semOp0; rw [hop]
        simp only [dstQ, ho, if_pos hn]
        refine (rdF_ok hx).bind (R.bind (R.opt (a := (k0, (n : Int))) rfl) ?_)
        rw [h1, h2]
        exact R.put hd R.ret
      · cases h
    · cases h
  · cases h
end
theorem callT_ok {S : SysP} {e : Evs} {t : EvT} (hP : PbOk S) (hE : EvTOk e t) {nt i d : Nat} {o : Oper} {c : Call} {s s' : St} {T T' : TL} (ho : o.dst = some d) (hn : d < nt) (hd : Nat.blt d 1000000 = true) (hop : o.op = .call c)
    (h : callT S t d c s T = some (s', T')) : T.Le T' ∧ (T'.Ok → StepY (ctxS S.toSys e nt) i o s s') := by
  have hC := ctxS_uni S.toSys e nt
  have hn' : d < (ctxS S.toSys e nt).nt := hn
  unfold callT at h
  split at h
  · rename_i f hcl
    split at h
    · rename_i ads hads0
      have hads : R d (opds c.args.toList) s ads s := rdsA_ok hads0
      split at h
      · rename_i f
        split at h
        · rename_i q hq
          simp only [Option.some.injEq, Prod.mk.injEq] at h
          obtain ⟨rfl, rfl⟩ := h
          obtain ⟨h1, h2⟩ := calleeT_ok hP hE hq
          refine ⟨h1, fun hT => ?_⟩
          obtain ⟨g1, g2, F, hF⟩ := enterF_ok (C := ctxS S.toSys e nt) hd (callee_enter (h2 hT))
          refine .of_R (d := d) ?_ g2
          rw [semY_call hop (by rw [hcl]; intro t e; cases e)]
          refine of_semOp1 hC ho (by rw [hop]; intros; simp) ?_ g2
          unfold semOp1; rw [hop]; simp only [hcl]
          unfold semOp0; rw [hop]; simp only [hcl, dstQ, ho, if_pos hn', callQ]
          refine hads.bind ?_
          simp only [hF]
          exact g1
        · cases h
      · rename_i j
        split at h
        · rename_i f caps hv
          split at h
          · rename_i q hq
            simp only [Option.some.injEq, Prod.mk.injEq] at h
            obtain ⟨rfl, rfl⟩ := h
            obtain ⟨h1, h2⟩ := calleeT_ok hP hE hq
            refine ⟨h1, fun hT => ?_⟩
            obtain ⟨g1, g2, F, hF⟩ := enterF_ok (C := ctxS S.toSys e nt) hd (callee_enter (h2 hT))
            refine .of_R (d := d) ?_ g2
            unfold semY; rw [hop]; simp only [hcl]
            refine R.ask ?_
            rw [avF_env hv]
            refine of_semOp1 hC ho (by rw [hop]; intros; simp) ?_ g2
            unfold semOp1; rw [hop]; simp only [hcl, dstQ, ho]
            rw [if_pos hn']
            unfold callVQ
            have g0 : R d (data j) s (.one (.clo f caps)) s := by
              refine R.ask ?_
              rw [avF_env hv]
              exact R.ret
            exact R.bind g0 (show R d ((opds c.args.toList).bind fun ads => enterQ (ctxS S.toSys e nt) d f (ads ++ caps.map .one)) s () _ from hads.bind g1)
          · cases h
        · rename_i f hv
          split at h
          · rename_i q hq
            simp only [Option.some.injEq, Prod.mk.injEq] at h
            obtain ⟨rfl, rfl⟩ := h
            obtain ⟨h1, h2⟩ := calleeT_ok hP hE hq
            refine ⟨h1, fun hT => ?_⟩
            obtain ⟨g1, g2, F, hF⟩ := enterF_ok (C := ctxS S.toSys e nt) hd (callee_enter (h2 hT))
            refine .of_R (d := d) ?_ g2
            unfold semY; rw [hop]; simp only [hcl]
            refine R.ask ?_
            rw [avF_env hv]
            refine of_semOp1 hC ho (by rw [hop]; intros; simp) ?_ g2
            unfold semOp1; rw [hop]; simp only [hcl, dstQ, ho]
            rw [if_pos hn']
            unfold callVQ
            have g0 : R d (data j) s (.one (.fn f)) s := by
              refine R.ask ?_
              rw [avF_env hv]
              exact R.ret
            exact R.bind g0 (show R d ((opds c.args.toList).bind fun ads => enterQ (ctxS S.toSys e nt) d f ads) s () _ from hads.bind g1)
          · cases h
        · rename_i lp hv
          split at h
          · rename_i q hq
            simp only [Option.some.injEq, Prod.mk.injEq] at h
            obtain ⟨rfl, rfl⟩ := h
            obtain ⟨h1, h2⟩ := hE.yld _ _ _ _ _ _ _ hq
            refine ⟨h1, fun hT => ?_⟩
            have e0 : (⟨s.t.set (some (.v (.one (.bool q.1.1)))) 30 d, q.1.2.1, q.1.2.2⟩ : St) = putF ⟨s.t, q.1.2.1, q.1.2.2⟩ d (.v (.one (.bool q.1.1))) := rfl
            rw [e0]
            refine .of_R (d := d) ?_ (by rw [putF_at hd]; rfl)
            unfold semY; rw [hop]; simp only [hcl]
            refine R.ask ?_
            rw [avF_env hv]
            simp only [dstQ, ho]
            rw [if_pos hn']
            unfold yldQ
            refine hads.bind (R.heap ?_)
            simp only
            exact R.bind (R.opt (h2 hT)) (R.putH (R.put hd R.ret))
          · cases h
        · cases h
      · cases h
    · cases h
  · cases h
section
variable {S : SysP} {e : Evs} {t : EvT} (hP : PbOk S) (hE : EvTOk e t)
include hP hE
theorem unT_ok {nt k : Nat} {o : Oper} {s s' : St} {T T' : TL} (h : unT S e t nt k o s T = some (s', T')) : T.Le T' ∧ (T'.Ok → StepY (ctxS S.toSys e nt) k o s s') := by
  have hC := ctxS_uni S.toSys e nt
  have fall : withT T (fallU (ctxS S.toSys e nt) k o s) = some (s', T') → T.Le T' ∧ (T'.Ok → StepY (ctxS S.toSys e nt) k o s s') := fun h => by
    obtain ⟨h1, rfl⟩ := withT_some h
    exact ⟨.refl _, fun _ => fallU_ok hC h1⟩
  unfold unT at h
  split at h
  · rename_i d ho
    obtain ⟨g1, h⟩ := br_some h
    obtain ⟨g2, h⟩ := br_some h
    have hn : d < nt := blt_lt g1
    split at h
    · rename_i c hop
      split at h
      · exact callT_ok hP hE ho hn g2 hop h
      · exact fall h
    · rename_i op t x y tr hop
      unfold orT at h
      split at h
      · rename_i z hz
        injection h with h
        subst h
        obtain ⟨v, hv, rfl⟩ := putT_some hz
        exact binT_ok hC ho hn g2 hop hv
      · exact fall h
    · rename_i t x hop
      unfold orT at h
      split at h
      · rename_i z hz
        injection h with h
        subst h
        obtain ⟨v, hv, rfl⟩ := putT_some hz
        exact loadT_ok hC ho hn g2 hop hv
      · exact fall h
    · rename_i t1 t2 x hop
      unfold orT at h
      split at h
      · rename_i z hz
        injection h with h
        subst h
        obtain ⟨v, hv, rfl⟩ := putT_some hz
        exact convT_ok hC ho hn g2 hop hv
      · exact fall h
    · exact fall h
  · exact fall h
theorem opT_ok {nt k : Nat} {ops : Array Oper} {o : Oper} {s s' : St} {T T' : TL} (h : opT S e t nt ops k o s T = some (s', T')) : T.Le T' ∧ (T'.Ok → StepQ (ctxS S.toSys e nt) ops k o s s') := by
  have hC := ctxS_uni S.toSys e nt
  have fall : withT T (run1 (ctxS S.toSys e nt) ops k o s) = some (s', T') → T.Le T' ∧ (T'.Ok → StepQ (ctxS S.toSys e nt) ops k o s s') := fun h => by
    obtain ⟨h1, rfl⟩ := withT_some h
    exact ⟨.refl _, fun _ => run1_step hC h1⟩
  unfold opT at h
  split at h
  · rename_i hg
    obtain ⟨h1, h2⟩ := unT_ok hP hE h
    exact ⟨h1, fun hT => (h2 hT).step hg⟩
  · rename_i j want hg
    split at h
    · rename_i i hi
      split at h
      · rename_i b hb
        cases hc : (Bool.rec (motive := fun _ => Bool) (not want) want b) with
        | true =>
          rw [hc] at h
          have e : b = want := by cases b <;> cases want <;> first | rfl | cases hc
          subst e
          obtain ⟨h1, h2⟩ := unT_ok hP hE (show unT S e t nt k o s T = some (s', T') from h)
          exact ⟨h1, fun hT => (h2 hT).grd hg hi hb⟩
        | false =>
          rw [hc] at h
          exact fall h
      · exact fall h
    · cases h
theorem runT_ok {nt : Nat} {ops : Array Oper} : ∀ {l : List Oper} {k : Nat} {s s' : St} {T T' : TL}, runT S e t nt ops k l s T = some (s', T') → T.Le T' ∧ (T'.Ok → runF (ctxS S.toSys e nt) ops k l s = some s')
  | [], k, s, s', T, T', h => by
    simp only [runT, Option.some.injEq, Prod.mk.injEq] at h
    obtain ⟨rfl, rfl⟩ := h
    exact ⟨.refl _, fun _ => rfl⟩
  | o :: l, k, s, s', T, T', h => by
    simp only [runT] at h
    split at h
    · rename_i z hz
      obtain ⟨h1, h2⟩ := opT_ok hP hE (s' := z.1) (T' := z.2) hz
      obtain ⟨k1, k2⟩ := runT_ok h
      refine ⟨h1.trans k1, fun hT => ?_⟩
      rw [runF_cons1 _ _ _ _ _ _ _ ((h2 (k1.ok hT)).run1 (ctxS_uni _ _ _))]
      exact k2 hT
    · cases h
end
end Go.Proofs.YtdapdiaklpcmjaaGreat.Pe
