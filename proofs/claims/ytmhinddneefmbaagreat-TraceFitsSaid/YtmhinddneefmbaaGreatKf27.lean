/- A part of the proof of JdH. -/
import Derived.Test.YtmhinddneefmbaaGreatKf26
set_option linter.unusedSimpArgs false
set_option linter.unusedVariables false
set_option linter.unusedSectionVars false
namespace Go.Proofs.YtmhinddneefmbaaGreat.Pe
open Go
abbrev PF := List AD → Hp → Nat → TL → Option ((RV × Hp × Nat) × TL)
structure SysP extends Sys where
  pb : Nat → Option PF
def PfOk (G : PF) (F : List AD → Hp → Nat → Option (RV × Hp × Nat)) : Prop := ∀ ads H nx T q T', G ads H nx T = some (q, T') → T.Le T' ∧ (T'.Ok → F ads H nx = some q)
structure PbOk (S : SysP) : Prop where
  pb : ∀ f G, S.pb f = some G → ∃ F, S.base f = .eff F ∧ PfOk G F
structure EvT where
  fn : Nat → List AD → Hp → Nat → TL → Option ((RV × Hp × Nat) × TL)
  yld : Nat → List AD → Hp → Nat → TL → Option ((Bool × Hp × Nat) × TL)
  code : Nat → Option Nat → Code → St → TL → Option ((Ex × St) × TL)
structure EvTOk (e : Evs) (t : EvT) : Prop where
  fn : ∀ f ads H nx T q T', t.fn f ads H nx T = some (q, T') → T.Le T' ∧ (T'.Ok → e.fn f ads H nx = some q)
  yld : ∀ lp ads H nx T q T', t.yld lp ads H nx T = some (q, T') → T.Le T' ∧ (T'.Ok → e.yld lp ads H nx = some q)
  code : ∀ nt r c s T z T', t.code nt r c s T = some (z, T') → T.Le T' ∧ (T'.Ok → e.code nt r c s = some z)
noncomputable def TL.res (T : TL) (f : Nat) : Option (RV × Hp × Nat) := match T.hd with
  | some (.res f' r H nx) => br (Nat.beq f' f) (some (r, H, nx)) none
  | _ => none
noncomputable def calleeT (S : SysP) (t : EvT) (f : Nat) (ads : List AD) (H : Hp) (nx : Nat) (T : TL) : Option ((RV × Hp × Nat) × TL) := match T.res f with
  | some q => match S.base f with
    | .eff F => some (q, T.tl.same [(encQ1 (F ads H nx), encQ1 (some q)), (encQ2 (F ads H nx), encQ2 (some q))])
    | _ => none
  | none => match S.pb f with
  | some G => G ads H nx T
  | none => match S.base f with
    | .none => if (S.tab f).isSome then t.fn f ads H nx T else none
    | .eff F => match F ads H nx with
      | some q => some (q, T)
      | none => none
    | _ => none
section
variable {S : SysP} {e : Evs} {t : EvT} (hP : PbOk S) (hE : EvTOk e t)
include hP hE
theorem calleeT_ok {f : Nat} {ads : List AD} {H : Hp} {nx : Nat} {T T' : TL} {q : RV × Hp × Nat} (h : calleeT S t f ads H nx T = some (q, T')) : T.Le T' ∧ (T'.Ok → callee S.toSys e f ads H nx = some q) := by
  unfold calleeT at h
  split at h
  · rename_i q0 _
    split at h
    · rename_i F hF
      simp only [Option.some.injEq, Prod.mk.injEq] at h
      obtain ⟨rfl, rfl⟩ := h
      refine ⟨(TL.tl_le T).trans (TL.same_le _ _), fun hT => ?_⟩
      have he := TL.same_ok hT
      unfold callee
      rw [hF]
      exact encQ_some (he _ List.mem_cons_self) (he _ (List.mem_cons_of_mem _ List.mem_cons_self))
    · cases h
  split at h
  · rename_i G hG
    obtain ⟨F, hF, hFG⟩ := hP.pb f G hG
    obtain ⟨h1, h2⟩ := hFG _ _ _ _ _ _ h
    refine ⟨h1, fun hT => ?_⟩
    unfold callee
    rw [hF]
    exact h2 hT
  · split at h
    · rename_i hb
      split at h
      · rename_i ht
        obtain ⟨h1, h2⟩ := hE.fn _ _ _ _ _ _ _ h
        refine ⟨h1, fun hT => ?_⟩
        unfold callee
        rw [hb]
        simp only
        rw [if_pos ht]
        exact h2 hT
      · cases h
    · rename_i F hb
      split at h
      · rename_i q' hq
        simp only [Option.some.injEq, Prod.mk.injEq] at h
        obtain ⟨rfl, rfl⟩ := h
        refine ⟨.refl _, fun _ => ?_⟩
        unfold callee
        rw [hb]
        exact hq
      · cases h
    · cases h
end
theorem callee_enter {S : SysP} {e : Evs} {nt f d : Nat} {ads : List AD} {s : St} {q : RV × Hp × Nat} (h : callee S.toSys e f ads s.H s.nx = some q) : enterF (ctxS S.toSys e nt) s d f ads = some (retF s d q) := by
  unfold callee at h
  unfold enterF
  show (match (match S.base f with | .none => if (S.tab f).isSome then FnS.eff (e.fn f) else .none | x => x) with | .eff F => _ | _ => _) = _
  cases hb : S.base f with
  | none =>
    rw [hb] at h
    simp only at h ⊢
    split at h
    · rename_i ht
      rw [if_pos ht]
      simp only [h]
    · cases h
  | eff F =>
    rw [hb] at h
    simp only at h ⊢
    rw [h]
  | _ => rw [hb] at h; cases h
noncomputable def isNilS : Operand → Bool
  | .const (.slice none 0 0) => true
  | _ => false
noncomputable def rdA (s : St) (x : Operand) : Option AD := br (isNilS x) (some (.one .nils)) (rdF s x)
theorem rdA_ok {s : St} {x : Operand} {a : AD} {d : Nat} (h : rdA s x = some a) : R d (opd x) s a s := by
  unfold rdA at h
  cases hn : isNilS x with
  | false => rw [hn] at h; exact rdF_ok h
  | true =>
    rw [hn] at h
    injection h with h; subst h
    unfold isNilS at hn
    split at hn
    · exact R.ret
    · cases hn
noncomputable def rdsA (s : St) : List Operand → Option (List AD)
  | [] => some []
  | x :: l => match rdA s x with
    | some a => match rdsA s l with
      | some r => some (a :: r)
      | none => none
    | none => none
theorem rdsA_ok {s : St} {d : Nat} : ∀ {l : List Operand} {bs : List AD}, rdsA s l = some bs → R d (opds l) s bs s
  | [], bs, h => by injection h with h; subst h; exact R.ret
  | x :: l, bs, h => by
    simp only [rdsA] at h
    split at h
    · rename_i a ha
      split at h
      · rename_i r hr
        injection h with h; subst h
        exact (rdA_ok ha).bind ((rdsA_ok hr).bind R.ret)
      · cases h
    · cases h
noncomputable def putT (s : St) (d : Nat) (x : Option (AV × TL)) : Option (St × TL) := match x with
  | some v => some (putF s d v.1, v.2)
  | none => none
noncomputable def booT (b : Bool) (T : TL) : Option (AV × TL) := match decT b T with
  | (x, T') => some (.v (.one (.bool x)), T')
noncomputable def binH (op : BinOp) (a b : AD) (T : TL) : Option (AV × TL) := match a, b with
  | .one (.int k a), .one (.int k' b) => br (decide (k = k')) (match op with
    | .sub => match a, b with
      | .ofNat a, .ofNat b => some (.v (.one (.int k (.ofNat (Nat.sub a b)))), T.tl.need [Nat.ble b a, Nat.blt a (limU k)])
      | _, _ => none
    | op => match intD op k a b with
      | some (.bool r) => booT r T
      | _ => none) none
  | _, _ => none
noncomputable def binT (C : Ctx) (op : BinOp) (t : Nat) (x y : Operand) (s : St) (T : TL) : Option (AV × TL) := match rdF s x with
  | some a => match rdF s y with
    | some b => match C.eqz t with
      | some k => match eqZ k a b with
        | some r => match op with
          | .eql => booT r T
          | .neq => booT (not r) T
          | _ => none
        | none => none
      | none => br ((C.tt t).k.isSl) none (match T.num with
        | true => binH op a b T
        | false => match a, b with
          | .one (.int k (.ofNat a)), .one (.int k' (.ofNat b)) => match binI op k k' a b with
            | .num k n cs => some (.v (.one (.int k (.ofNat n))), T.need cs)
            | .boo b => booT b T
            | .no => none
          | .one (.str a), .one (.str b) => match strD op a b with
            | some (.bool r) => booT r T
            | _ => none
          | _, _ => none)
    | none => none
  | none => none
noncomputable def loadT (C : Ctx) (t : Nat) (x : Operand) (s : St) (T : TL) : Option (AV × TL) := match loadO C t x s with
  | some (.v (.one (.bool b))) => booT b T
  | some v => some (v, T)
  | none => none
noncomputable def convN (k : IntKind) (n : Nat) : IR := match k with
  | .u64 => .num k n [Nat.blt n (limU k)]
  | k => wrapN k n []
noncomputable def convT (C : Ctx) (t1 t2 : Nat) (x : Operand) (s : St) (T : TL) : Option (AV × TL) := match rdF s x with
  | some (.one (.int k0 (.ofNat n))) => match (C.tt t1).k, (C.tt t2).k with
    | .int _, .int k => match convN k n with
      | .num k n cs => some (.v (.one (.int k (.ofNat n))), T.need cs)
      | _ => none
    | _, _ => none
  | _ => none
noncomputable def callT (S : SysP) (t : EvT) (d : Nat) (c : Call) (s : St) (T : TL) : Option (St × TL) := match c.callee with
  | .value f => match rdsA s c.args.toList with
    | some ads => match f with
      | .func f => match calleeT S t f ads s.H s.nx T with
        | some q => some (retF s d q.1, q.2)
        | none => none
      | .tmp i => match avF s i with
        | some (.v (.one (.clo f caps))) => match calleeT S t f (ads ++ caps.map .one) s.H s.nx T with
          | some q => some (retF s d q.1, q.2)
          | none => none
        | some (.v (.one (.fn f))) => match calleeT S t f ads s.H s.nx T with
          | some q => some (retF s d q.1, q.2)
          | none => none
        | some (.v (.one (.yl lp))) => match t.yld lp ads s.H s.nx T with
          | some q => some (⟨s.t.set (some (.v (.one (.bool q.1.1)))) 30 d, q.1.2.1, q.1.2.2⟩, q.2)
          | none => none
        | _ => none
      | _ => none
    | none => none
  | _ => none
noncomputable def withT (T : TL) (x : Option St) : Option (St × TL) := match x with
  | some s => some (s, T)
  | none => none
noncomputable def orT (x : Option (St × TL)) (y : Option (St × TL)) : Option (St × TL) := match x with
  | some z => some z
  | none => y
noncomputable def decV (x : Option (AV × TL)) : Option (AV × TL) := match x with
  | some (.v (.one (.bool b)), T) => booT b T
  | x => x
noncomputable def loadU (C : Ctx) (d t : Nat) (x : Operand) (s : St) (T : TL) : Option (AV × TL) := match T.row d with
  | some r => decV (loadH C t x r s T)
  | none => loadT C t x s T
noncomputable def unN (C : Ctx) (op : Op) (s : St) (T : TL) : Option (St × TL) := match op with
  | .store t x y => match T.row 0 with
    | some r => storeH C t x y r s T
    | none => none
  | .mapUpdate t x ix y => match T.fnd 0 with
    | some f => updH C t x ix y f s T
    | none => none
  | .insert t x ix y => match T.fnd 0 with
    | some f => updH C t x ix y f s T
    | none => none
  | _ => none
noncomputable def unT (S : SysP) (e : Evs) (t : EvT) (nt k : Nat) (o : Oper) (s : St) (T : TL) : Option (St × TL) := match o.dst with
  | some d => br (Nat.blt d nt) (br (Nat.blt d 1000000) (match o.op with
    | .call c => match c.callee with
      | .value _ => callT S t d c s T
      | .builtin .append => orT (appT (ctxS S.toSys e nt) d c s T) (withT T (fallU (ctxS S.toSys e nt) k o s))
      | _ => withT T (fallU (ctxS S.toSys e nt) k o s)
    | .indexAddr t x ix => orT (putT s d (idxT (ctxS S.toSys e nt) t x ix d s T)) (withT T (fallU (ctxS S.toSys e nt) k o s))
    | .slice t x lo hi none => match T.len d with
      | some m => putT s d (slcH (ctxS S.toSys e nt) t x lo hi m s T)
      | none => withT T (fallU (ctxS S.toSys e nt) k o s)
    | .makeSlice t l c => match T.len d with
      | some _ => mkT (ctxS S.toSys e nt) d t l c s T
      | none => withT T (fallU (ctxS S.toSys e nt) k o s)
    | .lookup t x ix ok => match T.fnd d with
      | some f => putT s d (lookH (ctxS S.toSys e nt) t x ix ok f s T)
      | none => withT T (fallU (ctxS S.toSys e nt) k o s)
    | .binOp op t x y _ => orT (putT s d (binT (ctxS S.toSys e nt) op t x y s T)) (withT T (fallU (ctxS S.toSys e nt) k o s))
    | .load t x => orT (putT s d (loadU (ctxS S.toSys e nt) d t x s T)) (withT T (fallU (ctxS S.toSys e nt) k o s))
    | .convert t1 t2 x => orT (putT s d (convT (ctxS S.toSys e nt) t1 t2 x s T)) (withT T (fallU (ctxS S.toSys e nt) k o s))
    | _ => withT T (fallU (ctxS S.toSys e nt) k o s)) none) none
  | none => orT (unN (ctxS S.toSys e nt) o.op s T) (withT T (fallU (ctxS S.toSys e nt) k o s))
noncomputable def opT (S : SysP) (e : Evs) (t : EvT) (nt : Nat) (ops : Array Oper) (k : Nat) (o : Oper) (s : St) (T : TL) : Option (St × TL) := match o.guard with
  | none => unT S e t nt k o s T
  | some (j, want) => match (ops[j]?).bind (·.dst) with
    | some i => match avF s i with
      | some (.v (.one (.bool b))) => br (Bool.rec (not want) want b) (unT S e t nt k o s T) (withT T (run1 (ctxS S.toSys e nt) ops k o s))
      | _ => withT T (run1 (ctxS S.toSys e nt) ops k o s)
    | none => none
noncomputable def runT (S : SysP) (e : Evs) (t : EvT) (nt : Nat) (ops : Array Oper) : Nat → List Oper → St → TL → Option (St × TL)
  | _, [], s, T => some (s, T)
  | k, o :: l, s, T => match opT S e t nt ops k o s T with
    | some z => runT S e t nt ops (k + 1) l z.1 z.2
    | none => none
theorem ctxS_uni (S : Sys) (e : Evs) (nt : Nat) : Uni (ctxS S e nt) := ⟨fun _ => rfl, rfl, fun _ => rfl, fun _ => rfl⟩
theorem booT_ok {b : Bool} {T T' : TL} {v : AV} (h : booT b T = some (v, T')) : T.Le T' ∧ (∃ x, v = .v (.one (.bool x))) ∧ (T'.Ok → v = .v (.one (.bool b))) := by
  unfold booT at h
  split at h
  rename_i x T1 hd
  simp only [Option.some.injEq, Prod.mk.injEq] at h
  obtain ⟨rfl, rfl⟩ := h
  refine ⟨decT_le hd, ⟨x, rfl⟩, fun hT => ?_⟩
  rw [decT_ok hd hT]
theorem putT_some {s s' : St} {d : Nat} {x : Option (AV × TL)} {T : TL} (h : putT s d x = some (s', T)) : ∃ v, x = some (v, T) ∧ s' = putF s d v := by
  unfold putT at h
  split at h
  · rename_i v
    simp only [Option.some.injEq, Prod.mk.injEq] at h
    obtain ⟨rfl, rfl⟩ := h
    exact ⟨v.1, rfl, rfl⟩
  · cases h
theorem withT_some {x : Option St} {s : St} {T T' : TL} (h : withT T x = some (s, T')) : x = some s ∧ T' = T := by
  unfold withT at h
  split at h
  · simp only [Option.some.injEq, Prod.mk.injEq] at h
    obtain ⟨rfl, rfl⟩ := h
    exact ⟨rfl, rfl⟩
  · cases h
theorem binH_ok {op : BinOp} {a b : AD} {T T' : TL} {v : AV} {Pr : AV → Prop} (h : binH op a b T = some (v, T')) (gen : ∀ (x y r : D), a = .one x → b = .one y → binD op x y = some r → Pr (.v (.one r))) : T.Le T' ∧ (T'.Ok → Pr v) := by
  have cmp : ∀ (k k' : IntKind) (x y : Int), a = .one (.int k x) → b = .one (.int k' y) → k = k' → (∀ r, intD op k x y = some (.bool r) → binD op (.int k x) (.int k' y) = some (.bool r)) → (match intD op k x y with | some (.bool r) => booT r T | _ => none) = some (v, T') → T.Le T' ∧ (T'.Ok → Pr v) := fun k k' x y e1 e2 ek hb h => by
    split at h
    · rename_i r hr
      obtain ⟨h1, _, h3⟩ := booT_ok h
      refine ⟨h1, fun hT => ?_⟩
      rw [h3 hT]
      exact gen _ _ _ e1 e2 (hb r hr)
    · cases h
  unfold binH at h
  split at h
  · rename_i k x k' y
    obtain ⟨h1, h2⟩ := br_some h
    have hkk := of_decide_eq_true h1
    subst hkk
    cases op
    case sub =>
      simp only at h2
      split at h2
      · rename_i m n
        simp only [Option.some.injEq, Prod.mk.injEq] at h2
        obtain ⟨rfl, rfl⟩ := h2
        refine ⟨(TL.tl_le T).trans (TL.need_le _ _), fun hT => gen _ _ _ rfl rfl ?_⟩
        have hc := TL.need_ok hT
        have g1 : n ≤ m := Nat.le_of_ble_eq_true (hc _ List.mem_cons_self)
        have g2 : m < limU k := blt_lt (hc _ (List.mem_cons_of_mem _ List.mem_cons_self))
        simp only [binD, if_true, intD]
        have e : (Int.ofNat m : Int) - Int.ofNat n = ((m - n : Nat) : Int) := by
          show (m : Int) - (n : Int) = _
          omega
        rw [e, wrap_i (by omega)]
        rfl
      · cases h2
    case shl =>
      simp only [intD] at h2
      cases h2
    case shr =>
      simp only [intD] at h2
      cases h2
    all_goals exact cmp _ _ _ _ rfl rfl rfl (fun r hr => by simp only [binD, if_true]; exact hr) h2
  · cases h
theorem convN_ok {k k2 : IntKind} {n m : Nat} {cs : List Bool} (h : convN k n = .num k2 m cs) (hc : ∀ c ∈ cs, c = true) : D.int k2 (.ofNat m) = .int k (k.wrap (n : Int)) := by
  unfold convN at h
  split at h
  · simp only [IR.num.injEq] at h
    obtain ⟨rfl, rfl, rfl⟩ := h
    rw [wrap_i (blt_lt (hc _ List.mem_cons_self))]; rfl
  · have := wrapN_ok (k := k) (n := n) (cs := []) (by rw [h]; exact hc)
    rw [h] at this
    injection this
section
variable {C : Ctx} (hC : Uni C) {i d : Nat} {o : Oper} {s s' : St} {T T' : TL} (ho : o.dst = some d) (hn : d < C.nt) (hd : Nat.blt d 1000000 = true)
include hC ho hn hd
theorem binT_ok {op : BinOp} {t tr : Nat} {x y : Operand} {v : AV} (hop : o.op = .binOp op t x y tr) (h : binT C op t x y s T = some (v, T')) : T.Le T' ∧ (T'.Ok → StepY C i o s (putF s d v)) := by
  unfold binT at h
  split at h
  · rename_i a ha
    split at h
    · rename_i b hb
      have fin : ∀ r : D, R d (semOp1 C i o) s () (putF s d (.v (.one r))) → StepY C i o s (putF s d (.v (.one r))) := fun r hr =>
        .of_R (d := d) (by rw [semY_of (by rw [hop]; simp)]; exact of_semOp1 hC ho (by rw [hop]; intros; simp) hr (by rw [putF_at hd]; rfl)) (by rw [putF_at hd]; rfl)
      have bin : ∀ r : D, binF C op t a b = some r → StepY C i o s (putF s d (.v (.one r))) := fun r hr => fin r (binF_ok hC ho hop hd hn ha hb hr)
      split at h
      · rename_i k hk
        split at h
        · rename_i r hr
          split at h
          · obtain ⟨h1, _, h3⟩ := booT_ok h
            refine ⟨h1, fun hT => ?_⟩
            rw [h3 hT]
            refine bin _ ?_
            unfold binF; rw [hk]; simp only [hr]
          · obtain ⟨h1, _, h3⟩ := booT_ok h
            refine ⟨h1, fun hT => ?_⟩
            rw [h3 hT]
            refine bin _ ?_
            unfold binF; rw [hk]; simp only [hr]
          · cases h
        · cases h
      · rename_i hk
        obtain ⟨h1, h2⟩ := br_some' h
        have gen : ∀ (x y r : D), a = .one x → b = .one y → binD op x y = some r → StepY C i o s (putF s d (.v (.one r))) := fun x y r e1 e2 hbd => by
          subst e1; subst e2
          refine fin r ?_
          unfold semOp1
          rw [hop]
          simp only
          rw [hk, hC.eqs, h1]
          simp only [Option.isSome_none, Bool.false_eq_true, if_false, Bool.false_and]
          unfold semOp0
          rw [hop]
          simp only [dstQ, ho, if_pos hn]
          exact (rdF_ok ha).bind ((rdF_ok hb).bind (R.bind (R.opt rfl) (R.bind (R.opt rfl) (R.bind (R.opt hbd) (R.put hd R.ret)))))
        split at h2
        · exact binH_ok (Pr := fun v => StepY C i o s (putF s d v)) h2 gen
        split at h2
        · rename_i k a k' b
          have num : ∀ r : D, (binI op k k' a b).D = some r → (∀ c ∈ (binI op k k' a b).cs, c = true) → StepY C i o s (putF s d (.v (.one r))) := fun r hr hc => by
            have hbd := binI_ok hr hc
            refine fin r ?_
            unfold semOp1
            rw [hop]
            simp only
            rw [hk, hC.eqs, h1]
            simp only [Option.isSome_none, Bool.false_eq_true, if_false, Bool.false_and]
            unfold semOp0
            rw [hop]
            simp only [dstQ, ho, if_pos hn]
            exact (rdF_ok ha).bind ((rdF_ok hb).bind (R.bind (R.opt rfl) (R.bind (R.opt rfl) (R.bind (R.opt hbd) (R.put hd R.ret)))))
          split at h2
          · rename_i k2 n cs hI
            simp only [Option.some.injEq, Prod.mk.injEq] at h2
            obtain ⟨rfl, rfl⟩ := h2
            refine ⟨TL.need_le _ _, fun hT => num _ (by rw [hI]; rfl) (by rw [hI]; exact TL.need_ok hT)⟩
          · rename_i b' hI
            obtain ⟨h1, _, h3⟩ := booT_ok h2
            refine ⟨h1, fun hT => ?_⟩
            rw [h3 hT]
            exact num _ (by rw [hI]; rfl) (by rw [hI]; exact fun _ h => (by cases h))
          · cases h2
        · split at h2
          · rename_i r hr
            obtain ⟨h1, _, h3⟩ := booT_ok h2
            refine ⟨h1, fun hT => ?_⟩
            rw [h3 hT]
            exact gen _ _ _ rfl rfl hr
          · cases h2
        · cases h2
    · cases h
  · cases h
theorem loadT_ok {t : Nat} {x : Operand} {v : AV} (hop : o.op = .load t x) (h : loadT C t x s T = some (v, T')) : T.Le T' ∧ (T'.Ok → StepY C i o s (putF s d v)) := by
  have key : ∀ v, loadO C t x s = some v → StepY C i o s (putF s d v) := fun v hv => by
    have := fastD_ok (i := i) hC ho hn hd (s' := putF s d v) (by rw [hop]; show putO s d (loadO C t x s) = _; rw [hv]; rfl)
    exact .of_R this.1 this.2
  unfold loadT at h
  split at h
  · rename_i b hb
    obtain ⟨h1, _, h3⟩ := booT_ok h
    refine ⟨h1, fun hT => ?_⟩
    rw [h3 hT]
    exact key _ hb
  · rename_i v' _ hv
    simp only [Option.some.injEq, Prod.mk.injEq] at h
    obtain ⟨rfl, rfl⟩ := h
    exact ⟨.refl _, fun _ => key _ hv⟩
  · cases h
theorem convT_ok {t1 t2 : Nat} {x : Operand} {v : AV} (hop : o.op = .convert t1 t2 x) (h : convT C t1 t2 x s T = some (v, T')) : T.Le T' ∧ (T'.Ok → StepY C i o s (putF s d v)) := by
  unfold convT at h
  split at h
  · rename_i k0 n hx
    split at h
    · rename_i k1 k h1 h2
      split at h
      · rename_i k2 m cs hI
        simp only [Option.some.injEq, Prod.mk.injEq] at h
        obtain ⟨rfl, rfl⟩ := h
        refine ⟨TL.need_le _ _, fun hT => ?_⟩
        rw [convN_ok hI (TL.need_ok hT)]
        refine .of_R (d := d) ?_ (by rw [putF_at hd]; rfl)
        rw [semY_of (by rw [hop]; simp)]
        refine op_put hC ho hn hd (by rw [hop]; intros; simp) rfl ?_
        unfold semOp1; rw [hop]
        simp only [h1, h2, TK.isStr, Bool.false_eq_true, if_false]
        unfold semOp0; rw [hop]
        simp only [dstQ, ho, if_pos hn]
        refine (rdF_ok hx).bind (R.bind (R.opt (a := (k0, (n : Int))) rfl) ?_)
        rw [h1, h2]
        exact R.put hd R.ret
      · cases h
    · cases h
  · cases h
end
theorem callT_ok {S : SysP} {e : Evs} {t : EvT} (hP : PbOk S) (hE : EvTOk e t) {nt i d : Nat} {o : Oper} {c : Call} {s s' : St} {T T' : TL} (ho : o.dst = some d) (hn : d < nt) (hd : Nat.blt d 1000000 = true) (hop : o.op = .call c)
    (h : callT S t d c s T = some (s', T')) : T.Le T' ∧ (T'.Ok → StepY (ctxS S.toSys e nt) i o s s') := by
  have hC := ctxS_uni S.toSys e nt
  have hn' : d < (ctxS S.toSys e nt).nt := hn
  unfold callT at h
  split at h
  · rename_i f hcl
    split at h
    · rename_i ads hads0
      have hads : R d (opds c.args.toList) s ads s := rdsA_ok hads0
      split at h
      · rename_i f
        split at h
        · rename_i q hq
          simp only [Option.some.injEq, Prod.mk.injEq] at h
          obtain ⟨rfl, rfl⟩ := h
          obtain ⟨h1, h2⟩ := calleeT_ok hP hE hq
          refine ⟨h1, fun hT => ?_⟩
          obtain ⟨g1, g2, F, hF⟩ := enterF_ok (C := ctxS S.toSys e nt) hd (callee_enter (h2 hT))
          refine .of_R (d := d) ?_ g2
          rw [semY_call hop (by rw [hcl]; intro t e; cases e)]
          refine of_semOp1 hC ho (by rw [hop]; intros; simp) ?_ g2
          unfold semOp1; rw [hop]; simp only [hcl]
          unfold semOp0; rw [hop]; simp only [hcl, dstQ, ho, if_pos hn', callQ]
          refine hads.bind ?_
          simp only [hF]
          exact g1
        · cases h
      · rename_i j
        split at h
        · rename_i f caps hv
          split at h
          · rename_i q hq
            simp only [Option.some.injEq, Prod.mk.injEq] at h
            obtain ⟨rfl, rfl⟩ := h
            obtain ⟨h1, h2⟩ := calleeT_ok hP hE hq
            refine ⟨h1, fun hT => ?_⟩
            obtain ⟨g1, g2, F, hF⟩ := enterF_ok (C := ctxS S.toSys e nt) hd (callee_enter (h2 hT))
            refine .of_R (d := d) ?_ g2
            unfold semY; rw [hop]; simp only [hcl]
            refine R.ask ?_
            rw [avF_env hv]
            refine of_semOp1 hC ho (by rw [hop]; intros; simp) ?_ g2
            unfold semOp1; rw [hop]; simp only [hcl, dstQ, ho]
            rw [if_pos hn']
            unfold callVQ
            have g0 : R d (data j) s (.one (.clo f caps)) s := by
              refine R.ask ?_
              rw [avF_env hv]
              exact R.ret
            exact R.bind g0 (show R d ((opds c.args.toList).bind fun ads => enterQ (ctxS S.toSys e nt) d f (ads ++ caps.map .one)) s () _ from hads.bind g1)
          · cases h
        · rename_i f hv
          split at h
          · rename_i q hq
            simp only [Option.some.injEq, Prod.mk.injEq] at h
            obtain ⟨rfl, rfl⟩ := h
            obtain ⟨h1, h2⟩ := calleeT_ok hP hE hq
            refine ⟨h1, fun hT => ?_⟩
            obtain ⟨g1, g2, F, hF⟩ := enterF_ok (C := ctxS S.toSys e nt) hd (callee_enter (h2 hT))
            refine .of_R (d := d) ?_ g2
            unfold semY; rw [hop]; simp only [hcl]
            refine R.ask ?_
            rw [avF_env hv]
            refine of_semOp1 hC ho (by rw [hop]; intros; simp) ?_ g2
            unfold semOp1; rw [hop]; simp only [hcl, dstQ, ho]
            rw [if_pos hn']
            unfold callVQ
            have g0 : R d (data j) s (.one (.fn f)) s := by
              refine R.ask ?_
              rw [avF_env hv]
              exact R.ret
            exact R.bind g0 (show R d ((opds c.args.toList).bind fun ads => enterQ (ctxS S.toSys e nt) d f ads) s () _ from hads.bind g1)
          · cases h
        · rename_i lp hv
          split at h
          · rename_i q hq
            simp only [Option.some.injEq, Prod.mk.injEq] at h
            obtain ⟨rfl, rfl⟩ := h
            obtain ⟨h1, h2⟩ := hE.yld _ _ _ _ _ _ _ hq
            refine ⟨h1, fun hT => ?_⟩
            have e0 : (⟨s.t.set (some (.v (.one (.bool q.1.1)))) 30 d, q.1.2.1, q.1.2.2⟩ : St) = putF ⟨s.t, q.1.2.1, q.1.2.2⟩ d (.v (.one (.bool q.1.1))) := rfl
            rw [e0]
            refine .of_R (d := d) ?_ (by rw [putF_at hd]; rfl)
            unfold semY; rw [hop]; simp only [hcl]
            refine R.ask ?_
            rw [avF_env hv]
            simp only [dstQ, ho]
            rw [if_pos hn']
            unfold yldQ
            refine hads.bind (R.heap ?_)
            simp only
            exact R.bind (R.opt (h2 hT)) (R.putH (R.put hd R.ret))
          · cases h
        · cases h
      · cases h
    · cases h
  · cases h
section
variable {S : SysP} {e : Evs} {t : EvT} (hP : PbOk S) (hE : EvTOk e t)
include hP hE
theorem unT_ok {nt k : Nat} {o : Oper} {s s' : St} {T T' : TL} (h : unT S e t nt k o s T = some (s', T')) : T.Le T' ∧ (T'.Ok → StepY (ctxS S.toSys e nt) k o s s') := by
  have hC := ctxS_uni S.toSys e nt
  have fall : withT T (fallU (ctxS S.toSys e nt) k o s) = some (s', T') → T.Le T' ∧ (T'.Ok → StepY (ctxS S.toSys e nt) k o s s') := fun h => by
    obtain ⟨h1, rfl⟩ := withT_some h
    exact ⟨.refl _, fun _ => fallU_ok hC h1⟩
  have orF : ∀ x, orT x (withT T (fallU (ctxS S.toSys e nt) k o s)) = some (s', T') → (x = some (s', T') → T.Le T' ∧ (T'.Ok → StepY (ctxS S.toSys e nt) k o s s')) → T.Le T' ∧ (T'.Ok → StepY (ctxS S.toSys e nt) k o s s') := fun x h hx => by
    unfold orT at h
    split at h
    · rename_i z
      injection h with h
      subst h
      exact hx rfl
    · exact fall h
  unfold unT at h
  split at h
  · rename_i d ho
    obtain ⟨g1, h⟩ := br_some h
    obtain ⟨g2, h⟩ := br_some h
    have hn : d < nt := blt_lt g1
    split at h
    · rename_i c hop
      split at h
      · exact callT_ok hP hE ho hn g2 hop h
      · rename_i hcl
        exact orF _ h fun h => appT_ok hC ho hn g2 hop hcl h
      · exact fall h
    · rename_i t x ix hop
      refine orF _ h fun h => ?_
      obtain ⟨v, hv, rfl⟩ := putT_some h
      exact idxT_ok hC ho hn g2 hop hv
    · rename_i t x lo hi hop
      split at h
      · obtain ⟨v, hv, rfl⟩ := putT_some h
        exact slcH_ok hC ho hn g2 hop hv
      · exact fall h
    · rename_i t l c hop
      split at h
      · exact mkT_ok hC ho hn g2 hop h
      · exact fall h
    · rename_i t x ix ok hop
      split at h
      · obtain ⟨v, hv, rfl⟩ := putT_some h
        exact lookH_ok hC ho hn g2 hop hv
      · exact fall h
    · rename_i op t x y tr hop
      refine orF _ h fun h => ?_
      obtain ⟨v, hv, rfl⟩ := putT_some h
      exact binT_ok hC ho hn g2 hop hv
    · rename_i t x hop
      refine orF _ h fun h => ?_
      obtain ⟨v, hv, rfl⟩ := putT_some h
      unfold loadU at hv
      split at hv
      · unfold decV at hv
        split at hv
        · rename_i b T1 hl
          obtain ⟨h1, h2⟩ := loadH_ok (i := k) hC ho hn g2 hop hl
          obtain ⟨k1, _, k3⟩ := booT_ok hv
          exact ⟨h1.trans k1, fun hT => by rw [k3 hT]; exact h2 (k1.ok hT)⟩
        · exact loadH_ok hC ho hn g2 hop hv
      · exact loadT_ok hC ho hn g2 hop hv
    · rename_i t1 t2 x hop
      refine orF _ h fun h => ?_
      obtain ⟨v, hv, rfl⟩ := putT_some h
      exact convT_ok hC ho hn g2 hop hv
    · exact fall h
  · rename_i ho
    refine orF _ h fun h => ?_
    unfold unN at h
    split at h
    · rename_i t x y hop
      split at h
      · exact storeH_ok hC ho hop h
      · cases h
    · rename_i t x ix y hop
      split at h
      · exact updH_ok ho (.inl hop) h
      · cases h
    · rename_i t x ix y hop
      split at h
      · exact updH_ok ho (.inr hop) h
      · cases h
    · cases h
theorem opT_ok {nt k : Nat} {ops : Array Oper} {o : Oper} {s s' : St} {T T' : TL} (h : opT S e t nt ops k o s T = some (s', T')) : T.Le T' ∧ (T'.Ok → StepQ (ctxS S.toSys e nt) ops k o s s') := by
  have hC := ctxS_uni S.toSys e nt
  have fall : withT T (run1 (ctxS S.toSys e nt) ops k o s) = some (s', T') → T.Le T' ∧ (T'.Ok → StepQ (ctxS S.toSys e nt) ops k o s s') := fun h => by
    obtain ⟨h1, rfl⟩ := withT_some h
    exact ⟨.refl _, fun _ => run1_step hC h1⟩
  unfold opT at h
  split at h
  · rename_i hg
    obtain ⟨h1, h2⟩ := unT_ok hP hE h
    exact ⟨h1, fun hT => (h2 hT).step hg⟩
  · rename_i j want hg
    split at h
    · rename_i i hi
      split at h
      · rename_i b hb
        cases hc : (Bool.rec (motive := fun _ => Bool) (not want) want b) with
        | true =>
          rw [hc] at h
          have e : b = want := by cases b <;> cases want <;> first | rfl | cases hc
          subst e
          obtain ⟨h1, h2⟩ := unT_ok hP hE (show unT S e t nt k o s T = some (s', T') from h)
          exact ⟨h1, fun hT => (h2 hT).grd hg hi hb⟩
        | false =>
          rw [hc] at h
          exact fall h
      · exact fall h
    · cases h
theorem runT_ok {nt : Nat} {ops : Array Oper} : ∀ {l : List Oper} {k : Nat} {s s' : St} {T T' : TL}, runT S e t nt ops k l s T = some (s', T') → T.Le T' ∧ (T'.Ok → runF (ctxS S.toSys e nt) ops k l s = some s')
  | [], k, s, s', T, T', h => by
    simp only [runT, Option.some.injEq, Prod.mk.injEq] at h
    obtain ⟨rfl, rfl⟩ := h
    exact ⟨.refl _, fun _ => rfl⟩
  | o :: l, k, s, s', T, T', h => by
    simp only [runT] at h
    split at h
    · rename_i z hz
      obtain ⟨h1, h2⟩ := opT_ok hP hE (s' := z.1) (T' := z.2) hz
      obtain ⟨k1, k2⟩ := runT_ok h
      refine ⟨h1.trans k1, fun hT => ?_⟩
      rw [runF_cons1 _ _ _ _ _ _ _ ((h2 (k1.ok hT)).run1 (ctxS_uni _ _ _))]
      exact k2 hT
    · cases h
end
end Go.Proofs.YtmhinddneefmbaaGreat.Pe
