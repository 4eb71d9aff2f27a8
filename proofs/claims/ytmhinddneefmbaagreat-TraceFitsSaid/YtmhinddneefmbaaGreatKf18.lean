/- A part of the proof of JdH. -/
import Derived.Test.YtmhinddneefmbaaGreatKf16
set_option linter.unusedSimpArgs false
set_option linter.unusedVariables false
set_option linter.unusedSectionVars false
namespace Go.Proofs.YtmhinddneefmbaaGreat.Pe
open Go
noncomputable def br {α : Type} (b : Bool) (x y : α) : α := Bool.rec (motive := fun _ => α) y x b
theorem br_some {α : Type} {b : Bool} {x : Option α} {a : α} (h : br b x none = some a) : b = true ∧ x = some a := by
  cases b
  · cases h
  · exact ⟨rfl, h⟩
theorem br_some' {α : Type} {b : Bool} {x : Option α} {a : α} (h : br b none x = some a) : b = false ∧ x = some a := by
  cases b
  · exact ⟨rfl, h⟩
  · cases h
theorem Q.runS_bind {α γ : Type} (q : Q α) (f : α → Q γ) : ∀ (s : St) (r u : List Nat), (q.bind f).runS s r u = (q.runS s r u).bind fun x => (f x.1).runS x.2.1 x.2.2.1 x.2.2.2 := by
  induction q with
  | ret a => intro s r u; rfl
  | fail => intro s r u; rfl
  | ask i k ih => intro s r u; exact ih _ _ _ _
  | set i v k ih =>
    intro s r u
    show (Q.set i v (k.bind f)).runS s r u = _
    rw [Q.runS_set, Q.runS_set]
    cases s.set i v with
    | none => rfl
    | some s' => exact ih _ _ _
theorem Q.runS_any {α : Type} {q : Q α} : ∀ {s s' : St} {a : α} {r0 u0 r u : List Nat}, q.runS s r0 u0 = some (a, s', r, u) → ∀ r1, ∀ u1, ∃ r' u', q.runS s r1 u1 = some (a, s', r', u') ∧ (u0 = u1 → u' = u) := by
  induction q with
  | ret b => intro s s' a r0 u0 r u h r1 u1; simp only [Q.runS_ret, Option.some.injEq, Prod.mk.injEq] at h; obtain ⟨rfl, rfl, rfl, rfl⟩ := h; exact ⟨r1, u1, rfl, fun e => e.symm⟩
  | fail => intro s s' a r0 u0 r u h; cases h
  | ask i k ih => intro s s' a r0 u0 r u h r1 u1; exact ih _ h (i :: r1) u1
  | set i v k ih =>
    intro s s' a r0 u0 r u h r1 u1
    rw [Q.runS_set] at h
    rw [Q.runS_set]
    cases hs : s.set i v with
    | none => rw [hs] at h; cases h
    | some s2 =>
      rw [hs] at h
      obtain ⟨r', u', h1, h2⟩ := ih h r1 (i :: u1)
      exact ⟨r', u', h1, fun e => h2 (by rw [e])⟩
def R {α : Type} (d : Nat) (q : Q α) (s : St) (a : α) (s' : St) : Prop := ∀ r u, ∃ r' u', q.runS s r u = some (a, s', r', u') ∧ ∀ i ∈ u', i ∈ u ∨ i = gs ∨ i = d
theorem R.ret {α : Type} {d : Nat} {a : α} {s : St} : R d (.ret a) s a s := fun r u => ⟨r, u, rfl, fun i h => .inl h⟩
theorem R.bind {α γ : Type} {d : Nat} {q : Q α} {f : α → Q γ} {s s1 s2 : St} {a : α} {b : γ} (h : R d q s a s1) (k : R d (f a) s1 b s2) : R d (q.bind f) s b s2 := fun r u => by
  obtain ⟨r1, u1, h1, h2⟩ := h r u
  obtain ⟨r2, u2, k1, k2⟩ := k r1 u1
  refine ⟨r2, u2, by rw [Q.runS_bind, h1]; exact k1, fun i hi => ?_⟩
  rcases k2 i hi with h' | h'
  · exact h2 i h'
  · exact .inr h'
theorem R.ask {α : Type} {d t : Nat} {k : AV → Q α} {s s' : St} {a : α} (h : R d (k (s.env t)) s a s') : R d (.ask t k) s a s' := fun r u => h (t :: r) u
theorem R.heap {α : Type} {d : Nat} {k : AV → Q α} {s s' : St} {a : α} (h : R d (k (.heap s.H s.nx)) s a s') : R d (.ask gs k) s a s' := fun r u => h (gs :: r) u
theorem R.opt {α : Type} {d : Nat} {x : Option α} {s : St} {a : α} (h : x = some a) : R d (ofOpt x) s a s := by subst h; exact R.ret
noncomputable def putF (s : St) (d : Nat) (v : AV) : St := ⟨s.t.set (some v) 30 d, s.H, s.nx⟩
theorem R.put {α : Type} {d : Nat} {v : AV} {k : Q α} {s s' : St} {a : α} (hd : Nat.blt d 1000000 = true) (h : R d k (putF s d v) a s') : R d (.set d v k) s a s' := fun r u => by
  obtain ⟨r', u', h1, h2⟩ := h r (d :: u)
  have hlt : d < 1000000 := Nat.le_of_ble_eq_true hd
  have hs : s.set d v = some (putF s d v) := by
    unfold St.set
    rw [beq_gs_ne (by unfold gs; omega), hd]
    rfl
  refine ⟨r', u', by rw [Q.runS_set, hs]; exact h1, fun i hi => ?_⟩
  rcases h2 i hi with h' | h'
  · rcases List.mem_cons.1 h' with rfl | h'
    · exact .inr (.inr rfl)
    · exact .inl h'
  · exact .inr h'
theorem R.putH {α : Type} {d : Nat} {H : Hp} {nx : Nat} {k : Q α} {s s' : St} {a : α} (h : R d k ⟨s.t, H, nx⟩ a s') : R d (.set gs (.heap H nx) k) s a s' := fun r u => by
  obtain ⟨r', u', h1, h2⟩ := h r (gs :: u)
  have hs : s.set gs (.heap H nx) = some ⟨s.t, H, nx⟩ := rfl
  refine ⟨r', u', by rw [Q.runS_set, hs]; exact h1, fun i hi => ?_⟩
  rcases h2 i hi with h' | h'
  · rcases List.mem_cons.1 h' with rfl | h'
    · exact .inr (.inl rfl)
    · exact .inl h'
  · exact .inr h'
noncomputable def avF (s : St) (t : Nat) : Option AV := br (Nat.blt t 1000000) (s.t.get t) none
theorem avF_env {s : St} {t : Nat} {v : AV} (h : avF s t = some v) : s.env t = v := by
  obtain ⟨h1, h2⟩ := br_some h
  have hlt : t < 1000000 := Nat.le_of_ble_eq_true h1
  rw [St.env_ne _ (by unfold gs; omega), h2]
  rfl
noncomputable def rdF (s : St) (x : Operand) : Option AD := match x with
  | .tmp t => match avF s t with
    | some (.v a) => some a
    | _ => none
  | .const v => match v with
    | .int k n => some (.one (.int k n))
    | .bool b => some (.one (.bool b))
    | .string b => some (.one (.str b))
    | .pointer none => some (.one .nilp)
    | .nilFunc => some (.one .nilf)
    | _ => none
  | .func f => some (.one (.fn f))
  | _ => none
theorem rdF_ok {s : St} {x : Operand} {a : AD} {d : Nat} (h : rdF s x = some a) : R d (opd x) s a s := by
  unfold rdF at h
  split at h
  · rename_i t
    split at h
    · rename_i b hb
      injection h with h; subst h
      refine R.ask ?_
      rw [avF_env hb]
      exact R.ret
    · cases h
  · split at h <;> first | (injection h with h; subst h; exact R.ret) | cases h
  · injection h with h; subst h; exact R.ret
  · cases h
noncomputable def rdsF (s : St) : List Operand → Option (List AD)
  | [] => some []
  | x :: l => match rdF s x with
    | some a => match rdsF s l with
      | some r => some (a :: r)
      | none => none
    | none => none
theorem rdsF_ok {s : St} {d : Nat} : ∀ {l : List Operand} {as : List AD}, rdsF s l = some as → R d (opds l) s as s
  | [], as, h => by injection h with h; subst h; exact R.ret
  | x :: l, as, h => by
    simp only [rdsF] at h
    split at h
    · rename_i a ha
      split at h
      · rename_i r hr
        injection h with h; subst h
        exact (rdF_ok ha).bind ((rdsF_ok hr).bind R.ret)
      · cases h
    · cases h
noncomputable def ptrF (s : St) (x : Operand) : Option (Nat × Nat × Nat × Nat) := match x with
  | .tmp t => match avF s t with
    | some (.v (.one (.ptr o sz i off))) => some (o, sz, i, off)
    | _ => none
  | _ => none
theorem ptrF_ok {s : St} {x : Operand} {o sz i off : Nat} {d : Nat} (h : ptrF s x = some (o, sz, i, off)) : R d (addr x) s (.obj o sz i off) s := by
  unfold ptrF at h
  split at h
  · split at h
    · rename_i hb
      simp only [Option.some.injEq, Prod.mk.injEq] at h
      obtain ⟨rfl, rfl, rfl, rfl⟩ := h
      refine R.ask ?_
      rw [avF_env hb]
      exact R.ret
    · cases h
  · cases h
noncomputable def tailQ (C : Ctx) (o : Oper) : Q Unit := match o.dst with
  | some d => if C.pub d = true ∧ d < C.nt then (pubQ d).bind fun _ => if C.uni = true then uniQ d else .ret () else .ret ()
  | none => .ret ()
structure Uni (C : Ctx) : Prop where
  pub : ∀ d, C.pub d = true
  uni : C.uni = true
  eqs : ∀ t, C.eqs t = false
  pst : ∀ t, C.pst t = false
theorem putF_at {s : St} {d : Nat} {v : AV} (hd : Nat.blt d 1000000 = true) : (putF s d v).env d = v := by
  have hlt : d < 1000000 := Nat.le_of_ble_eq_true hd
  rw [St.env_ne _ (by unfold gs; omega)]
  show ((s.t.set (some v) 30 d).get d).getD .junk = v
  rw [Tr.get_set _ _ _ _ (by omega), if_pos rfl]
  rfl
theorem tail_plain {C : Ctx} (hC : Uni C) {o : Oper} {d : Nat} (ho : o.dst = some d) {s : St} (hv : (s.env d).plain = true) : R d (tailQ C o) s () s := by
  unfold tailQ
  rw [ho]
  simp only
  split
  · refine R.bind (a := ()) (s1 := s) (R.ask ?_) ?_
    · cases hE : s.env d <;> rw [hE] at hv <;> first | exact R.ret | cases hv
    · rw [if_pos hC.uni]
      refine R.ask ?_
      cases hE : s.env d <;> rw [hE] at hv <;> first | exact R.ret | cases hv
  · exact R.ret
theorem of_semOp1 {C : Ctx} (hC : Uni C) {i : Nat} {o : Oper} {d : Nat} (ho : o.dst = some d) {s s' : St} (hpre : ∀ t x y, o.op ≠ .store t x y) (h : R d (semOp1 C i o) s () s') (hv : (s'.env d).plain = true) : R d (semOp C i o) s () s' := by
  unfold semOp
  have hp : preQ C o.op = .ret () := by
    unfold preQ
    split
    · rename_i h1; exact absurd h1 (hpre _ _ _)
    · rfl
  rw [hp]
  exact R.bind R.ret (R.bind h (tail_plain hC ho hv))
theorem semY_of {C : Ctx} {i : Nat} {o : Oper} (h : ∀ c, o.op ≠ .call c) : semY C i o = semOp C i o := by
  unfold semY
  split
  · rename_i c hc; exact absurd hc (h c)
  · rfl
theorem semY_call {C : Ctx} {i : Nat} {o : Oper} {c : Call} (hc : o.op = .call c) (h : ∀ t, c.callee ≠ .value (.tmp t)) : semY C i o = semOp C i o := by
  unfold semY
  rw [hc]
  cases hcl : c.callee with
  | value f => cases f with
    | tmp t => exact absurd hcl (h t)
    | _ => simp only [hcl]
  | _ => simp only [hcl]
noncomputable def valF (s : St) (x : Operand) : Option AV := match x with
  | .tmp t => match avF s t with
    | some (.v a) => some (.v a)
    | some (.tup l) => some (.tup l)
    | _ => none
  | .func f => some (.v (.one (.fn f)))
  | .const v => match v with
    | .int k n => some (.v (.one (.int k n)))
    | .bool b => some (.v (.one (.bool b)))
    | .string b => some (.v (.one (.str b)))
    | .pointer none => some (.v (.one .nilp))
    | .nilFunc => some (.v (.one .nilf))
    | _ => none
  | _ => none
theorem valF_ok {C : Ctx} {s : St} {x : Operand} {v : AV} {d gen ty : Nat} {asg : Bool} (hd : Nat.blt d 1000000 = true) (h : valF s x = some v) : R d (mv C gen d ty asg x) s () (putF s d v) ∧ v.plain = true := by
  unfold valF at h
  split at h
  · split at h <;> try cases h
    all_goals
      rename_i hb
      refine ⟨R.ask ?_, rfl⟩
      rw [avF_env hb]
      exact R.put hd R.ret
  · injection h with h; subst h; exact ⟨R.put hd R.ret, rfl⟩
  · split at h <;> first | (injection h with h; subst h; exact ⟨R.put hd R.ret, rfl⟩) | cases h
  · cases h
noncomputable def limK : IntKind → Nat
  | .u64 => 18446744073709551616
  | .i64 => 9223372036854775808
  | .u8 => 256
  | _ => 0
theorem limK_wrap {k : IntKind} {n : Nat} (h : Nat.blt n (limK k) = true) : k.wrap (n : Int) = n := by
  have h' : n < limK k := Nat.le_of_ble_eq_true h
  cases k <;> simp only [limK] at h' <;> try omega
  all_goals simp only [IntKind.wrap, IntKind.bits, IntKind.signed, Bool.false_and, Bool.true_and, Bool.false_eq_true, if_false, Nat.reduceSub]
  · have h1 : (n : Int) % 2 ^ 64 = n := by omega
    refine (if_neg fun h2 => ?_).trans h1
    have h3 : (n : Int) % 2 ^ 64 ≥ 2 ^ 63 := of_decide_eq_true h2
    omega
  · omega
  · omega
noncomputable def inK (k : IntKind) (n : Nat) : Option D := br (Nat.blt n (limK k)) (some (.int k (.ofNat n))) none
theorem inK_ok {k : IntKind} {n : Nat} {r : D} (h : inK k n = some r) : r = .int k (k.wrap (n : Int)) := by
  obtain ⟨h1, h2⟩ := br_some h
  injection h2 with h2
  rw [limK_wrap h1, ← h2]
  rfl
noncomputable def natOp (op : BinOp) (k : IntKind) (a b : Nat) : Option D := match op with
  | .add => inK k (Nat.add a b)
  | .sub => br (Nat.ble b a) (inK k (Nat.sub a b)) none
  | .mul => inK k (Nat.mul a b)
  | .quo => br (Nat.beq b 0) none (inK k (Nat.div a b))
  | .rem => br (Nat.beq b 0) none (some (.int k (.ofNat (Nat.mod a b))))
  | .eql => some (.bool (Nat.beq a b))
  | .neq => some (.bool (not (Nat.beq a b)))
  | .lss => some (.bool (Nat.blt a b))
  | .leq => some (.bool (Nat.ble a b))
  | .gtr => some (.bool (Nat.blt b a))
  | .geq => some (.bool (Nat.ble b a))
  | _ => none
theorem beq_int (a b : Nat) : Nat.beq a b = ((a : Int) == (b : Int)) := by
  cases h : Nat.beq a b with
  | true => have := Nat.eq_of_beq_eq_true h; subst this; simp
  | false => have := Nat.ne_of_beq_eq_false h; symm; simp only [beq_eq_false_iff_ne, ne_eq]; omega
theorem blt_int (a b : Nat) : Nat.blt a b = decide ((a : Int) < (b : Int)) := by
  cases h : Nat.blt a b with
  | true => have : a < b := Nat.le_of_ble_eq_true h; symm; rw [decide_eq_true_eq]; omega
  | false => have : ¬ a < b := fun hh => by have := Nat.ble_eq_true_of_le hh; unfold Nat.blt at h; rw [this] at h; cases h
             symm; rw [decide_eq_false_iff_not]; omega
theorem ble_int (a b : Nat) : Nat.ble a b = decide ((a : Int) ≤ (b : Int)) := by
  cases h : Nat.ble a b with
  | true => have : a ≤ b := Nat.le_of_ble_eq_true h; symm; rw [decide_eq_true_eq]; omega
  | false => have : ¬ a ≤ b := fun hh => by have := Nat.ble_eq_true_of_le hh; rw [this] at h; cases h
             symm; rw [decide_eq_false_iff_not]; omega
theorem natOp_ok {op : BinOp} {k : IntKind} {a b : Nat} {r : D} (h : natOp op k a b = some r) : binD op (.int k (.ofNat a)) (.int k (.ofNat b)) = some r := by
  unfold natOp at h
  have e1 : ∀ n : Nat, Int.ofNat n = (n : Int) := fun _ => rfl
  cases op <;> simp only at h <;> try cases h; done
  all_goals simp only [binD, if_true, intD, e1]
  · have := inK_ok h; rw [this]; rfl
  · obtain ⟨h1, h2⟩ := br_some h
    have h1' : b ≤ a := Nat.le_of_ble_eq_true h1
    have := inK_ok h2; rw [this]
    have : ((Nat.sub a b : Nat) : Int) = (a : Int) - b := Int.ofNat_sub h1'
    rw [this]
  · have := inK_ok h; rw [this]; rfl
  · obtain ⟨h1, h2⟩ := br_some' h
    have h1' := Nat.ne_of_beq_eq_false h1
    rw [if_neg (by omega)]
    have := inK_ok h2; rw [this]
    rfl
  · obtain ⟨h1, h2⟩ := br_some' h
    have h1' := Nat.ne_of_beq_eq_false h1
    rw [if_neg (by omega)]
    injection h2 with h2
    rw [← h2]
    rfl
  · injection h with h; rw [← h, beq_int]
  · injection h with h; rw [← h, beq_int]; rfl
  · injection h with h; rw [← h, blt_int]
  · injection h with h; rw [← h, ble_int]
  · injection h with h; rw [← h, blt_int]
  · injection h with h; rw [← h, ble_int]
noncomputable def binF (C : Ctx) (op : BinOp) (t : Nat) (x y : AD) : Option D := match C.eqz t with
  | some k => match eqZ k x y with
    | some r => match op with
      | .eql => some (.bool r)
      | .neq => some (.bool (not r))
      | _ => none
    | none => none
  | none => br ((C.tt t).k.isSl) none (match x, y with
    | .one (.int k (.ofNat a)), .one (.int k' (.ofNat b)) => match op with
      | .shr => some (.int k (.ofNat (Nat.div a (Nat.pow 2 (Nat.min b k.bits)))))
      | op => match decide (k = k') with
        | true => natOp op k a b
        | false => none
    | _, _ => none)
theorem shr_nat (k k' : IntKind) (a b : Nat) : binD .shr (.int k (.ofNat a)) (.int k' (.ofNat b)) = some (.int k (.ofNat (Nat.div a (Nat.pow 2 (Nat.min b k.bits))))) := by
  show shD .shr k (a : Int) (b : Int) = _
  unfold shD
  simp only
  rw [if_neg (by omega)]
  have e : ((a : Int)).fdiv (2 ^ (min ((b : Int)).toNat k.bits)) = ((a / 2 ^ (min b k.bits) : Nat) : Int) := by
    rw [Int.ofNat_fdiv]
    simp
  rw [e]
  rfl
theorem binF_ok {C : Ctx} (hC : Uni C) {i : Nat} {o : Oper} {op : BinOp} {t tr d : Nat} {x y : Operand} {a b : AD} {r : D} {s : St} (ho : o.dst = some d) (hop : o.op = .binOp op t x y tr) (hd : Nat.blt d 1000000 = true) (hn : d < C.nt)
    (hx : rdF s x = some a) (hy : rdF s y = some b) (h : binF C op t a b = some r) : R d (semOp1 C i o) s () (putF s d (.v (.one r))) := by
  unfold semOp1
  rw [hop]
  simp only
  unfold binF at h
  split at h
  · rename_i k hk
    rw [hk]
    simp only [Option.isSome_some, if_true, dstQ, ho, if_pos hn, eqZQ]
    split at h
    · rename_i r' hr'
      refine (rdF_ok hx).bind ((rdF_ok hy).bind (R.bind (R.opt (a := r') (by simpa using hr')) ?_))
      split at h <;> first | (injection h with h; subst h; exact R.put hd R.ret) | cases h
    · cases h
  · rename_i hk
    obtain ⟨h1, h2⟩ := br_some' h
    rw [hk, hC.eqs, h1]
    simp only [Option.isSome_none, Bool.false_eq_true, if_false, Bool.false_and]
    unfold semOp0
    rw [hop]
    simp only [dstQ, ho, if_pos hn]
    split at h2
    · rename_i k a k' b
      split at h2
      · injection h2 with h2; subst h2
        refine (rdF_ok hx).bind ((rdF_ok hy).bind (R.bind (R.opt rfl) (R.bind (R.opt rfl) (R.bind (R.opt (shr_nat k k' a b)) (R.put hd R.ret)))))
      split at h2
      · rename_i hkk
        have hkk := of_decide_eq_true hkk
        subst hkk
        refine (rdF_ok hx).bind ((rdF_ok hy).bind (R.bind (R.opt rfl) (R.bind (R.opt rfl) (R.bind (R.opt (natOp_ok h2)) ?_))))
        exact R.put hd R.ret
      · cases h2
    · cases h2
noncomputable def readF (s : St) (p : Nat × Nat × Nat × Nat) (n : Nat) : Option (List D) := match s.H p.1 with
  | some ob => br (Nat.beq ob.esz p.2.1) (match ob.row p.2.2.1 with
    | some r => sub r p.2.2.2 n
    | none => none) none
  | none => none
theorem readF_ok {s : St} {o sz i off n d : Nat} {cs : List D} (h : readF s (o, sz, i, off) n = some cs) : R d (rdPl n (.obj o sz i off)) s cs s := by
  unfold readF at h
  split at h
  · rename_i ob hob
    obtain ⟨h1, h2⟩ := br_some h
    have h1 := Nat.eq_of_beq_eq_true h1
    split at h2
    · rename_i r hr
      refine R.heap ?_
      simp only
      refine R.bind (R.opt hob) ?_
      rw [if_pos h1]
      exact R.bind (R.opt hr) (R.opt h2)
    · cases h2
  · cases h
noncomputable def writeF (s : St) (p : Nat × Nat × Nat × Nat) (vs : List D) : Option St := match s.H p.1 with
  | some ob => br (Nat.beq ob.esz p.2.1) (match ob.row p.2.2.1 with
    | some r => br (Nat.ble (p.2.2.2 + vs.length) r.length) (match ob.put p.2.2.1 (splice r p.2.2.2 vs) with
      | some ob' => some ⟨s.t, updO s.H p.1 (some ob'), s.nx⟩
      | none => none) none
    | none => none) none
  | none => none
theorem writeF_ok {s s' : St} {o sz i off d : Nat} {vs : List D} (h : writeF s (o, sz, i, off) vs = some s') : R d (wrPl vs (.obj o sz i off)) s () s' := by
  unfold writeF at h
  split at h
  · rename_i ob hob
    obtain ⟨h1, h2⟩ := br_some h
    have h1 := Nat.eq_of_beq_eq_true h1
    split at h2
    · rename_i r hr
      obtain ⟨h3, h4⟩ := br_some h2
      have h3 := Nat.le_of_ble_eq_true h3
      split at h4
      · rename_i ob' hput
        injection h4 with h4
        refine R.heap ?_
        simp only
        refine R.bind (R.opt hob) ?_
        rw [if_pos h1]
        refine R.bind (R.opt hr) ?_
        rw [if_pos h3]
        refine R.bind (R.opt hput) (R.putH ?_)
        rw [← h4]
        exact R.ret
      · cases h4
    · cases h2
  · cases h
noncomputable def retF (s : St) (d : Nat) (r : RV × Hp × Nat) : St := ⟨s.t.set (some (match r.1 with | .a a => .v a | .tup l => .tup l)) 30 d, r.2.1, r.2.2⟩
theorem setRV_ok {s : St} {d : Nat} {r : RV × Hp × Nat} (hd : Nat.blt d 1000000 = true) : R d (setRV d r.1) ⟨s.t, r.2.1, r.2.2⟩ () (retF s d r) := by
  obtain ⟨r, H, nx⟩ := r
  cases r with
  | a a => exact R.put hd R.ret
  | tup l => exact R.put hd R.ret
theorem retF_plain {s : St} {d : Nat} {r : RV × Hp × Nat} (hd : Nat.blt d 1000000 = true) : ((retF s d r).env d).plain = true := by
  obtain ⟨r, H, nx⟩ := r
  cases r with
  | a a => rw [show retF s d (.a a, H, nx) = putF ⟨s.t, H, nx⟩ d (.v a) from rfl, putF_at hd]; rfl
  | tup l => rw [show retF s d (.tup l, H, nx) = putF ⟨s.t, H, nx⟩ d (.tup l) from rfl, putF_at hd]; rfl
noncomputable def enterF (C : Ctx) (s : St) (d f : Nat) (ads : List AD) : Option St := match C.fns f with
  | .eff F => match F ads s.H s.nx with
    | some r => some (retF s d r)
    | none => none
  | _ => none
theorem enterF_ok {C : Ctx} {s s' : St} {d f : Nat} {ads : List AD} (hd : Nat.blt d 1000000 = true) (h : enterF C s d f ads = some s') : R d (enterQ C d f ads) s () s' ∧ (s'.env d).plain = true ∧ ∃ F, C.fns f = .eff F := by
  unfold enterF at h
  split at h
  · rename_i F hF
    split at h
    · rename_i r hr
      injection h with h; subst h
      refine ⟨?_, retF_plain hd, F, hF⟩
      unfold enterQ
      rw [hF]
      refine R.heap ?_
      simp only
      exact R.bind (R.opt hr) (R.putH (setRV_ok hd))
    · cases h
  · cases h
noncomputable def putO (s : St) (d : Nat) (x : Option AV) : Option St := match x with
  | some v => some (putF s d v)
  | none => none
theorem putO_some {s s' : St} {d : Nat} {x : Option AV} (h : putO s d x = some s') : ∃ v, x = some v ∧ s' = putF s d v := by
  unfold putO at h
  split at h
  · injection h with h; exact ⟨_, rfl, h.symm⟩
  · cases h
noncomputable def binO (C : Ctx) (op : BinOp) (t : Nat) (x y : Operand) (s : St) : Option AV := match rdF s x with
  | some a => match rdF s y with
    | some b => match binF C op t a b with
      | some r => some (.v (.one r))
      | none => none
    | none => none
  | none => none
noncomputable def oneD (cs : List D) : Option AV := match cs with
  | [c] => some (.v (.one c))
  | _ => none
noncomputable def loadO (C : Ctx) (t : Nat) (x : Operand) (s : St) : Option AV := match ptrF s x with
  | some p => match readF s p (C.tt t).size with
    | some cs => br (C.tt t).k.agg (some (.v (.many cs))) (oneD cs)
    | none => none
  | none => none
noncomputable def fieldO (C : Ctx) (t : Nat) (x : Operand) (f : Nat) (s : St) : Option AV := match (C.tt t).k with
  | .st fs => match fs[f]? with
    | some q => br (Nat.blt 0 q.2) (match ptrF s x with
      | some p => some (.v (.one (.ptr p.1 p.2.1 p.2.2.1 (p.2.2.2 + q.1))))
      | none => none) none
    | none => none
  | _ => none
noncomputable def nilO (x : Operand) (s : St) : Option AV := match ptrF s x with
  | some p => some (.v (.one (.ptr p.1 p.2.1 p.2.2.1 p.2.2.2)))
  | none => none
noncomputable def extrO (x : Operand) (ix : Nat) (s : St) : Option AV := match x with
  | .tmp t => match avF s t with
    | some (.tup l) => match l[ix]? with
      | some a => some (.v a)
      | none => none
    | _ => none
  | _ => none
noncomputable def pickO (c x y : Operand) (s : St) : Option AV := match rdF s c with
  | some (.one (.bool b)) => match rdF s (br b x y) with
    | some a => some (.v a)
    | none => none
  | _ => none
noncomputable def notO (op : UnOp) (x : Operand) (s : St) : Option AV := match op with
  | .not => match rdF s x with
    | some (.one (.bool b)) => some (.v (.one (.bool (not b))))
    | _ => none
  | _ => none
noncomputable def convO (C : Ctx) (t1 t2 : Nat) (x : Operand) (s : St) : Option AV := match rdF s x with
  | some (.one (.int k0 n)) => match (C.tt t1).k, (C.tt t2).k with
    | .int _, .int k => match k0, k with
      | .u8, _ => some (.v (.one (.int k (k.wrap n))))
      | _, .u8 => some (.v (.one (.int k (k.wrap n))))
      | _, _ => match n with
        | .ofNat n => match inK k n with
          | some r => some (.v (.one r))
          | none => none
        | _ => none
    | _, _ => none
  | _ => none
noncomputable def newO (z : List D) (d : Nat) (s : St) : Option St := match z with
  | [] => none
  | z => some ⟨s.t.set (some (.v (.one (.ptr s.nx z.length 0 0)))) 30 d, updO s.H s.nx (some ⟨none, z.length, [z]⟩), s.nx + 1⟩
noncomputable def boxO (x : Operand) (d : Nat) (s : St) : Option St := match rdF s x with
  | some a => newO a.cells d s
  | none => none
noncomputable def lenO (C : Ctx) (c : Call) (s : St) : Option AV := match c.args.toList, c.argTypes.toList with
  | [x], [t] => match (C.tt t).k with
    | .sl _ _ _ _ => match rdF s x with
      | some (.one (.sl rows)) => some (.v (.one (.int .i64 rows.length)))
      | some (.one (.ref _ _ _ n)) => some (.v (.one (.int .i64 n)))
      | some (.one (.refc _ _ _ n _)) => some (.v (.one (.int .i64 n)))
      | some (.one .nils) => some (.v (.one (.int .i64 0)))
      | _ => none
    | _ => none
  | _, _ => none
noncomputable def callO (C : Ctx) (d : Nat) (c : Call) (s : St) : Option St := match c.callee with
  | .value f => match rdsF s c.args.toList with
    | some ads => match f with
      | .func f => enterF C s d f ads
      | .tmp t => match avF s t with
        | some (.v (.one (.clo f caps))) => enterF C s d f (ads ++ caps.map .one)
        | some (.v (.one (.yl lp))) => match C.yld lp ads s.H s.nx with
          | some r => some ⟨s.t.set (some (.v (.one (.bool r.1)))) 30 d, r.2.1, r.2.2⟩
          | none => none
        | _ => none
      | _ => none
    | none => none
  | .builtin .len => putO s d (lenO C c s)
  | _ => none
noncomputable def fastD (C : Ctx) (d : Nat) (op : Op) (s : St) : Option St := match op with
  | .move x => putO s d (valF s x)
  | .assign x => putO s d (valF s x)
  | .binOp op t x y _ => putO s d (binO C op t x y s)
  | .call c => callO C d c s
  | .load t x => putO s d (loadO C t x s)
  | .fieldAddr t x f => putO s d (fieldO C t x f s)
  | .nilCheck x => putO s d (nilO x s)
  | .extract x ix => putO s d (extrO x ix s)
  | .pick c x y => putO s d (pickO c x y s)
  | .unOp op _ x => putO s d (notO op x s)
  | .convert a b x => putO s d (convO C a b x s)
  | .alloc t => newO (C.tt t).zero d s
  | .box _ x => boxO x d s
  | _ => none
noncomputable def fastR (C : Ctx) (d : Nat) (op : Op) (s : St) : Option St := Op.rec (motive := fun _ => Option St) (fun x => putO s d (valF s x)) (fun x => putO s d (valF s x)) (fun c x y => putO s d (pickO c x y s)) (fun t => newO (C.tt t).zero d s) (fun _ x => boxO x d s) (fun _ _ => none) (fun _ _ _ => none) (fun _ _ _ _ => none) (fun t x => putO s d (loadO C t x s)) (fun _ _ _ => none) (fun _ => none) (fun _ => none) (fun x => putO s d (nilO x s)) (fun op t x y _ => putO s d (binO C op t x y s)) (fun op _ x => putO s d (notO op x s)) (fun a b x => putO s d (convO C a b x s)) (fun _ _ => none) (fun _ _ => none) (fun _ _ _ => none) (fun _ _ => none) (fun _ _ => none) (fun _ _ _ => none) (fun _ _ _ _ _ => none) (fun t x f => putO s d (fieldO C t x f s)) (fun _ _ _ => none) (fun _ _ _ => none) (fun _ _ _ => none) (fun _ _ _ _ => none) (fun _ _ _ _ => none) (fun _ _ _ => none) (fun _ _ _ _ => none) (fun _ _ => none) (fun _ _ => none) (fun _ => none) (fun _ _ _ _ => none) (fun x ix => putO s d (extrO x ix s)) (fun c => callO C d c s) (fun _ => none) (fun _ => none) (fun _ => none) (fun _ _ => none) (fun _ _ _ => none) (fun _ _ => none) op
theorem fastR_eq (C : Ctx) (d : Nat) (op : Op) (s : St) : fastR C d op s = fastD C d op s := by cases op <;> rfl
noncomputable def fastN (C : Ctx) (op : Op) (s : St) : Option St := match op with
  | .store t x y => match rdF s y with
    | some a => match ptrF s x with
      | some p => br (and (Nat.beq a.cells.length (C.tt t).size) (Nat.blt 0 (C.tt t).size)) (writeF s p a.cells) none
      | none => none
    | none => none
  | _ => none
noncomputable def fastU (C : Ctx) (o : Oper) (s : St) : Option St :=
  Option.rec (motive := fun _ => Option St) (fastN C o.op s) (fun d => br (Nat.blt d C.nt) (br (Nat.blt d 1000000) (fastR C d o.op s) none) none) o.dst
noncomputable def fastG (C : Ctx) (ops : Array Oper) (o : Oper) (s : St) : Option St := match o.guard with
  | none => fastU C o s
  | some (j, want) => match (ops[j]?).bind (·.dst) with
    | some t => match avF s t with
      | some (.v (.one (.bool b))) => br (Bool.rec (not want) want b) (fastU C o s) (match o.dst with
        | some d => br (and (Nat.blt d C.nt) (Nat.blt d 1000000)) (some (putF s d (.tup []))) none
        | none => some s)
      | _ => none
    | none => none
noncomputable def fastO (C : Ctx) (ops : Array Oper) (o : Oper) (s : St) : Option St := Option.rec (motive := fun _ => Option St) (fastU C o s) (fun _ => fastG C ops o s) o.guard
theorem fastO_eq (C : Ctx) (ops : Array Oper) (o : Oper) (s : St) : fastO C ops o s = fastG C ops o s := by
  unfold fastO fastG
  cases o.guard <;> rfl
theorem putO_R {C : Ctx} {s s' : St} {d i : Nat} {o : Oper} {x : Option AV} (h : putO s d x = some s') (k : ∀ v, x = some v → R d (semOp C i o) s () (putF s d v)) : R d (semOp C i o) s () s' := by
  obtain ⟨v, h1, h2⟩ := putO_some h
  subst h2
  exact k v h1
section
variable {C : Ctx} (hC : Uni C) {i d : Nat} {o : Oper} {s s' : St} (ho : o.dst = some d) (hn : d < C.nt) (hd : Nat.blt d 1000000 = true)
include hC ho hn hd
theorem op_put {v : AV} (hpre : ∀ t x y, o.op ≠ .store t x y) (hv : v.plain = true) (h : R d (semOp1 C i o) s () (putF s d v)) : R d (semOp C i o) s () (putF s d v) :=
  of_semOp1 hC ho hpre h (by rw [putF_at hd]; exact hv)
theorem binO_ok {op : BinOp} {t tr : Nat} {x y : Operand} {v : AV} (hop : o.op = .binOp op t x y tr) (h : binO C op t x y s = some v) : R d (semOp C i o) s () (putF s d v) := by
  unfold binO at h
  split at h
  · rename_i a ha
    split at h
    · rename_i b hb
      split at h
      · rename_i r hr
        injection h with h; subst h
        exact op_put hC ho hn hd (by rw [hop]; intros; simp) rfl (binF_ok hC ho hop hd hn ha hb hr)
      · cases h
    · cases h
  · cases h
theorem move_ok {x : Operand} {v : AV} (hop : o.op = .move x ∨ o.op = .assign x) (h : valF s x = some v) : R d (semOp C i o) s () (putF s d v) := by
  rcases hop with hop | hop
  · obtain ⟨h1, h2⟩ := valF_ok (C := C) (gen := i + 1) (ty := o.type) (asg := false) hd h
    refine op_put hC ho hn hd (by rw [hop]; intros; simp) h2 ?_
    unfold semOp1; rw [hop]; simp only [semOp0, hop, dstQ, ho, if_pos hn]
    exact h1
  · obtain ⟨h1, h2⟩ := valF_ok (C := C) (gen := i + 1) (ty := o.type) (asg := true) hd h
    refine op_put hC ho hn hd (by rw [hop]; intros; simp) h2 ?_
    unfold semOp1; rw [hop]; simp only [semOp0, hop, dstQ, ho, if_pos hn]
    exact h1
theorem loadO_ok {t : Nat} {x : Operand} {v : AV} (hop : o.op = .load t x) (h : loadO C t x s = some v) : R d (semOp C i o) s () (putF s d v) := by
  unfold loadO at h
  split at h
  · rename_i p hp
    obtain ⟨p1, p2, p3, p4⟩ := p
    split at h
    · rename_i cs hcs
      have key : v.plain = true ∧ R d (semOp1 C i o) s () (putF s d v) := by
        have hrd : R d (loadQ C d t x) s () (putF s d v) ∧ v.plain = true := by
          unfold loadQ
          cases hag : (C.tt t).k.agg with
          | true =>
            rw [hag] at h
            injection (show some (AV.v (.many cs)) = some v from h) with h
            subst h
            refine ⟨(ptrF_ok hp).bind ((readF_ok hcs).bind ?_), rfl⟩
            rw [if_pos rfl]
            exact R.put hd R.ret
          | false =>
            rw [hag] at h
            have h : oneD cs = some v := h
            unfold oneD at h
            split at h
            · injection h with h
              subst h
              refine ⟨(ptrF_ok hp).bind ((readF_ok hcs).bind ?_), rfl⟩
              rw [if_neg (by simp)]
              exact R.put hd R.ret
            · cases h
        refine ⟨hrd.2, ?_⟩
        unfold semOp1; rw [hop]; simp only [semOp0, hop, dstQ, ho, if_pos hn]
        exact hrd.1
      exact op_put hC ho hn hd (by rw [hop]; intros; simp) key.1 key.2
    · cases h
  · cases h
theorem fieldO_ok {t f : Nat} {x : Operand} {v : AV} (hop : o.op = .fieldAddr t x f) (h : fieldO C t x f s = some v) : R d (semOp C i o) s () (putF s d v) := by
  unfold fieldO at h
  split at h
  · rename_i fs hk
    split at h
    · rename_i q hq
      obtain ⟨h1, h2⟩ := br_some h
      have h1 : 0 < q.2 := Nat.le_of_ble_eq_true h1
      split at h2
      · rename_i p hp
        injection h2 with h2; subst h2
        refine op_put hC ho hn hd (by rw [hop]; intros; simp) rfl ?_
        unfold semOp1; rw [hop]; simp only [semOp0, hop, dstQ, ho, if_pos hn, fieldAddrQ, hk, hq]
        rw [if_pos h1]
        exact (ptrF_ok hp).bind (R.put hd R.ret)
      · cases h2
    · cases h
  · cases h
theorem nilO_ok {x : Operand} {v : AV} (hop : o.op = .nilCheck x) (h : nilO x s = some v) : R d (semOp C i o) s () (putF s d v) := by
  unfold nilO at h
  split at h
  · rename_i p hp
    injection h with h; subst h
    refine op_put hC ho hn hd (by rw [hop]; intros; simp) rfl ?_
    unfold semOp1; rw [hop]; simp only [semOp0, hop, dstQ, ho, if_pos hn]
    exact (ptrF_ok hp).bind (R.put hd R.ret)
  · cases h
theorem extrO_ok {x : Operand} {ix : Nat} {v : AV} (hop : o.op = .extract x ix) (h : extrO x ix s = some v) : R d (semOp C i o) s () (putF s d v) := by
  unfold extrO at h
  split at h
  · split at h
    · rename_i l hl
      split at h
      · rename_i a ha
        injection h with h; subst h
        refine op_put hC ho hn hd (by rw [hop]; intros; simp) rfl ?_
        unfold semOp1; rw [hop]; simp only [semOp0, hop, dstQ, ho, if_pos hn, extractQ]
        refine R.ask ?_
        rw [avF_env hl]
        exact R.bind (R.opt ha) (R.put hd R.ret)
      · cases h
    · cases h
  · cases h
theorem pickO_ok {c x y : Operand} {v : AV} (hop : o.op = .pick c x y) (h : pickO c x y s = some v) : R d (semOp C i o) s () (putF s d v) := by
  unfold pickO at h
  split at h
  · rename_i b hb
    split at h
    · rename_i a ha
      injection h with h; subst h
      refine op_put hC ho hn hd (by rw [hop]; intros; simp) rfl ?_
      unfold semOp1; rw [hop]; simp only [semOp0, hop, dstQ, ho, if_pos hn]
      refine (rdF_ok hb).bind (R.bind (R.opt (a := b) rfl) ?_)
      have e : (if b = true then x else y) = br b x y := by cases b <;> rfl
      rw [e]
      exact (rdF_ok ha).bind (R.put hd R.ret)
    · cases h
  · cases h
theorem notO_ok {op : UnOp} {t : Nat} {x : Operand} {v : AV} (hop : o.op = .unOp op t x) (h : notO op x s = some v) : R d (semOp C i o) s () (putF s d v) := by
  unfold notO at h
  split at h
  · split at h
    · rename_i b hb
      injection h with h; subst h
      refine op_put hC ho hn hd (by rw [hop]; intros; simp) rfl ?_
      unfold semOp1; rw [hop]; simp only [semOp0, hop, dstQ, ho, if_pos hn]
      exact (rdF_ok hb).bind (R.bind (R.opt rfl) (R.bind (R.opt rfl) (R.put hd R.ret)))
    · cases h
  · cases h
theorem convO_some {t1 t2 : Nat} {x : Operand} {v : AV} (h : convO C t1 t2 x s = some v) : ∃ k0 n k1 k, rdF s x = some (.one (.int k0 n)) ∧ (C.tt t1).k = .int k1 ∧ (C.tt t2).k = .int k ∧ v = .v (.one (.int k (k.wrap n))) := by
  unfold convO at h
  split at h
  · rename_i k0 n hx
    split at h
    · rename_i k1 k2 h1 h2
      split at h
      · injection h with h; exact ⟨_, n, k1, _, hx, h1, h2, h.symm⟩
      · injection h with h; exact ⟨_, n, k1, _, hx, h1, h2, h.symm⟩
      · split at h
        · split at h
          · rename_i r hr
            injection h with h; subst h
            have hr := inK_ok hr
            subst hr
            exact ⟨_, _, k1, k2, hx, h1, h2, rfl⟩
          · cases h
        · cases h
    · cases h
  · cases h
theorem convO_ok {t1 t2 : Nat} {x : Operand} {v : AV} (hop : o.op = .convert t1 t2 x) (h : convO C t1 t2 x s = some v) : R d (semOp C i o) s () (putF s d v) := by
  obtain ⟨k0, n, k1, k, hx, h1, h2, rfl⟩ := convO_some hC ho hn hd h
  refine op_put hC ho hn hd (by rw [hop]; intros; simp) rfl ?_
  unfold semOp1; rw [hop]
  simp only [h1, h2, TK.isStr, Bool.false_eq_true, if_false]
  unfold semOp0; rw [hop]
  simp only [dstQ, ho, if_pos hn]
  refine (rdF_ok hx).bind (R.bind (R.opt (a := (k0, n)) rfl) ?_)
  rw [h1, h2]
  exact R.put hd R.ret
theorem pub_new {zs : List D} (hz : zs ≠ []) (hpre : ∀ t x y, o.op ≠ .store t x y) (h : R d (semOp1 C i o) s () (putF s d (.box (i + 1) zs))) (hs' : s' = ⟨s.t.set (some (.v (.one (.ptr s.nx zs.length 0 0)))) 30 d, updO s.H s.nx (some ⟨none, zs.length, [zs]⟩), s.nx + 1⟩) : R d (semOp C i o) s () s' := by
  have hp : preQ C o.op = .ret () := by
    unfold preQ
    split
    · rename_i h1; exact absurd h1 (hpre _ _ _)
    · rfl
  unfold semOp
  rw [hp]
  refine R.bind R.ret (R.bind h ?_)
  rw [ho]
  simp only
  rw [if_pos ⟨hC.pub d, hn⟩]
  have e : (⟨(putF s d (.box (i + 1) zs)).t.set (some (.v (.one (.ptr s.nx zs.length 0 0)))) 30 d, updO s.H s.nx (some ⟨none, zs.length, [zs]⟩), s.nx + 1⟩ : St) = s' := by
    subst hs'
    show (⟨(s.t.set _ 30 d).set _ 30 d, _, _⟩ : St) = _
    rw [Tr.set_set _ _ _ _ _ (by have : d < 1000000 := Nat.le_of_ble_eq_true hd; omega)]
  refine R.bind (a := ()) (s1 := s') (R.ask ?_) ?_
  · rw [putF_at hd]
    refine R.heap ?_
    simp only
    refine R.putH (R.put hd ?_)
    have e2 : putF ⟨(putF s d (.box (i + 1) zs)).t, updO s.H s.nx (some ⟨none, zs.length, [zs]⟩), s.nx + 1⟩ d (.v (.one (.ptr s.nx zs.length 0 0))) = s' := e
    show R d (.ret ()) (putF ⟨(putF s d (.box (i + 1) zs)).t, updO s.H s.nx (some ⟨none, zs.length, [zs]⟩), s.nx + 1⟩ d (.v (.one (.ptr s.nx zs.length 0 0)))) () s'
    rw [e2]
    exact R.ret
  · rw [if_pos hC.uni]
    refine R.ask ?_
    have : s'.env d = .v (.one (.ptr s.nx zs.length 0 0)) := by
      subst hs'
      show (putF ⟨s.t, updO s.H s.nx (some ⟨none, zs.length, [zs]⟩), s.nx + 1⟩ d (.v (.one (.ptr s.nx zs.length 0 0)))).env d = _
      exact putF_at hd
    rw [this]
    exact R.ret
theorem newO_some {z : List D} (h : newO z d s = some s') : z ≠ [] ∧ s' = ⟨s.t.set (some (.v (.one (.ptr s.nx z.length 0 0)))) 30 d, updO s.H s.nx (some ⟨none, z.length, [z]⟩), s.nx + 1⟩ := by
  unfold newO at h
  split at h
  · cases h
  · rename_i hz
    injection h with h
    exact ⟨fun e => hz e, h.symm⟩
theorem alloc_ok {t : Nat} (hop : o.op = .alloc t) (h : newO (C.tt t).zero d s = some s') : R d (semOp C i o) s () s' := by
  obtain ⟨h1, h2⟩ := newO_some hC ho hn hd h
  refine pub_new hC ho hn hd h1 (by rw [hop]; intros; simp) ?_ h2
  unfold semOp1; rw [hop]; simp only [semOp0, hop, dstQ, ho, if_pos hn, if_neg h1]
  exact R.put hd R.ret
theorem box_ok {t : Nat} {x : Operand} {a : AD} (hop : o.op = .box t x) (hx : rdF s x = some a) (h : newO a.cells d s = some s') : R d (semOp C i o) s () s' := by
  obtain ⟨h1, h2⟩ := newO_some hC ho hn hd h
  refine pub_new hC ho hn hd h1 (by rw [hop]; intros; simp) ?_ h2
  unfold semOp1; rw [hop]; simp only [semOp0, hop, dstQ, ho, if_pos hn]
  refine (rdF_ok hx).bind ?_
  rw [if_neg h1]
  exact R.put hd R.ret
theorem lenO_ok {c : Call} {v : AV} (hop : o.op = .call c) (hcl : c.callee = .builtin .len) (h : lenO C c s = some v) : R d (semOp C i o) s () (putF s d v) := by
  unfold lenO at h
  split at h
  · rename_i x t hx ht
    split at h
    · rename_i e1 e2 e3 e4 hk
      refine op_put hC ho hn hd (by rw [hop]; intros; simp) ?_ ?_
      · split at h <;> first | (injection h with h; subst h; rfl) | cases h
      · unfold semOp1; rw [hop]
        simp only [hcl, dstQ, ho, if_pos hn, hx, ht, hk]
        unfold semOp0; rw [hop]
        simp only [hcl, dstQ, ho, if_pos hn, hx, ht, hk]
        have key : ∀ (a : AD) (m : Nat), rdF s x = some a → (a = .one .nils → m = 0) → (∀ rows, a = .one (.sl rows) → m = rows.length) → (∀ o sz i n, a = .one (.ref o sz i n) → m = n) → (∀ o sz i n c, a = .one (.refc o sz i n c) → m = n) →
            (a = .one .nils ∨ (∃ rows, a = .one (.sl rows)) ∨ (∃ o sz i n, a = .one (.ref o sz i n)) ∨ ∃ o sz i n c, a = .one (.refc o sz i n c)) → R d (lenQ x) s m s := by
          intro a m ha e1 e2 e3 e4 hcase
          unfold rdF at ha
          split at ha
          · split at ha
            · rename_i b hb
              injection ha with ha; subst ha
              unfold lenQ
              refine R.ask ?_
              rw [avF_env hb]
              rcases hcase with rfl | ⟨rows, rfl⟩ | ⟨_, _, _, n, rfl⟩ | ⟨_, _, _, n, _, rfl⟩
              · rw [e1 rfl]; exact R.ret
              · rw [e2 _ rfl]; exact R.ret
              · rw [e3 _ _ _ _ rfl]; exact R.ret
              · rw [e4 _ _ _ _ _ rfl]; exact R.ret
            · cases ha
          · split at ha <;> first | (injection ha with ha; subst ha; rcases hcase with h | ⟨_, h⟩ | ⟨_, _, _, _, h⟩ | ⟨_, _, _, _, _, h⟩ <;> cases h) | cases ha
          · injection ha with ha; subst ha; rcases hcase with h | ⟨_, h⟩ | ⟨_, _, _, _, h⟩ | ⟨_, _, _, _, _, h⟩ <;> cases h
          · cases ha
        split at h <;> try (cases h; done)
        all_goals (rename_i ha; injection h with h; subst h)
        · exact (key _ _ ha (by simp) (by intro r e; injection e with e; injection e with e; rw [e]) (by simp) (by simp) (by simp)).bind (R.put hd R.ret)
        · exact (key _ _ ha (by simp) (by simp) (by intro _ _ _ _ e; injection e with e; injection e) (by simp) (by simp)).bind (R.put hd R.ret)
        · exact (key _ _ ha (by simp) (by simp) (by simp) (by intro _ _ _ _ _ e; injection e with e; injection e) (by simp)).bind (R.put hd R.ret)
        · exact (key _ 0 ha (by simp) (by simp) (by simp) (by simp) (by simp)).bind (R.put hd R.ret)
    · cases h
  · cases h
theorem callO_ok {c : Call} (hop : o.op = .call c) (h : callO C d c s = some s') : R d (semY C i o) s () s' ∧ (s'.env d).plain = true := by
  unfold callO at h
  split at h
  · rename_i f hcl
    split at h
    · rename_i ads hads
      split at h
      · rename_i f
        obtain ⟨h1, h2, F, hF⟩ := enterF_ok hd h
        refine ⟨?_, h2⟩
        rw [semY_call hop (by rw [hcl]; intro t e; cases e)]
        refine of_semOp1 hC ho (by rw [hop]; intros; simp) ?_ h2
        unfold semOp1; rw [hop]; simp only [hcl]
        unfold semOp0; rw [hop]; simp only [hcl, dstQ, ho, if_pos hn, callQ]
        refine (rdsF_ok hads).bind ?_
        simp only [hF]
        exact h1
      · rename_i t
        split at h
        · rename_i f caps hcv
          obtain ⟨h1, h2, F, hF⟩ := enterF_ok hd h
          refine ⟨?_, h2⟩
          unfold semY; rw [hop]; simp only [hcl]
          refine R.ask ?_
          rw [avF_env hcv]
          refine of_semOp1 hC ho (by rw [hop]; intros; simp) ?_ h2
          unfold semOp1; rw [hop]; simp only [hcl, dstQ, ho, if_pos hn, callVQ]
          refine R.bind (a := .one (.clo f caps)) (s1 := s) (R.ask ?_) ((rdsF_ok hads).bind (f := fun ads => enterQ C d f (ads ++ caps.map .one)) h1)
          rw [avF_env hcv]
          exact R.ret
        · rename_i lp hcv
          split at h
          · rename_i r hr
            injection h with h; subst h
            have e : (⟨s.t.set (some (.v (.one (.bool r.1)))) 30 d, r.2.1, r.2.2⟩ : St) = putF ⟨s.t, r.2.1, r.2.2⟩ d (.v (.one (.bool r.1))) := rfl
            rw [e]
            refine ⟨?_, by rw [putF_at hd]; rfl⟩
            unfold semY; rw [hop]; simp only [hcl]
            refine R.ask ?_
            rw [avF_env hcv]
            simp only [dstQ, ho, if_pos hn, yldQ]
            refine (rdsF_ok hads).bind (R.heap ?_)
            simp only
            exact R.bind (R.opt hr) (R.putH (R.put hd R.ret))
          · cases h
        · cases h
      · cases h
    · cases h
  · rename_i hcl
    obtain ⟨v, h1, h2⟩ := putO_some h
    subst h2
    refine ⟨?_, ?_⟩
    · rw [semY_call hop (by rw [hcl]; intro t e; cases e)]
      exact lenO_ok hC ho hn hd hop hcl h1
    · rw [putF_at hd]
      unfold lenO at h1
      split at h1
      · split at h1
        · split at h1 <;> first | (injection h1 with h1; subst h1; rfl) | cases h1
        · cases h1
      · cases h1
  · cases h
theorem fastD_ok (h : fastD C d o.op s = some s') : R d (semY C i o) s () s' ∧ (s'.env d).plain = true := by
  have pl : ∀ v, v.plain = true → ((putF s d v).env d).plain = true := fun v hv => by rw [putF_at hd]; exact hv
  unfold fastD at h
  split at h
  · rename_i x hop
    obtain ⟨v, h1, rfl⟩ := putO_some h
    exact ⟨by rw [semY_of (by rw [hop]; simp)]; exact move_ok hC ho hn hd (.inl hop) h1, pl v (valF_ok (C := C) (gen := 0) (ty := 0) (asg := true) hd h1).2⟩
  · rename_i x hop
    obtain ⟨v, h1, rfl⟩ := putO_some h
    exact ⟨by rw [semY_of (by rw [hop]; simp)]; exact move_ok hC ho hn hd (.inr hop) h1, pl v (valF_ok (C := C) (gen := 0) (ty := 0) (asg := true) hd h1).2⟩
  · rename_i op t x y tr hop
    obtain ⟨v, h1, rfl⟩ := putO_some h
    refine ⟨by rw [semY_of (by rw [hop]; simp)]; exact binO_ok hC ho hn hd hop h1, pl v ?_⟩
    unfold binO at h1
    split at h1 <;> try (cases h1; done)
    split at h1 <;> try (cases h1; done)
    split at h1 <;> try (cases h1; done)
    injection h1 with h1; subst h1; rfl
  · rename_i c hop
    exact callO_ok hC ho hn hd hop h
  · rename_i t x hop
    obtain ⟨v, h1, rfl⟩ := putO_some h
    refine ⟨by rw [semY_of (by rw [hop]; simp)]; exact loadO_ok hC ho hn hd hop h1, pl v ?_⟩
    unfold loadO at h1
    split at h1 <;> try (cases h1; done)
    split at h1 <;> try (cases h1; done)
    rename_i cs _
    cases hag : (C.tt t).k.agg <;> rw [hag] at h1
    · have h1 : oneD cs = some v := h1
      unfold oneD at h1
      split at h1 <;> try (cases h1; done)
      injection h1 with h1; subst h1; rfl
    · have h1 : some (AV.v (.many cs)) = some v := h1
      injection h1 with h1; subst h1; rfl
  · rename_i t x f hop
    obtain ⟨v, h1, rfl⟩ := putO_some h
    refine ⟨by rw [semY_of (by rw [hop]; simp)]; exact fieldO_ok hC ho hn hd hop h1, pl v ?_⟩
    unfold fieldO at h1
    split at h1 <;> try (cases h1; done)
    split at h1 <;> try (cases h1; done)
    obtain ⟨_, h1⟩ := br_some h1
    split at h1 <;> try (cases h1; done)
    injection h1 with h1; subst h1; rfl
  · rename_i x hop
    obtain ⟨v, h1, rfl⟩ := putO_some h
    refine ⟨by rw [semY_of (by rw [hop]; simp)]; exact nilO_ok hC ho hn hd hop h1, pl v ?_⟩
    unfold nilO at h1
    split at h1 <;> try (cases h1; done)
    injection h1 with h1; subst h1; rfl
  · rename_i x ix hop
    obtain ⟨v, h1, rfl⟩ := putO_some h
    refine ⟨by rw [semY_of (by rw [hop]; simp)]; exact extrO_ok hC ho hn hd hop h1, pl v ?_⟩
    unfold extrO at h1
    split at h1 <;> try (cases h1; done)
    split at h1 <;> try (cases h1; done)
    split at h1 <;> try (cases h1; done)
    injection h1 with h1; subst h1; rfl
  · rename_i c x y hop
    obtain ⟨v, h1, rfl⟩ := putO_some h
    refine ⟨by rw [semY_of (by rw [hop]; simp)]; exact pickO_ok hC ho hn hd hop h1, pl v ?_⟩
    unfold pickO at h1
    split at h1 <;> try (cases h1; done)
    split at h1 <;> try (cases h1; done)
    injection h1 with h1; subst h1; rfl
  · rename_i op t x hop
    obtain ⟨v, h1, rfl⟩ := putO_some h
    refine ⟨by rw [semY_of (by rw [hop]; simp)]; exact notO_ok hC ho hn hd hop h1, pl v ?_⟩
    unfold notO at h1
    split at h1 <;> try (cases h1; done)
    split at h1 <;> try (cases h1; done)
    injection h1 with h1; subst h1; rfl
  · rename_i a b x hop
    obtain ⟨v, h1, rfl⟩ := putO_some h
    refine ⟨by rw [semY_of (by rw [hop]; simp)]; exact convO_ok hC ho hn hd hop h1, pl v ?_⟩
    obtain ⟨k0, n, k1, k, hx, h1, h2, rfl⟩ := convO_some hC ho hn hd h1
    rfl
  · rename_i t hop
    refine ⟨by rw [semY_of (by rw [hop]; simp)]; exact alloc_ok hC ho hn hd hop h, ?_⟩
    obtain ⟨_, h2⟩ := newO_some hC ho hn hd h
    subst h2
    show ((putF ⟨s.t, updO s.H s.nx _, s.nx + 1⟩ d _).env d).plain = true
    rw [putF_at hd]; rfl
  · rename_i t x hop
    unfold boxO at h
    split at h
    · rename_i a ha
      refine ⟨by rw [semY_of (by rw [hop]; simp)]; exact box_ok hC ho hn hd hop ha h, ?_⟩
      obtain ⟨_, h2⟩ := newO_some hC ho hn hd h
      subst h2
      show ((putF ⟨s.t, updO s.H s.nx _, s.nx + 1⟩ d _).env d).plain = true
      rw [putF_at hd]; rfl
    · cases h
  · cases h
end
theorem fastN_ok {C : Ctx} (hC : Uni C) {i : Nat} {o : Oper} {s s' : St} (ho : o.dst = none) (h : fastN C o.op s = some s') : R gs (semY C i o) s () s' := by
  unfold fastN at h
  split at h
  · rename_i t x y hop
    split at h
    · rename_i a ha
      split at h
      · rename_i p hp
        obtain ⟨h1, h2⟩ := br_some h
        have h1 : Nat.beq a.cells.length (C.tt t).size = true ∧ Nat.blt 0 (C.tt t).size = true := by simpa using h1
        rw [semY_of (by rw [hop]; simp)]
        unfold semOp
        have hpre : preQ C o.op = .ret () := by
          rw [hop]; unfold preQ
          split
          · rename_i e; simp only [hC.pst, Bool.false_eq_true, false_and, if_false]
          · rfl
        rw [hpre]
        refine R.bind R.ret (R.bind (a := ()) (s1 := s') ?_ ?_)
        · unfold semOp1; rw [hop]; simp only [semOp0, hop, ho, Option.isNone_none, if_true, storeQ]
          refine (rdF_ok ha).bind ((ptrF_ok hp).bind ?_)
          rw [if_pos ⟨Nat.eq_of_beq_eq_true h1.1, Nat.le_of_ble_eq_true h1.2⟩]
          exact writeF_ok h2
        · rw [ho]
          exact R.ret
      · cases h
    · cases h
  · cases h
theorem fastU_ok {C : Ctx} (hC : Uni C) {i : Nat} {o : Oper} {s s' : St} (h : fastU C o s = some s') : ∃ r u, (semY C i o).runS s [] [] = some ((), s', r, u) ∧ ∀ x ∈ u, x = gs ∨ (s'.env x).plain = true := by
  unfold fastU at h
  cases ho : o.dst with
  | some d =>
    rw [ho] at h
    obtain ⟨h1, h2⟩ := br_some h
    obtain ⟨h3, h2⟩ := br_some h2
    have h1 : Nat.blt d C.nt = true ∧ Nat.blt d 1000000 = true := ⟨h1, h3⟩
    rw [fastR_eq] at h2
    obtain ⟨k1, k2⟩ := fastD_ok (i := i) hC ho (Nat.le_of_ble_eq_true h1.1) h1.2 h2
    obtain ⟨r, u, e1, e2⟩ := k1 [] []
    refine ⟨r, u, e1, fun x hx => ?_⟩
    rcases e2 x hx with h | h | h
    · cases h
    · exact .inl h
    · subst h; exact .inr k2
  | none =>
    rw [ho] at h
    obtain ⟨r, u, e1, e2⟩ := fastN_ok (i := i) hC ho h [] []
    refine ⟨r, u, e1, fun x hx => ?_⟩
    rcases e2 x hx with h | h | h
    · cases h
    · exact .inl h
    · exact .inl h
theorem fastO_ok {C : Ctx} (hC : Uni C) {ops : Array Oper} {i : Nat} {o : Oper} {s s' : St} (h : fastO C ops o s = some s') : ∃ r u, (grdQ C ops i o).runS s [] [] = some ((), s', r, u) ∧ ∀ x ∈ u, x = gs ∨ (s'.env x).plain = true := by
  rw [fastO_eq] at h
  unfold fastG at h
  split at h
  · rename_i hg
    unfold grdQ
    rw [hg]
    exact fastU_ok hC h
  · rename_i j want hg
    split at h
    · rename_i t ht
      split at h
      · rename_i b hb
        unfold grdQ
        rw [hg]
        simp only [ht]
        have he := avF_env hb
        by_cases e : b = want
        · have e1 : Bool.rec (motive := fun _ => Bool) (not want) want b = true := by subst e; cases b <;> rfl
          rw [e1] at h
          obtain ⟨r, u, k1, k2⟩ := fastU_ok (i := i) hC (show fastU C o s = some s' from h)
          obtain ⟨r', u', hb1, hb2⟩ := (Q.runS_any k1 [t] [])
          have hb2 := hb2 rfl
          refine ⟨r', u', ?_, fun x hx => k2 x (hb2 ▸ hx)⟩
          show ((match s.env t with | .v (.one (.bool b)) => if b = want then semY C i o else skipQ C o | .tup [] => skipQ C o | _ => .fail)).runS s [t] [] = _
          rw [he]
          simp only [if_pos e]
          exact hb1
        · have e1 : Bool.rec (motive := fun _ => Bool) (not want) want b = false := by cases b <;> cases want <;> first | rfl | exact absurd rfl e
          rw [e1] at h
          have h : (match o.dst with | some d => br (and (Nat.blt d C.nt) (Nat.blt d 1000000)) (some (putF s d (.tup []))) none | none => some s) = some s' := h
          show ∃ r u, ((match s.env t with | .v (.one (.bool b)) => if b = want then semY C i o else skipQ C o | .tup [] => skipQ C o | _ => .fail)).runS s [t] [] = _ ∧ _
          rw [he]
          simp only [if_neg e, skipQ]
          split at h
          · rename_i d ho
            obtain ⟨h1, h2⟩ := br_some h
            have h1 : Nat.blt d C.nt = true ∧ Nat.blt d 1000000 = true := by simpa using h1
            injection h2 with h2; subst h2
            simp only [ho]
            rw [if_pos (show d < C.nt from Nat.le_of_ble_eq_true h1.1)]
            obtain ⟨r, u, k1, k2⟩ := R.put (d := d) (v := .tup []) (k := .ret ()) (s := s) h1.2 R.ret [t] []
            refine ⟨r, u, k1, fun x hx => ?_⟩
            rcases k2 x hx with h | h | h
            · cases h
            · exact .inl h
            · subst h; right; rw [putF_at h1.2]; rfl
          · rename_i ho
            injection h with h; subst h
            simp only [ho]
            exact ⟨[t], [], rfl, by simp⟩
      · cases h
    · cases h
noncomputable def slowF (C : Ctx) (ops : Array Oper) (k : Nat) (o : Oper) (s : St) : Option St := match (grdQ C ops k o).runS s [] [] with
  | some (_, s', _, u) => br (u.all (fun i => i == gs || (s'.env i).plain)) (some s') none
  | none => none
noncomputable def runF (C : Ctx) (ops : Array Oper) (k : Nat) (l : List Oper) (s : St) : Option St :=
  List.rec (motive := fun _ => Nat → St → Option St) (fun _ s => some s) (fun o _ ih k s =>
    Option.rec (motive := fun _ => Option St) (Option.rec (motive := fun _ => Option St) none (fun s' => ih (Nat.succ k) s') (slowF C ops k o s)) (fun s' => ih (Nat.succ k) s') (fastO C ops o s)) l k s
theorem runF_cons (C : Ctx) (ops : Array Oper) (k : Nat) (o : Oper) (l : List Oper) (s : St) : runF C ops k (o :: l) s =
    Option.rec (motive := fun _ => Option St) (Option.rec (motive := fun _ => Option St) none (fun s' => runF C ops (k + 1) l s') (slowF C ops k o s)) (fun s' => runF C ops (k + 1) l s') (fastO C ops o s) := rfl
theorem runF_ok {C : Ctx} (hC : Uni C) {ops : Array Oper} : ∀ {l : List Oper} {k : Nat} {s s' : St}, runF C ops k l s = some s' → ∃ rs, runRec C ops [] k l s = some (s', rs)
  | [], k, s, s', h => by
    injection (show some s = some s' from h) with h
    subst h
    exact ⟨[], rfl⟩
  | o :: l, k, s, s', h => by
    rw [runF_cons] at h
    cases hs1 : fastO C ops o s with
    | some s1 =>
      rw [hs1] at h
      obtain ⟨r, u, h1, h2⟩ := fastO_ok (i := k) hC hs1
      obtain ⟨rs, h3⟩ := runF_ok hC (show runF C ops (k + 1) l s1 = some s' from h)
      refine ⟨(s, r, u) :: rs, ?_⟩
      simp only [runRec, h1]
      rw [if_pos, h3]
      · rfl
      · rw [List.all_eq_true]
        intro x hx
        rcases h2 x hx with h | h
        · subst h; simp
        · simp [h]
    | none =>
      rw [hs1] at h
      cases hsl : slowF C ops k o s with
      | none => rw [hsl] at h; cases h
      | some s1 =>
        rw [hsl] at h
        unfold slowF at hsl
        split at hsl
        · rename_i s2 _ u hq
          obtain ⟨h1, h2⟩ := br_some hsl
          injection h2 with h2
          subst h2
          obtain ⟨rs, h3⟩ := runF_ok hC (show runF C ops (k + 1) l s2 = some s' from h)
          simp only [runRec, hq]
          rw [if_pos, h3]
          · exact ⟨_, rfl⟩
          · simpa using h1
        · cases hsl
namespace Tr
noncomputable def setLK {α β : Type} (x : Option α) (f : Nat) : Nat → (Tr α → β) → β :=
  Nat.rec (motive := fun _ => Nat → (Tr α → β) → β) (fun _ K => K .leaf) (fun _ ih n K => Nat.rec (motive := fun _ => β) (K (.node x .leaf .leaf)) (fun m _ => Nat.rec (motive := fun _ => β) (ih (Nat.div m 2) (fun l => K (.node none l .leaf))) (fun _ _ => ih (Nat.div m 2) (fun r => K (.node none .leaf r))) (Nat.mod m 2)) n) f
noncomputable def setK {α β : Type} (x : Option α) (f : Nat) (t : Tr α) : Nat → (Tr α → β) → β :=
  Tr.rec (motive := fun _ => Nat → (Tr α → β) → β) (setLK x f) (fun v l r ihl ihr n K => Nat.rec (motive := fun _ => β) (K (.node x l r)) (fun m _ => Nat.rec (motive := fun _ => β) (ihl (Nat.div m 2) (fun l' => K (.node v l' r))) (fun _ _ => ihr (Nat.div m 2) (fun r' => K (.node v l r'))) (Nat.mod m 2)) n) t
theorem app_ite {α β : Type} (c : Prop) [Decidable c] (K : α → β) (x y : α) : K (if c then x else y) = if c then K x else K y := by split <;> rfl
theorem setLK_eq {α β : Type} (x : Option α) : ∀ (f n : Nat) (K : Tr α → β), setLK x f n K = K (setL x f n)
  | 0, n, K => rfl
  | f + 1, 0, K => rfl
  | f + 1, n + 1, K => by
    rw [setL_succ, app_ite _ K]
    refine (nrec n _ _).trans ?_
    split
    · exact setLK_eq x f (n / 2) _
    · exact setLK_eq x f (n / 2) _
theorem setK_eq {α β : Type} (x : Option α) (f : Nat) : ∀ (t : Tr α) (n : Nat) (K : Tr α → β), setK x f t n K = K (set x f t n)
  | .leaf, n, K => setLK_eq x f n K
  | .node v l r, 0, K => rfl
  | .node v l r, n + 1, K => by
    rw [set_nodeS, app_ite _ K]
    refine (nrec n _ _).trans ?_
    split
    · exact setK_eq x f l (n / 2) _
    · exact setK_eq x f r (n / 2) _
end Tr
noncomputable def natK {α : Type} (n : Nat) (K : Nat → α) : α := Nat.rec (motive := fun _ => α) (K 0) (fun m _ => K (Nat.succ m)) n
theorem natK_eq {α : Type} (n : Nat) (K : Nat → α) : natK n K = K n := by cases n <;> rfl
noncomputable def boolK {α : Type} (b : Bool) (K : Bool → α) : α := Bool.rec (motive := fun _ => α) (K false) (K true) b
theorem boolK_eq {α : Type} (b : Bool) (K : Bool → α) : boolK b K = K b := by cases b <;> rfl
noncomputable def intK {α : Type} (n : Int) (K : Int → α) : α := Int.rec (motive := fun _ => α) (fun n => natK n fun n => K (.ofNat n)) (fun n => natK n fun n => K (.negSucc n)) n
theorem intK_eq {α : Type} (n : Int) (K : Int → α) : intK n K = K n := by
  cases n with
  | ofNat n => exact natK_eq n (fun n => K (.ofNat n))
  | negSucc n => exact natK_eq n (fun n => K (.negSucc n))
noncomputable def dK {α : Type} (d : D) (K : D → α) : α := match d with
  | .int k n => intK n fun n => K (.int k n)
  | .bool b => boolK b fun b => K (.bool b)
  | .ptr o sz i off => natK o fun o => natK sz fun sz => natK i fun i => natK off fun off => K (.ptr o sz i off)
  | .ref o sz i n => natK o fun o => natK sz fun sz => natK i fun i => natK n fun n => K (.ref o sz i n)
  | d => K d
theorem dK_eq {α : Type} (d : D) (K : D → α) : dK d K = K d := by
  cases d <;> simp only [dK, intK_eq, boolK_eq, natK_eq]
noncomputable def lstK {α γ : Type} (f : γ → (γ → α) → α) (l : List γ) : (List γ → α) → α :=
  List.rec (motive := fun _ => (List γ → α) → α) (fun K => K []) (fun d _ ih K => f d fun d => ih fun l => K (d :: l)) l
theorem lstK_eq {α γ : Type} {f : γ → (γ → α) → α} (hf : ∀ d K, f d K = K d) : ∀ (l : List γ) (K : List γ → α), lstK f l K = K l
  | [], K => rfl
  | d :: l, K => by
    show f d (fun d => lstK f l fun l => K (d :: l)) = _
    rw [hf, lstK_eq hf l]
noncomputable def adK {α : Type} (a : AD) (K : AD → α) : α := AD.rec (motive := fun _ => α) (fun d => dK d fun d => K (.one d)) (fun l => lstK dK l fun l => K (.many l)) a
theorem adK_eq {α : Type} (a : AD) (K : AD → α) : adK a K = K a := by
  cases a with
  | one d => exact dK_eq d (fun d => K (.one d))
  | many l => exact lstK_eq dK_eq l (fun l => K (.many l))
noncomputable def avK {α : Type} (v : AV) (K : AV → α) : α := match v with
  | .v a => adK a fun a => K (.v a)
  | .tup l => lstK adK l fun l => K (.tup l)
  | v => K v
theorem avK_eq {α : Type} (v : AV) (K : AV → α) : avK v K = K v := by
  cases v with
  | v a => exact adK_eq a (fun a => K (.v a))
  | tup l => exact lstK_eq adK_eq l (fun l => K (.tup l))
  | _ => rfl
noncomputable def hpK {α : Type} (H : Hp) (K : Hp → α) : α := Hp.rec (motive := fun _ => α) (fun t => K (.tr t)) (fun H o x _ => K (.upd H o x)) H
theorem hpK_eq {α : Type} (H : Hp) (K : Hp → α) : hpK H K = K H := by cases H <;> rfl
noncomputable def obK {α : Type} (ob : PObj) (K : PObj → α) : α := PObj.rec (motive := fun _ => α) (fun e sz rows => natK sz fun sz => lstK (lstK dK) rows fun rows => K ⟨e, sz, rows⟩) ob
theorem obK_eq {α : Type} (ob : PObj) (K : PObj → α) : obK ob K = K ob := by
  cases ob with
  | mk e sz rows =>
    show natK sz (fun sz => lstK (lstK dK) rows fun rows => K ⟨e, sz, rows⟩) = _
    rw [natK_eq, lstK_eq (fun l K => lstK_eq dK_eq l K)]
noncomputable def updK {α : Type} (H : Hp) (o : Nat) (x : PObj) (K : Hp → α) : α := obK x fun x =>
  Hp.rec (motive := fun _ => α) (fun h => br (Nat.blt o 1000000000) (Tr.setK (some x) 30 h o fun h => K (.tr h)) (K (.upd (.tr h) o (some x)))) (fun H' o' x' _ => K (.upd (.upd H' o' x') o (some x))) H
theorem updK_eq {α : Type} (H : Hp) (o : Nat) (x : PObj) (K : Hp → α) : updK H o x K = K (updO H o (some x)) := by
  unfold updK
  rw [obK_eq]
  cases H with
  | tr h =>
    unfold updO
    cases Nat.blt o 1000000000 with
    | true => exact Tr.setK_eq _ _ _ _ _
    | false => rfl
  | upd H' o' x' => rfl
noncomputable def putC {α : Type} (x : Option AV) (d : Nat) (s : St) (K : Tr AV → Hp → Nat → α) (slow : α) : α :=
  Option.rec (motive := fun _ => α) slow (fun v => avK v fun v => Tr.setK (some v) 30 s.t d fun t => K t s.H s.nx) x
noncomputable def newC {α : Type} (z : List D) (d : Nat) (s : St) (K : Tr AV → Hp → Nat → α) (slow : α) : α :=
  List.rec (motive := fun _ => α) slow (fun x l _ => natK (x :: l).length fun n => Tr.setK (some (.v (.one (.ptr s.nx n 0 0)))) 30 s.t d fun t => updK s.H s.nx ⟨none, n, [x :: l]⟩ fun H => natK (Nat.succ s.nx) fun nx => K t H nx) z
noncomputable def retC {α : Type} (d : Nat) (t : Tr AV) (r : RV × Hp × Nat) (K : Tr AV → Hp → Nat → α) : α :=
  avK (match r.1 with | .a a => .v a | .tup l => .tup l) fun v => Tr.setK (some v) 30 t d fun t => hpK r.2.1 fun H => natK r.2.2 fun nx => K t H nx
noncomputable def enterC {α : Type} (C : Ctx) (s : St) (d f : Nat) (ads : List AD) (K : Tr AV → Hp → Nat → α) (slow : α) : α := match C.fns f with
  | .eff F => Option.rec (motive := fun _ => α) slow (fun r => retC d s.t r K) (F ads s.H s.nx)
  | _ => slow
noncomputable def callC {α : Type} (C : Ctx) (d : Nat) (c : Call) (s : St) (K : Tr AV → Hp → Nat → α) (slow : α) : α := match c.callee with
  | .value f => Option.rec (motive := fun _ => α) slow (fun ads => match f with
      | .func f => enterC C s d f ads K slow
      | .tmp t => match avF s t with
        | some (.v (.one (.clo f caps))) => enterC C s d f (ads ++ caps.map .one) K slow
        | some (.v (.one (.yl lp))) => Option.rec (motive := fun _ => α) slow (fun r => boolK r.1 fun b => Tr.setK (some (.v (.one (.bool b)))) 30 s.t d fun t => hpK r.2.1 fun H => natK r.2.2 fun nx => K t H nx) (C.yld lp ads s.H s.nx)
        | _ => slow
      | _ => slow) (rdsF s c.args.toList)
  | .builtin .len => putC (lenO C c s) d s K slow
  | _ => slow
noncomputable def toC {α : Type} (x : Option St) (K : Tr AV → Hp → Nat → α) (slow : α) : α := match x with
  | some s => K s.t s.H s.nx
  | none => slow
section
variable {α : Type} (C : Ctx) (d : Nat) (s : St) (K : Tr AV → Hp → Nat → α) (slow : α)
theorem putC_eq (x : Option AV) : putC x d s K slow = toC (putO s d x) K slow := by
  cases x with
  | none => rfl
  | some v =>
    show avK v (fun v => Tr.setK (some v) 30 s.t d fun t => K t s.H s.nx) = _
    rw [avK_eq, Tr.setK_eq]
    rfl
theorem newC_eq (z : List D) : newC z d s K slow = toC (newO z d s) K slow := by
  cases z with
  | nil => rfl
  | cons x l =>
    show natK (x :: l).length (fun n => Tr.setK (some (.v (.one (.ptr s.nx n 0 0)))) 30 s.t d fun t => updK s.H s.nx ⟨none, n, [x :: l]⟩ fun H => natK (Nat.succ s.nx) fun nx => K t H nx) = _
    rw [natK_eq, Tr.setK_eq, updK_eq, natK_eq]
    rfl
theorem retC_eq (t : Tr AV) (r : RV × Hp × Nat) : retC d t r K = K (retF ⟨t, .nil, 0⟩ d r).t r.2.1 r.2.2 := by
  unfold retC
  rw [avK_eq, Tr.setK_eq, hpK_eq, natK_eq]
  rfl
theorem enterC_eq (f : Nat) (ads : List AD) : enterC C s d f ads K slow = toC (enterF C s d f ads) K slow := by
  unfold enterC enterF
  split
  · rename_i F hF
    cases F ads s.H s.nx with
    | none => rfl
    | some r => exact retC_eq d K s.t r
  · rfl
theorem callC_eq (c : Call) : callC C d c s K slow = toC (callO C d c s) K slow := by
  unfold callC callO
  split
  · rename_i f hc
    cases rdsF s c.args.toList with
    | none => rfl
    | some ads =>
      cases f with
      | func f => exact enterC_eq C d s K slow f ads
      | tmp t =>
        simp only
        split
        · exact enterC_eq C d s K slow _ _
        · rename_i lp h
          cases hy : C.yld lp ads s.H s.nx with
          | none => rfl
          | some r =>
            show boolK r.1 (fun b => Tr.setK (some (.v (.one (.bool b)))) 30 s.t d fun t => hpK r.2.1 fun H => natK r.2.2 fun nx => K t H nx) = _
            rw [boolK_eq, Tr.setK_eq, hpK_eq, natK_eq]
            rfl
        · rfl
      | _ => rfl
  · exact putC_eq d s K slow _
  · rfl
end
noncomputable def stepC {α : Type} (C : Ctx) (d : Nat) (op : Op) (s : St) (K : Tr AV → Hp → Nat → α) (slow : α) : α := Op.rec (motive := fun _ => α) (fun x => putC (valF s x) d s K slow) (fun x => putC (valF s x) d s K slow) (fun c x y => putC (pickO c x y s) d s K slow) (fun t => newC (C.tt t).zero d s K slow) (fun _ x => Option.rec (motive := fun _ => α) slow (fun a => newC a.cells d s K slow) (rdF s x)) (fun _ _ => slow) (fun _ _ _ => slow) (fun _ _ _ _ => slow) (fun t x => putC (loadO C t x s) d s K slow) (fun _ _ _ => slow) (fun _ => slow) (fun _ => slow) (fun x => putC (nilO x s) d s K slow) (fun op t x y _ => putC (binO C op t x y s) d s K slow) (fun op _ x => putC (notO op x s) d s K slow) (fun a b x => putC (convO C a b x s) d s K slow) (fun _ _ => slow) (fun _ _ => slow) (fun _ _ _ => slow) (fun _ _ => slow) (fun _ _ => slow) (fun _ _ _ => slow) (fun _ _ _ _ _ => slow) (fun t x f => putC (fieldO C t x f s) d s K slow) (fun _ _ _ => slow) (fun _ _ _ => slow) (fun _ _ _ => slow) (fun _ _ _ _ => slow) (fun _ _ _ _ => slow) (fun _ _ _ => slow) (fun _ _ _ _ => slow) (fun _ _ => slow) (fun _ _ => slow) (fun _ => slow) (fun _ _ _ _ => slow) (fun x ix => putC (extrO x ix s) d s K slow) (fun c => callC C d c s K slow) (fun _ => slow) (fun _ => slow) (fun _ => slow) (fun _ _ => slow) (fun _ _ _ => slow) (fun _ _ => slow) op
theorem stepC_eq {α : Type} (C : Ctx) (d : Nat) (op : Op) (s : St) (K : Tr AV → Hp → Nat → α) (slow : α) : stepC C d op s K slow = toC (fastD C d op s) K slow := by
  cases op <;> first
    | rfl
    | exact putC_eq d s K slow _
    | exact newC_eq d s K slow _
    | exact callC_eq C d s K slow _
    | skip
  rename_i t x
  show Option.rec (motive := fun _ => α) slow (fun a => newC a.cells d s K slow) (rdF s x) = toC (boxO x d s) K slow
  unfold boxO
  cases rdF s x with
  | none => rfl
  | some a => exact newC_eq d s K slow _
noncomputable def writeC {α : Type} (s : St) (p : Nat × Nat × Nat × Nat) (vs : List D) (K : Tr AV → Hp → Nat → α) (slow : α) : α := toC (writeF s p vs) K slow
theorem writeC_eq {α : Type} (s : St) (p : Nat × Nat × Nat × Nat) (vs : List D) (K : Tr AV → Hp → Nat → α) (slow : α) : writeC s p vs K slow = toC (writeF s p vs) K slow := rfl
noncomputable def stepN {α : Type} (C : Ctx) (op : Op) (s : St) (K : Tr AV → Hp → Nat → α) (slow : α) : α := match op with
  | .store t x y => Option.rec (motive := fun _ => α) slow (fun a => Option.rec (motive := fun _ => α) slow (fun p => br (Nat.beq a.cells.length (C.tt t).size) (br (Nat.blt 0 (C.tt t).size) (writeC s p a.cells K slow) slow) slow) (ptrF s x)) (rdF s y)
  | _ => slow
theorem stepN_eq {α : Type} (C : Ctx) (op : Op) (s : St) (K : Tr AV → Hp → Nat → α) (slow : α) : stepN C op s K slow = toC (fastN C op s) K slow := by
  unfold stepN fastN
  split
  · rename_i t x y
    cases rdF s y with
    | none => rfl
    | some a =>
      cases ptrF s x with
      | none => rfl
      | some p =>
        cases hb : Nat.beq a.cells.length (C.tt t).size with
        | false => simp only [hb]; rfl
        | true =>
          cases hc : Nat.blt 0 (C.tt t).size with
          | false => simp only [hb, hc]; rfl
          | true => simp only [hb, hc]; exact writeC_eq _ _ _ _ _
  · rfl
noncomputable def stepU {α : Type} (C : Ctx) (o : Oper) (s : St) (K : Tr AV → Hp → Nat → α) (slow : α) : α :=
  Option.rec (motive := fun _ => α) (stepN C o.op s K slow) (fun d => br (Nat.blt d C.nt) (br (Nat.blt d 1000000) (stepC C d o.op s K slow) slow) slow) o.dst
theorem stepU_eq {α : Type} (C : Ctx) (o : Oper) (s : St) (K : Tr AV → Hp → Nat → α) (slow : α) : stepU C o s K slow = toC (fastU C o s) K slow := by
  unfold stepU fastU
  cases o.dst with
  | none => exact stepN_eq _ _ _ _ _
  | some d =>
    cases hb : Nat.blt d C.nt with
    | false => simp only [hb]; rfl
    | true =>
      cases hc : Nat.blt d 1000000 with
      | false => simp only [hb, hc]; rfl
      | true =>
        simp only [hb, hc]
        show stepC C d o.op s K slow = toC (fastR C d o.op s) K slow
        rw [fastR_eq]
        exact stepC_eq _ _ _ _ _ _
noncomputable def stepO {α : Type} (C : Ctx) (ops : Array Oper) (o : Oper) (s : St) (K : Tr AV → Hp → Nat → α) (slow : α) : α :=
  Option.rec (motive := fun _ => α) (stepU C o s K slow) (fun _ => Option.rec (motive := fun _ => α) slow (fun s => K s.t s.H s.nx) (fastG C ops o s)) o.guard
theorem stepO_eq {α : Type} (C : Ctx) (ops : Array Oper) (o : Oper) (s : St) (K : Tr AV → Hp → Nat → α) (slow : α) : stepO C ops o s K slow = toC (fastO C ops o s) K slow := by
  unfold stepO fastO
  cases o.guard with
  | none => exact stepU_eq _ _ _ _ _
  | some g =>
    show Option.rec (motive := fun _ => α) slow (fun s => K s.t s.H s.nx) (fastG C ops o s) = toC (fastG C ops o s) K slow
    cases fastG C ops o s <;> rfl
noncomputable def runC (C : Ctx) (ops : Array Oper) (k : Nat) (l : List Oper) (s : St) : Option St :=
  List.rec (motive := fun _ => Nat → Tr AV → Hp → Nat → Option St) (fun _ t H nx => some ⟨t, H, nx⟩) (fun o _ ih k t H nx =>
    stepO C ops o ⟨t, H, nx⟩ (ih (Nat.succ k)) (Option.rec (motive := fun _ => Option St) none (fun s' => ih (Nat.succ k) s'.t s'.H s'.nx) (slowF C ops k o ⟨t, H, nx⟩))) l k s.t s.H s.nx
theorem runC_eq (C : Ctx) (ops : Array Oper) : ∀ (l : List Oper) (k : Nat) (s : St), runC C ops k l s = runF C ops k l s
  | [], k, s => rfl
  | o :: l, k, s => by
    rw [runF_cons]
    have ih : ∀ s', runC C ops (k + 1) l s' = runF C ops (k + 1) l s' := runC_eq C ops l (k + 1)
    show stepO C ops o s (fun t H nx => runC C ops (k + 1) l ⟨t, H, nx⟩) (Option.rec (motive := fun _ => Option St) none (fun s' => runC C ops (k + 1) l s') (slowF C ops k o s)) = _
    rw [stepO_eq]
    cases fastO C ops o s with
    | some s1 => exact ih s1
    | none =>
      show Option.rec (motive := fun _ => Option St) none (fun s' => runC C ops (k + 1) l s') (slowF C ops k o s) = Option.rec (motive := fun _ => Option St) none (fun s' => runF C ops (k + 1) l s') (slowF C ops k o s)
      cases slowF C ops k o s with
      | none => rfl
      | some s1 => exact ih s1
end Go.Proofs.YtmhinddneefmbaaGreat.Pe
