/- A part of the proof of PmD. -/
import Derived.Laws.StructEq
import Derived.Laws.Pointers
import Derived.Test.YtapdaefpkddioaaCb15
set_option linter.unusedSimpArgs false
set_option linter.unusedVariables false
set_option linter.unusedSectionVars false
namespace Go.Proofs.Ytapdaefpkddioaa.Pe
open Go
theorem Q.wp_both {α : Type} : ∀ {q : Q α} {K K' : α → Env → Prop} {E : Env}, q.wp K E → q.wp K' E → ∃ a E', K a E' ∧ K' a E'
  | .ret a, _, _, E, h, h' => ⟨a, E, h, h'⟩
  | .fail, _, _, _, h, _ => h.elim
  | .ask s k, _, _, E, h, h' => Q.wp_both (q := k (E s)) h h'
  | .set s v k, _, _, E, h, h' => Q.wp_both (q := k) h h'
theorem Q.wpT_both {α : Type} : ∀ {q : Q α} {K K' : α → Env → List Nat → List Nat → Prop} {E : Env} {r u : List Nat}, q.wpT K E r u → q.wpT K' E r u → ∃ a E' r' u', K a E' r' u' ∧ K' a E' r' u'
  | .ret a, _, _, E, r, u, h, h' => ⟨a, E, r, u, h, h'⟩
  | .fail, _, _, _, _, _, h, _ => h.elim
  | .ask s k, _, _, E, _, _, h, h' => Q.wpT_both (q := k (E s)) h h'
  | .set s v k, _, _, E, _, _, h, h' => Q.wpT_both (q := k) h h'
theorem drawW_both {C : Ctx} {ops : Array Oper} : ∀ (l : List Oper) (k : Nat) (K K' : Env → List (List Nat × List Nat) → Prop) (E : Env) (acc : List (List Nat × List Nat)), drawW C ops k l K E acc → drawW C ops k l K' E acc → ∃ E' fp, K E' fp ∧ K' E' fp
  | [], _, _, _, E, acc, h, h' => ⟨E, acc.reverse, h, h'⟩
  | o :: l, k, K, K', E, acc, h, h' => by
    obtain ⟨_, E', r, u, h1, h2⟩ := Q.wpT_both h h'
    exact drawW_both l (k + 1) K K' E' _ h1 h2
theorem cwp_both {C : Ctx} : ∀ (c : Code) (P P' : Ex → Env → Prop) (E : Env), cwp C c P E → cwp C c P' E → ∃ e E', P e E' ∧ P' e E' := by
  intro c
  induction c with
  | skip => intro P P' E h h'; exact ⟨_, _, h, h'⟩
  | ret => intro P P' E h h'; exact ⟨_, _, h, h'⟩
  | exit id => intro P P' E h h'; exact ⟨_, _, h, h'⟩
  | seq x y ihx ihy =>
    intro P P' E h h'
    obtain ⟨e, E', h1, h2⟩ := ihx _ _ E h h'
    cases e with
    | normal => exact ihy P P' E' h1 h2
    | exit id => exact ⟨_, _, h1, h2⟩
    | ret => exact ⟨_, _, h1, h2⟩
  | cond c x y ihx ihy =>
    intro P P' E h h'
    simp only [cwp, condW] at h h'
    split at h
    · rename_i t
      split at h
      · rename_i b hE
        simp only [hE] at h'
        cases b with
        | true => exact ihx P P' E (by simpa using h) (by simpa using h')
        | false => exact ihy P P' E (by simpa using h) (by simpa using h')
      · rename_i hE
        simp only [hE] at h'
        exact ihx P P' E h.1 h'.1
      · exact h.elim
    · rename_i b
      simp only at h'
      cases b with
      | true => exact ihx P P' E (by simpa using h) (by simpa using h')
      | false => exact ihy P P' E (by simpa using h) (by simpa using h')
    · exact h.elim
  | block id c ih =>
    intro P P' E h h'
    obtain ⟨e, E', h1, h2⟩ := ih _ _ E h h'
    cases e with
    | normal => exact ⟨.normal, E', h1, h2⟩
    | exit id' =>
      simp only at h1 h2
      by_cases he : id' = id
      · rw [if_pos he] at h1 h2; exact ⟨.normal, E', h1, h2⟩
      · rw [if_neg he] at h1 h2; exact ⟨_, E', h1, h2⟩
    | ret => exact ⟨_, E', h1, h2⟩
  | loop c ih =>
    intro P P' E h h'
    obtain ⟨I, n0, h0, hr⟩ := h
    obtain ⟨I', n0', h0', hr'⟩ := h'
    suffices ∀ (n : Nat) E n', I E n → I' E n' → ∃ e E', P e E' ∧ P' e E' from this n0 E n0' h0 h0'
    intro n
    induction n using Nat.strongRecOn with
    | ind n ihn =>
      intro E n' hI hI'
      obtain ⟨e, E', h1, h2⟩ := ih _ _ E (hr E n hI) (hr' E n' hI')
      cases e with
      | normal =>
        obtain ⟨m, hm, h3⟩ := h1
        obtain ⟨m', _, h4⟩ := h2
        exact ihn m hm E' m' h3 h4
      | exit id => exact ⟨_, _, h1, h2⟩
      | ret => exact ⟨_, _, h1, h2⟩
  | region id ops draw =>
    intro P P' E h h'
    cases draw with
    | false =>
      obtain ⟨_, E', h1, h2⟩ := Q.wp_both h h'
      exact ⟨.normal, _, h1, h2⟩
    | true =>
      obtain ⟨E', fp, h1, h2⟩ := drawW_both _ _ _ _ _ _ h h'
      exact ⟨.normal, _, h1.2, h2.2⟩
  | rangeFunc => intro P P' E h; exact h.elim
  | scope => intro P P' E h; exact h.elim
  | label => intro P P' E h; exact h.elim
  | goto => intro P P' E h; exact h.elim
  | refuse => intro P P' E h; exact h.elim
def Runs (Cx : (Nat → Prop) → Ctx) (rs : List ResultVar) (body : Code) (l : List AD) (H : Hp) (nx : Nat) (r : RV) (H' : Hp) (nx' : Nat) : Prop :=
  ∀ X R, (∀ e E', (e = .normal ∨ e = .ret) → (resQ (Cx X) rs).wp (fun l E'' => rvOf l = r ∧ E'' gs = .heap H' nx') E' → R e E') → cl (Cx X) [body] R (start H nx l)
theorem Runs.det {Cx : (Nat → Prop) → Ctx} {rs : List ResultVar} {body : Code} {l : List AD} {H : Hp} {nx : Nat} {r r' : RV} {H1 H2 : Hp} {n1 n2 : Nat} (h : Runs Cx rs body l H nx r H1 n1) (h' : Runs Cx rs body l H nx r' H2 n2) : r = r' ∧ H1 = H2 ∧ n1 = n2 := by
  obtain ⟨e, E', h1, h2⟩ := cwp_both body _ _ _ (cl_one (h (fun _ => False) (fun e E' => (resQ (Cx fun _ => False) rs).wp (fun l E'' => rvOf l = r ∧ E'' gs = .heap H1 n1) E') (fun _ _ _ h => h)))
    (cl_one (h' (fun _ => False) (fun e E' => (resQ (Cx fun _ => False) rs).wp (fun l E'' => rvOf l = r' ∧ E'' gs = .heap H2 n2) E') (fun _ _ _ h => h)))
  obtain ⟨l1, E2, ⟨h3, h4⟩, h5, h6⟩ := Q.wp_both h1 h2
  rw [h4] at h6
  injection h6 with h6 h7
  exact ⟨h3.symm.trans h5, h6, h7⟩
open Classical in
noncomputable def semF (n : Nat) (Cx : (Nat → Prop) → Ctx) (rs : List ResultVar) (body : Code) : List AD → Hp → Nat → Option (RV × Hp × Nat) :=
  fun l H nx => if h : ∃ x : RV × Hp × Nat, l.length ≤ n ∧ Runs Cx rs body l H nx x.1 x.2.1 x.2.2 then some (Classical.choose h) else none
theorem semF_eq {n : Nat} {Cx : (Nat → Prop) → Ctx} {rs : List ResultVar} {body : Code} {l : List AD} {H : Hp} {nx : Nat} {r : RV} {H' : Hp} {nx' : Nat} (hl : l.length ≤ n) (h : Runs Cx rs body l H nx r H' nx') : semF n Cx rs body l H nx = some (r, H', nx') := by
  have hx : ∃ x : RV × Hp × Nat, l.length ≤ n ∧ Runs Cx rs body l H nx x.1 x.2.1 x.2.2 := ⟨(r, H', nx'), hl, h⟩
  unfold semF
  rw [dif_pos hx]
  obtain ⟨h1, h2, h3⟩ := (Classical.choose_spec hx).2.det h
  rw [← h1, ← h2, ← h3]
theorem semF_ok {P : Program} (hm : P.follows .mixedOrders = true) {f : Nat} {fn : Func} {body : Code} (hf : P.funcs[f]? = some fn) (hb : fn.body = some body) (Cx : (Nat → Prop) → Ctx) (hC : ∀ X, (Cx X).Ok P) (hX : ∀ X, (Cx X).X = X) (hnt : ∀ X, (Cx X).nt = fn.ntmps) (hsm : fn.ntmps ≤ gs) {rs : Array ResultVar} (hrs : fn.results = rs) :
    FnEff P f (semF fn.ntmps Cx rs.toList body) := by
  refine fn_eff' hm hf hb Cx hC hX hnt hsm hrs _ fun l H nx r H' nx' h => ?_
  unfold semF at h
  split at h
  · rename_i hx
    injection h with h
    have := Classical.choose_spec hx
    rw [h] at this
    exact this
  · cases h
noncomputable def semT (fn : Func) (Cx : (Nat → Prop) → Ctx) (rs : Array ResultVar) : List AD → Hp → Nat → Option (RV × Hp × Nat) := semF fn.ntmps Cx rs.toList (fn.body.getD .skip)
theorem semT_eq {fn : Func} {Cx : (Nat → Prop) → Ctx} {rs : Array ResultVar} {body : Code} (hb : fn.body = some body) {l : List AD} {H : Hp} {nx : Nat} {r : RV} {H' : Hp} {nx' : Nat} (hl : l.length ≤ fn.ntmps)
    (h : ∀ X R, (∀ e E', (e = .normal ∨ e = .ret) → (resQ (Cx X) rs.toList).wp (fun l E'' => rvOf l = r ∧ E'' gs = .heap H' nx') E' → R e E') → cl (Cx X) [body] R (start H nx l)) : semT fn Cx rs l H nx = some (r, H', nx') := by
  unfold semT
  rw [hb]
  exact semF_eq hl h
theorem semT_ok {P : Program} (hm : P.follows .mixedOrders = true) {f : Nat} {fn : Func} {body : Code} (hf : P.funcs[f]? = some fn) (hb : fn.body = some body) {Cx : (Nat → Prop) → Ctx} (hC : ∀ X, (Cx X).Ok P) (hX : ∀ X, (Cx X).X = X) (hnt : ∀ X, (Cx X).nt = fn.ntmps) (hsm : fn.ntmps ≤ gs) {rs : Array ResultVar} (hrs : fn.results = rs) :
    FnEff P f (semT fn Cx rs) := by
  have := semF_ok hm hf hb Cx hC hX hnt hsm hrs
  unfold semT
  rw [hb]
  exact this
end Go.Proofs.Ytapdaefpkddioaa.Pe
namespace Go.Proofs.Ytapdaefpkddioaa.Pe
open Go
theorem eq30 : EqOk Try.prog 30 1 := by
  intro w ι M u v x y r hx hy hf he
  have hut : (Try.prog).underlying 30 = some (.pointer ((Try.prog).pointee 30)) := by kernel_rfl
  cases x with
  | many l => cases y <;> simp [fitEq] at hf
  | one x =>
    cases y with
    | many m => simp [fitEq] at hf
    | one y =>
      have h1 : Rd w ι M u x := hx
      have h2 : Rd w ι M v y := hy
      have hf : (x.isP && y.isP) = true := by simpa [fitEq] using hf
      simp only [Bool.and_eq_true] at hf
      have key : ∃ p, u = .pointer p ∧ v = .pointer none ∧ r = p.isNone := by
        cases y with
        | nilp =>
          cases h2
          cases x with
          | ptr o sz i off =>
            cases h1
            simp only [eqAD, eqD, Option.some.injEq] at he
            exact ⟨_, rfl, rfl, he.symm⟩
          | nilp =>
            cases h1
            simp only [eqAD, eqD, Option.some.injEq] at he
            exact ⟨_, rfl, rfl, he.symm⟩
          | _ => simp [D.isP] at hf
        | ptr o sz i off =>
          cases x <;> simp [D.isP, eqAD, eqD] at hf he
        | _ => simp [D.isP] at hf
      obtain ⟨p, rfl, rfl, rfl⟩ := key
      refine ⟨run_eql_pointer_nil w 30 p hut, run_neq_pointer_nil w 30 p hut, fun op a b => ?_⟩
      cases op <;> simp [eqGuard]
theorem eq4 : EqOk Try.prog 4 0 := by
  intro w ι M u v x y r hx hy hf he
  cases x with
  | many l => cases y <;> simp [fitEq] at hf
  | one x =>
    cases y with
    | many m => simp [fitEq] at hf
    | one y =>
      have h1 : Rd w ι M u x := hx
      have h2 : Rd w ι M v y := hy
      have hf : (x.isB && y.isB) = true := by simpa [fitEq] using hf
      simp only [Bool.and_eq_true] at hf
      cases x <;> first | (simp [D.isB] at hf; done) | skip
      cases y <;> first | (simp [D.isB] at hf; done) | skip
      cases h1; cases h2
      rename_i a b
      simp only [eqAD, eqD, Option.some.injEq] at he
      subst he
      refine ⟨?_, ?_, fun op p q => ?_⟩
      · cases a <;> cases b <;> kernel_rfl
      · cases a <;> cases b <;> kernel_rfl
      · cases op <;> simp [eqGuard]
theorem len3 {α : Type} : ∀ {l : List α}, l.length = 3 → ∃ a b c, l = [a, b, c]
  | [a, b, c], _ => ⟨a, b, c, rfl⟩
  | [], h => by simp at h
  | [_], h => by simp at h
  | [_, _], h => by simp at h
  | _ :: _ :: _ :: _ :: _, h => by simp at h
theorem eq47 : EqOk Try.prog 47 3 := by
  intro w ι M u v x y r hx hy hf he
  have hut : (Try.prog).underlying 47 = some (.struct ((Try.prog).fieldsOf 47)) := by kernel_rfl
  have hsh : (Try.prog).stoodInHeld 47 = false := by kernel_rfl
  have heg : (Try.prog).eqGuardType (Try.prog).depth 47 = false := by kernel_rfl
  have hfl : ∃ f0 f1 f2, ((Try.prog).fieldsOf 47).toList = [f0, f1, f2] ∧ f0.name ≠ "_" ∧ f1.name ≠ "_" ∧ f2.name ≠ "_" ∧ f0.type = 45 ∧ f1.type = 23 ∧ f2.type = 23 ∧ f0.offset = 0 ∧ f1.offset = 1 ∧ f2.offset = 2 :=
    by
    have hm : ((Try.prog).fieldsOf 47).toList.map (fun f => (f.name != "_", f.type, f.offset)) = [(true, 45, 0), (true, 23, 1), (true, 23, 2)] := by kernel_rfl
    generalize ((Try.prog).fieldsOf 47).toList = fs at hm
    obtain ⟨f0, f1, f2, rfl⟩ := len3 (show fs.length = 3 by simpa using congrArg List.length hm)
    simp only [List.map_cons, List.map_nil, List.cons.injEq, Prod.mk.injEq, bne_iff_ne, ne_eq, and_true] at hm
    obtain ⟨⟨a1, a2, a3⟩, ⟨b1, b2, b3⟩, c1, c2, c3⟩ := hm
    exact ⟨f0, f1, f2, rfl, a1, b1, c1, a2, b2, c2, a3, b3, c3⟩
  obtain ⟨f0, f1, f2, hfs, n0, n1, n2, t0, t1, t2, o0, o1, o2⟩ := hfl
  cases x with
  | one x => cases y <;> simp [fitEq] at hf
  | many l =>
    cases y with
    | one y => simp [fitEq] at hf
    | many m =>
      simp only [fitEq, Bool.and_eq_true, decide_eq_true_eq] at hf
      obtain ⟨_, hl, hm, hli, hmi⟩ := hf
      obtain ⟨cu, rfl, hcu⟩ := hx
      obtain ⟨cv, rfl, hcv⟩ := hy
      have three : ∀ (l : List D), l.length = 3 → l.all D.isI = true → ∃ k0 a0 k1 a1 k2 a2, l = [.int k0 a0, .int k1 a1, .int k2 a2] := by
        intro l h1 h2
        match l, h1 with
        | [x, y, z], _ =>
          simp only [List.all_cons, List.all_nil, Bool.and_eq_true, and_true] at h2
          obtain ⟨q1, q2, q3⟩ := h2
          cases x <;> simp [D.isI] at q1
          cases y <;> simp [D.isI] at q2
          cases z <;> simp [D.isI] at q3
          exact ⟨_, _, _, _, _, _, rfl⟩
      obtain ⟨k0, a0, k1, a1, k2, a2, rfl⟩ := three l hl hli
      obtain ⟨j0, b0, j1, b1, j2, b2, rfl⟩ := three m hm hmi
      have vals : ∀ (c : Array Value) (k0 k1 k2 : IntKind) (a0 a1 a2 : Int), RdL w ι M c.toList [.int k0 a0, .int k1 a1, .int k2 a2] → c = #[.int k0 a0, .int k1 a1, .int k2 a2] := by
        intro c k0 k1 k2 a0 a1 a2 hc
        obtain ⟨hlen, hget⟩ := hc
        have h3 : c.size = 3 := by simpa using hlen
        have one : ∀ (j : Nat) (k : IntKind) (n : Int), [D.int k0 a0, .int k1 a1, .int k2 a2][j]? = some (.int k n) → j < 3 → c[j]? = some (.int k n) := by
          intro j k n hj hlt
          have hs : c.toList[j]? = some c[j] := by simp [h3, hlt]
          have hr := hget j _ _ hs hj
          rw [Array.getElem?_eq_getElem (by omega)]
          generalize c[j] = q at hr
          cases hr; rfl
        apply Array.ext_getElem?
        intro j
        match j with
        | 0 => exact one 0 _ _ rfl (by omega)
        | 1 => exact one 1 _ _ rfl (by omega)
        | 2 => exact one 2 _ _ rfl (by omega)
        | j + 3 => rw [Array.getElem?_eq_none (by omega), Array.getElem?_eq_none (by simp)]
      have eu := vals cu _ _ _ _ _ _ hcu
      have ev := vals cv _ _ _ _ _ _ hcv
      subst eu; subst ev
      have hk : k0 = j0 ∧ k1 = j1 ∧ k2 = j2 ∧ r = ((a0 == b0) && ((a1 == b1) && ((a2 == b2) && true))) := by
        simp only [eqAD, eqCells, eqD] at he
        by_cases e0 : k0 = j0 <;> by_cases e1 : k1 = j1 <;> by_cases e2 : k2 = j2 <;> simp [e0, e1, e2] at he
        exact ⟨e0, e1, e2, by rw [← he]; simp [Bool.and_comm]⟩
      obtain ⟨rfl, rfl, rfl, rfl⟩ := hk
      have u45 : (Try.prog).underlying 45 = some (.int .i64) := by kernel_rfl
      have u23 : (Try.prog).underlying 23 = some (.int .u64) := by kernel_rfl
      have hrun : (Op.equalIn 10000 47 (.agg #[.int k0 a0, .int k1 a1, .int k2 a2]) (.agg #[.int k0 b0, .int k1 b1, .int k2 b2])).run Try.prog w = .ok ((a0 == b0) && ((a1 == b1) && ((a2 == b2) && true))) w := by
        rw [run_equalIn_agg w 9999 47 _ _ hut hsh, hfs]
        have pt : ∀ (t : Nat), (isAgg t).run Try.prog w = .ok false w → ∀ (cs : Array Value) (j : Nat) (v : Value), cs[j]? = some v → (part t cs j).run Try.prog w = .ok v w := fun t ht cs j v hv => by
          simp [part, ht, hv]
        have tok : ∀ t, tt t ≠ dflt → TyOk Try.prog t (tt t) := fun t h => (tt_ok t).resolve_left h
        have g45 : (isAgg 45).run Try.prog w = .ok false w := und_agg (tok 45 (by intro h; cases h)) w
        have g23 : (isAgg 23).run Try.prog w = .ok false w := und_agg (tok 23 (by intro h; cases h)) w
        have e45 : ∀ a b, (Op.equalIn 9999 45 (.int k0 a) (.int k0 b)).run Try.prog w = .ok (a == b) w := fun a b => run_equalIn_int (P := Try.prog) w 9998 45 k0 .i64 a b u45
        have e23 : ∀ k a b, (Op.equalIn 9999 23 (.int k a) (.int k b)).run Try.prog w = .ok (a == b) w := fun k a b => run_equalIn_int (P := Try.prog) w 9998 23 k .u64 a b u23
        have p0 : ∀ x y z : Value, (part 45 #[x, y, z] 0).run Try.prog w = .ok x w := fun x y z => pt 45 g45 _ _ _ rfl
        have p1 : ∀ x y z : Value, (part 23 #[x, y, z] 1).run Try.prog w = .ok y w := fun x y z => pt 23 g23 _ _ _ rfl
        have p2 : ∀ x y z : Value, (part 23 #[x, y, z] 2).run Try.prog w = .ok z w := fun x y z => pt 23 g23 _ _ _ rfl
        simp only [Op.eqFields, n0, n1, n2, t0, t1, t2, o0, o1, o2, ne_eq, not_false_eq_true, ↓reduceIte, Sem.run_bind, p0, p1, p2, Result.andThen_ok, e45, e23]
        cases (a0 == b0) with
        | false => rfl
        | true =>
          simp only [Bool.not_true, Bool.false_eq_true, ↓reduceIte, Sem.run_bind, p0, p1, p2, Result.andThen_ok, e45, e23]
          cases (a1 == b1) with
          | false => rfl
          | true =>
            simp only [Bool.not_true, Bool.false_eq_true, ↓reduceIte, Sem.run_bind, p0, p1, p2, Result.andThen_ok, e45, e23]
            cases (a2 == b2) <;> rfl
      refine ⟨by rw [run_eql_struct, hrun]; rfl, by rw [run_neq_struct, hrun]; rfl, fun op a b => run_eqGuard_agg w op 47 a b _ _ heg⟩
end Go.Proofs.Ytapdaefpkddioaa.Pe
