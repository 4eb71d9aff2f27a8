/- A part of the proof of PmD. -/
import Derived.Laws.StructEq
import Derived.Laws.Pointers
import Derived.Test.YtapdaefpkddioaaGreatCb14
set_option linter.unusedSimpArgs false
set_option linter.unusedVariables false
set_option linter.unusedSectionVars false
namespace Go.Proofs.YtapdaefpkddioaaGreat.Pe
open Go
theorem Q.wp_both {α : Type} : ∀ {q : Q α} {K K' : α → Env → Prop} {E : Env}, q.wp K E → q.wp K' E → ∃ a E', K a E' ∧ K' a E'
  | .ret a, _, _, E, h, h' => ⟨a, E, h, h'⟩
  | .fail, _, _, _, h, _ => h.elim
  | .ask s k, _, _, E, h, h' => Q.wp_both (q := k (E s)) h h'
  | .set s v k, _, _, E, h, h' => Q.wp_both (q := k) h h'
theorem Q.wpT_both {α : Type} : ∀ {q : Q α} {K K' : α → Env → List Nat → List Nat → Prop} {E : Env} {r u : List Nat}, q.wpT K E r u → q.wpT K' E r u → ∃ a E' r' u', K a E' r' u' ∧ K' a E' r' u'
  | .ret a, _, _, E, r, u, h, h' => ⟨a, E, r, u, h, h'⟩
  | .fail, _, _, _, _, _, h, _ => h.elim
  | .ask s k, _, _, E, _, _, h, h' => Q.wpT_both (q := k (E s)) h h'
  | .set s v k, _, _, E, _, _, h, h' => Q.wpT_both (q := k) h h'
theorem drawW_both {C : Ctx} {ops : Array Oper} : ∀ (l : List Oper) (k : Nat) (K K' : Env → List (List Nat × List Nat) → Prop) (E : Env) (acc : List (List Nat × List Nat)), drawW C ops k l K E acc → drawW C ops k l K' E acc → ∃ E' fp, K E' fp ∧ K' E' fp
  | [], _, _, _, E, acc, h, h' => ⟨E, acc.reverse, h, h'⟩
  | o :: l, k, K, K', E, acc, h, h' => by
    obtain ⟨_, E', r, u, h1, h2⟩ := Q.wpT_both h h'
    exact drawW_both l (k + 1) K K' E' _ h1 h2
theorem cwp_both {C : Ctx} : ∀ (c : Code) (P P' : Ex → Env → Prop) (E : Env), cwp C c P E → cwp C c P' E → ∃ e E', P e E' ∧ P' e E' := by
  intro c
  induction c with
  | skip => intro P P' E h h'; exact ⟨_, _, h, h'⟩
  | ret => intro P P' E h h'; exact ⟨_, _, h, h'⟩
  | exit id => intro P P' E h h'; exact ⟨_, _, h, h'⟩
  | seq x y ihx ihy =>
    intro P P' E h h'
    obtain ⟨e, E', h1, h2⟩ := ihx _ _ E h h'
    cases e with
    | normal => exact ihy P P' E' h1 h2
    | exit id => exact ⟨_, _, h1, h2⟩
    | ret => exact ⟨_, _, h1, h2⟩
  | cond c x y ihx ihy =>
    intro P P' E h h'
    simp only [cwp, condW] at h h'
    split at h
    · rename_i t
      split at h
      · rename_i b hE
        simp only [hE] at h'
        cases b with
        | true => exact ihx P P' E (by simpa using h) (by simpa using h')
        | false => exact ihy P P' E (by simpa using h) (by simpa using h')
      · rename_i hE
        simp only [hE] at h'
        exact ihx P P' E h.1 h'.1
      · exact h.elim
    · rename_i b
      simp only at h'
      cases b with
      | true => exact ihx P P' E (by simpa using h) (by simpa using h')
      | false => exact ihy P P' E (by simpa using h) (by simpa using h')
    · exact h.elim
  | block id c ih =>
    intro P P' E h h'
    obtain ⟨e, E', h1, h2⟩ := ih _ _ E h h'
    cases e with
    | normal => exact ⟨.normal, E', h1, h2⟩
    | exit id' =>
      simp only at h1 h2
      by_cases he : id' = id
      · rw [if_pos he] at h1 h2; exact ⟨.normal, E', h1, h2⟩
      · rw [if_neg he] at h1 h2; exact ⟨_, E', h1, h2⟩
    | ret => exact ⟨_, E', h1, h2⟩
  | loop c ih =>
    intro P P' E h h'
    obtain ⟨I, n0, h0, hr⟩ := h
    obtain ⟨I', n0', h0', hr'⟩ := h'
    suffices ∀ (n : Nat) E n', I E n → I' E n' → ∃ e E', P e E' ∧ P' e E' from this n0 E n0' h0 h0'
    intro n
    induction n using Nat.strongRecOn with
    | ind n ihn =>
      intro E n' hI hI'
      obtain ⟨e, E', h1, h2⟩ := ih _ _ E (hr E n hI) (hr' E n' hI')
      cases e with
      | normal =>
        obtain ⟨m, hm, h3⟩ := h1
        obtain ⟨m', _, h4⟩ := h2
        exact ihn m hm E' m' h3 h4
      | exit id => exact ⟨_, _, h1, h2⟩
      | ret => exact ⟨_, _, h1, h2⟩
  | region id ops draw =>
    intro P P' E h h'
    cases draw with
    | false =>
      obtain ⟨_, E', h1, h2⟩ := Q.wp_both h h'
      exact ⟨.normal, _, h1, h2⟩
    | true =>
      obtain ⟨E', fp, h1, h2⟩ := drawW_both _ _ _ _ _ _ h h'
      exact ⟨.normal, _, h1.2, h2.2⟩
  | rangeFunc => intro P P' E h; exact h.elim
  | scope => intro P P' E h; exact h.elim
  | label => intro P P' E h; exact h.elim
  | goto => intro P P' E h; exact h.elim
  | refuse => intro P P' E h; exact h.elim
def Runs (Cx : (Nat → Prop) → Ctx) (rs : List ResultVar) (body : Code) (l : List AD) (H : Hp) (nx : Nat) (r : RV) (H' : Hp) (nx' : Nat) : Prop :=
  ∀ X R, (∀ e E', (e = .normal ∨ e = .ret) → (resQ (Cx X) rs).wp (fun l E'' => rvOf l = r ∧ E'' gs = .heap H' nx') E' → R e E') → cl (Cx X) [body] R (start H nx l)
theorem Runs.det {Cx : (Nat → Prop) → Ctx} {rs : List ResultVar} {body : Code} {l : List AD} {H : Hp} {nx : Nat} {r r' : RV} {H1 H2 : Hp} {n1 n2 : Nat} (h : Runs Cx rs body l H nx r H1 n1) (h' : Runs Cx rs body l H nx r' H2 n2) : r = r' ∧ H1 = H2 ∧ n1 = n2 := by
  obtain ⟨e, E', h1, h2⟩ := cwp_both body _ _ _ (cl_one (h (fun _ => False) (fun e E' => (resQ (Cx fun _ => False) rs).wp (fun l E'' => rvOf l = r ∧ E'' gs = .heap H1 n1) E') (fun _ _ _ h => h)))
    (cl_one (h' (fun _ => False) (fun e E' => (resQ (Cx fun _ => False) rs).wp (fun l E'' => rvOf l = r' ∧ E'' gs = .heap H2 n2) E') (fun _ _ _ h => h)))
  obtain ⟨l1, E2, ⟨h3, h4⟩, h5, h6⟩ := Q.wp_both h1 h2
  rw [h4] at h6
  injection h6 with h6 h7
  exact ⟨h3.symm.trans h5, h6, h7⟩
open Classical in
noncomputable def semF (n : Nat) (Cx : (Nat → Prop) → Ctx) (rs : List ResultVar) (body : Code) : List AD → Hp → Nat → Option (RV × Hp × Nat) :=
  fun l H nx => if h : ∃ x : RV × Hp × Nat, l.length ≤ n ∧ Runs Cx rs body l H nx x.1 x.2.1 x.2.2 then some (Classical.choose h) else none
theorem semF_eq {n : Nat} {Cx : (Nat → Prop) → Ctx} {rs : List ResultVar} {body : Code} {l : List AD} {H : Hp} {nx : Nat} {r : RV} {H' : Hp} {nx' : Nat} (hl : l.length ≤ n) (h : Runs Cx rs body l H nx r H' nx') : semF n Cx rs body l H nx = some (r, H', nx') := by
  have hx : ∃ x : RV × Hp × Nat, l.length ≤ n ∧ Runs Cx rs body l H nx x.1 x.2.1 x.2.2 := ⟨(r, H', nx'), hl, h⟩
  unfold semF
  rw [dif_pos hx]
  obtain ⟨h1, h2, h3⟩ := (Classical.choose_spec hx).2.det h
  rw [← h1, ← h2, ← h3]
theorem semF_ok {P : Program} (hm : P.follows .mixedOrders = true) {f : Nat} {fn : Func} {body : Code} (hf : P.funcs[f]? = some fn) (hb : fn.body = some body) (Cx : (Nat → Prop) → Ctx) (hC : ∀ X, (Cx X).Ok P) (hX : ∀ X, (Cx X).X = X) (hnt : ∀ X, (Cx X).nt = fn.ntmps) (hsm : fn.ntmps ≤ gs) {rs : Array ResultVar} (hrs : fn.results = rs) :
    FnEff P f (semF fn.ntmps Cx rs.toList body) := by
  refine fn_eff' hm hf hb Cx hC hX hnt hsm hrs _ fun l H nx r H' nx' h => ?_
  unfold semF at h
  split at h
  · rename_i hx
    injection h with h
    have := Classical.choose_spec hx
    rw [h] at this
    exact this
  · cases h
noncomputable def semT (fn : Func) (Cx : (Nat → Prop) → Ctx) (rs : Array ResultVar) : List AD → Hp → Nat → Option (RV × Hp × Nat) := semF fn.ntmps Cx rs.toList (fn.body.getD .skip)
theorem semT_eq {fn : Func} {Cx : (Nat → Prop) → Ctx} {rs : Array ResultVar} {body : Code} (hb : fn.body = some body) {l : List AD} {H : Hp} {nx : Nat} {r : RV} {H' : Hp} {nx' : Nat} (hl : l.length ≤ fn.ntmps)
    (h : ∀ X R, (∀ e E', (e = .normal ∨ e = .ret) → (resQ (Cx X) rs.toList).wp (fun l E'' => rvOf l = r ∧ E'' gs = .heap H' nx') E' → R e E') → cl (Cx X) [body] R (start H nx l)) : semT fn Cx rs l H nx = some (r, H', nx') := by
  unfold semT
  rw [hb]
  exact semF_eq hl h
theorem semT_ok {P : Program} (hm : P.follows .mixedOrders = true) {f : Nat} {fn : Func} {body : Code} (hf : P.funcs[f]? = some fn) (hb : fn.body = some body) {Cx : (Nat → Prop) → Ctx} (hC : ∀ X, (Cx X).Ok P) (hX : ∀ X, (Cx X).X = X) (hnt : ∀ X, (Cx X).nt = fn.ntmps) (hsm : fn.ntmps ≤ gs) {rs : Array ResultVar} (hrs : fn.results = rs) :
    FnEff P f (semT fn Cx rs) := by
  have := semF_ok hm hf hb Cx hC hX hnt hsm hrs
  unfold semT
  rw [hb]
  exact this
end Go.Proofs.YtapdaefpkddioaaGreat.Pe
namespace Go.Proofs.YtapdaefpkddioaaGreat.Pe
open Go
theorem eq30 : EqOk Tryz.prog 25 1 := by
  intro w ι M u v x y r hx hy hf he
  have hut : (Tryz.prog).underlying 25 = some (.pointer ((Tryz.prog).pointee 25)) := by kernel_rfl
  cases x with
  | many l => cases y <;> simp [fitEq] at hf
  | one x =>
    cases y with
    | many m => simp [fitEq] at hf
    | one y =>
      have h1 : Rd w ι M u x := hx
      have h2 : Rd w ι M v y := hy
      have hf : (x.isP && y.isP) = true := by simpa [fitEq] using hf
      simp only [Bool.and_eq_true] at hf
      have key : ∃ p, u = .pointer p ∧ v = .pointer none ∧ r = p.isNone := by
        cases y with
        | nilp =>
          cases h2
          cases x with
          | ptr o sz i off =>
            cases h1
            simp only [eqAD, eqD, Option.some.injEq] at he
            exact ⟨_, rfl, rfl, he.symm⟩
          | nilp =>
            cases h1
            simp only [eqAD, eqD, Option.some.injEq] at he
            exact ⟨_, rfl, rfl, he.symm⟩
          | _ => simp [D.isP] at hf
        | ptr o sz i off =>
          cases x <;> simp [D.isP, eqAD, eqD] at hf he
        | _ => simp [D.isP] at hf
      obtain ⟨p, rfl, rfl, rfl⟩ := key
      refine ⟨run_eql_pointer_nil w 25 p hut, run_neq_pointer_nil w 25 p hut, fun op a b => ?_⟩
      cases op <;> simp [eqGuard]
theorem eq4 : EqOk Tryz.prog 4 0 := by
  intro w ι M u v x y r hx hy hf he
  cases x with
  | many l => cases y <;> simp [fitEq] at hf
  | one x =>
    cases y with
    | many m => simp [fitEq] at hf
    | one y =>
      have h1 : Rd w ι M u x := hx
      have h2 : Rd w ι M v y := hy
      have hf : (x.isB && y.isB) = true := by simpa [fitEq] using hf
      simp only [Bool.and_eq_true] at hf
      cases x <;> first | (simp [D.isB] at hf; done) | skip
      cases y <;> first | (simp [D.isB] at hf; done) | skip
      cases h1; cases h2
      rename_i a b
      simp only [eqAD, eqD, Option.some.injEq] at he
      subst he
      refine ⟨?_, ?_, fun op p q => ?_⟩
      · cases a <;> cases b <;> kernel_rfl
      · cases a <;> cases b <;> kernel_rfl
      · cases op <;> simp [eqGuard]
theorem len3 {α : Type} : ∀ {l : List α}, l.length = 3 → ∃ a b c, l = [a, b, c]
  | [a, b, c], _ => ⟨a, b, c, rfl⟩
  | [], h => by simp at h
  | [_], h => by simp at h
  | [_, _], h => by simp at h
  | _ :: _ :: _ :: _ :: _, h => by simp at h
theorem eq47 : EqOk Tryz.prog 46 3 := by
  intro w ι M u v x y r hx hy hf he
  have hut : (Tryz.prog).underlying 46 = some (.struct ((Tryz.prog).fieldsOf 46)) := by kernel_rfl
  have hsh : (Tryz.prog).stoodInHeld 46 = false := by kernel_rfl
  have heg : (Tryz.prog).eqGuardType (Tryz.prog).depth 46 = false := by kernel_rfl
  have hfl : ∃ f0 f1 f2, ((Tryz.prog).fieldsOf 46).toList = [f0, f1, f2] ∧ f0.name ≠ "_" ∧ f1.name ≠ "_" ∧ f2.name ≠ "_" ∧ f0.type = 44 ∧ f1.type = 26 ∧ f2.type = 26 ∧ f0.offset = 0 ∧ f1.offset = 1 ∧ f2.offset = 2 :=
    by
    have hm : ((Tryz.prog).fieldsOf 46).toList.map (fun f => (f.name != "_", f.type, f.offset)) = [(true, 44, 0), (true, 26, 1), (true, 26, 2)] := by kernel_rfl
    generalize ((Tryz.prog).fieldsOf 46).toList = fs at hm
    obtain ⟨f0, f1, f2, rfl⟩ := len3 (show fs.length = 3 by simpa using congrArg List.length hm)
    simp only [List.map_cons, List.map_nil, List.cons.injEq, Prod.mk.injEq, bne_iff_ne, ne_eq, and_true] at hm
    obtain ⟨⟨a1, a2, a3⟩, ⟨b1, b2, b3⟩, c1, c2, c3⟩ := hm
    exact ⟨f0, f1, f2, rfl, a1, b1, c1, a2, b2, c2, a3, b3, c3⟩
  obtain ⟨f0, f1, f2, hfs, n0, n1, n2, t0, t1, t2, o0, o1, o2⟩ := hfl
  cases x with
  | one x => cases y <;> simp [fitEq] at hf
  | many l =>
    cases y with
    | one y => simp [fitEq] at hf
    | many m =>
      simp only [fitEq, Bool.and_eq_true, decide_eq_true_eq] at hf
      obtain ⟨_, hl, hm, hli, hmi⟩ := hf
      obtain ⟨cu, rfl, hcu⟩ := hx
      obtain ⟨cv, rfl, hcv⟩ := hy
      have three : ∀ (l : List D), l.length = 3 → l.all D.isI = true → ∃ k0 a0 k1 a1 k2 a2, l = [.int k0 a0, .int k1 a1, .int k2 a2] := by
        intro l h1 h2
        match l, h1 with
        | [x, y, z], _ =>
          simp only [List.all_cons, List.all_nil, Bool.and_eq_true, and_true] at h2
          obtain ⟨q1, q2, q3⟩ := h2
          cases x <;> simp [D.isI] at q1
          cases y <;> simp [D.isI] at q2
          cases z <;> simp [D.isI] at q3
          exact ⟨_, _, _, _, _, _, rfl⟩
      obtain ⟨k0, a0, k1, a1, k2, a2, rfl⟩ := three l hl hli
      obtain ⟨j0, b0, j1, b1, j2, b2, rfl⟩ := three m hm hmi
      have vals : ∀ (c : Array Value) (k0 k1 k2 : IntKind) (a0 a1 a2 : Int), RdL w ι M c.toList [.int k0 a0, .int k1 a1, .int k2 a2] → c = #[.int k0 a0, .int k1 a1, .int k2 a2] := by
        intro c k0 k1 k2 a0 a1 a2 hc
        obtain ⟨hlen, hget⟩ := hc
        have h3 : c.size = 3 := by simpa using hlen
        have one : ∀ (j : Nat) (k : IntKind) (n : Int), [D.int k0 a0, .int k1 a1, .int k2 a2][j]? = some (.int k n) → j < 3 → c[j]? = some (.int k n) := by
          intro j k n hj hlt
          have hs : c.toList[j]? = some c[j] := by simp [h3, hlt]
          have hr := hget j _ _ hs hj
          rw [Array.getElem?_eq_getElem (by omega)]
          generalize c[j] = q at hr
          cases hr; rfl
        apply Array.ext_getElem?
        intro j
        match j with
        | 0 => exact one 0 _ _ rfl (by omega)
        | 1 => exact one 1 _ _ rfl (by omega)
        | 2 => exact one 2 _ _ rfl (by omega)
        | j + 3 => rw [Array.getElem?_eq_none (by omega), Array.getElem?_eq_none (by simp)]
      have eu := vals cu _ _ _ _ _ _ hcu
      have ev := vals cv _ _ _ _ _ _ hcv
      subst eu; subst ev
      have hk : k0 = j0 ∧ k1 = j1 ∧ k2 = j2 ∧ r = ((a0 == b0) && ((a1 == b1) && ((a2 == b2) && true))) := by
        simp only [eqAD, eqCells, eqD] at he
        by_cases e0 : k0 = j0 <;> by_cases e1 : k1 = j1 <;> by_cases e2 : k2 = j2 <;> simp [e0, e1, e2] at he
        exact ⟨e0, e1, e2, by rw [← he]; simp [Bool.and_comm]⟩
      obtain ⟨rfl, rfl, rfl, rfl⟩ := hk
      have u45 : (Tryz.prog).underlying 44 = some (.int .i64) := by kernel_rfl
      have u23 : (Tryz.prog).underlying 26 = some (.int .u64) := by kernel_rfl
      have hrun : (Op.equalIn 10000 46 (.agg #[.int k0 a0, .int k1 a1, .int k2 a2]) (.agg #[.int k0 b0, .int k1 b1, .int k2 b2])).run Tryz.prog w = .ok ((a0 == b0) && ((a1 == b1) && ((a2 == b2) && true))) w := by
        rw [run_equalIn_agg w 9999 46 _ _ hut hsh, hfs]
        have pt : ∀ (t : Nat), (isAgg t).run Tryz.prog w = .ok false w → ∀ (cs : Array Value) (j : Nat) (v : Value), cs[j]? = some v → (part t cs j).run Tryz.prog w = .ok v w := fun t ht cs j v hv => by
          simp [part, ht, hv]
        have tok : ∀ t, tt t ≠ dflt → TyOk Tryz.prog t (tt t) := fun t h => (tt_ok t).resolve_left h
        have g45 : (isAgg 44).run Tryz.prog w = .ok false w := und_agg (tok 44 (by intro h; cases h)) w
        have g23 : (isAgg 26).run Tryz.prog w = .ok false w := und_agg (tok 26 (by intro h; cases h)) w
        have e45 : ∀ a b, (Op.equalIn 9999 44 (.int k0 a) (.int k0 b)).run Tryz.prog w = .ok (a == b) w := fun a b => run_equalIn_int (P := Tryz.prog) w 9998 44 k0 .i64 a b u45
        have e23 : ∀ k a b, (Op.equalIn 9999 26 (.int k a) (.int k b)).run Tryz.prog w = .ok (a == b) w := fun k a b => run_equalIn_int (P := Tryz.prog) w 9998 26 k .u64 a b u23
        have p0 : ∀ x y z : Value, (part 44 #[x, y, z] 0).run Tryz.prog w = .ok x w := fun x y z => pt 44 g45 _ _ _ rfl
        have p1 : ∀ x y z : Value, (part 26 #[x, y, z] 1).run Tryz.prog w = .ok y w := fun x y z => pt 26 g23 _ _ _ rfl
        have p2 : ∀ x y z : Value, (part 26 #[x, y, z] 2).run Tryz.prog w = .ok z w := fun x y z => pt 26 g23 _ _ _ rfl
        simp only [Op.eqFields, n0, n1, n2, t0, t1, t2, o0, o1, o2, ne_eq, not_false_eq_true, ↓reduceIte, Sem.run_bind, p0, p1, p2, Result.andThen_ok, e45, e23]
        cases (a0 == b0) with
        | false => rfl
        | true =>
          simp only [Bool.not_true, Bool.false_eq_true, ↓reduceIte, Sem.run_bind, p0, p1, p2, Result.andThen_ok, e45, e23]
          cases (a1 == b1) with
          | false => rfl
          | true =>
            simp only [Bool.not_true, Bool.false_eq_true, ↓reduceIte, Sem.run_bind, p0, p1, p2, Result.andThen_ok, e45, e23]
            cases (a2 == b2) <;> rfl
      refine ⟨by rw [run_eql_struct, hrun]; rfl, by rw [run_neq_struct, hrun]; rfl, fun op a b => run_eqGuard_agg w op 46 a b _ _ heg⟩
end Go.Proofs.YtapdaefpkddioaaGreat.Pe
namespace Go.Proofs.YtapdaefpkddioaaGreat.Pe
open Go
set_option maxHeartbeats 2000000
def encNs (x : List Int × List Int) : List AD := [.one (.sl (rowsN x.1)), .one (.sl (rowsN x.2))]
theorem encNs_inj (x y : List Int × List Int) (h : encNs x = encNs y) : x = y := by
  obtain ⟨a, b⟩ := x; obtain ⟨c, d⟩ := y
  simp only [encNs, List.cons.injEq, AD.one.injEq, D.sl.injEq, and_true] at h
  rw [rowsN_inj h.1, rowsN_inj h.2]
noncomputable def numsF : List AD → Option RV := byEnc encNs (fun x => Sm x.1 ∧ Sm x.2) fun x => .a (.one (.bool (decide (x.1 = x.2))))
theorem numsF_eq {l m : List Int} (h : Sm l) (hm : Sm m) : numsF [.one (.sl (rowsN l)), .one (.sl (rowsN m))] = some (.a (.one (.bool (decide (l = m))))) := byEnc_eq (x := (l, m)) encNs_inj ⟨h, hm⟩
theorem nums_ok : FnPure Tryz.prog 60 numsF := by
  (refine fn_pure' (f := 60) mixed Tryz.func60 rfl (fun X => { nt := 26, tt := tt, fns := ofList [], keep := keep60, X := X }) (fun X => ok_of tt_ok trivial (noEqs _)) (fun _ => rfl) (fun _ => rfl) (by decide) Tryz.results60 numsF ?_)
  intro l r hq
  obtain ⟨⟨l, m⟩, rfl, ⟨hl, hm⟩, hr⟩ := byEnc_some hq
  clear hq
  simp only [Sm] at hl hm hr
  refine ⟨by simp [encNs, Tryz.ntmps60], fun X nx R hR => ?_⟩
  simp only [encNs]
  (repeat ((try simp only [cl_seq, cl_skip]); with_reducible refine cg fun K hK => ?_; (simp (maxSteps := 1000000) only [go_sem]); (repeat refine ck ?_); (try simp (disch := omega) only [wrap64, wrapi64]); refine hK _ ?_; clear hK K))
  (((try simp only [cl_seq, cl_skip]); refine cl_cond rfl (fun hc => ?_) (fun hc => ?_)))
  · simp only [bne_iff_ne, ne_eq, Int.natCast_inj] at hc
    (repeat ((try simp only [cl_seq, cl_skip]); with_reducible refine cg fun K hK => ?_; (simp (maxSteps := 1000000) only [go_sem]); (repeat refine ck ?_); (try simp (disch := omega) only [wrap64, wrapi64]); refine hK _ ?_; clear hK K))
    (((try simp only [cl_seq, cl_skip]); (try simp only [cl_ret]); refine hR _ _ (.inr rfl) ?_; (simp (maxSteps := 1000000) only [go_sem])))
    rw [hr]
    have : l ≠ m := fun e => hc (by rw [e])
    simp [this]
  · simp only [bne_eq_false_iff_eq, Int.natCast_inj] at hc
    (repeat ((try simp only [cl_seq, cl_skip]); with_reducible refine cg fun K hK => ?_; (simp (maxSteps := 1000000) only [go_sem]); (repeat refine ck ?_); (try simp (disch := omega) only [wrap64, wrapi64]); refine hK _ ?_; clear hK K))
    (((try simp only [cl_seq, cl_skip]); refine cl_block fun K hK1 R hR1 X hX1 => ?_))
    refine cl_loop (fun E n => ∃ i : Nat, i ≤ l.length ∧ l.take i = m.take i ∧ n = l.length - i ∧ E = mk [(1000000, .heap (fun _ => none) nx), (5, .v (.one (.int .i64 i))), (0, .v (.one (.sl (rowsN l)))), (1, .v (.one (.sl (rowsN m))))]) l.length ⟨0, by omega, rfl, by omega, rfl⟩ ?_
    rintro E n ⟨i, hi, hti, rfl, rfl⟩ J hJ R2 hR2 X2 hX2
    (repeat ((try simp only [cl_seq, cl_skip]); with_reducible refine cg fun K hK => ?_; (simp (maxSteps := 1000000) only [go_sem]); (repeat refine ck ?_); (try simp (disch := omega) only [wrap64, wrapi64]); refine hK _ ?_; clear hK K))
    (((try simp only [cl_seq, cl_skip]); refine cl_cond rfl (fun hd => ?_) (fun hd => ?_)))
    · simp only [decide_eq_true_eq, Int.ofNat_lt] at hd
      have hd2 : i < m.length := by omega
      (((try simp only [cl_seq, cl_skip]); refine cl_block fun K hK3 R hR3 X hX3 => ?_))
      (repeat ((try simp only [cl_seq, cl_skip]); with_reducible refine cg fun K hK => ?_; (simp (maxSteps := 1000000) only [go_sem, hd, hd2]); (repeat refine ck ?_); (try simp (disch := omega) only [wrap64, wrapi64]); refine hK _ ?_; clear hK K))
      (((try simp only [cl_seq, cl_skip]); refine cl_cond rfl (fun he => ?_) (fun he => ?_)))
      · simp only [bne_iff_ne, ne_eq] at he
        (repeat ((try simp only [cl_seq, cl_skip]); with_reducible refine cg fun K hK => ?_; (simp (maxSteps := 1000000) only [go_sem]); (repeat refine ck ?_); (try simp (disch := omega) only [wrap64, wrapi64]); refine hK _ ?_; clear hK K))
        simp only [cl_ret]
        refine hR3 _ (hR2 _ (hR1 _ ?_))
        (((try simp only [cl_seq, cl_skip]); (try simp only [cl_ret]); refine hR _ _ (.inr rfl) ?_; (simp (maxSteps := 1000000) only [go_sem])))
        rw [hr]
        have : l ≠ m := fun e => he (by subst e; rfl)
        simp [this]
      · simp only [bne_eq_false_iff_eq] at he
        ((try simp only [cl_seq, cl_skip, cl_exit, cl_nil]))
        refine hK3 _ ?_
        (repeat ((try simp only [cl_seq, cl_skip]); with_reducible refine cg fun K hK => ?_; (simp (maxSteps := 1000000) only [go_sem, wrapi64 (n := (i : Int) + 1) (by omega) (by omega)]); (repeat refine ck ?_); (try simp (disch := omega) only [wrap64, wrapi64]); refine hK _ ?_; clear hK K))
        ((try simp only [cl_seq, cl_skip, cl_exit, cl_nil]))
        refine hJ _ (l.length - (i + 1)) (by omega) ⟨i + 1, by omega, ?_, rfl, rfl⟩
        rw [take_one l i hd, take_one m i hd2, hti, he]
    · simp only [decide_eq_false_iff_not, Int.ofNat_lt] at hd
      have hil : i = l.length := by omega
      subst hil
      ((try simp only [cl_seq, cl_skip, cl_exit, cl_nil]))
      refine hX2 0 _ (hK1 _ ?_)
      (repeat ((try simp only [cl_seq, cl_skip]); with_reducible refine cg fun K hK => ?_; (simp (maxSteps := 1000000) only [go_sem]); (repeat refine ck ?_); (try simp (disch := omega) only [wrap64, wrapi64]); refine hK _ ?_; clear hK K))
      (((try simp only [cl_seq, cl_skip]); (try simp only [cl_ret]); refine hR _ _ (.inr rfl) ?_; (simp (maxSteps := 1000000) only [go_sem])))
      rw [hr]
      have : l = m := by
        rw [List.take_length, hc, List.take_length] at hti
        exact hti
      simp [this]
end Go.Proofs.YtapdaefpkddioaaGreat.Pe
