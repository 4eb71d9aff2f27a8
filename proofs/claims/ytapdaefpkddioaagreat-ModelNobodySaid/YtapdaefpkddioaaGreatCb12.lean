/- A part of the proof of PmD. -/
import Derived.Test.YtapdaefpkddioaaGreatCb11
set_option linter.unusedSimpArgs false
set_option linter.unusedVariables false
set_option linter.unusedSectionVars false
namespace Go.Proofs.YtapdaefpkddioaaGreat.Pe
open Go
def cl (C : Ctx) : List Code → (Ex → Env → Prop) → Env → Prop
  | [], Q, E => Q .normal E
  | c :: cs, Q, E => cwp C c (fun e E' => match e with
    | .normal => cl C cs Q E'
    | e => Q e E') E
section
variable {C : Ctx} {cs : List Code} {Q : Ex → Env → Prop} {E : Env}
theorem cwp_congr {c : Code} {Q' : Ex → Env → Prop} (h : ∀ e E', Q e E' → Q' e E') (h' : ∀ e E', Q' e E' → Q e E') : cwp C c Q E → cwp C c Q' E := by
  have : Q = Q' := by funext e E'; exact propext ⟨h e E', h' e E'⟩
  rw [this]; exact fun h => h
theorem cl_one {c : Code} (h : cl C [c] Q E) : cwp C c Q E := by
  have e : (fun (e : Ex) (E' : Env) => match e with
    | .normal => cl C [] Q E'
    | e => Q e E') = Q := by funext e E'; cases e <;> rfl
  unfold cl at h
  rw [e] at h
  exact h
theorem cl_seq (a b : Code) : cl C (.seq a b :: cs) Q E = cl C (a :: b :: cs) Q E := by
  show cwp C a _ E = cwp C a _ E
  congr 1
  funext e E'
  cases e <;> rfl
theorem cl_skip : cl C (.skip :: cs) Q E = cl C cs Q E := rfl
theorem cl_ret : cl C (.ret :: cs) Q E = Q .ret E := rfl
theorem cl_exit (id : Nat) : cl C (.exit id :: cs) Q E = Q (.exit id) E := rfl
theorem cl_nil : cl C [] Q E = Q .normal E := rfl
theorem cl_reg {id : Nat} {ops : Array Oper} (h : ∀ K : Env → Prop, (∀ E', cl C cs Q E' → K E') → (runFrom C ops 0 ops.toList).wp (fun _ E' => K (norm (C.keep id) E')) E) : cl C (.region id ops false :: cs) Q E :=
  h _ fun _ h => h
theorem cl_drw {id : Nat} {ops : Array Oper} (h : ∀ K : Env → Prop, (∀ E', cl C cs Q E' → K E') → drawW C ops 0 ops.toList (fun E' fp => indep ops fp = true ∧ K (norm (C.keep id) E')) E []) : cl C (.region id ops true :: cs) Q E :=
  h _ fun _ h => h
theorem cl_cond {t : Nat} {x y : Code} {b : Bool} (hE : E t = .v (.one (.bool b))) (h1 : b = true → cl C (x :: cs) Q E) (h2 : b = false → cl C (y :: cs) Q E) : cl C (.cond (.tmp t) x y :: cs) Q E := by
  show condW (.tmp t) E _ _
  simp only [condW, hE]
  cases b with
  | true => exact h1 rfl
  | false => exact h2 rfl
theorem cl_any {t : Nat} {x y : Code} (hE : E t = .v (.one .anyb)) (h1 : cl C (x :: cs) Q E) (h2 : cl C (y :: cs) Q E) : cl C (.cond (.tmp t) x y :: cs) Q E := by
  show condW (.tmp t) E _ _
  simp only [condW, hE]
  exact ⟨h1, h2⟩
theorem cl_block {id : Nat} {c : Code} (h : ∀ K : Env → Prop, (∀ E', cl C cs Q E' → K E') → ∀ R : Env → Prop, (∀ E', Q .ret E' → R E') → ∀ X : Nat → Env → Prop, (∀ i E', Q (.exit i) E' → X i E') →
    cl C [c] (fun e E' => match e with
      | .normal => K E'
      | .exit i => if i = id then K E' else X i E'
      | .ret => R E') E) : cl C (.block id c :: cs) Q E := by
  have := cl_one (h _ (fun _ h => h) _ (fun _ h => h) _ (fun _ _ h => h))
  show cwp C c _ E
  refine cwp_congr ?_ ?_ this
  · intro e E' h; cases e <;> exact h
  · intro e E' h; cases e <;> exact h
theorem cl_loop {c : Code} (I : Env → Nat → Prop) (n0 : Nat) (h0 : I E n0) (h : ∀ E' n, I E' n → ∀ J : Env → Prop, (∀ E'' n', n' < n → I E'' n' → J E'') → ∀ R : Env → Prop, (∀ E', Q .ret E' → R E') → ∀ X : Nat → Env → Prop, (∀ i E', Q (.exit i) E' → X i E') →
    cl C [c] (fun e E'' => match e with
      | .normal => J E''
      | .exit i => X i E''
      | .ret => R E'') E') : cl C (.loop c :: cs) Q E := by
  refine ⟨I, n0, h0, fun E' n hI => ?_⟩
  have := cl_one (h E' n hI (fun E'' => ∃ n', n' < n ∧ I E'' n') (fun E'' n' h1 h2 => ⟨n', h1, h2⟩) _ (fun _ h => h) _ (fun _ _ h => h))
  refine cwp_congr ?_ ?_ this
  · intro e E' h; cases e <;> exact h
  · intro e E' h; cases e <;> exact h
end
section
variable {P : Program}
theorem fn_pure' (hm : P.follows .mixedOrders = true) {f : Nat} {fn : Func} {body : Code} (hf : P.funcs[f]? = some fn) (hb : fn.body = some body) (Cx : (Nat → Prop) → Ctx) (hC : ∀ X, (Cx X).Ok P) (hX : ∀ X, (Cx X).X = X) (hnt : ∀ X, (Cx X).nt = fn.ntmps) (hsm : fn.ntmps ≤ gs) {rs : Array ResultVar} (hrs : fn.results = rs)
    (F : List AD → Option RV) (hF : ∀ l r, F l = some r → l.length ≤ fn.ntmps ∧ ∀ X nx R, (∀ e E', (e = .normal ∨ e = .ret) → (resQ (Cx X) rs.toList).wp (fun l E'' => rvOf l = r ∧ E'' gs = .heap (fun _ => none) nx) E' → R e E') → cl (Cx X) [body] R (start (fun _ => none) nx l)) : FnPure P f F := by
  subst hrs
  exact fn_pure hm hf hb Cx hC hX hnt hsm F fun l r h => ⟨(hF l r h).1, fun X nx => cl_one ((hF l r h).2 X nx _ fun e E' he h => ⟨he, h⟩)⟩
theorem fn_new' (hm : P.follows .mixedOrders = true) {f : Nat} {fn : Func} {body : Code} (hf : P.funcs[f]? = some fn) (hb : fn.body = some body) (Cx : (Nat → Prop) → Ctx) (hC : ∀ X, (Cx X).Ok P) (hX : ∀ X, (Cx X).X = X) (hnt : ∀ X, (Cx X).nt = fn.ntmps) (hsm : fn.ntmps ≤ gs) {t : Nat} (hrs : fn.results = #[.tmp t])
    (F : List AD → Option (Nat × Nat × List (List D))) (hF : ∀ l r, F l = some r → l.length ≤ fn.ntmps ∧ ∀ X nx R, (∀ e E', (e = .normal ∨ e = .ret) → (∃ g, E' t = .own g r.1 r.2.1 r.2.2) ∧ E' gs = .heap (fun _ => none) nx → R e E') → cl (Cx X) [body] R (start (fun _ => none) nx l)) : FnNew P f F :=
  fn_new hm hf hb Cx hC hX hnt hsm hrs F fun l r h => ⟨(hF l r h).1, fun X nx => cl_one ((hF l r h).2 X nx _ fun e E' he h => ⟨he, h⟩)⟩
theorem fn_eff' (hm : P.follows .mixedOrders = true) {f : Nat} {fn : Func} {body : Code} (hf : P.funcs[f]? = some fn) (hb : fn.body = some body) (Cx : (Nat → Prop) → Ctx) (hC : ∀ X, (Cx X).Ok P) (hX : ∀ X, (Cx X).X = X) (hnt : ∀ X, (Cx X).nt = fn.ntmps) (hsm : fn.ntmps ≤ gs) {rs : Array ResultVar} (hrs : fn.results = rs)
    (F : List AD → Hp → Nat → Option (RV × Hp × Nat)) (hF : ∀ l H nx r H' nx', F l H nx = some (r, H', nx') → l.length ≤ fn.ntmps ∧ ∀ X R, (∀ e E', (e = .normal ∨ e = .ret) → (resQ (Cx X) rs.toList).wp (fun l E'' => rvOf l = r ∧ E'' gs = .heap H' nx') E' → R e E') → cl (Cx X) [body] R (start H nx l)) : FnEff P f F := by
  subst hrs
  exact fn_eff hm hf hb Cx hC hX hnt hsm F fun l H nx r H' nx' h => ⟨(hF l H nx r H' nx' h).1, fun X => cl_one ((hF l H nx r H' nx' h).2 X _ fun e E' he h => ⟨he, h⟩)⟩
end
def fun2 (l : List (Nat × List Nat)) (i : Nat) : List Nat := match l with
  | [] => []
  | (j, k) :: r => if i = j then k else fun2 r i
theorem upd_at (E : Env) (s t : Nat) (v : AV) : upd E s v t = if t = s then v else E t := rfl
theorem ck_ite (c : Prop) [Decidable c] (X : Prop) : (if c then X else False) = (c ∧ X) := by
  by_cases h : c <;> simp [h]
theorem ite_and_l (p : Prop) [Decidable p] (c A B : Prop) : (if p then c ∧ A else B) = ((p → c) ∧ if p then A else B) := by
  by_cases h : p <;> simp [h]
theorem ite_and_r (p : Prop) [Decidable p] (c A B : Prop) : (if p then A else c ∧ B) = ((¬ p → c) ∧ if p then A else B) := by
  by_cases h : p <;> simp [h]
theorem ite_mk_cons (p : Prop) [Decidable p] (s : Nat) (v v' : AV) (l l' : List (Nat × AV)) : (if p then mk ((s, v) :: l) else mk ((s, v') :: l')) = upd (if p then mk l else mk l') s (if p then v else v') := by
  split <;> rfl
theorem ite_bool (p : Prop) [Decidable p] (x y : Bool) : (if p then AV.v (.one (.bool x)) else AV.v (.one (.bool y))) = AV.v (.one (.bool (if p then x else y))) := by
  split <;> rfl
theorem ite_int (p : Prop) [Decidable p] (k : IntKind) (x y : Int) : (if p then AV.v (.one (.int k x)) else AV.v (.one (.int k y))) = AV.v (.one (.int k (if p then x else y))) := by
  split <;> rfl
theorem ite_tf (b c : Bool) : (if b = true then c else false) = (b && c) := by cases b <;> rfl
theorem ite_tt (b c : Bool) : (if b = true then true else c) = (b || c) := by cases b <;> rfl
theorem ite_ft (b c : Bool) : (if b = false then c else true) = (b || c) := by cases b <;> rfl
theorem ite_ff (b c : Bool) : (if b = false then c else false) = (!b && c) := by cases b <;> rfl
@[congr] theorem Q.wp_congr {α : Type} {q q' : Q α} {K : α → Env → Prop} {E E' : Env} (h : q = q') (hE : E = E') : q.wp K E = q'.wp K E' := by rw [h, hE]
@[congr] theorem Q.wpT_congr {α : Type} {q q' : Q α} {K : α → Env → List Nat → List Nat → Prop} {E E' : Env} {r u : List Nat} (h : q = q') (hE : E = E') : q.wpT K E r u = q'.wpT K E' r u := by rw [h, hE]
@[congr] theorem ite_cond_only {α : Sort _} {c c' : Prop} [i : Decidable c] [j : Decidable c'] {x y : α} (h : c = c') : (if c then x else y) = (if c' then x else y) := by subst h; congr
theorem ofOpt_some {α : Type} (a : α) : ofOpt (some a) = Q.ret a := rfl
theorem ofOpt_none {α : Type} : ofOpt (none : Option α) = Q.fail := rfl
theorem ofOpt_ck1 {α : Type} (c : Prop) [Decidable c] (a : α) : ofOpt (if c then some a else none) = if c then Q.ret a else Q.fail := by split <;> rfl
theorem ofOpt_ck2 {α : Type} (c : Prop) [Decidable c] (a : α) : ofOpt (if c then none else some a) = if c then Q.fail else Q.ret a := by split <;> rfl
theorem wp_ck1 {α : Type} (c : Prop) [Decidable c] (q : Q α) (K : α → Env → Prop) (E : Env) : (if c then q else Q.fail).wp K E = (c ∧ q.wp K E) := by by_cases h : c <;> simp [h, Q.wp]
theorem wp_ck2 {α : Type} (c : Prop) [Decidable c] (q : Q α) (K : α → Env → Prop) (E : Env) : (if c then Q.fail else q).wp K E = (¬ c ∧ q.wp K E) := by by_cases h : c <;> simp [h, Q.wp]
theorem Q.bind_ret {α γ : Type} (a : α) (f : α → Q γ) : (Q.ret a).bind f = f a := rfl
theorem ite_split {p : Prop} [Decidable p] {A B : Prop} (h1 : p → A) (h2 : ¬ p → B) : if p then A else B := by split; exact h1 (by assumption); exact h2 (by assumption)
@[congr] theorem Q.bind_congr {α γ : Type} {q q' : Q α} {f : α → Q γ} (h : q = q') : q.bind f = q'.bind f := by rw [h]
end Go.Proofs.YtapdaefpkddioaaGreat.Pe
