/- A part of the proof of JdH. -/
import Derived.Test.YtmhinddneefmbaaGreatKf13
set_option linter.unusedSimpArgs false
set_option linter.unusedVariables false
set_option linter.unusedSectionVars false
namespace Go.Proofs.YtmhinddneefmbaaGreat.Pe
open Go
noncomputable def applyUps (us : List (Nat × AV)) (E : Env) : Env := us.foldl (fun E x => upd E x.1 x.2) E
noncomputable def lastUp (us : List (Nat × AV)) (s : Nat) (v : AV) : AV := us.foldl (fun v x => if s = x.1 then x.2 else v) v
theorem applyUps_at (us : List (Nat × AV)) : ∀ (E : Env) (s : Nat), applyUps us E s = lastUp us s (E s) := by
  induction us with
  | nil => intro E s; rfl
  | cons x us ih =>
    intro E s
    show applyUps us (upd E x.1 x.2) s = lastUp us s _
    rw [ih]
    rfl
theorem lastUp_not {us : List (Nat × AV)} {s : Nat} (h : s ∉ us.map (·.1)) (v : AV) : lastUp us s v = v := by
  induction us generalizing v with
  | nil => rfl
  | cons x us ih =>
    simp only [List.map_cons, List.mem_cons, not_or] at h
    show lastUp us s (if s = x.1 then x.2 else v) = v
    rw [if_neg h.1]
    exact ih h.2 v
theorem lastUp_mem {us : List (Nat × AV)} {s : Nat} (h : s ∈ us.map (·.1)) (v v' : AV) : lastUp us s v = lastUp us s v' := by
  induction us generalizing v v' with
  | nil => cases h
  | cons x us ih =>
    show lastUp us s (if s = x.1 then x.2 else v) = lastUp us s (if s = x.1 then x.2 else v')
    by_cases hx : s = x.1
    · rw [if_pos hx, if_pos hx]
    · simp only [List.map_cons, List.mem_cons] at h
      exact ih (h.resolve_left hx) _ _
namespace Q
variable {α : Type}
theorem run_ups {q : Q α} {E E' : Env} {a : α} (h : q.run E = some (a, E')) : E' = applyUps (q.ups E) E := by
  induction q generalizing E with
  | ret b => obtain ⟨_, rfl⟩ := ret_run h; rfl
  | fail => cases h
  | ask s k ih => exact ih _ h
  | set s v k ih => exact ih h
theorem run_congr {q : Q α} {E E1 E' : Env} {a : α} (h : q.run E = some (a, E')) (hr : ∀ s ∈ q.rds E, E1 s = E s) : q.run E1 = some (a, applyUps (q.ups E) E1) := by
  induction q generalizing E E1 with
  | ret b => obtain ⟨rfl, _⟩ := ret_run h; rfl
  | fail => cases h
  | ask s k ih =>
    have hs : E1 s = E s := hr s (by simp [rds])
    show (k (E1 s)).run E1 = _
    rw [hs]
    exact ih _ h fun t ht => hr t (by simp only [rds, List.mem_cons]; exact .inr ht)
  | set s v k ih =>
    refine ih h fun t ht => ?_
    unfold upd
    split
    · rfl
    · exact hr t ht
theorem wpT_run {q : Q α} {K : α → Env → List Nat → List Nat → Prop} {E : Env} {r u : List Nat} (h : q.wpT K E r u) :
    ∃ a E', q.run E = some (a, E') ∧ K a E' ((q.rds E).reverse ++ r) (((q.ups E).map (·.1)).reverse ++ u) := by
  induction q generalizing E r u with
  | ret a => exact ⟨a, E, rfl, h⟩
  | fail => exact h.elim
  | ask s k ih =>
    obtain ⟨a, E', h1, h2⟩ := ih _ h
    exact ⟨a, E', h1, by simpa [rds, ups] using h2⟩
  | set s v k ih =>
    obtain ⟨a, E', h1, h2⟩ := ih h
    exact ⟨a, E', h1, by simpa [rds, ups] using h2⟩
theorem wpT_bind {γ : Type} (q : Q α) (f : α → Q γ) (K : γ → Env → List Nat → List Nat → Prop) (E : Env) (r u : List Nat) : (q.bind f).wpT K E r u = q.wpT (fun a E' r u => (f a).wpT K E' r u) E r u := by
  induction q generalizing E r u with
  | ret a => rfl
  | fail => rfl
  | ask s k ih => exact ih _ _ _ _
  | set s v k ih => exact ih _ _ _
theorem wpT_ite (c : Prop) [Decidable c] (p q : Q α) (K : α → Env → List Nat → List Nat → Prop) (E : Env) (r u : List Nat) : (if c then p else q).wpT K E r u = if c then p.wpT K E r u else q.wpT K E r u := by split <;> rfl
theorem wpT_ret (a : α) (K : α → Env → List Nat → List Nat → Prop) (E : Env) (r u : List Nat) : (Q.ret a).wpT K E r u = K a E r u := rfl
theorem wpT_fail (K : α → Env → List Nat → List Nat → Prop) (E : Env) (r u : List Nat) : (Q.fail : Q α).wpT K E r u = False := rfl
theorem wpT_ask (s : Nat) (k : AV → Q α) (K : α → Env → List Nat → List Nat → Prop) (E : Env) (r u : List Nat) : (Q.ask s k).wpT K E r u = (k (E s)).wpT K E (s :: r) u := rfl
theorem wpT_set (s : Nat) (v : AV) (k : Q α) (K : α → Env → List Nat → List Nat → Prop) (E : Env) (r u : List Nat) : (Q.set s v k).wpT K E r u = k.wpT K (upd E s v) r (s :: u) := rfl
end Q
noncomputable def preds (o : Oper) : List Nat := (o.after.toList.filter (Region.binds .any)).map (·.on)
inductive Anc (ops : Array Oper) : Nat → Nat → Prop
  | step {i j : Nat} {o : Oper} (ho : ops[j]? = some o) (hi : i ∈ preds o) : Anc ops i j
  | trans {i p j : Nat} {o : Oper} (ho : ops[j]? = some o) (hp : p ∈ preds o) (h : Anc ops i p) : Anc ops i j
noncomputable def rowsOn : List Oper → List (List Bool) → List (List Bool)
  | [], acc => acc
  | o :: l, acc => rowsOn l (acc ++ [(List.range acc.length).map fun i => (preds o).any fun p => p == i || (acc.getD p []).getD i false])
theorem getD_app {α : Type} (l : List α) (x d : α) (j : Nat) : (l ++ [x]).getD j d = if j < l.length then l.getD j d else if j = l.length then x else d := by
  rw [List.getD_eq_getElem?_getD, List.getD_eq_getElem?_getD]
  split
  · rw [List.getElem?_append_left (by assumption)]
  · rename_i h
    rw [List.getElem?_append_right (by omega)]
    split
    · rename_i h'; subst h'; simp
    · rw [List.getElem?_eq_none (by simp; omega)]; rfl
theorem rowsOn_anc (ops : Array Oper) : ∀ (l : List Oper) (acc : List (List Bool)), (∀ j, l[j]? = ops[acc.length + j]?) → (∀ j i, (acc.getD j []).getD i false = true → Anc ops i j) → ∀ j i, ((rowsOn l acc).getD j []).getD i false = true → Anc ops i j
  | [], acc, _, h => h
  | o :: l, acc, hl, h => by
    refine rowsOn_anc ops l _ (fun j => ?_) (fun j i hij => ?_)
    · have := hl (j + 1)
      simpa [Nat.add_assoc, Nat.add_comm 1 j] using this
    · rw [getD_app] at hij
      split at hij
      · exact h j i hij
      · split at hij
        · rename_i hj
          subst hj
          rw [List.getD_eq_getElem?_getD, List.getElem?_map] at hij
          cases hr : (List.range acc.length)[i]? with
          | none => rw [hr] at hij; cases hij
          | some i' =>
            have hi' : i' = i := by
              have := List.getElem?_eq_some_iff.1 hr
              obtain ⟨h1, h2⟩ := this
              simpa using h2.symm
            subst hi'
            rw [hr] at hij
            simp only [Option.map_some, Option.getD_some, List.any_eq_true, Bool.or_eq_true, beq_iff_eq] at hij
            obtain ⟨p, hp, hpi⟩ := hij
            have ho : ops[acc.length]? = some o := by have := hl 0; simpa using this.symm
            rcases hpi with hpi | hpi
            · subst hpi; exact .step ho hp
            · exact .trans ho hp (h p _ hpi)
        · simp at hij
noncomputable def disj (a b : List Nat) : Bool := a.all fun x => !b.contains x
noncomputable def indep (ops : Array Oper) (fp : List (List Nat × List Nat)) : Bool :=
  let rows := rowsOn ops.toList []
  (List.range ops.size).all fun j =>
    (match ops[j]? with | some o => (preds o).all fun p => decide (p < j) | none => true) &&
    (List.range j).all fun i => (rows.getD j []).getD i false ||
      (let x := fp.getD i ([], []); let y := fp.getD j ([], []); disj x.2 y.1 && disj x.2 y.2 && disj y.2 x.1)
noncomputable def drawW (C : Ctx) (ops : Array Oper) : Nat → List Oper → (Env → List (List Nat × List Nat) → Prop) → Env → List (List Nat × List Nat) → Prop
  | _, [], K, E, acc => K E acc.reverse
  | k, o :: l, K, E, acc => (grdQ C ops k o).wpT (fun _ E' r u => drawW C ops (k + 1) l K E' ((r, u) :: acc)) E [] []
inductive Txt (C : Ctx) (ops : Array Oper) : Nat → List Oper → Env → Env → List (List Nat × List (Nat × AV)) → Prop
  | nil (k : Nat) (E : Env) : Txt C ops k [] E E []
  | cons {k : Nat} {o : Oper} {l : List Oper} {E E' E1 : Env} {fp : List (List Nat × List (Nat × AV))} (h : (grdQ C ops k o).run E = some ((), E')) (t : Txt C ops (k + 1) l E' E1 fp) :
      Txt C ops k (o :: l) E E1 (((grdQ C ops k o).rds E, (grdQ C ops k o).ups E) :: fp)
theorem drawW_txt {C : Ctx} {ops : Array Oper} : ∀ (l : List Oper) (k : Nat) (K : Env → List (List Nat × List Nat) → Prop) (E : Env) (acc : List (List Nat × List Nat)), drawW C ops k l K E acc →
    ∃ E1 fp, Txt C ops k l E E1 fp ∧ K E1 (acc.reverse ++ fp.map fun x => (x.1.reverse, (x.2.map (·.1)).reverse))
  | [], k, K, E, acc, h => ⟨E, [], .nil k E, by simpa [drawW] using h⟩
  | o :: l, k, K, E, acc, h => by
    obtain ⟨_, E', h1, h2⟩ := Q.wpT_run h
    obtain ⟨E1, fp, h3, h4⟩ := drawW_txt l (k + 1) K E' _ h2
    refine ⟨E1, _, .cons h1 h3, ?_⟩
    simpa using h4
noncomputable def valA (fp : List (List Nat × List (Nat × AV))) (L : List Nat) (E : Env) (s : Nat) : AV := L.foldl (fun v j => lastUp (fp.getD j ([], [])).2 s v) (E s)
theorem Txt.at_ {C : Ctx} {ops : Array Oper} {k : Nat} {l : List Oper} {E E1 : Env} {fp : List (List Nat × List (Nat × AV))} (h : Txt C ops k l E E1 fp) : fp.length = l.length ∧ (∀ s, E1 s = valA fp (List.range l.length) E s) ∧
    ∀ (i : Nat) o, l[i]? = some o → ∃ Ei Ei', (grdQ C ops (k + i) o).run Ei = some ((), Ei') ∧ fp.getD i ([], []) = ((grdQ C ops (k + i) o).rds Ei, (grdQ C ops (k + i) o).ups Ei) ∧ ∀ s, Ei s = valA fp (List.range i) E s := by
  induction h with
  | nil k E => exact ⟨rfl, fun s => rfl, fun i o ho => by simp at ho⟩
  | @cons k o l E E' E1 fp h t ih =>
    obtain ⟨i1, i2, i3⟩ := ih
    have hsh : ∀ (L : List Nat) s, valA (((grdQ C ops k o).rds E, (grdQ C ops k o).ups E) :: fp) (L.map (· + 1)) E' s = valA fp L E' s := by
      intro L s
      unfold valA
      rw [List.foldl_map]
      rfl
    have hE' : ∀ s, E' s = lastUp ((grdQ C ops k o).ups E) s (E s) := fun s => by rw [Q.run_ups h, applyUps_at]
    have hr : ∀ n s, valA (((grdQ C ops k o).rds E, (grdQ C ops k o).ups E) :: fp) (List.range (n + 1)) E s = valA fp (List.range n) E' s := by
      intro n s
      rw [List.range_succ_eq_map, ← hsh]
      unfold valA
      rw [List.foldl_cons, hE' s]
      rfl
    refine ⟨by simp [i1], fun s => ?_, fun i o' ho => ?_⟩
    · rw [i2, List.length_cons, hr]
    · cases i with
      | zero =>
        simp at ho; subst ho
        exact ⟨E, E', h, rfl, fun s => rfl⟩
      | succ i =>
        simp at ho
        obtain ⟨Ei, Ei', h1, h2, h3⟩ := i3 i o' ho
        refine ⟨Ei, Ei', by rw [show k + (i + 1) = k + 1 + i by omega]; exact h1, by rw [show k + (i + 1) = k + 1 + i by omega]; exact h2, fun s => ?_⟩
        rw [h3, hr]
noncomputable def wrs (fp : List (List Nat × List (Nat × AV))) (s j : Nat) : Bool := ((fp.getD j ([], [])).2.map (·.1)).contains s
theorem valA_filter (fp : List (List Nat × List (Nat × AV))) (E : Env) (s : Nat) (L : List Nat) : valA fp L E s = valA fp (L.filter (wrs fp s)) E s := by
  unfold valA
  generalize E s = v
  induction L generalizing v with
  | nil => rfl
  | cons j L ih =>
    rw [List.foldl_cons, List.filter_cons]
    by_cases hj : wrs fp s j = true
    · rw [if_pos hj, List.foldl_cons]; exact ih _
    · rw [if_neg hj, lastUp_not (by simpa [wrs] using hj)]; exact ih _
theorem range_filter_lt (p : Nat → Bool) {i n : Nat} (h : i ≤ n) : (List.range i).filter p = (List.range n).filter (fun j => decide (j < i) && p j) := by
  induction n with
  | zero => simp at h; subst h; rfl
  | succ n ih =>
    rcases Nat.lt_or_ge n i with hn | hn
    · have : i = n + 1 := by omega
      subst this
      refine List.filter_congr fun j hj => ?_
      simp [List.mem_range.1 hj]
    · rw [List.range_succ, List.filter_append, ← ih hn]
      have : ¬ n < i := by omega
      simp [this]
noncomputable def atS (fp : List (List Nat × List (Nat × AV))) (n : Nat) (S : Nat → Bool) (E : Env) : Env := fun s => valA fp ((List.range n).filter S) E s
section
variable {P : Program} {C : Ctx} {ops : Array Oper} {E0 E1 : Env} {fp : List (List Nat × List (Nat × AV))}
noncomputable def Un (fp : List (List Nat × List (Nat × AV))) (i j : Nat) : Prop :=
  (∀ s, wrs fp s i = true → s ∉ (fp.getD j ([], [])).1) ∧ (∀ s, wrs fp s i = true → wrs fp s j = false) ∧ ∀ s, wrs fp s j = true → s ∉ (fp.getD i ([], [])).1
theorem disj_iff {a b : List Nat} (h : disj a b = true) : ∀ s ∈ a, s ∉ b := fun s hs hb => by
  have := List.all_eq_true.1 h s hs
  simp at this; exact this hb
theorem indep_sound (h : indep ops (fp.map fun x => (x.1.reverse, (x.2.map (·.1)).reverse)) = true) : (∀ j o, ops[j]? = some o → ∀ p ∈ preds o, p < j) ∧ ∀ i j, i < j → j < ops.size → Anc ops i j ∨ Un fp i j := by
  unfold indep at h
  simp only [List.all_eq_true, List.mem_range, Bool.and_eq_true, Bool.or_eq_true] at h
  refine ⟨fun j o ho p hp => ?_, fun i j hij hj => ?_⟩
  · have hj : j < ops.size := (Array.getElem?_eq_some_iff.1 ho).1
    have := (h j hj).1
    rw [ho] at this
    simp only [List.all_eq_true, decide_eq_true_eq] at this
    exact this p hp
  · rcases (h j hj).2 i hij with h1 | h1
    · exact .inl (rowsOn_anc ops ops.toList [] (fun j => by simp) (fun j i hc => by simp at hc) j i h1)
    · right
      have hg : ∀ k, (fp.map fun x => (x.1.reverse, (x.2.map (·.1)).reverse)).getD k ([], []) = ((fp.getD k ([], [])).1.reverse, ((fp.getD k ([], [])).2.map (·.1)).reverse) := by
        intro k
        simp only [List.getD_eq_getElem?_getD, List.getElem?_map]
        cases fp[k]? <;> rfl
      rw [hg, hg] at h1
      obtain ⟨⟨d1, d2⟩, d3⟩ := h1
      have m : ∀ s k, wrs fp s k = true ↔ s ∈ ((fp.getD k ([], [])).2.map (·.1)).reverse := fun s k => by simp [wrs]
      refine ⟨fun s hs hr => disj_iff d1 s ((m s i).1 hs) (by simpa using hr), fun s hs => ?_, fun s hs hr => disj_iff d3 s ((m s j).1 hs) (by simpa using hr)⟩
      have := disj_iff d2 s ((m s i).1 hs)
      rw [← m] at this
      simpa using this
theorem Anc.closed {S : Nat → Bool} (hcl : ∀ j o, ops[j]? = some o → S j = true → ∀ p ∈ preds o, S p = true) {i j : Nat} (h : Anc ops i j) (hj : S j = true) : S i = true := by
  induction h with
  | step ho hi => exact hcl _ _ ho hj _ hi
  | trans ho hp _ ih => exact ih (hcl _ _ ho hj _ hp)
theorem Anc.of_preds {S : Nat → Bool} (hcl : ∀ j o, ops[j]? = some o → S j = true → ∀ p ∈ preds o, S p = true) {i j : Nat} {o : Oper} (ho : ops[j]? = some o) (hp : ∀ p ∈ preds o, S p = true) (h : Anc ops i j) : S i = true := by
  cases h with
  | step ho' hi => rw [ho] at ho'; injection ho' with ho'; subst ho'; exact hp _ hi
  | trans ho' hp' h => rw [ho] at ho'; injection ho' with ho'; subst ho'; exact h.closed hcl (hp _ hp')
theorem atS_step (hind : (∀ j o, ops[j]? = some o → ∀ p ∈ preds o, p < j) ∧ ∀ i j, i < j → j < ops.size → Anc ops i j ∨ Un fp i j) {S : Nat → Bool} (hcl : ∀ j o, ops[j]? = some o → S j = true → ∀ p ∈ preds o, S p = true)
    {i : Nat} {o : Oper} (ho : ops[i]? = some o) (hS : S i = false) (hp : ∀ p ∈ preds o, S p = true) :
    (∀ s ∈ (fp.getD i ([], [])).1, atS fp ops.size S E0 s = valA fp (List.range i) E0 s) ∧ applyUps (fp.getD i ([], [])).2 (atS fp ops.size S E0) = atS fp ops.size (fun j => S j || j == i) E0 := by
  have hi : i < ops.size := (Array.getElem?_eq_some_iff.1 ho).1
  have lo : ∀ j, j < i → S j = false → Un fp j i := fun j hj hs => (hind.2 j i hj hi).resolve_left fun h => by
    have := h.of_preds hcl ho hp; rw [hs] at this; cases this
  have hi' : ∀ j, i < j → j < ops.size → S j = true → Un fp i j := fun j hj hjn hs => (hind.2 i j hj hjn).resolve_left fun h => by
    have := h.closed hcl hs; rw [hS] at this; cases this
  refine ⟨fun s hs => ?_, funext fun s => ?_⟩
  · unfold atS
    rw [valA_filter fp E0 s ((List.range ops.size).filter S), valA_filter fp E0 s (List.range i), range_filter_lt _ (Nat.le_of_lt hi), List.filter_filter]
    congr 1
    refine List.filter_congr fun j hj => ?_
    have hjn := List.mem_range.1 hj
    cases hw : wrs fp s j with
    | false => simp
    | true =>
      simp only [Bool.true_and, Bool.and_true]
      rcases Nat.lt_trichotomy j i with h | h | h
      · cases hSj : S j with
        | true => simp [h]
        | false => exact absurd hs ((lo j h hSj).1 s hw)
      · subst h; simp [hS]
      · cases hSj : S j with
        | true => exact absurd hs ((hi' j h hjn hSj).2.2 s hw)
        | false => simp; omega
  · rw [applyUps_at]
    unfold atS
    cases hw : wrs fp s i with
    | false =>
      rw [lastUp_not (by simpa [wrs] using hw), valA_filter fp E0 s ((List.range ops.size).filter S), valA_filter fp E0 s ((List.range ops.size).filter fun j => S j || j == i), List.filter_filter, List.filter_filter]
      congr 1
      refine List.filter_congr fun j _ => ?_
      by_cases h : j = i
      · subst h; simp [hw]
      · have : (j == i) = false := by simpa using h
        simp [this]
    | true =>
      have e : ((List.range ops.size).filter fun j => S j || j == i).filter (wrs fp s) = (((List.range ops.size).filter S).filter (wrs fp s)) ++ [i] := by
        rw [List.filter_filter, List.filter_filter]
        have h1 : (List.range ops.size).filter (fun j => wrs fp s j && (S j || j == i)) = (List.range (i + 1)).filter (fun j => wrs fp s j && (S j || j == i)) := by
          rw [range_filter_lt _ (show i + 1 ≤ ops.size by omega)]
          refine List.filter_congr fun j hj => ?_
          have hjn := List.mem_range.1 hj
          by_cases h : j < i + 1
          · simp [h]
          · simp only [h, decide_false, Bool.false_and]
            cases hSj : S j with
            | true =>
              have := (hi' j (by omega) hjn hSj).2.1 s hw
              simp [this]
            | false =>
              have : (j == i) = false := by simp; omega
              simp [this]
        have h2 : (List.range ops.size).filter (fun j => wrs fp s j && S j) = (List.range i).filter (fun j => wrs fp s j && S j) := by
          rw [range_filter_lt _ (Nat.le_of_lt hi)]
          refine List.filter_congr fun j hj => ?_
          have hjn := List.mem_range.1 hj
          by_cases h : j < i
          · simp [h]
          · simp only [h, decide_false, Bool.false_and]
            rcases Nat.lt_or_ge i j with h' | h'
            · cases hSj : S j with
              | true =>
                have := (hi' j h' hjn hSj).2.1 s hw
                simp [this]
              | false => simp
            · have : j = i := by omega
              subst this; simp [hS]
        rw [h1, h2, List.range_succ, List.filter_append]
        congr 1
        · refine List.filter_congr fun j hj => ?_
          have : (j == i) = false := by have := List.mem_range.1 hj; simp; omega
          simp [this]
        · simp [hw]
      rw [valA_filter fp E0 s ((List.range ops.size).filter fun j => S j || j == i), e]
      unfold valA
      rw [List.foldl_append]
      exact lastUp_mem (by simpa [wrs] using hw) _ _
theorem all_listed (hlt : ∀ j o, ops[j]? = some o → ∀ p ∈ preds o, p < j) {L : Array Bool} (hsz : L.size = ops.size) (hr : Region.ready .any ops L = []) : ∀ j, j < ops.size → L.getD j false = true := by
  intro j
  induction j using Nat.strongRecOn with
  | _ j ih =>
    intro hj
    cases hL : L.getD j false with
    | true => rfl
    | false =>
      have hjL : j < L.size := by omega
      have hLt : L.getD j true = false := by
        rw [Array.getD_eq_getD_getElem?, Array.getElem?_eq_getElem hjL] at hL ⊢
        exact hL
      have : j ∈ Region.ready .any ops L := by
        unfold Region.ready
        rw [List.mem_filter]
        refine ⟨List.mem_range.2 hj, ?_⟩
        rw [Array.getElem?_eq_getElem hj]
        simp only [hLt, Bool.not_false, Bool.true_and, Option.map_some, Option.getD_some, Array.all_eq_true_iff_forall_mem, Bool.or_eq_true, Bool.not_eq_true']
        intro e he
        cases hb : Region.binds .any e with
        | false => exact .inl rfl
        | true =>
          right
          have hp : e.on ∈ preds ops[j] := List.mem_map.2 ⟨e, List.mem_filter.2 ⟨Array.mem_toList_iff.2 he, hb⟩, rfl⟩
          have := hlt j ops[j] (Array.getElem?_eq_getElem hj) _ hp
          exact ih e.on this (by omega)
      rw [hr] at this; cases this
theorem any_sound {ro : Option Nat} {n : Nat} {Qx : Exit → Act → World → Prop} (hC : C.Ok P) (htxt : Txt C ops 0 ops.toList E0 E1 fp) (hind : (∀ j o, ops[j]? = some o → ∀ p ∈ preds o, p < j) ∧ ∀ i j, i < j → j < ops.size → Anc ops i j ∨ Un fp i j) :
    ∀ (fuel : Nat) (L : Array Bool) (a : Act) (w : World) (ι β : Nat → Option Nat) (M : Nat → Prop), L.size = ops.size → ((List.range ops.size).filter fun j => !L.getD j false).length ≤ fuel → (∀ j o, ops[j]? = some o → L.getD j false = true → ∀ p ∈ preds o, L.getD p false = true) →
    Sim C (atS fp ops.size (fun j => L.getD j false) E0) a w ι β M → Gens (atS fp ops.size (fun j => L.getD j false) E0) (fun g => g = 0 ∨ ∃ j, L.getD j false = true ∧ g = j + 1) →
    (∀ a' w' ι' β' M', Sim C E1 a' w' ι' β' M' → Gens E1 (fun _ => True) → Evo C.X M w M' w' → (∀ o b, ι o = some b → ι' o = some b) → Qx .normal a' w') → wpAnyIn (Fx ro) n P .any ops Qx fuel L a w := by
  have hn : ops.toList.length = ops.size := Array.length_toList
  obtain ⟨_, hE1, hat⟩ := htxt.at_
  have hend : ∀ (L : Array Bool), (∀ j, j < ops.size → L.getD j false = true) → atS fp ops.size (fun j => L.getD j false) E0 = E1 := fun L hL => by
    funext s
    unfold atS
    rw [hE1, hn, List.filter_eq_self.2 (fun j hj => hL j (List.mem_range.1 hj))]
  intro fuel
  induction fuel with
  | zero =>
    intro L a w ι β M hsz hf hcl h hg hK
    have hall : ∀ j, j < ops.size → L.getD j false = true := fun j hj => by
      have : (List.range ops.size).filter (fun j => !L.getD j false) = [] := List.eq_nil_of_length_eq_zero (by omega)
      have := (List.filter_eq_nil_iff.1 this) j (List.mem_range.2 hj)
      simpa using this
    rw [hend L hall] at h hg
    refine ⟨?_, hK _ _ _ _ _ h (hg.mono fun _ _ => trivial) (Evo.refl _ _) (fun _ _ h => h)⟩
    unfold Region.ready
    rw [List.filter_eq_nil_iff]
    intro j hj
    have hjL : j < L.size := by have := List.mem_range.1 hj; omega
    have := hall j (List.mem_range.1 hj)
    rw [Array.getD_eq_getD_getElem?, Array.getElem?_eq_getElem hjL] at this
    simp only [Option.getD_some] at this
    simp [Array.getElem?_eq_getElem hjL, this]
  | succ fuel ih =>
    intro L a w ι β M hsz hf hcl h hg hK
    refine ⟨fun hr => ?_, fun i hi => ?_⟩
    · rw [hend L (all_listed hind.1 hsz hr)] at h hg
      exact hK _ _ _ _ _ h (hg.mono fun _ _ => trivial) (Evo.refl _ _) (fun _ _ h => h)
    · unfold Region.ready at hi
      rw [List.mem_filter] at hi
      obtain ⟨hi1, hi2⟩ := hi
      have hin := List.mem_range.1 hi1
      have hiL : i < L.size := by omega
      have ho : ops[i]? = some ops[i] := Array.getElem?_eq_getElem hin
      rw [ho] at hi2
      simp only [Option.map_some, Option.getD_some, Bool.and_eq_true, Bool.not_eq_true', Array.all_eq_true_iff_forall_mem, Bool.or_eq_true] at hi2
      obtain ⟨hi3, hi4⟩ := hi2
      have hSi : L.getD i false = false := by
        rw [Array.getD_eq_getD_getElem?, Array.getElem?_eq_getElem hiL] at hi3 ⊢
        exact hi3
      have hp : ∀ p ∈ preds ops[i], L.getD p false = true := by
        intro p hp
        obtain ⟨e, he, rfl⟩ := List.mem_map.1 hp
        obtain ⟨he1, he2⟩ := List.mem_filter.1 he
        rcases hi4 e (Array.mem_toList_iff.1 he1) with h1 | h1
        · rw [he2] at h1; cases h1
        · exact h1
      obtain ⟨hrd, hup⟩ := atS_step (E0 := E0) hind (S := fun j => L.getD j false) hcl ho hSi hp
      obtain ⟨Ei, Ei', hrun, hfp, hEi⟩ := hat i ops[i] (by simp)
      simp only [Nat.zero_add] at hrun hfp
      have hrun' := Q.run_congr hrun (E1 := atS fp ops.size (fun j => L.getD j false) E0) (fun s hs => by rw [hEi]; exact hrd s (by rw [hfp]; exact hs))
      rw [show (grdQ C ops i ops[i]).ups Ei = (fp.getD i ([], [])).2 by rw [hfp], hup] at hrun'
      have hget : ∀ j, (L.setIfInBounds i true).getD j false = (L.getD j false || j == i) := by
        intro j
        rw [Array.getD_eq_getD_getElem?, Array.getD_eq_getD_getElem?, Array.getElem?_setIfInBounds]
        by_cases hji : i = j
        · subst hji; simp [hiL]
        · have : (j == i) = false := by simp; omega
          simp [hji, this]
      have hfun : (fun j => (L.setIfInBounds i true).getD j false) = fun j => L.getD j false || j == i := funext hget
      have hg2 : Gens (atS fp ops.size (fun j => L.getD j false || j == i) E0) (fun g => g = 0 ∨ ∃ j, (L.setIfInBounds i true).getD j false = true ∧ g = j + 1) := by
        refine ((grd_gen (U := fun g => g = 0 ∨ ∃ j, (L.setIfInBounds i true).getD j false = true ∧ g = j + 1) (.inr ⟨i, by rw [hget]; simp, rfl⟩)).run (hg.mono fun g hg => ?_) hrun').1
        rcases hg with h1 | ⟨j, h1, h2⟩
        · exact .inl h1
        · exact .inr ⟨j, by rw [hget, h1]; rfl, h2⟩
      refine grd_sound hC ho hrun' h hg (fun hc => ?_) ?_
      · rcases hc with hc | ⟨j, h1, h2⟩
        · omega
        · have : j = i := by omega
          subst this; rw [hSi] at h1; cases h1
      · intro a' w' ι' β' M' s e hi'
        refine ih (L.setIfInBounds i true) a' w' ι' β' M' (by simp [hsz]) ?_ ?_ (by rw [hfun]; exact s) (by rw [hfun]; exact hg2) fun a2 w2 ι2 β2 M2 s2 g2 e2 i2 => hK a2 w2 ι2 β2 M2 s2 g2 (e.trans e2) (fun o b h => i2 _ _ (hi' _ _ h))
        · have : ((List.range ops.size).filter fun j => !(L.setIfInBounds i true).getD j false).length < ((List.range ops.size).filter fun j => !L.getD j false).length := by
            have hsub : (List.range ops.size).filter (fun j => !(L.setIfInBounds i true).getD j false) = ((List.range ops.size).filter fun j => !L.getD j false).filter (fun j => !(j == i)) := by
              rw [List.filter_filter]
              refine List.filter_congr fun j _ => ?_
              rw [hget]
              cases L.getD j false <;> cases (j == i) <;> rfl
            rw [hsub]
            refine List.length_filter_lt_length_iff_exists.2 ⟨i, List.mem_filter.2 ⟨hi1, by rw [hSi]; rfl⟩, by simp⟩
          omega
        · intro j o hj hjl p hpj
          rw [hget] at hjl ⊢
          cases hLj : L.getD j false with
          | true => rw [hcl j o hj hLj p hpj]; rfl
          | false =>
            rw [hLj] at hjl
            have : j = i := by simpa using hjl
            subst this
            rw [ho] at hj; injection hj with hj; subst hj
            rw [hp p hpj]; rfl
theorem draw_sound0 {ro : Option Nat} {n : Nat} {id : Nat} {Qx : Exit → Act → World → Prop} {a : Act} {w : World} {ι β : Nat → Option Nat} {M : Nat → Prop} {K : Env → Prop} (hm : P.follows .mixedOrders = true) (hC : C.Ok P)
    (hq : drawW C ops 0 ops.toList (fun E fp => indep ops fp = true ∧ K E) E0 []) (h : Sim C E0 a w ι β M) (hg : Gens E0 (· ≤ 0))
    (hK : ∀ E' a' w' ι' β' M', K E' → Sim C E' a' w' ι' β' M' → Evo C.X M w M' w' → (∀ o b, ι o = some b → ι' o = some b) → Qx .normal a' w') : (Code.region id ops true).wpIn (Fx ro) n P Qx a w := by
  obtain ⟨E1, fp, htxt, hin, hk⟩ := drawW_txt _ _ _ _ _ hq
  simp only [List.reverse_nil, List.nil_append] at hin hk
  refine wpIn_region_any hm ?_
  have hd : Sim C E0 a { w with drawn := w.drawn + 1 } ι β M := h.world ⟨rfl, rfl, rfl, Nat.le_refl _, fun _ _ _ => rfl, fun _ _ h => h, fun _ _ _ => rfl, .of fun _ _ => rfl⟩ (fun _ h => h) h.lt (fun _ _ _ => rfl) (fun _ _ _ _ _ => rfl)
  have h0 : atS fp ops.size (fun j => (Array.replicate ops.size false).getD j false) E0 = E0 := by
    funext s
    unfold atS
    have : (List.range ops.size).filter (fun j => (Array.replicate ops.size false).getD j false) = [] := List.filter_eq_nil_iff.2 fun j _ => by
      rw [Array.getD_eq_getD_getElem?, Array.getElem?_replicate]
      split <;> simp
    rw [this]; rfl
  refine any_sound hC htxt (indep_sound hin) ops.size _ a _ ι β M (by simp) ?_ ?_ (by rw [h0]; exact hd) (by rw [h0]; exact hg.mono fun g hg => .inl (by omega)) fun a' w' ι' β' M' s _ e i => ?_
  · exact Nat.le_trans (List.length_filter_le _ _) (by simp)
  · intro j o _ hj
    rw [Array.getD_eq_getD_getElem?, Array.getElem?_replicate] at hj
    split at hj <;> simp at hj
  · exact hK _ a' w' ι' _ M' hk s ⟨e.os, e.tape, e.output, e.size, e.same, e.back, e.keep, e.shape⟩ i
theorem draw_sound {ro : Option Nat} {n : Nat} {id : Nat} {Qx : Exit → Act → World → Prop} {a : Act} {w : World} {ι β : Nat → Option Nat} {M : Nat → Prop} {K : Env → Prop} (hm : P.follows .mixedOrders = true) (hC : C.Ok P)
    (hq : drawW C ops 0 ops.toList (fun E fp => indep ops fp = true ∧ K (norm (C.keep id) E)) E0 []) (h : Sim C E0 a w ι β M) (hg : Gens E0 (· ≤ 0))
    (hK : ∀ E' a' w' ι' β' M', K E' → Sim C E' a' w' ι' β' M' → Gens E' (· ≤ 0) → Evo C.X M w M' w' → (∀ o b, ι o = some b → ι' o = some b) → Qx .normal a' w') : (Code.region id ops true).wpIn (Fx ro) n P Qx a w := by
  exact draw_sound0 (id := id) (K := fun E => K (norm (C.keep id) E)) hm hC hq h hg fun E' a' w' ι' β' M' hk s e i => hK _ a' w' ι' _ M' hk (s.normed _) (norm_gens _ _) e i
end
end Go.Proofs.YtmhinddneefmbaaGreat.Pe
