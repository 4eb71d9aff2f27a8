/- A part of the proof of JbH. -/
import Derived.RangeFuncLeaves
import Derived.Test.YtmhinddneefmbaaGreatKw19
set_option linter.unusedSimpArgs false
set_option linter.unusedVariables false
set_option linter.unusedSectionVars false
namespace Go.Proofs.YtmhinddneefmbaaGreat.Pe
open Go
namespace Tr
def map {α γ : Type} (g : α → Option γ) : Tr α → Tr γ
  | .leaf => .leaf
  | .node v l r => .node (v.bind g) (l.map g) (r.map g)
theorem get_map {α γ : Type} (g : α → Option γ) : ∀ (t : Tr α) (n : Nat), (t.map g).get n = (t.get n).bind g
  | .leaf, n => rfl
  | .node v l r, 0 => rfl
  | .node v l r, n + 1 => by
    simp only [map, get_succ]
    split
    · exact get_map g l _
    · exact get_map g r _
end Tr
noncomputable def Hp.flat : Hp → Option (Tr PObj)
  | .tr t => some t
  | .upd H o x => if o < 1000000000 then H.flat.map (fun t => t.set x 30 o) else none
theorem Hp.flat_get : ∀ (H : Hp) (t : Tr PObj), H.flat = some t → ∀ o, H o = t.get o
  | .tr t, t', h, o => by simp only [flat, Option.some.injEq] at h; subst h; rfl
  | .upd H o' x, t', h, o => by
    simp only [flat] at h
    split at h
    · rename_i ho
      cases hf : H.flat with
      | none => rw [hf] at h; cases h
      | some t =>
        rw [hf] at h
        simp only [Option.map_some, Option.some.injEq] at h
        subst h
        rw [Tr.get_set _ _ _ _ (by omega), ← Hp.flat_get H t hf o]
        rfl
    · cases h
structure St where
  t : Tr AV
  H : Hp
  nx : Nat
noncomputable def St.env (s : St) : Env := fun i => Bool.rec (motive := fun _ => AV) (Option.rec (motive := fun _ => AV) .junk (fun v => v) (s.t.get i)) (.heap s.H s.nx) (Nat.beq i 1000000)
def AV.plain : AV → Bool
  | .v _ | .tup _ | .imm _ _ _ | .junk => true
  | _ => false
noncomputable def AV.put (s : St) (v : AV) : Option St := match v with
  | .heap H nx => some ⟨s.t, H, nx⟩
  | _ => none
noncomputable def St.set (s : St) (i : Nat) (v : AV) : Option St :=
  Bool.rec (motive := fun _ => Option St) (Bool.rec (motive := fun _ => Option St) none (some ⟨s.t.set (some v) 30 i, s.H, s.nx⟩) (Nat.blt i 1000000)) (v.put s) (Nat.beq i 1000000)
theorem beq_gs_ne {i : Nat} (h : i ≠ gs) : Nat.beq i 1000000 = false := by
  cases hb : Nat.beq i 1000000 with
  | true => exact absurd (Nat.eq_of_beq_eq_true hb) h
  | false => rfl
theorem St.env_gs (s : St) : s.env gs = .heap s.H s.nx := rfl
theorem St.env_ne (s : St) {i : Nat} (h : i ≠ gs) : s.env i = (s.t.get i).getD .junk := by
  unfold St.env
  rw [beq_gs_ne h]
  cases s.t.get i <;> rfl
theorem St.env_H (s : St) (H : Hp) (nx : Nat) : (⟨s.t, H, nx⟩ : St).env = upd s.env gs (.heap H nx) := by
  funext i
  by_cases hi : i = gs
  · subst hi; rw [St.env_gs, upd_same]
  · rw [St.env_ne _ hi, upd_ne _ _ hi, St.env_ne _ hi]
theorem St.set_env {s s' : St} {i : Nat} {v : AV} (h : s.set i v = some s') : s'.env = upd s.env i v := by
  unfold St.set at h
  by_cases hi : i = gs
  · subst hi
    have h' : v.put s = some s' := h
    unfold AV.put at h'
    split at h'
    · injection h' with h'; subst h'
      exact St.env_H s _ _
    · cases h'
  · rw [beq_gs_ne hi] at h
    cases hb : Nat.blt i 1000000 with
    | false => rw [hb] at h; cases h
    | true =>
      rw [hb] at h
      have hlt : i < 1000000 := Nat.le_of_ble_eq_true hb
      injection h with h; subst h
      funext j
      by_cases hj : j = gs
      · subst hj; rw [upd_ne _ _ (fun e => hi e.symm), St.env_gs, St.env_gs]
      · rw [St.env_ne _ hj]
        show ((s.t.set (some v) 30 i).get j).getD .junk = _
        rw [Tr.get_set _ _ _ _ (by omega)]
        by_cases hij : j = i
        · subst hij; rw [if_pos rfl, upd_same]; rfl
        · rw [if_neg hij, upd_ne _ _ hij, St.env_ne _ hj]
namespace Q
noncomputable def runS {α : Type} (q : Q α) : St → List Nat → List Nat → Option (α × St × List Nat × List Nat) :=
  Q.rec (motive := fun _ => St → List Nat → List Nat → Option (α × St × List Nat × List Nat)) (fun a s r u => some (a, s, r, u)) (fun _ _ _ => none) (fun i _ ih s r u => ih (s.env i) s (i :: r) u)
    (fun i v _ ih s r u => Option.rec (motive := fun _ => Option (α × St × List Nat × List Nat)) none (fun s' => ih s' r (i :: u)) (s.set i v)) q
theorem runS_ret {α : Type} (a : α) (s : St) (r u : List Nat) : (Q.ret a).runS s r u = some (a, s, r, u) := rfl
theorem runS_set {α : Type} (i : Nat) (v : AV) (k : Q α) (s : St) (r u : List Nat) : (Q.set i v k).runS s r u = match s.set i v with
    | some s' => k.runS s' r (i :: u)
    | none => none := by
  show Option.rec (motive := fun _ => Option (α × St × List Nat × List Nat)) none (fun s' => k.runS s' r (i :: u)) (s.set i v) = _
  cases s.set i v <;> rfl
theorem runS_run {α : Type} {q : Q α} : ∀ {s s' : St} {r u r' u' : List Nat} {a : α}, q.runS s r u = some (a, s', r', u') → ∀ K : α → Env → List Nat → List Nat → Prop, K a s'.env r' u' → q.wpT K s.env r u := by
  induction q with
  | ret b =>
    intro s s' r u r' u' a h K hK
    simp only [runS_ret, Option.some.injEq, Prod.mk.injEq] at h
    obtain ⟨rfl, rfl, rfl, rfl⟩ := h
    exact hK
  | fail => intro s s' r u r' u' a h; cases h
  | ask i k ih => intro s s' r u r' u' a h K hK; exact ih _ h K hK
  | set i v k ih =>
    intro s s' r u r' u' a h K hK
    rw [runS_set] at h
    split at h
    · rename_i s1 hs
      have := ih h K hK
      rw [St.set_env hs] at this
      exact this
    · cases h
theorem runS_same {α : Type} {q : Q α} : ∀ {s s' : St} {r u r' u' : List Nat} {a : α}, q.runS s r u = some (a, s', r', u') → (∀ i ∈ u, i ∈ u') ∧ ∀ i, i ∉ u' → s'.env i = s.env i := by
  induction q with
  | ret b =>
    intro s s' r u r' u' a h
    simp only [runS_ret, Option.some.injEq, Prod.mk.injEq] at h
    obtain ⟨rfl, rfl, rfl, rfl⟩ := h
    exact ⟨fun _ h => h, fun _ _ => rfl⟩
  | fail => intro s s' r u r' u' a h; cases h
  | ask i k ih => intro s s' r u r' u' a h; exact ih _ h
  | set i v k ih =>
    intro s s' r u r' u' a h
    rw [runS_set] at h
    split at h
    · rename_i s1 hs
      obtain ⟨h1, h2⟩ := ih h
      refine ⟨fun j hj => h1 j (List.mem_cons_of_mem _ hj), fun j hj => ?_⟩
      rw [h2 j hj, St.set_env hs]
      unfold upd
      rw [if_neg]
      intro e; subst e
      exact hj (h1 _ List.mem_cons_self)
    · cases h
end Q
def Plain (s : St) : Prop := ∀ i, i = gs ∨ (s.env i).plain = true
theorem Plain.gens {s : St} (h : Plain s) : Gens s.env (· ≤ 0) := fun i => by
  rcases h i with rfl | h
  · exact trivial
  · cases hE : s.env i <;> rw [hE] at h <;> first | trivial | cases h
noncomputable def runOps (C : Ctx) (ops : Array Oper) : Nat → List Oper → St → List (List Nat × List Nat) → Option (St × List (List Nat × List Nat))
  | _, [], s, acc => some (s, acc.reverse)
  | k, o :: l, s, acc => match (grdQ C ops k o).runS s [] [] with
    | some (_, s', r, u) => if u.all (fun i => i == gs || (s'.env i).plain) then runOps C ops (k + 1) l s' ((r, u) :: acc) else none
    | none => none
theorem runOps_sound {C : Ctx} {ops : Array Oper} : ∀ {l : List Oper} {k : Nat} {s s' : St} {acc fp : List (List Nat × List Nat)}, runOps C ops k l s acc = some (s', fp) → Plain s →
    Plain s' ∧ (runFrom C ops k l).run s.env = some ((), s'.env) ∧ ∀ K : Env → List (List Nat × List Nat) → Prop, K s'.env fp → drawW C ops k l K s.env acc
  | [], k, s, s', acc, fp, h, hp => by
    simp only [runOps, Option.some.injEq, Prod.mk.injEq] at h
    obtain ⟨rfl, rfl⟩ := h
    exact ⟨hp, rfl, fun K hK => hK⟩
  | o :: l, k, s, s', acc, fp, h, hp => by
    simp only [runOps] at h
    split at h
    · rename_i a s1 r u hr
      split at h
      · rename_i hall
        have hp1 : Plain s1 := fun i => by
          by_cases hi : i ∈ u
          · have := List.all_eq_true.1 hall i hi
            simp only [Bool.or_eq_true, beq_iff_eq] at this
            exact this
          · rw [(Q.runS_same hr).2 i hi]; exact hp i
        obtain ⟨h1, h2, h3⟩ := runOps_sound h hp1
        refine ⟨h1, ?_, fun K hK => ?_⟩
        · obtain ⟨_, E', hrun, hE⟩ := Q.wpT_run (Q.runS_run hr (fun _ E' _ _ => E' = s1.env) rfl)
          simp only [runFrom]
          rw [Q.run_bind, hrun, hE]
          exact h2
        · exact Q.runS_run hr (fun _ E' r u => drawW C ops (k + 1) l K E' ((r, u) :: acc)) (h3 K hK)
      · cases h
    · cases h
noncomputable def St.flat (s : St) : Option St := s.H.flat.map fun t => { s with H := .tr t }
end Go.Proofs.YtmhinddneefmbaaGreat.Pe
namespace Go.Proofs.YtmhinddneefmbaaGreat.Pe
open Go
noncomputable def D.same0 : D → D → Bool
  | .int k a, .int k' b => decide (k = k') && decide (a = b)
  | .bool a, .bool b => a == b
  | .str a, .str b => decide (a.data.toList = b.data.toList)
  | .ptr a b c d, .ptr a' b' c' d' => (a == a' && b == b') && (c == c' && d == d')
  | .ref a b c d, .ref a' b' c' d' => (a == a' && b == b') && (c == c' && d == d')
  | .refc a b c d e, .refc a' b' c' d' e' => ((a == a' && b == b') && (c == c' && d == d')) && e == e'
  | .nilp, .nilp => true
  | .nilm, .nilm => true
  | .nilf, .nilf => true
  | .nils, .nils => true
  | .sl [], .sl [] => true
  | .fn f, .fn g => f == g
  | .mp f, .mp g => f == g
  | .yl f, .yl g => f == g
  | _, _ => false
theorem D.same0_eq {x y : D} (h : D.same0 x y = true) : x = y := by
  unfold D.same0 at h
  split at h <;> first
    | cases h; done
    | rfl
    | (simp only [Bool.and_eq_true, decide_eq_true_eq, beq_iff_eq] at h; obtain ⟨rfl, rfl⟩ := h; rfl)
    | (simp only [beq_iff_eq] at h; subst h; rfl)
    | (simp only [Bool.and_eq_true, beq_iff_eq] at h; obtain ⟨⟨rfl, rfl⟩, rfl, rfl⟩ := h; rfl)
    | (simp only [Bool.and_eq_true, beq_iff_eq] at h; obtain ⟨⟨⟨rfl, rfl⟩, rfl, rfl⟩, rfl⟩ := h; rfl)
    | skip
  rename_i a b
  have : a.data.toList = b.data.toList := of_decide_eq_true h
  have : a.data = b.data := Array.toList_inj.1 this
  cases a; cases b; simp_all
noncomputable def all2 {α : Type} (f : α → α → Bool) : List α → List α → Bool
  | [], [] => true
  | x :: l, y :: m => f x y && all2 f l m
  | _, _ => false
theorem all2_eq {α : Type} {f : α → α → Bool} (hf : ∀ x y, f x y = true → x = y) : ∀ (l m : List α), all2 f l m = true → l = m
  | [], [], _ => rfl
  | x :: l, y :: m, h => by
    simp only [all2, Bool.and_eq_true] at h
    rw [hf x y h.1, all2_eq hf l m h.2]
  | [], _ :: _, h => by cases h
  | _ :: _, [], h => by cases h
noncomputable def D.same : D → D → Bool
  | .clo f l, .clo g m => f == g && all2 D.same0 l m
  | x, y => D.same0 x y
theorem D.same_eq {x y : D} (h : D.same x y = true) : x = y := by
  unfold D.same at h
  split at h
  · simp only [Bool.and_eq_true, beq_iff_eq] at h
    obtain ⟨rfl, h⟩ := h
    rw [all2_eq (fun _ _ => D.same0_eq) _ _ h]
  · exact D.same0_eq h
noncomputable def AD.same : AD → AD → Bool
  | .one x, .one y => D.same x y
  | .many l, .many m => all2 D.same l m
  | _, _ => false
theorem AD.same_eq {x y : AD} (h : AD.same x y = true) : x = y := by
  unfold AD.same at h
  split at h
  · rw [D.same_eq h]
  · rw [all2_eq (fun _ _ => D.same_eq) _ _ h]
  · cases h
noncomputable def AV.same : AV → AV → Bool
  | .v x, .v y => AD.same x y
  | .tup l, .tup m => all2 AD.same l m
  | .junk, .junk => true
  | _, _ => false
theorem AV.same_eq {x y : AV} (h : AV.same x y = true) : x = y := by
  unfold AV.same at h
  split at h
  · rw [AD.same_eq h]
  · rw [all2_eq (fun _ _ => AD.same_eq) _ _ h]
  · rfl
  · cases h
abbrev OpRec := St × List Nat × List Nat
noncomputable def runRec (C : Ctx) (ops : Array Oper) (late : List Nat) : Nat → List Oper → St → Option (St × List OpRec)
  | _, [], s => some (s, [])
  | k, o :: l, s => match (grdQ C ops k o).runS s [] [] with
    | some (_, s', r, u) => if u.all (fun i => i == gs || (late.contains i || (s'.env i).plain)) then (runRec C ops late (k + 1) l s').map fun x => (x.1, (s, r, u) :: x.2) else none
    | none => none
noncomputable def stAt (rs : List OpRec) (sf : St) (j : Nat) : St := match rs[j]? with
  | some x => x.1
  | none => sf
noncomputable def rdAt (rs : List OpRec) (j : Nat) : List Nat := match rs[j]? with
  | some x => x.2.1
  | none => []
noncomputable def wrAt (rs : List OpRec) (j : Nat) : List Nat := match rs[j]? with
  | some x => x.2.2
  | none => []
noncomputable def stab (C : Ctx) (ops : Array Oper) (j : Nat) (o : Oper) (pre post h : St) (rd wr : List Nat) : Bool :=
  match (grdQ C ops j o).runS ⟨pre.t, h.H, h.nx⟩ [] [] with
  | some (_, s', r, u) => decide (u = wr) && (r.all (fun x => x == gs || rd.contains x) && (!(u.contains gs) && u.all (fun x => AV.same (s'.env x) (post.env x))))
  | none => false
noncomputable def disjG (a b : List Nat) : Bool := a.all fun x => x == gs || !b.contains x
noncomputable def indepS (C : Ctx) (ops : Array Oper) (rs : List OpRec) (sf : St) : Bool :=
  let rows := rowsOn ops.toList []
  let n := ops.size
  let anc := fun i j => (rows.getD j []).getD i false
  let isW := fun j => (wrAt rs j).contains gs
  (List.range n).all fun j =>
    match ops[j]? with
    | none => true
    | some o =>
      (preds o).all (fun p => decide (p < j)) &&
      ((List.range j).all (fun i => anc i j || (disjG (wrAt rs i) (rdAt rs j) && (disj (wrAt rs i) (wrAt rs j) && disjG (wrAt rs j) (rdAt rs i)))) &&
      (if (rdAt rs j).contains gs && !(isW j) then
        ((List.range n).any (fun m => isW m && anc m j) || stab C ops j o (stAt rs sf j) (stAt rs sf (j + 1)) (stAt rs sf 0) (rdAt rs j) (wrAt rs j)) &&
        (List.range n).all fun m => !(isW m) || (anc j m || ((List.range n).any (fun m' => isW m' && (anc m' j && decide (m < m'))) || stab C ops j o (stAt rs sf j) (stAt rs sf (j + 1)) (stAt rs sf (m + 1)) (rdAt rs j) (wrAt rs j)))
      else true))
noncomputable def fpR (C : Ctx) (ops : Array Oper) : Nat → List Oper → List OpRec → List (List Nat × List (Nat × AV))
  | k, o :: l, x :: rs => ((grdQ C ops k o).rds x.1.env, (grdQ C ops k o).ups x.1.env) :: fpR C ops (k + 1) l rs
  | _, _, _ => []
theorem Q.runS_at {α : Type} {q : Q α} {s s' : St} {r u : List Nat} {a : α} (h : q.runS s [] [] = some (a, s', r, u)) : q.run s.env = some (a, s'.env) ∧ r = (q.rds s.env).reverse ∧ u = ((q.ups s.env).map (·.1)).reverse := by
  obtain ⟨a', E', h1, h2, h3, h4, h5⟩ := Q.wpT_run (Q.runS_run h (fun a' E' r' u' => a' = a ∧ E' = s'.env ∧ r' = r ∧ u' = u) ⟨rfl, rfl, rfl, rfl⟩)
  subst h2; subst h3
  exact ⟨h1, by simpa using h4.symm, by simpa using h5.symm⟩
noncomputable def PlainBut (late : List Nat) (s : St) : Prop := ∀ i, i = gs ∨ i ∈ late ∨ (s.env i).plain = true
theorem runRec_txt {C : Ctx} {ops : Array Oper} {late : List Nat} : ∀ (l : List Oper) (k : Nat) (s sf : St) (rs : List OpRec), runRec C ops late k l s = some (sf, rs) →
    Txt C ops k l s.env sf.env (fpR C ops k l rs) ∧ rs.length = l.length ∧ stAt rs sf 0 = s ∧ (PlainBut late s → PlainBut late sf) ∧
    ∀ (i : Nat) o, l[i]? = some o → (grdQ C ops (k + i) o).runS (stAt rs sf i) [] [] = some ((), stAt rs sf (i + 1), rdAt rs i, wrAt rs i) ∧ (fpR C ops k l rs).getD i ([], []) = ((grdQ C ops (k + i) o).rds (stAt rs sf i).env, (grdQ C ops (k + i) o).ups (stAt rs sf i).env)
  | [], k, s, sf, rs, h => by
    simp only [runRec, Option.some.injEq, Prod.mk.injEq] at h
    obtain ⟨rfl, rfl⟩ := h
    exact ⟨.nil k _, rfl, rfl, fun h => h, fun i o ho => by simp at ho⟩
  | o :: l, k, s, sf, rs, h => by
    simp only [runRec] at h
    split at h
    · rename_i a s' r u hr
      split at h
      · rename_i hall
        cases hx : runRec C ops late (k + 1) l s' with
        | none => rw [hx] at h; cases h
        | some x =>
          rw [hx] at h
          simp only [Option.map_some, Option.some.injEq, Prod.mk.injEq] at h
          obtain ⟨rfl, rfl⟩ := h
          obtain ⟨h1, h2, h3, h4, h5⟩ := runRec_txt l (k + 1) s' x.1 x.2 hx
          obtain ⟨r1, r2, r3⟩ := Q.runS_at hr
          refine ⟨.cons r1 h1, by simp [h2], rfl, fun hp => h4 fun i => ?_, fun i o' ho => ?_⟩
          · by_cases hi : i ∈ u
            · have := List.all_eq_true.1 hall i hi
              simp only [Bool.or_eq_true, beq_iff_eq, List.contains_iff_mem] at this
              exact this
            · rw [(Q.runS_same hr).2 i hi]; exact hp i
          · cases i with
            | zero =>
              simp at ho; subst ho
              refine ⟨?_, rfl⟩
              have e : stAt ((s, r, u) :: x.2) x.1 (0 + 1) = s' := h3
              rw [e]; exact hr
            | succ i =>
              simp at ho
              obtain ⟨q1, q2⟩ := h5 i o' ho
              rw [show k + (i + 1) = k + 1 + i by omega]
              exact ⟨q1, q2⟩
      · cases h
    · cases h
end Go.Proofs.YtmhinddneefmbaaGreat.Pe
namespace Go.Proofs.YtmhinddneefmbaaGreat.Pe
open Go
section
variable {P : Program} {C : Ctx} {ops : Array Oper} {E0 : Env} {fp : List (List Nat × List (Nat × AV))} {late : List Nat} {s0 sf : St} {rs : List OpRec}
def UnG (fp : List (List Nat × List (Nat × AV))) (i j : Nat) : Prop :=
  (∀ s, wrs fp s i = true → s ≠ gs → s ∉ (fp.getD j ([], [])).1) ∧ (∀ s, wrs fp s i = true → wrs fp s j = false) ∧ ∀ s, wrs fp s j = true → s ≠ gs → s ∉ (fp.getD i ([], [])).1
theorem disjG_iff {a b : List Nat} (h : disjG a b = true) : ∀ s ∈ a, s ≠ gs → s ∉ b := fun s hs hn hb => by
  have := List.all_eq_true.1 h s hs
  simp [hn] at this; exact this hb
theorem atS_stepG (hind : (∀ j o, ops[j]? = some o → ∀ p ∈ preds o, p < j) ∧ ∀ i j, i < j → j < ops.size → Anc ops i j ∨ UnG fp i j) {S : Nat → Bool} (hcl : ∀ j o, ops[j]? = some o → S j = true → ∀ p ∈ preds o, S p = true)
    {i : Nat} {o : Oper} (ho : ops[i]? = some o) (hS : S i = false) (hp : ∀ p ∈ preds o, S p = true) :
    (∀ s ∈ (fp.getD i ([], [])).1, (s ≠ gs ∨ wrs fp gs i = true) → atS fp ops.size S E0 s = valA fp (List.range i) E0 s) ∧ applyUps (fp.getD i ([], [])).2 (atS fp ops.size S E0) = atS fp ops.size (fun j => S j || j == i) E0 := by
  have hi : i < ops.size := (Array.getElem?_eq_some_iff.1 ho).1
  have lo : ∀ j, j < i → S j = false → UnG fp j i := fun j hj hs => (hind.2 j i hj hi).resolve_left fun h => by
    have := h.of_preds hcl ho hp; rw [hs] at this; cases this
  have hi' : ∀ j, i < j → j < ops.size → S j = true → UnG fp i j := fun j hj hjn hs => (hind.2 i j hj hjn).resolve_left fun h => by
    have := h.closed hcl hs; rw [hS] at this; cases this
  refine ⟨fun s hs hsg => ?_, funext fun s => ?_⟩
  · unfold atS
    rw [valA_filter fp E0 s ((List.range ops.size).filter S), valA_filter fp E0 s (List.range i), range_filter_lt _ (Nat.le_of_lt hi), List.filter_filter]
    congr 1
    refine List.filter_congr fun j hj => ?_
    have hjn := List.mem_range.1 hj
    cases hw : wrs fp s j with
    | false => simp
    | true =>
      simp only [Bool.true_and, Bool.and_true]
      rcases Nat.lt_trichotomy j i with h | h | h
      · cases hSj : S j with
        | true => simp [h]
        | false =>
          rcases Classical.em (s = gs) with e | e
          · subst e
            have := (lo j h hSj).2.1 gs hw
            rw [hsg.resolve_left (fun h => h rfl)] at this; cases this
          · exact absurd hs ((lo j h hSj).1 s hw e)
      · subst h; simp [hS]
      · cases hSj : S j with
        | true =>
          rcases Classical.em (s = gs) with e | e
          · subst e
            have := (hi' j h hjn hSj).2.1 gs (hsg.resolve_left (fun h => h rfl))
            rw [hw] at this; cases this
          · exact absurd hs ((hi' j h hjn hSj).2.2 s hw e)
        | false => simp; omega
  · rw [applyUps_at]
    unfold atS
    cases hw : wrs fp s i with
    | false =>
      rw [lastUp_not (by simpa [wrs] using hw), valA_filter fp E0 s ((List.range ops.size).filter S), valA_filter fp E0 s ((List.range ops.size).filter fun j => S j || j == i), List.filter_filter, List.filter_filter]
      congr 1
      refine List.filter_congr fun j _ => ?_
      by_cases h : j = i
      · subst h; simp [hw]
      · have : (j == i) = false := by simpa using h
        simp [this]
    | true =>
      have e : ((List.range ops.size).filter fun j => S j || j == i).filter (wrs fp s) = (((List.range ops.size).filter S).filter (wrs fp s)) ++ [i] := by
        rw [List.filter_filter, List.filter_filter]
        have h1 : (List.range ops.size).filter (fun j => wrs fp s j && (S j || j == i)) = (List.range (i + 1)).filter (fun j => wrs fp s j && (S j || j == i)) := by
          rw [range_filter_lt _ (show i + 1 ≤ ops.size by omega)]
          refine List.filter_congr fun j hj => ?_
          have hjn := List.mem_range.1 hj
          by_cases h : j < i + 1
          · simp [h]
          · simp only [h, decide_false, Bool.false_and]
            cases hSj : S j with
            | true =>
              have := (hi' j (by omega) hjn hSj).2.1 s hw
              simp [this]
            | false =>
              have : (j == i) = false := by simp; omega
              simp [this]
        have h2 : (List.range ops.size).filter (fun j => wrs fp s j && S j) = (List.range i).filter (fun j => wrs fp s j && S j) := by
          rw [range_filter_lt _ (Nat.le_of_lt hi)]
          refine List.filter_congr fun j hj => ?_
          have hjn := List.mem_range.1 hj
          by_cases h : j < i
          · simp [h]
          · simp only [h, decide_false, Bool.false_and]
            cases hSj : S j with
            | true =>
              have hne : j ≠ i := fun e => by subst e; rw [hS] at hSj; cases hSj
              have := (hi' j (by omega) hjn hSj).2.1 s hw
              simp [this]
            | false => simp
        rw [h1, h2, List.range_succ, List.filter_append]
        congr 1
        · refine List.filter_congr fun j hj => ?_
          have hne : (j == i) = false := by simp; exact Nat.ne_of_lt (List.mem_range.1 hj)
          simp [hne]
        · simp [hw]
      rw [valA_filter fp E0 s ((List.range ops.size).filter fun j => S j || j == i), e]
      unfold valA
      rw [List.foldl_append]
      simp only [List.foldl_cons, List.foldl_nil]
      exact lastUp_mem (by simpa [wrs] using hw) _ _
theorem last_of (p : Nat → Bool) : ∀ n, (∀ j, j < n → p j = false) ∨ ∃ m, m < n ∧ p m = true ∧ ∀ j, m < j → j < n → p j = false
  | 0 => .inl fun j h => by omega
  | n + 1 => by
    cases hp : p n with
    | true => exact .inr ⟨n, by omega, hp, fun j h1 h2 => by omega⟩
    | false =>
      rcases last_of p n with h | ⟨m, h1, h2, h3⟩
      · exact .inl fun j hj => by
          rcases Nat.lt_or_ge j n with h' | h'
          · exact h j h'
          · have : j = n := by omega
            subst this; exact hp
      · exact .inr ⟨m, by omega, h2, fun j hj hj2 => by
          rcases Nat.lt_or_ge j n with h' | h'
          · exact h3 j hj h'
          · have : j = n := by omega
            subst this; exact hp⟩
theorem heap_at (hind : (∀ j o, ops[j]? = some o → ∀ p ∈ preds o, p < j) ∧ ∀ i j, i < j → j < ops.size → Anc ops i j ∨ UnG fp i j) {S : Nat → Bool} (hcl : ∀ j o, ops[j]? = some o → S j = true → ∀ p ∈ preds o, S p = true) :
    ((∀ j, j < ops.size → wrs fp gs j = true → S j = false) ∧ atS fp ops.size S E0 gs = E0 gs) ∨ ∃ m, m < ops.size ∧ wrs fp gs m = true ∧ S m = true ∧ (∀ j, m < j → j < ops.size → wrs fp gs j = true → S j = false) ∧ atS fp ops.size S E0 gs = valA fp (List.range (m + 1)) E0 gs := by
  rcases last_of (fun j => wrs fp gs j && S j) ops.size with h | ⟨m, h1, h2, h3⟩
  · refine .inl ⟨fun j hj hw => by have := h j hj; rw [hw] at this; simpa using this, ?_⟩
    unfold atS
    rw [valA_filter, List.filter_filter, List.filter_eq_nil_iff.2 fun j hj => by have := h j (List.mem_range.1 hj); simp at this; simpa using this]
    rfl
  · simp only [Bool.and_eq_true] at h2
    have h4 : ∀ j, m < j → j < ops.size → wrs fp gs j = true → S j = false := fun j hj hj2 hw => by have := h3 j hj hj2; rw [hw] at this; simpa using this
    refine .inr ⟨m, h1, h2.1, h2.2, h4, ?_⟩
    unfold atS
    rw [valA_filter fp E0 gs ((List.range ops.size).filter S), valA_filter fp E0 gs (List.range (m + 1)), List.filter_filter, range_filter_lt _ (show m + 1 ≤ ops.size by omega)]
    congr 1
    refine List.filter_congr fun j hj => ?_
    have hjn := List.mem_range.1 hj
    cases hw : wrs fp gs j with
    | false => simp
    | true =>
      simp only [Bool.true_and, Bool.and_true]
      rcases Nat.lt_trichotomy j m with h | h | h
      · have hSj : S j = true := by
          rcases hind.2 j m h h1 with ha | hu
          · exact ha.closed hcl h2.2
          · have := hu.2.1 gs hw; rw [h2.1] at this; cases this
        rw [hSj]; simp; omega
      · subst h; rw [h2.2]; simp
      · rw [h4 j h hjn hw]; simp; omega
theorem Q.run_same {q : Q Unit} {pre post : Env} {h' : Env} {E1 E2 : Env} (hr : q.run pre = some ((), post)) (hr' : q.run h' = some ((), E2)) (hu : (q.ups h').map (·.1) = (q.ups pre).map (·.1)) (hv : ∀ s ∈ (q.ups pre).map (·.1), E2 s = post s)
    (hc : ∀ s ∈ q.rds h', E1 s = h' s) : q.run E1 = some ((), applyUps (q.ups pre) E1) := by
  rw [Q.run_congr hr' hc]
  congr 2
  funext s
  rw [applyUps_at, applyUps_at]
  by_cases hs : s ∈ (q.ups pre).map (·.1)
  · have hs' : s ∈ (q.ups h').map (·.1) := by rw [hu]; exact hs
    rw [lastUp_mem hs' (E1 s) (h' s), lastUp_mem hs (E1 s) (pre s), ← applyUps_at, ← applyUps_at, ← Q.run_ups hr, ← Q.run_ups hr']
    exact hv s hs
  · rw [lastUp_not hs, lastUp_not (by rw [hu]; exact hs)]
end
end Go.Proofs.YtmhinddneefmbaaGreat.Pe
