/- A part of the proof of JdH. -/
import Derived.Test.YtmhinddneefmbaaGreatKf15
set_option linter.unusedSimpArgs false
set_option linter.unusedVariables false
set_option linter.unusedSectionVars false
namespace Go.Proofs.YtmhinddneefmbaaGreat.Pe
open Go
noncomputable def D.same0 : D → D → Bool
  | .int k a, .int k' b => decide (k = k') && decide (a = b)
  | .bool a, .bool b => a == b
  | .str a, .str b => decide (a.data.toList = b.data.toList)
  | .ptr a b c d, .ptr a' b' c' d' => (a == a' && b == b') && (c == c' && d == d')
  | .ref a b c d, .ref a' b' c' d' => (a == a' && b == b') && (c == c' && d == d')
  | .refc a b c d e, .refc a' b' c' d' e' => ((a == a' && b == b') && (c == c' && d == d')) && e == e'
  | .nilp, .nilp => true
  | .nilm, .nilm => true
  | .nilf, .nilf => true
  | .nils, .nils => true
  | .sl [], .sl [] => true
  | .fn f, .fn g => f == g
  | .mp f, .mp g => f == g
  | .yl f, .yl g => f == g
  | _, _ => false
theorem D.same0_eq {x y : D} (h : D.same0 x y = true) : x = y := by
  unfold D.same0 at h
  split at h <;> first
    | cases h; done
    | rfl
    | (simp only [Bool.and_eq_true, decide_eq_true_eq, beq_iff_eq] at h; obtain ⟨rfl, rfl⟩ := h; rfl)
    | (simp only [beq_iff_eq] at h; subst h; rfl)
    | (simp only [Bool.and_eq_true, beq_iff_eq] at h; obtain ⟨⟨rfl, rfl⟩, rfl, rfl⟩ := h; rfl)
    | (simp only [Bool.and_eq_true, beq_iff_eq] at h; obtain ⟨⟨⟨rfl, rfl⟩, rfl, rfl⟩, rfl⟩ := h; rfl)
    | skip
  rename_i a b
  have : a.data.toList = b.data.toList := of_decide_eq_true h
  have : a.data = b.data := Array.toList_inj.1 this
  cases a; cases b; simp_all
noncomputable def all2 {α : Type} (f : α → α → Bool) : List α → List α → Bool
  | [], [] => true
  | x :: l, y :: m => f x y && all2 f l m
  | _, _ => false
theorem all2_eq {α : Type} {f : α → α → Bool} (hf : ∀ x y, f x y = true → x = y) : ∀ (l m : List α), all2 f l m = true → l = m
  | [], [], _ => rfl
  | x :: l, y :: m, h => by
    simp only [all2, Bool.and_eq_true] at h
    rw [hf x y h.1, all2_eq hf l m h.2]
  | [], _ :: _, h => by cases h
  | _ :: _, [], h => by cases h
noncomputable def D.same : D → D → Bool
  | .clo f l, .clo g m => f == g && all2 D.same0 l m
  | x, y => D.same0 x y
theorem D.same_eq {x y : D} (h : D.same x y = true) : x = y := by
  unfold D.same at h
  split at h
  · simp only [Bool.and_eq_true, beq_iff_eq] at h
    obtain ⟨rfl, h⟩ := h
    rw [all2_eq (fun _ _ => D.same0_eq) _ _ h]
  · exact D.same0_eq h
noncomputable def AD.same : AD → AD → Bool
  | .one x, .one y => D.same x y
  | .many l, .many m => all2 D.same l m
  | _, _ => false
theorem AD.same_eq {x y : AD} (h : AD.same x y = true) : x = y := by
  unfold AD.same at h
  split at h
  · rw [D.same_eq h]
  · rw [all2_eq (fun _ _ => D.same_eq) _ _ h]
  · cases h
noncomputable def AV.same : AV → AV → Bool
  | .v x, .v y => AD.same x y
  | .tup l, .tup m => all2 AD.same l m
  | .junk, .junk => true
  | _, _ => false
theorem AV.same_eq {x y : AV} (h : AV.same x y = true) : x = y := by
  unfold AV.same at h
  split at h
  · rw [AD.same_eq h]
  · rw [all2_eq (fun _ _ => AD.same_eq) _ _ h]
  · rfl
  · cases h
abbrev OpRec := St × List Nat × List Nat
noncomputable def runRec (C : Ctx) (ops : Array Oper) (late : List Nat) : Nat → List Oper → St → Option (St × List OpRec)
  | _, [], s => some (s, [])
  | k, o :: l, s => match (grdQ C ops k o).runS s [] [] with
    | some (_, s', r, u) => if u.all (fun i => i == gs || (late.contains i || (s'.env i).plain)) then (runRec C ops late (k + 1) l s').map fun x => (x.1, (s, r, u) :: x.2) else none
    | none => none
noncomputable def stAt (rs : List OpRec) (sf : St) (j : Nat) : St := match rs[j]? with
  | some x => x.1
  | none => sf
noncomputable def rdAt (rs : List OpRec) (j : Nat) : List Nat := match rs[j]? with
  | some x => x.2.1
  | none => []
noncomputable def wrAt (rs : List OpRec) (j : Nat) : List Nat := match rs[j]? with
  | some x => x.2.2
  | none => []
noncomputable def stab (C : Ctx) (ops : Array Oper) (j : Nat) (o : Oper) (pre post h : St) (rd wr : List Nat) : Bool :=
  match (grdQ C ops j o).runS ⟨pre.t, h.H, h.nx⟩ [] [] with
  | some (_, s', r, u) => decide (u = wr) && (r.all (fun x => x == gs || rd.contains x) && (!(u.contains gs) && u.all (fun x => AV.same (s'.env x) (post.env x))))
  | none => false
noncomputable def disjG (a b : List Nat) : Bool := a.all fun x => x == gs || !b.contains x
noncomputable def indepS (C : Ctx) (ops : Array Oper) (rs : List OpRec) (sf : St) : Bool :=
  let rows := rowsOn ops.toList []
  let n := ops.size
  let anc := fun i j => (rows.getD j []).getD i false
  let isW := fun j => (wrAt rs j).contains gs
  (List.range n).all fun j =>
    match ops[j]? with
    | none => true
    | some o =>
      (preds o).all (fun p => decide (p < j)) &&
      ((List.range j).all (fun i => anc i j || (disjG (wrAt rs i) (rdAt rs j) && (disj (wrAt rs i) (wrAt rs j) && disjG (wrAt rs j) (rdAt rs i)))) &&
      (if (rdAt rs j).contains gs && !(isW j) then
        ((List.range n).any (fun m => isW m && anc m j) || stab C ops j o (stAt rs sf j) (stAt rs sf (j + 1)) (stAt rs sf 0) (rdAt rs j) (wrAt rs j)) &&
        (List.range n).all fun m => !(isW m) || (anc j m || ((List.range n).any (fun m' => isW m' && (anc m' j && decide (m < m'))) || stab C ops j o (stAt rs sf j) (stAt rs sf (j + 1)) (stAt rs sf (m + 1)) (rdAt rs j) (wrAt rs j)))
      else true))
noncomputable def fpR (C : Ctx) (ops : Array Oper) : Nat → List Oper → List OpRec → List (List Nat × List (Nat × AV))
  | k, o :: l, x :: rs => ((grdQ C ops k o).rds x.1.env, (grdQ C ops k o).ups x.1.env) :: fpR C ops (k + 1) l rs
  | _, _, _ => []
theorem Q.runS_at {α : Type} {q : Q α} {s s' : St} {r u : List Nat} {a : α} (h : q.runS s [] [] = some (a, s', r, u)) : q.run s.env = some (a, s'.env) ∧ r = (q.rds s.env).reverse ∧ u = ((q.ups s.env).map (·.1)).reverse := by
  obtain ⟨a', E', h1, h2, h3, h4, h5⟩ := Q.wpT_run (Q.runS_run h (fun a' E' r' u' => a' = a ∧ E' = s'.env ∧ r' = r ∧ u' = u) ⟨rfl, rfl, rfl, rfl⟩)
  subst h2; subst h3
  exact ⟨h1, by simpa using h4.symm, by simpa using h5.symm⟩
noncomputable def PlainBut (late : List Nat) (s : St) : Prop := ∀ i, i = gs ∨ i ∈ late ∨ (s.env i).plain = true
theorem runRec_txt {C : Ctx} {ops : Array Oper} {late : List Nat} : ∀ (l : List Oper) (k : Nat) (s sf : St) (rs : List OpRec), runRec C ops late k l s = some (sf, rs) →
    Txt C ops k l s.env sf.env (fpR C ops k l rs) ∧ rs.length = l.length ∧ stAt rs sf 0 = s ∧ (PlainBut late s → PlainBut late sf) ∧
    ∀ (i : Nat) o, l[i]? = some o → (grdQ C ops (k + i) o).runS (stAt rs sf i) [] [] = some ((), stAt rs sf (i + 1), rdAt rs i, wrAt rs i) ∧ (fpR C ops k l rs).getD i ([], []) = ((grdQ C ops (k + i) o).rds (stAt rs sf i).env, (grdQ C ops (k + i) o).ups (stAt rs sf i).env)
  | [], k, s, sf, rs, h => by
    simp only [runRec, Option.some.injEq, Prod.mk.injEq] at h
    obtain ⟨rfl, rfl⟩ := h
    exact ⟨.nil k _, rfl, rfl, fun h => h, fun i o ho => by simp at ho⟩
  | o :: l, k, s, sf, rs, h => by
    simp only [runRec] at h
    split at h
    · rename_i a s' r u hr
      split at h
      · rename_i hall
        cases hx : runRec C ops late (k + 1) l s' with
        | none => rw [hx] at h; cases h
        | some x =>
          rw [hx] at h
          simp only [Option.map_some, Option.some.injEq, Prod.mk.injEq] at h
          obtain ⟨rfl, rfl⟩ := h
          obtain ⟨h1, h2, h3, h4, h5⟩ := runRec_txt l (k + 1) s' x.1 x.2 hx
          obtain ⟨r1, r2, r3⟩ := Q.runS_at hr
          refine ⟨.cons r1 h1, by simp [h2], rfl, fun hp => h4 fun i => ?_, fun i o' ho => ?_⟩
          · by_cases hi : i ∈ u
            · have := List.all_eq_true.1 hall i hi
              simp only [Bool.or_eq_true, beq_iff_eq, List.contains_iff_mem] at this
              exact this
            · rw [(Q.runS_same hr).2 i hi]; exact hp i
          · cases i with
            | zero =>
              simp at ho; subst ho
              refine ⟨?_, rfl⟩
              have e : stAt ((s, r, u) :: x.2) x.1 (0 + 1) = s' := h3
              rw [e]; exact hr
            | succ i =>
              simp at ho
              obtain ⟨q1, q2⟩ := h5 i o' ho
              rw [show k + (i + 1) = k + 1 + i by omega]
              exact ⟨q1, q2⟩
      · cases h
    · cases h
end Go.Proofs.YtmhinddneefmbaaGreat.Pe
namespace Go.Proofs.YtmhinddneefmbaaGreat.Pe
open Go
section
variable {P : Program} {C : Ctx} {ops : Array Oper} {E0 : Env} {fp : List (List Nat × List (Nat × AV))} {late : List Nat} {s0 sf : St} {rs : List OpRec}
def UnG (fp : List (List Nat × List (Nat × AV))) (i j : Nat) : Prop :=
  (∀ s, wrs fp s i = true → s ≠ gs → s ∉ (fp.getD j ([], [])).1) ∧ (∀ s, wrs fp s i = true → wrs fp s j = false) ∧ ∀ s, wrs fp s j = true → s ≠ gs → s ∉ (fp.getD i ([], [])).1
theorem disjG_iff {a b : List Nat} (h : disjG a b = true) : ∀ s ∈ a, s ≠ gs → s ∉ b := fun s hs hn hb => by
  have := List.all_eq_true.1 h s hs
  simp [hn] at this; exact this hb
theorem atS_stepG (hind : (∀ j o, ops[j]? = some o → ∀ p ∈ preds o, p < j) ∧ ∀ i j, i < j → j < ops.size → Anc ops i j ∨ UnG fp i j) {S : Nat → Bool} (hcl : ∀ j o, ops[j]? = some o → S j = true → ∀ p ∈ preds o, S p = true)
    {i : Nat} {o : Oper} (ho : ops[i]? = some o) (hS : S i = false) (hp : ∀ p ∈ preds o, S p = true) :
    (∀ s ∈ (fp.getD i ([], [])).1, (s ≠ gs ∨ wrs fp gs i = true) → atS fp ops.size S E0 s = valA fp (List.range i) E0 s) ∧ applyUps (fp.getD i ([], [])).2 (atS fp ops.size S E0) = atS fp ops.size (fun j => S j || j == i) E0 := by
  have hi : i < ops.size := (Array.getElem?_eq_some_iff.1 ho).1
  have lo : ∀ j, j < i → S j = false → UnG fp j i := fun j hj hs => (hind.2 j i hj hi).resolve_left fun h => by
    have := h.of_preds hcl ho hp; rw [hs] at this; cases this
  have hi' : ∀ j, i < j → j < ops.size → S j = true → UnG fp i j := fun j hj hjn hs => (hind.2 i j hj hjn).resolve_left fun h => by
    have := h.closed hcl hs; rw [hS] at this; cases this
  refine ⟨fun s hs hsg => ?_, funext fun s => ?_⟩
  · unfold atS
    rw [valA_filter fp E0 s ((List.range ops.size).filter S), valA_filter fp E0 s (List.range i), range_filter_lt _ (Nat.le_of_lt hi), List.filter_filter]
    congr 1
    refine List.filter_congr fun j hj => ?_
    have hjn := List.mem_range.1 hj
    cases hw : wrs fp s j with
    | false => simp
    | true =>
      simp only [Bool.true_and, Bool.and_true]
      rcases Nat.lt_trichotomy j i with h | h | h
      · cases hSj : S j with
        | true => simp [h]
        | false =>
          rcases Classical.em (s = gs) with e | e
          · subst e
            have := (lo j h hSj).2.1 gs hw
            rw [hsg.resolve_left (fun h => h rfl)] at this; cases this
          · exact absurd hs ((lo j h hSj).1 s hw e)
      · subst h; simp [hS]
      · cases hSj : S j with
        | true =>
          rcases Classical.em (s = gs) with e | e
          · subst e
            have := (hi' j h hjn hSj).2.1 gs (hsg.resolve_left (fun h => h rfl))
            rw [hw] at this; cases this
          · exact absurd hs ((hi' j h hjn hSj).2.2 s hw e)
        | false => simp; omega
  · rw [applyUps_at]
    unfold atS
    cases hw : wrs fp s i with
    | false =>
      rw [lastUp_not (by simpa [wrs] using hw), valA_filter fp E0 s ((List.range ops.size).filter S), valA_filter fp E0 s ((List.range ops.size).filter fun j => S j || j == i), List.filter_filter, List.filter_filter]
      congr 1
      refine List.filter_congr fun j _ => ?_
      by_cases h : j = i
      · subst h; simp [hw]
      · have : (j == i) = false := by simpa using h
        simp [this]
    | true =>
      have e : ((List.range ops.size).filter fun j => S j || j == i).filter (wrs fp s) = (((List.range ops.size).filter S).filter (wrs fp s)) ++ [i] := by
        rw [List.filter_filter, List.filter_filter]
        have h1 : (List.range ops.size).filter (fun j => wrs fp s j && (S j || j == i)) = (List.range (i + 1)).filter (fun j => wrs fp s j && (S j || j == i)) := by
          rw [range_filter_lt _ (show i + 1 ≤ ops.size by omega)]
          refine List.filter_congr fun j hj => ?_
          have hjn := List.mem_range.1 hj
          by_cases h : j < i + 1
          · simp [h]
          · simp only [h, decide_false, Bool.false_and]
            cases hSj : S j with
            | true =>
              have := (hi' j (by omega) hjn hSj).2.1 s hw
              simp [this]
            | false =>
              have : (j == i) = false := by simp; omega
              simp [this]
        have h2 : (List.range ops.size).filter (fun j => wrs fp s j && S j) = (List.range i).filter (fun j => wrs fp s j && S j) := by
          rw [range_filter_lt _ (Nat.le_of_lt hi)]
          refine List.filter_congr fun j hj => ?_
          have hjn := List.mem_range.1 hj
          by_cases h : j < i
          · simp [h]
          · simp only [h, decide_false, Bool.false_and]
            cases hSj : S j with
            | true =>
              have hne : j ≠ i := fun e => by subst e; rw [hS] at hSj; cases hSj
              have := (hi' j (by omega) hjn hSj).2.1 s hw
              simp [this]
            | false => simp
        rw [h1, h2, List.range_succ, List.filter_append]
        congr 1
        · refine List.filter_congr fun j hj => ?_
          have hne : (j == i) = false := by simp; exact Nat.ne_of_lt (List.mem_range.1 hj)
          simp [hne]
        · simp [hw]
      rw [valA_filter fp E0 s ((List.range ops.size).filter fun j => S j || j == i), e]
      unfold valA
      rw [List.foldl_append]
      simp only [List.foldl_cons, List.foldl_nil]
      exact lastUp_mem (by simpa [wrs] using hw) _ _
theorem last_of (p : Nat → Bool) : ∀ n, (∀ j, j < n → p j = false) ∨ ∃ m, m < n ∧ p m = true ∧ ∀ j, m < j → j < n → p j = false
  | 0 => .inl fun j h => by omega
  | n + 1 => by
    cases hp : p n with
    | true => exact .inr ⟨n, by omega, hp, fun j h1 h2 => by omega⟩
    | false =>
      rcases last_of p n with h | ⟨m, h1, h2, h3⟩
      · exact .inl fun j hj => by
          rcases Nat.lt_or_ge j n with h' | h'
          · exact h j h'
          · have : j = n := by omega
            subst this; exact hp
      · exact .inr ⟨m, by omega, h2, fun j hj hj2 => by
          rcases Nat.lt_or_ge j n with h' | h'
          · exact h3 j hj h'
          · have : j = n := by omega
            subst this; exact hp⟩
theorem heap_at (hind : (∀ j o, ops[j]? = some o → ∀ p ∈ preds o, p < j) ∧ ∀ i j, i < j → j < ops.size → Anc ops i j ∨ UnG fp i j) {S : Nat → Bool} (hcl : ∀ j o, ops[j]? = some o → S j = true → ∀ p ∈ preds o, S p = true) :
    ((∀ j, j < ops.size → wrs fp gs j = true → S j = false) ∧ atS fp ops.size S E0 gs = E0 gs) ∨ ∃ m, m < ops.size ∧ wrs fp gs m = true ∧ S m = true ∧ (∀ j, m < j → j < ops.size → wrs fp gs j = true → S j = false) ∧ atS fp ops.size S E0 gs = valA fp (List.range (m + 1)) E0 gs := by
  rcases last_of (fun j => wrs fp gs j && S j) ops.size with h | ⟨m, h1, h2, h3⟩
  · refine .inl ⟨fun j hj hw => by have := h j hj; rw [hw] at this; simpa using this, ?_⟩
    unfold atS
    rw [valA_filter, List.filter_filter, List.filter_eq_nil_iff.2 fun j hj => by have := h j (List.mem_range.1 hj); simp at this; simpa using this]
    rfl
  · simp only [Bool.and_eq_true] at h2
    have h4 : ∀ j, m < j → j < ops.size → wrs fp gs j = true → S j = false := fun j hj hj2 hw => by have := h3 j hj hj2; rw [hw] at this; simpa using this
    refine .inr ⟨m, h1, h2.1, h2.2, h4, ?_⟩
    unfold atS
    rw [valA_filter fp E0 gs ((List.range ops.size).filter S), valA_filter fp E0 gs (List.range (m + 1)), List.filter_filter, range_filter_lt _ (show m + 1 ≤ ops.size by omega)]
    congr 1
    refine List.filter_congr fun j hj => ?_
    have hjn := List.mem_range.1 hj
    cases hw : wrs fp gs j with
    | false => simp
    | true =>
      simp only [Bool.true_and, Bool.and_true]
      rcases Nat.lt_trichotomy j m with h | h | h
      · have hSj : S j = true := by
          rcases hind.2 j m h h1 with ha | hu
          · exact ha.closed hcl h2.2
          · have := hu.2.1 gs hw; rw [h2.1] at this; cases this
        rw [hSj]; simp; omega
      · subst h; rw [h2.2]; simp
      · rw [h4 j h hjn hw]; simp; omega
theorem Q.run_same {q : Q Unit} {pre post : Env} {h' : Env} {E1 E2 : Env} (hr : q.run pre = some ((), post)) (hr' : q.run h' = some ((), E2)) (hu : (q.ups h').map (·.1) = (q.ups pre).map (·.1)) (hv : ∀ s ∈ (q.ups pre).map (·.1), E2 s = post s)
    (hc : ∀ s ∈ q.rds h', E1 s = h' s) : q.run E1 = some ((), applyUps (q.ups pre) E1) := by
  rw [Q.run_congr hr' hc]
  congr 2
  funext s
  rw [applyUps_at, applyUps_at]
  by_cases hs : s ∈ (q.ups pre).map (·.1)
  · have hs' : s ∈ (q.ups h').map (·.1) := by rw [hu]; exact hs
    rw [lastUp_mem hs' (E1 s) (h' s), lastUp_mem hs (E1 s) (pre s), ← applyUps_at, ← applyUps_at, ← Q.run_ups hr, ← Q.run_ups hr']
    exact hv s hs
  · rw [lastUp_not hs, lastUp_not (by rw [hu]; exact hs)]
end
end Go.Proofs.YtmhinddneefmbaaGreat.Pe
namespace Go.Proofs.YtmhinddneefmbaaGreat.Pe
open Go
section
variable {P : Program} {C : Ctx} {ops : Array Oper} {E0 E1 : Env} {fp : List (List Nat × List (Nat × AV))} {late : List Nat} {s0 sf : St} {rs : List OpRec}
theorem any_soundG {ro : Option Nat} {n : Nat} {Qx : Exit → Act → World → Prop} (hC : C.Ok P) (htxt : Txt C ops 0 ops.toList E0 E1 fp) (hind : (∀ j o, ops[j]? = some o → ∀ p ∈ preds o, p < j) ∧ ∀ i j, i < j → j < ops.size → Anc ops i j ∨ UnG fp i j)
    (hop : ∀ (S : Nat → Bool) i o, (∀ j o, ops[j]? = some o → S j = true → ∀ p ∈ preds o, S p = true) → ops[i]? = some o → S i = false → (∀ p ∈ preds o, S p = true) → (grdQ C ops i o).run (atS fp ops.size S E0) = some ((), applyUps (fp.getD i ([], [])).2 (atS fp ops.size S E0))) :
    ∀ (fuel : Nat) (L : Array Bool) (a : Act) (w : World) (ι β : Nat → Option Nat) (M : Nat → Prop), L.size = ops.size → ((List.range ops.size).filter fun j => !L.getD j false).length ≤ fuel → (∀ j o, ops[j]? = some o → L.getD j false = true → ∀ p ∈ preds o, L.getD p false = true) →
    Sim C (atS fp ops.size (fun j => L.getD j false) E0) a w ι β M → Gens (atS fp ops.size (fun j => L.getD j false) E0) (fun g => g = 0 ∨ ∃ j, L.getD j false = true ∧ g = j + 1) →
    (∀ a' w' ι' β' M', Sim C E1 a' w' ι' β' M' → Gens E1 (fun _ => True) → Evo C.X M w M' w' → (∀ o b, ι o = some b → ι' o = some b) → Qx .normal a' w') → wpAnyIn (Fx ro) n P .any ops Qx fuel L a w := by
  have hn : ops.toList.length = ops.size := Array.length_toList
  obtain ⟨_, hE1, hat⟩ := htxt.at_
  have hend : ∀ (L : Array Bool), (∀ j, j < ops.size → L.getD j false = true) → atS fp ops.size (fun j => L.getD j false) E0 = E1 := fun L hL => by
    funext s
    unfold atS
    rw [hE1, hn, List.filter_eq_self.2 (fun j hj => hL j (List.mem_range.1 hj))]
  intro fuel
  induction fuel with
  | zero =>
    intro L a w ι β M hsz hf hcl h hg hK
    have hall : ∀ j, j < ops.size → L.getD j false = true := fun j hj => by
      have : (List.range ops.size).filter (fun j => !L.getD j false) = [] := List.eq_nil_of_length_eq_zero (by omega)
      have := (List.filter_eq_nil_iff.1 this) j (List.mem_range.2 hj)
      simpa using this
    rw [hend L hall] at h hg
    refine ⟨?_, hK _ _ _ _ _ h (hg.mono fun _ _ => trivial) (Evo.refl _ _) (fun _ _ h => h)⟩
    unfold Region.ready
    rw [List.filter_eq_nil_iff]
    intro j hj
    have hjL : j < L.size := by have := List.mem_range.1 hj; omega
    have := hall j (List.mem_range.1 hj)
    rw [Array.getD_eq_getD_getElem?, Array.getElem?_eq_getElem hjL] at this
    simp only [Option.getD_some] at this
    simp [Array.getElem?_eq_getElem hjL, this]
  | succ fuel ih =>
    intro L a w ι β M hsz hf hcl h hg hK
    refine ⟨fun hr => ?_, fun i hi => ?_⟩
    · rw [hend L (all_listed hind.1 hsz hr)] at h hg
      exact hK _ _ _ _ _ h (hg.mono fun _ _ => trivial) (Evo.refl _ _) (fun _ _ h => h)
    · unfold Region.ready at hi
      rw [List.mem_filter] at hi
      obtain ⟨hi1, hi2⟩ := hi
      have hin := List.mem_range.1 hi1
      have hiL : i < L.size := by omega
      have ho : ops[i]? = some ops[i] := Array.getElem?_eq_getElem hin
      rw [ho] at hi2
      simp only [Option.map_some, Option.getD_some, Bool.and_eq_true, Bool.not_eq_true', Array.all_eq_true_iff_forall_mem, Bool.or_eq_true] at hi2
      obtain ⟨hi3, hi4⟩ := hi2
      have hSi : L.getD i false = false := by
        rw [Array.getD_eq_getD_getElem?, Array.getElem?_eq_getElem hiL] at hi3 ⊢
        exact hi3
      have hp : ∀ p ∈ preds ops[i], L.getD p false = true := by
        intro p hp
        obtain ⟨e, he, rfl⟩ := List.mem_map.1 hp
        obtain ⟨he1, he2⟩ := List.mem_filter.1 he
        rcases hi4 e (Array.mem_toList_iff.1 he1) with h1 | h1
        · rw [he2] at h1; cases h1
        · exact h1
      obtain ⟨_, hup⟩ := atS_stepG (E0 := E0) hind (S := fun j => L.getD j false) hcl ho hSi hp
      have hrun' := hop (fun j => L.getD j false) i ops[i] hcl ho hSi hp
      rw [hup] at hrun'
      have hget : ∀ j, (L.setIfInBounds i true).getD j false = (L.getD j false || j == i) := by
        intro j
        rw [Array.getD_eq_getD_getElem?, Array.getD_eq_getD_getElem?, Array.getElem?_setIfInBounds]
        by_cases hji : i = j
        · subst hji; simp [hiL]
        · have : (j == i) = false := by simp; omega
          simp [hji, this]
      have hfun : (fun j => (L.setIfInBounds i true).getD j false) = fun j => L.getD j false || j == i := funext hget
      have hg2 : Gens (atS fp ops.size (fun j => L.getD j false || j == i) E0) (fun g => g = 0 ∨ ∃ j, (L.setIfInBounds i true).getD j false = true ∧ g = j + 1) := by
        refine ((grd_gen (U := fun g => g = 0 ∨ ∃ j, (L.setIfInBounds i true).getD j false = true ∧ g = j + 1) (.inr ⟨i, by rw [hget]; simp, rfl⟩)).run (hg.mono fun g hg => ?_) hrun').1
        rcases hg with h1 | ⟨j, h1, h2⟩
        · exact .inl h1
        · exact .inr ⟨j, by rw [hget, h1]; rfl, h2⟩
      refine grd_sound hC ho hrun' h hg (fun hc => ?_) ?_
      · rcases hc with hc | ⟨j, h1, h2⟩
        · omega
        · have : j = i := by omega
          subst this; rw [hSi] at h1; cases h1
      · intro a' w' ι' β' M' s e hi'
        refine ih (L.setIfInBounds i true) a' w' ι' β' M' (by simp [hsz]) ?_ ?_ (by rw [hfun]; exact s) (by rw [hfun]; exact hg2) fun a2 w2 ι2 β2 M2 s2 g2 e2 i2 => hK a2 w2 ι2 β2 M2 s2 g2 (e.trans e2) (fun o b h => i2 _ _ (hi' _ _ h))
        · have : ((List.range ops.size).filter fun j => !(L.setIfInBounds i true).getD j false).length < ((List.range ops.size).filter fun j => !L.getD j false).length := by
            have hsub : (List.range ops.size).filter (fun j => !(L.setIfInBounds i true).getD j false) = ((List.range ops.size).filter fun j => !L.getD j false).filter (fun j => !(j == i)) := by
              rw [List.filter_filter]
              refine List.filter_congr fun j _ => ?_
              rw [hget]
              cases L.getD j false <;> cases (j == i) <;> rfl
            rw [hsub]
            refine List.length_filter_lt_length_iff_exists.2 ⟨i, List.mem_filter.2 ⟨hi1, by rw [hSi]; rfl⟩, by simp⟩
          omega
        · intro j o hj hjl p hpj
          rw [hget] at hjl ⊢
          cases hLj : L.getD j false with
          | true => rw [hcl j o hj hLj p hpj]; rfl
          | false =>
            rw [hLj] at hjl
            have : j = i := by simpa using hjl
            subst this
            rw [ho] at hj; injection hj with hj; subst hj
            rw [hp p hpj]; rfl
theorem wrs_wr {rs : List OpRec} {fp : List (List Nat × List (Nat × AV))} {i : Nat} (h : wrAt rs i = ((fp.getD i ([], [])).2.map (·.1)).reverse) (s : Nat) : wrs fp s i = (wrAt rs i).contains s := by
  unfold wrs
  rw [h, List.contains_reverse]
theorem indepS_sound (hr : ∀ i, i < ops.size → rdAt rs i = (fp.getD i ([], [])).1.reverse ∧ wrAt rs i = ((fp.getD i ([], [])).2.map (·.1)).reverse) (h : indepS C ops rs sf = true) :
    ((∀ j o, ops[j]? = some o → ∀ p ∈ preds o, p < j) ∧ ∀ i j, i < j → j < ops.size → Anc ops i j ∨ UnG fp i j) ∧
    ∀ j o, ops[j]? = some o → gs ∈ rdAt rs j → wrs fp gs j = false →
      ((∀ m, m < ops.size → wrs fp gs m = true → ¬ Anc ops m j) → stab C ops j o (stAt rs sf j) (stAt rs sf (j + 1)) (stAt rs sf 0) (rdAt rs j) (wrAt rs j) = true) ∧
      ∀ m, m < ops.size → wrs fp gs m = true → ¬ Anc ops j m → (∀ m', m' < ops.size → wrs fp gs m' = true → Anc ops m' j → ¬ m < m') → stab C ops j o (stAt rs sf j) (stAt rs sf (j + 1)) (stAt rs sf (m + 1)) (rdAt rs j) (wrAt rs j) = true := by
  unfold indepS at h
  simp only [List.all_eq_true, List.mem_range] at h
  have hanc : ∀ i j, ((rowsOn ops.toList []).getD j []).getD i false = true → Anc ops i j := fun i j hh => rowsOn_anc ops ops.toList [] (fun j => by simp) (fun j i hc => by simp at hc) j i hh
  have hw : ∀ i, i < ops.size → ∀ s, wrs fp s i = (wrAt rs i).contains s := fun i hi s => wrs_wr (hr i hi).2 s
  have hd : ∀ i, i < ops.size → ∀ s, s ∈ (fp.getD i ([], [])).1 ↔ s ∈ rdAt rs i := fun i hi s => by rw [(hr i hi).1]; simp
  refine ⟨⟨fun j o ho p hp => ?_, fun i j hij hj => ?_⟩, fun j o ho hg hwj => ?_⟩
  · have hj : j < ops.size := (Array.getElem?_eq_some_iff.1 ho).1
    have := h j hj
    rw [ho] at this
    simp only [Bool.and_eq_true, List.all_eq_true, decide_eq_true_eq] at this
    exact this.1 p hp
  · have := h j hj
    rw [Array.getElem?_eq_getElem hj] at this
    simp only [Bool.and_eq_true, List.all_eq_true, List.mem_range, Bool.or_eq_true] at this
    rcases this.2.1 i hij with h1 | ⟨d1, d2, d3⟩
    · exact .inl (hanc i j h1)
    · right
      have hi : i < ops.size := by omega
      refine ⟨fun s hs hn hm => disjG_iff d1 s (by rw [hw i hi] at hs; simpa using hs) hn ((hd j hj s).1 hm), fun s hs => ?_, fun s hs hn hm => disjG_iff d3 s (by rw [hw j hj] at hs; simpa using hs) hn ((hd i hi s).1 hm)⟩
      have := disj_iff d2 s (by rw [hw i hi] at hs; simpa using hs)
      rw [hw j hj]
      simpa using this
  · have hj : j < ops.size := (Array.getElem?_eq_some_iff.1 ho).1
    have := h j hj
    rw [ho] at this
    simp only [Bool.and_eq_true] at this
    have h2 := this.2.2
    rw [hw j hj] at hwj
    rw [if_pos (by simp only [hwj, Bool.not_false, Bool.and_eq_true, and_true]; simpa using hg)] at h2
    simp only [Bool.and_eq_true, Bool.or_eq_true, List.any_eq_true, List.all_eq_true, List.mem_range, Bool.not_eq_true', decide_eq_true_eq] at h2
    refine ⟨fun hno => ?_, fun m hm hwm hna hmax => ?_⟩
    · rcases h2.1 with ⟨m, hm, h3, h4⟩ | h3
      · exact absurd (hanc m j h4) (hno m hm (by rw [hw m hm]; exact h3))
      · exact h3
    · rcases h2.2 m hm with h3 | h3 | ⟨m', hm', h3, h4, h5⟩ | h3
      · rw [hw m hm] at hwm; rw [hwm] at h3; cases h3
      · exact absurd (hanc j m h3) hna
      · exact absurd h5 (hmax m' hm' (by rw [hw m' hm']; exact h3) (hanc m' j h4))
      · exact h3
theorem draw_soundS {ro : Option Nat} {n : Nat} {id : Nat} {Qx : Exit → Act → World → Prop} {a : Act} {w : World} {ι β : Nat → Option Nat} {M : Nat → Prop} (hm : P.follows .mixedOrders = true) (hC : C.Ok P)
    (hq : runRec C ops late 0 ops.toList s0 = some (sf, rs)) (hin : indepS C ops rs sf = true) (h : Sim C s0.env a w ι β M) (hg : Gens s0.env (· ≤ 0))
    (hK : ∀ a' w' ι' β' M', Sim C sf.env a' w' ι' β' M' → Evo C.X M w M' w' → (∀ o b, ι o = some b → ι' o = some b) → Qx .normal a' w') : (Code.region id ops true).wpIn (Fx ro) n P Qx a w := by
  obtain ⟨htxt, hlen, h00, _, hat0⟩ := runRec_txt ops.toList 0 s0 sf rs hq
  generalize hfp : fpR C ops 0 ops.toList rs = fp at htxt hat0
  have hat : ∀ (i : Nat) o, ops[i]? = some o → (grdQ C ops i o).runS (stAt rs sf i) [] [] = some ((), stAt rs sf (i + 1), rdAt rs i, wrAt rs i) ∧ fp.getD i ([], []) = ((grdQ C ops i o).rds (stAt rs sf i).env, (grdQ C ops i o).ups (stAt rs sf i).env) := fun i o ho => by
    have := hat0 i o (by simpa using ho)
    rwa [Nat.zero_add] at this
  have hr : ∀ i, i < ops.size → rdAt rs i = (fp.getD i ([], [])).1.reverse ∧ wrAt rs i = ((fp.getD i ([], [])).2.map (·.1)).reverse := fun i hi => by
    obtain ⟨h1, h2⟩ := hat i ops[i] (Array.getElem?_eq_getElem hi)
    obtain ⟨_, h3, h4⟩ := Q.runS_at h1
    rw [h2]; exact ⟨h3, h4⟩
  have hst : ∀ j, j ≤ ops.size → ∀ s, (stAt rs sf j).env s = valA fp (List.range j) s0.env s := by
    intro j
    induction j with
    | zero => intro _ s; rw [h00]; rfl
    | succ j ih =>
      intro hj s
      obtain ⟨h1, h2⟩ := hat j ops[j] (Array.getElem?_eq_getElem (by omega))
      obtain ⟨h3, _, _⟩ := Q.runS_at h1
      rw [Q.run_ups h3, applyUps_at, ih (by omega)]
      unfold valA
      rw [List.range_succ, List.foldl_append]
      simp only [List.foldl_cons, List.foldl_nil]
      rw [h2]
  obtain ⟨hind, hstab⟩ := indepS_sound (fp := fp) hr hin
  have hop : ∀ (S : Nat → Bool) i o, (∀ j o, ops[j]? = some o → S j = true → ∀ p ∈ preds o, S p = true) → ops[i]? = some o → S i = false → (∀ p ∈ preds o, S p = true) → (grdQ C ops i o).run (atS fp ops.size S s0.env) = some ((), applyUps (fp.getD i ([], [])).2 (atS fp ops.size S s0.env)) := by
    intro S i o hcl ho hSi hp
    have hi : i < ops.size := (Array.getElem?_eq_some_iff.1 ho).1
    obtain ⟨h1, h2⟩ := hat i o ho
    obtain ⟨h3, h4, h5⟩ := Q.runS_at h1
    obtain ⟨hrd, _⟩ := atS_stepG (E0 := s0.env) hind hcl ho hSi hp
    have hpre : ∀ s, (stAt rs sf i).env s = valA fp (List.range i) s0.env s := hst i (by omega)
    by_cases hc : gs ∈ rdAt rs i ∧ wrs fp gs i = false
    · obtain ⟨hgr, hgw⟩ := hc
      obtain ⟨hs0, hsm⟩ := hstab i o ho hgr hgw
      have fin : ∀ hh : St, atS fp ops.size S s0.env gs = hh.env gs → stab C ops i o (stAt rs sf i) (stAt rs sf (i + 1)) hh (rdAt rs i) (wrAt rs i) = true → (grdQ C ops i o).run (atS fp ops.size S s0.env) = some ((), applyUps (fp.getD i ([], [])).2 (atS fp ops.size S s0.env)) := by
        intro hh hgs hstb
        unfold stab at hstb
        split at hstb
        · rename_i a' s' r u hrun
          simp only [Bool.and_eq_true, decide_eq_true_eq, List.all_eq_true, Bool.or_eq_true, beq_iff_eq, Bool.not_eq_true', List.contains_iff_mem] at hstb
          obtain ⟨e1, e2, e3, e4⟩ := hstb
          obtain ⟨q1, q2, q3⟩ := Q.runS_at hrun
          have henv : (⟨(stAt rs sf i).t, hh.H, hh.nx⟩ : St).env = upd (stAt rs sf i).env gs (.heap hh.H hh.nx) := St.env_H _ _ _
          have hupe : ((grdQ C ops i o).ups (⟨(stAt rs sf i).t, hh.H, hh.nx⟩ : St).env).map (·.1) = ((grdQ C ops i o).ups (stAt rs sf i).env).map (·.1) := by
            have : (((grdQ C ops i o).ups (⟨(stAt rs sf i).t, hh.H, hh.nx⟩ : St).env).map (·.1)).reverse = (((grdQ C ops i o).ups (stAt rs sf i).env).map (·.1)).reverse := by rw [← q3, ← h5]; exact e1
            exact List.reverse_inj.1 this
          rw [h2]
          refine Q.run_same h3 q1 hupe (fun s hs => AV.same_eq (e4 s (by rw [e1, h5]; simpa using hs))) fun s hs => ?_
          have hs' : s = gs ∨ s ∈ rdAt rs i := e2 s (by rw [q2]; simpa using hs)
          rw [henv]
          by_cases hsg : s = gs
          · subst hsg; rw [upd_same, hgs]; exact St.env_gs hh
          · rw [upd_ne _ _ hsg, hpre]
            exact hrd s (by have := hs'.resolve_left hsg; rw [(hr i hi).1] at this; simpa using this) (.inl hsg)
        · cases hstb
      rcases heap_at (E0 := s0.env) hind hcl with ⟨g1, g2⟩ | ⟨m, g1, g2, g3, g4, g5⟩
      · exact fin (stAt rs sf 0) (by rw [g2, h00]) (hs0 fun m hm hwm ha => by have := ha.of_preds hcl ho hp; rw [g1 m hm hwm] at this; cases this)
      · refine fin (stAt rs sf (m + 1)) (by rw [g5, hst (m + 1) (by omega)]) (hsm m g1 g2 (fun ha => by have := ha.closed hcl g3; rw [hSi] at this; cases this) fun m' hm' hwm' ha hlt => ?_)
        have := ha.of_preds hcl ho hp
        rw [g4 m' hlt hm' hwm'] at this; cases this
    · have hc' : gs ∉ rdAt rs i ∨ wrs fp gs i = true := by
        rcases Classical.em (gs ∈ rdAt rs i) with h' | h'
        · right
          cases hx : wrs fp gs i with
          | true => rfl
          | false => exact absurd ⟨h', hx⟩ hc
        · exact .inl h'
      have := Q.run_congr h3 (E1 := atS fp ops.size S s0.env) (fun s hs => by
        have hs' : s ∈ rdAt rs i := by rw [h4]; simpa using hs
        rw [hpre]
        refine hrd s (by have := hs'; rw [(hr i hi).1] at this; simpa using this) ?_
        rcases hc' with h' | h'
        · exact .inl fun e => h' (e ▸ hs')
        · exact .inr h')
      rw [h2]; exact this
  refine wpIn_region_any hm ?_
  have hd : Sim C s0.env a { w with drawn := w.drawn + 1 } ι β M := h.world ⟨rfl, rfl, rfl, Nat.le_refl _, fun _ _ _ => rfl, fun _ _ h => h, fun _ _ _ => rfl, .of fun _ _ => rfl⟩ (fun _ h => h) h.lt (fun _ _ _ => rfl) (fun _ _ _ _ _ => rfl)
  have h0 : atS fp ops.size (fun j => (Array.replicate ops.size false).getD j false) s0.env = s0.env := by
    funext s
    unfold atS
    have : (List.range ops.size).filter (fun j => (Array.replicate ops.size false).getD j false) = [] := List.filter_eq_nil_iff.2 fun j _ => by
      rw [Array.getD_eq_getD_getElem?, Array.getElem?_replicate]
      split <;> simp
    rw [this]; rfl
  refine any_soundG hC htxt hind hop ops.size _ a _ ι β M (by simp) ?_ ?_ (by rw [h0]; exact hd) (by rw [h0]; exact hg.mono fun g hg => .inl (by omega)) fun a' w' ι' β' M' s _ e i => ?_
  · exact Nat.le_trans (List.length_filter_le _ _) (by simp)
  · intro j o _ hj
    rw [Array.getD_eq_getD_getElem?, Array.getElem?_replicate] at hj
    split at hj <;> simp at hj
  · exact hK a' w' ι' β' M' s ⟨e.os, e.tape, e.output, e.size, e.same, e.back, e.keep, e.shape⟩ i
end
end Go.Proofs.YtmhinddneefmbaaGreat.Pe
