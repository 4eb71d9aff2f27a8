/- A part of the proof of JdH. -/
import Derived.Test.YtmhinddneefmbaaGreatKf16
set_option linter.unusedSimpArgs false
set_option linter.unusedVariables false
set_option linter.unusedSectionVars false
namespace Go.Proofs.YtmhinddneefmbaaGreat.Pe
open Go
section
variable {P : Program} {C : Ctx} {ops : Array Oper} {E0 E1 : Env} {fp : List (List Nat × List (Nat × AV))} {late : List Nat} {s0 sf : St} {rs : List OpRec}
def DrawD (C : Ctx) (ops : Array Oper) (E0 E1 : Env) (fp : List (List Nat × List (Nat × AV))) : Prop :=
  Txt C ops 0 ops.toList E0 E1 fp ∧ ((∀ j o, ops[j]? = some o → ∀ p ∈ preds o, p < j) ∧ ∀ i j, i < j → j < ops.size → Anc ops i j ∨ UnG fp i j) ∧
  ∀ (S : Nat → Bool) i o, (∀ j o, ops[j]? = some o → S j = true → ∀ p ∈ preds o, S p = true) → ops[i]? = some o → S i = false → (∀ p ∈ preds o, S p = true) → (grdQ C ops i o).run (atS fp ops.size S E0) = some ((), applyUps (fp.getD i ([], [])).2 (atS fp ops.size S E0))
theorem draw_data (hq : runRec C ops late 0 ops.toList s0 = some (sf, rs)) (hin : indepS C ops rs sf = true) : DrawD C ops s0.env sf.env (fpR C ops 0 ops.toList rs) := by
  obtain ⟨htxt, hlen, h00, _, hat0⟩ := runRec_txt ops.toList 0 s0 sf rs hq
  generalize hfp : fpR C ops 0 ops.toList rs = fp at htxt hat0 ⊢
  have hat : ∀ (i : Nat) o, ops[i]? = some o → (grdQ C ops i o).runS (stAt rs sf i) [] [] = some ((), stAt rs sf (i + 1), rdAt rs i, wrAt rs i) ∧ fp.getD i ([], []) = ((grdQ C ops i o).rds (stAt rs sf i).env, (grdQ C ops i o).ups (stAt rs sf i).env) := fun i o ho => by
    have := hat0 i o (by simpa using ho)
    rwa [Nat.zero_add] at this
  have hr : ∀ i, i < ops.size → rdAt rs i = (fp.getD i ([], [])).1.reverse ∧ wrAt rs i = ((fp.getD i ([], [])).2.map (·.1)).reverse := fun i hi => by
    obtain ⟨h1, h2⟩ := hat i ops[i] (Array.getElem?_eq_getElem hi)
    obtain ⟨_, h3, h4⟩ := Q.runS_at h1
    rw [h2]; exact ⟨h3, h4⟩
  have hst : ∀ j, j ≤ ops.size → ∀ s, (stAt rs sf j).env s = valA fp (List.range j) s0.env s := by
    intro j
    induction j with
    | zero => intro _ s; rw [h00]; rfl
    | succ j ih =>
      intro hj s
      obtain ⟨h1, h2⟩ := hat j ops[j] (Array.getElem?_eq_getElem (by omega))
      obtain ⟨h3, _, _⟩ := Q.runS_at h1
      rw [Q.run_ups h3, applyUps_at, ih (by omega)]
      unfold valA
      rw [List.range_succ, List.foldl_append]
      simp only [List.foldl_cons, List.foldl_nil]
      rw [h2]
  obtain ⟨hind, hstab⟩ := indepS_sound (fp := fp) hr hin
  have hop : ∀ (S : Nat → Bool) i o, (∀ j o, ops[j]? = some o → S j = true → ∀ p ∈ preds o, S p = true) → ops[i]? = some o → S i = false → (∀ p ∈ preds o, S p = true) → (grdQ C ops i o).run (atS fp ops.size S s0.env) = some ((), applyUps (fp.getD i ([], [])).2 (atS fp ops.size S s0.env)) := by
    intro S i o hcl ho hSi hp
    have hi : i < ops.size := (Array.getElem?_eq_some_iff.1 ho).1
    obtain ⟨h1, h2⟩ := hat i o ho
    obtain ⟨h3, h4, h5⟩ := Q.runS_at h1
    obtain ⟨hrd, _⟩ := atS_stepG (E0 := s0.env) hind hcl ho hSi hp
    have hpre : ∀ s, (stAt rs sf i).env s = valA fp (List.range i) s0.env s := hst i (by omega)
    by_cases hc : gs ∈ rdAt rs i ∧ wrs fp gs i = false
    · obtain ⟨hgr, hgw⟩ := hc
      obtain ⟨hs0, hsm⟩ := hstab i o ho hgr hgw
      have fin : ∀ hh : St, atS fp ops.size S s0.env gs = hh.env gs → stab C ops i o (stAt rs sf i) (stAt rs sf (i + 1)) hh (rdAt rs i) (wrAt rs i) = true → (grdQ C ops i o).run (atS fp ops.size S s0.env) = some ((), applyUps (fp.getD i ([], [])).2 (atS fp ops.size S s0.env)) := by
        intro hh hgs hstb
        unfold stab at hstb
        split at hstb
        · rename_i a' s' r u hrun
          simp only [Bool.and_eq_true, decide_eq_true_eq, List.all_eq_true, Bool.or_eq_true, beq_iff_eq, Bool.not_eq_true', List.contains_iff_mem] at hstb
          obtain ⟨e1, e2, e3, e4⟩ := hstb
          obtain ⟨q1, q2, q3⟩ := Q.runS_at hrun
          have henv : (⟨(stAt rs sf i).t, hh.H, hh.nx⟩ : St).env = upd (stAt rs sf i).env gs (.heap hh.H hh.nx) := St.env_H _ _ _
          have hupe : ((grdQ C ops i o).ups (⟨(stAt rs sf i).t, hh.H, hh.nx⟩ : St).env).map (·.1) = ((grdQ C ops i o).ups (stAt rs sf i).env).map (·.1) := by
            have : (((grdQ C ops i o).ups (⟨(stAt rs sf i).t, hh.H, hh.nx⟩ : St).env).map (·.1)).reverse = (((grdQ C ops i o).ups (stAt rs sf i).env).map (·.1)).reverse := by rw [← q3, ← h5]; exact e1
            exact List.reverse_inj.1 this
          rw [h2]
          refine Q.run_same h3 q1 hupe (fun s hs => AV.same_eq (e4 s (by rw [e1, h5]; simpa using hs))) fun s hs => ?_
          have hs' : s = gs ∨ s ∈ rdAt rs i := e2 s (by rw [q2]; simpa using hs)
          rw [henv]
          by_cases hsg : s = gs
          · subst hsg; rw [upd_same, hgs]; exact St.env_gs hh
          · rw [upd_ne _ _ hsg, hpre]
            exact hrd s (by have := hs'.resolve_left hsg; rw [(hr i hi).1] at this; simpa using this) (.inl hsg)
        · cases hstb
      rcases heap_at (E0 := s0.env) hind hcl with ⟨g1, g2⟩ | ⟨m, g1, g2, g3, g4, g5⟩
      · exact fin (stAt rs sf 0) (by rw [g2, h00]) (hs0 fun m hm hwm ha => by have := ha.of_preds hcl ho hp; rw [g1 m hm hwm] at this; cases this)
      · refine fin (stAt rs sf (m + 1)) (by rw [g5, hst (m + 1) (by omega)]) (hsm m g1 g2 (fun ha => by have := ha.closed hcl g3; rw [hSi] at this; cases this) fun m' hm' hwm' ha hlt => ?_)
        have := ha.of_preds hcl ho hp
        rw [g4 m' hlt hm' hwm'] at this; cases this
    · have hc' : gs ∉ rdAt rs i ∨ wrs fp gs i = true := by
        rcases Classical.em (gs ∈ rdAt rs i) with h' | h'
        · right
          cases hx : wrs fp gs i with
          | true => rfl
          | false => exact absurd ⟨h', hx⟩ hc
        · exact .inl h'
      have := Q.run_congr h3 (E1 := atS fp ops.size S s0.env) (fun s hs => by
        have hs' : s ∈ rdAt rs i := by rw [h4]; simpa using hs
        rw [hpre]
        refine hrd s (by have := hs'; rw [(hr i hi).1] at this; simpa using this) ?_
        rcases hc' with h' | h'
        · exact .inl fun e => h' (e ▸ hs')
        · exact .inr h')
      rw [h2]; exact this
  exact ⟨htxt, hind, hop⟩
theorem DrawD.all (h : DrawD C ops E0 E1 fp) {S : Nat → Bool} (hS : ∀ j, j < ops.size → S j = true) : atS fp ops.size S E0 = E1 := by
  obtain ⟨_, hE1, _⟩ := h.1.at_
  have hn : ops.toList.length = ops.size := Array.length_toList
  funext s
  unfold atS
  rw [hE1, hn, List.filter_eq_self.2 (fun j hj => hS j (List.mem_range.1 hj))]
theorem DrawD.next (h : DrawD C ops E0 E1 fp) {S : Nat → Bool} {i : Nat} {o : Oper} (hcl : ∀ j o, ops[j]? = some o → S j = true → ∀ p ∈ preds o, S p = true) (ho : ops[i]? = some o) (hS : S i = false) (hp : ∀ p ∈ preds o, S p = true) :
    (grdQ C ops i o).run (atS fp ops.size S E0) = some ((), atS fp ops.size (fun j => S j || j == i) E0) := by
  rw [h.2.2 S i o hcl ho hS hp, (atS_stepG (E0 := E0) h.2.1 (S := S) hcl ho hS hp).2]
theorem grdQ_none {C : Ctx} {ops : Array Oper} {i : Nat} {o : Oper} (h : o.guard = none) : grdQ C ops i o = semY C i o := by unfold grdQ; rw [h]
theorem atS_congr {fp fp' : List (List Nat × List (Nat × AV))} {n : Nat} {S S' : Nat → Bool} (h : ∀ j, j < n → S j = S' j) (hf : ∀ j, j < n → S j = true → fp.getD j ([], []) = fp'.getD j ([], [])) : atS fp n S E0 = atS fp' n S' E0 := by
  funext s
  unfold atS valA
  have e : (List.range n).filter S = (List.range n).filter S' := List.filter_congr fun j hj => h j (List.mem_range.1 hj)
  rw [← e]
  have key : ∀ (l : List Nat) (v : AV), (∀ j ∈ l, fp.getD j ([], []) = fp'.getD j ([], [])) → l.foldl (fun v j => lastUp (fp.getD j ([], [])).2 s v) v = l.foldl (fun v j => lastUp (fp'.getD j ([], [])).2 s v) v := by
    intro l
    induction l with
    | nil => intro v _; rfl
    | cons x l ih =>
      intro v hl
      simp only [List.foldl_cons]
      rw [hl x List.mem_cons_self]
      exact ih _ fun j hj => hl j (List.mem_cons_of_mem _ hj)
  exact key _ _ fun j hj => by
    obtain ⟨h1, h2⟩ := List.mem_filter.1 hj
    exact hf j (List.mem_range.1 h1) h2
theorem set_getD {L : Array Bool} {i : Nat} (hi : i < L.size) (j : Nat) : (L.setIfInBounds i true).getD j false = (L.getD j false || j == i) := by
  rw [Array.getD_eq_getD_getElem?, Array.getD_eq_getD_getElem?, Array.getElem?_setIfInBounds]
  by_cases hji : i = j
  · subst hji; simp [hi]
  · have : (j == i) = false := by simp; omega
    simp [hji, this]
theorem set_count {L : Array Bool} {n i : Nat} (hi : i < L.size) (hin : i < n) (hSi : L.getD i false = false) : ((List.range n).filter fun j => !(L.setIfInBounds i true).getD j false).length < ((List.range n).filter fun j => !L.getD j false).length := by
  have hsub : (List.range n).filter (fun j => !(L.setIfInBounds i true).getD j false) = ((List.range n).filter fun j => !L.getD j false).filter (fun j => !(j == i)) := by
    rw [List.filter_filter]
    refine List.filter_congr fun j _ => ?_
    rw [set_getD hi]
    cases L.getD j false <;> cases (j == i) <;> rfl
  rw [hsub]
  exact List.length_filter_lt_length_iff_exists.2 ⟨i, List.mem_filter.2 ⟨List.mem_range.2 hin, by rw [hSi]; rfl⟩, by simp⟩
theorem ready_some {ops : Array Oper} {L : Array Bool} {i : Nat} (hsz : L.size = ops.size) (hi : i ∈ Region.ready .any ops L) : ∃ hin : i < ops.size, L.getD i false = false ∧ ∀ p ∈ preds ops[i], L.getD p false = true := by
  unfold Region.ready at hi
  rw [List.mem_filter] at hi
  obtain ⟨hi1, hi2⟩ := hi
  have hin := List.mem_range.1 hi1
  have hiL : i < L.size := by omega
  have ho : ops[i]? = some ops[i] := Array.getElem?_eq_getElem hin
  rw [ho] at hi2
  simp only [Option.map_some, Option.getD_some, Bool.and_eq_true, Bool.not_eq_true', Array.all_eq_true_iff_forall_mem, Bool.or_eq_true] at hi2
  obtain ⟨hi3, hi4⟩ := hi2
  refine ⟨hin, ?_, fun p hp => ?_⟩
  · rw [Array.getD_eq_getD_getElem?, Array.getElem?_eq_getElem hiL] at hi3 ⊢
    exact hi3
  · obtain ⟨e, he, rfl⟩ := List.mem_map.1 hp
    obtain ⟨he1, he2⟩ := List.mem_filter.1 he
    rcases hi4 e (Array.mem_toList_iff.1 he1) with h1 | h1
    · rw [he2] at h1; cases h1
    · exact h1
theorem ready_none {ops : Array Oper} {L : Array Bool} (hsz : L.size = ops.size) (h : ∀ j, j < ops.size → L.getD j false = true) : Region.ready .any ops L = [] := by
  refine List.eq_nil_iff_forall_not_mem.2 fun i hi => ?_
  obtain ⟨hin, h1, _⟩ := ready_some hsz hi
  rw [h i hin] at h1; cases h1
theorem wpAny_done {ro : Option Nat} {n : Nat} {Qx : Exit → Act → World → Prop} {L : Array Bool} (hsz : L.size = ops.size) (h : ∀ j, j < ops.size → L.getD j false = true) {a : Act} {w : World} (hq : Qx .normal a w) : ∀ fuel, wpAnyIn (Fx ro) n P .any ops Qx fuel L a w
  | 0 => ⟨ready_none hsz h, hq⟩
  | fuel + 1 => ⟨fun _ => hq, fun i hi => by rw [ready_none hsz h] at hi; cases hi⟩
theorem two_sound {ro : Option Nat} {n q : Nat} {Qx : Exit → Act → World → Prop} {opsU opsV : Array Oper} {u v : Oper} {fpU fpV : List (List Nat × List (Nat × AV))} {EU EV E12 E21 : Env} (hC : C.Ok P) (hsize : ops.size = q + 2) (hng : ∀ (j : Nat) (o : Oper), ops[j]? = some o → o.guard = none) (hlt : ∀ j o, ops[j]? = some o → ∀ p ∈ preds o, p < j)
    (hu : ops[q]? = some u) (hv : ops[q + 1]? = some v) (hU : opsU.size = q + 1) (hUat : ∀ j, j < q + 1 → opsU[j]? = ops[j]?) (hV : opsV.size = q + 1) (hVat : ∀ j, j < q → opsV[j]? = ops[j]?) (hVq : opsV[q]? = some v) (hpv : q ∉ preds v)
    (dU : DrawD C opsU E0 EU fpU) (dV : DrawD C opsV E0 EV fpV) (hfp : ∀ j, j < q → fpU.getD j ([], []) = fpV.getD j ([], [])) (hcov : ∀ j, j < q → Anc ops j q ∨ Anc ops j (q + 1)) (hsem : semY C (q + 1) v = semY C q v)
    (hvU : (semY C q v).run EU = some ((), E12)) (huV : (semY C q u).run EV = some ((), E21)) :
    ∀ (fuel : Nat) (L : Array Bool) (a : Act) (w : World) (ι β : Nat → Option Nat) (M : Nat → Prop), L.size = ops.size → ((List.range ops.size).filter fun j => !L.getD j false).length ≤ fuel → (∀ j o, ops[j]? = some o → L.getD j false = true → ∀ p ∈ preds o, L.getD p false = true) →
    (L.getD q false = true → L.getD (q + 1) false = false) → ∀ E, (L.getD (q + 1) false = false → E = atS fpU (q + 1) (fun j => L.getD j false) E0) → (L.getD (q + 1) false = true → E = atS fpV (q + 1) (fun j => L.getD j false || j == q) E0) →
    Sim C E a w ι β M → Gens E (fun g => g = 0 ∨ ∃ j, L.getD j false = true ∧ g = j + 1) →
    (∀ a' w' ι' β' M', Sim C E12 a' w' ι' β' M' ∨ Sim C E21 a' w' ι' β' M' → Evo C.X M w M' w' → (∀ o b, ι o = some b → ι' o = some b) → Qx .normal a' w') → wpAnyIn (Fx ro) n P .any ops Qx fuel L a w := by
  intro fuel
  induction fuel with
  | zero =>
    intro L a w ι β M hsz hf hcl hxor E hEa hEb h hg hK
    have hall : ∀ j, j < ops.size → L.getD j false = true := fun j hj => by
      have : (List.range ops.size).filter (fun j => !L.getD j false) = [] := List.eq_nil_of_length_eq_zero (by omega)
      have := (List.filter_eq_nil_iff.1 this) j (List.mem_range.2 hj)
      simpa using this
    have h1 := hxor (hall q (by omega))
    rw [hall (q + 1) (by omega)] at h1; cases h1
  | succ fuel ih =>
    intro L a w ι β M hsz hf hcl hxor E hEa hEb h hg hK
    refine ⟨fun hr => ?_, fun i hi => ?_⟩
    · have hall := all_listed hlt hsz hr
      have h1 := hxor (hall q (by omega))
      rw [hall (q + 1) (by omega)] at h1; cases h1
    · obtain ⟨hin, hSi, hp⟩ := ready_some hsz hi
      have hiL : i < L.size := by omega
      have ho : ops[i]? = some ops[i] := Array.getElem?_eq_getElem hin
      have hgi := hng i _ ho
      have hget := set_getD hiL
      have hcl' : ∀ j o, ops[j]? = some o → (L.setIfInBounds i true).getD j false = true → ∀ p ∈ preds o, (L.setIfInBounds i true).getD p false = true := by
        intro j o hj hjl p hpj
        rw [hget] at hjl ⊢
        cases hLj : L.getD j false with
        | true => rw [hcl j o hj hLj p hpj]; rfl
        | false =>
          rw [hLj] at hjl
          have : j = i := by simpa using hjl
          subst this
          rw [ho] at hj; injection hj with hj; subst hj
          rw [hp p hpj]; rfl
      have cover : (L.getD q false = true ∨ i = q) → (L.getD (q + 1) false = true ∨ i = q + 1) → ∀ j, j < q → L.getD j false = true := fun c1 c2 j hj => by
        rcases hcov j hj with ha | ha
        · rcases c1 with c | c
          · exact ha.closed (S := fun j => L.getD j false) hcl c
          · subst c; exact ha.of_preds (S := fun j => L.getD j false) hcl ho hp
        · rcases c2 with c | c
          · exact ha.closed (S := fun j => L.getD j false) hcl c
          · subst c; exact ha.of_preds (S := fun j => L.getD j false) hcl ho hp
      have step : ∀ E2, (semY C i ops[i]).run E = some ((), E2) → (∀ a' w' ι' β' M', Sim C E2 a' w' ι' β' M' → Gens E2 (fun g => g = 0 ∨ ∃ j, (L.setIfInBounds i true).getD j false = true ∧ g = j + 1) → Evo C.X M w M' w' → (∀ o b, ι o = some b → ι' o = some b) → wpAnyIn (Fx ro) n P .any ops Qx fuel (L.setIfInBounds i true) a' w') →
          wpOpIn (Fx ro) n P ops Qx i (wpAnyIn (Fx ro) n P .any ops Qx fuel (L.setIfInBounds i true)) a w := fun E2 hrun hKK => by
        have hrun' : (grdQ C ops i ops[i]).run E = some ((), E2) := by rw [grdQ_none hgi]; exact hrun
        have hg2 : Gens E2 (fun g => g = 0 ∨ ∃ j, (L.setIfInBounds i true).getD j false = true ∧ g = j + 1) := by
          refine ((grd_gen (U := fun g => g = 0 ∨ ∃ j, (L.setIfInBounds i true).getD j false = true ∧ g = j + 1) (.inr ⟨i, by rw [hget]; simp, rfl⟩)).run (hg.mono fun g hg => ?_) hrun').1
          rcases hg with h1 | ⟨j, h1, h2⟩
          · exact .inl h1
          · exact .inr ⟨j, by rw [hget, h1]; rfl, h2⟩
        refine grd_sound hC ho hrun' h hg (fun hc => ?_) fun a' w' ι' β' M' s e hi' => hKK a' w' ι' β' M' s hg2 e hi'
        rcases hc with hc | ⟨j, h1, h2⟩
        · omega
        · have : j = i := by omega
          subst this; rw [hSi] at h1; cases h1
      have cnt := set_count (n := ops.size) hiL hin hSi
      have last : (∀ j, j < ops.size → (L.setIfInBounds i true).getD j false = true) → ∀ E2, (E2 = E12 ∨ E2 = E21) → (semY C i ops[i]).run E = some ((), E2) → wpOpIn (Fx ro) n P ops Qx i (wpAnyIn (Fx ro) n P .any ops Qx fuel (L.setIfInBounds i true)) a w := fun hall E2 hE2 hrun =>
        step E2 hrun fun a' w' ι' β' M' s _ e hi' => wpAny_done (by simp [hsz]) hall (hK a' w' ι' β' M' (by rcases hE2 with rfl | rfl; exact .inl s; exact .inr s) e hi') fuel
      have clU : ∀ j o, opsU[j]? = some o → (fun j => L.getD j false) j = true → ∀ p ∈ preds o, (fun j => L.getD j false) p = true := fun j o hj hS p hpj => by
        have hj' : j < q + 1 := by rw [← hU]; exact (Array.getElem?_eq_some_iff.1 hj).1
        rw [hUat j hj'] at hj
        exact hcl j o hj hS p hpj
      by_cases hb : L.getD (q + 1) false = true
      ·
        have hE := hEb hb
        have hq0 : L.getD q false = false := by
          cases hx : L.getD q false with
          | false => rfl
          | true => have := hxor hx; rw [hb] at this; cases this
        have clV : ∀ j o, opsV[j]? = some o → (fun j => L.getD j false || j == q) j = true → ∀ p ∈ preds o, (fun j => L.getD j false || j == q) p = true := fun j o hj hS p hpj => by
          have hj' : j < q + 1 := by rw [← hV]; exact (Array.getElem?_eq_some_iff.1 hj).1
          rcases Nat.lt_or_ge j q with hjq | hjq
          · rw [hVat j hjq] at hj
            have hne : (j == q) = false := by simp; omega
            simp only [hne, Bool.or_false] at hS
            show (L.getD p false || p == q) = true
            rw [hcl j o hj hS p hpj]; rfl
          · have : j = q := by omega
            subst this
            rw [hVq] at hj; injection hj with hj; subst hj
            show (L.getD p false || p == j) = true
            rw [hcl _ _ hv hb p hpj]; rfl
        have hi1 : i ≠ q + 1 := fun e => by rw [e, hb] at hSi; cases hSi
        by_cases hiq : i = q
        · have hall : ∀ j, j < ops.size → (L.setIfInBounds i true).getD j false = true := fun j hj => by
            rw [hget]
            rcases Nat.lt_trichotomy j q with h1 | h1 | h1
            · rw [cover (.inr hiq) (.inl hb) j h1]; rfl
            · subst h1; subst hiq; simp
            · have : j = q + 1 := by omega
              subst this; rw [hb]; rfl
          refine last hall E21 (.inr rfl) ?_
          have e1 : E = EV := by
            rw [hE, ← hV]
            exact dV.all fun j hj => by
              rcases Nat.lt_or_ge j q with h1 | h1
              · show (L.getD j false || j == q) = true
                rw [cover (.inr hiq) (.inl hb) j h1]; rfl
              · have : j = q := by omega
                subst this; simp
          rw [e1]
          subst hiq
          rw [ho] at hu; injection hu with hu
          rw [hu]; exact huV
        · have hi' : i < q := by omega
          have hov : opsV[i]? = some ops[i] := by rw [hVat i hi']; exact ho
          have hne : (i == q) = false := by simp; omega
          have hrun := dV.next (S := fun j => L.getD j false || j == q) clV hov (by show (L.getD i false || i == q) = false; rw [hSi, hne]; rfl) (fun p hpp => by show (L.getD p false || p == q) = true; rw [hp p hpp]; rfl)
          rw [grdQ_none hgi, hV, ← hE] at hrun
          refine step _ hrun fun a' w' ι' β' M' s g2 e hi2 => ?_
          refine ih (L.setIfInBounds i true) a' w' ι' β' M' (by simp [hsz]) (by omega) hcl' (fun hx => ?_) _ (fun hx => ?_) (fun _ => ?_) s g2 fun a2 w2 ι2 β2 M2 s2 e2 i2 => hK a2 w2 ι2 β2 M2 s2 (e.trans e2) (fun o b h => i2 _ _ (hi2 _ _ h))
          · rw [hget, hq0] at hx
            have : q = i := by simpa using hx
            omega
          · rw [hget, hb] at hx; cases hx
          · refine atS_congr (fun j hj => ?_) (fun _ _ _ => rfl)
            show ((L.getD j false || j == q) || j == i) = ((L.setIfInBounds i true).getD j false || j == q)
            rw [hget]
            cases L.getD j false <;> cases (j == q) <;> cases (j == i) <;> rfl
      ·
        have hb : L.getD (q + 1) false = false := by simpa using hb
        have hE := hEa hb
        by_cases hi1 : i = q + 1
        · cases hq0 : L.getD q false with
          | true =>
            have hall : ∀ j, j < ops.size → (L.setIfInBounds i true).getD j false = true := fun j hj => by
              rw [hget]
              rcases Nat.lt_trichotomy j q with h1 | h1 | h1
              · rw [cover (.inl hq0) (.inr hi1) j h1]; rfl
              · subst h1; rw [hq0]; rfl
              · have : j = q + 1 := by omega
                subst this; subst hi1; simp
            refine last hall E12 (.inl rfl) ?_
            have e1 : E = EU := by
              rw [hE, ← hU]
              exact dU.all fun j hj => by
                rcases Nat.lt_or_ge j q with h1 | h1
                · exact cover (.inl hq0) (.inr hi1) j h1
                · have : j = q := by omega
                  subst this; exact hq0
            rw [e1]
            subst hi1
            rw [ho] at hv; injection hv with hv
            rw [hv, hsem]; exact hvU
          | false =>
            have clV : ∀ j o, opsV[j]? = some o → (fun j => L.getD j false) j = true → ∀ p ∈ preds o, (fun j => L.getD j false) p = true := fun j o hj hS p hpj => by
              have hj' : j < q + 1 := by rw [← hV]; exact (Array.getElem?_eq_some_iff.1 hj).1
              rcases Nat.lt_or_ge j q with hjq | hjq
              · rw [hVat j hjq] at hj
                exact hcl j o hj hS p hpj
              · have : j = q := by omega
                subst this
                simp only [hq0] at hS
                cases hS
            have hvi : ops[i] = v := by
              subst hi1
              rw [ho] at hv; injection hv
            have hrun := dV.next (S := fun j => L.getD j false) clV hVq hq0 (fun p hpp => hp p (by rw [hvi]; exact hpp))
            rw [grdQ_none (by rw [← hvi]; exact hgi), hV, ← hsem] at hrun
            have e1 : E = atS fpV (q + 1) (fun j => L.getD j false) E0 := by
              rw [hE]
              refine atS_congr (fun _ _ => rfl) fun j hj hS => ?_
              rcases Nat.lt_or_ge j q with h1 | h1
              · exact hfp j h1
              · have : j = q := by omega
                subst this
                rw [hq0] at hS; cases hS
            rw [← e1] at hrun
            refine step _ (by rw [hvi]; subst hi1; exact hrun) fun a' w' ι' β' M' s g2 e hi2 => ?_
            refine ih (L.setIfInBounds i true) a' w' ι' β' M' (by simp [hsz]) (by omega) hcl' (fun hx => ?_) _ (fun hx => ?_) (fun _ => ?_) s g2 fun a2 w2 ι2 β2 M2 s2 e2 i2 => hK a2 w2 ι2 β2 M2 s2 (e.trans e2) (fun o b h => i2 _ _ (hi2 _ _ h))
            · rw [hget, hq0] at hx
              have : q = i := by simpa using hx
              omega
            · rw [hget] at hx; subst hi1; simp at hx
            · refine atS_congr (fun j hj => ?_) (fun _ _ _ => rfl)
              show (L.getD j false || j == q) = ((L.setIfInBounds i true).getD j false || j == q)
              rw [hget]
              have : (j == i) = false := by simp; omega
              rw [this, Bool.or_false]
        · have hi' : i < q + 1 := by omega
          have hov : opsU[i]? = some ops[i] := by rw [hUat i hi']; exact ho
          have hrun := dU.next (S := fun j => L.getD j false) clU hov hSi hp
          rw [grdQ_none hgi, hU, ← hE] at hrun
          refine step _ hrun fun a' w' ι' β' M' s g2 e hi2 => ?_
          have hb' : (L.setIfInBounds i true).getD (q + 1) false = false := by
            rw [hget, hb]
            have : (q + 1 == i) = false := by simp; omega
            rw [this]; rfl
          refine ih (L.setIfInBounds i true) a' w' ι' β' M' (by simp [hsz]) (by omega) hcl' (fun _ => hb') _ (fun _ => ?_) (fun hx => ?_) s g2 fun a2 w2 ι2 β2 M2 s2 e2 i2 => hK a2 w2 ι2 β2 M2 s2 (e.trans e2) (fun o b h => i2 _ _ (hi2 _ _ h))
          · exact atS_congr (fun j hj => (hget j).symm) (fun _ _ _ => rfl)
          · rw [hb'] at hx; cases hx
end
end Go.Proofs.YtmhinddneefmbaaGreat.Pe
