/- A part of the proof of JbH. -/
import Derived.Test.YtmhinddneefmbaaGreatKw20
set_option linter.unusedSimpArgs false
set_option linter.unusedVariables false
set_option linter.unusedSectionVars false
namespace Go.Proofs.YtmhinddneefmbaaGreat.Pe
open Go
section
variable {P : Program} {C : Ctx} {ops : Array Oper} {E0 E1 : Env} {fp : List (List Nat × List (Nat × AV))} {late : List Nat} {s0 sf : St} {rs : List OpRec}
theorem any_soundG {ro : Option Nat} {n : Nat} {Qx : Exit → Act → World → Prop} (hC : C.Ok P) (htxt : Txt C ops 0 ops.toList E0 E1 fp) (hind : (∀ j o, ops[j]? = some o → ∀ p ∈ preds o, p < j) ∧ ∀ i j, i < j → j < ops.size → Anc ops i j ∨ UnG fp i j)
    (hop : ∀ (S : Nat → Bool) i o, (∀ j o, ops[j]? = some o → S j = true → ∀ p ∈ preds o, S p = true) → ops[i]? = some o → S i = false → (∀ p ∈ preds o, S p = true) → (grdQ C ops i o).run (atS fp ops.size S E0) = some ((), applyUps (fp.getD i ([], [])).2 (atS fp ops.size S E0))) :
    ∀ (fuel : Nat) (L : Array Bool) (a : Act) (w : World) (ι β : Nat → Option Nat) (M : Nat → Prop), L.size = ops.size → ((List.range ops.size).filter fun j => !L.getD j false).length ≤ fuel → (∀ j o, ops[j]? = some o → L.getD j false = true → ∀ p ∈ preds o, L.getD p false = true) →
    Sim C (atS fp ops.size (fun j => L.getD j false) E0) a w ι β M → Gens (atS fp ops.size (fun j => L.getD j false) E0) (fun g => g = 0 ∨ ∃ j, L.getD j false = true ∧ g = j + 1) →
    (∀ a' w' ι' β' M', Sim C E1 a' w' ι' β' M' → Gens E1 (fun _ => True) → Evo C.X M w M' w' → (∀ o b, ι o = some b → ι' o = some b) → Qx .normal a' w') → wpAnyIn (Fx ro) n P .any ops Qx fuel L a w := by
  have hn : ops.toList.length = ops.size := Array.length_toList
  obtain ⟨_, hE1, hat⟩ := htxt.at_
  have hend : ∀ (L : Array Bool), (∀ j, j < ops.size → L.getD j false = true) → atS fp ops.size (fun j => L.getD j false) E0 = E1 := fun L hL => by
    funext s
    unfold atS
    rw [hE1, hn, List.filter_eq_self.2 (fun j hj => hL j (List.mem_range.1 hj))]
  intro fuel
  induction fuel with
  | zero =>
    intro L a w ι β M hsz hf hcl h hg hK
    have hall : ∀ j, j < ops.size → L.getD j false = true := fun j hj => by
      have : (List.range ops.size).filter (fun j => !L.getD j false) = [] := List.eq_nil_of_length_eq_zero (by omega)
      have := (List.filter_eq_nil_iff.1 this) j (List.mem_range.2 hj)
      simpa using this
    rw [hend L hall] at h hg
    refine ⟨?_, hK _ _ _ _ _ h (hg.mono fun _ _ => trivial) (Evo.refl _ _) (fun _ _ h => h)⟩
    unfold Region.ready
    rw [List.filter_eq_nil_iff]
    intro j hj
    have hjL : j < L.size := by have := List.mem_range.1 hj; omega
    have := hall j (List.mem_range.1 hj)
    rw [Array.getD_eq_getD_getElem?, Array.getElem?_eq_getElem hjL] at this
    simp only [Option.getD_some] at this
    simp [Array.getElem?_eq_getElem hjL, this]
  | succ fuel ih =>
    intro L a w ι β M hsz hf hcl h hg hK
    refine ⟨fun hr => ?_, fun i hi => ?_⟩
    · rw [hend L (all_listed hind.1 hsz hr)] at h hg
      exact hK _ _ _ _ _ h (hg.mono fun _ _ => trivial) (Evo.refl _ _) (fun _ _ h => h)
    · unfold Region.ready at hi
      rw [List.mem_filter] at hi
      obtain ⟨hi1, hi2⟩ := hi
      have hin := List.mem_range.1 hi1
      have hiL : i < L.size := by omega
      have ho : ops[i]? = some ops[i] := Array.getElem?_eq_getElem hin
      rw [ho] at hi2
      simp only [Option.map_some, Option.getD_some, Bool.and_eq_true, Bool.not_eq_true', Array.all_eq_true_iff_forall_mem, Bool.or_eq_true] at hi2
      obtain ⟨hi3, hi4⟩ := hi2
      have hSi : L.getD i false = false := by
        rw [Array.getD_eq_getD_getElem?, Array.getElem?_eq_getElem hiL] at hi3 ⊢
        exact hi3
      have hp : ∀ p ∈ preds ops[i], L.getD p false = true := by
        intro p hp
        obtain ⟨e, he, rfl⟩ := List.mem_map.1 hp
        obtain ⟨he1, he2⟩ := List.mem_filter.1 he
        rcases hi4 e (Array.mem_toList_iff.1 he1) with h1 | h1
        · rw [he2] at h1; cases h1
        · exact h1
      obtain ⟨_, hup⟩ := atS_stepG (E0 := E0) hind (S := fun j => L.getD j false) hcl ho hSi hp
      have hrun' := hop (fun j => L.getD j false) i ops[i] hcl ho hSi hp
      rw [hup] at hrun'
      have hget : ∀ j, (L.setIfInBounds i true).getD j false = (L.getD j false || j == i) := by
        intro j
        rw [Array.getD_eq_getD_getElem?, Array.getD_eq_getD_getElem?, Array.getElem?_setIfInBounds]
        by_cases hji : i = j
        · subst hji; simp [hiL]
        · have : (j == i) = false := by simp; omega
          simp [hji, this]
      have hfun : (fun j => (L.setIfInBounds i true).getD j false) = fun j => L.getD j false || j == i := funext hget
      have hg2 : Gens (atS fp ops.size (fun j => L.getD j false || j == i) E0) (fun g => g = 0 ∨ ∃ j, (L.setIfInBounds i true).getD j false = true ∧ g = j + 1) := by
        refine ((grd_gen (U := fun g => g = 0 ∨ ∃ j, (L.setIfInBounds i true).getD j false = true ∧ g = j + 1) (.inr ⟨i, by rw [hget]; simp, rfl⟩)).run (hg.mono fun g hg => ?_) hrun').1
        rcases hg with h1 | ⟨j, h1, h2⟩
        · exact .inl h1
        · exact .inr ⟨j, by rw [hget, h1]; rfl, h2⟩
      refine grd_sound hC ho hrun' h hg (fun hc => ?_) ?_
      · rcases hc with hc | ⟨j, h1, h2⟩
        · omega
        · have : j = i := by omega
          subst this; rw [hSi] at h1; cases h1
      · intro a' w' ι' β' M' s e hi'
        refine ih (L.setIfInBounds i true) a' w' ι' β' M' (by simp [hsz]) ?_ ?_ (by rw [hfun]; exact s) (by rw [hfun]; exact hg2) fun a2 w2 ι2 β2 M2 s2 g2 e2 i2 => hK a2 w2 ι2 β2 M2 s2 g2 (e.trans e2) (fun o b h => i2 _ _ (hi' _ _ h))
        · have : ((List.range ops.size).filter fun j => !(L.setIfInBounds i true).getD j false).length < ((List.range ops.size).filter fun j => !L.getD j false).length := by
            have hsub : (List.range ops.size).filter (fun j => !(L.setIfInBounds i true).getD j false) = ((List.range ops.size).filter fun j => !L.getD j false).filter (fun j => !(j == i)) := by
              rw [List.filter_filter]
              refine List.filter_congr fun j _ => ?_
              rw [hget]
              cases L.getD j false <;> cases (j == i) <;> rfl
            rw [hsub]
            refine List.length_filter_lt_length_iff_exists.2 ⟨i, List.mem_filter.2 ⟨hi1, by rw [hSi]; rfl⟩, by simp⟩
          omega
        · intro j o hj hjl p hpj
          rw [hget] at hjl ⊢
          cases hLj : L.getD j false with
          | true => rw [hcl j o hj hLj p hpj]; rfl
          | false =>
            rw [hLj] at hjl
            have : j = i := by simpa using hjl
            subst this
            rw [ho] at hj; injection hj with hj; subst hj
            rw [hp p hpj]; rfl
theorem wrs_wr {rs : List OpRec} {fp : List (List Nat × List (Nat × AV))} {i : Nat} (h : wrAt rs i = ((fp.getD i ([], [])).2.map (·.1)).reverse) (s : Nat) : wrs fp s i = (wrAt rs i).contains s := by
  unfold wrs
  rw [h, List.contains_reverse]
theorem indepS_sound (hr : ∀ i, i < ops.size → rdAt rs i = (fp.getD i ([], [])).1.reverse ∧ wrAt rs i = ((fp.getD i ([], [])).2.map (·.1)).reverse) (h : indepS C ops rs sf = true) :
    ((∀ j o, ops[j]? = some o → ∀ p ∈ preds o, p < j) ∧ ∀ i j, i < j → j < ops.size → Anc ops i j ∨ UnG fp i j) ∧
    ∀ j o, ops[j]? = some o → gs ∈ rdAt rs j → wrs fp gs j = false →
      ((∀ m, m < ops.size → wrs fp gs m = true → ¬ Anc ops m j) → stab C ops j o (stAt rs sf j) (stAt rs sf (j + 1)) (stAt rs sf 0) (rdAt rs j) (wrAt rs j) = true) ∧
      ∀ m, m < ops.size → wrs fp gs m = true → ¬ Anc ops j m → (∀ m', m' < ops.size → wrs fp gs m' = true → Anc ops m' j → ¬ m < m') → stab C ops j o (stAt rs sf j) (stAt rs sf (j + 1)) (stAt rs sf (m + 1)) (rdAt rs j) (wrAt rs j) = true := by
  unfold indepS at h
  simp only [List.all_eq_true, List.mem_range] at h
  have hanc : ∀ i j, ((rowsOn ops.toList []).getD j []).getD i false = true → Anc ops i j := fun i j hh => rowsOn_anc ops ops.toList [] (fun j => by simp) (fun j i hc => by simp at hc) j i hh
  have hw : ∀ i, i < ops.size → ∀ s, wrs fp s i = (wrAt rs i).contains s := fun i hi s => wrs_wr (hr i hi).2 s
  have hd : ∀ i, i < ops.size → ∀ s, s ∈ (fp.getD i ([], [])).1 ↔ s ∈ rdAt rs i := fun i hi s => by rw [(hr i hi).1]; simp
  refine ⟨⟨fun j o ho p hp => ?_, fun i j hij hj => ?_⟩, fun j o ho hg hwj => ?_⟩
  · have hj : j < ops.size := (Array.getElem?_eq_some_iff.1 ho).1
    have := h j hj
    rw [ho] at this
    simp only [Bool.and_eq_true, List.all_eq_true, decide_eq_true_eq] at this
    exact this.1 p hp
  · have := h j hj
    rw [Array.getElem?_eq_getElem hj] at this
    simp only [Bool.and_eq_true, List.all_eq_true, List.mem_range, Bool.or_eq_true] at this
    rcases this.2.1 i hij with h1 | ⟨d1, d2, d3⟩
    · exact .inl (hanc i j h1)
    · right
      have hi : i < ops.size := by omega
      refine ⟨fun s hs hn hm => disjG_iff d1 s (by rw [hw i hi] at hs; simpa using hs) hn ((hd j hj s).1 hm), fun s hs => ?_, fun s hs hn hm => disjG_iff d3 s (by rw [hw j hj] at hs; simpa using hs) hn ((hd i hi s).1 hm)⟩
      have := disj_iff d2 s (by rw [hw i hi] at hs; simpa using hs)
      rw [hw j hj]
      simpa using this
  · have hj : j < ops.size := (Array.getElem?_eq_some_iff.1 ho).1
    have := h j hj
    rw [ho] at this
    simp only [Bool.and_eq_true] at this
    have h2 := this.2.2
    rw [hw j hj] at hwj
    rw [if_pos (by simp only [hwj, Bool.not_false, Bool.and_eq_true, and_true]; simpa using hg)] at h2
    simp only [Bool.and_eq_true, Bool.or_eq_true, List.any_eq_true, List.all_eq_true, List.mem_range, Bool.not_eq_true', decide_eq_true_eq] at h2
    refine ⟨fun hno => ?_, fun m hm hwm hna hmax => ?_⟩
    · rcases h2.1 with ⟨m, hm, h3, h4⟩ | h3
      · exact absurd (hanc m j h4) (hno m hm (by rw [hw m hm]; exact h3))
      · exact h3
    · rcases h2.2 m hm with h3 | h3 | ⟨m', hm', h3, h4, h5⟩ | h3
      · rw [hw m hm] at hwm; rw [hwm] at h3; cases h3
      · exact absurd (hanc j m h3) hna
      · exact absurd h5 (hmax m' hm' (by rw [hw m' hm']; exact h3) (hanc m' j h4))
      · exact h3
theorem draw_soundS {ro : Option Nat} {n : Nat} {id : Nat} {Qx : Exit → Act → World → Prop} {a : Act} {w : World} {ι β : Nat → Option Nat} {M : Nat → Prop} (hm : P.follows .mixedOrders = true) (hC : C.Ok P)
    (hq : runRec C ops late 0 ops.toList s0 = some (sf, rs)) (hin : indepS C ops rs sf = true) (h : Sim C s0.env a w ι β M) (hg : Gens s0.env (· ≤ 0))
    (hK : ∀ a' w' ι' β' M', Sim C sf.env a' w' ι' β' M' → Evo C.X M w M' w' → (∀ o b, ι o = some b → ι' o = some b) → Qx .normal a' w') : (Code.region id ops true).wpIn (Fx ro) n P Qx a w := by
  obtain ⟨htxt, hlen, h00, _, hat0⟩ := runRec_txt ops.toList 0 s0 sf rs hq
  generalize hfp : fpR C ops 0 ops.toList rs = fp at htxt hat0
  have hat : ∀ (i : Nat) o, ops[i]? = some o → (grdQ C ops i o).runS (stAt rs sf i) [] [] = some ((), stAt rs sf (i + 1), rdAt rs i, wrAt rs i) ∧ fp.getD i ([], []) = ((grdQ C ops i o).rds (stAt rs sf i).env, (grdQ C ops i o).ups (stAt rs sf i).env) := fun i o ho => by
    have := hat0 i o (by simpa using ho)
    rwa [Nat.zero_add] at this
  have hr : ∀ i, i < ops.size → rdAt rs i = (fp.getD i ([], [])).1.reverse ∧ wrAt rs i = ((fp.getD i ([], [])).2.map (·.1)).reverse := fun i hi => by
    obtain ⟨h1, h2⟩ := hat i ops[i] (Array.getElem?_eq_getElem hi)
    obtain ⟨_, h3, h4⟩ := Q.runS_at h1
    rw [h2]; exact ⟨h3, h4⟩
  have hst : ∀ j, j ≤ ops.size → ∀ s, (stAt rs sf j).env s = valA fp (List.range j) s0.env s := by
    intro j
    induction j with
    | zero => intro _ s; rw [h00]; rfl
    | succ j ih =>
      intro hj s
      obtain ⟨h1, h2⟩ := hat j ops[j] (Array.getElem?_eq_getElem (by omega))
      obtain ⟨h3, _, _⟩ := Q.runS_at h1
      rw [Q.run_ups h3, applyUps_at, ih (by omega)]
      unfold valA
      rw [List.range_succ, List.foldl_append]
      simp only [List.foldl_cons, List.foldl_nil]
      rw [h2]
  obtain ⟨hind, hstab⟩ := indepS_sound (fp := fp) hr hin
  have hop : ∀ (S : Nat → Bool) i o, (∀ j o, ops[j]? = some o → S j = true → ∀ p ∈ preds o, S p = true) → ops[i]? = some o → S i = false → (∀ p ∈ preds o, S p = true) → (grdQ C ops i o).run (atS fp ops.size S s0.env) = some ((), applyUps (fp.getD i ([], [])).2 (atS fp ops.size S s0.env)) := by
    intro S i o hcl ho hSi hp
    have hi : i < ops.size := (Array.getElem?_eq_some_iff.1 ho).1
    obtain ⟨h1, h2⟩ := hat i o ho
    obtain ⟨h3, h4, h5⟩ := Q.runS_at h1
    obtain ⟨hrd, _⟩ := atS_stepG (E0 := s0.env) hind hcl ho hSi hp
    have hpre : ∀ s, (stAt rs sf i).env s = valA fp (List.range i) s0.env s := hst i (by omega)
    by_cases hc : gs ∈ rdAt rs i ∧ wrs fp gs i = false
    · obtain ⟨hgr, hgw⟩ := hc
      obtain ⟨hs0, hsm⟩ := hstab i o ho hgr hgw
      have fin : ∀ hh : St, atS fp ops.size S s0.env gs = hh.env gs → stab C ops i o (stAt rs sf i) (stAt rs sf (i + 1)) hh (rdAt rs i) (wrAt rs i) = true → (grdQ C ops i o).run (atS fp ops.size S s0.env) = some ((), applyUps (fp.getD i ([], [])).2 (atS fp ops.size S s0.env)) := by
        intro hh hgs hstb
        unfold stab at hstb
        split at hstb
        · rename_i a' s' r u hrun
          simp only [Bool.and_eq_true, decide_eq_true_eq, List.all_eq_true, Bool.or_eq_true, beq_iff_eq, Bool.not_eq_true', List.contains_iff_mem] at hstb
          obtain ⟨e1, e2, e3, e4⟩ := hstb
          obtain ⟨q1, q2, q3⟩ := Q.runS_at hrun
          have henv : (⟨(stAt rs sf i).t, hh.H, hh.nx⟩ : St).env = upd (stAt rs sf i).env gs (.heap hh.H hh.nx) := St.env_H _ _ _
          have hupe : ((grdQ C ops i o).ups (⟨(stAt rs sf i).t, hh.H, hh.nx⟩ : St).env).map (·.1) = ((grdQ C ops i o).ups (stAt rs sf i).env).map (·.1) := by
            have : (((grdQ C ops i o).ups (⟨(stAt rs sf i).t, hh.H, hh.nx⟩ : St).env).map (·.1)).reverse = (((grdQ C ops i o).ups (stAt rs sf i).env).map (·.1)).reverse := by rw [← q3, ← h5]; exact e1
            exact List.reverse_inj.1 this
          rw [h2]
          refine Q.run_same h3 q1 hupe (fun s hs => AV.same_eq (e4 s (by rw [e1, h5]; simpa using hs))) fun s hs => ?_
          have hs' : s = gs ∨ s ∈ rdAt rs i := e2 s (by rw [q2]; simpa using hs)
          rw [henv]
          by_cases hsg : s = gs
          · subst hsg; rw [upd_same, hgs]; exact St.env_gs hh
          · rw [upd_ne _ _ hsg, hpre]
            exact hrd s (by have := hs'.resolve_left hsg; rw [(hr i hi).1] at this; simpa using this) (.inl hsg)
        · cases hstb
      rcases heap_at (E0 := s0.env) hind hcl with ⟨g1, g2⟩ | ⟨m, g1, g2, g3, g4, g5⟩
      · exact fin (stAt rs sf 0) (by rw [g2, h00]) (hs0 fun m hm hwm ha => by have := ha.of_preds hcl ho hp; rw [g1 m hm hwm] at this; cases this)
      · refine fin (stAt rs sf (m + 1)) (by rw [g5, hst (m + 1) (by omega)]) (hsm m g1 g2 (fun ha => by have := ha.closed hcl g3; rw [hSi] at this; cases this) fun m' hm' hwm' ha hlt => ?_)
        have := ha.of_preds hcl ho hp
        rw [g4 m' hlt hm' hwm'] at this; cases this
    · have hc' : gs ∉ rdAt rs i ∨ wrs fp gs i = true := by
        rcases Classical.em (gs ∈ rdAt rs i) with h' | h'
        · right
          cases hx : wrs fp gs i with
          | true => rfl
          | false => exact absurd ⟨h', hx⟩ hc
        · exact .inl h'
      have := Q.run_congr h3 (E1 := atS fp ops.size S s0.env) (fun s hs => by
        have hs' : s ∈ rdAt rs i := by rw [h4]; simpa using hs
        rw [hpre]
        refine hrd s (by have := hs'; rw [(hr i hi).1] at this; simpa using this) ?_
        rcases hc' with h' | h'
        · exact .inl fun e => h' (e ▸ hs')
        · exact .inr h')
      rw [h2]; exact this
  refine wpIn_region_any hm ?_
  have hd : Sim C s0.env a { w with drawn := w.drawn + 1 } ι β M := h.world ⟨rfl, rfl, rfl, Nat.le_refl _, fun _ _ _ => rfl, fun _ _ h => h, fun _ _ _ => rfl, .of fun _ _ => rfl⟩ (fun _ h => h) h.lt (fun _ _ _ => rfl) (fun _ _ _ _ _ => rfl)
  have h0 : atS fp ops.size (fun j => (Array.replicate ops.size false).getD j false) s0.env = s0.env := by
    funext s
    unfold atS
    have : (List.range ops.size).filter (fun j => (Array.replicate ops.size false).getD j false) = [] := List.filter_eq_nil_iff.2 fun j _ => by
      rw [Array.getD_eq_getD_getElem?, Array.getElem?_replicate]
      split <;> simp
    rw [this]; rfl
  refine any_soundG hC htxt hind hop ops.size _ a _ ι β M (by simp) ?_ ?_ (by rw [h0]; exact hd) (by rw [h0]; exact hg.mono fun g hg => .inl (by omega)) fun a' w' ι' β' M' s _ e i => ?_
  · exact Nat.le_trans (List.length_filter_le _ _) (by simp)
  · intro j o _ hj
    rw [Array.getD_eq_getD_getElem?, Array.getElem?_replicate] at hj
    split at hj <;> simp at hj
  · exact hK a' w' ι' β' M' s ⟨e.os, e.tape, e.output, e.size, e.same, e.back, e.keep, e.shape⟩ i
end
end Go.Proofs.YtmhinddneefmbaaGreat.Pe
