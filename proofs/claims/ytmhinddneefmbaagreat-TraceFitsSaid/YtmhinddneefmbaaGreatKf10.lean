/- A part of the proof of JdH. -/
import Derived.MapKept
import Derived.Test.YtmhinddneefmbaaGreatKf9
set_option linter.unusedSimpArgs false
set_option linter.unusedVariables false
set_option linter.unusedSectionVars false
namespace Go.Proofs.YtmhinddneefmbaaGreat.Pe
open Go
section
variable {P : Program} {C : Ctx} {E E1 : Env} {a : Act} {w : World} {ι β : Nat → Option Nat} {M : Nat → Prop} {K : Act → World → Prop} {Qx : Exit → Act → World → Prop} {o : Oper} {d : Nat} {U : Nat → Prop} {γ : Nat}
theorem Gens.gs {E : Env} {U : Nat → Prop} (h : Gens E U) {av : AV} (hv : AVG U av) (s : Nat) : Gens (upd E s av) U := fun t => by
  unfold upd; split
  · exact hv
  · exact h t
theorem Holds.gsw {val : Nat → Value} {s : Nat} (hs : s ≠ gs) {E : Env} {x : AV} {av : AV} (h : Holds w ι β M val E s av) (hx : x.isBlk = false) : Holds w ι β M val (upd E gs x) s av := by
  cases av with
  | loc t g off =>
    intro xs ht
    by_cases htd : t = gs
    · subst htd; rw [upd_same] at ht; subst ht; cases hx
    · rw [upd_ne E _ htd] at ht; exact h xs ht
  | oloc t g i off =>
    intro e sz rows ht
    by_cases htd : t = gs
    · subst htd; rw [upd_same] at ht; subst ht; cases hx
    · rw [upd_ne E _ htd] at ht; exact h e sz rows ht
  | vw t g =>
    intro e sz rows ht
    by_cases htd : t = gs
    · subst htd; rw [upd_same] at ht; subst ht; cases hx
    · rw [upd_ne E _ htd] at ht; exact h e sz rows ht
  | heap H nx => exact absurd h hs
  | _ => exact h
def setI (ι : Nat → Option Nat) (o b : Nat) : Nat → Option Nat := fun t => if t = o then some b else ι t
theorem Sim.new_none (h : Sim C E a w ι β M) {H : Hp} {nx : Nat} (hE : E gs = .heap H nx) : ι nx = none := by
  obtain ⟨H', nx', hE', hn⟩ := h.hp
  rw [hE] at hE'; injection hE' with _ e; subst e
  exact (hn nx).1 (Nat.le_refl _)
theorem setI_mono {H : Hp} {nx b : Nat} (h : Sim C E a w ι β M) (hE : E gs = .heap H nx) : ∀ o b', ι o = some b' → setI ι nx b o = some b' := by
  intro o b' ho
  unfold setI
  split
  · rename_i e; subst e; rw [h.new_none hE] at ho; cases ho
  · exact ho
theorem Sim.newObj (h : Sim C E a w ι β M) {H : Hp} {nx b : Nat} {ob : PObj} (hE : E gs = .heap H nx) (hob : ObjAt w ι M b ob) (hM : M b) (hX : ¬ C.X b) (hfB : ∀ s, β s ≠ some b) (hfO : ∀ o x, live E o = some x → ι o ≠ some b) :
    Sim C (upd E gs (.heap (updO H nx (some ob)) (nx + 1))) a w (setI ι nx b) β M := by
  have hl0 : ∀ t, live E t = H t := fun t => by simp [live, hE]
  have hnone := h.new_none hE
  have hi := setI_mono (b := b) h hE
  have hl : ∀ t y, live (upd E gs (.heap (updO H nx (some ob)) (nx + 1))) t = some y → (t = nx ∧ y = ob) ∨ (t ≠ nx ∧ live E t = some y) := by
    intro t y ht
    have : live (upd E gs (.heap (updO H nx (some ob)) (nx + 1))) t = if t = nx then some ob else H t := by simp [live, upd, updO_at]
    rw [this] at ht
    split at ht
    · injection ht with ht; exact .inl ⟨by assumption, ht.symm⟩
    · exact .inr ⟨by assumption, by rw [hl0]; exact ht⟩
  have hi' : ∀ t b', t ≠ nx → setI ι nx b t = some b' → ι t = some b' := fun t b' ht hb => by unfold setI at hb; rwa [if_neg ht] at hb
  have hin : ∀ b', setI ι nx b nx = some b' → b' = b := fun b' hb => by unfold setI at hb; rw [if_pos rfl] at hb; injection hb with hb; exact hb.symm
  refine ⟨h.size, h.defs, h.small, ⟨_, nx + 1, upd_same _ _ _, fun t => ?_⟩, ?_, ?_, h.injB, ?_, ?_, h.ctlB, ?_, h.xB, h.xlt, h.xM, h.lt, ?_⟩
  · obtain ⟨H', nx', hE', hn⟩ := h.hp
    rw [hE] at hE'; injection hE' with _ e; subst e
    unfold setI
    split
    · rename_i e; subst e; simp
    · rename_i e
      rw [← hn t]; omega
  · intro t y ht
    rcases hl t y ht with ⟨h1, h2⟩ | ⟨h1, h2⟩
    · subst h1; subst h2
      exact ⟨b, by simp [setI], hob.mono (Evo.refl (X := C.X) M w) hi rfl⟩
    · obtain ⟨b', h3, h4⟩ := h.objs t y h2
      exact ⟨b', hi t b' h3, h4.mono (Evo.refl (X := C.X) M w) hi rfl⟩
  · intro t t' y y' b' h1 h2 h3 h4
    rcases hl t y h1 with ⟨e1, _⟩ | ⟨e1, l1⟩ <;> rcases hl t' y' h2 with ⟨e2, _⟩ | ⟨e2, l2⟩
    · rw [e1, e2]
    · subst e1; have := hin b' h3; subst this; exact absurd (hi' t' b' e2 h4) (hfO t' y' l2)
    · subst e2; have := hin b' h4; subst this; exact absurd (hi' t b' e1 h3) (hfO t y l1)
    · exact h.injO t t' y y' b' l1 l2 (hi' t b' e1 h3) (hi' t' b' e2 h4)
  · intro t y s b' h1 h2
    rcases hl t y h1 with ⟨e1, _⟩ | ⟨e1, l1⟩
    · subst e1; have := hin b' h2; subst this; exact hfB s
    · exact h.disj t y s b' l1 (hi' t b' e1 h2)
  · intro t y b' h1 h2
    rcases hl t y h1 with ⟨e1, _⟩ | ⟨e1, l1⟩
    · subst e1; have := hin b' h2; subst this; exact hM
    · exact h.ctlO t y b' l1 (hi' t b' e1 h2)
  · intro t y b' h1 h2
    rcases hl t y h1 with ⟨e1, _⟩ | ⟨e1, l1⟩
    · subst e1; have := hin b' h2; subst this; exact hX
    · exact h.xO t y b' l1 (hi' t b' e1 h2)
  · intro s
    by_cases hs : s = gs
    · subst hs; rw [upd_same]; rfl
    · rw [upd_ne E _ hs]
      exact ((h.hold s).mono (Evo.refl (X := C.X) M w) hi (fun _ _ => rfl)).gsw hs rfl
theorem Sim.dropO (h : Sim C E a w ι β M) {H : Hp} {nx : Nat} (o : Nat) (hE : E gs = .heap H nx) : Sim C (upd E gs (.heap (updO H o none) nx)) a w ι β M := by
  have hl0 : ∀ t, live E t = H t := fun t => by simp [live, hE]
  have hl : ∀ t y, live (upd E gs (.heap (updO H o none) nx)) t = some y → live E t = some y := by
    intro t y ht
    have : live (upd E gs (.heap (updO H o none) nx)) t = if t = o then none else H t := by simp [live, upd, updO_at]
    rw [this] at ht
    split at ht
    · cases ht
    · rw [hl0]; exact ht
  refine ⟨h.size, h.defs, h.small, ⟨_, nx, upd_same _ _ _, ?_⟩, fun t y ht => h.objs t y (hl t y ht), fun t t' y y' b h1 h2 => h.injO t t' y y' b (hl t y h1) (hl t' y' h2), h.injB, fun t y s b h1 => h.disj t y s b (hl t y h1),
    fun t y b h1 => h.ctlO t y b (hl t y h1), h.ctlB, fun t y b h1 => h.xO t y b (hl t y h1), h.xB, h.xlt, h.xM, h.lt, fun s => ?_⟩
  · obtain ⟨H', nx', hE', hn⟩ := h.hp
    rw [hE] at hE'; injection hE' with _ e; subst e; exact hn
  · by_cases hs : s = gs
    · subst hs; rw [upd_same]; rfl
    · rw [upd_ne E _ hs]
      exact (h.hold s).gsw hs rfl
theorem upd_comm (E : Env) {s t : Nat} (x y : AV) (h : s ≠ t) : upd (upd E s x) t y = upd (upd E t y) s x := by
  funext u; unfold upd
  by_cases h1 : u = t
  · rw [if_pos h1, if_neg (fun e => h (e.symm.trans h1)), if_pos h1]
  · rw [if_neg h1, if_neg h1]
theorem upd_upd (E : Env) (s : Nat) (x y : AV) : upd (upd E s x) s y = upd E s y := by funext u; unfold upd; split <;> rfl
theorem Sim.pubOwn (h : Sim C E a w ι β M) {H : Hp} {nx : Nat} (hgs : E gs = .heap H nx) {s g e sz : Nat} {rows : List (List D)} (hs : E s = .own g e sz rows) (hr : rows ≠ []) :
    ∃ ι', (∀ o b, ι o = some b → ι' o = some b) ∧ Sim C (upd (upd E gs (.heap (updO H nx (some ⟨some e, sz, rows⟩)) (nx + 1))) s (.v (.one (.ref nx sz 0 rows.length)))) a w ι' (unset β s) M ∧ Rd w ι' M (valOf a s) (.ref nx sz 0 rows.length) := by
  have hne : s ≠ gs := by rintro rfl; rw [hgs] at hs; cases hs
  have ho := h.hold s
  rw [hs] at ho
  obtain ⟨hpos, ho⟩ := ho
  rcases ho with ⟨_, h2, _⟩ | ⟨b, cs, cap, h1, h2, h3, h4, h5, h6⟩
  · exact absurd h2 hr
  · have hj := h.junk hne
    have hgj : (upd E s .junk) gs = .heap H nx := by rw [upd_ne E _ (fun e => hne e.symm)]; exact hgs
    have hu : ∀ t, unset β s t ≠ some b := fun t ht => by
      unfold unset at ht
      split at ht
      · cases ht
      · rename_i hn; exact hn (h.injB t s b ht h1)
    have hn := hj.newObj (b := b) (ob := ⟨some e, sz, rows⟩) hgj (.inr ⟨e, cs, (fun _ h => by injection h), h6⟩) (h.ctlB s b h1) (h.xB s b h1) hu
      (fun o x hl hi => by rw [live_upd E _ hne] at hl; exact h.disj o x s b hl hi h1)
    have hrd : Rd w (setI ι nx b) M (valOf a s) (.ref nx sz 0 rows.length) := by
      rw [h2]
      have := Rd.ref (w := w) (ι := setI ι nx b) (M := M) nx sz 0 rows.length cap b (by simp [setI]) h3 h4 hpos ⟨cs, e, h6.at_, by rw [h5, Nat.zero_add]⟩
      simpa using this
    refine ⟨_, setI_mono (b := b) h hgs, ?_, hrd⟩
    have := hn.put' (a' := a) (d := s) (av := .v (.one (.ref nx sz 0 rows.length))) hne h.size h.defs (fun _ _ => rfl) rfl hrd
    have e1 : unset (unset β s) s = unset β s := by funext t; unfold unset; split <;> rfl
    rw [e1, upd_comm E _ _ hne, upd_upd] at this
    exact this
theorem Sim.pubBox (h : Sim C E a w ι β M) {H : Hp} {nx : Nat} (hgs : E gs = .heap H nx) {s g : Nat} {xs : List D} (hs : E s = .box g xs) :
    ∃ ι', (∀ o b, ι o = some b → ι' o = some b) ∧ Sim C (upd (upd E gs (.heap (updO H nx (some ⟨none, xs.length, [xs]⟩)) (nx + 1))) s (.v (.one (.ptr nx xs.length 0 0)))) a w ι' (unset β s) M := by
  have hne : s ≠ gs := by rintro rfl; rw [hgs] at hs; cases hs
  have ho := h.hold s
  rw [hs] at ho
  obtain ⟨b, cs, T, h1, h2, h6⟩ := ho
  have hj := h.junk hne
  have hgj : (upd E s .junk) gs = .heap H nx := by rw [upd_ne E _ (fun e => hne e.symm)]; exact hgs
  have hu : ∀ t, unset β s t ≠ some b := fun t ht => by
    unfold unset at ht
    split at ht
    · cases ht
    · rename_i hn; exact hn (h.injB t s b ht h1)
  have hn := hj.newObj (b := b) (ob := ⟨none, xs.length, [xs]⟩) hgj (.inr ⟨T, cs, (fun _ h => by cases h), h6⟩) (h.ctlB s b h1) (h.xB s b h1) hu
    (fun o x hl hi => by rw [live_upd E _ hne] at hl; exact h.disj o x s b hl hi h1)
  have hrd : Rd w (setI ι nx b) M (valOf a s) (.ptr nx xs.length 0 0) := by
    rw [h2]
    have := Rd.ptr (w := w) (ι := setI ι nx b) (M := M) nx xs.length 0 0 b (by simp [setI]) h6.pos
    simpa using this
  refine ⟨_, setI_mono (b := b) h hgs, ?_⟩
  have := hn.put' (a' := a) (d := s) (av := .v (.one (.ptr nx xs.length 0 0))) hne h.size h.defs (fun _ _ => rfl) rfl hrd
  have e1 : unset (unset β s) s = unset β s := by funext t; unfold unset; split <;> rfl
  rw [e1, upd_comm E _ _ hne, upd_upd] at this
  exact this
theorem pub_sound (h : Sim C E a w ι β M) (hd : d < C.nt) (hq : (pubQ d).run E = some ((), E1)) : ∃ ι' β', (∀ o b, ι o = some b → ι' o = some b) ∧ Sim C E1 a w ι' β' M := by
  have keep : ∀ {E1}, E1 = E → ∃ ι' β', (∀ o b, ι o = some b → ι' o = some b) ∧ Sim C E1 a w ι' β' M := fun e => by subst e; exact ⟨ι, β, fun _ _ h => h, h⟩
  have hdg := h.ne_gs hd
  simp only [pubQ, Q.run] at hq
  cases hE : E d with
  | own g e sz rows =>
    rw [hE] at hq
    simp only at hq
    split at hq
    · exact keep (ret_run hq).2
    · rename_i hr
      simp only [Q.run] at hq
      cases hG : E gs with
      | heap H nx =>
        rw [hG] at hq
        simp only [Q.run, Option.some.injEq, Prod.mk.injEq, true_and] at hq
        subst hq
        obtain ⟨ι', hi, hs, _⟩ := h.pubOwn hG hE hr
        exact ⟨ι', _, hi, hs⟩
      | _ => rw [hG] at hq; cases hq
  | vw s g =>
    rw [hE] at hq
    simp only [Q.run] at hq
    have hv := h.hold d
    rw [hE] at hv
    cases hS : E s with
    | own g' e sz rows =>
      rw [hS] at hq
      simp only at hq
      split at hq
      · exact keep (ret_run hq).2
      · rename_i hr
        split at hq
        · rename_i hg
          subst hg
          simp only [Q.run] at hq
          cases hG : E gs with
          | heap H nx =>
            rw [hG] at hq
            simp only [Q.run, Option.some.injEq, Prod.mk.injEq, true_and] at hq
            subst hq
            obtain ⟨ι', hi, hs, hrd⟩ := h.pubOwn hG hS hr
            refine ⟨ι', _, hi, hs.put' (a' := a) (av := .v (.one (.ref nx sz 0 rows.length))) hdg h.size h.defs (fun _ _ => rfl) rfl ?_⟩
            have : valOf a d = valOf a s := hv e sz rows hS
            show Rd w ι' M (valOf a d) _
            rw [this]; exact hrd
          | _ => rw [hG] at hq; cases hq
        · cases hq
    | _ => rw [hS] at hq; exact keep (ret_run hq).2
  | box g xs =>
    rw [hE] at hq
    simp only [Q.run] at hq
    cases hG : E gs with
    | heap H nx =>
      rw [hG] at hq
      simp only [Q.run, Option.some.injEq, Prod.mk.injEq, true_and] at hq
      subst hq
      obtain ⟨ι', hi, hs⟩ := h.pubBox hG hE
      exact ⟨ι', _, hi, hs⟩
    | _ => rw [hG] at hq; cases hq
  | _ => rw [hE] at hq; exact keep (ret_run hq).2
theorem ref_rd {v : Value} {o sz i n : Nat} (h : Rd w ι M v (.ref o sz i n)) : ∃ b c, ι o = some b ∧ v = .slice (some ⟨b, i * sz, none⟩) n c ∧ n ≤ c ∧ c ≤ maxLen ∧ 0 < sz ∧ ∃ cs T, w.heap[b]? = some (.cells cs T (0, 0)) ∧ (i + c) * sz = cs.size := by
  cases h with
  | ref _ _ _ _ c b hb h1 h2 h3 h4 => exact ⟨b, c, hb, rfl, h1, h2, h3, h4⟩
theorem op_appendRef {c : Call} {t : TypeId} {x y : Operand} (ho : o.op = .call c) (hc : c.callee = .builtin .append) (ha : c.args = #[x, y]) (hat : c.argTypes = #[t, t]) (hC : C.Ok P) (h : Sim C E a w ι β M) (hd : d < C.nt) (hdst : o.dst = some d)
    (hq : (appendRefQ C d t x y).run E = some ((), E1)) (hK : Then C E1 M w ι K) : o.wp P a w K Qx := by
  have hrun := run_call_builtin (a := a) ho hc
  rw [ha, hat] at hrun
  unfold appendRefQ at hq
  obtain ⟨b, E2, h1, hq2⟩ := Q.run_bind_some hq
  obtain ⟨β1, M1, s1, e1, r1⟩ := opd_sound h h1
  obtain ⟨ys, E3, h2, hq3⟩ := Q.run_bind_some hq2
  clear hq hq2
  split at hq3
  · rename_i e esz eb ez hk
    have hl0 := tk_of (hC.tt t) hk (by simp)
    split at hq3
    · rename_i hcond
      obtain ⟨hu, hpos⟩ := hcond
      obtain ⟨rfl, hsrc⟩ := rowsOf_sound s1 r1 h2 hu
      obtain ⟨xv, E4, h3, hq4⟩ := Q.run_bind_some hq3
      clear hq3
      obtain ⟨β2, M2, s2, e2, r2⟩ := opd_sound s1 h3
      have hsrc2 : Src w ι M2 (a.eval y) esz ys := by
        obtain ⟨A, c', hv, hs⟩ := hsrc
        refine ⟨A, c', hv, hs.imp_right ?_⟩
        rintro ⟨ad, hA, hrr⟩
        exact ⟨ad, hA, fun i j r x hr hx => let ⟨u, q1, q2⟩ := hrr i j r x hr hx; ⟨u, q1, q2.mono e2.same e2.back (fun _ _ h => h) e2.shape⟩⟩
      split at hq4
      · rename_i ob sz i n
        split at hq4
        · rename_i h0
          have h0 : ys = [] := List.eq_nil_of_length_eq_zero h0
          subst h0
          obtain ⟨A, c', hy, _⟩ := hsrc2
          obtain ⟨ht, ti, z, hi, _⟩ := sl_some hl0
          have hrd : Rd w ι M2 (a.eval x) (.ref ob sz i n) := r2
          refine put_data s2 hd hdst (x := .one (.ref ob sz i n)) hrd ?_ (set_run hq4) ((hK.of e1).of e2)
          obtain ⟨b0, cap, k1, k2, k3, _⟩ := ref_rd hrd
          have hrn := run_append_empty (P := P) (w := w) (t := t) (ty := o.type) ht hi (some ⟨b0, i * sz, none⟩) A (c' := c') k3
          rw [hrun]
          simp [builtin, hy, k2, hrn]
        simp only [Q.run] at hq4
        cases hG : E4 gs with
        | heap H nx =>
          rw [hG] at hq4
          simp only at hq4
          obtain ⟨pb, E5, h4, hq5⟩ := Q.run_bind_some hq4
          obtain ⟨hH, rfl⟩ := ofOpt_run h4
          split at hq5
          · rename_i hcnd
            obtain ⟨c1, c2, c3, c4, c5, c6, c7⟩ := hcnd
            subst c4; subst c3
            simp only [Q.run, Option.some.injEq, Prod.mk.injEq, true_and] at hq5
            have hrd : Rd w ι M2 (a.eval x) (.ref ob sz 0 n) := r2
            obtain ⟨b0, cap, k1, k2, k3, k4, k5, cs, T, k6, k7⟩ := ref_rd hrd
            have hlo : live E5 ob = some pb := by simp [live, hG, hH]
            obtain ⟨b1, k8, k9⟩ := s2.objs ob pb hlo
            rw [k1] at k8; injection k8 with k8; subst k8
            obtain ⟨T', cs', k10, k11⟩ := k9.blk (by omega)
            have hT := k10 e c1
            subst hT
            have hcs := k11.at_
            rw [k6] at hcs
            injection hcs with hcs
            injection hcs with hcs1 hcs2 _
            subst hcs1; subst hcs2
            rw [c2] at k11
            have hMb : M2 b0 := s2.ctlO ob pb b0 hlo k1
            have hXb : ¬ C.X b0 := s2.xO ob pb b0 hlo k1
            rw [Nat.zero_mul] at k2
            rw [c5] at k2 k3 c7
            obtain ⟨v', w', bo', hrn, ⟨g1, g2, g3, g4, g5⟩, gsh, hbo, hfin⟩ := append_core (P := P) (ty := o.type) (bo := some b0) hl0 hpos (.inr ⟨b0, cs, cap, rfl, k2, k3, k4, by rw [← k7, Nat.zero_add], k11⟩) hsrc2 hu c7
            have hr : (execOp a.eval o).run P w = .ok (.value v') w' := by rw [hrun]; simp [builtin, hrn]
            refine wp_value hr ?_
            rw [hdst]
            let M' : Nat → Prop := fun b => M2 b ∨ bo' = some b
            have hnew : ∀ b, bo' = some b → b = b0 ∨ b = w.heap.size := fun b hb => by
              rcases hbo with h | ⟨h, _⟩
              · left; rw [h] at hb; injection hb with hb; exact hb.symm
              · right; rw [h] at hb; injection hb with hb; exact hb.symm
            have hev : Evo C.X M2 w M' w' := ⟨g1, g2, g3, g4, fun b hb hm => g5 b hb (fun e => hm (by injection e with e; exact e ▸ hMb)), fun b hb hm => by
              rcases hm with hm | hm
              · exact hm
              · rcases hnew b hm with h | h
                · exact h ▸ hMb
                · omega, fun b hb hx => g5 b hb (fun e => by injection e with e; exact hXb (e ▸ hx)), gsh⟩
            have s3 := s2.dropO ob hG
            have hld : ∀ o' y, live (upd E5 gs (.heap (updO H ob none) nx)) o' = some y → o' ≠ ob ∧ live E5 o' = some y := by
              intro o' y hy
              have : live (upd E5 gs (.heap (updO H ob none) nx)) o' = if o' = ob then none else H o' := by simp [live, upd, updO_at]
              rw [this] at hy
              split at hy
              · cases hy
              · exact ⟨by assumption, by simp [live, hG, hy]⟩
            have hfB : ∀ s, β2 s ≠ some b0 := fun s hs => s2.disj ob pb s b0 hlo k1 hs
            have hfO : ∀ o' y, live (upd E5 gs (.heap (updO H ob none) nx)) o' = some y → ι o' ≠ some b0 := fun o' y hy hi => by
              obtain ⟨q1, q2⟩ := hld o' y hy
              exact q1 (s2.injO o' ob y pb b0 q2 hlo hi k1)
            have s4 : Sim C (upd E5 gs (.heap (updO H ob none) nx)) a w' ι β2 M' := s3.world hev (fun b hb => .inl hb) (fun b hb => by
                rcases hb with hb | hb
                · have := s2.lt b hb; omega
                · rcases hbo with h' | ⟨h', h''⟩
                  · rw [h'] at hb; injection hb with hb; subst hb; have := s2.lt _ hMb; omega
                  · rw [h'] at hb; injection hb with hb; omega)
              (fun t b ht => g5 b (s2.lt b (s2.ctlB t b ht)) (fun e => by injection e with e; exact hfB t (e ▸ ht)))
              (fun o' x' b hl hi => g5 b (s2.lt b (s2.ctlO o' x' b (hld o' x' hl).2 hi)) (fun e => by injection e with e; exact hfO o' x' hl (e ▸ hi)))
            rcases hfin C.X M' hev with ⟨_, f2, _⟩ | ⟨b', cs', cap', f1, f2, f3, f4, f5, f6⟩
            · exfalso
              obtain ⟨g1, g2⟩ := List.append_eq_nil_iff.1 f2
              rw [g1] at c5; rw [g2] at c6; simp at c5 c6; omega
            · have hgs4 : (upd E5 gs (.heap (updO H ob none) nx)) gs = .heap (updO H ob none) nx := upd_same _ _ _
              have s5 := s4.newObj (b := b') (ob := ⟨some T, sz, pb.rows ++ ys⟩) hgs4 (.inr ⟨T, cs', (fun _ h => by injection h), f6⟩) (.inr f1)
                (fun hx => by
                  rcases hnew b' f1 with e | e
                  · exact hXb (e ▸ hx)
                  · have := s2.xlt b' hx; omega)
                (fun s hs => by
                  rcases hnew b' f1 with e | e
                  · exact hfB s (e ▸ hs)
                  · have := s2.lt b' (s2.ctlB s b' hs); omega)
                (fun o' x' hl hi => by
                  rcases hnew b' f1 with e | e
                  · exact hfO o' x' hl (e ▸ hi)
                  · have := s2.lt b' (s2.ctlO o' x' b' (hld o' x' hl).2 hi); omega)
              have hrd' : Rd w' (setI ι nx b') M' v' (.ref nx sz 0 (n + ys.length)) := by
                rw [f2]
                have := Rd.ref (w := w') (ι := setI ι nx b') (M := M') nx sz 0 (pb.rows ++ ys).length cap' b' (by simp [setI]) f3 f4 hpos ⟨cs', T, f6.at_, by rw [f5, Nat.zero_add]⟩
                rw [List.length_append, ← c5] at this
                rw [List.length_append, ← c5]
                simpa using this
              have s6 := s5.put_v hd (v := v') (x := .one (.ref nx sz 0 (n + ys.length))) hrd'
              rw [upd_upd] at s6
              subst hq5
              exact hK _ _ _ _ _ s6 ((e1.trans e2).trans hev) (setI_mono (b := b') s3 hgs4)
          · cases hq5
        | _ => rw [hG] at hq4; cases hq4
      · cases hq4
    · cases hq3
  · cases hq3
end
end Go.Proofs.YtmhinddneefmbaaGreat.Pe
