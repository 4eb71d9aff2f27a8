/- A part of the proof of JbH. -/
import Derived.Test.YtmhinddneefmbaaGreatKw3
set_option linter.unusedSimpArgs false
set_option linter.unusedVariables false
set_option linter.unusedSectionVars false
namespace Go.Proofs.YtmhinddneefmbaaGreat.Pe
open Go
namespace Q
variable {α γ : Type}
theorem run_bind (q : Q α) (f : α → Q γ) (E : Env) : (q.bind f).run E = match q.run E with | some (a, E') => (f a).run E' | none => none := by
  induction q generalizing E with
  | ret a => rfl
  | fail => rfl
  | ask s k ih => exact ih _ _
  | set s v k ih => exact ih _
theorem run_bind_some {q : Q α} {f : α → Q γ} {E E' : Env} {b : γ} (h : (q.bind f).run E = some (b, E')) : ∃ a E1, q.run E = some (a, E1) ∧ (f a).run E1 = some (b, E') := by
  rw [run_bind] at h
  cases hq : q.run E with
  | none => rw [hq] at h; cases h
  | some x => rw [hq] at h; exact ⟨x.1, x.2, rfl, h⟩
end Q
theorem ofOpt_run {α : Type} {o : Option α} {E E' : Env} {b : α} (h : (ofOpt o).run E = some (b, E')) : o = some b ∧ E' = E := by
  cases o with
  | none => cases h
  | some x => simp only [ofOpt, Q.run, Option.some.injEq, Prod.mk.injEq] at h; exact ⟨by rw [h.1], h.2.symm⟩
theorem ret_run {α : Type} {a b : α} {E E' : Env} (h : (Q.ret a).run E = some (b, E')) : b = a ∧ E' = E := by
  simp only [Q.run, Option.some.injEq, Prod.mk.injEq] at h; exact ⟨h.1.symm, h.2.symm⟩
section
variable {C : Ctx} {E E1 : Env} {a : Act} {w : World} {ι β : Nat → Option Nat} {M : Nat → Prop}
structure Left (C : Ctx) (E E1 : Env) (a : Act) (w : World) (ι : Nat → Option Nat) (M : Nat → Prop) (R : (Nat → Option Nat) → (Nat → Prop) → Prop) : Prop where
  ex : ∃ β1 M1, Sim C E1 a w ι β1 M1 ∧ Evo C.X M w M1 w ∧ R β1 M1
theorem val_lt (h : Sim C E a w ι β M) {s : Nat} (hs : valOf a s ≠ undef) : s ≠ gs := h.ne_gs (h.lt_of hs)
theorem data_sound {t : Nat} {x : AD} (h : Sim C E a w ι β M) (hq : (data t).run E = some (x, E1)) :
    ∃ β1 M1, Sim C E1 a w ι β1 M1 ∧ Evo C.X M w M1 w ∧ RdA w ι M1 (valOf a t) x := by
  have ho := h.hold t
  simp only [data, Q.run] at hq
  cases hE : E t with
  | v y =>
    rw [hE] at hq ho
    obtain ⟨rfl, rfl⟩ := ret_run hq
    exact ⟨β, M, h, Evo.refl _ _, ho⟩
  | own g e sz rows =>
    rw [hE] at hq
    simp only [Q.run, Option.some.injEq, Prod.mk.injEq] at hq
    obtain ⟨rfl, rfl⟩ := hq
    obtain ⟨M', he, hs, hr⟩ := h.freeze hE
    exact ⟨_, M', hs, he, hr⟩
  | vw s g =>
    rw [hE] at hq ho
    simp only [Q.run] at hq
    cases hS : E s with
    | own g' e sz rows =>
      rw [hS] at hq
      simp only at hq
      split at hq
      · rename_i hg
        subst hg
        simp only [Q.run, Option.some.injEq, Prod.mk.injEq] at hq
        obtain ⟨rfl, rfl⟩ := hq
        have hval : valOf a t = valOf a s := ho e sz rows hS
        obtain ⟨M', he, hs, hr⟩ := h.freeze hS
        have hne : t ≠ gs := by
          rintro rfl
          obtain ⟨H, nx, hH, _⟩ := h.hp
          rw [hH] at hE; cases hE
        refine ⟨_, M', hs.put' (a' := a) (av := .v (.one (.sl rows))) hne h.size h.defs (fun _ _ => rfl) rfl ?_, he, ?_⟩
        · simp only [Holds, RdA]; rw [hval]; exact hr
        · simp only [RdA]; rw [hval]; exact hr
      · cases hq
    | _ => rw [hS] at hq; cases hq
  | _ => rw [hE] at hq; cases hq
theorem cst_sound {v : Value} {d : D} (h : cst v = some d) : Rd w ι M v d := by
  unfold cst at h
  split at h <;> first | (injection h with h; subst h; constructor) | cases h
theorem opd_sound {x : Operand} {r : AD} (h : Sim C E a w ι β M) (hq : (opd x).run E = some (r, E1)) :
    ∃ β1 M1, Sim C E1 a w ι β1 M1 ∧ Evo C.X M w M1 w ∧ RdA w ι M1 (a.eval x) r := by
  cases x with
  | tmp t => exact data_sound h hq
  | const v =>
    simp only [opd] at hq
    cases hc : cst v with
    | none => rw [hc] at hq; cases hq
    | some d =>
      rw [hc] at hq
      obtain ⟨rfl, rfl⟩ := ret_run hq
      exact ⟨β, M, h, Evo.refl _ _, cst_sound hc⟩
  | func f =>
    obtain ⟨rfl, rfl⟩ := ret_run hq
    exact ⟨β, M, h, Evo.refl _ _, Rd.fn f⟩
  | global g => cases hq
theorem opds_sound {l : List Operand} {r : List AD} (h : Sim C E a w ι β M) (hq : (opds l).run E = some (r, E1)) :
    ∃ β1 M1, Sim C E1 a w ι β1 M1 ∧ Evo C.X M w M1 w ∧ r.length = l.length ∧ ∀ (j : Nat) x y, l[j]? = some x → r[j]? = some y → RdA w ι M1 (a.eval x) y := by
  induction l generalizing E β M r E1 with
  | nil =>
    obtain ⟨rfl, rfl⟩ := ret_run hq
    exact ⟨β, M, h, Evo.refl _ _, rfl, fun j x y hx => by simp at hx⟩
  | cons x l ih =>
    simp only [opds] at hq
    obtain ⟨b, E2, h1, hq⟩ := Q.run_bind_some hq
    obtain ⟨bs, E3, h2, hq⟩ := Q.run_bind_some hq
    obtain ⟨rfl, rfl⟩ := ret_run hq
    obtain ⟨β1, M1, s1, e1, r1⟩ := opd_sound h h1
    obtain ⟨β2, M2, s2, e2, hl, r2⟩ := ih s1 h2
    refine ⟨β2, M2, s2, e1.trans e2, by simp [hl], fun j x' y hx hy => ?_⟩
    cases j with
    | zero => simp at hx hy; subst hx; subst hy; exact r1.mono e2 (fun _ _ h => h)
    | succ j => simp at hx hy; exact r2 j x' y hx hy
theorem parts_sound {l : List (Nat × Operand)} {r : List (Nat × List D)} (h : Sim C E a w ι β M) (hq : (parts l).run E = some (r, E1)) :
    ∃ β1 M1, Sim C E1 a w ι β1 M1 ∧ Evo C.X M w M1 w ∧ r.length = l.length ∧ ∀ (j : Nat) x y, l[j]? = some x → r[j]? = some y → y.1 = x.1 ∧ RdL w ι M1 (a.eval x.2).cells.toList y.2 := by
  induction l generalizing E β M r E1 with
  | nil =>
    obtain ⟨rfl, rfl⟩ := ret_run hq
    exact ⟨β, M, h, Evo.refl _ _, rfl, fun j x y hx => by simp at hx⟩
  | cons x l ih =>
    obtain ⟨i, x⟩ := x
    simp only [parts] at hq
    obtain ⟨b, E2, h1, hq⟩ := Q.run_bind_some hq
    obtain ⟨bs, E3, h2, hq⟩ := Q.run_bind_some hq
    obtain ⟨rfl, rfl⟩ := ret_run hq
    obtain ⟨β1, M1, s1, e1, r1⟩ := opd_sound h h1
    obtain ⟨β2, M2, s2, e2, hl, r2⟩ := ih s1 h2
    refine ⟨β2, M2, s2, e1.trans e2, by simp [hl], fun j x' y hx hy => ?_⟩
    cases j with
    | zero => simp at hx hy; subst hx; subst hy; exact ⟨rfl, (r1.mono e2 (fun _ _ h => h)).cells⟩
    | succ j => simp at hx hy; exact r2 j x' y hx hy
def PlHolds (w : World) (ι β : Nat → Option Nat) (M : Nat → Prop) (E : Env) (v : Value) : Pl → Prop
  | .loc t g off => ∀ xs, E t = .box g xs → ∃ b, β t = some b ∧ v = .pointer (some ⟨b, off, none⟩)
  | .oloc t g i off => ∀ e sz rows, E t = .own g e sz rows → ∃ b, β t = some b ∧ v = .pointer (some ⟨b, i * sz + off, none⟩)
  | .imm rows i off => ∃ a sz, ImmAt w ι M a sz rows ∧ v = .pointer (some (a.add (i * sz + off)))
  | .obj o sz i off => ∃ b, ι o = some b ∧ 0 < sz ∧ v = .pointer (some ⟨b, i * sz + off, none⟩)
theorem addr_sound {x : Operand} {p : Pl} (h : Sim C E a w ι β M) (hq : (addr x).run E = some (p, E1)) : E1 = E ∧ PlHolds w ι β M E (a.eval x) p ∧ ∃ ad, a.eval x = .pointer (some ad) := by
  cases x with
  | tmp t =>
    have ho := h.hold t
    simp only [addr, Q.run] at hq
    cases hE : E t with
    | loc s g off =>
      rw [hE] at hq ho
      simp only [Q.run] at hq
      cases hS : E s with
      | box g' xs =>
        rw [hS] at hq
        simp only at hq
        split at hq
        · rename_i hg; subst hg
          obtain ⟨rfl, rfl⟩ := ret_run hq
          obtain ⟨b, _, h2⟩ := ho xs hS
          exact ⟨rfl, ho, _, h2⟩
        · cases hq
      | _ => rw [hS] at hq; cases hq
    | box g xs =>
      rw [hE] at hq ho; obtain ⟨rfl, rfl⟩ := ret_run hq
      obtain ⟨b, cs, T, h1, h2, _⟩ := ho
      exact ⟨rfl, fun xs' _ => ⟨b, h1, h2⟩, _, h2⟩
    | oloc s g i off =>
      rw [hE] at hq ho
      simp only [Q.run] at hq
      cases hS : E s with
      | own g' e sz rows =>
        rw [hS] at hq
        simp only at hq
        split at hq
        · rename_i hg; subst hg
          obtain ⟨rfl, rfl⟩ := ret_run hq
          obtain ⟨b, _, h2⟩ := ho e sz rows hS
          exact ⟨rfl, ho, _, h2⟩
        · cases hq
      | _ => rw [hS] at hq; cases hq
    | imm rows i off =>
      rw [hE] at hq ho; obtain ⟨rfl, rfl⟩ := ret_run hq
      obtain ⟨a0, sz, h1, h2⟩ := ho
      exact ⟨rfl, ⟨a0, sz, h1, h2⟩, _, h2⟩
    | v y =>
      rw [hE] at hq ho
      cases y with
      | one d =>
        cases d with
        | ptr o sz i off =>
          obtain ⟨rfl, rfl⟩ := ret_run hq
          have hr : Rd w ι M (valOf a t) (.ptr o sz i off) := ho
          show E1 = E1 ∧ (∃ b, ι o = some b ∧ 0 < sz ∧ valOf a t = _) ∧ ∃ ad, valOf a t = _
          generalize valOf a t = u at hr
          cases hr with
          | ptr _ _ _ _ b hb hz => exact ⟨rfl, ⟨b, hb, hz, rfl⟩, _, rfl⟩
        | _ => cases hq
      | many ds => cases hq
    | _ => rw [hE] at hq; cases hq
  | _ => cases hq
theorem av_holds {p : Pl} {d : Nat} {E' : Env} {β' : Nat → Option Nat} {val : Nat → Value} (h : PlHolds w ι β M E (val d) p) (hd : ∀ t, t ≠ d → E' t = E t ∧ β' t = β t) (hnb : (E' d).isBlk = false) :
    Holds w ι β' M val E' d p.av := by
  cases p with
  | loc t g off =>
    intro xs ht
    by_cases e : t = d
    · subst e; rw [ht] at hnb; cases hnb
    · obtain ⟨b, h1, h2⟩ := h xs (by rw [← (hd t e).1]; exact ht)
      exact ⟨b, by rw [(hd t e).2]; exact h1, h2⟩
  | oloc t g i off =>
    intro e' sz rows ht
    by_cases e : t = d
    · subst e; rw [ht] at hnb; cases hnb
    · obtain ⟨b, h1, h2⟩ := h e' sz rows (by rw [← (hd t e).1]; exact ht)
      exact ⟨b, by rw [(hd t e).2]; exact h1, h2⟩
  | imm rows i off => exact h
  | obj o sz i off =>
    obtain ⟨b, h1, hz, h2⟩ := h
    show Rd w ι M (val d) _
    rw [h2]; exact .ptr _ _ _ _ _ h1 hz
theorem Pl.av_nb (p : Pl) : p.av.isBlk = false := by cases p <;> rfl
theorem Sim.put_pl (h : Sim C E a w ι β M) {d : Nat} (hd : d < C.nt) {v : Value} {p : Pl} (hp : PlHolds w ι β M E v p) : Sim C (upd E d p.av) (a.put (some d) v) w ι (unset β d) M :=
  h.put hd p.av_nb (av_holds (β := β) (E := E) (by rw [h.val_put hd]; exact hp) (fun t ht => ⟨upd_ne E _ ht, by simp [unset, ht]⟩) (by rw [upd_same]; exact p.av_nb))
theorem PlHolds.shift {v : Value} {p : Pl} {n : Nat} (h : PlHolds w ι β M E v p) {ad : Addr} (hv : v = .pointer (some ad)) : PlHolds w ι β M E (.pointer (some (ad.add n))) (p.shift n) := by
  subst hv
  cases p with
  | loc t g off =>
    intro xs ht
    obtain ⟨b, h1, h2⟩ := h xs ht
    injection h2 with h2; injection h2 with h2; subst h2
    exact ⟨b, h1, by rw [addr_add rfl]⟩
  | oloc t g i off =>
    intro e sz rows ht
    obtain ⟨b, h1, h2⟩ := h e sz rows ht
    injection h2 with h2; injection h2 with h2; subst h2
    exact ⟨b, h1, by rw [addr_add rfl, Nat.add_assoc]⟩
  | imm rows i off =>
    obtain ⟨a0, sz, h1, h2⟩ := h
    injection h2 with h2; injection h2 with h2; subst h2
    refine ⟨a0, sz, h1, ?_⟩
    rw [addr_add h1.spot, addr_add rfl, addr_add h1.spot]
    simp [Nat.add_assoc]
  | obj o sz i off =>
    obtain ⟨b, h1, hz, h2⟩ := h
    injection h2 with h2; injection h2 with h2; subst h2
    exact ⟨b, h1, hz, by rw [addr_add rfl, Nat.add_assoc]⟩
theorem sub_some {xs cs : List D} {off n : Nat} (h : sub xs off n = some cs) : off + n ≤ xs.length ∧ cs = (xs.drop off).take n ∧ cs.length = n := by
  unfold sub at h
  split at h
  · injection h with h; subst h; exact ⟨by assumption, rfl, by simp; omega⟩
  · cases h
theorem sub_get {xs cs : List D} {off n : Nat} (h : sub xs off n = some cs) {j : Nat} {d : D} (hd : cs[j]? = some d) : xs[off + j]? = some d := by
  obtain ⟨_, rfl, _⟩ := sub_some h
  rw [List.getElem?_take] at hd
  split at hd
  · rwa [List.getElem?_drop] at hd
  · cases hd
def Cells (w : World) (ι : Nat → Option Nat) (M : Nat → Prop) (ad : Addr) (cs : List D) : Prop :=
  ∃ vs, RdL w ι M vs cs ∧ ∀ (j : Nat) u, vs[j]? = some u → w.cell? (ad.add j) = some u
theorem Cells.of {ad : Addr} {cs : List D} (h : ∀ j d, cs[j]? = some d → ∃ u, w.cell? (ad.add j) = some u ∧ Rd w ι M u d) : Cells w ι M ad cs := by
  refine ⟨(List.range cs.length).map fun j => (w.cell? (ad.add j)).getD undef, ⟨by simp, fun j v d hv hd => ?_⟩, fun j u hu => ?_⟩
  · obtain ⟨u, h1, h2⟩ := h j d hd
    have hj : j < cs.length := (List.getElem?_eq_some_iff.1 hd).1
    simp [List.getElem?_map, List.getElem?_range hj, h1] at hv
    subst hv; exact h2
  · have hj : j < cs.length := by
      rcases Nat.lt_or_ge j cs.length with hj | hj
      · exact hj
      · rw [List.getElem?_eq_none (by simpa using hj)] at hu; cases hu
    obtain ⟨u', h1, _⟩ := h j cs[j] (List.getElem?_eq_getElem hj)
    simp [List.getElem?_map, List.getElem?_range hj, h1] at hu
    subst hu; exact h1
theorem Blk.cells {b : Nat} {T : TypeId} {cs : Array Value} {sz : Nat} {rows : List (List D)} (h : Blk w ι M b T cs sz rows) {i off n : Nat} {r ds : List D} (hr : rows[i]? = some r) (hs : sub r off n = some ds) :
    Cells w ι M ⟨b, i * sz + off, none⟩ ds := by
  refine Cells.of fun j d hd => ?_
  obtain ⟨v, hv, hrd⟩ := h.rd i (off + j) r d hr (sub_get hs hd)
  refine ⟨v, ?_, hrd⟩
  rw [addr_add rfl]
  simp only [World.cell?, h.at_]
  rw [Nat.add_assoc]; simpa using hv
theorem rdPl_sound {n : Nat} {p : Pl} {cs : List D} {v : Value} (h : Sim C E a w ι β M) (hp : PlHolds w ι β M E v p) (hq : (rdPl n p).run E = some (cs, E1)) :
    E1 = E ∧ cs.length = n ∧ ∃ ad, v = .pointer (some ad) ∧ Cells w ι M ad cs := by
  cases p with
  | loc t g off =>
    have ho := h.hold t
    simp only [rdPl, Q.run] at hq
    cases hE : E t with
    | box g' xs =>
      rw [hE] at hq ho
      simp only at hq
      split at hq
      · rename_i hg; subst hg
        obtain ⟨hs, rfl⟩ := ofOpt_run hq
        obtain ⟨b, h1, h2⟩ := hp xs hE
        obtain ⟨b', cs', T, h3, _, h5⟩ := ho
        rw [h1] at h3; injection h3 with h3; subst h3
        refine ⟨rfl, (sub_some hs).2.2, _, h2, ?_⟩
        have := h5.cells (i := 0) (r := xs) rfl hs
        simpa using this
      · cases hq
    | _ => rw [hE] at hq; cases hq
  | oloc t g i off =>
    have ho := h.hold t
    simp only [rdPl, Q.run] at hq
    cases hE : E t with
    | own g' e sz rows =>
      rw [hE] at hq ho
      simp only at hq
      split at hq
      · rename_i hg; subst hg
        obtain ⟨r, E2, h0, hq2⟩ := Q.run_bind_some hq
        clear hq
        obtain ⟨hr, rfl⟩ := ofOpt_run h0
        obtain ⟨hs, rfl⟩ := ofOpt_run hq2
        obtain ⟨b, h1, h2⟩ := hp e sz rows hE
        obtain ⟨_, ho⟩ := ho
        rcases ho with ⟨_, hn, _⟩ | ⟨b', cs', cap, h3, _, _, _, _, h8⟩
        · subst hn; simp at hr
        · rw [h1] at h3; injection h3 with h3; subst h3
          exact ⟨rfl, (sub_some hs).2.2, _, h2, h8.cells hr hs⟩
      · cases hq
    | _ => rw [hE] at hq; cases hq
  | imm rows i off =>
    simp only [rdPl] at hq
    obtain ⟨r, E2, h0, hq2⟩ := Q.run_bind_some hq
    clear hq
    obtain ⟨hr, rfl⟩ := ofOpt_run h0
    obtain ⟨hs, rfl⟩ := ofOpt_run hq2
    obtain ⟨a0, sz, h1, h2⟩ := hp
    refine ⟨rfl, (sub_some hs).2.2, _, h2, Cells.of fun j d hd => ?_⟩
    obtain ⟨u, hu, hrd⟩ := h1.rd i (off + j) r d hr (sub_get hs hd)
    refine ⟨u, ?_, hrd⟩
    rw [addr_add h1.spot] at hu ⊢
    rw [addr_add rfl]
    simpa [Nat.add_assoc] using hu
  | obj o sz i off =>
    simp only [rdPl, Q.run] at hq
    cases hE : E gs with
    | heap H nx =>
      rw [hE] at hq
      simp only at hq
      obtain ⟨ob, E2, h0, hq2⟩ := Q.run_bind_some hq
      clear hq
      obtain ⟨hH, rfl⟩ := ofOpt_run h0
      split at hq2
      · rename_i hsz; subst hsz
        obtain ⟨r, E3, h3, hq3⟩ := Q.run_bind_some hq2
        clear hq2
        obtain ⟨hr, rfl⟩ := ofOpt_run h3
        obtain ⟨hs, rfl⟩ := ofOpt_run hq3
        obtain ⟨b, h1, hz, h2⟩ := hp
        obtain ⟨b', h3, h4⟩ := h.objs o ob (by simp [live, hE, hH])
        rw [h1] at h3; injection h3 with h3; subst h3
        obtain ⟨T, cs', _, h4⟩ := h4.blkE hz
        rw [PObj.row_full] at hr
        exact ⟨rfl, (sub_some hs).2.2, _, h2, h4.cells hr hs⟩
      · cases hq2
    | _ => rw [hE] at hq; cases hq
end
end Go.Proofs.YtmhinddneefmbaaGreat.Pe
