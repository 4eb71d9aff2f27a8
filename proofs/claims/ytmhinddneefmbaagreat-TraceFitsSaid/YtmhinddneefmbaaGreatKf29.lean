/- A part of the proof of JdH. -/
import Derived.Test.YtmhinddneefmbaaGreatKf23
import Derived.Test.YtmhinddneefmbaaGreatKf28
set_option linter.unusedSimpArgs false
set_option linter.unusedVariables false
set_option linter.unusedSectionVars false
namespace Go.Proofs.YtmhinddneefmbaaGreat.Pe
open Go
noncomputable def regT (S : SysP) (e : Evs) (t : EvT) (nt : Nat) (ops : Array Oper) (draw : Bool) (s : St) (T : TL) : Option (St × TL) :=
  if draw then drawT S e t nt ops s T
  else match runT S e t nt ops 0 ops.toList s T with
    | some z => z.1.flat.map fun s' => (s', z.2)
    | none => (regS (ctxS S.toSys e nt) ops draw s).map fun s' => (s', T)
noncomputable def seqT {α β : Type} (x : Option (α × TL)) (f : α → TL → Option β) : Option β := match x with
  | some z => f z.1 z.2
  | none => none
noncomputable def stepT (S : SysP) (e : Evs) (t : EvT) : EvT where
  fn := fun f ads H nx T => match S.tab f with
    | some fd => if ads.length ≤ fd.nt ∧ fd.nt ≤ 1000000 then seqT (t.code fd.nt none fd.body ⟨startS ads 0 .leaf, H, nx⟩ T) fun x T' => match x with
        | (.exit _, _) => none
        | (_, s) => ((resQ (ctxS S.toSys e fd.nt) fd.res).runS s [] []).bind fun r => some ((rvOf r.1, r.2.1.H, r.2.1.nx), T')
        else none
    | none => none
  yld := fun lp ads H nx T => (recAt H lp).bind fun (nt, env, ps, assign, body, busy, jump) =>
    if busy = false ∧ jump.isNone = true ∧ nt ≤ 1000000 then
      (setPs nt ps ads (ofEnv env)).bind fun tr => seqT (t.code nt (some lp) assign ⟨tr, H, nx⟩ T) fun x T1 => match x with
      | (.normal, s1) => (recAt s1.H lp).bind fun (nt', env', ps', assign', body', busy', jump') =>
        if busy' = false ∧ jump'.isNone = true then
          (putRec s1.H lp nt' env' ps' assign' body' true none).flat.bind fun H1 => seqT (t.code nt (some lp) body { s1 with H := .tr H1 } T1) fun y T2 => match y with
          | (ex, s2) => (recAt s2.H lp).bind fun (nt2, env2, ps2, assign2, body2, _, _) =>
            (putRec s2.H lp nt2 env2 ps2 assign2 body2 false (exJump ex)).flat.bind fun H2 => some (((exJump ex).isNone, .tr H2, s2.nx), T2)
        else none
      | _ => none
    else none
  code := fun nt r c s T => match c with
    | .skip => some ((.normal, s), T)
    | .ret => some ((.ret, s), T)
    | .exit id => some ((.exit id, s), T)
    | .seq x y => seqT (t.code nt r x s T) fun z T1 => match z with
      | (.normal, s1) => t.code nt r y s1 T1
      | z => some (z, T1)
    | .cond c x y => (condS s c).bind fun b => if b then t.code nt r x s T else t.code nt r y s T
    | .block id b => seqT (t.code nt r b s T) fun z T1 => some (exOf id z, T1)
    | .loop b => seqT (t.code nt r b s T) fun z T1 => match z with
      | (.normal, s1) => t.code nt r (.loop b) s1 T1
      | z => some (z, T1)
    | .region _ ops d => seqT (regT S e t nt ops d s T) fun s1 T1 => some ((.normal, s1), T1)
    | .rangeFunc g ps assign body => (iterS s g).bind fun (f, caps) =>
      if insideOk s.H r then
        (putRec s.H s.nx nt (s.t.map toB) ps.toList assign body false none).flat.bind fun H1 =>
        seqT (calleeT S t f (.one (.yl s.nx) :: caps.map .one) (.tr H1) (s.nx + 1) T) fun q T1 => match q with
        | (_, H2, nx2) => (recAt H2 s.nx).bind fun (_, _, _, _, _, busy, jump) => if busy then none else
          (updO H2 s.nx none).flat.bind fun H3 => (jumpOf jump).map fun ex => ((ex, { s with H := .tr H3, nx := nx2 }), T1)
      else none
    | _ => none
noncomputable def evt (S : SysP) (k : Nat) : EvT :=
  Nat.rec (motive := fun _ => EvT) ⟨fun _ _ _ _ _ => none, fun _ _ _ _ _ => none, fun _ _ _ _ _ => none⟩ (fun k t => stepT S (evs S.toSys k) t) k
theorem seqT_some {α β : Type} {x : Option (α × TL)} {f : α → TL → Option β} {b : β} (h : seqT x f = some b) : ∃ a T, x = some (a, T) ∧ f a T = some b := by
  unfold seqT at h
  split at h
  · rename_i z; exact ⟨z.1, z.2, rfl, h⟩
  · cases h
section
variable {S : SysP} {e : Evs} {t : EvT} (hP : PbOk S) (hE : EvTOk e t)
include hP hE
theorem regT_ok {nt : Nat} {ops : Array Oper} {draw : Bool} {s s' : St} {T T' : TL} (h : regT S e t nt ops draw s T = some (s', T')) : T.Le T' ∧ (T'.Ok → regS (ctxS S.toSys e nt) ops draw s = some s') := by
  unfold regT at h
  split at h
  · rename_i hd
    subst hd
    exact drawT_ok hP hE h
  · rename_i hd
    cases hr : runT S e t nt ops 0 ops.toList s T with
    | none =>
      rw [hr] at h
      simp only at h
      cases hg : regS (ctxS S.toSys e nt) ops draw s with
      | none => rw [hg] at h; cases h
      | some s2 =>
        rw [hg] at h
        simp only [Option.map_some, Option.some.injEq, Prod.mk.injEq] at h
        obtain ⟨rfl, rfl⟩ := h
        exact ⟨.refl _, fun _ => rfl⟩
    | some z =>
      rw [hr] at h
      simp only at h
      obtain ⟨h1, h2⟩ := runT_ok hP hE (s' := z.1) (T' := z.2) hr
      cases hf : z.1.flat with
      | none => rw [hf] at h; cases h
      | some s2 =>
        rw [hf] at h
        simp only [Option.map_some, Option.some.injEq, Prod.mk.injEq] at h
        obtain ⟨rfl, rfl⟩ := h
        refine ⟨h1, fun hT => ?_⟩
        unfold regS
        rw [if_neg hd, h2 hT]
        exact hf
theorem stepT_ok : EvTOk (stepE S.toSys e) (stepT S e t) := by
  refine ⟨fun f ads H nx T q T' h => ?_, fun lp ads H nx T q T' h => ?_, fun nt r c s T z T' h => ?_⟩
  · simp only [stepT] at h
    simp only [stepE]
    split at h
    · rename_i fd hfd
      simp only [hfd]
      split at h
      · rename_i hle
        obtain ⟨x, T1, hx, h⟩ := seqT_some h
        obtain ⟨h1, h2⟩ := hE.code _ _ _ _ _ _ _ hx
        split at h
        · cases h
        · rename_i ex s1 hne
          cases hr : (resQ (ctxS S.toSys e fd.nt) fd.res).runS s1 [] [] with
          | none => rw [hr] at h; cases h
          | some r =>
            rw [hr] at h
            simp only [Option.bind_some, Option.some.injEq, Prod.mk.injEq] at h
            obtain ⟨rfl, rfl⟩ := h
            refine ⟨h1, fun hT => ?_⟩
            rw [if_pos hle, h2 hT]
            simp only [Option.bind_some]
            rw [hr]; rfl
      · cases h
    · cases h
  · simp only [stepT] at h
    simp only [stepE]
    cases hr : recAt H lp with
    | none => rw [hr] at h; cases h
    | some z =>
      obtain ⟨nt, env, ps, assign, body, busy, jump⟩ := z
      rw [hr] at h
      simp only [Option.bind_some] at h ⊢
      split at h
      · rename_i hb
        rw [if_pos hb]
        cases hs : setPs nt ps ads (ofEnv env) with
        | none => rw [hs] at h; cases h
        | some tr =>
          rw [hs] at h
          simp only [Option.bind_some] at h ⊢
          obtain ⟨x, T1, hx, h⟩ := seqT_some h
          obtain ⟨h1, h2⟩ := hE.code _ _ _ _ _ _ _ hx
          split at h
          · rename_i s1
            cases hr1 : recAt s1.H lp with
            | none => rw [hr1] at h; cases h
            | some z1 =>
              obtain ⟨nt', env', ps', assign', body', busy', jump'⟩ := z1
              rw [hr1] at h
              simp only [Option.bind_some] at h
              split at h
              · rename_i hb1
                cases hf : (putRec s1.H lp nt' env' ps' assign' body' true none).flat with
                | none => rw [hf] at h; cases h
                | some H1 =>
                  rw [hf] at h
                  simp only [Option.bind_some] at h
                  obtain ⟨y, T2, hy, h⟩ := seqT_some h
                  obtain ⟨ex, s2⟩ := y
                  obtain ⟨k1, k2⟩ := hE.code _ _ _ _ _ _ _ hy
                  simp only at h
                  cases hr2 : recAt s2.H lp with
                  | none => rw [hr2] at h; cases h
                  | some z2 =>
                    obtain ⟨nt2, env2, ps2, assign2, body2, b2, j2⟩ := z2
                    rw [hr2] at h
                    simp only [Option.bind_some] at h
                    cases hf2 : (putRec s2.H lp nt2 env2 ps2 assign2 body2 false (exJump ex)).flat with
                    | none => rw [hf2] at h; cases h
                    | some H2 =>
                      rw [hf2] at h
                      simp only [Option.bind_some, Option.some.injEq, Prod.mk.injEq] at h
                      obtain ⟨rfl, rfl⟩ := h
                      refine ⟨h1.trans k1, fun hT => ?_⟩
                      rw [h2 (k1.ok hT)]
                      simp only [Option.bind_some]
                      rw [hr1]
                      simp only [Option.bind_some]
                      rw [if_pos hb1, hf]
                      simp only [Option.bind_some]
                      rw [k2 hT]
                      simp only [Option.bind_some]
                      rw [hr2]
                      simp only [Option.bind_some]
                      rw [hf2]
                      rfl
              · cases h
          · cases h
      · cases h
  · cases c with
    | skip => simp only [stepT, Option.some.injEq, Prod.mk.injEq] at h; obtain ⟨rfl, rfl⟩ := h; exact ⟨.refl _, fun _ => rfl⟩
    | ret => simp only [stepT, Option.some.injEq, Prod.mk.injEq] at h; obtain ⟨rfl, rfl⟩ := h; exact ⟨.refl _, fun _ => rfl⟩
    | exit id => simp only [stepT, Option.some.injEq, Prod.mk.injEq] at h; obtain ⟨rfl, rfl⟩ := h; exact ⟨.refl _, fun _ => rfl⟩
    | seq x y =>
      simp only [stepT] at h
      simp only [stepE]
      obtain ⟨z1, T1, hx, h⟩ := seqT_some h
      obtain ⟨h1, h2⟩ := hE.code _ _ _ _ _ _ _ hx
      obtain ⟨ex1, s1⟩ := z1
      cases ex1 with
      | normal =>
        obtain ⟨k1, k2⟩ := hE.code _ _ _ _ _ _ _ h
        exact ⟨h1.trans k1, fun hT => by rw [h2 (k1.ok hT)]; exact k2 hT⟩
      | ret =>
        simp only [Option.some.injEq, Prod.mk.injEq] at h
        obtain ⟨rfl, rfl⟩ := h
        exact ⟨h1, fun hT => by rw [h2 hT]; rfl⟩
      | exit id =>
        simp only [Option.some.injEq, Prod.mk.injEq] at h
        obtain ⟨rfl, rfl⟩ := h
        exact ⟨h1, fun hT => by rw [h2 hT]; rfl⟩
    | cond c x y =>
      simp only [stepT] at h
      simp only [stepE]
      cases hc : condS s c with
      | none => rw [hc] at h; cases h
      | some b =>
        rw [hc] at h
        simp only [Option.bind_some] at h ⊢
        cases b with
        | true => exact hE.code _ _ _ _ _ _ _ h
        | false => exact hE.code _ _ _ _ _ _ _ h
    | block id b =>
      simp only [stepT] at h
      simp only [stepE]
      obtain ⟨z1, T1, hx, h⟩ := seqT_some h
      obtain ⟨h1, h2⟩ := hE.code _ _ _ _ _ _ _ hx
      simp only [Option.some.injEq, Prod.mk.injEq] at h
      obtain ⟨rfl, rfl⟩ := h
      exact ⟨h1, fun hT => by rw [h2 hT]; rfl⟩
    | loop b =>
      simp only [stepT] at h
      simp only [stepE]
      obtain ⟨z1, T1, hx, h⟩ := seqT_some h
      obtain ⟨h1, h2⟩ := hE.code _ _ _ _ _ _ _ hx
      obtain ⟨ex1, s1⟩ := z1
      cases ex1 with
      | normal =>
        obtain ⟨k1, k2⟩ := hE.code _ _ _ _ _ _ _ h
        exact ⟨h1.trans k1, fun hT => by rw [h2 (k1.ok hT)]; exact k2 hT⟩
      | ret =>
        simp only [Option.some.injEq, Prod.mk.injEq] at h
        obtain ⟨rfl, rfl⟩ := h
        exact ⟨h1, fun hT => by rw [h2 hT]; rfl⟩
      | exit id =>
        simp only [Option.some.injEq, Prod.mk.injEq] at h
        obtain ⟨rfl, rfl⟩ := h
        exact ⟨h1, fun hT => by rw [h2 hT]; rfl⟩
    | region id ops d =>
      simp only [stepT] at h
      simp only [stepE]
      obtain ⟨s1, T1, hx, h⟩ := seqT_some h
      obtain ⟨h1, h2⟩ := regT_ok hP hE hx
      simp only [Option.some.injEq, Prod.mk.injEq] at h
      obtain ⟨rfl, rfl⟩ := h
      exact ⟨h1, fun hT => by rw [h2 hT]; rfl⟩
    | scope b => cases h
    | label l => cases h
    | goto l => cases h
    | refuse why => cases h
    | rangeFunc g ps assign body =>
      simp only [stepT] at h
      simp only [stepE]
      cases hi : iterS s g with
      | none => rw [hi] at h; cases h
      | some fc =>
        obtain ⟨f, caps⟩ := fc
        rw [hi] at h
        simp only [Option.bind_some] at h ⊢
        split at h
        · rename_i hin
          rw [if_pos hin]
          cases hf : (putRec s.H s.nx nt (s.t.map toB) ps.toList assign body false none).flat with
          | none => rw [hf] at h; cases h
          | some H1 =>
            rw [hf] at h
            simp only [Option.bind_some] at h ⊢
            obtain ⟨q, T1, hx, h⟩ := seqT_some h
            obtain ⟨h1, h2⟩ := calleeT_ok hP hE hx
            obtain ⟨rv, H2, nx2⟩ := q
            simp only at h
            cases hr2 : recAt H2 s.nx with
            | none => rw [hr2] at h; cases h
            | some z2 =>
              obtain ⟨nt2, env2, ps2, assign2, body2, busy, jump⟩ := z2
              rw [hr2] at h
              simp only [Option.bind_some] at h
              cases busy with
              | true => cases h
              | false =>
                simp only [Bool.false_eq_true, if_false] at h
                cases hf3 : (updO H2 s.nx none).flat with
                | none => rw [hf3] at h; cases h
                | some H3 =>
                  rw [hf3] at h
                  simp only [Option.bind_some] at h
                  cases hj : jumpOf jump with
                  | none => rw [hj] at h; cases h
                  | some ex =>
                    rw [hj] at h
                    simp only [Option.map_some, Option.some.injEq, Prod.mk.injEq] at h
                    obtain ⟨rfl, rfl⟩ := h
                    refine ⟨h1, fun hT => ?_⟩
                    rw [h2 hT]
                    simp only [Option.bind_some]
                    rw [hr2]
                    simp only [Option.bind_some, Bool.false_eq_true, if_false]
                    rw [hf3]
                    simp only [Option.bind_some]
                    rw [hj]
                    rfl
        · cases h
end
theorem evt_ok {S : SysP} (hP : PbOk S) : ∀ k, EvTOk (evs S.toSys k) (evt S k)
  | 0 => ⟨fun _ _ _ _ _ _ _ h => (by cases h), fun _ _ _ _ _ _ _ h => (by cases h), fun _ _ _ _ _ _ _ h => (by cases h)⟩
  | k + 1 => stepT_ok hP (evt_ok hP k)
end Go.Proofs.YtmhinddneefmbaaGreat.Pe
namespace Go.Proofs.YtmhinddneefmbaaGreat.Pe
open Go
def CodeR (P : Program) (nt : Nat) (r : Option Nat) (c : Code) (s : St) (ex : Ex) (s' : St) : Prop :=
  ∀ (C : Ctx) (a : Act) (w : World) (ι β : Nat → Option Nat) (M : Nat → Prop) (B : Bs) (Qx : Exit → Act → World → Prop) (n : Nat) (ro : Option Nat),
    C.nt = nt → RRel r ro ι → Sim C s.env a w ι β M → Plain s → B.lo ≤ w.heap.size → Marks B C.dfs w M →
    (∀ C' a' w' ι' β' M', C'.nt = nt → C'.X = C.X → (r ≠ none → C'.dfs = C.dfs) → Sim C' s'.env a' w' ι' β' M' → Plain s' → Marks B C'.dfs w' M' → Evo C.X M w M' w' → (∀ o b, ι o = some b → ι' o = some b) → Qx ex.ex a' w') → c.wpIn (Fx ro) n P Qx a w
theorem codeOk_iff {P : Program} {F : Nat → Option Nat → Code → St → Option (Ex × St)} : CodeOk P F ↔ ∀ nt r c s ex s', F nt r c s = some (ex, s') → CodeR P nt r c s ex s' := Iff.rfl
structure Less (s0 s : St) : Prop where
  H : ∀ o, s0.H o = s.H o
  nx : s0.nx = s.nx
  env : ∀ i, i ≠ gs → s0.env i = s.env i ∨ s0.env i = .junk
theorem Less.refl (s : St) : Less s s := ⟨fun _ => rfl, rfl, fun _ _ => .inl rfl⟩
theorem Less.trans {a b c : St} (h : Less a b) (k : Less b c) : Less a c := ⟨fun o => (h.H o).trans (k.H o), h.nx.trans k.nx, fun i hi => by
  rcases h.env i hi with e | e
  · rcases k.env i hi with e' | e'
    · exact .inl (e.trans e')
    · exact .inr (e.trans e')
  · exact .inr e⟩
section
variable {P : Program} {S : Sys} {C C' : Ctx} {a : Act} {w w' : World} {ι ι' β : Nat → Option Nat} {M M' : Nat → Prop} {nt : Nat} {r : Option Nat} {s s' s0 s1 s2 : St} {ex : Ex}
theorem Sim.less (h : Sim C s.env a w ι β M) (hp : Plain s) (hl : Less s0 s) : Sim C s0.env a w ι (fun _ => none) M ∧ Plain s0 := by
  have h1 : Sim C s.env a w ι (fun _ => none) M := by
    refine ⟨h.size, h.defs, h.small, h.hp, h.objs, h.injO, fun _ _ _ h => (by cases h), fun _ _ _ _ _ _ h => (by cases h), h.ctlO, fun _ _ h => (by cases h), h.xO, fun _ _ h => (by cases h), h.xlt, h.xM, h.lt, fun i => ?_⟩
    have hh := h.hold i
    rcases hp i with rfl | hpl
    · rw [St.env_gs] at hh ⊢; exact hh
    · cases hE : s.env i with
      | v x => rw [hE] at hh; exact hh
      | tup l => rw [hE] at hh; exact hh
      | imm rows j off => rw [hE] at hh; exact hh
      | junk => trivial
      | _ => rw [hE] at hpl; cases hpl
  have hp0 : Plain s0 := fun i => by
    by_cases hi : i = gs
    · exact .inl hi
    · right
      rcases hl.env i hi with e | e
      · rw [e]; exact (hp i).resolve_left hi
      · rw [e]; rfl
  have hlv : live s0.env = live s.env := by
    funext o
    unfold live
    rw [St.env_gs, St.env_gs]
    exact hl.H o
  refine ⟨⟨h1.size, h1.defs, h1.small, ?_, by rw [hlv]; exact h1.objs, by rw [hlv]; exact h1.injO, h1.injB, fun _ _ _ _ _ _ h => (by cases h), by rw [hlv]; exact h1.ctlO, h1.ctlB, by rw [hlv]; exact h1.xO, h1.xB, h1.xlt, h1.xM, h1.lt, fun i => ?_⟩, hp0⟩
  · obtain ⟨H, nx, e1, e2⟩ := h1.hp
    rw [St.env_gs] at e1
    injection e1 with e1 e3
    refine ⟨s0.H, s0.nx, St.env_gs _, fun o => ?_⟩
    rw [hl.nx, e3]; exact e2 o
  · by_cases hi : i = gs
    · subst hi
      rw [St.env_gs]
      trivial
    · rcases hl.env i hi with e | e
      · rw [e]
        have hh := h1.hold i
        have hpl := (hp i).resolve_left hi
        cases hE : s.env i with
        | v x => rw [hE] at hh; exact hh
        | tup l => rw [hE] at hh; exact hh
        | imm rows j off => rw [hE] at hh; exact hh
        | junk => trivial
        | _ => rw [hE] at hpl; cases hpl
      · rw [e]; trivial
theorem CodeR.pre {c : Code} (h : CodeR P nt r c s0 ex s') (hl : Less s0 s) : CodeR P nt r c s ex s' := by
  intro C a w ι β M B Qx n ro hnt hrr hs hp hB hm hK
  obtain ⟨h1, h2⟩ := hs.less hp hl
  exact h C a w ι _ M B Qx n ro hnt hrr h1 h2 hB hm hK
theorem CodeR.post {c : Code} (h : CodeR P nt r c s ex s') (hl : Less s1 s') : CodeR P nt r c s ex s1 := by
  intro C a w ι β M B Qx n ro hnt hrr hs hp hB hm hK
  refine h C a w ι β M B Qx n ro hnt hrr hs hp hB hm fun C' a' w' ι' β' M' k1 k2 k3 k4 k5 k6 k7 k8 => ?_
  obtain ⟨h1, h2⟩ := k4.less k5 hl
  exact hK C' a' w' ι' _ M' k1 k2 k3 h1 h2 k6 k7 k8
theorem CodeR.evs (hS : SysOk S P) {k : Nat} {c : Code} (h : (evs S k).code nt r c s = some (ex, s')) : CodeR P nt r c s ex s' := (evs_ok hS k).code nt r c s ex s' h
theorem CodeR.evt {S : SysP} (hS : SysOk S.toSys P) (hP : PbOk S) {k : Nat} {c : Code} {T T' : TL} (h : (evt S k).code nt r c s T = some ((ex, s'), T')) (hT : T'.Ok) : CodeR P nt r c s ex s' := .evs hS (((evt_ok hP k).code _ _ _ _ _ _ _ h).2 hT)
theorem CodeR.seq {x y : Code} (h : CodeR P nt r x s .normal s1) (k : CodeR P nt r y s1 ex s') : CodeR P nt r (.seq x y) s ex s' := by
  intro C a w ι β M B Qx n ro hnt hrr hs hp hB hm hK
  refine wpIn_seq (h C a w ι β M B _ n ro hnt hrr hs hp hB hm ?_)
  intro C1 a1 w1 ι1 β1 M1 hnt1 hX1 hd1 sm1 pl1 mk1 ev1 hi1
  refine k C1 a1 w1 ι1 β1 M1 B Qx n ro hnt1 (hrr.ext hi1) sm1 pl1 (Nat.le_trans hB ev1.size) mk1 ?_
  intro C2 a2 w2 ι2 β2 M2 hnt2 hX2 hd2 sm2 pl2 mk2 ev2 hi2
  rw [hX1] at ev2
  exact hK C2 a2 w2 ι2 β2 M2 hnt2 (hX2.trans hX1) (fun hne => (hd2 hne).trans (hd1 hne)) sm2 pl2 mk2 (ev1.trans ev2) (fun o b h => hi2 _ _ (hi1 _ _ h))
theorem CodeR.seq' {x y : Code} (h : CodeR P nt r x s ex s') (hx : ex ≠ .normal) : CodeR P nt r (.seq x y) s ex s' := by
  intro C a w ι β M B Qx n ro hnt hrr hs hp hB hm hK
  refine wpIn_seq (h C a w ι β M B _ n ro hnt hrr hs hp hB hm ?_)
  intro C1 a1 w1 ι1 β1 M1 hnt1 hX1 hd1 sm1 pl1 mk1 ev1 hi1
  cases ex with
  | normal => exact absurd rfl hx
  | exit id => exact hK C1 a1 w1 ι1 β1 M1 hnt1 hX1 hd1 sm1 pl1 mk1 ev1 hi1
  | ret => exact hK C1 a1 w1 ι1 β1 M1 hnt1 hX1 hd1 sm1 pl1 mk1 ev1 hi1
theorem CodeR.cond {cd : Operand} {x y : Code} {b : Bool} (hc : condS s cd = some b) (h : CodeR P nt r (br b x y) s ex s') : CodeR P nt r (.cond cd x y) s ex s' := by
  intro C a w ι β M B Qx n ro hnt hrr hs hp hB hm hK
  have hv := cond_sound hs hc
  cases b with
  | true => exact wpIn_cond_true hv (h C a w ι β M B Qx n ro hnt hrr hs hp hB hm hK)
  | false => exact wpIn_cond_false hv (h C a w ι β M B Qx n ro hnt hrr hs hp hB hm hK)
noncomputable def Ex.out (id : Nat) : Ex → Ex
  | .exit id' => if id' = id then .normal else .exit id'
  | x => x
theorem CodeR.block {id : Nat} {b : Code} (h : CodeR P nt r b s ex s') : CodeR P nt r (.block id b) s (ex.out id) s' := by
  intro C a w ι β M B Qx n ro hnt hrr hs hp hB hm hK
  refine wpIn_block (h C a w ι β M B _ n ro hnt hrr hs hp hB hm ?_)
  intro C1 a1 w1 ι1 β1 M1 hnt1 hX1 hd1 sm1 pl1 mk1 ev1 hi1
  cases ex with
  | normal => exact hK C1 a1 w1 ι1 β1 M1 hnt1 hX1 hd1 sm1 pl1 mk1 ev1 hi1
  | ret => exact hK C1 a1 w1 ι1 β1 M1 hnt1 hX1 hd1 sm1 pl1 mk1 ev1 hi1
  | exit id' =>
    show (Exit.inBlock id Qx) (.exit id') a1 w1
    unfold Exit.inBlock
    by_cases he : id' = id
    · have hK' := hK C1 a1 w1 ι1 β1 M1 hnt1 hX1 hd1 sm1 pl1 mk1 ev1 hi1
      simp only [Ex.out, if_pos he] at hK'
      have : Qx .normal a1 w1 := hK'
      simpa [he] using this
    · have hK' := hK C1 a1 w1 ι1 β1 M1 hnt1 hX1 hd1 sm1 pl1 mk1 ev1 hi1
      simp only [Ex.out, if_neg he] at hK'
      have : Qx (.exit id') a1 w1 := hK'
      simpa [he] using this
inductive LoopR (P : Program) (nt : Nat) (r : Option Nat) (b : Code) : Nat → St → Ex → St → Prop where
  | last (u : St) (x : Ex) (u' : St) : CodeR P nt r b u x u' → x ≠ .normal → LoopR P nt r b 0 u x u'
  | step (n : Nat) (u u1 : St) (x : Ex) (u' : St) : CodeR P nt r b u .normal u1 → LoopR P nt r b n u1 x u' → LoopR P nt r b (n + 1) u x u'
theorem LoopR.code {b : Code} {m : Nat} (h : LoopR P nt r b m s ex s') : CodeR P nt r (.loop b) s ex s' := by
  intro C a w ι β M B Qx n ro hnt hrr hs hp hB hm hK
  refine wpIn_loop_ghost (fun j a1 w1 => ∃ s1 C1 ι1 β1 M1, LoopR P nt r b j s1 ex s' ∧ C1.nt = nt ∧ C1.X = C.X ∧ (r ≠ none → C1.dfs = C.dfs) ∧ Sim C1 s1.env a1 w1 ι1 β1 M1 ∧ Plain s1 ∧ Marks B C1.dfs w1 M1 ∧ Evo C.X M w M1 w1 ∧ ∀ o b, ι o = some b → ι1 o = some b) m
    ⟨s, C, ι, β, M, h, hnt, rfl, fun _ => rfl, hs, hp, hm, Evo.refl _ _, fun _ _ h => h⟩ ?_
  rintro j a1 w1 ⟨s1, C1, ι1, β1, M1, hq1, hnt1, hX1, hd1, sm1, pl1, mk1, ev1, hi1⟩
  cases hq1 with
  | last _ _ _ hc hne =>
    refine hc C1 a1 w1 ι1 β1 M1 B _ n ro hnt1 (hrr.ext hi1) sm1 pl1 (Nat.le_trans hB ev1.size) mk1 ?_
    intro C2 a2 w2 ι2 β2 M2 hnt2 hX2 hd2 sm2 pl2 mk2 ev2 hi2
    rw [hX1] at ev2
    cases ex with
    | normal => exact absurd rfl hne
    | exit id => exact hK C2 a2 w2 ι2 β2 M2 hnt2 (hX2.trans hX1) (fun hne => (hd2 hne).trans (hd1 hne)) sm2 pl2 mk2 (ev1.trans ev2) (fun o b h => hi2 _ _ (hi1 _ _ h))
    | ret => exact hK C2 a2 w2 ι2 β2 M2 hnt2 (hX2.trans hX1) (fun hne => (hd2 hne).trans (hd1 hne)) sm2 pl2 mk2 (ev1.trans ev2) (fun o b h => hi2 _ _ (hi1 _ _ h))
  | step j' _ s2 _ _ hc hl =>
    refine hc C1 a1 w1 ι1 β1 M1 B _ n ro hnt1 (hrr.ext hi1) sm1 pl1 (Nat.le_trans hB ev1.size) mk1 ?_
    intro C2 a2 w2 ι2 β2 M2 hnt2 hX2 hd2 sm2 pl2 mk2 ev2 hi2
    rw [hX1] at ev2
    exact ⟨j', Nat.lt_succ_self j', s2, C2, ι2, β2, M2, hl, hnt2, hX2.trans hX1, fun hne => (hd2 hne).trans (hd1 hne), sm2, pl2, mk2, ev1.trans ev2, fun o b h => hi2 _ _ (hi1 _ _ h)⟩
end
open Classical in
noncomputable def ptE (nt0 : Nat) (r0 : Option Nat) (c0 : Code) (s0 : St) (z0 : Ex × St) (f0 : Nat) (ads0 : List AD) (H0 : Hp) (nx0 : Nat) (q0 : RV × Hp × Nat) : Evs where
  fn := fun f ads H nx => if f = f0 ∧ ads = ads0 ∧ H = H0 ∧ nx = nx0 then some q0 else none
  yld := fun _ _ _ _ => none
  code := fun nt r c s => if nt = nt0 ∧ r = r0 ∧ c = c0 ∧ s = s0 then some z0 else none
theorem ptE_ok {P : Program} {S : Sys} {nt0 : Nat} {r0 : Option Nat} {c0 : Code} {s0 s0' : St} {ex0 : Ex} {f0 : Nat} {ads0 : List AD} {H0 H0' : Hp} {nx0 nx0' : Nat} {q0 : RV} (hc : CodeR P nt0 r0 c0 s0 ex0 s0') (hf : RunAt P f0 ads0 H0 nx0 q0 H0' nx0') :
    EvsOk S P (ptE nt0 r0 c0 s0 (ex0, s0') f0 ads0 H0 nx0 (q0, H0', nx0')) := by
  refine ⟨fun f _ ads H nx r H' nx' h => ?_, fun lp ads H nx r H' nx' h => (by cases h), fun nt r c s ex s' h => ?_⟩
  · simp only [ptE] at h
    split at h
    · rename_i e
      obtain ⟨rfl, rfl, rfl, rfl⟩ := e
      simp only [Option.some.injEq, Prod.mk.injEq] at h
      obtain ⟨rfl, rfl, rfl⟩ := h
      exact hf
    · cases h
  · simp only [ptE] at h
    split at h
    · rename_i e
      obtain ⟨rfl, rfl, rfl, rfl⟩ := e
      simp only [Option.some.injEq, Prod.mk.injEq] at h
      obtain ⟨rfl, rfl⟩ := h
      exact hc
    · cases h
theorem noRun {P : Program} {S : Sys} {nt0 : Nat} {r0 : Option Nat} {c0 : Code} {s0 s0' : St} {ex0 : Ex} (hc : CodeR P nt0 r0 c0 s0 ex0 s0') :
    EvsOk S P { ptE nt0 r0 c0 s0 (ex0, s0') 0 [] .nil 0 (.tup [], .nil, 0) with fn := fun _ _ _ _ => none } := by
  refine ⟨fun f _ ads H nx r H' nx' h => (by cases h), fun lp ads H nx r H' nx' h => (by cases h), fun nt r c s ex s' h => ?_⟩
  simp only [ptE] at h
  split at h
  · rename_i e
    obtain ⟨rfl, rfl, rfl, rfl⟩ := e
    simp only [Option.some.injEq, Prod.mk.injEq] at h
    obtain ⟨rfl, rfl⟩ := h
    exact hc
  · cases h
noncomputable def noE : Evs := ⟨fun _ _ _ _ => none, fun _ _ _ _ => none, fun _ _ _ _ => none⟩
noncomputable def resOf (S : Sys) (fd : FD) (s : St) : Option (RV × Hp × Nat) := ((resQ (ctxS S noE fd.nt) fd.res).runS s [] []).bind fun r => some (rvOf r.1, r.2.1.H, r.2.1.nx)
theorem fn_run {P : Program} {S : Sys} (hS : SysOk S P) {f : Nat} {fd : FD} {ads : List AD} {H H' : Hp} {nx nx' : Nat} {ex : Ex} {s : St} {r : RV} (hfd : S.tab f = some fd) (hle : ads.length ≤ fd.nt ∧ fd.nt ≤ 1000000)
    (hc : CodeR P fd.nt none fd.body ⟨startS ads 0 .leaf, H, nx⟩ ex s) (hex : ex = .normal ∨ ex = .ret) (hr : resOf S fd s = some (r, H', nx')) :
    RunAt P f ads H nx r H' nx' := by
  have key := fn_step hS (noRun hc) f (by rw [hfd]; rfl)
  refine key ads H nx _ _ _ ?_
  simp only [stepE, hfd]
  rw [if_pos hle]
  simp only [ptE]
  rw [if_pos (by simp)]
  simp only [Option.bind_some]
  have hres : ∀ (e e' : Evs), resQ (ctxS S e fd.nt) fd.res = resQ (ctxS S e' fd.nt) fd.res := fun e e' => by
    generalize fd.res = rs
    induction rs with
    | nil => rfl
    | cons x rs ih => cases x <;> simp only [resQ, ih] <;> rfl
  unfold resOf at hr
  rcases hex with rfl | rfl
  · simp only
    rw [hres _ noE, hr]
  · simp only
    rw [hres _ noE, hr]
end Go.Proofs.YtmhinddneefmbaaGreat.Pe
namespace Go.Proofs.YtmhinddneefmbaaGreat.Pe
open Go
noncomputable def allB (l : List Bool) : Bool := List.rec (motive := fun _ => Bool) true (fun c _ ih => br c ih false) l
theorem allB_all : ∀ {l : List Bool}, allB l = true → ∀ c ∈ l, c = true
  | [], _, c, hc => by cases hc
  | x :: l, h, c, hc => by
    have h : br x (allB l) false = true := h
    cases x with
    | false => cases h
    | true =>
      rcases List.mem_cons.1 hc with rfl | hc
      · rfl
      · exact allB_all (show allB l = true from h) c hc
theorem allB_of : ∀ {l : List Bool}, (∀ c ∈ l, c = true) → allB l = true
  | [], _ => rfl
  | x :: l, h => by
    show br x (allB l) false = true
    rw [h x List.mem_cons_self]
    exact allB_of fun c hc => h c (List.mem_cons_of_mem _ hc)
noncomputable def eqL {α : Type} (x : Option (α × TL)) : Option (List AV) := x.map fun x => x.2.eqs.map Prod.fst
noncomputable def eqR {α : Type} (x : Option (α × TL)) : Option (List AV) := x.map fun x => x.2.eqs.map Prod.snd
theorem map_pairs {α : Type} : ∀ {l : List (α × α)}, l.map Prod.fst = l.map Prod.snd → ∀ p ∈ l, p.1 = p.2
  | [], _, p, hp => by cases hp
  | q :: l, h, p, hp => by
    simp only [List.map_cons, List.cons.injEq] at h
    rcases List.mem_cons.1 hp with rfl | hp
    · exact h.1
    · exact map_pairs h.2 p hp
noncomputable def outS (x : Option ((RV × Hp × Nat) × TL)) : Option (RV × Option PObj × Option PObj × Nat × Bool × List (AV × AV)) := x.bind fun x => some (x.1.1, x.1.2.1 0, x.1.2.1 1, x.1.2.2, allB x.2.cs, x.2.hs)
theorem fn_runAt {P : Program} {S : SysP} (hS : SysOk S.toSys P) (hP : PbOk S) {k f : Nat} (hf : (S.tab f).isSome = true) {ads : List AD} {H : Hp} {nx : Nat} {T T' : TL} {r : RV} {H' : Hp} {nx' : Nat} (h : (evt S k).fn f ads H nx T = some ((r, H', nx'), T')) (hT : T'.Ok) : RunAt P f ads H nx r H' nx' :=
  (evs_ok hS k).fn f hf _ _ _ _ _ _ (((evt_ok hP k).fn _ _ _ _ _ _ _ h).2 hT)
theorem outS_run {P : Program} {S : SysP} (hS : SysOk S.toSys P) (hP : PbOk S) {k f : Nat} (hf : (S.tab f).isSome = true) {ads : List AD} {H : Hp} {nx : Nat} {T : TL} {r : RV} {a b : Option PObj} {m : Nat} {c : Bool} {hs : List (AV × AV)} (h : outS ((evt S k).fn f ads H nx T) = some (r, a, b, m, c, hs)) (he : eqL ((evt S k).fn f ads H nx T) = eqR ((evt S k).fn f ads H nx T)) (hc : c = true) (hh : ∀ p ∈ hs, p.1 = p.2) :
    ∃ K, RunAt P f ads H nx r K m ∧ K 0 = a ∧ K 1 = b := by
  unfold outS at h
  unfold eqL eqR at he
  cases hx : (evt S k).fn f ads H nx T with
  | none => rw [hx] at h; cases h
  | some x =>
    obtain ⟨⟨r', K, m'⟩, T'⟩ := x
    rw [hx] at h he
    have h : some (r', K 0, K 1, m', allB T'.cs, T'.hs) = some (r, a, b, m, c, hs) := h
    simp only [Option.some.injEq, Prod.mk.injEq] at h
    obtain ⟨rfl, h1, h2, rfl, h4, h5⟩ := h
    simp only [Option.map_some, Option.some.injEq] at he
    exact ⟨K, fn_runAt hS hP hf hx ⟨allB_all (h4.trans hc), map_pairs he, by rw [h5]; exact hh⟩, h1, h2⟩
open Classical in
noncomputable def ptF (ads0 : List AD) (H0 : Hp) (nx0 : Nat) (q0 : RV × Hp × Nat) : List AD → Hp → Nat → Option (RV × Hp × Nat) := fun ads H nx => if ads = ads0 ∧ H = H0 ∧ nx = nx0 then some q0 else none
theorem ptF_ok {P : Program} {f : Nat} {ads : List AD} {H K : Hp} {nx m : Nat} {r : RV} (h : RunAt P f ads H nx r K m) : FnEff P f (ptF ads H nx (r, K, m)) := by
  rw [FnEff.iff]
  intro ads' H' nx' r' K' m' hq
  unfold ptF at hq
  split at hq
  · rename_i e
    obtain ⟨rfl, rfl, rfl⟩ := e
    simp only [Option.some.injEq, Prod.mk.injEq] at hq
    obtain ⟨rfl, rfl, rfl⟩ := hq
    exact h
  · cases hq
theorem ptF_at (ads : List AD) (H : Hp) (nx : Nat) (q : RV × Hp × Nat) : ptF ads H nx q ads H nx = some q := if_pos ⟨rfl, rfl, rfl⟩
end Go.Proofs.YtmhinddneefmbaaGreat.Pe
