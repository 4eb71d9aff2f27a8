/- A part of the proof of JdH. -/
import Derived.Test.YtmhinddneefmbaaGreatKf17
import Derived.Test.YtmhinddneefmbaaGreatKf18
set_option linter.unusedSimpArgs false
set_option linter.unusedVariables false
set_option linter.unusedSectionVars false
namespace Go.Proofs.YtmhinddneefmbaaGreat.Pe
open Go
theorem Q.runS_bind_some {α γ : Type} {q : Q α} {f : α → Q γ} {s s' : St} {r w r' w' : List Nat} {c : γ} (h : (q.bind f).runS s r w = some (c, s', r', w')) : ∃ a s1 r1 w1, q.runS s r w = some (a, s1, r1, w1) ∧ (f a).runS s1 r1 w1 = some (c, s', r', w') := by
  rw [Q.runS_bind] at h
  cases hq : q.runS s r w with
  | none => rw [hq] at h; cases h
  | some x => obtain ⟨a, s1, r1, w1⟩ := x; rw [hq] at h; exact ⟨a, s1, r1, w1, rfl, h⟩
theorem Q.runS_ask {α : Type} (i : Nat) (k : AV → Q α) (s : St) (r w : List Nat) : (Q.ask i k).runS s r w = (k (s.env i)).runS s (i :: r) w := rfl
theorem Q.runS_len {α : Type} (q : Q α) : ∀ {s s' : St} {r w r' w' : List Nat} {a : α}, q.runS s r w = some (a, s', r', w') → w.length ≤ w'.length ∧ (w'.length = w.length → s' = s ∧ w' = w) := by
  induction q with
  | ret a =>
    intro s s' r w r' w' b h
    rw [Q.runS_ret] at h
    simp only [Option.some.injEq, Prod.mk.injEq] at h
    obtain ⟨_, rfl, _, rfl⟩ := h
    exact ⟨Nat.le_refl _, fun _ => ⟨rfl, rfl⟩⟩
  | fail => intro s s' r w r' w' b h; cases h
  | ask i k ih => intro s s' r w r' w' b h; exact ih _ (show (k (s.env i)).runS s (i :: r) w = _ from h)
  | set i v k ih =>
    intro s s' r w r' w' b h
    rw [Q.runS_set] at h
    cases hs : s.set i v with
    | none => rw [hs] at h; cases h
    | some s1 =>
      rw [hs] at h
      have := (ih h).1
      simp only [List.length_cons] at this
      exact ⟨by omega, fun e => by omega⟩
def isUpd (o : Oper) : Bool := match o.op with
  | .mapUpdate _ _ _ _ => o.dst.isNone
  | _ => false
noncomputable def mapOf (s : St) (o : Oper) : Option Nat := match o.op with
  | .mapUpdate _ (.tmp i) _ _ => match s.env i with
    | .v (.one (.mp m)) => some m
    | _ => none
  | _ => none
theorem semY_upd {C : Ctx} {i : Nat} {o : Oper} {t : Nat} {x ix y : Operand} (hop : o.op = .mapUpdate t x ix y) (hd : o.dst = none) : semY C i o = (updateQ C t x ix y).bind fun _ => .ret () := by
  unfold semY semOp semOp1
  rw [hop, hd]
  rfl
theorem upd_run {C : Ctx} {i : Nat} {o : Oper} {s s' : St} {r w : List Nat} {m : Nat} (hu : isUpd o = true) (hm : mapOf s o = some m) (h : (semY C i o).runS s [] [] = some ((), s', r, w)) (hw : w.length = 1) : ∃ R, s' = ⟨s.t, updO s.H m (some ⟨none, 0, R⟩), s.nx⟩ := by
  unfold isUpd at hu
  split at hu
  · rename_i t x ix y hop
    have hd : o.dst = none := by cases h' : o.dst with
      | none => rfl
      | some d => rw [h'] at hu; cases hu
    rw [semY_upd hop hd] at h
    obtain ⟨_, s1, r1, w1, h1, h2⟩ := Q.runS_bind_some h
    rw [Q.runS_ret] at h2
    simp only [Option.some.injEq, Prod.mk.injEq, true_and] at h2
    obtain ⟨rfl, rfl, rfl⟩ := h2
    unfold updateQ at h1
    obtain ⟨a, sa, ra, wa, g1, h1a⟩ := Q.runS_bind_some h1
    clear h1
    obtain ⟨b, sb, rb, wb, g2, h1b⟩ := Q.runS_bind_some h1a
    clear h1a
    obtain ⟨c, sc, rc, wc, g3, h1⟩ := Q.runS_bind_some h1b
    clear h1b
    have hma : a = .one (.mp m) := by
      unfold mapOf at hm
      rw [hop] at hm
      split at hm
      · rename_i t2 i' ix2 y2 heq
        simp only [Op.mapUpdate.injEq] at heq
        obtain ⟨rfl, rfl, rfl, rfl⟩ := heq
        split at hm
        · rename_i m' hE
          injection hm with hm
          subst hm
          have g1' : (data i').runS s [] [] = some (a, sa, ra, wa) := g1
          unfold data at g1'
          rw [Q.runS_ask, hE] at g1'
          simp only [Q.runS_ret, Option.some.injEq, Prod.mk.injEq] at g1'
          exact g1'.1.symm
        · cases hm
      · cases hm
    subst hma
    split at h1
    · rename_i kk vz ob k v hk e1
      injection e1 with e1
      injection e1 with e1
      subst e1
      split at h1
      · obtain ⟨rr, sd, rd, wd, g4, h1⟩ := Q.runS_bind_some h1
        obtain ⟨f, se, re, we, g5, h1⟩ := Q.runS_bind_some h1
        rw [Q.runS_set] at h1
        split at h1
        · rename_i sf hse
          rw [Q.runS_ret] at h1
          simp only [Option.some.injEq, Prod.mk.injEq, true_and] at h1
          obtain ⟨rfl, rfl, rfl⟩ := h1
          have l1 := Q.runS_len _ g1
          have l2 := Q.runS_len _ g2
          have l3 := Q.runS_len _ g3
          have l4 := Q.runS_len _ g4
          have l5 := Q.runS_len _ g5
          simp only [List.length_cons, List.length_nil] at hw l1
          obtain ⟨rfl, rfl⟩ := l1.2 (by omega)
          obtain ⟨rfl, rfl⟩ := l2.2 (by simp only [List.length_nil] at *; omega)
          obtain ⟨rfl, rfl⟩ := l3.2 (by simp only [List.length_nil] at *; omega)
          obtain ⟨rfl, rfl⟩ := l4.2 (by simp only [List.length_nil] at *; omega)
          obtain ⟨rfl, rfl⟩ := l5.2 (by simp only [List.length_nil] at *; omega)
          have g4' : ((ofOpt (se.H m)).bind fun ob => if ob.sz = 0 ∧ notLoop ob.rows = true then (.ret (se.H, se.nx, ob.rows) : Q (Hp × Nat × List (List D))) else .fail).runS se (gs :: rc) [] = some (rr, se, rd, []) := g4
          obtain ⟨ob, s6, r6, w6, _, g6⟩ := Q.runS_bind_some g4'
          split at g6
          · rw [Q.runS_ret] at g6
            simp only [Option.some.injEq, Prod.mk.injEq] at g6
            obtain ⟨rfl, _⟩ := g6
            injection (show some _ = some _ from hse) with hse
            exact ⟨_, hse.symm⟩
          · cases g6
        · cases h1
      · cases h1
    · cases h1
  · cases hu
end Go.Proofs.YtmhinddneefmbaaGreat.Pe
namespace Go.Proofs.YtmhinddneefmbaaGreat.Pe
open Go
section
variable {P : Program} {C : Ctx} {E : Env} {a : Act} {w w' : World} {ι ι' β : Nat → Option Nat} {M M' : Nat → Prop}
theorem ObjAt.perm {b : Nat} {e : Option Nat} {R R' : List (List D)} (h : ObjAt w ι M b ⟨e, 0, R⟩) (hp : R.Perm R') : ObjAt w ι M b ⟨e, 0, R'⟩ := by
  have one : ∀ x, R = [x] → R' = [x] := fun x hx => by
    subst hx
    exact (List.perm_singleton.1 hp.symm)
  rcases h with ⟨h0, ⟨hn, es, clock, hm⟩ | ⟨nt, env, ps, assign, body, busy, jump, hr, h⟩ | ⟨t, n, T, cs, hr, hT, h⟩ | ⟨t, n, T, cs, hr, hT, h⟩⟩ | ⟨T, cs, hT, hb⟩
  · refine .inl ⟨rfl, .inl ⟨notLoop_all fun r hr => ?_, es, clock, hm.perm hp⟩⟩
    obtain ⟨rs, h1, h2, h3⟩ := hm.al
    obtain ⟨j, hj, rfl⟩ := List.getElem_of_mem ((h1.trans hp).mem_iff.2 hr)
    obtain ⟨k, v, e1, _⟩ := h3 j (es[j]'(by omega)) _ (Array.getElem?_eq_getElem (by omega)) (List.getElem?_eq_getElem hj)
    exact ⟨k, v, e1⟩
  · exact .inl ⟨rfl, .inr (.inl ⟨nt, env, ps, assign, body, busy, jump, one _ hr, h⟩)⟩
  · exact .inl ⟨rfl, .inr (.inr (.inl ⟨t, n, T, cs, one _ hr, hT, h⟩))⟩
  · exact .inl ⟨rfl, .inr (.inr (.inr ⟨t, n, T, cs, one _ hr, hT, h⟩))⟩
  · exact absurd hb.pos (Nat.lt_irrefl 0)
theorem Sim.hperm (h : Sim C E a w ι β M) {H H' : Hp} {nx : Nat} (hE : E gs = .heap H nx) (hH : ∀ o, H' o = H o ∨ ∃ R R', R.Perm R' ∧ H o = some ⟨none, 0, R⟩ ∧ H' o = some ⟨none, 0, R'⟩) : Sim C (upd E gs (.heap H' nx)) a w ι β M := by
  have hk := h.heapOk hE
  have fro : ∀ o x, H' o = some x → ∃ y, H o = some y := fun o x hx => by
    rcases hH o with e | ⟨R, R', _, h1, _⟩
    · exact ⟨x, by rw [← e]; exact hx⟩
    · exact ⟨_, h1⟩
  refine (after_eff h hE (H' := H') (nx' := nx) (w' := w) (ι' := ι) (M' := M) ⟨⟨hk.new, fun o ob ho => ?_, fun o o' x x' b h1 h2 => ?_, fun o x b h1 => ?_⟩, fun _ _ h => h, ?_, fun b hb _ => hb, fun b _ hb => hb, h.lt⟩).1
  · rcases hH o with e | ⟨R, R', hp, h1, h2⟩
    · exact hk.objs o ob (by rw [← e]; exact ho)
    · rw [h2] at ho
      injection ho with ho
      subst ho
      obtain ⟨b, g1, g2⟩ := hk.objs o _ h1
      exact ⟨b, g1, g2.perm hp⟩
  · obtain ⟨y, hy⟩ := fro o x h1
    obtain ⟨y', hy'⟩ := fro o' x' h2
    exact hk.inj o o' y y' b hy hy'
  · obtain ⟨y, hy⟩ := fro o x h1
    exact hk.ctl o y b hy
  · refine ⟨rfl, rfl, rfl, Nat.le_refl _, fun _ _ _ => rfl, fun b _ ⟨o, x, h1, h2⟩ => ?_, fun _ _ h => h.elim, .refl _⟩
    obtain ⟨y, hy⟩ := fro o x h1
    exact ⟨o, y, hy, h2⟩
end
noncomputable def swapL {α : Type} : List α → List α
  | [x, y] => [y, x]
  | x :: l => x :: swapL l
  | [] => []
theorem swapL_perm {α : Type} : ∀ (l : List α), l.Perm (swapL l)
  | [] => .refl _
  | [x] => .refl _
  | [x, y] => .swap y x []
  | x :: y :: z :: l => (swapL_perm (y :: z :: l)).cons x
noncomputable def permB (a b : List (List D)) : Bool := or (all2 (all2 D.same) a b) (all2 (all2 D.same) (swapL a) b)
theorem permB_ok {a b : List (List D)} (h : permB a b = true) : a.Perm b := by
  unfold permB at h
  have key : ∀ x y, all2 D.same x y = true → x = y := fun x y => all2_eq (fun _ _ => D.same_eq) x y
  cases h1 : all2 (all2 D.same) a b with
  | true => rw [all2_eq key a b h1]
  | false =>
    rw [h1] at h
    have h : all2 (all2 D.same) (swapL a) b = true := h
    rw [← all2_eq key _ b h]
    exact swapL_perm a
theorem mapOf_t {s : St} {H : Hp} {nx : Nat} {o : Oper} : mapOf ⟨s.t, H, nx⟩ o = mapOf s o := by
  unfold mapOf
  split
  · rename_i t i ix y hop
    by_cases hi : i = gs
    · subst hi; rw [St.env_gs, St.env_gs]
    · rw [St.env_ne _ hi, St.env_ne _ hi]
  · rfl
noncomputable def okTwo (ops : Array Oper) (q : Nat) (u v : Oper) : Bool :=
  let rows := rowsOn ops.toList []
  let anc := fun i j => (rows.getD j []).getD i false
  (ops.toList.all fun o => o.guard.isNone) && ((List.range ops.size).all (fun j => match ops[j]? with | some o => (preds o).all fun p => decide (p < j) | none => true) && (!(preds v).contains q && (isUpd u && (isUpd v && (List.range q).all fun j => anc j q || anc j (q + 1)))))
noncomputable def rowsAt (H : Hp) (m : Nat) : List (List D) := match H m with
  | some x => x.rows
  | none => []
noncomputable def len1 (l : List Nat) : Bool := match l with
  | [_] => true
  | _ => false
theorem len1_ok {l : List Nat} (h : len1 l = true) : l.length = 1 := by
  unfold len1 at h
  split at h
  · rfl
  · cases h
noncomputable def twoS (C : Ctx) (ops : Array Oper) (late : List Nat) (s : St) : Option St := match ops.toList.reverse with
  | v :: u :: pr => br (okTwo ops pr.length u v) (match runRec C (pr.reverse ++ [u]).toArray late 0 (pr.reverse ++ [u]) s with
    | some (sfU, rsU) => br (indepS C (pr.reverse ++ [u]).toArray rsU sfU) (match runRec C (pr.reverse ++ [v]).toArray late 0 (pr.reverse ++ [v]) s with
      | some (sfV, rsV) => br (indepS C (pr.reverse ++ [v]).toArray rsV sfV) (match mapOf (stAt rsU sfU pr.length) u with
        | some m => match mapOf (stAt rsU sfU pr.length) v with
          | some m' => br (Nat.beq m' m) (match (semY C pr.length v).runS sfU [] [] with
            | some (_, s12, _, w12) => match (semY C pr.length u).runS sfV [] [] with
              | some (_, s21, _, w21) => br (len1 w12 && (len1 w21 && (len1 (wrAt rsU pr.length) && (len1 (wrAt rsV pr.length) && permB (rowsAt s21.H m) (rowsAt s12.H m))))) (some s12) none
              | none => none
            | none => none) none
          | none => none
        | none => none) none
      | none => none) none
    | none => none) none
  | _ => none
section
variable {P : Program} {C : Ctx} {late : List Nat}
theorem runRec_cons {C : Ctx} {X : Array Oper} {k : Nat} {o : Oper} {l : List Oper} {s sf : St} {rs : List OpRec} (h : runRec C X late k (o :: l) s = some (sf, rs)) : ∃ s' r u rs', (grdQ C X k o).runS s [] [] = some ((), s', r, u) ∧ runRec C X late (k + 1) l s' = some (sf, rs') ∧ rs = (s, r, u) :: rs' := by
  simp only [runRec] at h
  split at h
  · rename_i x s' r u hr
    split at h
    · cases hx : runRec C X late (k + 1) l s' with
      | none => rw [hx] at h; cases h
      | some y =>
        obtain ⟨sf', rs'⟩ := y
        rw [hx] at h
        simp only [Option.map_some, Option.some.injEq, Prod.mk.injEq] at h
        obtain ⟨rfl, rfl⟩ := h
        exact ⟨s', r, u, rs', hr, hx, rfl⟩
    · cases h
  · cases h
theorem run_pre {X Y : Array Oper} {u v : Oper} (hu : u.guard = none) (hv : v.guard = none) : ∀ (l : List Oper) (k : Nat) (s sfU sfV : St) (rsU rsV : List OpRec), (∀ o ∈ l, o.guard = none) → runRec C X late k (l ++ [u]) s = some (sfU, rsU) → runRec C Y late k (l ++ [v]) s = some (sfV, rsV) →
    ∃ rU rV, (semY C (k + l.length) u).runS (stAt rsU sfU l.length) [] [] = some ((), sfU, rU, wrAt rsU l.length) ∧ (semY C (k + l.length) v).runS (stAt rsU sfU l.length) [] [] = some ((), sfV, rV, wrAt rsV l.length) ∧
      ∀ j, j < l.length → (fpR C X k (l ++ [u]) rsU).getD j ([], []) = (fpR C Y k (l ++ [v]) rsV).getD j ([], [])
  | [], k, s, sfU, sfV, rsU, rsV, _, h1, h2 => by
    obtain ⟨s1, r1, u1, rs1, g1, g2, rfl⟩ := runRec_cons h1
    obtain ⟨s2, r2, u2, rs2, g3, g4, rfl⟩ := runRec_cons h2
    simp only [runRec, Option.some.injEq, Prod.mk.injEq] at g2 g4
    obtain ⟨rfl, rfl⟩ := g2
    obtain ⟨rfl, rfl⟩ := g4
    rw [grdQ_none hu] at g1
    rw [grdQ_none hv] at g3
    exact ⟨r1, r2, g1, g3, fun j hj => by cases hj⟩
  | o :: l, k, s, sfU, sfV, rsU, rsV, hn, h1, h2 => by
    have ho := hn o List.mem_cons_self
    obtain ⟨s1, r1, u1, rs1, g1, g2, rfl⟩ := runRec_cons h1
    obtain ⟨s2, r2, u2, rs2, g3, g4, rfl⟩ := runRec_cons h2
    rw [grdQ_none ho] at g1 g3
    rw [g1] at g3
    simp only [Option.some.injEq, Prod.mk.injEq, true_and] at g3
    obtain ⟨rfl, rfl, rfl⟩ := g3
    obtain ⟨rU, rV, a1, a2, a3⟩ := run_pre hu hv l (k + 1) s1 sfU sfV rs1 rs2 (fun o ho => hn o (List.mem_cons_of_mem _ ho)) g2 g4
    refine ⟨rU, rV, ?_, ?_, fun j hj => ?_⟩
    · rw [show k + (o :: l).length = k + 1 + l.length by simp only [List.length_cons]; omega]
      exact a1
    · rw [show k + (o :: l).length = k + 1 + l.length by simp only [List.length_cons]; omega]
      exact a2
    · cases j with
      | zero =>
        show ((grdQ C X k o).rds s.env, (grdQ C X k o).ups s.env) = ((grdQ C Y k o).rds s.env, (grdQ C Y k o).ups s.env)
        rw [grdQ_none ho, grdQ_none ho]
      | succ j => exact a3 j (by simpa using hj)
theorem two_region {ops : Array Oper} {s0 sf : St} {ro : Option Nat} {n : Nat} {id : Nat} {Qx : Exit → Act → World → Prop} {a : Act} {w : World} {ι β : Nat → Option Nat} {M : Nat → Prop} (hm : P.follows .mixedOrders = true) (hC : C.Ok P)
    (hq : twoS C ops late s0 = some sf) (h : Sim C s0.env a w ι β M) (hg : Gens s0.env (· ≤ 0)) (hpl : PlainBut late s0)
    (hK : ∀ a' w' ι' β' M', Sim C sf.env a' w' ι' β' M' → PlainBut late sf → Evo C.X M w M' w' → (∀ o b, ι o = some b → ι' o = some b) → Qx .normal a' w') : (Code.region id ops true).wpIn (Fx ro) n P Qx a w := by
  unfold twoS at hq
  split at hq
  · rename_i v u pr hrev
    have hops : ops.toList = pr.reverse ++ [u, v] := by
      have := congrArg List.reverse hrev
      simpa using this
    obtain ⟨hok, hq⟩ := br_some hq
    split at hq
    · rename_i sfU rsU hU
      obtain ⟨iU, hq⟩ := br_some hq
      split at hq
      · rename_i sfV rsV hV
        obtain ⟨iV, hq⟩ := br_some hq
        split at hq
        · rename_i m hmu
          split at hq
          · rename_i m' hmv
            obtain ⟨hmm, hq⟩ := br_some hq
            have hmm := Nat.eq_of_beq_eq_true hmm
            subst hmm
            split at hq
            · rename_i x12 s12 r12 w12 h12
              split at hq
              · rename_i x21 s21 r21 w21 h21
                obtain ⟨hch, hq⟩ := br_some hq
                injection hq with hq
                subst hq
                simp only [Bool.and_eq_true] at hch
                obtain ⟨l12, l21, lU, lV, hperm⟩ := hch
                unfold okTwo at hok
                simp only [Bool.and_eq_true, List.all_eq_true, List.mem_range, Bool.or_eq_true, Bool.not_eq_true', Option.isNone_iff_eq_none] at hok
                obtain ⟨k1, k2, k3, k4, k5, k6⟩ := hok
                have hqn : pr.reverse.length = pr.length := List.length_reverse
                have hsize : ops.size = pr.length + 2 := by rw [← Array.length_toList, hops]; simp
                have hat : ∀ j, ops[j]? = (pr.reverse ++ [u, v])[j]? := fun j => by rw [← Array.getElem?_toList, hops]
                have hu : ops[pr.length]? = some u := by rw [hat, List.getElem?_append_right (by simp)]; simp
                have hv : ops[pr.length + 1]? = some v := by rw [hat, List.getElem?_append_right (by simp)]; simp
                have hng : ∀ (j : Nat) (o : Oper), ops[j]? = some o → o.guard = none := fun j o ho => k1 o (by rw [← Array.getElem?_toList] at ho; exact List.mem_of_getElem? ho)
                have hlt : ∀ j o, ops[j]? = some o → ∀ p ∈ preds o, p < j := fun j o ho p hp => by
                  have := k2 j (Array.getElem?_eq_some_iff.1 ho).1
                  rw [ho] at this
                  simp only [List.all_eq_true, decide_eq_true_eq] at this
                  exact this p hp
                have hanc : ∀ i j, ((rowsOn ops.toList []).getD j []).getD i false = true → Anc ops i j := fun i j hh => rowsOn_anc ops ops.toList [] (fun j => by simp) (fun j i hc => by simp at hc) j i hh
                have dU := draw_data (ops := (pr.reverse ++ [u]).toArray) (by simpa using hU) iU
                have dV := draw_data (ops := (pr.reverse ++ [v]).toArray) (by simpa using hV) iV
                have hgu := hng _ _ hu
                have hgv := hng _ _ hv
                obtain ⟨rU, rV, e1, e2, e3⟩ := run_pre hgu hgv pr.reverse 0 s0 sfU sfV rsU rsV (fun o ho => k1 o (by rw [hops]; exact List.mem_append_left _ ho)) hU hV
                rw [hqn, Nat.zero_add] at e1 e2
                generalize hsm : stAt rsU sfU pr.length = sm at *
                obtain ⟨R1, f1⟩ := upd_run k4 hmu e1 (len1_ok lU)
                obtain ⟨R2, f2⟩ := upd_run k5 hmv e2 (len1_ok lV)
                have hmv' : mapOf sfU v = some m' := by rw [f1, mapOf_t]; exact hmv
                have hmu' : mapOf sfV u = some m' := by rw [f2, mapOf_t]; exact hmu
                obtain ⟨R12, g1⟩ := upd_run k5 hmv' h12 (len1_ok l12)
                obtain ⟨R21, g2⟩ := upd_run k4 hmu' h21 (len1_ok l21)
                have hvU : (semY C pr.length v).run sfU.env = some ((), s12.env) := (Q.runS_at h12).1
                have huV : (semY C pr.length u).run sfV.env = some ((), s21.env) := (Q.runS_at h21).1
                have hsem : semY C (pr.length + 1) v = semY C pr.length v := by
                  unfold isUpd at k5
                  split at k5
                  · rename_i t x ix y hop
                    have hd : v.dst = none := by cases h' : v.dst with
                      | none => rfl
                      | some d => rw [h'] at k5; cases k5
                    rw [semY_upd hop hd, semY_upd hop hd]
                  · cases k5
                have hroot : R21.Perm R12 := by
                  have hp := permB_ok hperm
                  have a1 : rowsAt s12.H m' = R12 := by unfold rowsAt; rw [g1]; simp only [updO_at, if_true]
                  have a2 : rowsAt s21.H m' = R21 := by unfold rowsAt; rw [g2]; simp only [updO_at, if_true]
                  rw [a1, a2] at hp
                  exact hp
                have toOne : ∀ a' w' ι' β' M', Sim C s12.env a' w' ι' β' M' ∨ Sim C s21.env a' w' ι' β' M' → Sim C s12.env a' w' ι' β' M' := fun a' w' ι' β' M' hs => by
                  rcases hs with hs | hs
                  · exact hs
                  · have := hs.hperm (H' := s12.H) (St.env_gs s21) (fun o => by
                      rw [g1, g2, f1, f2]
                      simp only [updO_at]
                      by_cases ho : o = m'
                      · rw [if_pos ho, if_pos ho]
                        exact .inr ⟨R21, R12, hroot, rfl, rfl⟩
                      · rw [if_neg ho, if_neg ho, if_neg ho, if_neg ho]
                        exact .inl rfl)
                    have e : s12.env = upd s21.env gs (.heap s12.H s21.nx) := by
                      rw [← St.env_H]
                      rw [g1, g2, f1, f2]
                    rw [e]
                    exact this
                have plf : PlainBut late s12 := by
                  obtain ⟨_, _, _, hpb, _⟩ := runRec_txt _ _ _ _ _ hU
                  have hpU := hpb hpl
                  intro i
                  rcases hpU i with h' | h' | h'
                  · exact .inl h'
                  · exact .inr (.inl h')
                  · by_cases hi : i = gs
                    · exact .inl hi
                    · refine .inr (.inr ?_)
                      rw [g1, St.env_ne _ hi]
                      rw [St.env_ne _ hi] at h'
                      exact h'
                refine wpIn_region_any hm ?_
                have hd : Sim C s0.env a { w with drawn := w.drawn + 1 } ι β M := h.world ⟨rfl, rfl, rfl, Nat.le_refl _, fun _ _ _ => rfl, fun _ _ h => h, fun _ _ _ => rfl, .of fun _ _ => rfl⟩ (fun _ h => h) h.lt (fun _ _ _ => rfl) (fun _ _ _ _ _ => rfl)
                have hrep : ∀ j, (Array.replicate ops.size false).getD j false = false := fun j => by
                  rw [Array.getD_eq_getD_getElem?, Array.getElem?_replicate]
                  split <;> simp
                have h0 : s0.env = atS (fpR C (pr.reverse ++ [u]).toArray 0 (pr.reverse ++ [u]).toArray.toList rsU) (pr.length + 1) (fun j => (Array.replicate ops.size false).getD j false) s0.env := by
                  funext s
                  unfold atS
                  have : (List.range (pr.length + 1)).filter (fun j => (Array.replicate ops.size false).getD j false) = [] := List.filter_eq_nil_iff.2 fun j _ => by rw [hrep]; simp
                  rw [this]; rfl
                refine two_sound (u := u) (v := v) (opsU := (pr.reverse ++ [u]).toArray) (opsV := (pr.reverse ++ [v]).toArray) hC hsize hng hlt hu hv (by simp) (fun j hj => ?_) (by simp) (fun j hj => ?_) ?_ (by
                    intro hc
                    have := k3
                    rw [List.contains_iff_mem.2 hc] at this; cases this) dU dV (fun j hj => ?_) (fun j hj => ?_) hsem hvU huV ops.size _ a _ ι β M (by simp) ?_ ?_ (fun hx => by rw [hrep] at hx; cases hx) s0.env (fun _ => h0) (fun hx => by rw [hrep] at hx; cases hx) hd (hg.mono fun g hg => .inl (by omega)) fun a' w' ι' β' M' s e i => ?_
                · rw [hat]
                  rcases Nat.lt_or_ge j pr.length with h1 | h1
                  · simp only [List.getElem?_toArray]
                    rw [List.getElem?_append_left (by simpa using h1), List.getElem?_append_left (by simpa using h1)]
                  · have : j = pr.length := by omega
                    subst this
                    simp only [List.getElem?_toArray]
                    rw [List.getElem?_append_right (by simp), List.getElem?_append_right (by simp)]
                    simp
                · rw [hat]
                  simp only [List.getElem?_toArray]
                  rw [List.getElem?_append_left (by simpa using hj), List.getElem?_append_left (by simpa using hj)]
                · simp only [List.getElem?_toArray]
                  rw [List.getElem?_append_right (by simp)]
                  simp
                · have := e3 j (by simpa using hj)
                  simpa using this
                · rcases k6 j hj with h1 | h1
                  · exact .inl (hanc j _ h1)
                  · exact .inr (hanc j _ h1)
                · exact Nat.le_trans (List.length_filter_le _ _) (by simp)
                · intro j o _ hj
                  rw [hrep] at hj; cases hj
                · exact hK a' w' ι' β' M' (toOne _ _ _ _ _ s) plf ⟨e.os, e.tape, e.output, e.size, e.same, e.back, e.keep, e.shape⟩ i
              · cases hq
            · cases hq
          · cases hq
        · cases hq
      · cases hq
    · cases hq
  · cases hq
end
end Go.Proofs.YtmhinddneefmbaaGreat.Pe
namespace Go.Proofs.YtmhinddneefmbaaGreat.Pe
open Go
structure FD where
  nt : Nat
  body : Code
  res : List ResultVar
structure Sys where
  tt : Nat → TyI
  eqz : Nat → Option EK
  tab : Nat → Option FD
  base : Nat → FnS
structure Evs where
  fn : Nat → List AD → Hp → Nat → Option (RV × Hp × Nat)
  yld : Nat → List AD → Hp → Nat → Option (Bool × Hp × Nat)
  code : Nat → Option Nat → Code → St → Option (Ex × St)
noncomputable def ctxS (S : Sys) (e : Evs) (nt : Nat) : Ctx where
  nt := nt
  tt := S.tt
  fns := fun f => match S.base f with
    | .none => if (S.tab f).isSome then .eff (e.fn f) else .none
    | x => x
  keep := fun _ => []
  X := fun _ => False
  pub := fun _ => true
  uni := true
  eqz := S.eqz
  yld := e.yld
noncomputable def lateOf (ops : Array Oper) : List Nat := ops.toList.filterMap fun o => match o.op, o.dst with
  | .alloc _, some d => if ops.toList.all (fun q => match q.op with
      | .store _ (.tmp _) (.tmp y) => y != d
      | .store _ (.tmp _) (.const _) => true
      | p => p.operands.toList.all fun x => match x with | .tmp t => t != d | _ => true) then some d else none
  | _, _ => none
noncomputable def pubS (nt : Nat) : List Nat → St → Option St
  | [], s => some s
  | d :: l, s => if d < nt then (match (pubQ d).runS s [] [] with
    | some (_, s', _, u) => if u.all (fun i => i == gs || (s'.env i).plain) && (s'.env d).plain then pubS nt l s' else none
    | none => none) else none
noncomputable def bareOf (ops : Array Oper) : List Nat := ops.toList.filterMap fun o => match o.op, o.dst with
  | .buildSlice _ 0 _, some d => some d
  | _, _ => none
noncomputable def regL (C : Ctx) (ops : Array Oper) (s : St) : Option St :=
  let late := bareOf ops
  match runRec { C with pub := fun d => !(late.contains d) } ops late 0 ops.toList s with
  | some (sf, _) => if late.all (fun i => (sf.env i).plain) then sf.flat else none
  | none => none
noncomputable def regS (C : Ctx) (ops : Array Oper) (draw : Bool) (s : St) : Option St :=
  if draw then
    let late := lateOf ops
    let C' : Ctx := { C with pub := fun d => !(late.contains d) }
    match runRec C' ops late 0 ops.toList s with
    | some (sf, rs) => if indepS C' ops rs sf then (pubS C.nt late sf).bind St.flat else (twoS C' ops late s).bind fun sf => (pubS C.nt late sf).bind St.flat
    | none => none
  else match runF C ops 0 ops.toList s with
    | some sf => sf.flat
    | none => regL C ops s
noncomputable def toB : AV → Option (Bool × List D)
  | .v (.one d) => some (true, [d])
  | .v (.many l) => some (false, l)
  | _ => none
noncomputable def ofEnv (env : Tr (Bool × List D)) : Tr AV := env.map fun x => some (.v (ofB x))
noncomputable def condS (s : St) : Operand → Option Bool
  | .tmp t => match s.env t with
    | .v (.one (.bool b)) => some b
    | _ => none
  | .const (.bool b) => some b
  | _ => none
noncomputable def recAt (H : Hp) (lp : Nat) : Option (Nat × Tr (Bool × List D) × List Nat × Code × Code × Bool × Option Code) := match H lp with
  | some ⟨_, 0, [[.lrec nt env ps assign body busy jump]]⟩ => some (nt, env, ps, assign, body, busy, jump)
  | _ => none
noncomputable def insideOk (H : Hp) : Option Nat → Bool
  | none => true
  | some l0 => (recAt H l0).isSome
noncomputable def putRec (H : Hp) (lp nt : Nat) (env : Tr (Bool × List D)) (ps : List Nat) (assign body : Code) (busy : Bool) (jump : Option Code) : Hp :=
  updO H lp (some ⟨none, 0, [[.lrec nt env ps assign body busy jump]]⟩)
noncomputable def setPs (nt : Nat) : List Nat → List AD → Tr AV → Option (Tr AV)
  | [], [], t => some t
  | p :: ps, x :: l, t => if p < nt then setPs nt ps l (t.set (some (.v x)) 30 p) else none
  | _, _, _ => none
noncomputable def iterS (s : St) : Operand → Option (Nat × List D)
  | .tmp t => match s.env t with
    | .v (.one (.fn f)) => some (f, [])
    | .v (.one (.clo f caps)) => some (f, caps)
    | _ => none
  | .func f => some (f, [])
  | _ => none
noncomputable def startS : List AD → Nat → Tr AV → Tr AV
  | [], _, t => t
  | x :: l, k, t => startS l (k + 1) (t.set (some (.v x)) 30 k)
noncomputable def exOf (id : Nat) : Ex × St → Ex × St
  | (.exit id', s) => if id' = id then (.normal, s) else (.exit id', s)
  | x => x
noncomputable def exJump : Ex → Option Code
  | .normal => none
  | .ret => some .ret
  | .exit id => some (.exit id)
noncomputable def jumpOf : Option Code → Option Ex
  | none => some .normal
  | some .ret => some .ret
  | some (.exit id) => some (.exit id)
  | _ => none
noncomputable def callee (S : Sys) (e : Evs) (f : Nat) (ads : List AD) (H : Hp) (nx : Nat) : Option (RV × Hp × Nat) := match S.base f with
  | .none => if (S.tab f).isSome then e.fn f ads H nx else none
  | .eff F => F ads H nx
  | _ => none
noncomputable def stepE (S : Sys) (e : Evs) : Evs where
  fn := fun f ads H nx => match S.tab f with
    | some fd => if ads.length ≤ fd.nt ∧ fd.nt ≤ 1000000 then (e.code fd.nt none fd.body ⟨startS ads 0 .leaf, H, nx⟩).bind fun x => match x with
        | (.exit _, _) => none
        | (_, s) => ((resQ (ctxS S e fd.nt) fd.res).runS s [] []).bind fun r => some (rvOf r.1, r.2.1.H, r.2.1.nx)
        else none
    | none => none
  yld := fun lp ads H nx => (recAt H lp).bind fun (nt, env, ps, assign, body, busy, jump) =>
    if busy = false ∧ jump.isNone = true ∧ nt ≤ 1000000 then
      (setPs nt ps ads (ofEnv env)).bind fun t => (e.code nt (some lp) assign ⟨t, H, nx⟩).bind fun x => match x with
      | (.normal, s1) => (recAt s1.H lp).bind fun (nt', env', ps', assign', body', busy', jump') =>
        if busy' = false ∧ jump'.isNone = true then
          (putRec s1.H lp nt' env' ps' assign' body' true none).flat.bind fun H1 => (e.code nt (some lp) body { s1 with H := .tr H1 }).bind fun y => match y with
          | (ex, s2) => (recAt s2.H lp).bind fun (nt2, env2, ps2, assign2, body2, _, _) =>
            (putRec s2.H lp nt2 env2 ps2 assign2 body2 false (exJump ex)).flat.bind fun H2 => some ((exJump ex).isNone, .tr H2, s2.nx)
        else none
      | _ => none
    else none
  code := fun nt r c s => match c with
    | .skip => some (.normal, s)
    | .ret => some (.ret, s)
    | .exit id => some (.exit id, s)
    | .seq x y => (e.code nt r x s).bind fun z => match z with
      | (.normal, s1) => e.code nt r y s1
      | z => some z
    | .cond c x y => (condS s c).bind fun b => if b then e.code nt r x s else e.code nt r y s
    | .block id b => (e.code nt r b s).map (exOf id)
    | .loop b => (e.code nt r b s).bind fun z => match z with
      | (.normal, s1) => e.code nt r (.loop b) s1
      | z => some z
    | .region _ ops d => (regS (ctxS S e nt) ops d s).map fun s1 => (.normal, s1)
    | .rangeFunc g ps assign body => (iterS s g).bind fun (f, caps) =>
      if insideOk s.H r then
        (putRec s.H s.nx nt (s.t.map toB) ps.toList assign body false none).flat.bind fun H1 =>
        (callee S e f (.one (.yl s.nx) :: caps.map .one) (.tr H1) (s.nx + 1)).bind fun (_, H2, nx2) =>
        (recAt H2 s.nx).bind fun (_, _, _, _, _, busy, jump) => if busy then none else
        (updO H2 s.nx none).flat.bind fun H3 => (jumpOf jump).map fun ex => (ex, { s with H := .tr H3, nx := nx2 })
      else none
    | _ => none
noncomputable def evs (S : Sys) (k : Nat) : Evs :=
  Nat.rec (motive := fun _ => Evs) ⟨fun _ _ _ _ => none, fun _ _ _ _ => none, fun _ _ _ _ => none⟩ (fun _ e => stepE S e) k
end Go.Proofs.YtmhinddneefmbaaGreat.Pe
