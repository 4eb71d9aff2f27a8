/- A part of the proof of JdH. -/
import Derived.Test.YtmhinddneefmbaaGreatKf27
set_option linter.unusedSimpArgs false
set_option linter.unusedVariables false
set_option linter.unusedSectionVars false
namespace Go.Proofs.YtmhinddneefmbaaGreat.Pe
open Go
def RX {α : Type} (q : Q α) (s : St) (a : α) (s' : St) (fr fu : List Nat) : Prop := ∀ r u, q.runS s r u = some (a, s', fr ++ r, fu ++ u)
theorem RX.ret {α : Type} {a : α} {s : St} : RX (.ret a) s a s [] [] := fun r u => rfl
theorem RX.bind {α γ : Type} {q : Q α} {f : α → Q γ} {s s1 s2 : St} {a : α} {b : γ} {r1 u1 r2 u2 : List Nat} (h : RX q s a s1 r1 u1) (k : RX (f a) s1 b s2 r2 u2) : RX (q.bind f) s b s2 (r2 ++ r1) (u2 ++ u1) := fun r u => by
  rw [Q.runS_bind, h r u]
  show (f a).runS s1 (r1 ++ r) (u1 ++ u) = _
  rw [k (r1 ++ r) (u1 ++ u), List.append_assoc, List.append_assoc]
theorem RX.to {α : Type} {q : Q α} {s s' : St} {a : α} {fr fu fr' fu' : List Nat} (h : RX q s a s' fr fu) (e1 : fr = fr') (e2 : fu = fu') : RX q s a s' fr' fu' := by subst e1; subst e2; exact h
theorem RX.ask {α : Type} {t : Nat} {k : AV → Q α} {s s' : St} {a : α} {r1 u1 : List Nat} (h : RX (k (s.env t)) s a s' r1 u1) : RX (.ask t k) s a s' (r1 ++ [t]) u1 := fun r u => by
  have := h (t :: r) u
  rw [List.append_assoc]
  exact this
theorem RX.opt {α : Type} {x : Option α} {s : St} {a : α} (h : x = some a) : RX (ofOpt x) s a s [] [] := by subst h; exact RX.ret
theorem RX.set {α : Type} {d : Nat} {v : AV} {k : Q α} {s s1 s' : St} {a : α} {r1 u1 : List Nat} (hs : s.set d v = some s1) (h : RX k s1 a s' r1 u1) : RX (.set d v k) s a s' r1 (u1 ++ [d]) := fun r u => by
  rw [Q.runS_set, hs]
  have := h r (d :: u)
  rw [List.append_assoc]
  exact this
theorem set_put {s : St} {d : Nat} {v : AV} (hd : Nat.blt d 1000000 = true) : s.set d v = some (putF s d v) := by
  have hlt : d < 1000000 := blt_lt hd
  unfold St.set
  rw [beq_gs_ne (by unfold gs; omega), hd]
  rfl
noncomputable def tmpL : Operand → List Nat
  | .tmp t => [t]
  | _ => []
noncomputable def argR : List Operand → List Nat
  | [] => []
  | x :: l => argR l ++ tmpL x
theorem rdA_x {s : St} {x : Operand} {a : AD} (h : rdA s x = some a) : RX (opd x) s a s (tmpL x) [] := by
  unfold rdA at h
  cases hn : isNilS x with
  | false =>
    rw [hn] at h
    have h : rdF s x = some a := h
    unfold rdF at h
    split at h
    · rename_i t
      split at h
      · rename_i b hb
        injection h with h; subst h
        refine RX.ask (r1 := []) ?_
        rw [avF_env hb]
        exact RX.ret
      · cases h
    · split at h <;> first | (injection h with h; subst h; exact RX.ret) | cases h
    · injection h with h; subst h; exact RX.ret
    · cases h
  | true =>
    rw [hn] at h
    injection h with h; subst h
    unfold isNilS at hn
    split at hn
    · exact RX.ret
    · cases hn
theorem rdsA_x {s : St} : ∀ {l : List Operand} {bs : List AD}, rdsA s l = some bs → RX (opds l) s bs s (argR l) []
  | [], bs, h => by injection h with h; subst h; exact RX.ret
  | x :: l, bs, h => by
    simp only [rdsA] at h
    split at h
    · rename_i a ha
      split at h
      · rename_i r hr
        injection h with h; subst h
        have := (rdA_x ha).bind (f := fun a => (opds l).bind fun r => .ret (a :: r)) ((rdsA_x hr).bind (f := fun r => .ret (a :: r)) RX.ret)
        exact RX.to this (by simp [argR]) (by simp)
      · cases h
    · cases h
theorem setRV_x {s : St} {d : Nat} {r : RV × Hp × Nat} (hd : Nat.blt d 1000000 = true) : RX (setRV d r.1) ⟨s.t, r.2.1, r.2.2⟩ () (retF s d r) [] [d] := by
  obtain ⟨r, H, nx⟩ := r
  cases r with
  | a a => exact RX.set (set_put hd) RX.ret
  | tup l => exact RX.set (set_put hd) RX.ret
section
variable {C : Ctx} (hC : Uni C) {i d : Nat} {o : Oper} {s : St} {q : RV × Hp × Nat} (hn : d < C.nt) (hd : Nat.blt d 1000000 = true)
include hC hn hd
theorem enter_x {f : Nat} {ads : List AD} {F : List AD → Hp → Nat → Option (RV × Hp × Nat)} (hF : C.fns f = .eff F) (hq : F ads s.H s.nx = some q) : RX (enterQ C d f ads) s () (retF s d q) [gs] [d, gs] := by
  unfold enterQ
  rw [hF]
  refine RX.ask (r1 := []) ?_
  show RX ((ofOpt (F ads s.H s.nx)).bind fun r => .set gs (.heap r.2.1 r.2.2) (setRV d r.1)) s () (retF s d q) [] [d, gs]
  have := (RX.opt hq).bind (f := fun r => .set gs (.heap r.2.1 r.2.2) (setRV d r.1)) (s1 := s) (RX.set (s1 := ⟨s.t, q.2.1, q.2.2⟩) rfl (setRV_x hd))
  exact RX.to this (by simp) (by simp)
theorem tail_x (ho : o.dst = some d) : RX (match o.dst with | some d => if C.pub d = true ∧ d < C.nt then (pubQ d).bind fun _ => if C.uni = true then uniQ d else .ret () else .ret () | none => .ret ()) (retF s d q) () (retF s d q) [d, d] [] := by
  rw [ho]
  simp only
  rw [if_pos ⟨hC.pub d, hn⟩]
  have hv := retF_plain (s := s) (r := q) hd
  have h1 : RX (pubQ d) (retF s d q) () (retF s d q) [d] [] := by
    refine RX.ask (r1 := []) ?_
    cases hE : (retF s d q).env d <;> rw [hE] at hv <;> first | exact RX.ret | cases hv
  have h2 : RX (uniQ d) (retF s d q) () (retF s d q) [d] [] := by
    refine RX.ask (r1 := []) ?_
    cases hE : (retF s d q).env d <;> rw [hE] at hv <;> first | exact RX.ret | cases hv
  have := h1.bind (f := fun _ => if C.uni = true then uniQ d else .ret ()) (by rw [if_pos hC.uni]; exact h2)
  exact RX.to this (by simp) (by simp)
end
noncomputable def callL (d : Nat) (c : Call) (s : St) : List Nat × List Nat := match c.callee with
  | .value (.tmp j) => match avF s j with
    | some (.v (.one (.yl _))) => (gs :: (argR c.args.toList ++ [j]), [d, gs])
    | _ => (d :: d :: gs :: (argR c.args.toList ++ [j, j]), [d, gs])
  | _ => (d :: d :: gs :: argR c.args.toList, [d, gs])
theorem callT_x {S : SysP} {e : Evs} {t : EvT} (hP : PbOk S) (hE : EvTOk e t) {nt i d : Nat} {o : Oper} {c : Call} {s s' : St} {T T' : TL} (ho : o.dst = some d) (hn : d < nt) (hd : Nat.blt d 1000000 = true) (hop : o.op = .call c)
    (h : callT S t d c s T = some (s', T')) (hT : T'.Ok) : RX (semY (ctxS S.toSys e nt) i o) s () s' (callL d c s).1 (callL d c s).2 := by
  have hC := ctxS_uni S.toSys e nt
  have hn' : d < (ctxS S.toSys e nt).nt := hn
  have enter : ∀ {f : Nat} {ads : List AD} {q : RV × Hp × Nat}, callee S.toSys e f ads s.H s.nx = some q → ∃ F, (ctxS S.toSys e nt).fns f = .eff F ∧ F ads s.H s.nx = some q := fun {f ads q} hq => by
    unfold callee at hq
    show ∃ F, (match S.base f with | .none => if (S.tab f).isSome then FnS.eff (e.fn f) else .none | x => x) = .eff F ∧ _
    cases hb : S.base f with
    | none =>
      rw [hb] at hq
      simp only at hq ⊢
      split at hq
      · rename_i ht; rw [if_pos ht]; exact ⟨_, rfl, hq⟩
      · cases hq
    | eff F => rw [hb] at hq; exact ⟨F, rfl, hq⟩
    | _ => rw [hb] at hq; cases hq
  have whole : ∀ {q : RV × Hp × Nat} {fr fu : List Nat}, RX (semOp1 (ctxS S.toSys e nt) i o) s () (retF s d q) fr fu → RX (semOp (ctxS S.toSys e nt) i o) s () (retF s d q) (d :: d :: fr) fu := fun {q fr fu} h1 => by
    unfold semOp
    have hp : preQ (ctxS S.toSys e nt) o.op = .ret () := by rw [hop]; rfl
    rw [hp]
    have := (RX.ret (a := ()) (s := s)).bind (f := fun _ => (semOp1 (ctxS S.toSys e nt) i o).bind fun _ => _) (h1.bind (tail_x (s := s) (q := q) hC hn' hd ho))
    exact RX.to this (by simp) (by simp)
  unfold callT at h
  split at h
  · rename_i f hcl
    split at h
    · rename_i ads hads0
      have hads := rdsA_x hads0
      split at h
      · rename_i f
        split at h
        · rename_i q hq
          simp only [Option.some.injEq, Prod.mk.injEq] at h
          obtain ⟨rfl, rfl⟩ := h
          obtain ⟨F, hF, hFq⟩ := enter ((calleeT_ok hP hE hq).2 hT)
          rw [semY_call hop (by rw [hcl]; intro t e; cases e)]
          have e0 : callL d c s = (d :: d :: gs :: argR c.args.toList, [d, gs]) := by unfold callL; rw [hcl]
          rw [e0]
          refine whole ?_
          unfold semOp1; rw [hop]; simp only [hcl]
          unfold semOp0; rw [hop]; simp only [hcl, dstQ, ho, if_pos hn', callQ]
          have := hads.bind (f := fun ads => match (ctxS S.toSys e nt).fns f with
            | .new F => (ofOpt (F ads)).bind fun r => .set d (.own (i + 1) r.1 r.2.1 r.2.2) (.ret ())
            | .ext F => .ask gs fun
              | .heap H nx => (ofOpt (F ads H nx)).bind fun r => setRV d r
              | _ => .fail
            | _ => enterQ (ctxS S.toSys e nt) d f ads) (by simp only [hF]; exact enter_x hC hn' hd hF hFq)
          exact RX.to this (by simp) (by simp)
        · cases h
      · rename_i j
        split at h
        · rename_i f caps hv
          split at h
          · rename_i q hq
            simp only [Option.some.injEq, Prod.mk.injEq] at h
            obtain ⟨rfl, rfl⟩ := h
            obtain ⟨F, hF, hFq⟩ := enter ((calleeT_ok hP hE hq).2 hT)
            have e0 : callL d c s = (d :: d :: gs :: (argR c.args.toList ++ [j, j]), [d, gs]) := by unfold callL; rw [hcl]; simp only [hv]
            rw [e0]
            unfold semY; rw [hop]; simp only [hcl]
            have h0 : RX (semOp (ctxS S.toSys e nt) i o) s () (retF s d q.1) (d :: d :: (gs :: (argR c.args.toList ++ [j]))) [d, gs] := by
              refine whole ?_
              unfold semOp1; rw [hop]; simp only [hcl, dstQ, ho]
              rw [if_pos hn']
              unfold callVQ
              have g0 : RX (data j) s (.one (.clo f caps)) s [j] [] := by
                refine RX.ask (r1 := []) ?_
                rw [avF_env hv]
                exact RX.ret
              exact RX.to (RX.bind (s1 := s) g0 (show RX ((opds c.args.toList).bind fun ads => enterQ (ctxS S.toSys e nt) d f (ads ++ caps.map .one)) s () (retF s d q.1) ([gs] ++ argR c.args.toList) ([d, gs] ++ []) from hads.bind (f := fun ads => enterQ (ctxS S.toSys e nt) d f (ads ++ caps.map .one)) (enter_x hC hn' hd hF hFq))) (by simp) (by simp)
            have := RX.ask (t := j) (k := fun | .v (.one (.yl lp)) => dstQ o (fun d => yldQ (ctxS S.toSys e nt) d lp c.args.toList) (ctxS S.toSys e nt) | _ => semOp (ctxS S.toSys e nt) i o) (by rw [avF_env hv]; exact h0)
            exact RX.to this (by simp) (by simp)
          · cases h
        · rename_i f hv
          split at h
          · rename_i q hq
            simp only [Option.some.injEq, Prod.mk.injEq] at h
            obtain ⟨rfl, rfl⟩ := h
            obtain ⟨F, hF, hFq⟩ := enter ((calleeT_ok hP hE hq).2 hT)
            have e0 : callL d c s = (d :: d :: gs :: (argR c.args.toList ++ [j, j]), [d, gs]) := by unfold callL; rw [hcl]; simp only [hv]
            rw [e0]
            unfold semY; rw [hop]; simp only [hcl]
            have h0 : RX (semOp (ctxS S.toSys e nt) i o) s () (retF s d q.1) (d :: d :: (gs :: (argR c.args.toList ++ [j]))) [d, gs] := by
              refine whole ?_
              unfold semOp1; rw [hop]; simp only [hcl, dstQ, ho]
              rw [if_pos hn']
              unfold callVQ
              have g0 : RX (data j) s (.one (.fn f)) s [j] [] := by
                refine RX.ask (r1 := []) ?_
                rw [avF_env hv]
                exact RX.ret
              exact RX.to (RX.bind (s1 := s) g0 (show RX ((opds c.args.toList).bind fun ads => enterQ (ctxS S.toSys e nt) d f ads) s () (retF s d q.1) ([gs] ++ argR c.args.toList) ([d, gs] ++ []) from hads.bind (f := fun ads => enterQ (ctxS S.toSys e nt) d f ads) (enter_x hC hn' hd hF hFq))) (by simp) (by simp)
            have := RX.ask (t := j) (k := fun | .v (.one (.yl lp)) => dstQ o (fun d => yldQ (ctxS S.toSys e nt) d lp c.args.toList) (ctxS S.toSys e nt) | _ => semOp (ctxS S.toSys e nt) i o) (by rw [avF_env hv]; exact h0)
            exact RX.to this (by simp) (by simp)
          · cases h
        · rename_i lp hv
          split at h
          · rename_i q hq
            simp only [Option.some.injEq, Prod.mk.injEq] at h
            obtain ⟨rfl, rfl⟩ := h
            have h2 := (hE.yld _ _ _ _ _ _ _ hq).2 hT
            have e0 : callL d c s = (gs :: (argR c.args.toList ++ [j]), [d, gs]) := by unfold callL; rw [hcl]; simp only [hv]
            rw [e0]
            unfold semY; rw [hop]; simp only [hcl]
            have h0 : RX (dstQ o (fun d => yldQ (ctxS S.toSys e nt) d lp c.args.toList) (ctxS S.toSys e nt)) s () ⟨s.t.set (some (.v (.one (.bool q.1.1)))) 30 d, q.1.2.1, q.1.2.2⟩ (gs :: argR c.args.toList) [d, gs] := by
              simp only [dstQ, ho]
              rw [if_pos hn']
              unfold yldQ
              have := hads.bind (f := fun ads => .ask gs fun
                | .heap H nx => (ofOpt ((ctxS S.toSys e nt).yld lp ads H nx)).bind fun r => .set gs (.heap r.2.1 r.2.2) (.set d (.v (.one (.bool r.1))) (.ret ()))
                | _ => .fail) (RX.ask (r1 := []) (show RX ((ofOpt (e.yld lp ads s.H s.nx)).bind fun r => .set gs (.heap r.2.1 r.2.2) (.set d (.v (.one (.bool r.1))) (.ret ()))) s () ⟨s.t.set (some (.v (.one (.bool q.1.1)))) 30 d, q.1.2.1, q.1.2.2⟩ [] ([d] ++ [gs]) from by
                  have := (RX.opt h2).bind (f := fun r => .set gs (.heap r.2.1 r.2.2) (.set d (.v (.one (.bool r.1))) (.ret ()))) (s1 := s) (RX.set (s1 := ⟨s.t, q.1.2.1, q.1.2.2⟩) rfl (RX.set (set_put hd) RX.ret))
                  exact RX.to this (by simp) (by simp)))
              exact RX.to this (by simp) (by simp)
            have := RX.ask (t := j) (k := fun | .v (.one (.yl lp)) => dstQ o (fun d => yldQ (ctxS S.toSys e nt) d lp c.args.toList) (ctxS S.toSys e nt) | _ => semOp (ctxS S.toSys e nt) i o) (by rw [avF_env hv]; exact h0)
            exact RX.to this (by simp) (by simp)
          · cases h
        · cases h
      · cases h
    · cases h
  · cases h
noncomputable def appL (d : Nat) (c : Call) (s : St) : Option (List Nat × List Nat) := match c.args.toList with
  | [.tmp x, y] => match rdF s y with
    | some b => match b.weak with
      | .one (.ref _ _ _ _) => some (d :: d :: gs :: x :: gs :: (tmpL y ++ [x]), [d, gs])
      | .one (.sl _) => some (d :: d :: gs :: x :: (tmpL y ++ [x]), [d, gs])
      | _ => none
    | none => none
  | _ => none
noncomputable def saidL (C : Ctx) (d : Nat) (op : Op) (s : St) (T : TL) : Option (List Nat × List Nat) := match op with
  | .indexAddr ty x ix => match x with
    | .tmp t => match idxT C ty (.tmp t) ix d s T with
      | some _ => some (d :: d :: t :: tmpL ix, [d])
      | none => none
    | _ => none
  | .call c => match c.callee with
    | .builtin .append => match appT C d c s T with
      | some _ => appL d c s
      | none => none
    | _ => none
  | .load t x => match T.row d with
    | some r => match x with
      | .tmp j => match loadH C t (.tmp j) r s T with
        | some _ => match avF s j with
          | some (.v _) => some ([d, d, gs, j], [d])
          | some (.imm _ _ _) => some ([d, d, j], [d])
          | _ => none
        | none => none
      | _ => none
    | none => none
  | _ => none
theorem rdF_x {s : St} {x : Operand} {a : AD} (h : rdF s x = some a) : RX (opd x) s a s (tmpL x) [] := by
  unfold rdF at h
  split at h
  · rename_i t
    split at h
    · rename_i b hb
      injection h with h; subst h
      refine RX.ask (r1 := []) ?_
      rw [avF_env hb]
      exact RX.ret
    · cases h
  · split at h <;> first | (injection h with h; subst h; exact RX.ret) | cases h
  · injection h with h; subst h; exact RX.ret
  · cases h
theorem addr_objX {s : St} {j ob sz k off : Nat} (h : avF s j = some (.v (.one (.ptr ob sz k off)))) : RX (addr (.tmp j)) s (.obj ob sz k off) s [j] [] := by
  refine RX.ask (r1 := []) ?_
  rw [avF_env h]
  exact RX.ret
theorem addr_immX {s : St} {j k off : Nat} {rows : List (List D)} (h : avF s j = some (.imm rows k off)) : RX (addr (.tmp j)) s (.imm rows k off) s [j] [] := by
  refine RX.ask (r1 := []) ?_
  rw [avF_env h]
  exact RX.ret
theorem ptrF_x {s : St} {x : Operand} {o sz i off : Nat} (h : ptrF s x = some (o, sz, i, off)) : RX (addr x) s (.obj o sz i off) s (tmpL x) [] := by
  unfold ptrF at h
  split at h
  · rename_i t
    split at h
    · rename_i hb
      simp only [Option.some.injEq, Prod.mk.injEq] at h
      obtain ⟨rfl, rfl, rfl, rfl⟩ := h
      refine RX.to (RX.ask (r1 := []) (u1 := []) (t := t) ?_) (by simp [tmpL]) rfl
      rw [avF_env hb]
      exact RX.ret
    · cases h
  · cases h
theorem storeH_x {C : Ctx} (hC : Uni C) {i t : Nat} {o : Oper} {x y : Operand} {r : List D} {s s' : St} {T T' : TL} (ho : o.dst = none) (hop : o.op = .store t x y) (h : storeH C t x y r s T = some (s', T')) (hT : T'.Ok) : RX (semY C i o) s () s' (gs :: (tmpL x ++ tmpL y)) [gs] := by
  unfold storeH at h
  split at h
  rotate_left
  · cases h
  rename_i a hy
  split at h
  rotate_left
  · cases h
  rename_i p hp
  obtain ⟨p1, p2, p3, p4⟩ := p
  split at h
  rotate_left
  · cases h
  rename_i ob hob
  split at h
  rotate_left
  · cases h
  rename_i q hq
  obtain ⟨ob', cs⟩ := q
  simp only [Option.some.injEq, Prod.mk.injEq] at h
  obtain ⟨rfl, rfl⟩ := h
  obtain ⟨hc, he⟩ := need_same hT
  simp only [List.cons_append, List.nil_append, List.mem_cons, forall_eq_or_imp] at hc
  obtain ⟨c1, c2, c3, c4, c5⟩ := hc
  have c1 : a.cells.length = (C.tt t).size := Nat.eq_of_beq_eq_true c1
  have c2 : 0 < (C.tt t).size := blt_lt c2
  have c3 : ob.esz = p2 := Nat.eq_of_beq_eq_true c3
  have c4 : p4 + a.cells.length ≤ r.length := Nat.le_of_ble_eq_true c4
  have c6 : ob.row p3 = some r := encR_some (he _ List.mem_cons_self)
  have hput := putH_ok hq c5
  rw [semY_of (by rw [hop]; simp)]
  unfold semOp
  have hpre : preQ C o.op = .ret () := by
    rw [hop]; unfold preQ
    split
    · simp only [hC.pst, Bool.false_eq_true, false_and, if_false]
    · rfl
  rw [hpre]
  have wr : RX (wrPl a.cells (.obj p1 p2 p3 p4)) s () ⟨s.t, updO s.H p1 (some ob'), s.nx⟩ [gs] [gs] := by
    refine RX.to (RX.ask (r1 := []) (u1 := [gs]) ?_) (by simp) rfl
    rw [St.env_gs]
    simp only
    refine RX.to (RX.bind (RX.opt hob) (r2 := []) (u2 := [gs]) (s2 := ⟨s.t, updO s.H p1 (some ob'), s.nx⟩) (b := ()) ?_) (by simp) (by simp)
    rw [if_pos c3]
    refine RX.to (RX.bind (RX.opt c6) (r2 := []) (u2 := [gs]) (s2 := ⟨s.t, updO s.H p1 (some ob'), s.nx⟩) (b := ()) ?_) (by simp) (by simp)
    rw [if_pos c4]
    exact RX.to (RX.bind (RX.opt hput) (RX.set (s1 := ⟨s.t, updO s.H p1 (some ob'), s.nx⟩) rfl RX.ret)) (by simp) (by simp)
  have key : RX (semOp1 C i o) s () ⟨s.t, updO s.H p1 (some ob'), s.nx⟩ (gs :: (tmpL x ++ tmpL y)) [gs] := by
    unfold semOp1; rw [hop]; simp only [semOp0, hop, ho, Option.isNone_none, if_true]
    unfold storeQ
    refine RX.to ((rdF_x hy).bind (RX.bind (ptrF_x hp) (r2 := [gs]) (u2 := [gs]) (s2 := ⟨s.t, updO s.H p1 (some ob'), s.nx⟩) (b := ()) ?_)) (by simp) (by simp)
    rw [if_pos ⟨c1, c2⟩]
    exact wr
  exact RX.to ((RX.ret (a := ()) (s := s)).bind (key.bind (show RX (match o.dst with | some d => _ | none => .ret ()) _ () _ [] [] by rw [ho]; exact RX.ret))) (by simp) (by simp)
section
variable {C : Ctx} (hC : Uni C) {i d : Nat} {o : Oper} {s : St} {v : AV} {T T' : TL} (ho : o.dst = some d) (hn : d < C.nt) (hd : Nat.blt d 1000000 = true)
include hC ho hn hd
theorem op_putX {fr fu : List Nat} (hpre : ∀ t x y, o.op ≠ .store t x y) (hv : v.plain = true) (h : RX (semOp1 C i o) s () (putF s d v) fr fu) : RX (semOp C i o) s () (putF s d v) (d :: d :: fr) fu := by
  unfold semOp
  have hp : preQ C o.op = .ret () := by
    unfold preQ
    split
    · rename_i h1; exact absurd h1 (hpre _ _ _)
    · rfl
  rw [hp]
  have hpl : ((putF s d v).env d).plain = true := by rw [putF_at hd]; exact hv
  have h1 : RX (pubQ d) (putF s d v) () (putF s d v) [d] [] := by
    refine RX.ask (r1 := []) ?_
    cases hE : (putF s d v).env d <;> rw [hE] at hpl <;> first | exact RX.ret | cases hpl
  have h2 : RX (uniQ d) (putF s d v) () (putF s d v) [d] [] := by
    refine RX.ask (r1 := []) ?_
    cases hE : (putF s d v).env d <;> rw [hE] at hpl <;> first | exact RX.ret | cases hpl
  have tail : RX (match o.dst with | some d => if C.pub d = true ∧ d < C.nt then (pubQ d).bind fun _ => if C.uni = true then uniQ d else .ret () else .ret () | none => .ret ()) (putF s d v) () (putF s d v) [d, d] [] := by
    rw [ho]
    simp only
    rw [if_pos ⟨hC.pub d, hn⟩]
    have := h1.bind (f := fun _ => if C.uni = true then uniQ d else .ret ()) (by rw [if_pos hC.uni]; exact h2)
    exact RX.to this (by simp) (by simp)
  have := (RX.ret (a := ()) (s := s)).bind (f := fun _ => (semOp1 C i o).bind fun _ => _) (h.bind tail)
  exact RX.to this (by simp) (by simp)
theorem idxT_x {ty t : Nat} {ix : Operand} (hop : o.op = .indexAddr ty (.tmp t) ix) (h : idxT C ty (.tmp t) ix d s T = some (v, T')) (hT : T'.Ok) : RX (semY C i o) s () (putF s d v) (d :: d :: t :: tmpL ix) [d] := by
  unfold idxT at h
  split at h
  rotate_left
  · cases h
  rename_i e esz eb ez hk
  split at h
  rotate_left
  · rename_i hx; exact absurd rfl (hx t)
  rename_i t' ht'
  injection ht' with ht'
  subst ht'
  split at h
  rotate_left
  · cases h
  rename_i n hix
  obtain ⟨kk, hix⟩ := natF_some hix
  have fin : v.plain = true → RX (indexAddrQ C d ty (.tmp t) ix) s () (putF s d v) (t :: tmpL ix) [d] → RX (semY C i o) s () (putF s d v) (d :: d :: t :: tmpL ix) [d] := fun hv hr => by
    rw [semY_of (by rw [hop]; simp)]
    refine op_putX hC ho hn hd (by rw [hop]; intros; simp) hv ?_
    unfold semOp1; rw [hop]; simp only [semOp0, hop, dstQ, ho, if_pos hn]
    exact hr
  have put : RX (Q.set d v (.ret ())) s () (putF s d v) [] [d] := RX.to (RX.set (set_put hd) RX.ret) rfl rfl
  split at h
  · rename_i ob sz j len hav
    simp only [Option.some.injEq, Prod.mk.injEq] at h
    obtain ⟨rfl, rfl⟩ := h
    have hc := TL.need_ok hT
    have h1 : n < len := blt_lt (hc _ List.mem_cons_self)
    have h2 : sz = esz := Nat.eq_of_beq_eq_true (hc _ (List.mem_cons_of_mem _ List.mem_cons_self))
    refine fin rfl ?_
    unfold indexAddrQ
    refine RX.to ((rdF_x hix).bind (RX.bind (RX.opt (a := (kk, Int.ofNat n)) rfl) (r2 := [t]) (u2 := [d]) (s2 := putF s d (.v (.one (.ptr ob sz (j + n) 0)))) (b := ()) ?_)) (by simp) (by simp)
    rw [hk]
    refine RX.to (RX.ask (r1 := []) (u1 := [d]) ?_) (by simp) (by simp)
    rw [avF_env hav]
    simp only
    rw [if_pos ⟨Int.natCast_nonneg n, Int.ofNat_lt.2 h1, h2⟩]
    exact put
  · rename_i rows hav
    split at h
    · rename_i r hr
      simp only [Option.some.injEq, Prod.mk.injEq] at h
      obtain ⟨rfl, rfl⟩ := h
      obtain ⟨hc, he⟩ := need_same hT
      have h1 : r.length = esz := Nat.eq_of_beq_eq_true (hc _ List.mem_cons_self)
      have h2 : rows[n]? = some r := encR_some (he _ List.mem_cons_self)
      have h3 : n < rows.length := (List.getElem?_eq_some_iff.1 h2).1
      refine fin rfl ?_
      unfold indexAddrQ
      refine RX.to ((rdF_x hix).bind (RX.bind (RX.opt (a := (kk, Int.ofNat n)) rfl) (r2 := [t]) (u2 := [d]) (s2 := putF s d (.imm rows n 0)) (b := ()) ?_)) (by simp) (by simp)
      rw [hk]
      refine RX.to (RX.ask (r1 := []) (u1 := [d]) ?_) (by simp) (by simp)
      rw [avF_env hav]
      simp only
      rw [if_pos ⟨Int.natCast_nonneg n, Int.ofNat_lt.2 h3⟩]
      refine RX.to (RX.bind (RX.opt (a := r) h2) (r2 := []) (u2 := [d]) (s2 := putF s d (.imm rows n 0)) (b := ()) ?_) (by simp) (by simp)
      rw [if_pos h1]
      exact put
    · cases h
  · cases h
theorem appT_x {c : Call} {s' : St} {q : List Nat × List Nat} (hop : o.op = .call c) (hcl : c.callee = .builtin .append) (h : appT C d c s T = some (s', T')) (hT : T'.Ok) (hq : appL d c s = some q) : RX (semY C i o) s () s' q.1 q.2 := by
  unfold appT at h
  unfold appL at hq
  split at h
  rotate_left
  · cases h
  rename_i x y hargs
  rw [hargs] at hq
  simp only at hq
  split at h
  rotate_left
  · cases h
  rename_i t t' htys
  obtain ⟨htt, h2⟩ := br_some h
  clear h
  have htt := Nat.eq_of_beq_eq_true htt
  subst htt
  have h := h2
  clear h2
  split at h
  rotate_left
  · cases h
  rename_i o1 sz j n hav
  split at h
  rotate_left
  · cases h
  rename_i b hy
  rw [hy] at hq
  simp only at hq
  split at h
  rotate_left
  · cases h
  rename_i y0 ys hrows
  split at h
  rotate_left
  · cases h
  rename_i e esz eb ez hk
  split at h
  rotate_left
  · cases h
  rename_i ob hob
  simp only [Option.some.injEq, Prod.mk.injEq] at h
  obtain ⟨rfl, rfl⟩ := h
  have hc := TL.need_ok hT
  simp only [List.mem_cons, List.not_mem_nil, or_false, forall_eq_or_imp, forall_eq] at hc
  obtain ⟨c1, c2, c3, c4, c5, c6, c7, c8⟩ := hc
  have c1 : ∀ r ∈ y0 :: ys, r.length = esz := fun r hr => Nat.eq_of_beq_eq_true (List.all_eq_true.1 c1 r hr)
  have c2 : 0 < esz := blt_lt c2
  have c3 : ob.e = some e := by
    unfold isE at c3
    split at c3
    · rename_i z hz; rw [hz, Nat.eq_of_beq_eq_true c3]
    · cases c3
  have c4 : ob.sz = esz := Nat.eq_of_beq_eq_true c4
  have c5 : sz = esz := Nat.eq_of_beq_eq_true c5
  have c6 : j = 0 := Nat.eq_of_beq_eq_true c6
  have c7 : n = ob.rows.length := Nat.eq_of_beq_eq_true c7
  have c8 : (n + (y0 :: ys).length) * (eb + 1) ≤ 140737488355328 := Nat.le_of_ble_eq_true c8
  have rows : ∃ fr, RX (rowsOf b) s (y0 :: ys) s fr [] ∧ q = (d :: d :: gs :: x :: (fr ++ (tmpL y ++ [x])), [d, gs]) := by
    unfold rowsF at hrows
    unfold rowsOf
    split at hrows
    · rename_i rows hw
      rw [hw] at hq ⊢
      injection hrows with hrows
      injection hq with hq
      exact ⟨[], by rw [hrows]; exact RX.ret, by rw [← hq]; rfl⟩
    · rename_i o2 sz2 i2 n2 hw
      rw [hw] at hq ⊢
      injection hq with hq
      split at hrows
      · rename_i ob2 hob2
        obtain ⟨g1, g2⟩ := br_some hrows
        have g1 : Nat.beq ob2.sz sz2 = true ∧ Nat.ble (i2 + n2) ob2.rows.length = true := by simpa using g1
        injection g2 with g2
        refine ⟨[gs], RX.to (RX.ask (r1 := []) (u1 := []) ?_) (by simp) rfl, by rw [← hq]; rfl⟩
        rw [St.env_gs]
        simp only
        refine RX.to (RX.bind (RX.opt hob2) (r2 := []) (u2 := []) (s2 := s) (b := y0 :: ys) ?_) (by simp) (by simp)
        rw [if_pos ⟨Nat.eq_of_beq_eq_true g1.1, Nat.le_of_ble_eq_true g1.2⟩, g2]
        exact RX.ret
      · cases hrows
    · cases hrows
  obtain ⟨fr, hrw, rfl⟩ := rows
  rw [semY_of_builtin hop hcl]
  have key : RX (semOp1 C i o) s () (putF ⟨s.t, updO (updO s.H o1 none) s.nx (some ⟨some e, esz, ob.rows ++ (y0 :: ys)⟩), s.nx + 1⟩ d (.v (.one (.ref s.nx esz 0 (n + (y0 :: ys).length))))) (gs :: x :: (fr ++ (tmpL y ++ [x]))) [d, gs] := by
    unfold semOp1; rw [hop]
    simp only [hcl, dstQ, ho, if_pos hn, hargs, htys]
    refine RX.to (RX.ask (r1 := gs :: x :: (fr ++ tmpL y)) (u1 := [d, gs]) ?_) (by simp) (by simp)
    rw [avF_env hav]
    simp only [if_true]
    unfold appendRefQ
    refine RX.to ((rdF_x hy).bind (RX.bind hrw (r2 := [gs, x]) (u2 := [d, gs]) (s2 := putF ⟨s.t, updO (updO s.H o1 none) s.nx (some ⟨some e, esz, ob.rows ++ (y0 :: ys)⟩), s.nx + 1⟩ d (.v (.one (.ref s.nx esz 0 (n + (y0 :: ys).length))))) (b := ()) ?_)) (by simp) (by simp)
    simp only [hk]
    rw [if_pos ⟨by rw [List.all_eq_true]; intro r hr; simpa using c1 r hr, c2⟩]
    have g0 : RX (opd (.tmp x)) s (.one (.ref o1 sz j n)) s [x] [] := by
      refine RX.ask (r1 := []) ?_
      rw [avF_env hav]
      exact RX.ret
    refine RX.to (g0.bind (r2 := [gs]) (u2 := [d, gs]) (s2 := putF ⟨s.t, updO (updO s.H o1 none) s.nx (some ⟨some e, esz, ob.rows ++ (y0 :: ys)⟩), s.nx + 1⟩ d (.v (.one (.ref s.nx esz 0 (n + (y0 :: ys).length))))) (b := ()) ?_) (by simp) (by simp)
    simp only
    rw [if_neg (by simp)]
    refine RX.to (RX.ask (r1 := []) (u1 := [d, gs]) ?_) (by simp) (by simp)
    rw [St.env_gs]
    simp only
    refine RX.to (RX.bind (RX.opt hob) (r2 := []) (u2 := [d, gs]) (s2 := putF ⟨s.t, updO (updO s.H o1 none) s.nx (some ⟨some e, esz, ob.rows ++ (y0 :: ys)⟩), s.nx + 1⟩ d (.v (.one (.ref s.nx esz 0 (n + (y0 :: ys).length))))) (b := ()) ?_) (by simp) (by simp)
    rw [if_pos ⟨c3, c4, c5, c6, c7, by simp only [List.length_cons]; omega, c8⟩]
    exact RX.to (RX.set (s1 := ⟨s.t, updO (updO s.H o1 none) s.nx (some ⟨some e, esz, ob.rows ++ (y0 :: ys)⟩), s.nx + 1⟩) rfl (RX.set (set_put hd) RX.ret)) (by simp) (by simp)
  unfold semOp
  have hp : preQ C o.op = .ret () := by rw [hop]; rfl
  rw [hp]
  generalize hz : putF ⟨s.t, updO (updO s.H o1 none) s.nx (some ⟨some e, esz, ob.rows ++ (y0 :: ys)⟩), s.nx + 1⟩ d (.v (.one (.ref s.nx esz 0 (n + (y0 :: ys).length)))) = z at key ⊢
  have hpl : (z.env d).plain = true := by rw [← hz, putF_at hd]; rfl
  have h1 : RX (pubQ d) z () z [d] [] := by
    refine RX.ask (r1 := []) ?_
    cases hE : z.env d <;> rw [hE] at hpl <;> first | exact RX.ret | cases hpl
  have h2 : RX (uniQ d) z () z [d] [] := by
    refine RX.ask (r1 := []) ?_
    cases hE : z.env d <;> rw [hE] at hpl <;> first | exact RX.ret | cases hpl
  have tail : RX (match o.dst with | some d => if C.pub d = true ∧ d < C.nt then (pubQ d).bind fun _ => if C.uni = true then uniQ d else .ret () else .ret () | none => .ret ()) z () z [d, d] [] := by
    rw [ho]
    simp only
    rw [if_pos ⟨hC.pub d, hn⟩]
    have := h1.bind (f := fun _ => if C.uni = true then uniQ d else .ret ()) (by rw [if_pos hC.uni]; exact h2)
    exact RX.to this (by simp) (by simp)
  exact RX.to ((RX.ret (a := ()) (s := s)).bind (f := fun _ => (semOp1 C i o).bind fun _ => _) (key.bind tail)) (by simp) (by simp)
theorem cellsO_x {t : Nat} {r : List D} {off : Nat} (h : cellsO C t r off = some v) : v.plain = true ∧ ∃ cs, sub r off (C.tt t).size = some cs ∧ RX (if (C.tt t).k.agg then Q.set d (.v (.many cs)) (.ret ()) else match cs with
      | [c] => .set d (.v (.one c)) (.ret ())
      | _ => .fail) s () (putF s d v) [] [d] := by
  have put : ∀ v : AV, RX (Q.set d v (.ret ())) s () (putF s d v) [] [d] := fun v => RX.to (RX.set (set_put hd) RX.ret) rfl rfl
  unfold cellsO at h
  split at h
  · rename_i cs hcs
    cases hag : (C.tt t).k.agg with
    | true =>
      rw [hag] at h
      injection (show some (AV.v (.many cs)) = some v from h) with h
      subst h
      refine ⟨rfl, cs, hcs, ?_⟩
      rw [if_pos rfl]
      exact put _
    | false =>
      rw [hag] at h
      have h : oneD cs = some v := h
      unfold oneD at h
      split at h
      · injection h with h
        subst h
        refine ⟨rfl, _, hcs, ?_⟩
        rw [if_neg (by simp)]
        exact put _
      · cases h
  · cases h
theorem loadH_x {t j : Nat} {r : List D} {q : List Nat × List Nat} (hop : o.op = .load t (.tmp j)) (h : loadH C t (.tmp j) r s T = some (v, T')) (hT : T'.Ok)
    (hq : (match avF s j with
      | some (.v _) => some ([d, d, gs, j], [d])
      | some (.imm _ _ _) => some ([d, d, j], [d])
      | _ => none) = some q) : RX (semY C i o) s () (putF s d v) q.1 q.2 := by
  have fin : ∀ fr, v.plain = true → RX (loadQ C d t (.tmp j)) s () (putF s d v) fr [d] → RX (semY C i o) s () (putF s d v) (d :: d :: fr) [d] := fun fr hv hr => by
    rw [semY_of (by rw [hop]; simp)]
    refine op_putX hC ho hn hd (by rw [hop]; intros; simp) hv ?_
    unfold semOp1; rw [hop]; simp only [semOp0, hop, dstQ, ho, if_pos hn]
    exact hr
  unfold loadH at h
  split at h
  rotate_left
  · rename_i hx; exact absurd rfl (hx j)
  rename_i j' hj'
  injection hj' with hj'
  subst hj'
  split at h
  · rename_i ob sz k off hav
    rw [hav] at hq
    injection hq with hq
    subst hq
    split at h
    rotate_left
    · cases h
    rename_i b hb
    split at h
    rotate_left
    · cases h
    rename_i v' hv'
    simp only [Option.some.injEq, Prod.mk.injEq] at h
    obtain ⟨rfl, rfl⟩ := h
    obtain ⟨hpl, cs, hcs, hR⟩ := cellsO_x (s := s) hC ho hn hd hv'
    obtain ⟨hc, he⟩ := need_same hT
    have h1 : b.esz = sz := Nat.eq_of_beq_eq_true (hc _ List.mem_cons_self)
    have h2 : b.row k = some r := encR_some (he _ List.mem_cons_self)
    refine fin [gs, j] hpl ?_
    unfold loadQ
    refine RX.to (RX.bind (r1 := [j]) (u1 := []) (r2 := [gs]) (u2 := [d]) (a := Pl.obj ob sz k off) (addr_objX hav) ?_) (by simp) (by simp)
    refine RX.to (RX.bind (r1 := [gs]) (u1 := []) (r2 := []) (u2 := [d]) (a := cs) (s1 := s) ?_ hR) (by simp) (by simp)
    refine RX.to (RX.ask (r1 := []) (u1 := []) ?_) (by simp) rfl
    rw [St.env_gs]
    simp only
    refine RX.to (RX.bind (RX.opt hb) (r2 := []) (u2 := []) (s2 := s) (b := cs) ?_) (by simp) (by simp)
    rw [if_pos h1]
    exact RX.to (RX.bind (RX.opt h2) (RX.opt hcs)) (by simp) (by simp)
  · rename_i rows k off hav
    rw [hav] at hq
    injection hq with hq
    subst hq
    split at h
    rotate_left
    · cases h
    rename_i v' hv'
    simp only [Option.some.injEq, Prod.mk.injEq] at h
    obtain ⟨rfl, rfl⟩ := h
    obtain ⟨hpl, cs, hcs, hR⟩ := cellsO_x (s := s) hC ho hn hd hv'
    obtain ⟨hc, he⟩ := need_same hT
    have h2 : rows[k]? = some r := encR_some (he _ List.mem_cons_self)
    refine fin [j] hpl ?_
    unfold loadQ
    refine RX.to (RX.bind (r1 := [j]) (u1 := []) (r2 := []) (u2 := [d]) (a := Pl.imm rows k off) (addr_immX hav) ?_) (by simp) (by simp)
    refine RX.to (RX.bind (r1 := []) (u1 := []) (r2 := []) (u2 := [d]) (a := cs) (s1 := s) ?_ hR) (by simp) (by simp)
    exact RX.to (RX.bind (RX.opt h2) (RX.opt hcs)) (by simp) (by simp)
  · cases h
end
noncomputable def lateC (C : Ctx) (late : List Nat) : Ctx := { C with pub := fun d => !(late.contains d) }
theorem semY_late {C : Ctx} {late : List Nat} {i : Nat} {o : Oper} (hpub : ∀ d, C.pub d = true) (h : ∀ d, o.dst = some d → late.contains d = false) : semY (lateC C late) i o = semY C i o := by
  have e1 : semOp (lateC C late) i o = semOp C i o := by
    have e0 : semOp1 (lateC C late) i o = semOp1 C i o := rfl
    unfold semOp
    rw [e0]
    have ep : preQ (lateC C late) o.op = preQ C o.op := rfl
    rw [ep]
    congr 1
    funext _
    congr 1
    funext _
    cases ho : o.dst with
    | none => rfl
    | some d =>
      have hl := h d ho
      simp only [lateC, hl, Bool.not_false, hpub d]
      rfl
  unfold semY
  rw [e1]
  rfl
theorem grdQ_late {C : Ctx} {late : List Nat} {ops : Array Oper} {i : Nat} {o : Oper} (hpub : ∀ d, C.pub d = true) (h : ∀ d, o.dst = some d → late.contains d = false) : grdQ (lateC C late) ops i o = grdQ C ops i o := by
  unfold grdQ
  rw [semY_late hpub h]
  rfl
noncomputable def isLate (late : List Nat) (o : Oper) : Bool := match o.dst with
  | some d => late.contains d
  | none => false
noncomputable def grdL (ops : Array Oper) (o : Oper) (s : St) : Option (List Nat) := match o.guard with
  | none => some []
  | some (j, want) => match (ops[j]?).bind (·.dst) with
    | some i => match avF s i with
      | some (.v (.one (.bool b))) => br (Bool.rec (not want) want b) (some [i]) none
      | _ => none
    | none => none
noncomputable def callV (o : Oper) : Option (Nat × Call) := match o.op with
  | .call c => match c.callee with
    | .value _ => match o.dst with
      | some d => some (d, c)
      | none => none
    | _ => none
  | _ => none
noncomputable def saidO (C : Ctx) (o : Oper) (s : St) (T : TL) : Option (List Nat × List Nat) := match o.dst with
  | some d => saidL C d o.op s T
  | none => match o.op with
    | .store t x y => match T.row 0 with
      | some r => match storeH C t x y r s T with
        | some _ => some (gs :: (tmpL x ++ tmpL y), [gs])
        | none => none
      | none => none
    | _ => none
noncomputable def recL (C : Ctx) (ops : Array Oper) (k : Nat) (o : Oper) (s : St) (T : TL) : Option (List Nat × List Nat) := match callV o with
  | some (d, c) => match grdL ops o s with
    | some g => some ((callL d c s).1 ++ g, (callL d c s).2)
    | none => ((grdQ C ops k o).runS s [] []).map fun x => (x.2.2.1, x.2.2.2)
  | none => match saidO C o s T with
    | some q => match grdL ops o s with
      | some g => some (q.1 ++ g, q.2)
      | none => ((grdQ C ops k o).runS s [] []).map fun x => (x.2.2.1, x.2.2.2)
    | none => ((grdQ C ops k o).runS s [] []).map fun x => (x.2.2.1, x.2.2.2)
noncomputable def runD (S : SysP) (e : Evs) (t : EvT) (nt : Nat) (late : List Nat) (ops : Array Oper) : Nat → List Oper → St → TL → Option ((St × List OpRec) × TL)
  | _, [], s, T => some ((s, []), T)
  | k, o :: l, s, T => match isLate late o with
    | true => match (grdQ (lateC (ctxS S.toSys e nt) late) ops k o).runS s [] [] with
      | some (_, s', r, u) => br (u.all (fun i => i == gs || (late.contains i || (s'.env i).plain))) (match runD S e t nt late ops (k + 1) l s' T with
        | some z => some ((z.1.1, (s, r, u) :: z.1.2), z.2)
        | none => none) none
      | none => none
    | false => match recL (ctxS S.toSys e nt) ops k o s T with
      | some q => match opT S e t nt ops k o s T with
        | some y => match runD S e t nt late ops (k + 1) l y.1 y.2 with
          | some z => some ((z.1.1, (s, q.1, q.2) :: z.1.2), z.2)
          | none => none
        | none => none
      | none => none
section
variable {S : SysP} {e : Evs} {t : EvT} (hP : PbOk S) (hE : EvTOk e t)
include hP hE
theorem opT_rec {nt k : Nat} {ops : Array Oper} {o : Oper} {s s' : St} {T T' : TL} {q : List Nat × List Nat} (h : opT S e t nt ops k o s T = some (s', T')) (hq : recL (ctxS S.toSys e nt) ops k o s T = some q) (hT : T'.Ok) :
    (grdQ (ctxS S.toSys e nt) ops k o).runS s [] [] = some ((), s', q.1, q.2) ∧ ∀ x ∈ q.2, x = gs ∨ (s'.env x).plain = true := by
  obtain ⟨r, u, h1, h2⟩ := (opT_ok hP hE h).2 hT
  have gen : ((grdQ (ctxS S.toSys e nt) ops k o).runS s [] []).map (fun x => (x.2.2.1, x.2.2.2)) = some q → (grdQ (ctxS S.toSys e nt) ops k o).runS s [] [] = some ((), s', q.1, q.2) ∧ ∀ x ∈ q.2, x = gs ∨ (s'.env x).plain = true := fun hg => by
    rw [h1] at hg
    simp only [Option.map_some, Option.some.injEq] at hg
    subst hg
    exact ⟨h1, h2⟩
  have fin : ∀ (fr fu g : List Nat), (∀ (hu : unT S e t nt k o s T = some (s', T')), RX (semY (ctxS S.toSys e nt) k o) s () s' fr fu) → grdL ops o s = some g → (grdQ (ctxS S.toSys e nt) ops k o).runS s [] [] = some ((), s', fr ++ g, fu) := fun fr fu g un hg => by
    unfold grdL at hg
    split at hg
    · rename_i hgd
      injection hg with hg
      subst hg
      have hu : unT S e t nt k o s T = some (s', T') := by
        have h' := h
        unfold opT at h'
        rw [hgd] at h'
        exact h'
      have := un hu [] []
      unfold grdQ
      rw [hgd]
      simpa using this
    · rename_i j want hgd
      split at hg
      · rename_i i hi
        split at hg
        · rename_i b hb
          cases hc : (Bool.rec (motive := fun _ => Bool) (not want) want b) with
          | false => rw [hc] at hg; cases hg
          | true =>
            rw [hc] at hg
            injection (show some [i] = some g from hg) with hg
            subst hg
            have eb : b = want := by cases b <;> cases want <;> first | rfl | cases hc
            subst eb
            have hu : unT S e t nt k o s T = some (s', T') := by
              have h' := h
              unfold opT at h'
              rw [hgd] at h'
              simp only [hi, hb, hc] at h'
              exact h'
            have := un hu [i] []
            unfold grdQ
            rw [hgd]
            simp only [hi]
            show ((match s.env i with | .v (.one (.bool b')) => if b' = b then semY (ctxS S.toSys e nt) k o else skipQ (ctxS S.toSys e nt) o | .tup [] => skipQ (ctxS S.toSys e nt) o | _ => .fail)).runS s [i] [] = _
            rw [avF_env hb]
            simp only [if_true]
            simpa using this
        · cases hg
      · cases hg
  have both : ∀ (fr fu : List Nat), (grdQ (ctxS S.toSys e nt) ops k o).runS s [] [] = some ((), s', fr, fu) → (grdQ (ctxS S.toSys e nt) ops k o).runS s [] [] = some ((), s', fr, fu) ∧ ∀ x ∈ fu, x = gs ∨ (s'.env x).plain = true := fun fr fu hf => by
    refine ⟨hf, ?_⟩
    rw [h1] at hf
    simp only [Option.some.injEq, Prod.mk.injEq] at hf
    obtain ⟨_, _, _, hu⟩ := hf
    rw [← hu]
    exact h2
  unfold recL at hq
  split at hq
  · rename_i d c hcv
    split at hq
    · rename_i g hg
      injection hq with hq
      subst hq
      obtain ⟨hop, ⟨f, hcl⟩, ho⟩ : o.op = .call c ∧ (∃ f, c.callee = .value f) ∧ o.dst = some d := by
        unfold callV at hcv
        split at hcv
        · rename_i c' hop
          split at hcv
          · rename_i f hcl
            split at hcv
            · rename_i d' ho
              simp only [Option.some.injEq, Prod.mk.injEq] at hcv
              obtain ⟨rfl, rfl⟩ := hcv
              exact ⟨hop, ⟨f, hcl⟩, ho⟩
            · cases hcv
          · cases hcv
        · cases hcv
      refine both _ _ (fin _ _ g (fun hu => ?_) hg)
      unfold unT at hu
      rw [ho] at hu
      simp only at hu
      obtain ⟨g1, hu⟩ := br_some hu
      obtain ⟨g2, hu⟩ := br_some hu
      rw [hop] at hu
      simp only [hcl] at hu
      exact callT_x hP hE ho (blt_lt g1) g2 hop hu hT
    · exact gen hq
  · split at hq
    · rename_i q0 hsd
      split at hq
      · rename_i g hg
        injection hq with hq
        subst hq
        refine both _ _ (fin q0.1 q0.2 g (fun hu => ?_) hg)
        unfold saidO at hsd
        split at hsd
        rotate_left
        · rename_i ho
          split at hsd
          · rename_i t x y hop
            split at hsd
            · rename_i r hr
              split at hsd
              · rename_i z hz
                injection hsd with hsd
                subst hsd
                unfold unT at hu
                rw [ho] at hu
                simp only at hu
                rw [hop] at hu
                simp only [unN, hr, hz, orT] at hu
                injection hu with hu
                subst hu
                exact storeH_x (ctxS_uni S.toSys e nt) ho hop hz hT
              · cases hsd
            · cases hsd
          · cases hsd
        rename_i d ho
        unfold unT at hu
        rw [ho] at hu
        simp only at hu
        obtain ⟨g1, hu⟩ := br_some hu
        obtain ⟨g2, hu⟩ := br_some hu
        have hC := ctxS_uni S.toSys e nt
        have hn : d < (ctxS S.toSys e nt).nt := blt_lt g1
        unfold saidL at hsd
        split at hsd
        · rename_i ty x ix hop
          rw [hop] at hu
          split at hsd
          · rename_i tt
            split at hsd
            · rename_i z hz
              injection hsd with hsd
              subst hsd
              obtain ⟨v, T1⟩ := z
              simp only [hz, putT, orT] at hu
              simp only [Option.some.injEq, Prod.mk.injEq] at hu
              obtain ⟨rfl, rfl⟩ := hu
              exact idxT_x hC ho hn g2 hop hz hT
            · cases hsd
          · cases hsd
        · rename_i c hop
          rw [hop] at hu
          split at hsd
          · rename_i hcl
            simp only [hcl] at hu
            split at hsd
            · rename_i z hz
              simp only [hz, orT] at hu
              injection hu with hu
              obtain ⟨z1, z2⟩ := z
              simp only [Prod.mk.injEq] at hu
              obtain ⟨rfl, rfl⟩ := hu
              exact appT_x hC ho hn g2 hop hcl hz hT hsd
            · cases hsd
          · cases hsd
        · rename_i tt x hop
          rw [hop] at hu
          split at hsd
          · rename_i r hr
            split at hsd
            · rename_i j
              split at hsd
              · rename_i z hz
                obtain ⟨v, T1⟩ := z
                simp only [loadU, hr, hz] at hu
                have : ∃ v2 T2, decV (some (v, T1)) = some (v2, T2) ∧ s' = putF s d v2 ∧ T' = T2 := by
                  cases hdv : decV (some (v, T1)) with
                  | none =>
                    exfalso
                    unfold decV at hdv
                    split at hdv
                    · unfold booT at hdv; cases hdv
                    · cases hdv
                  | some y =>
                    rw [hdv] at hu
                    simp only [putT, orT, Option.some.injEq, Prod.mk.injEq] at hu
                    exact ⟨y.1, y.2, rfl, hu.1.symm, hu.2.symm⟩
                obtain ⟨v2, T2, hdv, rfl, rfl⟩ := this
                have hv2 : v2 = v ∧ T1.Ok := by
                  unfold decV at hdv
                  split at hdv
                  · rename_i b T3 he
                    simp only [Option.some.injEq, Prod.mk.injEq] at he
                    obtain ⟨rfl, rfl⟩ := he
                    obtain ⟨k1, _, k3⟩ := booT_ok hdv
                    exact ⟨k3 hT, k1.ok hT⟩
                  · simp only [Option.some.injEq, Prod.mk.injEq] at hdv
                    obtain ⟨rfl, rfl⟩ := hdv
                    exact ⟨rfl, hT⟩
                obtain ⟨rfl, hT1⟩ := hv2
                exact loadH_x hC ho hn g2 hop hz hT1 hsd
              · cases hsd
            · cases hsd
          · cases hsd
        · cases hsd
      · exact gen hq
    · exact gen hq
theorem runD_ok {nt : Nat} {late : List Nat} {ops : Array Oper} : ∀ {l : List Oper} {k : Nat} {s sf : St} {rs : List OpRec} {T T' : TL}, runD S e t nt late ops k l s T = some ((sf, rs), T') → T.Le T' ∧ (T'.Ok → runRec (lateC (ctxS S.toSys e nt) late) ops late k l s = some (sf, rs))
  | [], k, s, sf, rs, T, T', h => by
    simp only [runD, Option.some.injEq, Prod.mk.injEq] at h
    obtain ⟨⟨rfl, rfl⟩, rfl⟩ := h
    exact ⟨.refl _, fun _ => rfl⟩
  | o :: l, k, s, sf, rs, T, T', h => by
    simp only [runD] at h
    split at h
    · split at h
      · rename_i s1 r u hq
        obtain ⟨hall, h⟩ := br_some h
        split at h
        · rename_i z hz
          simp only [Option.some.injEq, Prod.mk.injEq] at h
          obtain ⟨⟨rfl, rfl⟩, rfl⟩ := h
          obtain ⟨h1, h2⟩ := runD_ok (sf := z.1.1) (rs := z.1.2) (T' := z.2) hz
          refine ⟨h1, fun hT => ?_⟩
          simp only [runRec, hq]
          rw [if_pos hall, h2 hT]
          rfl
        · cases h
      · cases h
    · rename_i hl
      split at h
      · rename_i q hq
        split at h
        · rename_i y hy
          split at h
          · rename_i z hz
            simp only [Option.some.injEq, Prod.mk.injEq] at h
            obtain ⟨⟨rfl, rfl⟩, rfl⟩ := h
            obtain ⟨g1, _⟩ := opT_ok hP hE (s' := y.1) (T' := y.2) hy
            obtain ⟨h1, h2⟩ := runD_ok (sf := z.1.1) (rs := z.1.2) (T' := z.2) hz
            refine ⟨g1.trans h1, fun hT => ?_⟩
            obtain ⟨k1, k2⟩ := opT_rec hP hE (s' := y.1) (T' := y.2) hy hq (h1.ok hT)
            have hd : ∀ d, o.dst = some d → late.contains d = false := fun d hd => by
              unfold isLate at hl
              rw [hd] at hl
              exact hl
            simp only [runRec]
            rw [grdQ_late (fun _ => rfl) hd, k1]
            simp only
            rw [if_pos, h2 hT]
            · rfl
            · rw [List.all_eq_true]
              intro x hx
              rcases k2 x hx with h | h
              · subst h; simp
              · simp [h]
          · cases h
        · cases h
      · cases h
end
noncomputable def D.good : D → Bool
  | .int _ _ | .bool _ | .str _ | .ptr _ _ _ _ | .ref _ _ _ _ | .refc _ _ _ _ _ | .nilp | .nilm | .nilf | .nils | .sl [] | .fn _ | .mp _ | .yl _ => true
  | _ => false
theorem D.good_same0 {x : D} (h : x.good = true) : D.same0 x x = true := by
  unfold D.good at h
  split at h <;> first | cases h; done | simp [D.same0]
theorem D.good_same {x : D} (h : x.good = true) : D.same x x = true := by
  have := D.good_same0 h
  cases x <;> first | exact this | cases h
noncomputable def AV.good : AV → Bool
  | .v (.one d) => d.good
  | .v (.many l) => l.all D.good
  | .junk => true
  | _ => false
theorem all2_refl {α : Type} {f : α → α → Bool} : ∀ {l : List α}, (∀ x ∈ l, f x x = true) → all2 f l l = true
  | [], _ => rfl
  | x :: l, h => by
    simp only [all2, Bool.and_eq_true]
    exact ⟨h x List.mem_cons_self, all2_refl fun y hy => h y (List.mem_cons_of_mem _ hy)⟩
theorem AV.good_same {x : AV} (h : x.good = true) : AV.same x x = true := by
  unfold AV.good at h
  split at h
  · exact D.good_same h
  · exact all2_refl fun d hd => D.good_same (List.all_eq_true.1 h d hd)
  · rfl
  · cases h
noncomputable def stabE (C : Ctx) (ops : Array Oper) (j : Nat) (o : Oper) (pre post h : St) (rd wr : List Nat) : Option (List (AV × AV)) :=
  match (grdQ C ops j o).runS ⟨pre.t, h.H, h.nx⟩ [] [] with
  | some (_, s', r, u) => br (decide (u = wr) && (r.all (fun x => x == gs || rd.contains x) && (!(u.contains gs) && u.all (fun x => AV.good (s'.env x))))) (some (u.map fun x => (s'.env x, post.env x))) none
  | none => none
theorem stabE_ok {C : Ctx} {ops : Array Oper} {j : Nat} {o : Oper} {pre post h : St} {rd wr : List Nat} {l : List (AV × AV)} (hs : stabE C ops j o pre post h rd wr = some l) (hl : ∀ p ∈ l, p.1 = p.2) : stab C ops j o pre post h rd wr = true := by
  unfold stabE at hs
  unfold stab
  split at hs
  · rename_i s' r u hq
    obtain ⟨h1, h2⟩ := br_some hs
    injection h2 with h2
    rw [hq]
    simp only [Bool.and_eq_true] at h1 ⊢
    refine ⟨h1.1, h1.2.1, h1.2.2.1, ?_⟩
    rw [List.all_eq_true]
    intro x hx
    have he : s'.env x = post.env x := hl (s'.env x, post.env x) (by rw [← h2]; exact List.mem_map_of_mem hx)
    rw [← he]
    exact AV.good_same (List.all_eq_true.1 h1.2.2.2 x hx)
  · cases hs
noncomputable def statB (ops : Array Oper) (rs : List OpRec) : Bool :=
  let rows := rowsOn ops.toList []
  let n := ops.size
  let anc := fun i j => (rows.getD j []).getD i false
  (List.range n).all fun j =>
    match ops[j]? with
    | none => true
    | some o => (preds o).all (fun p => decide (p < j)) && (List.range j).all (fun i => anc i j || (disjG (wrAt rs i) (rdAt rs j) && (disj (wrAt rs i) (wrAt rs j) && disjG (wrAt rs j) (rdAt rs i))))
noncomputable def needL (ops : Array Oper) (rs : List OpRec) : List (Nat × Nat) :=
  let rows := rowsOn ops.toList []
  let n := ops.size
  let anc := fun i j => (rows.getD j []).getD i false
  let isW := fun j => (wrAt rs j).contains gs
  (List.range n).flatMap fun j =>
    br ((rdAt rs j).contains gs && !(isW j)) ((br ((List.range n).any (fun m => isW m && anc m j)) [] [(j, 0)]) ++
      (List.range n).flatMap fun m => br (!(isW m) || (anc j m || (List.range n).any (fun m' => isW m' && (anc m' j && decide (m < m'))))) [] [(j, m + 1)]) []
theorem indep_of {C : Ctx} {ops : Array Oper} {rs : List OpRec} {sf : St} (h1 : statB ops rs = true)
    (h2 : ∀ p ∈ needL ops rs, ∀ o, ops[p.1]? = some o → stab C ops p.1 o (stAt rs sf p.1) (stAt rs sf (p.1 + 1)) (stAt rs sf p.2) (rdAt rs p.1) (wrAt rs p.1) = true) : indepS C ops rs sf = true := by
  unfold indepS
  simp only [List.all_eq_true, List.mem_range]
  intro j hj
  have hs := h1
  unfold statB at hs
  simp only [List.all_eq_true, List.mem_range] at hs
  have hsj := hs j hj
  rw [Array.getElem?_eq_getElem hj] at hsj ⊢
  simp only [Bool.and_eq_true] at hsj ⊢
  refine ⟨by simpa using hsj.1, by simpa using hsj.2, ?_⟩
  by_cases hc : ((rdAt rs j).contains gs && !((wrAt rs j).contains gs)) = true
  · rw [if_pos (by simpa using hc)]
    have mem : ∀ p, p ∈ (br ((List.range ops.size).any (fun m => (wrAt rs m).contains gs && ((rowsOn ops.toList []).getD j []).getD m false)) [] [(j, 0)]) ++ ((List.range ops.size).flatMap fun m => br (!((wrAt rs m).contains gs) || (((rowsOn ops.toList []).getD m []).getD j false || (List.range ops.size).any (fun m' => (wrAt rs m').contains gs && (((rowsOn ops.toList []).getD j []).getD m' false && decide (m < m'))))) [] [(j, m + 1)]) → p ∈ needL ops rs := fun p hp => by
      unfold needL
      refine List.mem_flatMap.2 ⟨j, List.mem_range.2 hj, ?_⟩
      rw [hc]
      exact hp
    simp only [Bool.and_eq_true, Bool.or_eq_true, List.all_eq_true, List.mem_range]
    refine ⟨?_, fun m hm => ?_⟩
    · cases ha : (List.range ops.size).any (fun m => (wrAt rs m).contains gs && ((rowsOn ops.toList []).getD j []).getD m false) with
      | true => exact .inl rfl
      | false =>
        right
        refine h2 (j, 0) (mem _ (List.mem_append_left _ ?_)) _ (Array.getElem?_eq_getElem hj)
        rw [ha]
        exact List.mem_cons_self
    · cases ha : (!((wrAt rs m).contains gs) || (((rowsOn ops.toList []).getD m []).getD j false || (List.range ops.size).any (fun m' => (wrAt rs m').contains gs && (((rowsOn ops.toList []).getD j []).getD m' false && decide (m < m'))))) with
      | true =>
        simp only [Bool.or_eq_true] at ha
        rcases ha with ha | ha | ha
        · exact .inl ha
        · exact .inr (.inl ha)
        · exact .inr (.inr (.inl ha))
      | false =>
        right; right; right
        refine h2 (j, m + 1) (mem _ (List.mem_append_right _ (List.mem_flatMap.2 ⟨m, List.mem_range.2 hm, ?_⟩))) _ (Array.getElem?_eq_getElem hj)
        rw [ha]
        exact List.mem_cons_self
  · rw [if_neg (by simpa using hc)]
noncomputable def quietB (rs : List OpRec) (sf : St) (j k : Nat) : Bool :=
  (List.range (j + k)).all (fun m => !(wrAt rs m).contains gs || !((Nat.ble k m && Nat.blt m j) || (Nat.ble j m && Nat.blt m k))) && (!((wrAt rs j).contains gs) && (wrAt rs j).all (fun x => AV.good ((stAt rs sf (j + 1)).env x)))
noncomputable def eqsL (C : Ctx) (ops : Array Oper) (rs : List OpRec) (sf : St) : List (Nat × Nat) → Option (List (AV × AV))
  | [] => some []
  | p :: l => br (quietB rs sf p.1 p.2) (eqsL C ops rs sf l) (match ops[p.1]? with
    | some o => match stabE C ops p.1 o (stAt rs sf p.1) (stAt rs sf (p.1 + 1)) (stAt rs sf p.2) (rdAt rs p.1) (wrAt rs p.1) with
      | some x => match eqsL C ops rs sf l with
        | some y => some (x ++ y)
        | none => none
      | none => none
    | none => none)
theorem env_heap {s s' : St} (h : s'.env gs = s.env gs) : s'.H = s.H ∧ s'.nx = s.nx := by
  rw [St.env_gs, St.env_gs] at h
  injection h with h1 h2
  exact ⟨h1, h2⟩
theorem quiet_stab {C : Ctx} {ops : Array Oper} {late : List Nat} {s0 sf : St} {rs : List OpRec} (hr : runRec C ops late 0 ops.toList s0 = some (sf, rs)) {j k : Nat} {o : Oper} (hk : k ≤ ops.size) (ho : ops[j]? = some o) (hq : quietB rs sf j k = true) :
    stab C ops j o (stAt rs sf j) (stAt rs sf (j + 1)) (stAt rs sf k) (rdAt rs j) (wrAt rs j) = true := by
  obtain ⟨_, hlen, _, _, hat⟩ := runRec_txt _ _ _ _ _ hr
  unfold quietB at hq
  simp only [Bool.and_eq_true, List.all_eq_true, List.mem_range] at hq
  obtain ⟨hq, hw, hgood⟩ := hq
  have step : ∀ m, m < ops.size → ¬ gs ∈ wrAt rs m → (stAt rs sf (m + 1)).H = (stAt rs sf m).H ∧ (stAt rs sf (m + 1)).nx = (stAt rs sf m).nx := fun m hm hn => by
    have hm' : ops.toList[m]? = some ops[m] := by rw [Array.getElem?_toList, Array.getElem?_eq_getElem hm]
    obtain ⟨h1, _⟩ := hat m _ hm'
    exact env_heap ((Q.runS_same h1).2 gs hn)
  have hj : j < ops.size := (Array.getElem?_eq_some_iff.1 ho).1
  have chain : ∀ (d a : Nat), a + d ≤ ops.size → (∀ m, a ≤ m → m < a + d → ¬ gs ∈ wrAt rs m) → (stAt rs sf (a + d)).H = (stAt rs sf a).H ∧ (stAt rs sf (a + d)).nx = (stAt rs sf a).nx := fun d => by
    induction d with
    | zero => intro a _ _; exact ⟨rfl, rfl⟩
    | succ d ih =>
      intro a ha hn
      obtain ⟨h1, h2⟩ := ih a (by omega) fun m h1 h2 => hn m h1 (by omega)
      obtain ⟨h3, h4⟩ := step (a + d) (by omega) (hn (a + d) (by omega) (by omega))
      exact ⟨h3.trans h1, h4.trans h2⟩
  have no : ∀ m, m < j + k → (k ≤ m ∧ m < j) ∨ (j ≤ m ∧ m < k) → ¬ gs ∈ wrAt rs m := fun m hm hc hg => by
    have := hq m hm
    rw [show (wrAt rs m).contains gs = true by simpa using hg] at this
    rcases hc with ⟨h1, h2⟩ | ⟨h1, h2⟩
    · rw [show Nat.ble k m = true from Nat.ble_eq_true_of_le h1, show Nat.blt m j = true from Nat.ble_eq_true_of_le h2] at this
      simp at this
    · rw [show Nat.ble j m = true from Nat.ble_eq_true_of_le h1, show Nat.blt m k = true from Nat.ble_eq_true_of_le h2] at this
      simp at this
  have heq : (stAt rs sf k).H = (stAt rs sf j).H ∧ (stAt rs sf k).nx = (stAt rs sf j).nx := by
    rcases Nat.le_total k j with h | h
    · obtain ⟨h1, h2⟩ := chain (j - k) k (by omega) fun m g1 g2 => no m (by omega) (.inl ⟨g1, by omega⟩)
      rw [show k + (j - k) = j by omega] at h1 h2
      exact ⟨h1.symm, h2.symm⟩
    · obtain ⟨h1, h2⟩ := chain (k - j) j (by omega) fun m g1 g2 => no m (by omega) (.inr ⟨g1, by omega⟩)
      rw [show j + (k - j) = k by omega] at h1 h2
      exact ⟨h1, h2⟩
  have hjl : ops.toList[j]? = some o := by rw [Array.getElem?_toList]; exact ho
  obtain ⟨hrun, _⟩ := hat j o hjl
  rw [Nat.zero_add] at hrun
  unfold stab
  have e : (⟨(stAt rs sf j).t, (stAt rs sf k).H, (stAt rs sf k).nx⟩ : St) = stAt rs sf j := by rw [heq.1, heq.2]
  rw [e, hrun]
  simp only [Bool.and_eq_true, decide_true, true_and]
  refine ⟨?_, hw, ?_⟩
  · rw [List.all_eq_true]
    intro x hx
    simp [hx]
  · rw [List.all_eq_true]
    intro x hx
    exact AV.good_same (hgood x hx)
theorem eqsL_ok {C : Ctx} {ops : Array Oper} {late : List Nat} {s0 sf : St} {rs : List OpRec} (hr : runRec C ops late 0 ops.toList s0 = some (sf, rs)) : ∀ {l : List (Nat × Nat)} {es : List (AV × AV)}, eqsL C ops rs sf l = some es → (∀ p ∈ es, p.1 = p.2) → (∀ p ∈ l, p.2 ≤ ops.size) →
    ∀ p ∈ l, ∀ o, ops[p.1]? = some o → stab C ops p.1 o (stAt rs sf p.1) (stAt rs sf (p.1 + 1)) (stAt rs sf p.2) (rdAt rs p.1) (wrAt rs p.1) = true
  | [], es, h, he, hsz, p, hp => by cases hp
  | q :: l, es, h, he, hsz, p, hp => by
    simp only [eqsL] at h
    cases hb : quietB rs sf q.1 q.2 with
    | true =>
      rw [hb] at h
      have h : eqsL C ops rs sf l = some es := h
      intro o' ho'
      rcases List.mem_cons.1 hp with rfl | hp
      · exact quiet_stab hr (hsz _ List.mem_cons_self) ho' hb
      · exact eqsL_ok hr h he (fun p hp => hsz p (List.mem_cons_of_mem _ hp)) p hp o' ho'
    | false =>
      rw [hb] at h
      simp only [br] at h
      split at h
      · rename_i o ho
        split at h
        · rename_i x hx
          split at h
          · rename_i y hy
            injection h with h
            subst h
            intro o' ho'
            rcases List.mem_cons.1 hp with rfl | hp
            · rw [ho] at ho'; injection ho' with ho'; subst ho'
              exact stabE_ok hx fun z hz => he z (List.mem_append_left _ hz)
            · exact eqsL_ok hr hy (fun z hz => he z (List.mem_append_right _ hz)) (fun p hp => hsz p (List.mem_cons_of_mem _ hp)) p hp o' ho'
          · cases h
        · cases h
      · cases h
theorem needL_le {ops : Array Oper} {rs : List OpRec} : ∀ p ∈ needL ops rs, p.2 ≤ ops.size := fun p hp => by
  unfold needL at hp
  obtain ⟨j, _, hj⟩ := List.mem_flatMap.1 hp
  generalize hc : ((rdAt rs j).contains gs && !(wrAt rs j).contains gs) = c at hj
  cases c with
  | false => cases hj
  | true =>
    rcases List.mem_append.1 hj with h | h
    · generalize hd : ((List.range ops.size).any fun m => (wrAt rs m).contains gs && ((rowsOn ops.toList []).getD j []).getD m false) = d at h
      cases d with
      | true => cases h
      | false => rcases List.mem_singleton.1 h with rfl; exact Nat.zero_le _
    · obtain ⟨m, hm, h⟩ := List.mem_flatMap.1 h
      have hm := List.mem_range.1 hm
      generalize (!(wrAt rs m).contains gs || (((rowsOn ops.toList []).getD m []).getD j false || (List.range ops.size).any (fun m' => (wrAt rs m').contains gs && (((rowsOn ops.toList []).getD j []).getD m' false && decide (m < m'))))) = d at h
      cases d with
      | true => cases h
      | false => rcases List.mem_singleton.1 h with rfl; exact hm
noncomputable def drawT (S : SysP) (e : Evs) (t : EvT) (nt : Nat) (ops : Array Oper) (s : St) (T : TL) : Option (St × TL) :=
  match runD S e t nt (lateOf ops) ops 0 ops.toList s T with
  | some z => br (statB ops z.1.2) (match eqsL (lateC (ctxS S.toSys e nt) (lateOf ops)) ops z.1.2 z.1.1 (needL ops z.1.2) with
    | some es => match (pubS nt (lateOf ops) z.1.1).bind St.flat with
      | some s' => some (s', ⟨z.2.n, z.2.orc, z.2.cs, es ++ z.2.eqs, z.2.lg, z.2.hs⟩)
      | none => none
    | none => none) none
  | none => none
theorem drawT_ok {S : SysP} {e : Evs} {t : EvT} (hP : PbOk S) (hE : EvTOk e t) {nt : Nat} {ops : Array Oper} {s s' : St} {T T' : TL} (h : drawT S e t nt ops s T = some (s', T')) : T.Le T' ∧ (T'.Ok → regS (ctxS S.toSys e nt) ops true s = some s') := by
  unfold drawT at h
  split at h
  · rename_i z hz
    obtain ⟨h1, h⟩ := br_some h
    split at h
    · rename_i es hes
      split at h
      · rename_i s2 hs2
        simp only [Option.some.injEq, Prod.mk.injEq] at h
        obtain ⟨rfl, rfl⟩ := h
        obtain ⟨k1, k2⟩ := runD_ok hP hE (sf := z.1.1) (rs := z.1.2) (T' := z.2) hz
        have hle : z.2.Le ⟨z.2.n, z.2.orc, z.2.cs, es ++ z.2.eqs, z.2.lg, z.2.hs⟩ := ⟨fun _ h => h, fun _ h => List.mem_append_right _ h, fun _ h => h⟩
        refine ⟨k1.trans hle, fun hT => ?_⟩
        have hr := k2 (hle.ok hT)
        have hin := indep_of (C := lateC (ctxS S.toSys e nt) (lateOf ops)) (sf := z.1.1) h1 (eqsL_ok (k2 (hle.ok hT)) hes (fun p hp => hT.eqs p (List.mem_append_left _ hp)) needL_le)
        unfold regS
        rw [if_pos rfl]
        show (match runRec (lateC (ctxS S.toSys e nt) (lateOf ops)) ops (lateOf ops) 0 ops.toList s with | some (sf, rs) => _ | none => none) = _
        rw [hr]
        show (if indepS (lateC (ctxS S.toSys e nt) (lateOf ops)) ops z.1.2 z.1.1 = true then _ else _) = _
        rw [if_pos hin]
        exact hs2
      · cases h
    · cases h
  · cases h
end Go.Proofs.YtmhinddneefmbaaGreat.Pe
