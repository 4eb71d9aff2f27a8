/- A part of the proof of JdH. -/
import Derived.Test.YtmhinddneefmbaaGreatKf25
set_option linter.unusedSimpArgs false
set_option linter.unusedVariables false
set_option linter.unusedSectionVars false
namespace Go.Proofs.YtmhinddneefmbaaGreat.Pe
open Go
def StepQ (C : Ctx) (ops : Array Oper) (k : Nat) (o : Oper) (s s' : St) : Prop := ∃ r u, (grdQ C ops k o).runS s [] [] = some ((), s', r, u) ∧ ∀ x ∈ u, x = gs ∨ (s'.env x).plain = true
def StepY (C : Ctx) (k : Nat) (o : Oper) (s s' : St) : Prop := ∃ r u, (semY C k o).runS s [] [] = some ((), s', r, u) ∧ ∀ x ∈ u, x = gs ∨ (s'.env x).plain = true
noncomputable def run1 (C : Ctx) (ops : Array Oper) (k : Nat) (o : Oper) (s : St) : Option St := Option.rec (motive := fun _ => Option St) (slowF C ops k o s) (fun s' => some s') (fastO C ops o s)
theorem runF_cons1 (C : Ctx) (ops : Array Oper) (k : Nat) (o : Oper) (l : List Oper) (s s' : St) (h : run1 C ops k o s = some s') : runF C ops k (o :: l) s = runF C ops (k + 1) l s' := by
  rw [runF_cons]
  unfold run1 at h
  cases hf : fastO C ops o s with
  | some s1 => rw [hf] at h; injection h with h; rw [h]
  | none => rw [hf] at h; have h : slowF C ops k o s = some s' := h; rw [h]
theorem all_plain {u : List Nat} {s : St} (h : ∀ x ∈ u, x = gs ∨ (s.env x).plain = true) : u.all (fun i => i == gs || (s.env i).plain) = true := by
  rw [List.all_eq_true]
  intro x hx
  rcases h x hx with h | h
  · subst h; simp
  · simp [h]
theorem StepQ.run1 {C : Ctx} (hC : Uni C) {ops : Array Oper} {k : Nat} {o : Oper} {s s' : St} (h : StepQ C ops k o s s') : run1 C ops k o s = some s' := by
  obtain ⟨r, u, h1, h2⟩ := h
  unfold Pe.run1
  cases hf : fastO C ops o s with
  | some s1 =>
    obtain ⟨r', u', k1, _⟩ := fastO_ok (i := k) hC hf
    rw [h1] at k1
    simp only [Option.some.injEq, Prod.mk.injEq] at k1
    rw [k1.2.1]
  | none =>
    show slowF C ops k o s = some s'
    unfold slowF
    rw [h1]
    simp only [all_plain h2, br]
theorem run1_step {C : Ctx} (hC : Uni C) {ops : Array Oper} {k : Nat} {o : Oper} {s s' : St} (h : run1 C ops k o s = some s') : StepQ C ops k o s s' := by
  unfold run1 at h
  cases hf : fastO C ops o s with
  | some s1 =>
    rw [hf] at h; injection h with h; subst h
    exact fastO_ok (i := k) hC hf
  | none =>
    rw [hf] at h
    have h : slowF C ops k o s = some s' := h
    unfold slowF at h
    split at h
    · rename_i s2 r u hq
      obtain ⟨h1, h2⟩ := br_some h
      injection h2 with h2; subst h2
      refine ⟨r, u, hq, fun x hx => ?_⟩
      have := List.all_eq_true.1 h1 x hx
      simpa using this
    · cases h
noncomputable def fallU (C : Ctx) (k : Nat) (o : Oper) (s : St) : Option St := match fastU C o s with
  | some s' => some s'
  | none => match (semY C k o).runS s [] [] with
    | some (_, s', _, u) => br (u.all (fun i => i == gs || (s'.env i).plain)) (some s') none
    | none => none
theorem fallU_ok {C : Ctx} (hC : Uni C) {k : Nat} {o : Oper} {s s' : St} (h : fallU C k o s = some s') : StepY C k o s s' := by
  unfold fallU at h
  split at h
  · rename_i s1 hf
    injection h with h; subst h
    exact fastU_ok (i := k) hC hf
  · split at h
    · rename_i s2 r u hq
      obtain ⟨h1, h2⟩ := br_some h
      injection h2 with h2; subst h2
      refine ⟨r, u, hq, fun x hx => ?_⟩
      have := List.all_eq_true.1 h1 x hx
      simpa using this
    · cases h
theorem StepY.of_R {C : Ctx} {k d : Nat} {o : Oper} {s s' : St} (h : R d (semY C k o) s () s') (hv : (s'.env d).plain = true) : StepY C k o s s' := by
  obtain ⟨r, u, h1, h2⟩ := h [] []
  refine ⟨r, u, h1, fun x hx => ?_⟩
  rcases h2 x hx with h | h | h
  · cases h
  · exact .inl h
  · subst h; exact .inr hv
theorem StepY.grd {C : Ctx} {ops : Array Oper} {k : Nat} {o : Oper} {s s' : St} {j t : Nat} {want : Bool} (h : StepY C k o s s') (hg : o.guard = some (j, want)) (ht : (ops[j]?).bind (·.dst) = some t) (hb : avF s t = some (.v (.one (.bool want)))) : StepQ C ops k o s s' := by
  obtain ⟨r, u, k1, k2⟩ := h
  obtain ⟨r', u', hb1, hb2⟩ := (Q.runS_any k1 [t] [])
  have hb2 := hb2 rfl
  refine ⟨r', u', ?_, fun x hx => k2 x (hb2 ▸ hx)⟩
  unfold grdQ
  rw [hg]
  simp only [ht]
  show ((match s.env t with | .v (.one (.bool b)) => if b = want then semY C k o else skipQ C o | .tup [] => skipQ C o | _ => .fail)).runS s [t] [] = _
  rw [avF_env hb]
  simp only [if_true]
  exact hb1
theorem StepY.step {C : Ctx} {ops : Array Oper} {k : Nat} {o : Oper} {s s' : St} (h : StepY C k o s s') (hg : o.guard = none) : StepQ C ops k o s s' := by
  unfold StepQ grdQ
  rw [hg]
  exact h
theorem StepY.of_Rgs {C : Ctx} {k : Nat} {o : Oper} {s s' : St} (h : R gs (semY C k o) s () s') : StepY C k o s s' := by
  obtain ⟨r, u, h1, h2⟩ := h [] []
  refine ⟨r, u, h1, fun x hx => ?_⟩
  rcases h2 x hx with h | h | h
  · cases h
  · exact .inl h
  · exact .inl h
theorem semY_of_builtin {C : Ctx} {i : Nat} {o : Oper} {c : Call} {b : Builtin} (hc : o.op = .call c) (h : c.callee = .builtin b) : semY C i o = semOp C i o := by
  unfold semY
  rw [hc]
  simp only [h]
noncomputable def TL.row (T : TL) (d : Nat) : Option (List D) := match T.hd with
  | some (.row d' r) => br (Nat.beq d' d) (some r) none
  | _ => none
noncomputable def TL.len (T : TL) (d : Nat) : Option Nat := match T.hd with
  | some (.len d' k) => br (Nat.beq d' d) (some k) none
  | _ => none
noncomputable def TL.fnd (T : TL) (d : Nat) : Option (Option (Nat × D)) := match T.hd with
  | some (.fnd d' x) => br (Nat.beq d' d) (some x) none
  | _ => none
noncomputable def TL.num (T : TL) : Bool := match T.hd with
  | some (.i _) => true
  | _ => false
theorem need_same {l : List Bool} {m : List (AV × AV)} {T : TL} (h : ((T.need l).same m).Ok) : (∀ c ∈ l, c = true) ∧ (∀ p ∈ m, p.1 = p.2) := ⟨TL.need_ok ((TL.same_le m _).ok h), TL.same_ok h⟩
theorem need_same_le (l : List Bool) (m : List (AV × AV)) (T : TL) : T.Le ((T.tl.need l).same m) := (TL.tl_le T).trans ((TL.need_le l _).trans (TL.same_le m _))
noncomputable def natF (s : St) (x : Operand) : Option Nat := match rdF s x with
  | some (.one (.int _ (.ofNat n))) => some n
  | _ => none
theorem natF_some {s : St} {x : Operand} {n : Nat} (h : natF s x = some n) : ∃ k, rdF s x = some (.one (.int k (.ofNat n))) := by
  unfold natF at h
  split at h
  · rename_i k m hx
    injection h with h; subst h
    exact ⟨k, hx⟩
  · cases h
noncomputable def idxT (C : Ctx) (ty : Nat) (x ix : Operand) (d : Nat) (s : St) (T : TL) : Option (AV × TL) := match (C.tt ty).k with
  | .sl _ esz _ _ => match x with
    | .tmp t => match natF s ix with
      | some n => match avF s t with
        | some (.v (.one (.ref o sz i len))) => some (.v (.one (.ptr o sz (i + n) 0)), T.need [Nat.blt n len, Nat.beq sz esz])
        | some (.v (.one (.sl rows))) => match T.row d with
          | some r => some (.imm rows n 0, (T.tl.need [Nat.beq r.length esz]).same [(encR rows[n]?, encR (some r))])
          | none => none
        | _ => none
      | none => none
    | _ => none
  | _ => none
noncomputable def cellsO (C : Ctx) (t : Nat) (r : List D) (off : Nat) : Option AV := match sub r off (C.tt t).size with
  | some cs => br (C.tt t).k.agg (some (.v (.many cs))) (oneD cs)
  | none => none
noncomputable def loadH (C : Ctx) (t : Nat) (x : Operand) (r : List D) (s : St) (T : TL) : Option (AV × TL) := match x with
  | .tmp j => match avF s j with
    | some (.v (.one (.ptr o sz i off))) => match s.H o with
      | some ob => match cellsO C t r off with
        | some v => some (v, (T.tl.need [Nat.beq ob.esz sz]).same [(encR (ob.row i), encR (some r))])
        | none => none
      | none => none
    | some (.imm rows i off) => match cellsO C t r off with
      | some v => some (v, (T.tl.need []).same [(encR rows[i]?, encR (some r))])
      | none => none
    | _ => none
  | _ => none
noncomputable def lonF (s : St) (x : Option Operand) (n : Nat) : Option Nat := match x with
  | none => some n
  | some x => natF s x
noncomputable def slcH (C : Ctx) (ty : Nat) (x : Operand) (lo hi : Option Operand) (k : Nat) (s : St) (T : TL) : Option (AV × TL) := match rdF s x with
  | some (.one (.ref o sz i n)) => match (C.tt ty).k with
    | .sl _ esz _ _ => match lonF s lo 0 with
      | some l => match lonF s hi n with
        | some h => some (.v (.one (.ref o sz (i + l) k)), T.tl.need [Nat.beq sz esz, Nat.blt l h, Nat.ble h n, Nat.beq (Nat.sub h l) k])
        | none => none
      | none => none
    | _ => none
  | _ => none
noncomputable def fndV (ok : Bool) (vz : D) (f : Option (Nat × D)) : AV := match f with
  | some q => br ok (.tup [.one q.2, .one (.bool true)]) (.v (.one q.2))
  | none => br ok (.tup [.one vz, .one (.bool false)]) (.v (.one vz))
noncomputable def lookH (C : Ctx) (t : Nat) (x ix : Operand) (ok : Bool) (f : Option (Nat × D)) (s : St) (T : TL) : Option (AV × TL) := match rdF s x with
  | some (.one (.mp o)) => match rdF s ix with
    | some (.one k) => match (C.tt t).k with
      | .mp kk vz => match s.H o with
        | some ob => some (fndV ok vz f, (T.tl.need [keyOk kk k, Nat.beq ob.sz 0, notLoop ob.rows]).same [(encF (mapFind k ob.rows 0), encF (some f))])
        | none => none
      | _ => none
    | _ => none
  | _ => none
noncomputable def fndR (rows : List (List D)) (k v : D) (f : Option (Nat × D)) : List (List D) := match f with
  | some q => rows.set q.1 [k, v]
  | none => rows ++ [[k, v]]
noncomputable def updH (C : Ctx) (t : Nat) (x ix y : Operand) (f : Option (Nat × D)) (s : St) (T : TL) : Option (St × TL) := match rdF s x with
  | some (.one (.mp o)) => match rdF s ix with
    | some (.one k) => match rdF s y with
      | some (.one v) => match (C.tt t).k with
        | .mp kk _ => match s.H o with
          | some ob => some (⟨s.t, updO s.H o (some ⟨none, 0, fndR ob.rows k v f⟩), s.nx⟩, (T.tl.need [keyOk kk k, Nat.beq ob.sz 0, notLoop ob.rows]).same [(encF (mapFind k ob.rows 0), encF (some f))])
          | none => none
        | _ => none
      | _ => none
    | _ => none
  | _ => none
noncomputable def putH (ob : PObj) (i : Nat) (r : List D) : Option (PObj × List Bool) := match ob with
  | ⟨e, 0, [[.bts t n]]⟩ => match r with
    | [.int .u8 (.ofNat v)] => some (⟨e, 0, [[.bts (t.set (some v) 30 i) n]]⟩, [Nat.blt i 1000000000])
    | _ => none
  | ob => some (⟨ob.e, ob.sz, ob.rows.set i r⟩, [])
theorem putH_ok {ob ob' : PObj} {i : Nat} {r : List D} {cs : List Bool} (h : putH ob i r = some (ob', cs)) (hc : ∀ c ∈ cs, c = true) : ob.put i r = some ob' := by
  unfold putH at h
  split at h
  · rename_i e t n
    split at h
    · rename_i v
      simp only [Option.some.injEq, Prod.mk.injEq] at h
      obtain ⟨rfl, rfl⟩ := h
      have h1 := hc _ List.mem_cons_self
      show Bool.rec (motive := fun _ => Option PObj) none (some ⟨e, 0, [[.bts (t.set (some v) 30 i) n]]⟩) (Nat.blt i 1000000000) = _
      rw [h1]
    · cases h
  · rename_i hne
    simp only [Option.some.injEq, Prod.mk.injEq] at h
    obtain ⟨rfl, rfl⟩ := h
    rcases esz_cases ob with ⟨e, t, n, rfl⟩ | ⟨_, _, _, h4⟩
    · exact absurd rfl (hne e t n)
    · exact h4 i r
noncomputable def storeH (C : Ctx) (t : Nat) (x y : Operand) (r : List D) (s : St) (T : TL) : Option (St × TL) := match rdF s y with
  | some a => match ptrF s x with
    | some p => match s.H p.1 with
      | some ob => match putH ob p.2.2.1 (splice r p.2.2.2 a.cells) with
        | some q => some (⟨s.t, updO s.H p.1 (some q.1), s.nx⟩, (T.tl.need ([Nat.beq a.cells.length (C.tt t).size, Nat.blt 0 (C.tt t).size, Nat.beq ob.esz p.2.1, Nat.ble (p.2.2.2 + a.cells.length) r.length] ++ q.2)).same [(encR (ob.row p.2.2.1), encR (some r))])
        | none => none
      | none => none
    | none => none
  | none => none
noncomputable def rowsF (s : St) (a : AD) : Option (List (List D)) := match a.weak with
  | .one (.sl rows) => some rows
  | .one (.ref o sz i n) => match s.H o with
    | some ob => br (and (Nat.beq ob.sz sz) (Nat.ble (i + n) ob.rows.length)) (some ((ob.rows.drop i).take n)) none
    | none => none
  | _ => none
noncomputable def isE (x : Option Nat) (e : Nat) : Bool := match x with
  | some y => Nat.beq y e
  | none => false
noncomputable def appT (C : Ctx) (d : Nat) (c : Call) (s : St) (T : TL) : Option (St × TL) := match c.args.toList with
  | [.tmp x, y] => match c.argTypes.toList with
    | [t, t'] => br (Nat.beq t t') (match avF s x with
      | some (.v (.one (.ref o sz i n))) => match rdF s y with
        | some b => match rowsF s b with
          | some (y0 :: ys) => match (C.tt t).k with
            | .sl e esz eb _ => match s.H o with
              | some ob => some (putF ⟨s.t, updO (updO s.H o none) s.nx (some ⟨some e, esz, ob.rows ++ (y0 :: ys)⟩), s.nx + 1⟩ d (.v (.one (.ref s.nx esz 0 (n + (y0 :: ys).length)))),
                  T.need [(y0 :: ys).all (fun r => Nat.beq r.length esz), Nat.blt 0 esz, isE ob.e e, Nat.beq ob.sz esz, Nat.beq sz esz, Nat.beq i 0, Nat.beq n ob.rows.length, Nat.ble (Nat.mul (n + (y0 :: ys).length) (eb + 1)) 140737488355328])
              | none => none
            | _ => none
          | _ => none
        | none => none
      | _ => none) none
    | _ => none
  | _ => none
noncomputable def mkT (C : Ctx) (d t : Nat) (l c : Operand) (s : St) (T : TL) : Option (St × TL) := match natF s l with
  | some n => match natF s c with
    | some m => match (C.tt t).k with
      | .sl e esz eb ez => some (putF ⟨s.t, updO s.H s.nx (some ⟨some e, esz, List.replicate n ez⟩), s.nx + 1⟩ d (.v (.one (.ref s.nx esz 0 n))),
          T.tl.need [Nat.beq n m, Nat.blt 0 n, Nat.blt 0 esz, Nat.beq ez.length esz, Nat.ble (Nat.mul n (eb + 1)) 140737488355328])
      | _ => none
    | none => none
  | none => none
section
variable {C : Ctx} (hC : Uni C) {i d : Nat} {o : Oper} {s s' : St} {T T' : TL}
theorem addr_imm {j k off : Nat} {rows : List (List D)} (h : avF s j = some (.imm rows k off)) : R d (addr (.tmp j)) s (.imm rows k off) s := by
  refine R.ask ?_
  rw [avF_env h]
  exact R.ret
theorem addr_obj {j ob sz k off : Nat} (h : avF s j = some (.v (.one (.ptr ob sz k off)))) : R d (addr (.tmp j)) s (.obj ob sz k off) s := by
  refine R.ask ?_
  rw [avF_env h]
  exact R.ret
theorem cellsO_ok {t : Nat} {r : List D} {off : Nat} {v : AV} (hd : Nat.blt d 1000000 = true) (h : cellsO C t r off = some v) : v.plain = true ∧ ∃ cs, sub r off (C.tt t).size = some cs ∧ R d (if (C.tt t).k.agg then Q.set d (.v (.many cs)) (.ret ()) else match cs with
      | [c] => .set d (.v (.one c)) (.ret ())
      | _ => .fail) s () (putF s d v) := by
  unfold cellsO at h
  split at h
  · rename_i cs hcs
    cases hag : (C.tt t).k.agg with
    | true =>
      rw [hag] at h
      injection (show some (AV.v (.many cs)) = some v from h) with h
      subst h
      refine ⟨rfl, cs, hcs, ?_⟩
      rw [if_pos rfl]
      exact R.put hd R.ret
    | false =>
      rw [hag] at h
      have h : oneD cs = some v := h
      unfold oneD at h
      split at h
      · injection h with h
        subst h
        refine ⟨rfl, _, hcs, ?_⟩
        rw [if_neg (by simp)]
        exact R.put hd R.ret
      · cases h
  · cases h
theorem lonF_ok {x : Option Operand} {n m : Nat} (h : lonF s x n = some m) : ∃ z : Option Int, R d (optInt x) s z s ∧ z.getD (n : Int) = (m : Int) := by
  unfold lonF at h
  split at h
  · injection h with h; subst h
    exact ⟨none, R.ret, rfl⟩
  · rename_i x
    obtain ⟨k, hk⟩ := natF_some h
    exact ⟨some (Int.ofNat m), (rdF_ok hk).bind (R.bind (R.opt (a := (k, Int.ofNat m)) rfl) R.ret), rfl⟩
include hC
section
variable (ho : o.dst = some d) (hn : d < C.nt) (hd : Nat.blt d 1000000 = true)
include ho hn hd
theorem idxT_ok {ty : Nat} {x ix : Operand} {v : AV} (hop : o.op = .indexAddr ty x ix) (h : idxT C ty x ix d s T = some (v, T')) : T.Le T' ∧ (T'.Ok → StepY C i o s (putF s d v)) := by
  unfold idxT at h
  split at h
  rotate_left
  · cases h
  rename_i e esz eb ez hk
  split at h
  rotate_left
  · cases h
  rename_i t
  split at h
  rotate_left
  · cases h
  rename_i n hix
  obtain ⟨kk, hix⟩ := natF_some hix
  have fin : ∀ v : AV, v.plain = true → R d (indexAddrQ C d ty (.tmp t) ix) s () (putF s d v) → StepY C i o s (putF s d v) := fun v hv hr => by
    refine .of_R (d := d) ?_ (by rw [putF_at hd]; exact hv)
    rw [semY_of (by rw [hop]; simp)]
    refine op_put hC ho hn hd (by rw [hop]; intros; simp) hv ?_
    unfold semOp1; rw [hop]; simp only [semOp0, hop, dstQ, ho, if_pos hn]
    exact hr
  split at h
  · rename_i ob sz j len hav
    simp only [Option.some.injEq, Prod.mk.injEq] at h
    obtain ⟨rfl, rfl⟩ := h
    refine ⟨TL.need_le _ _, fun hT => fin _ rfl ?_⟩
    have hc := TL.need_ok hT
    have h1 : n < len := blt_lt (hc _ List.mem_cons_self)
    have h2 : sz = esz := Nat.eq_of_beq_eq_true (hc _ (List.mem_cons_of_mem _ List.mem_cons_self))
    unfold indexAddrQ
    refine (rdF_ok hix).bind (R.bind (R.opt (a := (kk, Int.ofNat n)) rfl) ?_)
    rw [hk]
    refine R.ask ?_
    rw [avF_env hav]
    simp only
    rw [if_pos ⟨Int.natCast_nonneg n, Int.ofNat_lt.2 h1, h2⟩]
    exact R.put hd R.ret
  · rename_i rows hav
    split at h
    · rename_i r hr
      simp only [Option.some.injEq, Prod.mk.injEq] at h
      obtain ⟨rfl, rfl⟩ := h
      refine ⟨need_same_le _ _ _, fun hT => fin _ rfl ?_⟩
      obtain ⟨hc, he⟩ := need_same hT
      have h1 : r.length = esz := Nat.eq_of_beq_eq_true (hc _ List.mem_cons_self)
      have h2 : rows[n]? = some r := encR_some (he _ List.mem_cons_self)
      have h3 : n < rows.length := (List.getElem?_eq_some_iff.1 h2).1
      unfold indexAddrQ
      refine (rdF_ok hix).bind (R.bind (R.opt (a := (kk, Int.ofNat n)) rfl) ?_)
      rw [hk]
      refine R.ask ?_
      rw [avF_env hav]
      simp only
      rw [if_pos ⟨Int.natCast_nonneg n, Int.ofNat_lt.2 h3⟩]
      refine R.bind (R.opt (a := r) h2) ?_
      rw [if_pos h1]
      exact R.put hd R.ret
    · cases h
  · cases h
theorem loadH_ok {t : Nat} {x : Operand} {r : List D} {v : AV} (hop : o.op = .load t x) (h : loadH C t x r s T = some (v, T')) : T.Le T' ∧ (T'.Ok → StepY C i o s (putF s d v)) := by
  have fin : ∀ v : AV, v.plain = true → R d (loadQ C d t x) s () (putF s d v) → StepY C i o s (putF s d v) := fun v hv hr => by
    refine .of_R (d := d) ?_ (by rw [putF_at hd]; exact hv)
    rw [semY_of (by rw [hop]; simp)]
    refine op_put hC ho hn hd (by rw [hop]; intros; simp) hv ?_
    unfold semOp1; rw [hop]; simp only [semOp0, hop, dstQ, ho, if_pos hn]
    exact hr
  unfold loadH at h
  split at h
  rotate_left
  · cases h
  rename_i j
  split at h
  · rename_i ob sz k off hav
    split at h
    rotate_left
    · cases h
    rename_i b hb
    split at h
    rotate_left
    · cases h
    rename_i v' hv'
    simp only [Option.some.injEq, Prod.mk.injEq] at h
    obtain ⟨rfl, rfl⟩ := h
    obtain ⟨hpl, cs, hcs, hR⟩ := cellsO_ok (s := s) hd hv'
    refine ⟨need_same_le _ _ _, fun hT => fin _ hpl ?_⟩
    obtain ⟨hc, he⟩ := need_same hT
    have h1 : b.esz = sz := Nat.eq_of_beq_eq_true (hc _ List.mem_cons_self)
    have h2 : b.row k = some r := encR_some (he _ List.mem_cons_self)
    unfold loadQ
    refine (addr_obj hav).bind ?_
    refine R.bind (a := cs) (s1 := s) ?_ hR
    refine R.heap ?_
    simp only
    refine R.bind (R.opt hb) ?_
    rw [if_pos h1]
    exact R.bind (R.opt h2) (R.opt hcs)
  · rename_i rows k off hav
    split at h
    rotate_left
    · cases h
    rename_i v' hv'
    simp only [Option.some.injEq, Prod.mk.injEq] at h
    obtain ⟨rfl, rfl⟩ := h
    obtain ⟨hpl, cs, hcs, hR⟩ := cellsO_ok (s := s) hd hv'
    refine ⟨need_same_le _ _ _, fun hT => fin _ hpl ?_⟩
    obtain ⟨hc, he⟩ := need_same hT
    have h2 : rows[k]? = some r := encR_some (he _ List.mem_cons_self)
    unfold loadQ
    refine (addr_imm hav).bind ?_
    refine R.bind (a := cs) (s1 := s) ?_ hR
    exact R.bind (R.opt h2) (R.opt hcs)
  · cases h
theorem slcH_ok {ty k : Nat} {x : Operand} {lo hi : Option Operand} {v : AV} (hop : o.op = .slice ty x lo hi none) (h : slcH C ty x lo hi k s T = some (v, T')) : T.Le T' ∧ (T'.Ok → StepY C i o s (putF s d v)) := by
  unfold slcH at h
  split at h
  rotate_left
  · cases h
  rename_i ob sz j n hx
  split at h
  rotate_left
  · cases h
  rename_i e esz eb ez hk
  split at h
  rotate_left
  · cases h
  rename_i l hl
  split at h
  rotate_left
  · cases h
  rename_i m hm
  simp only [Option.some.injEq, Prod.mk.injEq] at h
  obtain ⟨rfl, rfl⟩ := h
  refine ⟨(TL.tl_le T).trans (TL.need_le _ _), fun hT => ?_⟩
  have hc := TL.need_ok hT
  have h1 : sz = esz := Nat.eq_of_beq_eq_true (hc _ List.mem_cons_self)
  have h2 : l < m := blt_lt (hc _ (List.mem_cons_of_mem _ List.mem_cons_self))
  have h3 : m ≤ n := Nat.le_of_ble_eq_true (hc _ (List.mem_cons_of_mem _ (List.mem_cons_of_mem _ List.mem_cons_self)))
  have h4 : m - l = k := Nat.eq_of_beq_eq_true (hc _ (List.mem_cons_of_mem _ (List.mem_cons_of_mem _ (List.mem_cons_of_mem _ List.mem_cons_self))))
  refine .of_R (d := d) ?_ (by rw [putF_at hd]; rfl)
  rw [semY_of (by rw [hop]; simp)]
  refine op_put hC ho hn hd (by rw [hop]; intros; simp) rfl ?_
  unfold semOp1; rw [hop]; simp only [semOp0, hop, dstQ, ho, if_pos hn, Option.isNone_none, if_true]
  unfold sliceQ
  obtain ⟨zl, rl, el⟩ := lonF_ok (d := d) hl
  obtain ⟨zm, rm, em⟩ := lonF_ok (d := d) hm
  refine (rdF_ok hx).bind (R.bind rl (R.bind rm ?_))
  simp only [hk]
  have el : zl.getD 0 = (l : Int) := el
  rw [el, em]
  rw [if_pos ⟨h1, by omega, .inl (by omega), by omega⟩, if_pos (.inl (by omega))]
  have e5 : ((m : Int)).toNat - ((l : Int)).toNat = k := by simpa using h4
  rw [e5]
  exact R.put hd R.ret
theorem lookH_ok {t : Nat} {x ix : Operand} {ok : Bool} {f : Option (Nat × D)} {v : AV} (hop : o.op = .lookup t x ix ok) (h : lookH C t x ix ok f s T = some (v, T')) : T.Le T' ∧ (T'.Ok → StepY C i o s (putF s d v)) := by
  unfold lookH at h
  split at h
  rotate_left
  · cases h
  rename_i m hx
  split at h
  rotate_left
  · cases h
  rename_i k hix
  split at h
  rotate_left
  · cases h
  rename_i kk vz hk
  split at h
  rotate_left
  · cases h
  rename_i ob hob
  simp only [Option.some.injEq, Prod.mk.injEq] at h
  obtain ⟨rfl, rfl⟩ := h
  refine ⟨need_same_le _ _ _, fun hT => ?_⟩
  obtain ⟨hc, he⟩ := need_same hT
  have h1 := hc _ List.mem_cons_self
  have h2 : ob.sz = 0 := Nat.eq_of_beq_eq_true (hc _ (List.mem_cons_of_mem _ List.mem_cons_self))
  have h3 := hc _ (List.mem_cons_of_mem _ (List.mem_cons_of_mem _ List.mem_cons_self))
  have h4 : mapFind k ob.rows 0 = some f := encF_some (he _ List.mem_cons_self)
  have hv : (fndV ok vz f).plain = true := by
    unfold fndV
    cases f <;> cases ok <;> rfl
  refine .of_R (d := d) ?_ (by rw [putF_at hd]; exact hv)
  rw [semY_of (by rw [hop]; simp)]
  refine op_put hC ho hn hd (by rw [hop]; intros; simp) hv ?_
  unfold semOp1; rw [hop]; simp only [dstQ, ho, if_pos hn]
  unfold lookupQ
  refine (rdF_ok hx).bind ((rdF_ok hix).bind ?_)
  simp only [hk]
  rw [if_pos h1]
  refine R.bind (a := (s.H, s.nx, ob.rows)) (s1 := s) ?_ (R.bind (R.opt h4) ?_)
  · refine R.heap ?_
    simp only
    refine R.bind (R.opt hob) ?_
    rw [if_pos ⟨h2, h3⟩]
    exact R.ret
  · cases f with
    | none => cases ok <;> exact R.put hd R.ret
    | some q => cases ok <;> exact R.put hd R.ret
theorem appT_ok {c : Call} (hop : o.op = .call c) (hcl : c.callee = .builtin .append) (h : appT C d c s T = some (s', T')) : T.Le T' ∧ (T'.Ok → StepY C i o s s') := by
  unfold appT at h
  split at h
  rotate_left
  · cases h
  rename_i x y hargs
  split at h
  rotate_left
  · cases h
  rename_i t t' htys
  obtain ⟨htt, h2⟩ := br_some h
  clear h
  have htt := Nat.eq_of_beq_eq_true htt
  subst htt
  have h := h2
  clear h2
  split at h
  rotate_left
  · cases h
  rename_i o1 sz j n hav
  split at h
  rotate_left
  · cases h
  rename_i b hy
  split at h
  rotate_left
  · cases h
  rename_i y0 ys hrows
  split at h
  rotate_left
  · cases h
  rename_i e esz eb ez hk
  split at h
  rotate_left
  · cases h
  rename_i ob hob
  simp only [Option.some.injEq, Prod.mk.injEq] at h
  obtain ⟨rfl, rfl⟩ := h
  refine ⟨TL.need_le _ _, fun hT => ?_⟩
  have hc := TL.need_ok hT
  simp only [List.mem_cons, List.not_mem_nil, or_false, forall_eq_or_imp, forall_eq] at hc
  obtain ⟨c1, c2, c3, c4, c5, c6, c7, c8⟩ := hc
  have c1 : ∀ r ∈ y0 :: ys, r.length = esz := fun r hr => Nat.eq_of_beq_eq_true (List.all_eq_true.1 c1 r hr)
  have c2 : 0 < esz := blt_lt c2
  have c3 : ob.e = some e := by
    unfold isE at c3
    split at c3
    · rename_i z hz; rw [hz, Nat.eq_of_beq_eq_true c3]
    · cases c3
  have c4 : ob.sz = esz := Nat.eq_of_beq_eq_true c4
  have c5 : sz = esz := Nat.eq_of_beq_eq_true c5
  have c6 : j = 0 := Nat.eq_of_beq_eq_true c6
  have c7 : n = ob.rows.length := Nat.eq_of_beq_eq_true c7
  have c8 : (n + (y0 :: ys).length) * (eb + 1) ≤ 140737488355328 := Nat.le_of_ble_eq_true c8
  refine .of_R (d := d) ?_ (by rw [putF_at hd]; rfl)
  rw [semY_of_builtin hop hcl]
  refine of_semOp1 hC ho (by rw [hop]; intros; simp) ?_ (by rw [putF_at hd]; rfl)
  unfold semOp1; rw [hop]
  simp only [hcl, dstQ, ho, if_pos hn, hargs, htys]
  refine R.ask ?_
  rw [avF_env hav]
  simp only [if_true]
  unfold appendRefQ
  refine (rdF_ok hy).bind (R.bind (a := y0 :: ys) (s1 := s) ?_ ?_)
  · unfold rowsF at hrows
    unfold rowsOf
    split at hrows
    · rename_i rows hw
      rw [hw]
      injection hrows with hrows
      rw [hrows]
      exact R.ret
    · rename_i o2 sz2 i2 n2 hw
      rw [hw]
      split at hrows
      · rename_i ob2 hob2
        obtain ⟨g1, g2⟩ := br_some hrows
        have g1 : Nat.beq ob2.sz sz2 = true ∧ Nat.ble (i2 + n2) ob2.rows.length = true := by simpa using g1
        injection g2 with g2
        refine R.heap ?_
        simp only
        refine R.bind (R.opt hob2) ?_
        rw [if_pos ⟨Nat.eq_of_beq_eq_true g1.1, Nat.le_of_ble_eq_true g1.2⟩, g2]
        exact R.ret
      · cases hrows
    · cases hrows
  · simp only [hk]
    rw [if_pos ⟨by rw [List.all_eq_true]; intro r hr; simpa using c1 r hr, c2⟩]
    have g0 : R d (opd (.tmp x)) s (.one (.ref o1 sz j n)) s := by
      refine R.ask ?_
      rw [avF_env hav]
      exact R.ret
    refine g0.bind ?_
    simp only
    rw [if_neg (by simp)]
    refine R.heap ?_
    simp only
    refine R.bind (R.opt hob) ?_
    rw [if_pos ⟨c3, c4, c5, c6, c7, by simp only [List.length_cons]; omega, c8⟩]
    exact R.putH (R.put hd R.ret)
end
theorem mkT_ok {t : Nat} {l c : Operand} (ho : o.dst = some d) (hn : d < C.nt) (hd : Nat.blt d 1000000 = true) (hop : o.op = .makeSlice t l c) (h : mkT C d t l c s T = some (s', T')) : T.Le T' ∧ (T'.Ok → StepY C i o s s') := by
  unfold mkT at h
  split at h
  rotate_left
  · cases h
  rename_i n hl
  split at h
  rotate_left
  · cases h
  rename_i m hm
  split at h
  rotate_left
  · cases h
  rename_i e esz eb ez hk
  simp only [Option.some.injEq, Prod.mk.injEq] at h
  obtain ⟨rfl, rfl⟩ := h
  refine ⟨(TL.tl_le T).trans (TL.need_le _ _), fun hT => ?_⟩
  have hc := TL.need_ok hT
  simp only [List.mem_cons, List.not_mem_nil, or_false, forall_eq_or_imp, forall_eq] at hc
  obtain ⟨c1, c2, c3, c4, c5⟩ := hc
  have c1 : n = m := Nat.eq_of_beq_eq_true c1
  subst c1
  have c2 : 0 < n := blt_lt c2
  have c3 : 0 < esz := blt_lt c3
  have c4 : ez.length = esz := Nat.eq_of_beq_eq_true c4
  have c5 : n * (eb + 1) ≤ 140737488355328 := Nat.le_of_ble_eq_true c5
  obtain ⟨k1, hl⟩ := natF_some hl
  obtain ⟨k2, hm⟩ := natF_some hm
  have hne : List.replicate n ez ≠ [] := fun e => by
    have := congrArg List.length e
    simp at this
    omega
  have h1 : R d (semOp1 C i o) s () (putF s d (.own (i + 1) e esz (List.replicate n ez))) := by
    unfold semOp1; rw [hop]; simp only [semOp0, hop, dstQ, ho, if_pos hn]
    refine (rdF_ok hl).bind ((rdF_ok hm).bind (R.bind (R.opt (a := (k1, Int.ofNat n)) rfl) (R.bind (R.opt (a := (k2, Int.ofNat n)) rfl) ?_)))
    rw [hk]
    simp only
    rw [if_pos ⟨c3, c4, trivial, Int.natCast_nonneg n, c5⟩]
    exact R.put hd R.ret
  refine .of_R (d := d) ?_ (by rw [putF_at hd]; rfl)
  rw [semY_of (by rw [hop]; simp)]
  unfold semOp
  have hpre : preQ C o.op = .ret () := by rw [hop]; rfl
  rw [hpre]
  refine R.bind R.ret (R.bind h1 ?_)
  rw [ho]
  simp only
  rw [if_pos ⟨hC.pub d, hn⟩]
  have e2 : putF (⟨(putF s d (.own (i + 1) e esz (List.replicate n ez))).t, updO s.H s.nx (some ⟨some e, esz, List.replicate n ez⟩), s.nx + 1⟩ : St) d (.v (.one (.ref s.nx esz 0 (List.replicate n ez).length))) = putF ⟨s.t, updO s.H s.nx (some ⟨some e, esz, List.replicate n ez⟩), s.nx + 1⟩ d (.v (.one (.ref s.nx esz 0 n))) := by
    rw [List.length_replicate]
    show (⟨(s.t.set _ 30 d).set _ 30 d, _, _⟩ : St) = ⟨s.t.set _ 30 d, _, _⟩
    rw [Tr.set_set _ _ _ _ _ (by have : d < 1000000 := Nat.le_of_ble_eq_true hd; omega)]
  refine R.bind (a := ()) (s1 := putF ⟨s.t, updO s.H s.nx (some ⟨some e, esz, List.replicate n ez⟩), s.nx + 1⟩ d (.v (.one (.ref s.nx esz 0 n)))) (R.ask ?_) ?_
  · rw [putF_at hd]
    simp only
    rw [if_neg hne]
    refine R.heap ?_
    simp only
    refine R.putH (R.put hd ?_)
    rw [← e2]
    exact R.ret
  · rw [if_pos hC.uni]
    refine R.ask ?_
    rw [putF_at hd]
    exact R.ret
omit hC in
theorem updH_ok {t : Nat} {x ix y : Operand} {f : Option (Nat × D)} (ho : o.dst = none) (hop : o.op = .mapUpdate t x ix y ∨ o.op = .insert t x ix y) (h : updH C t x ix y f s T = some (s', T')) : T.Le T' ∧ (T'.Ok → StepY C i o s s') := by
  unfold updH at h
  split at h
  rotate_left
  · cases h
  rename_i m hx
  split at h
  rotate_left
  · cases h
  rename_i k hix
  split at h
  rotate_left
  · cases h
  rename_i v hy
  split at h
  rotate_left
  · cases h
  rename_i kk vz hk
  split at h
  rotate_left
  · cases h
  rename_i ob hob
  simp only [Option.some.injEq, Prod.mk.injEq] at h
  obtain ⟨rfl, rfl⟩ := h
  refine ⟨need_same_le _ _ _, fun hT => ?_⟩
  obtain ⟨hc, he⟩ := need_same hT
  have h1 := hc _ List.mem_cons_self
  have h2 : ob.sz = 0 := Nat.eq_of_beq_eq_true (hc _ (List.mem_cons_of_mem _ List.mem_cons_self))
  have h3 := hc _ (List.mem_cons_of_mem _ (List.mem_cons_of_mem _ List.mem_cons_self))
  have h4 : mapFind k ob.rows 0 = some f := encF_some (he _ List.mem_cons_self)
  have key : R gs (updateQ C t x ix y) s () ⟨s.t, updO s.H m (some ⟨none, 0, fndR ob.rows k v f⟩), s.nx⟩ := by
    unfold updateQ
    refine (rdF_ok hx).bind ((rdF_ok hix).bind ((rdF_ok hy).bind ?_))
    simp only [hk]
    rw [if_pos h1]
    refine R.bind (a := (s.H, s.nx, ob.rows)) (s1 := s) ?_ (R.bind (R.opt h4) ?_)
    · refine R.heap ?_
      simp only
      refine R.bind (R.opt hob) ?_
      rw [if_pos ⟨h2, h3⟩]
      exact R.ret
    · cases f <;> exact R.putH R.ret
  have hs : R gs (semY C i o) s () ⟨s.t, updO s.H m (some ⟨none, 0, fndR ob.rows k v f⟩), s.nx⟩ := by
    rcases hop with hop | hop <;>
    · rw [semY_of (by rw [hop]; simp)]
      unfold semOp
      have hpre : preQ C o.op = .ret () := by rw [hop]; rfl
      rw [hpre]
      refine R.bind R.ret (R.bind (s1 := ⟨s.t, updO s.H m (some ⟨none, 0, fndR ob.rows k v f⟩), s.nx⟩) (a := ()) ?_ (by rw [ho]; exact R.ret))
      unfold semOp1; rw [hop]; simp only [ho, Option.isNone_none, if_true]
      exact key
  exact .of_Rgs hs
theorem storeH_ok {t : Nat} {x y : Operand} {r : List D} (ho : o.dst = none) (hop : o.op = .store t x y) (h : storeH C t x y r s T = some (s', T')) : T.Le T' ∧ (T'.Ok → StepY C i o s s') := by
  unfold storeH at h
  split at h
  rotate_left
  · cases h
  rename_i a hy
  split at h
  rotate_left
  · cases h
  rename_i p hp
  obtain ⟨p1, p2, p3, p4⟩ := p
  split at h
  rotate_left
  · cases h
  rename_i ob hob
  split at h
  rotate_left
  · cases h
  rename_i q hq
  obtain ⟨ob', cs⟩ := q
  simp only [Option.some.injEq, Prod.mk.injEq] at h
  obtain ⟨rfl, rfl⟩ := h
  refine ⟨need_same_le _ _ _, fun hT => ?_⟩
  obtain ⟨hc, he⟩ := need_same hT
  simp only [List.cons_append, List.nil_append, List.mem_cons, forall_eq_or_imp] at hc
  obtain ⟨c1, c2, c3, c4, c5⟩ := hc
  have c1 : a.cells.length = (C.tt t).size := Nat.eq_of_beq_eq_true c1
  have c2 : 0 < (C.tt t).size := blt_lt c2
  have c3 : ob.esz = p2 := Nat.eq_of_beq_eq_true c3
  have c4 : p4 + a.cells.length ≤ r.length := Nat.le_of_ble_eq_true c4
  have c6 : ob.row p3 = some r := encR_some (he _ List.mem_cons_self)
  have hput := putH_ok hq c5
  refine .of_Rgs ?_
  rw [semY_of (by rw [hop]; simp)]
  unfold semOp
  have hpre : preQ C o.op = .ret () := by
    rw [hop]; unfold preQ
    split
    · simp only [hC.pst, Bool.false_eq_true, false_and, if_false]
    · rfl
  rw [hpre]
  refine R.bind R.ret (R.bind (s1 := ⟨s.t, updO s.H p1 (some ob'), s.nx⟩) (a := ()) ?_ (by rw [ho]; exact R.ret))
  unfold semOp1; rw [hop]; simp only [semOp0, hop, ho, Option.isNone_none, if_true]
  unfold storeQ
  refine (rdF_ok hy).bind ((ptrF_ok hp).bind ?_)
  rw [if_pos ⟨c1, c2⟩]
  refine R.heap ?_
  simp only
  refine R.bind (R.opt hob) ?_
  rw [if_pos c3]
  refine R.bind (R.opt c6) ?_
  rw [if_pos c4]
  exact R.bind (R.opt hput) (R.putH R.ret)
end
end Go.Proofs.YtmhinddneefmbaaGreat.Pe
