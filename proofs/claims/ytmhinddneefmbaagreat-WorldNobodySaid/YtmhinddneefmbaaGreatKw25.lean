/- A part of the proof of JbH. -/
import Derived.Test.YtmhinddneefmbaaGreatKw24
set_option linter.unusedSimpArgs false
set_option linter.unusedVariables false
set_option linter.unusedSectionVars false
namespace Go.Proofs.YtmhinddneefmbaaGreat.Pe
open Go
structure FD where
  nt : Nat
  body : Code
  res : List ResultVar
structure Sys where
  tt : Nat → TyI
  eqz : Nat → Option EK
  tab : Nat → Option FD
  base : Nat → FnS
structure Evs where
  fn : Nat → List AD → Hp → Nat → Option (RV × Hp × Nat)
  yld : Nat → List AD → Hp → Nat → Option (Bool × Hp × Nat)
  code : Nat → Option Nat → Code → St → Option (Ex × St)
noncomputable def ctxS (S : Sys) (e : Evs) (nt : Nat) : Ctx where
  nt := nt
  tt := S.tt
  fns := fun f => match S.base f with
    | .none => if (S.tab f).isSome then .eff (e.fn f) else .none
    | x => x
  keep := fun _ => []
  X := fun _ => False
  pub := fun _ => true
  uni := true
  eqz := S.eqz
  yld := e.yld
noncomputable def lateOf (ops : Array Oper) : List Nat := ops.toList.filterMap fun o => match o.op, o.dst with
  | .alloc _, some d => if ops.toList.all (fun q => match q.op with
      | .store _ (.tmp _) (.tmp y) => y != d
      | .store _ (.tmp _) (.const _) => true
      | p => p.operands.toList.all fun x => match x with | .tmp t => t != d | _ => true) then some d else none
  | _, _ => none
noncomputable def pubS (nt : Nat) : List Nat → St → Option St
  | [], s => some s
  | d :: l, s => if d < nt then (match (pubQ d).runS s [] [] with
    | some (_, s', _, u) => if u.all (fun i => i == gs || (s'.env i).plain) && (s'.env d).plain then pubS nt l s' else none
    | none => none) else none
noncomputable def bareOf (ops : Array Oper) : List Nat := ops.toList.filterMap fun o => match o.op, o.dst with
  | .buildSlice _ 0 _, some d => some d
  | _, _ => none
noncomputable def regL (C : Ctx) (ops : Array Oper) (s : St) : Option St :=
  let late := bareOf ops
  match runRec { C with pub := fun d => !(late.contains d) } ops late 0 ops.toList s with
  | some (sf, _) => if late.all (fun i => (sf.env i).plain) then sf.flat else none
  | none => none
noncomputable def regS (C : Ctx) (ops : Array Oper) (draw : Bool) (s : St) : Option St :=
  if draw then
    let late := lateOf ops
    let C' : Ctx := { C with pub := fun d => !(late.contains d) }
    match runRec C' ops late 0 ops.toList s with
    | some (sf, rs) => if indepS C' ops rs sf then (pubS C.nt late sf).bind St.flat else (twoS C' ops late s).bind fun sf => (pubS C.nt late sf).bind St.flat
    | none => none
  else match runF C ops 0 ops.toList s with
    | some sf => sf.flat
    | none => regL C ops s
noncomputable def toB : AV → Option (Bool × List D)
  | .v (.one d) => some (true, [d])
  | .v (.many l) => some (false, l)
  | _ => none
noncomputable def ofEnv (env : Tr (Bool × List D)) : Tr AV := env.map fun x => some (.v (ofB x))
noncomputable def condS (s : St) : Operand → Option Bool
  | .tmp t => match s.env t with
    | .v (.one (.bool b)) => some b
    | _ => none
  | .const (.bool b) => some b
  | _ => none
noncomputable def recAt (H : Hp) (lp : Nat) : Option (Nat × Tr (Bool × List D) × List Nat × Code × Code × Bool × Option Code) := match H lp with
  | some ⟨_, 0, [[.lrec nt env ps assign body busy jump]]⟩ => some (nt, env, ps, assign, body, busy, jump)
  | _ => none
noncomputable def insideOk (H : Hp) : Option Nat → Bool
  | none => true
  | some l0 => (recAt H l0).isSome
noncomputable def putRec (H : Hp) (lp nt : Nat) (env : Tr (Bool × List D)) (ps : List Nat) (assign body : Code) (busy : Bool) (jump : Option Code) : Hp :=
  updO H lp (some ⟨none, 0, [[.lrec nt env ps assign body busy jump]]⟩)
noncomputable def setPs (nt : Nat) : List Nat → List AD → Tr AV → Option (Tr AV)
  | [], [], t => some t
  | p :: ps, x :: l, t => if p < nt then setPs nt ps l (t.set (some (.v x)) 30 p) else none
  | _, _, _ => none
noncomputable def iterS (s : St) : Operand → Option (Nat × List D)
  | .tmp t => match s.env t with
    | .v (.one (.fn f)) => some (f, [])
    | .v (.one (.clo f caps)) => some (f, caps)
    | _ => none
  | .func f => some (f, [])
  | _ => none
noncomputable def startS : List AD → Nat → Tr AV → Tr AV
  | [], _, t => t
  | x :: l, k, t => startS l (k + 1) (t.set (some (.v x)) 30 k)
noncomputable def exOf (id : Nat) : Ex × St → Ex × St
  | (.exit id', s) => if id' = id then (.normal, s) else (.exit id', s)
  | x => x
noncomputable def exJump : Ex → Option Code
  | .normal => none
  | .ret => some .ret
  | .exit id => some (.exit id)
noncomputable def jumpOf : Option Code → Option Ex
  | none => some .normal
  | some .ret => some .ret
  | some (.exit id) => some (.exit id)
  | _ => none
noncomputable def callee (S : Sys) (e : Evs) (f : Nat) (ads : List AD) (H : Hp) (nx : Nat) : Option (RV × Hp × Nat) := match S.base f with
  | .none => if (S.tab f).isSome then e.fn f ads H nx else none
  | .eff F => F ads H nx
  | _ => none
noncomputable def stepE (S : Sys) (e : Evs) : Evs where
  fn := fun f ads H nx => match S.tab f with
    | some fd => if ads.length ≤ fd.nt ∧ fd.nt ≤ 1000000 then (e.code fd.nt none fd.body ⟨startS ads 0 .leaf, H, nx⟩).bind fun x => match x with
        | (.exit _, _) => none
        | (_, s) => ((resQ (ctxS S e fd.nt) fd.res).runS s [] []).bind fun r => some (rvOf r.1, r.2.1.H, r.2.1.nx)
        else none
    | none => none
  yld := fun lp ads H nx => (recAt H lp).bind fun (nt, env, ps, assign, body, busy, jump) =>
    if busy = false ∧ jump.isNone = true ∧ nt ≤ 1000000 then
      (setPs nt ps ads (ofEnv env)).bind fun t => (e.code nt (some lp) assign ⟨t, H, nx⟩).bind fun x => match x with
      | (.normal, s1) => (recAt s1.H lp).bind fun (nt', env', ps', assign', body', busy', jump') =>
        if busy' = false ∧ jump'.isNone = true then
          (putRec s1.H lp nt' env' ps' assign' body' true none).flat.bind fun H1 => (e.code nt (some lp) body { s1 with H := .tr H1 }).bind fun y => match y with
          | (ex, s2) => (recAt s2.H lp).bind fun (nt2, env2, ps2, assign2, body2, _, _) =>
            (putRec s2.H lp nt2 env2 ps2 assign2 body2 false (exJump ex)).flat.bind fun H2 => some ((exJump ex).isNone, .tr H2, s2.nx)
        else none
      | _ => none
    else none
  code := fun nt r c s => match c with
    | .skip => some (.normal, s)
    | .ret => some (.ret, s)
    | .exit id => some (.exit id, s)
    | .seq x y => (e.code nt r x s).bind fun z => match z with
      | (.normal, s1) => e.code nt r y s1
      | z => some z
    | .cond c x y => (condS s c).bind fun b => if b then e.code nt r x s else e.code nt r y s
    | .block id b => (e.code nt r b s).map (exOf id)
    | .loop b => (e.code nt r b s).bind fun z => match z with
      | (.normal, s1) => e.code nt r (.loop b) s1
      | z => some z
    | .region _ ops d => (regS (ctxS S e nt) ops d s).map fun s1 => (.normal, s1)
    | .rangeFunc g ps assign body => (iterS s g).bind fun (f, caps) =>
      if insideOk s.H r then
        (putRec s.H s.nx nt (s.t.map toB) ps.toList assign body false none).flat.bind fun H1 =>
        (callee S e f (.one (.yl s.nx) :: caps.map .one) (.tr H1) (s.nx + 1)).bind fun (_, H2, nx2) =>
        (recAt H2 s.nx).bind fun (_, _, _, _, _, busy, jump) => if busy then none else
        (updO H2 s.nx none).flat.bind fun H3 => (jumpOf jump).map fun ex => (ex, { s with H := .tr H3, nx := nx2 })
      else none
    | _ => none
noncomputable def evs (S : Sys) (k : Nat) : Evs :=
  Nat.rec (motive := fun _ => Evs) ⟨fun _ _ _ _ => none, fun _ _ _ _ => none, fun _ _ _ _ => none⟩ (fun _ e => stepE S e) k
end Go.Proofs.YtmhinddneefmbaaGreat.Pe
