/- A part of the proof of JbH. -/
import Derived.Test.YtmhinddneefmbaaGreatKw29
set_option linter.unusedSimpArgs false
set_option linter.unusedVariables false
set_option linter.unusedSectionVars false
namespace Go.Proofs.YtmhinddneefmbaaGreat.Pe
open Go
noncomputable def mkTr {α : Type} : List (Nat × α) → Tr α
  | [] => .leaf
  | x :: l => (mkTr l).set (some x.2) 30 x.1
theorem mkTr_get {α : Type} : ∀ (l : List (Nat × α)), l.all (fun x => decide (x.1 < 1000000000)) = true → ∀ n a, (mkTr l).get n = some a → (n, a) ∈ l
  | [], _, n, a, h => by cases h
  | x :: l, hl, n, a, h => by
    simp only [List.all_cons, Bool.and_eq_true, decide_eq_true_eq] at hl
    simp only [mkTr] at h
    rw [Tr.get_set _ _ _ _ (by omega)] at h
    split at h
    · rename_i e
      injection h with h
      subst h; subst e
      exact List.mem_cons_self
    · exact List.mem_cons_of_mem _ (mkTr_get l hl.2 n a h)
noncomputable def AllTy (P : Program) : List (Nat × TyI) → Prop
  | [] => True
  | x :: l => TyOk P x.1 x.2 ∧ AllTy P l
theorem AllTy.mem {P : Program} : ∀ {l : List (Nat × TyI)}, AllTy P l → ∀ x ∈ l, TyOk P x.1 x.2
  | y :: l, h, x, hx => by
    rcases List.mem_cons.1 hx with rfl | hx
    · exact h.1
    · exact AllTy.mem h.2 x hx
noncomputable def AllEz (P : Program) : List (Nat × EK) → Prop
  | [] => True
  | x :: l => EqZOk P x.1 x.2 ∧ AllEz P l
theorem AllEz.mem {P : Program} : ∀ {l : List (Nat × EK)}, AllEz P l → ∀ x ∈ l, EqZOk P x.1 x.2
  | y :: l, h, x, hx => by
    rcases List.mem_cons.1 hx with rfl | hx
    · exact h.1
    · exact AllEz.mem h.2 x hx
noncomputable def FdOk (P : Program) (f : Nat) (fd : FD) : Prop := ∃ fn, P.funcs[f]? = some fn ∧ fn.body = some fd.body ∧ fn.ntmps = fd.nt ∧ fn.results.toList = fd.res ∧ calleeOk P f = true
noncomputable def AllFd (P : Program) : List (Nat × FD) → Prop
  | [] => True
  | x :: l => FdOk P x.1 x.2 ∧ AllFd P l
theorem AllFd.mem {P : Program} : ∀ {l : List (Nat × FD)}, AllFd P l → ∀ x ∈ l, FdOk P x.1 x.2
  | y :: l, h, x, hx => by
    rcases List.mem_cons.1 hx with rfl | hx
    · exact h.1
    · exact AllFd.mem h.2 x hx
noncomputable def AllBs (P : Program) : List (Nat × FnS) → Prop
  | [] => True
  | x :: l => (SOk P x.1 x.2 ∧ cok P x.1 x.2 = true) ∧ AllBs P l
theorem AllBs.mem {P : Program} : ∀ {l : List (Nat × FnS)}, AllBs P l → ∀ x ∈ l, SOk P x.1 x.2 ∧ cok P x.1 x.2 = true
  | y :: l, h, x, hx => by
    rcases List.mem_cons.1 hx with rfl | hx
    · exact h.1
    · exact AllBs.mem h.2 x hx
noncomputable def fdOf (fn : Func) : FD := ⟨fn.ntmps, fn.body.getD .skip, fn.results.toList⟩
theorem fdOf_ok {P : Program} {f : Nat} {fn : Func} (h : P.funcs[f]? = some fn) (hb : fn.body.isSome = true) (hn : (fn.name != "runtime.NumGoroutine") = true) : FdOk P f (fdOf fn) := by
  have hok : calleeOk P f = true := by unfold calleeOk; rw [h]; simp only [hn, hb, Bool.and_self]
  obtain ⟨b, hb⟩ := Option.isSome_iff_exists.1 hb
  exact ⟨fn, h, by simp [fdOf, hb], rfl, rfl, hok⟩
theorem eqz_fnT {P : Program} {t : Nat} (h : (match P.underlying t with | some (.func _ _ _) => true | _ => false) = true) : EqZOk P t .fn := by
  split at h
  · rename_i hu; exact eqz_fn hu
  · cases h
noncomputable def sysOf (tts : Tr TyI) (ezs : Tr EK) (fns : Tr FD) (bs : Tr FnS) : Sys where
  tt := fun t => (tts.get t).getD dflt
  eqz := ezs.get
  tab := fns.get
  base := fun f => (bs.get f).getD .none
theorem sysOf_ok {P : Program} {tts : List (Nat × TyI)} {ezs : List (Nat × EK)} {fns : List (Nat × FD)} {bs : List (Nat × FnS)} (hm : P.follows .mixedOrders = true)
    (h1 : AllTy P tts) (k1 : tts.all (fun x => decide (x.1 < 1000000000)) = true) (h2 : AllEz P ezs) (k2 : ezs.all (fun x => decide (x.1 < 1000000000)) = true)
    (h3 : AllFd P fns) (k3 : fns.all (fun x => decide (x.1 < 1000000000)) = true) (h4 : AllBs P bs) (k4 : bs.all (fun x => decide (x.1 < 1000000000)) = true) : SysOk (sysOf (mkTr tts) (mkTr ezs) (mkTr fns) (mkTr bs)) P := by
  refine ⟨hm, fun t => ?_, fun t k hk => h2.mem (t, k) (mkTr_get _ k2 _ _ hk), fun f fd hf => h3.mem (f, fd) (mkTr_get _ k3 _ _ hf), fun f hf => ?_⟩
  · show ((mkTr tts).get t).getD dflt = dflt ∨ TyOk P t (((mkTr tts).get t).getD dflt)
    cases h : (mkTr tts).get t with
    | none => exact .inl rfl
    | some x => exact .inr (h1.mem (t, x) (mkTr_get _ k1 _ _ h))
  · have hf' : ((mkTr bs).get f).getD .none ≠ .none := hf
    show SOk P f (((mkTr bs).get f).getD .none) ∧ cok P f (((mkTr bs).get f).getD .none) = true
    cases h : (mkTr bs).get f with
    | none => rw [h] at hf'; exact absurd rfl hf'
    | some x => exact h4.mem (f, x) (mkTr_get _ k4 _ _ h)
end Go.Proofs.YtmhinddneefmbaaGreat.Pe
namespace Go.Proofs.YtmhinddneefmbaaGreat.Pe
open Go
noncomputable def segAt (H : Hp) (sg : Nat) : Option (Nat × Nat × Tr Nat) := match H sg with
  | some ⟨_, 1, [[.ref o 1 0 n]]⟩ => match H o with
    | some ⟨some e, 0, [[.wds t m]]⟩ => Bool.rec (motive := fun _ => Option (Nat × Nat × Tr Nat)) none (some (o, n, t)) (Nat.beq n m)
    | _ => none
  | _ => none
noncomputable def inW (off n : Nat) : Bool := and (Nat.beq (Nat.mod off 8) 0) (Nat.blt off n)
noncomputable def newW (e : Nat) (c : Nat) (ads : List AD) (H : Hp) (nx : Nat) : Option (RV × Hp × Nat) := match ads with
  | [.one (.int .u64 (.ofNat n))] => Bool.rec (motive := fun _ => Option (RV × Hp × Nat)) (some (.a (.one .nilp), H, nx))
      (Bool.rec (motive := fun _ => Option (RV × Hp × Nat)) none
        (some (.a (.one (.ptr (nx + 1) 1 0 0)), .tr (((match H with | .tr t => t | _ => (.leaf : Tr PObj)).set (some (⟨some e, 0, [[.wds .leaf n]]⟩ : PObj)) 30 nx).set (some (⟨none, 1, [[.ref nx 1 0 n]]⟩ : PObj)) 30 (nx + 1)), nx + 2))
        (and (Nat.blt (nx + c) 1000000000) (match H with | .tr _ => true | _ => false)))
      (and (Bool.not (Nat.beq n 0)) (and (Nat.beq (Nat.mod n 8) 0) (Nat.ble n 1048576)))
  | _ => none
noncomputable def sizeW (ads : List AD) (H : Hp) (nx : Nat) : Option (RV × Hp × Nat) := match ads with
  | [.one .nilp] => some (.a (.one (.int .u64 0)), H, nx)
  | [.one (.ptr sg 1 0 0)] => match H sg with
    | some ⟨_, 1, [[.ref _ 1 0 n]]⟩ => some (.a (.one (.int .u64 n)), H, nx)
    | _ => none
  | _ => none
noncomputable def loadW (c : Nat) (ads : List AD) (H : Hp) (nx : Nat) : Option (RV × Hp × Nat) := match ads with
  | [.one .nilp, .one (.int .u64 _)] => some (.tup [.one (.int .u64 0), .one (.int .i64 1)], H, nx)
  | [.one (.ptr sg 1 0 0), .one (.int .u64 (.ofNat off))] => match segAt H sg with
    | some (_, n, t) => Bool.rec (motive := fun _ => Option (RV × Hp × Nat)) (some (.tup [.one (.int .u64 0), .one (.int .i64 1)], H, nx))
        ((fun v => Bool.rec (motive := fun _ => Option (RV × Hp × Nat)) none (some (.tup [.one (.int .u64 (.ofNat v)), .one (.int .i64 0)], H, nx + c)) (and (Nat.blt (nx + c) 1000000000) (Nat.blt v 18446744073709551616))) (Option.rec (motive := fun _ => Nat) 0 (fun v => v) (t.get (Nat.div off 8)))) (inW off n)
    | none => none
  | _ => none
noncomputable def storeW (c : Nat) (ads : List AD) (H : Hp) (nx : Nat) : Option (RV × Hp × Nat) := match ads with
  | [.one .nilp, .one (.int .u64 _), .one (.int .u64 _)] => some (.a (.one (.int .i64 1)), H, nx)
  | [.one (.ptr sg 1 0 0), .one (.int .u64 (.ofNat off)), .one (.int .u64 (.ofNat v))] => match segAt H sg with
    | some (o, n, t) => Bool.rec (motive := fun _ => Option (RV × Hp × Nat)) (some (.a (.one (.int .i64 1)), H, nx + 1))
        (Bool.rec (motive := fun _ => Option (RV × Hp × Nat)) none (match H, H o with
          | .tr tr, some ob => some (.a (.one (.int .i64 0)), .tr (tr.set (some (⟨ob.e, 0, [[.wds (t.set (some v) 30 (Nat.div off 8)) n]]⟩ : PObj)) 30 o), nx + c)
          | _, _ => none) (and (Nat.blt (nx + c) 1000000000) (Nat.blt v 18446744073709551616))) (inW off n)
    | none => none
  | _ => none
end Go.Proofs.YtmhinddneefmbaaGreat.Pe
namespace Go.Proofs.YtmhinddneefmbaaGreat.Pe
open Go
noncomputable def PObj.exp (ob : PObj) : PObj := match ob with
  | ⟨e, 0, [[.wds t n]]⟩ => ⟨e, 1, wdsRows t n⟩
  | ob => ob
noncomputable def expH : Hp → Hp
  | .tr t => .tr (t.map fun ob => some ob.exp)
  | .upd H o x => .upd (expH H) o (x.map PObj.exp)
theorem expH_at : ∀ (H : Hp) (o : Nat), expH H o = (H o).map PObj.exp
  | .tr t, o => by
    show (t.map fun ob => some ob.exp).get o = (t.get o).map PObj.exp
    rw [Tr.get_map]
    cases t.get o <;> rfl
  | .upd H o' x, o => by
    show (if o = o' then x.map PObj.exp else expH H o) = (if o = o' then x else H o).map PObj.exp
    split
    · rfl
    · exact expH_at H o
variable {w : World} {ι : Nat → Option Nat} {M : Nat → Prop} {b nx : Nat} {P : Program}
theorem ObjAt.exp {ob : PObj} (h : ObjAt w ι M b ob) : ObjAt w ι M b ob.exp := by
  unfold PObj.exp
  split
  · rename_i e t n
    rcases h with ⟨_, ⟨hn, _⟩ | ⟨nt, env, ps, assign, body, busy, jump, hr, _⟩ | ⟨t', n', T, cs, hr, hT, hb⟩ | ⟨t', n', T, cs, hr, hT, hb⟩⟩ | ⟨T, cs, hT, hb⟩
    · cases hn
    · cases hr
    · simp only [List.cons.injEq, D.wds.injEq, and_true] at hr
      obtain ⟨rfl, rfl⟩ := hr
      exact .inr ⟨T, cs, hT, hb⟩
    · cases hr
    · have := hb.pos; simp at this
  · exact h
theorem ObjAt.unexp {ob : PObj} (h : ObjAt w ι M b ob.exp) : ObjAt w ι M b ob := by
  unfold PObj.exp at h
  split at h
  · rename_i e t n
    rcases h with ⟨h0, _⟩ | ⟨T, cs, hT, hb⟩
    · simp at h0
    · exact .inl ⟨rfl, .inr (.inr (.inl ⟨t, n, T, cs, rfl, hT, hb⟩))⟩
  · exact h
theorem HeapOk.exp {H : Hp} (h : HeapOk w ι M H nx) : HeapOk w ι M (expH H) nx := by
  have key : ∀ o ob, expH H o = some ob → ∃ x, H o = some x ∧ ob = x.exp := fun o ob ho => by
    rw [expH_at] at ho
    cases hx : H o with
    | none => rw [hx] at ho; cases ho
    | some x => rw [hx] at ho; injection ho with ho; exact ⟨x, rfl, ho.symm⟩
  refine ⟨h.new, fun o ob ho => ?_, fun o o' x x' b ho ho' => ?_, fun o x b ho => ?_⟩
  · obtain ⟨x, hx, rfl⟩ := key o ob ho
    obtain ⟨b, h1, h2⟩ := h.objs o x hx
    exact ⟨b, h1, h2.exp⟩
  · obtain ⟨y, hy, _⟩ := key o x ho
    obtain ⟨y', hy', _⟩ := key o' x' ho'
    exact h.inj o o' y y' b hy hy'
  · obtain ⟨y, hy, _⟩ := key o x ho
    exact h.ctl o y b hy
theorem HeapOk.sub {K H : Hp} (h : HeapOk w ι M K nx) (hs : ∀ o x, H o = some x → K o = some x.exp) : HeapOk w ι M H nx :=
  ⟨h.new, fun o ob ho => let ⟨b, h1, h2⟩ := h.objs o _ (hs o ob ho); ⟨b, h1, h2.unexp⟩, fun o o' x x' b ho ho' => h.inj o o' _ _ b (hs o x ho) (hs o' x' ho'), fun o x b ho => h.ctl o _ b (hs o x ho)⟩
theorem FnEff.words {f : Nat} {F G : List AD → Hp → Nat → Option (RV × Hp × Nat)} (hF : FnEff P f F)
    (hG : ∀ ads H nx r H' nx', G ads H nx = some (r, H', nx') → ∀ w ι M, HeapOk w ι M H nx → ∃ K, F ads (expH H) nx = some (r, K, nx') ∧ ∀ o x, H' o = some x → K o = some x.exp) : FnEff P f G := by
  intro ads H nx r H' nx' hq w ι M vals hM hok hsz hargs
  obtain ⟨K, h1, h2⟩ := hG ads H nx r H' nx' hq w ι M hok
  refine (hF ads (expH H) nx r K nx' h1 w ι M vals hM hok.exp hsz hargs).mono fun e w' hp => ?_
  obtain ⟨v, ι', M', he, hr, hk, hi, hev, hkept, hback, hlt⟩ := hp
  have dom : ∀ b, (∃ o x, expH H o = some x ∧ ι o = some b) ↔ ∃ o x, H o = some x ∧ ι o = some b := fun b => by
    constructor
    · rintro ⟨o, x, ho, hb⟩
      rw [expH_at] at ho
      cases hx : H o with
      | none => rw [hx] at ho; cases ho
      | some y => exact ⟨o, y, hx, hb⟩
    · rintro ⟨o, x, ho, hb⟩
      exact ⟨o, x.exp, by rw [expH_at, ho]; rfl, hb⟩
  refine ⟨v, ι', M', he, hr, hk.sub h2, hi, ?_, fun b hb hn => hkept b hb fun o x ho => ?_, hback, hlt⟩
  · refine ⟨hev.os, hev.tape, hev.output, hev.size, fun b hb hn => hev.same b hb fun hh => hn ((dom b).1 hh), fun b hb hh => ?_, fun b hb h => h.elim, hev.shape⟩
    obtain ⟨o, x, ho, hb'⟩ := hh
    exact (dom b).1 (hev.back b hb ⟨o, x.exp, h2 o x ho, hb'⟩)
  · rw [expH_at] at ho
    cases hx : H o with
    | none => rw [hx] at ho; cases ho
    | some y => exact hn o y hx
end Go.Proofs.YtmhinddneefmbaaGreat.Pe
namespace Go.Proofs.YtmhinddneefmbaaGreat.Pe
open Go
def D.flat : D → Bool
  | .int _ _ | .bool _ | .nilp => true
  | _ => false
def AD.flat : AD → Bool
  | .one d => d.flat
  | .many _ => false
def RV.flat : RV → Bool
  | .a x => x.flat
  | .tup l => l.all AD.flat
variable {w w' : World} {ι ι' : Nat → Option Nat} {M M' : Nat → Prop} {b nx : Nat} {P : Program}
theorem Rd.flat {v : Value} {d : D} (h : Rd w ι M v d) (hf : d.flat = true) : Rd w' ι' M' v d := by
  cases h <;> first | (cases hf; done) | constructor
theorem RdA.flat {v : Value} {a : AD} (h : RdA w ι M v a) (hf : a.flat = true) : RdA w' ι' M' v a := by
  cases a with
  | one d => exact Rd.flat (w' := w') (ι' := ι') (M' := M') (show Rd w ι M v d from h) hf
  | many l => cases hf
theorem RdV.flat {v : Value} {r : RV} (h : RdV w ι M v r) (hf : r.flat = true) : RdV w' ι' M' v r := by
  cases r with
  | a a => exact RdA.flat (w' := w') (ι' := ι') (M' := M') (show RdA w ι M v a from h) hf
  | tup l =>
    obtain ⟨vs, e, hl, hr⟩ := (show RdT w ι M v l from h)
    exact ⟨vs, e, hl, fun j v x hv hx => (hr j v x hv hx).flat (List.all_eq_true.1 hf x (List.mem_of_getElem? hx))⟩
noncomputable def seg0 (e1 e5 : Option Nat) (bt : Tr Nat) (n : Nat) : Hp := .tr (.node (some ⟨e5, 0, [[.bts bt n]]⟩) (.node (some ⟨e1, 1, [[.ref 0 1 0 n]]⟩) .leaf .leaf) .leaf)
theorem seg0_some {e1 e5 : Option Nat} {bt : Tr Nat} {n k : Nat} {x : PObj} (h : seg0 e1 e5 bt n k = some x) : (k = 0 ∧ x = ⟨e5, 0, [[.bts bt n]]⟩) ∨ (k = 1 ∧ x = ⟨e1, 1, [[.ref 0 1 0 n]]⟩) := by
  have h : (Tr.node (some (⟨e5, 0, [[.bts bt n]]⟩ : PObj)) (.node (some ⟨e1, 1, [[.ref 0 1 0 n]]⟩) .leaf .leaf) .leaf).get k = some x := h
  cases k with
  | zero => injection h with h; exact .inl ⟨rfl, h.symm⟩
  | succ k =>
    rw [Tr.get_succ] at h
    split at h
    · rename_i h2
      cases hk : k / 2 with
      | zero => rw [hk] at h; injection h with h; exact .inr ⟨by omega, h.symm⟩
      | succ j =>
        rw [hk, Tr.get_succ] at h
        split at h <;> cases h
    · cases h
noncomputable def bOf (t : Tr Nat) : Nat → Tr Nat
  | 0 => .leaf
  | n + 1 => (bOf t n).set (some ((t.get (n / 8)).getD 0 / 256 ^ (n % 8) % 256)) 30 n
theorem bOf_get (t : Tr Nat) : ∀ (n : Nat), n ≤ 1000000000 → ∀ i, i < n → (bOf t n).get i = some ((t.get (i / 8)).getD 0 / 256 ^ (i % 8) % 256)
  | 0, _, i, hi => by omega
  | n + 1, hn, i, hi => by
    unfold bOf
    rw [Tr.get_set _ _ _ _ (by omega)]
    split
    · rename_i e; subst e; rfl
    · exact bOf_get t n (by omega) i (by omega)
theorem bOf_rows (t : Tr Nat) {n : Nat} (hn : n ≤ 1000000000) : btsRows (bOf t n) n = wdsRows t n := by
  unfold btsRows wdsRows
  apply List.map_congr_left
  intro i hi
  have hi : i < n := List.mem_range.1 hi
  unfold byteB byteOf
  rw [bOf_get t n hn i hi]
  rfl
theorem seg_ref {e : Option Nat} {o o' n : Nat} (h : ObjAt w ι M b ⟨e, 1, [[.ref o 1 0 n]]⟩) (hi : ∀ c, ι o = some c → ι' o' = some c) : ObjAt w ι' M' b ⟨e, 1, [[.ref o' 1 0 n]]⟩ := by
  rcases h with ⟨h0, _⟩ | ⟨T, cs, hT, hb⟩
  · cases h0
  · refine .inr ⟨T, cs, hT, hb.at_, hb.pos, hb.fit, fun r hr => ?_, fun i j r d hr hd => ?_, hb.one⟩
    · have := List.mem_singleton.1 hr; subst this; rfl
    · cases i with
      | zero =>
        injection hr with hr; subst hr
        cases j with
        | zero =>
          injection hd with hd; subst hd
          obtain ⟨v, h1, h2⟩ := hb.rd 0 0 _ _ rfl rfl
          refine ⟨v, h1, ?_⟩
          cases h2 with
          | ref _ _ _ _ c b h hnc hcm hsz hcap => exact .ref _ _ _ _ c b (hi b h) hnc hcm hsz hcap
        | succ j => simp at hd
      | succ i => simp at hr
theorem wds_rd {e : Option Nat} {t : Tr Nat} {n : Nat} (h : ObjAt w ι M b ⟨e, 1, wdsRows t n⟩) : ObjAt w ι' M' b ⟨e, 1, wdsRows t n⟩ := by
  rcases h with ⟨h0, _⟩ | ⟨T, cs, hT, hb⟩
  · cases h0
  · refine .inr ⟨T, cs, hT, hb.at_, hb.pos, hb.fit, hb.uni, fun i j r d hr hd => ?_, hb.one⟩
    obtain ⟨v, h1, h2⟩ := hb.rd i j r d hr hd
    refine ⟨v, h1, Rd.flat h2 ?_⟩
    obtain ⟨k, _, rfl⟩ := List.mem_map.1 (List.mem_of_getElem? hr)
    cases j with
    | zero => injection hd with hd; subst hd; rfl
    | succ j => simp at hd
theorem wds_bts {e : Option Nat} {t bt : Tr Nat} {n : Nat} (he : btsRows bt n = wdsRows t n) (h : ObjAt w ι M b ⟨e, 0, [[.wds t n]]⟩) : ObjAt w ι' M' b ⟨e, 0, [[.bts bt n]]⟩ := by
  have h1 : ObjAt w ι' M' b ⟨e, 1, wdsRows t n⟩ := wds_rd (ι := ι) (M := M) h.exp
  rcases h1 with ⟨h0, _⟩ | ⟨T, cs, hT, hb⟩
  · cases h0
  · exact ObjAt.ofBlk (ob := ⟨e, 0, [[.bts bt n]]⟩) hT (show Blk w ι' M' b T cs 1 (btsRows bt n) by rw [he]; exact hb)
theorem bts_wds {e : Option Nat} {t bt : Tr Nat} {n : Nat} (he : btsRows bt n = wdsRows t n) (h : ObjAt w ι M b ⟨e, 0, [[.bts bt n]]⟩) : ObjAt w ι' M' b ⟨e, 0, [[.wds t n]]⟩ := by
  obtain ⟨T, cs, hT, hb⟩ := h.blkE (show 0 < 1 by omega)
  have hb : Blk w ι M b T cs 1 (btsRows bt n) := hb
  rw [he] at hb
  exact ObjAt.unexp (ob := ⟨e, 0, [[.wds t n]]⟩) (wds_rd (ι := ι) (M := M) (.inr ⟨T, cs, hT, hb⟩))
noncomputable def io (ι : Nat → Option Nat) (o sg : Nat) : Nat → Option Nat := fun k => if k = 0 then ι o else if k = 1 then ι sg else none
theorem seg_frame {f : Nat} {F : List AD → Hp → Nat → Option (RV × Hp × Nat)} (hF : FnEff P f F) {H : Hp} {sg o n m : Nat} {e1 e5 : Option Nat} {t t' bt bt' : Tr Nat} {rest : List AD} {r : RV} {K : Hp} (hbt : btsRows bt n = wdsRows t n) (hbt' : btsRows bt' n = wdsRows t' n)
    (hsg : H sg = some ⟨e1, 1, [[.ref o 1 0 n]]⟩) (ho : H o = some ⟨e5, 0, [[.wds t n]]⟩) (hrun : F (.one (.ptr 1 1 0 0) :: rest) (seg0 e1 e5 bt n) 2 = some (r, K, m))
    (hK1 : K 1 = some ⟨e1, 1, [[.ref 0 1 0 n]]⟩) (hK0 : K 0 = some ⟨e5, 0, [[.bts bt' n]]⟩) (hr : r.flat = true) (hrest : ∀ x ∈ rest, x.flat = true)
    {vals : Array Value} (hM : ∀ b, M b → b < w.heap.size) (hok : HeapOk w ι M H nx) (hsz : vals.size = (AD.one (.ptr sg 1 0 0) :: rest).length)
    (hargs : ∀ (j : Nat) v a, vals[j]? = some v → (AD.one (.ptr sg 1 0 0) :: rest)[j]? = some a → RdA w ι M v a) :
    Calls P f vals w fun e w' => ∃ v ι' M', e = .returned v ∧ RdV w' ι' M' v r ∧ HeapOk w' ι' M' (updO H o (some ⟨e5, 0, [[.wds t' n]]⟩)) nx ∧ (∀ o b, ι o = some b → ι' o = some b) ∧
      Evo (fun _ => False) (fun b => ∃ o x, H o = some x ∧ ι o = some b) w (fun b => ∃ k x, updO H o (some ⟨e5, 0, [[.wds t' n]]⟩) k = some x ∧ ι' k = some b) w' ∧
      (∀ b, M b → (∀ o x, H o = some x → ι o ≠ some b) → M' b) ∧ (∀ b, b < w.heap.size → M' b → M b) ∧ (∀ b, M' b → b < w'.heap.size) := by
  obtain ⟨bs, hbs, hos⟩ := hok.objs sg _ hsg
  obtain ⟨bo, hbo, hoo⟩ := hok.objs o _ ho
  have hne : o ≠ sg := fun e => by subst e; rw [hsg] at ho; cases ho
  have i0 : io ι o sg 0 = some bo := by simp [io, hbo]
  have i1 : io ι o sg 1 = some bs := by simp [io, hbs]
  have ok0 : HeapOk w (io ι o sg) M (seg0 e1 e5 bt n) 2 := by
    refine ⟨fun k => ?_, fun k ob hk => ?_, fun k k' x x' b hk hk' hb hb' => ?_, fun k x b hk hb => ?_⟩
    · unfold io
      by_cases h0 : k = 0
      · subst h0; simp [hbo]
      · by_cases h1 : k = 1
        · subst h1; simp [hbs]
        · simp only [if_neg h0, if_neg h1]; simp; omega
    · rcases seg0_some hk with ⟨rfl, rfl⟩ | ⟨rfl, rfl⟩
      · exact ⟨bo, i0, wds_bts (ι := ι) (M := M) hbt hoo⟩
      · exact ⟨bs, i1, seg_ref hos fun c hc => by rw [i0, ← hc, hbo]⟩
    · rcases seg0_some hk with ⟨rfl, _⟩ | ⟨rfl, _⟩ <;> rcases seg0_some hk' with ⟨rfl, _⟩ | ⟨rfl, _⟩
      · rfl
      · rw [i0] at hb; rw [i1] at hb'; injection hb with hb; injection hb' with hb'; subst hb; subst hb'
        exact absurd (hok.inj o sg _ _ _ ho hsg hbo hbs) hne
      · rw [i1] at hb; rw [i0] at hb'; injection hb with hb; injection hb' with hb'; subst hb; subst hb'
        exact absurd (hok.inj o sg _ _ _ ho hsg hbo hbs) hne
      · rfl
    · rcases seg0_some hk with ⟨rfl, _⟩ | ⟨rfl, _⟩
      · rw [i0] at hb; injection hb with hb; subst hb; exact hok.ctl o _ _ ho hbo
      · rw [i1] at hb; injection hb with hb; subst hb; exact hok.ctl sg _ _ hsg hbs
  have args0 : ∀ (j : Nat) v a, vals[j]? = some v → (AD.one (.ptr 1 1 0 0) :: rest)[j]? = some a → RdA w (io ι o sg) M v a := fun j v a hv ha => by
    cases j with
    | zero =>
      injection ha with ha; subst ha
      have h1 : Rd w ι M v (.ptr sg 1 0 0) := hargs 0 v _ hv rfl
      cases h1 with
      | ptr _ _ _ _ b h hs =>
        rw [hbs] at h; injection h with h; subst h
        exact Rd.ptr 1 1 0 0 _ i1 hs
    | succ j => exact (hargs (j + 1) v a hv ha).flat (hrest a (List.mem_of_getElem? ha))
  refine (hF _ _ _ _ _ _ hrun w (io ι o sg) M vals hM ok0 hsz args0).mono fun e w' hp => ?_
  obtain ⟨v, ι', M', he, hrv, hk, hi, hev, hkept, hback, hlt⟩ := hp
  have hi0 := hi 0 bo i0
  have hi1 := hi 1 bs i1
  have dom0 : ∀ b, (∃ k x, seg0 e1 e5 bt n k = some x ∧ io ι o sg k = some b) → b = bo ∨ b = bs := fun b ⟨k, x, hk, hb⟩ => by
    rcases seg0_some hk with ⟨rfl, _⟩ | ⟨rfl, _⟩
    · rw [i0] at hb; injection hb with hb; exact .inl hb.symm
    · rw [i1] at hb; injection hb with hb; exact .inr hb.symm
  have same : ∀ b, b < w.heap.size → b ≠ bo → b ≠ bs → w'.heap[b]? = w.heap[b]? := fun b hb h1 h2 => hev.same b hb fun hh => by
    rcases dom0 b hh with h | h
    · exact h1 h
    · exact h2 h
  have hMk : ∀ k x b, H k = some x → ι k = some b → b < w.heap.size := fun k x b h1 h2 => hM b (hok.ctl k x b h1 h2)
  have hkept' : ∀ b, M b → b ≠ bo → b ≠ bs → M' b := fun b hb h1 h2 => hkept b hb fun k x hk hh => by
    rcases dom0 b ⟨k, x, hk, hh⟩ with h | h
    · exact h1 h
    · exact h2 h
  have hoK := hk.objs 0 _ hK0
  have hsK := hk.objs 1 _ hK1
  obtain ⟨bo', hbo', hoK⟩ := hoK
  obtain ⟨bs', hbs', hsK⟩ := hsK
  rw [hi0] at hbo'; injection hbo' with hbo'; subst hbo'
  rw [hi1] at hbs'; injection hbs' with hbs'; subst hbs'
  have evw : Evo (fun _ => False) M w M' w' := ⟨hev.os, hev.tape, hev.output, hev.size, fun b hb hn => hev.same b hb fun hh => by
    rcases dom0 b hh with h | h
    · subst h; exact hn (hok.ctl o _ _ ho hbo)
    · subst h; exact hn (hok.ctl sg _ _ hsg hbs), fun b hb h => hback b hb h, fun b hb h => h.elim, hev.shape⟩
  refine ⟨v, ι, M', he, hrv.flat hr, ⟨hok.new, fun k ob hkk => ?_, fun k k' x x' b hk1 hk2 => ?_, fun k x b hk1 hb => ?_⟩, fun _ _ h => h, ⟨hev.os, hev.tape, hev.output, hev.size, fun b hb hn => ?_, fun b hb hh => ?_, fun b hb h => h.elim, hev.shape⟩, fun b hb hn => ?_, hback, hlt⟩
  · rw [updO_at] at hkk
    split at hkk
    · rename_i e; subst e
      injection hkk with hkk; subst hkk
      exact ⟨bo, hbo, bts_wds hbt' hoK⟩
    · rename_i hko
      by_cases hks : k = sg
      · subst hks
        rw [hsg] at hkk; injection hkk with hkk; subst hkk
        exact ⟨bs, hbs, seg_ref hsK fun c hc => by rw [hi0] at hc; rw [hbo, ← hc]⟩
      · obtain ⟨b, h1, h2⟩ := hok.objs k ob hkk
        exact ⟨b, h1, h2.mono evw (fun _ _ h => h) (same b (hMk k ob b hkk h1) (fun e => by subst e; exact hko (hok.inj k o _ _ _ hkk ho h1 hbo)) (fun e => by subst e; exact hks (hok.inj k sg _ _ _ hkk hsg h1 hbs)))⟩
  · rw [updO_at] at hk1 hk2
    have g : ∀ j x, (if j = o then some (⟨e5, 0, [[.wds t' n]]⟩ : PObj) else H j) = some x → ∃ y, H j = some y := fun j x hj => by
      split at hj
      · rename_i e; subst e; exact ⟨_, ho⟩
      · exact ⟨x, hj⟩
    obtain ⟨y, hy⟩ := g k x hk1
    obtain ⟨y', hy'⟩ := g k' x' hk2
    exact hok.inj k k' y y' b hy hy'
  · rw [updO_at] at hk1
    by_cases hko : k = o
    · subst hko
      rw [hbo] at hb; injection hb with hb; subst hb
      exact hk.ctl 0 _ _ hK0 hi0
    · rw [if_neg hko] at hk1
      by_cases hks : k = sg
      · subst hks
        rw [hbs] at hb; injection hb with hb; subst hb
        exact hk.ctl 1 _ _ hK1 hi1
      · exact hkept' b (hok.ctl k x b hk1 hb) (fun e => by subst e; exact hko (hok.inj k o _ _ _ hk1 ho hb hbo)) (fun e => by subst e; exact hks (hok.inj k sg _ _ _ hk1 hsg hb hbs))
  · exact same b hb (fun e => hn ⟨o, _, ho, by rw [e]; exact hbo⟩) (fun e => hn ⟨sg, _, hsg, by rw [e]; exact hbs⟩)
  · obtain ⟨k, x, hk1, hb1⟩ := hh
    rw [updO_at] at hk1
    split at hk1
    · rename_i e; subst e; exact ⟨k, _, ho, hb1⟩
    · exact ⟨k, x, hk1, hb1⟩
  · exact hkept' b hb (fun e => hn o _ ho (by rw [e]; exact hbo)) (fun e => hn sg _ hsg (by rw [e]; exact hbs))
end Go.Proofs.YtmhinddneefmbaaGreat.Pe
