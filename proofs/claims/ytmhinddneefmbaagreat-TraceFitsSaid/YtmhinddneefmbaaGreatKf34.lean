/- A part of the proof of JdH. -/
import Derived.Tactics
import Derived.Tactics2
import Derived.Defers
import Derived.Laws.Pointers
import Derived.Laws.LoneSync
import Derived.RegionTactic
import Derived.RegionCalls
import Derived.WalkKit
import Derived.TacticsInMore
import Derived.RegionIn
import Derived.Laws.Externs
import Derived.Laws.MathBits
import Derived.Laws.Closers25b
import Derived.Laws.BitsAllLaws
import Derived.ChangeAlike
import Derived.Laws.NewBlocks
import Derived.Test.YtmhinddneefmbaaGreatKf29
import Derived.Test.YtmhinddneefmbaaGreatKf32
import Derived.Test.YtmhinddneefmbaaGreatKf33
set_option linter.unusedSimpArgs false
set_option linter.unusedVariables false
set_option linter.unusedSectionVars false
namespace Go.Proofs.YtmhinddneefmbaaGreat.Pe
open Go
def DefOk (P : Program) (g : Nat) (G : List AD → Hp → Nat → Option (Hp × Nat)) : Prop :=
  calleeOk P g = true ∧ ∀ ads H nx H' nx', G ads H nx = some (H', nx') → ∀ (w : World) (ι : Nat → Option Nat) (M : Nat → Prop) (vals : Array Value), (∀ b, M b → b < w.heap.size) → HeapOk w ι M H nx → vals.size = ads.length →
    (∀ (j : Nat) v a, vals[j]? = some v → ads[j]? = some a → RdA w ι M v a) → ∀ (n : Nat), CallsDIn (Fx none) n P g vals .returning w fun e u' w' => u' = .returning ∧ (∃ v, e = .returned v) ∧ ∃ ι' M', EffTo w ι M H w' ι' M' H' nx'
def DeferR (P : Program) (nt : Nat) (c : Code) (s : St) (s' : St) (g : Nat) (dads : List AD) : Prop :=
  ∀ (C : Ctx) (a : Act) (w : World) (ι β : Nat → Option Nat) (M : Nat → Prop) (Qx : Exit → Act → World → Prop) (n : Nat),
    C.nt = nt → Sim C s.env a w ι β M → Plain s →
    (∀ C' a' w' ι' β' M' vals, C'.nt = nt → C'.X = C.X → C'.dfs = ⟨.fn (.func g) #[], vals⟩ :: C.dfs → vals.size = dads.length → (∀ (j : Nat) v x, vals[j]? = some v → dads[j]? = some x → RdA w' ι' M' v x) → Sim C' s'.env a' w' ι' β' M' → Plain s' → Evo C.X M w M' w' → (∀ o b, ι o = some b → ι' o = some b) → Qx .normal a' w') → c.wpIn (Fx none) n P Qx a w
section
variable {P : Program} {S : Sys}
theorem fn_defer (hS : SysOk S P) {f g : Nat} {fd : FD} {G : List AD → Hp → Nat → Option (Hp × Nat)} (hg : DefOk P g G) {ads dads : List AD} {H H' H4 : Hp} {nx nx' nx4 : Nat} {ex : Ex} {s0 s1 s2 s3 : St} {r : RV} {c0 cA dR cR : Code} (hbody : fd.body = .seq c0 (.seq cA (.seq dR cR))) (hfd : S.tab f = some fd) (hle : ads.length ≤ fd.nt ∧ fd.nt ≤ 1000000)
    (k0 : CodeR P fd.nt none c0 ⟨startS ads 0 .leaf, H, nx⟩ .normal s0) (kA : CodeR P fd.nt none cA s0 .normal s1) (kD : DeferR P fd.nt dR s1 s2 g dads) (kR : CodeR P fd.nt none cR s2 ex s3) (hex : ex = .normal ∨ ex = .ret) (hG : G dads s3.H s3.nx = some (H4, nx4)) (hr : resOf S fd ⟨s3.t, H4, nx4⟩ = some (r, H', nx')) : RunAt P f ads H nx r H' nx' := by
  intro w ι M vals hM hok hl hargs
  obtain ⟨fn, k1, k2, k3, k4, k5⟩ := hS.tab f fd hfd
  unfold resOf at hr
  cases hrs : (resQ (ctxS S noE fd.nt) fd.res).runS ⟨s3.t, H4, nx4⟩ [] [] with
  | none => rw [hrs] at hr; cases hr
  | some y =>
    obtain ⟨l, s5, rr, uu⟩ := y
    rw [hrs] at hr
    simp only [Option.bind_some, Option.some.injEq, Prod.mk.injEq] at hr
    obtain ⟨rfl, rfl, rfl⟩ := hr
    obtain ⟨hrun, _, _⟩ := Q.runS_at hrs
    let X : Nat → Prop := fun b => M b ∧ ∀ o x, H o = some x → ι o ≠ some b
    let C0 : Ctx := { ctxS S noE fd.nt with X := X }
    have hsz : (vals ++ Array.replicate (fn.ntmps - vals.size) undef).size = fd.nt := by simp; omega
    obtain ⟨sm0, pl0⟩ := mk_sim (C := C0) (t := startS ads 0 .leaf) (tmps := vals ++ Array.replicate (fn.ntmps - vals.size) undef) hok hM hsz hle.2 rfl rfl (fun i v hi hv => by
      rw [startS_get ads 0 .leaf (by omega)] at hv
      split at hv
      · rename_i hlt
        simp only [Nat.sub_zero] at hv
        cases hx : ads[i]? with
        | none => rw [hx] at hv; cases hv
        | some x =>
          rw [hx] at hv
          simp only [Option.map_some, Option.some.injEq] at hv
          have hil : i < vals.size := by omega
          refine ⟨x, hv.symm, ?_⟩
          have : (vals ++ Array.replicate (fn.ntmps - vals.size) undef).getD i undef = vals[i] := by
            rw [Array.getD_eq_getD_getElem?, Array.getElem?_append_left hil, Array.getElem?_eq_getElem hil]; rfl
          rw [this]
          exact hargs i _ x (Array.getElem?_eq_getElem hil) hx
      · cases hv)
    refine callsIn_fx.1 (callsIn_of_wp_marks (F := Fx none) (n := 0) k1 k2 trivial ?_ rfl)
    rw [hbody]
    refine wpIn_seq (k0 C0 _ w ι _ M ⟨w.heap.size, []⟩ _ 0 none rfl rfl sm0 pl0 (Nat.le_refl _) (Marks.none _ _ _ _) ?_)
    intro C9 a9 w9 ι9 β9 M9 hnt9 hX9 _ sm9 pl9 mk9 ev9 hi9
    refine wpIn_seq (kA C9 a9 w9 ι9 β9 M9 ⟨w.heap.size, []⟩ _ 0 none hnt9 rfl sm9 pl9 ev9.size mk9 ?_)
    intro C1 a1 w1 ι1 β1 M1 hnt1 hX19 _ sm1 pl1 mk1 ev19 hi19
    rw [hX9] at ev19
    have hX1 : C1.X = C0.X := hX19.trans hX9
    have ev1 : Evo C0.X M w M1 w1 := ev9.trans ev19
    have hi1 : ∀ o b, ι o = some b → ι1 o = some b := fun o b h => hi19 o b (hi9 o b h)
    refine wpIn_seq (kD C1 a1 w1 ι1 β1 M1 _ 0 hnt1 sm1 pl1 ?_)
    intro C2 a2 w2 ι2 β2 M2 dv hnt2 hX2 hd2 hdl hda sm2 pl2 ev2 hi2
    refine kR C2 a2 w2 ι2 β2 M2 ⟨w2.heap.size, C2.dfs⟩ _ 0 none hnt2 rfl sm2 pl2 (Nat.le_refl _) (Marks.none _ _ _ _) ?_
    intro C3 a3 w3 ι3 β3 M3 hnt3 hX3 _ sm3 pl3 mk3 ev3 hi3
    have goal : LeavesInM (Fx none) 0 P fn a3.tmps (fun e w' => ∃ v ι' M', e = .returned v ∧ RdV w' ι' M' v (rvOf l) ∧ HeapOk w' ι' M' s5.H s5.nx ∧ (∀ o b, ι o = some b → ι' o = some b) ∧ Evo (fun _ => False) (fun b => ∃ o x, H o = some x ∧ ι o = some b) w (fun b => ∃ o x, s5.H o = some x ∧ ι' o = some b) w' ∧
        (∀ b, M b → (∀ o x, H o = some x → ι o ≠ some b) → M' b) ∧ (∀ b, b < w.heap.size → M' b → M b) ∧ (∀ b, M' b → b < w'.heap.size)) a3.defers .returning w3 := by
      rw [sm3.defs]
      refine leaves_marks C3.dfs w3 mk3 ev3.size fun w4 hsh4 hlow4 => ?_
      show LeavesInM (Fx none) 0 P fn a3.tmps _ C2.dfs .returning w4
      rw [hd2]
      have hcal := callFunc_ok hg.1 dv w4
      have sm4 := sm3.sh pl3 hsh4
      have hX31 : C3.X = C1.X := hX3.trans hX2
      rw [hX1] at ev2
      rw [hX2, hX1] at ev3
      have hda4 : ∀ (j : Nat) v x, dv[j]? = some v → dads[j]? = some x → RdA w4 ι3 M3 v x := fun j v x h1 h2 => ((hda j v x h1 h2).mono ev3 hi3).sh hsh4
      refine ⟨by simp, .inr ⟨fun h => (by cases h), .func g, #[], g, dv, rfl, ?_, fun _ _ => trivial, ?_⟩⟩
      · simp [invoke, hcal]
      have hcall := hg.2 dads s3.H s3.nx H4 nx4 hG w4 ι3 M3 dv sm4.lt (sm4.heapOk (St.env_gs s3)) hdl hda4 (0 - 1)
      refine CallsDIn.mono hcall ?_
      rintro e u' w5 ⟨rfl, ⟨v0, rfl⟩, ι5, M5, heff⟩
      obtain ⟨sm5, evW5⟩ := after_eff sm4 (St.env_gs s3) heff
      rw [← St.env_H] at sm5
      have pl5 : Plain ⟨s3.t, H4, nx4⟩ := pl3.heap _ _
      show LeavesInM (Fx none) 0 P fn a3.tmps _ C1.dfs .returning w5
      have mk5 : Marks ⟨w.heap.size, []⟩ C1.dfs w5 M5 := by
        obtain ⟨ms, e0, p1, p2⟩ := mk1.mono (ev2.trans ev3)
        obtain ⟨ms', e0', _, p2'⟩ := mk1
        have ems : ms = ms' := List.append_cancel_right (e0.symm.trans e0')
        subst ems
        refine ⟨ms, e0, p1, fun d hd => ?_⟩
        obtain ⟨D, q1, q2, q3, q4⟩ := p2 d hd
        obtain ⟨D', q1', _, q3', _⟩ := p2' d hd
        have eD : D = D' := by rw [q1] at q1'; injection q1'
        subst eD
        have hD1 : D < w1.heap.size := (Array.getElem?_eq_some_iff.1 q3').1
        have hD2 : D < w2.heap.size := Nat.lt_of_lt_of_le hD1 ev2.size
        have h4 : w4.heap[D]? = some (.deferred (some [])) := (hlow4 D hD2).trans q3
        have hD4 : D < w4.heap.size := (Array.getElem?_eq_some_iff.1 h4).1
        exact ⟨D, q1, q2, (evW5.same D hD4 q4).trans h4, fun hm => q4 (evW5.back D hD4 hm)⟩
      have ev13 : Evo X M w M3 w3 := (ev1.trans ev2).trans ev3
      have ev14 : Evo X M w M3 w4 := ev13.sh hsh4 fun b hb => hlow4 b (Nat.lt_of_lt_of_le hb (Nat.le_trans ev1.size ev2.size))
      have hCX : C3.X = X := hX31.trans hX1
      rw [hCX] at evW5
      have ev15 : Evo X M w M5 w5 := ev14.trans evW5
      refine leaves_marks (B := ⟨w.heap.size, []⟩) C1.dfs w5 mk5 ev15.size fun w6 hsh6 hlow6 => ?_
      have sm6 := sm5.sh pl5 hsh6
      have hC : Ctx.Ok { ctxS S noE fd.nt with X := C3.X, dfs := C3.dfs } P := ctx_ok hS (fun f _ ads H nx r H' nx' h => by cases h) (fun lp ads H nx r H' nx' h => by cases h) fd.nt C3.X C3.dfs (fun _ => true)
      have sm7 : Sim { ctxS S noE fd.nt with X := C3.X, dfs := C3.dfs } (St.env ⟨s3.t, H4, nx4⟩) a3 w6 ι5 β3 M5 := sm6.ctx hnt3.symm rfl rfl
      obtain ⟨β7, M7, v, s7, e7, r7, hrv⟩ := results_sound (P := P) (fn := fn) hC sm7 (by rw [k4, resQ_cx (ctxS S noE fd.nt)]; exact hrun)
      show ∃ v, (results fn a3.tmps).run P w6 = .ok v w6 ∧ _
      refine ⟨v, hrv, v, ι5, M7, rfl, r7, ?_⟩
      have ev7 : Evo X M w M7 w6 := (ev15.sh hsh6 hlow6).trans (X := X) (by have e7' := e7; rw [show ({ ctxS S noE fd.nt with X := C3.X, dfs := C3.dfs } : Ctx).X = X from hCX] at e7'; exact e7')
      obtain ⟨t1, t2, t3, t4, t5, t6⟩ := effTo_of_sim (C := { ctxS S noE fd.nt with X := C3.X, dfs := C3.dfs }) (X := X) rfl hCX s7 (St.env_gs s5) ev7 (fun o b h => heff.ext o b (hi3 o b (hi2 o b (hi1 o b h))))
      exact ⟨t1, t2, t3, t4, t5, t6⟩
    rcases hex with rfl | rfl
    · exact goal
    · exact goal
end
section
variable {P : Program} {C : Ctx} {E E1 : Env} {a : Act} {w : World} {ι β : Nat → Option Nat} {M : Nat → Prop}
theorem ops_prefix {ro : Option Nat} {n : Nat} {ops : Array Oper} {Qx : Exit → Act → World → Prop} {rest : List Nat} (hC : C.Ok P) : ∀ (l : List Oper) (k : Nat) (E : Env) (a : Act) (w : World) (ι β : Nat → Option Nat) (M : Nat → Prop), (∀ j, j < l.length → l[j]? = ops[k + j]?) →
    (runFrom C ops k l).run E = some ((), E1) → Sim C E a w ι β M → Gens E (· ≤ k) →
    (∀ a' w' ι' β' M', Sim C E1 a' w' ι' β' M' → Evo C.X M w M' w' → (∀ o b, ι o = some b → ι' o = some b) → wpOpsIn (Fx ro) n P ops Qx rest a' w') → wpOpsIn (Fx ro) n P ops Qx (List.range' k l.length ++ rest) a w
  | [], k, E, a, w, ι, β, M, _, hq, h, hg, hK => by
    obtain ⟨_, rfl⟩ := ret_run hq
    exact hK _ _ _ _ _ h (Evo.refl _ _) (fun _ _ h => h)
  | o :: l, k, E, a, w, ι, β, M, hl, hq, h, hg, hK => by
    simp only [runFrom] at hq
    obtain ⟨_, E2, h1, hq2⟩ := Q.run_bind_some hq
    simp only [List.length_cons, List.range'_succ, List.cons_append]
    rw [wpOpsIn_cons]
    have ho : ops[k]? = some o := by have := hl 0 (by simp); simpa using this.symm
    have hg2 : Gens E2 (· ≤ k + 1) := ((grd_gen (U := (· ≤ k + 1)) (Nat.le_refl _)).run (hg.mono fun g hg => Nat.le_succ_of_le hg) h1).1
    refine grd_sound hC ho h1 h hg (by omega) ?_
    intro a' w' ι' β' M' s e i
    refine ops_prefix hC l (k + 1) E2 a' w' ι' β' M' (fun j hj => ?_) hq2 s hg2 fun a2 w2 ι2 β2 M2 s2 e2 i2 => hK a2 w2 ι2 β2 M2 s2 (e.trans e2) (fun o b h => i2 _ _ (i _ _ h))
    have := hl (j + 1) (by simpa using hj)
    simpa [Nat.add_assoc, Nat.add_comm 1 j] using this
end
noncomputable def opD (s : St) : Operand → Option AD
  | .tmp t => br (Nat.blt t 1000000) (match s.t.get t with
    | some (.v a) => some a
    | _ => none) none
  | .const v => match cst v with
    | some d => some (.one d)
    | none => none
  | _ => none
noncomputable def opsD (s : St) : List Operand → Option (List AD)
  | [] => some []
  | x :: l => match opD s x with
    | some a => match opsD s l with
      | some r => some (a :: r)
      | none => none
    | none => none
theorem opD_rd {C : Ctx} {s : St} {a : Act} {w : World} {ι β : Nat → Option Nat} {M : Nat → Prop} (h : Sim C s.env a w ι β M) {x : Operand} {d : AD} (hx : opD s x = some d) : RdA w ι M (a.eval x) d := by
  unfold opD at hx
  split at hx
  · rename_i t
    obtain ⟨ht, hx⟩ := br_some hx
    have ht := blt_lt ht
    split at hx
    · rename_i q hq
      injection hx with hx
      subst hx
      have hh := h.hold t
      rw [St.env_ne _ (show t ≠ gs from fun e => by rw [e] at ht; exact absurd ht (by decide)), hq] at hh
      exact hh
    · cases hx
  · split at hx
    · rename_i v q hq
      injection hx with hx
      subst hx
      exact cst_sound hq
    · cases hx
  · cases hx
theorem opsD_rd {C : Ctx} {s : St} {a : Act} {w : World} {ι β : Nat → Option Nat} {M : Nat → Prop} (h : Sim C s.env a w ι β M) : ∀ {l : List Operand} {ds : List AD}, opsD s l = some ds → l.length = ds.length ∧ ∀ (j : Nat) x d, l[j]? = some x → ds[j]? = some d → RdA w ι M (a.eval x) d
  | [], ds, hx => by
    injection hx with hx
    subst hx
    exact ⟨rfl, fun j x d h => by simp at h⟩
  | x :: l, ds, hx => by
    unfold opsD at hx
    split at hx
    · rename_i q hq
      split at hx
      · rename_i r hr
        injection hx with hx
        subst hx
        obtain ⟨h1, h2⟩ := opsD_rd h hr
        refine ⟨by simp [h1], fun j y d hy hd => ?_⟩
        cases j with
        | zero => simp at hy hd; subst hy hd; exact opD_rd h hq
        | succ j => exact h2 j y d (by simpa using hy) (by simpa using hd)
      · cases hx
    · cases hx
theorem defer_region {P : Program} {S : Sys} (hS : SysOk S P) {nt id m g : Nat} {ops : Array Oper} {o : Oper} {c : Call} {s sf : St} {dads : List AD} (hsize : ops.size = m + 1) (hpre : runF (ctxS S noE nt) ops 0 (ops.toList.take m) s = some sf) (ho : ops[m]? = some o) (hop : o.op = .defer c) (hc : c.callee = .value (.func g))
    (hdst : o.dst = none) (hgrd : o.guard = none) (hds : opsD sf c.args.toList = some dads) : DeferR P nt (.region id ops false) s sf g dads := by
  intro C a w ι β M Qx n hnt hs hp hK
  refine wpIn_region ?_
  rw [hsize, show List.range (m + 1) = List.range' 0 (ops.toList.take m).length ++ [m] by rw [List.length_take, Array.length_toList, hsize, Nat.min_eq_left (Nat.le_succ m), List.range_succ, List.range_eq_range']]
  have hf : ∀ f, (S.tab f).isSome = true → FnEff P f (noE.fn f) := fun f _ ads H nx r H' nx' h => by cases h
  have hy : YldOk P noE.yld := fun lp ads H nx r H' nx' h => by cases h
  have hC := ctx_ok hS hf hy nt C.X C.dfs (fun _ => true)
  have hs0 : Sim { ctxS S noE nt with X := C.X, dfs := C.dfs } s.env a w ι β M := hs.ctx hnt.symm rfl rfl
  obtain ⟨rs, hr⟩ := runF_ok (C := ctxS S noE nt) ⟨fun _ => rfl, rfl, fun _ => rfl, fun _ => rfl⟩ hpre
  rw [← runRec_cx (ctxS S noE nt) C.X C.dfs] at hr
  obtain ⟨htx, _, _, hpb, _⟩ := runRec_txt _ _ _ _ _ hr
  have pl : Plain sf := fun i => by
    have := hpb (fun i => by
      rcases hp i with h' | h'
      · exact .inl h'
      · exact .inr (.inr h')) i
    simpa using this
  refine ops_prefix hC _ 0 s.env a w ι β M (fun j hj => ?_) htx.run hs0 hp.gens fun a1 w1 ι1 β1 M1 sm1 ev1 i1 => ?_
  · rw [List.getElem?_take_of_lt (by rw [List.length_take] at hj; omega)]
    simp
  have sm : Sim C sf.env a1 w1 ι1 β1 M1 := sm1.ctx (C' := C) hnt rfl rfl
  obtain ⟨hl, hrd⟩ := opsD_rd sm hds
  rw [wpOpsIn_cons]
  unfold wpOpIn
  rw [ho]
  simp only
  rw [if_pos (by simp [Region.wanted, hgrd])]
  have hrun : (o.semAt (Fx none).round a1.eval).run P w1 = .ok (.defer ⟨.fn (.func g) #[], c.args.map a1.eval⟩) w1 := by
    show (o.semAt none a1.eval).run P w1 = _
    rw [Oper.semAt_none]
    simp [execOp, hop, resolve, hc, Act.eval, Deferred.ofValue]
  refine ⟨fun _ _ => trivial, ?_⟩
  rw [hrun, Oper.uponIn_defer, hdst]
  show wpOpsIn (Fx none) n P ops Qx [] { a1 with defers := ⟨.fn (.func g) #[], c.args.map a1.eval⟩ :: a1.defers } w1
  refine hK { C with dfs := ⟨.fn (.func g) #[], c.args.map a1.eval⟩ :: C.dfs } _ w1 ι1 β1 M1 (c.args.map a1.eval) hnt rfl rfl ?_ (fun j v x hv hx => ?_) ?_ pl ev1 i1
  · rw [Array.size_map, ← Array.length_toList, hl]
  · rw [Array.getElem?_map] at hv
    cases hj : c.args[j]? with
    | none => rw [hj] at hv; cases hv
    | some y =>
      rw [hj] at hv
      injection hv with hv
      subst hv
      exact hrd j y x (by rw [Array.getElem?_toList]; exact hj) hx
  · have := sm.dfr (⟨.fn (.func g) #[], c.args.map a1.eval⟩ :: C.dfs)
    rw [sm.defs]
    exact this
end Go.Proofs.YtmhinddneefmbaaGreat.Pe
namespace Go.Proofs.YtmhinddneefmbaaGreat.Pe
open Go Go.Proofs
set_option maxRecDepth 100000
abbrev addN : Nat := 38
abbrev ldN : Nat := 47
theorem add_arith {x d s : Int} (hs : s = x + d) (h1 : -9223372036854775808 ≤ s) (h2 : s ≤ 9223372036854775807) (w : World) : (Op.intArith .add .i64 x d).run Tryz.prog w = .ok (.int .i64 s) w := by
  subst hs
  have e : IntKind.i64.wrap (x + d) = x + d := by rw [IntKind.wrap_i64]; omega
  simp [go_sem, e]
theorem int64_add {a : Addr} {w : World} {x d s : Int} (hc : w.cell? a = some (.int .i64 x)) (hz : w.frozen? a = false) (hs : s = x + d) (h1 : -9223372036854775808 ≤ s) (h2 : s ≤ 9223372036854775807) :
    Calls Tryz.prog 38 #[.pointer (some a), .int .i64 d] w fun e w' => e = .returned (.int .i64 s) ∧ w' = w.setCell a (.int .i64 s) := by
  have hadd := run_call_add (P := Tryz.prog) Tryz.func79 (by kernel_rfl) (by kernel_rfl) (by kernel_rfl) .i64 (by kernel_rfl) (y := d) (s := s) hc hz (add_arith hs h1 h2 w)
  go_enter Tryz.func38, Tryz.ntmps38
  go_wp2
  go_ret
  subst hs
  exact ⟨rfl, rfl⟩
theorem callsDIn_fx {ro : Option Nat} {n m : Nat} {P : Program} {f : FuncId} {args : Array Value} {u : FrameMode} {w : World} {R : Ending → FrameMode → World → Prop} (h : CallsDIn Fence.wide m P f args u w R) : CallsDIn (Fx ro) n P f args u w R :=
  ⟨trivial, fun c cs hu _ => let ⟨e, u', w', fr, r, s, x⟩ := h.2 c cs hu (room_wide _); ⟨e, u', w', fr, r, by rw [fenced_fx]; exact s, x⟩⟩
theorem int64_addD {a : Addr} {w : World} {x d s : Int} (hc : w.cell? a = some (.int .i64 x)) (hz : w.frozen? a = false) (hs : s = x + d) (h1 : -9223372036854775808 ≤ s) (h2 : s ≤ 9223372036854775807) (u : FrameMode) :
    CallsDIn Fence.wide 0 Tryz.prog 38 #[.pointer (some a), .int .i64 d] u w fun e u' w' => u' = u ∧ (e = .returned (.int .i64 s) ∧ w' = w.setCell a (.int .i64 s)) := by
  have hadd := run_call_add (P := Tryz.prog) Tryz.func79 (by kernel_rfl) (by kernel_rfl) (by kernel_rfl) .i64 (by kernel_rfl) (y := d) (s := s) hc hz (add_arith hs h1 h2 w)
  refine callsDIn_of_wp (R := fun e w' => e = .returned (.int .i64 s) ∧ w' = w.setCell a (.int .i64 s)) Tryz.func38 rfl trivial (wpIn_wide.2 ?_) rfl
  simp only [Tryz.ntmps38, List.size_toArray, List.length_cons, List.length_nil, Nat.reduceAdd, Nat.reduceSub, Array.replicate_succ,
     Array.replicate_zero, List.push_toArray, List.append_toArray, List.nil_append, List.cons_append]
  go_wp2
  go_ret
  subst hs
  exact ⟨rfl, rfl⟩
theorem int64_load {a : Addr} {w : World} {x : Int} (hc : w.cell? a = some (.int .i64 x)) :
    Calls Tryz.prog 47 #[.pointer (some a)] w fun e w' => e = .returned (.int .i64 x) ∧ w' = w := by
  have hl := run_call_load (P := Tryz.prog) Tryz.func84 (by kernel_rfl) (by kernel_rfl) (by kernel_rfl) .i64 (by kernel_rfl) hc
  go_enter Tryz.func47, Tryz.ntmps47
  go_wp2
  go_ret
  exact ⟨rfl, rfl⟩
noncomputable def sumI (x d : Int) : Option Int := match x, d with
  | .ofNat n, .ofNat m => br (Nat.ble (Nat.add n m) 9223372036854775807) (some (.ofNat (Nat.add n m))) none
  | _, _ => none
theorem sumI_ok {x d s : Int} (h : sumI x d = some s) : s = x + d ∧ -9223372036854775808 ≤ s ∧ s ≤ 9223372036854775807 := by
  unfold sumI at h
  split at h
  · rename_i n m
    obtain ⟨h1, h⟩ := br_some h
    have h1 : n + m ≤ 9223372036854775807 := Nat.le_of_ble_eq_true h1
    injection h with h
    subst h
    have e : (Int.ofNat (Nat.add n m) : Int) = ((n + m : Nat) : Int) := rfl
    rw [e]
    refine ⟨by show ((n + m : Nat) : Int) = (n : Int) + (m : Int); omega, by omega, by omega⟩
  · cases h
noncomputable def addX (ads : List AD) (H : Hp) (nx : Nat) : Option (RV × Hp × Nat) := match ads with
  | [.one (.ptr m sz 0 off), .one (.int .i64 d)] => match H m with
    | some ⟨e, sz2, [row]⟩ => br (Nat.beq sz2 sz) (br (Nat.blt 0 sz) (match row[off]? with
      | some (.int .i64 x) => match sumI x d with
        | some s => some (.a (.one (.int .i64 s)), setD H m e sz row off (.int .i64 s), nx)
        | none => none
      | _ => none) none) none
    | _ => none
  | _ => none
noncomputable def ldX (ads : List AD) (H : Hp) (nx : Nat) : Option (RV × Hp × Nat) := match ads with
  | [.one (.ptr m sz 0 off)] => match H m with
    | some ⟨e, sz2, [row]⟩ => br (Nat.beq sz2 sz) (br (Nat.blt 0 sz) (match row[off]? with
      | some (.int .i64 x) => some (.a (.one (.int .i64 x)), H, nx)
      | _ => none) none) none
    | _ => none
  | _ => none
theorem two_vals {vals : Array Value} (h : vals.size = 2) : ∃ a b, vals = #[a, b] := by
  obtain ⟨l⟩ := vals
  match l, h with
  | [x, y], _ => exact ⟨x, y, rfl⟩
theorem one_val {vals : Array Value} (h : vals.size = 1) : ∃ a, vals = #[a] := by
  obtain ⟨l⟩ := vals
  match l, h with
  | [x], _ => exact ⟨x, rfl⟩
theorem add_ok : FnEff Tryz.prog addN addX := by
  rw [FnEff.iff]
  intro ads H nx r H' nx' hq
  unfold addX at hq
  split at hq
  · rename_i m sz off d
    split at hq
    · rename_i e sz2 row hm
      obtain ⟨e1, hq⟩ := br_some hq
      have e1 := Nat.eq_of_beq_eq_true e1
      subst e1
      obtain ⟨e2, hq⟩ := br_some hq
      have e2 := blt_lt e2
      split at hq
      · rename_i x hx
        split at hq
        · rename_i s hs
          have hq := Option.some.inj hq
          obtain ⟨q1, q2⟩ := Prod.mk.inj hq
          obtain ⟨q2, q3⟩ := Prod.mk.inj q2
          subst q1; subst q2; subst q3
          obtain ⟨s1, s2, s3⟩ := sumI_ok hs
          intro w ι M vals hM hok hsz hargs
          obtain ⟨v0, v1, rfl⟩ := two_vals hsz
          have r0 : Rd w ι M v0 (.ptr m sz2 0 off) := hargs 0 v0 _ rfl rfl
          have r1 : Rd w ι M v1 (.int .i64 d) := hargs 1 v1 _ rfl rfl
          obtain ⟨b, hb, _⟩ := hok.objs _ _ hm
          cases r1
          have ev0 : v0 = .pointer (some ⟨b, off, none⟩) := by
            cases r0 with
            | ptr _ _ _ _ b' h hz => rw [hb] at h; injection h with h; subst h; simp
          subst ev0
          obtain ⟨u0, c0, rd0, f0⟩ := cell_of hok hm (by omega) hb hx
          cases rd0
          refine (int64_add c0 f0 s1 s2 s3).mono fun e w' hp => ?_
          obtain ⟨rfl, rfl⟩ := hp
          obtain ⟨t1, t2, t3, t4, t5, t6⟩ := setCell_eff (v := .int .i64 s) hM hok hm (by omega) hb (List.getElem?_eq_some_iff.1 hx).1 (.int .i64 s)
          exact ⟨_, ι, M, rfl, Rd.int _ _, t1, t2, t3, t4, t5, t6⟩
        · cases hq
      · cases hq
    · cases hq
  · cases hq
theorem ld_ok : FnEff Tryz.prog ldN ldX := by
  rw [FnEff.iff]
  intro ads H nx r H' nx' hq
  unfold ldX at hq
  split at hq
  · rename_i m sz off
    split at hq
    · rename_i e sz2 row hm
      obtain ⟨e1, hq⟩ := br_some hq
      have e1 := Nat.eq_of_beq_eq_true e1
      subst e1
      obtain ⟨e2, hq⟩ := br_some hq
      have e2 := blt_lt e2
      split at hq
      · rename_i x hx
        have hq := Option.some.inj hq
        obtain ⟨q1, q2⟩ := Prod.mk.inj hq
        obtain ⟨q2, q3⟩ := Prod.mk.inj q2
        subst q1; subst q2; subst q3
        intro w ι M vals hM hok hsz hargs
        obtain ⟨v0, rfl⟩ := one_val hsz
        have r0 : Rd w ι M v0 (.ptr m sz2 0 off) := hargs 0 v0 _ rfl rfl
        obtain ⟨b, hb, _⟩ := hok.objs _ _ hm
        have ev0 : v0 = .pointer (some ⟨b, off, none⟩) := by
          cases r0 with
          | ptr _ _ _ _ b' h hz => rw [hb] at h; injection h with h; subst h; simp
        subst ev0
        obtain ⟨u0, c0, rd0, f0⟩ := cell_of hok hm (by omega) hb hx
        cases rd0
        refine (int64_load c0).mono fun e w' hp => ?_
        obtain ⟨rfl, hw⟩ := hp
        subst hw
        obtain ⟨t1, t2, t3, t4, t5, t6⟩ := EffTo.same (w1 := w') hM hok rfl rfl rfl rfl
        exact ⟨_, ι, M, rfl, Rd.int _ _, t1, t2, t3, t4, t5, t6⟩
      · cases hq
    · cases hq
  · cases hq
noncomputable def addG (ads : List AD) (H : Hp) (nx : Nat) : Option (Hp × Nat) := match addX ads H nx with
  | some (_, H', nx') => some (H', nx')
  | none => none
theorem addG_ok : DefOk Tryz.prog addN addG := by
  refine ⟨by kernel_rfl, ?_⟩
  intro ads H nx H' nx' hq w ι M vals hM hok hsz hargs n
  unfold addG at hq
  split at hq
  rotate_left
  · cases hq
  rename_i r0 H0 nx0 hq0
  have hq := Option.some.inj hq
  obtain ⟨q1, q2⟩ := Prod.mk.inj hq
  subst q1; subst q2
  unfold addX at hq0
  split at hq0
  · rename_i m sz off d
    split at hq0
    · rename_i e sz2 row hm
      obtain ⟨e1, hq⟩ := br_some hq0
      have e1 := Nat.eq_of_beq_eq_true e1
      subst e1
      obtain ⟨e2, hq⟩ := br_some hq
      have e2 := blt_lt e2
      split at hq
      · rename_i x hx
        split at hq
        · rename_i s hs
          have hq := Option.some.inj hq
          obtain ⟨q1, q2⟩ := Prod.mk.inj hq
          obtain ⟨q2, q3⟩ := Prod.mk.inj q2
          subst q1; subst q2; subst q3
          obtain ⟨s1, s2, s3⟩ := sumI_ok hs
          obtain ⟨v0, v1, rfl⟩ := two_vals hsz
          have r0 : Rd w ι M v0 (.ptr m sz2 0 off) := hargs 0 v0 _ rfl rfl
          have r1 : Rd w ι M v1 (.int .i64 d) := hargs 1 v1 _ rfl rfl
          obtain ⟨b, hb, _⟩ := hok.objs _ _ hm
          cases r1
          have ev0 : v0 = .pointer (some ⟨b, off, none⟩) := by
            cases r0 with
            | ptr _ _ _ _ b' h hz => rw [hb] at h; injection h with h; subst h; simp
          subst ev0
          obtain ⟨u0, c0, rd0, f0⟩ := cell_of hok hm (by omega) hb hx
          cases rd0
          refine CallsDIn.mono (callsDIn_fx (int64_addD c0 f0 s1 s2 s3 .returning)) ?_
          rintro e u' w' ⟨rfl, rfl, rfl⟩
          exact ⟨rfl, ⟨_, rfl⟩, ι, M, setCell_eff (v := .int .i64 s) hM hok hm (by omega) hb (List.getElem?_eq_some_iff.1 hx).1 (.int .i64 s)⟩
        · cases hq
      · cases hq
    · cases hq0
  · cases hq0
end Go.Proofs.YtmhinddneefmbaaGreat.Pe
namespace Go.Proofs.YtmhinddneefmbaaGreat.Pe
open Go Go.Proofs
set_option maxRecDepth 100000
abbrev wAddN : Nat := 156
theorem word_add {a b : Nat} (ha : a < 18446744073709551616) (hb : b < 18446744073709551616) (w : World) :
    Calls Tryz.prog wAddN #[.int .u64 a, .int .u64 b] w fun e w' => e = .returned (.tuple #[.int .u64 ((if a + b < 18446744073709551616 then a + b else 0 : Nat) : Int), .bool (decide (a + b < 18446744073709551616))]) ∧ w' = w := by
  have hadd : (callFunc 202 #[.int .u64 a, .int .u64 b, .int .u64 0]).run Tryz.prog w = .ok (.value (.tuple #[.int .u64 (((a : Int) + b + 0) % 18446744073709551616), .int .u64 (((a : Int) + b + 0) / 18446744073709551616)])) w := by
    rw [run_callFunc_extern (P := Tryz.prog) (f := 202) (fn := Tryz.f202) Tryz.func202 (by kernel_rfl) (by kernel_rfl) (by kernel_rfl) (e := add64Entry) (by kernel_rfl), run_add64 a b 0 (by omega) (by omega) (by omega) (by omega)]
    rfl
  by_cases h : a + b < 18446744073709551616
  · have e1 : ((a : Int) + b + 0) / 18446744073709551616 = 0 := by omega
    have e2 : ((a : Int) + b + 0) % 18446744073709551616 = a + b := by omega
    rw [e1, e2] at hadd
    rw [if_pos h]
    go_enter Tryz.func156, Tryz.ntmps156
    go_wp2
    go_ret2
    simp [h]
  · have e1 : ((a : Int) + b + 0) / 18446744073709551616 = 1 := by omega
    rw [e1] at hadd
    rw [if_neg h]
    go_enter Tryz.func156, Tryz.ntmps156
    go_wp2
    go_ret2
    simp [h]
noncomputable def wAddX (ads : List AD) (H : Hp) (nx : Nat) : Option (RV × Hp × Nat) := match ads with
  | [.one (.int .u64 (.ofNat a)), .one (.int .u64 (.ofNat b))] => br (Nat.blt a 18446744073709551616) (br (Nat.blt b 18446744073709551616) (br (Nat.blt (Nat.add a b) 18446744073709551616) (some (.tup [.one (.int .u64 (.ofNat (Nat.add a b))), .one (.bool true)], H, nx)) (some (.tup [.one (.int .u64 (.ofNat 0)), .one (.bool false)], H, nx))) none) none
  | _ => none
theorem wAdd_ok : FnEff Tryz.prog wAddN wAddX := by
  rw [FnEff.iff]
  intro ads H nx r H' nx' hq
  unfold wAddX at hq
  split at hq
  · rename_i a b
    obtain ⟨e1, hq⟩ := br_some hq
    obtain ⟨e2, hq⟩ := br_some hq
    have e1 := blt_lt e1
    have e2 := blt_lt e2
    intro w ι M vals hM hok hsz hargs
    obtain ⟨v0, v1, rfl⟩ := two_vals hsz
    have r0 : Rd w ι M v0 (.int .u64 a) := hargs 0 v0 _ rfl rfl
    have r1 : Rd w ι M v1 (.int .u64 b) := hargs 1 v1 _ rfl rfl
    cases r0
    cases r1
    refine (word_add e1 e2 w).mono fun e w' hp => ?_
    obtain ⟨rfl, hw⟩ := hp
    subst hw
    obtain ⟨t1, t2, t3, t4, t5, t6⟩ := EffTo.same (w1 := w') hM hok rfl rfl rfl rfl
    cases hc : Nat.blt (Nat.add a b) 18446744073709551616 with
    | true =>
      rw [hc] at hq
      have hlt : a + b < 18446744073709551616 := blt_lt hc
      have hq := Option.some.inj hq
      obtain ⟨q1, q2⟩ := Prod.mk.inj hq
      obtain ⟨q2, q3⟩ := Prod.mk.inj q2
      subst q1; subst q2; subst q3
      refine ⟨_, ι, M, rfl, ⟨_, rfl, rfl, fun j v x hv hx => ?_⟩, t1, t2, t3, t4, t5, t6⟩
      match j with
      | 0 => simp [hlt] at hv hx; subst hv; subst hx; exact .int _ _
      | 1 => simp [hlt] at hv hx; subst hv; subst hx; exact .bool _
      | j + 2 => simp at hv
    | false =>
      rw [hc] at hq
      have hlt : ¬ a + b < 18446744073709551616 := fun h => by
        have : Nat.blt (Nat.add a b) 18446744073709551616 = true := Nat.ble_eq_true_of_le h
        rw [hc] at this; cases this
      have hq := Option.some.inj hq
      obtain ⟨q1, q2⟩ := Prod.mk.inj hq
      obtain ⟨q2, q3⟩ := Prod.mk.inj q2
      subst q1; subst q2; subst q3
      refine ⟨_, ι, M, rfl, ⟨_, rfl, rfl, fun j v x hv hx => ?_⟩, t1, t2, t3, t4, t5, t6⟩
      match j with
      | 0 => simp [hlt] at hv hx; subst hv; subst hx; exact .int _ _
      | 1 => simp [hlt] at hv hx; subst hv; subst hx; exact .bool _
      | j + 2 => simp at hv
  · cases hq
end Go.Proofs.YtmhinddneefmbaaGreat.Pe
namespace Go.Proofs.YtmhinddneefmbaaGreat.Pe
open Go Go.Proofs
set_option maxRecDepth 100000
theorem on_disable (w : World) : (callFunc 350 #[]).run Tryz.prog w = .ok (.value (.tuple #[])) w := run_call_mark0 Tryz.func350 (by kernel_rfl) (by kernel_rfl) (by kernel_rfl) .disable (by kernel_rfl) w
theorem on_enable (w : World) : (callFunc 352 #[]).run Tryz.prog w = .ok (.value (.tuple #[])) w := run_call_mark0 Tryz.func352 (by kernel_rfl) (by kernel_rfl) (by kernel_rfl) .enable (by kernel_rfl) w
theorem on_acquire (a : Addr) (w : World) : (callFunc 353 #[.pointer (some a)]).run Tryz.prog w = .ok (.value (.tuple #[])) w := run_call_marked Tryz.func353 (by kernel_rfl) (by kernel_rfl) (by kernel_rfl) .acquire (by kernel_rfl) a w
theorem on_releaseMerge (a : Addr) (w : World) : (callFunc 355 #[.pointer (some a)]).run Tryz.prog w = .ok (.value (.tuple #[])) w := run_call_marked Tryz.func355 (by kernel_rfl) (by kernel_rfl) (by kernel_rfl) .releaseMerge (by kernel_rfl) a w
theorem store_deferred (a : Addr) (x : Value) (u : FrameMode) (w : World) (hc : w.cell? a = some x) (hz : w.frozen? a = false) :
    CallsD Tryz.prog 277 #[.pointer (some a), .bool true] u w fun e u' w' => u' = u ∧ (e = .returned (.tuple #[]) ∧ w' = w.drew.setCell a (.int .u32 1)) := by
  have hc' : w.drew.cell? a = some x := by go_simp
  have hz' : w.drew.frozen? a = false := by go_simp
  have hst := run_call_store (P := Tryz.prog) Tryz.func310 (by kernel_rfl) (by kernel_rfl) (by kernel_rfl) (by kernel_rfl) (k := .u32) (y := 1) hc' hz'
  go_enter_d Tryz.func277, Tryz.ntmps277
  go_wp2
  go_region_calls
  all_goals (go_end0; exact ⟨rfl, rfl⟩)
theorem unlock_deferred (a : Addr) (u : FrameMode) (w : World) (hc : w.cell? a = some (.int .i32 1)) (hz : w.frozen? a = false) :
    CallsD Tryz.prog 276 #[.pointer (some a)] u w fun e u' w' => u' = u ∧ (e = .returned (.tuple #[]) ∧ w' = w.setCell a (.int .i32 0)) := by
  have hd := on_disable
  have he := on_enable
  have hr := on_releaseMerge
  have hadd := run_call_add (P := Tryz.prog) Tryz.func356 (by kernel_rfl) (by kernel_rfl) (by kernel_rfl) .i32 (by kernel_rfl) (y := -1) (s := 0) hc hz (by simp [go_sem]; rfl)
  have hcv := run_convert_to_unsafe (P := Tryz.prog) (src := 429) (dst := 433) Tryz.underlying429 Tryz.underlying433 (by kernel_rfl) hc
  go_enter_d Tryz.func276, Tryz.ntmps276
  go_wp2
  go_end0
  go_wp2
  go_end0
  exact ⟨rfl, rfl⟩
theorem lock_free (a : Addr) (w : World) (hc : w.cell? a = some (.int .i32 0)) (hz : w.frozen? a = false) :
    Calls Tryz.prog 275 #[.pointer (some a)] w fun e w' => e = .returned (.tuple #[]) ∧ w' = w.setCell a (.int .i32 1) := by
  have hd := on_disable
  have he := on_enable
  have ha := on_acquire
  have hcas := run_call_cas_hit (P := Tryz.prog) Tryz.func351 (by kernel_rfl) (by kernel_rfl) (by kernel_rfl) .i32 (by kernel_rfl) (y := 1) hc hz
  have hc' : (w.setCell a (.int .i32 1)).cell? a = some (.int .i32 1) := World.cell?_setCell_same w a _ hc
  have hcv := run_convert_to_unsafe (P := Tryz.prog) (src := 429) (dst := 433) Tryz.underlying429 Tryz.underlying433 (by kernel_rfl) hc'
  go_enter Tryz.func275, Tryz.ntmps275
  go_wp2
  first | go_end0 | (simp only [Exit.inBlock, Exit.then]; refine bodyPost_ret (results_none rfl _ _ _) rfl ?_) | refine bodyPost_ret (results_none rfl _ _ _) rfl ?_
  go_wp2
  go_end0
  exact ⟨rfl, rfl⟩
end Go.Proofs.YtmhinddneefmbaaGreat.Pe
namespace Go.Proofs.YtmhinddneefmbaaGreat.Pe
open Go Go.Proofs
set_option maxRecDepth 100000
abbrev prepN : Nat := 179
section
variable {b off : Nat} {vm : Value} {w : World} {Post : World → Prop}
set_option maxHeartbeats 1600000 in
theorem slow_run (h0 : w.cell? ⟨b, off, none⟩ = some (.int .u32 0)) (h1 : w.cell? ⟨b, off + 1, none⟩ = some (.int .i32 0)) (f0 : w.frozen? ⟨b, off, none⟩ = false) (f1 : w.frozen? ⟨b, off + 1, none⟩ = false)
    (hcall : Calls Tryz.prog 179 #[vm] (w.setCell ⟨b, off + 1, none⟩ (.int .i32 1)) fun e w' => e = .returned (.tuple #[]) ∧ Post w')
    (hP : ∀ w', Post w' → (∃ x, w'.cell? ⟨b, off, none⟩ = some x) ∧ w'.cell? ⟨b, off + 1, none⟩ = some (.int .i32 1) ∧ w'.frozen? ⟨b, off, none⟩ = false ∧ w'.frozen? ⟨b, off + 1, none⟩ = false) :
    Calls Tryz.prog 227 #[.pointer (some ⟨b, off, none⟩), .func (.func 179) #[vm] #[]] w fun e w' => e = .returned (.tuple #[]) ∧
      ∃ w2, Post w2 ∧ w' = (w2.drew.setCell ⟨b, off, none⟩ (.int .u32 1)).setCell ⟨b, off + 1, none⟩ (.int .i32 0) := by
  have hl := run_call_load (P := Tryz.prog) Tryz.func274 (by kernel_rfl) (by kernel_rfl) (by kernel_rfl) .u32 (by kernel_rfl) (w := w.setCell ⟨b, off + 1, none⟩ (.int .i32 1)) (a := ⟨b, off, none⟩) (x := 0) ((World.cell?_setCell_other _ ⟨b, off + 1, none⟩ ⟨b, off, none⟩ _ (by simp)).trans h0)
  have hnot : ∀ (x : Bool) (w : World), (Op.unary .not (.bool x)).run Tryz.prog w = .ok (.bool (!x)) w := fun _ _ => rfl
  go_enter_defers Tryz.func227, Tryz.ntmps227
  go_wp2_with (first
    | (go_at_call 275; refine (lock_free ⟨b, off + 1, none⟩ _ h1 f1).mono ?_; rintro e w' ⟨rfl, rfl⟩)
    | (go_at_call 179; refine hcall.mono ?_; rintro e w' ⟨rfl, hw⟩)
    | go_in)
  obtain ⟨⟨x0, p0⟩, p1, z0, z1⟩ := hP _ hw
  refine leaves_cons (f := 277) (args := #[.pointer (some ⟨b, off, none⟩), .bool true]) (by simp) (by simp [go_sem]) ?_
  refine (store_deferred ⟨b, off, none⟩ x0 .returning _ p0 z0).mono ?_
  rintro e u' w'' ⟨rfl, rfl, rfl⟩
  refine leaves_cons (f := 276) (args := #[.pointer (some ⟨b, off + 1, none⟩)]) (by simp [settle]) (by simp [go_sem]) ?_
  refine (unlock_deferred ⟨b, off + 1, none⟩ _ _ ?_ (by simp [z1])).mono ?_
  · exact (World.cell?_setCell_other _ ⟨b, off, none⟩ ⟨b, off + 1, none⟩ _ (by simp)).trans (by rw [World.cell?_drew]; exact p1)
  rintro e u' w'' ⟨rfl, rfl, rfl⟩
  exact ⟨_, results_none rfl _ _ _, rfl, _, hw, rfl⟩
theorem once_run (h0 : w.cell? ⟨b, off, none⟩ = some (.int .u32 0)) (h1 : w.cell? ⟨b, off + 1, none⟩ = some (.int .i32 0)) (f0 : w.frozen? ⟨b, off, none⟩ = false) (f1 : w.frozen? ⟨b, off + 1, none⟩ = false)
    (hcall : Calls Tryz.prog 179 #[vm] (w.setCell ⟨b, off + 1, none⟩ (.int .i32 1)) fun e w' => e = .returned (.tuple #[]) ∧ Post w')
    (hP : ∀ w', Post w' → (∃ x, w'.cell? ⟨b, off, none⟩ = some x) ∧ w'.cell? ⟨b, off + 1, none⟩ = some (.int .i32 1) ∧ w'.frozen? ⟨b, off, none⟩ = false ∧ w'.frozen? ⟨b, off + 1, none⟩ = false) :
    Calls Tryz.prog 178 #[.pointer (some ⟨b, off, none⟩), .func (.func 179) #[vm] #[]] w fun e w' => e = .returned (.tuple #[]) ∧
      ∃ w2, Post w2 ∧ w' = (w2.drew.setCell ⟨b, off, none⟩ (.int .u32 1)).setCell ⟨b, off + 1, none⟩ (.int .i32 0) := by
  have hl := run_call_load (P := Tryz.prog) Tryz.func274 (by kernel_rfl) (by kernel_rfl) (by kernel_rfl) .u32 (by kernel_rfl) h0
  have hnot : ∀ (x : Bool) (w : World), (Op.unary .not (.bool x)).run Tryz.prog w = .ok (.bool (!x)) w := fun _ _ => rfl
  go_enter Tryz.func178, Tryz.ntmps178
  go_wp2_with (first
    | (go_at_call 227; refine (slow_run h0 h1 f0 f1 hcall hP).mono ?_; rintro e w' ⟨rfl, hw⟩)
    | go_in)
  go_end0
  exact ⟨rfl, hw⟩
end
end Go.Proofs.YtmhinddneefmbaaGreat.Pe
