/- A part of the proof of KzA. -/
import Derived.WalkKit
import Derived.Lib.AppendZerosOnto
import Derived.Laws.NewBlocks
import Derived.Test.YtdapdiaklpcmjaaGreatKm48
set_option linter.unusedSimpArgs false
set_option linter.unusedVariables false
set_option linter.unusedSectionVars false
namespace Go.Proofs.YtdapdiaklpcmjaaGreat.Pe
open Go
set_option maxRecDepth 100000
abbrev repN : Nat := 68
abbrev onceN : Nat := 101
noncomputable def rpB : Code := bodyOf Tryz.f68
noncomputable def rp0 : Code := cA rpB
noncomputable def rp1 : Code := cA (cB rpB)
noncomputable def rpC : Code := cA (cB (cB rpB))
noncomputable def rpR : Code := cB (cB (cB rpB))
noncomputable def rp4 : Code := cA rpC
noncomputable def rpX : Code := cA (cB rpC)
noncomputable def rp5 : Code := cA rpX
noncomputable def rp6 : Code := cB rpX
theorem rpB_eq : rpB = .seq rp0 (.seq rp1 (.seq rpC rpR)) := by kernel_rfl
theorem rpC_eq : rpC = .seq rp4 (.cond (.tmp 35) rpX .skip) := by kernel_rfl
theorem rpX_eq : rpX = .seq rp5 rp6 := by kernel_rfl
noncomputable def opsOf (c : Code) : Array Oper := match c with
  | .region _ ops _ => ops
  | _ => #[]
noncomputable def idOf (c : Code) : Nat := match c with
  | .region id _ _ => id
  | _ => 0
noncomputable def rpO : Array Oper := opsOf rp5
theorem rp5_eq : rp5 = .region (idOf rp5) rpO false := by kernel_rfl
noncomputable def opA : Oper := rpO.toList.getD 4 ⟨none, .assign (.tmp 0), 0, "", #[], none⟩
noncomputable def opB : Oper := rpO.toList.getD 5 ⟨none, .assign (.tmp 0), 0, "", #[], none⟩
theorem rpO_size : rpO.size = 6 := by kernel_rfl
theorem opA_at : rpO[4]? = some opA := by kernel_rfl
theorem opB_at : rpO[5]? = some opB := by kernel_rfl
theorem opA_op : opA.op = .makeFunc (.func 102) #[.tmp 39] #[] := by kernel_rfl
theorem opA_dst : opA.dst = some 40 := by kernel_rfl
theorem opA_grd : opA.guard = none := by kernel_rfl
theorem opB_op : opB.op = .call { callee := .value (.func 101), args := #[.tmp 38, .tmp 40], argTypes := #[116, 1] } := by kernel_rfl
theorem opB_dst : opB.dst = some 41 := by kernel_rfl
theorem opB_grd : opB.guard = none := by kernel_rfl
section
variable {P : Program} {C : Ctx} {E E1 : Env} {a : Act} {w : World} {ι β : Nat → Option Nat} {M : Nat → Prop}
theorem ops_prefix {ro : Option Nat} {n : Nat} {ops : Array Oper} {Qx : Exit → Act → World → Prop} {rest : List Nat} (hC : C.Ok P) : ∀ (l : List Oper) (k : Nat) (E : Env) (a : Act) (w : World) (ι β : Nat → Option Nat) (M : Nat → Prop), (∀ j, j < l.length → l[j]? = ops[k + j]?) →
    (runFrom C ops k l).run E = some ((), E1) → Sim C E a w ι β M → Gens E (· ≤ k) →
    (∀ a' w' ι' β' M', Sim C E1 a' w' ι' β' M' → Evo C.X M w M' w' → (∀ o b, ι o = some b → ι' o = some b) → wpOpsIn (Fx ro) n P ops Qx rest a' w') → wpOpsIn (Fx ro) n P ops Qx (List.range' k l.length ++ rest) a w
  | [], k, E, a, w, ι, β, M, _, hq, h, hg, hK => by
    obtain ⟨_, rfl⟩ := ret_run hq
    exact hK _ _ _ _ _ h (Evo.refl _ _) (fun _ _ h => h)
  | o :: l, k, E, a, w, ι, β, M, hl, hq, h, hg, hK => by
    simp only [runFrom] at hq
    obtain ⟨_, E2, h1, hq2⟩ := Q.run_bind_some hq
    simp only [List.length_cons, List.range'_succ, List.cons_append]
    rw [wpOpsIn_cons]
    have ho : ops[k]? = some o := by have := hl 0 (by simp); simpa using this.symm
    have hg2 : Gens E2 (· ≤ k + 1) := ((grd_gen (U := (· ≤ k + 1)) (Nat.le_refl _)).run (hg.mono fun g hg => Nat.le_succ_of_le hg) h1).1
    refine grd_sound hC ho h1 h hg (by omega) ?_
    intro a' w' ι' β' M' s e i
    refine ops_prefix hC l (k + 1) E2 a' w' ι' β' M' (fun j hj => ?_) hq2 s hg2 fun a2 w2 ι2 β2 M2 s2 e2 i2 => hK a2 w2 ι2 β2 M2 s2 (e.trans e2) (fun o b h => i2 _ _ (i _ _ h))
    have := hl (j + 1) (by simpa using hj)
    simpa [Nat.add_assoc, Nat.add_comm 1 j] using this
end
noncomputable def preO (S : Sys) (s : St) : Option St := runF (ctxS S noE 62) rpO 0 (rpO.toList.take 4) s
theorem once_code {S : Sys} (hS : SysOk S Tryz.prog) {s sf : St} {m sz off nx2 : Nat} {a0 a3 : AV} {H2 : Hp} {e e2 : Option Nat} {row row2 : List D} {d2 : D} (hpre : preO S s = some sf) (h38 : sf.t.get 38 = some (.v (.one (.ptr m sz 0 off)))) (h39 : sf.t.get 39 = some (.v (.one (.ptr m sz 0 0))))
    (h0 : sf.t.get 0 = some a0) (h3 : sf.t.get 3 = some a3) (hsz : sz ≠ 0) (hm : sf.H m = some ⟨e, sz, [row]⟩) (r0 : row[off]? = some (.int .u32 0)) (r1 : row[off + 1]? = some (.int .i32 0))
    (hrun : RunAt Tryz.prog prepN [.one (.ptr m sz 0 0)] (setD sf.H m e sz row (off + 1) (.int .i32 1)) sf.nx (.tup []) H2 nx2) (hm2 : H2 m = some ⟨e2, sz, [row2]⟩) (q0 : row2[off]? = some d2) (q1 : row2[off + 1]? = some (.int .i32 1)) :
    CodeR Tryz.prog 62 none rp5 s .normal (mkS [(0, a0), (3, a3)] (setD (setD H2 m e2 sz row2 off (.int .u32 1)) m e2 sz (splice row2 off [.int .u32 1]) (off + 1) (.int .i32 0)) nx2) := by
  intro C a w ι β M B Qx n ro hnt hrr hs hp hB hmk hK
  rw [rp5_eq]
  refine wpIn_region ?_
  rw [rpO_size, show List.range 6 = List.range' 0 (rpO.toList.take 4).length ++ [4, 5] by rw [List.length_take, Array.length_toList, rpO_size]; rfl]
  have hf : ∀ f, (S.tab f).isSome = true → FnEff Tryz.prog f (noE.fn f) := fun f _ ads H nx r H' nx' h => by cases h
  have hy : YldOk Tryz.prog noE.yld := fun lp ads H nx r H' nx' h => by cases h
  have hC := ctx_ok hS hf hy 62 C.X C.dfs (fun _ => true)
  have hs0 : Sim { ctxS S noE 62 with X := C.X, dfs := C.dfs } s.env a w ι β M := hs.ctx hnt.symm rfl rfl
  obtain ⟨rs, hr⟩ := runF_ok (C := ctxS S noE 62) ⟨fun _ => rfl, rfl, fun _ => rfl, fun _ => rfl⟩ hpre
  rw [← runRec_cx (ctxS S noE 62) C.X C.dfs] at hr
  obtain ⟨htx, _, _, hpb, _⟩ := runRec_txt _ _ _ _ _ hr
  have pl : Plain sf := fun i => by
    have := hpb (fun i => by
      rcases hp i with h' | h'
      · exact .inl h'
      · exact .inr (.inr h')) i
    simpa using this
  refine ops_prefix hC _ 0 s.env a w ι β M (fun j hj => ?_) htx.run hs0 hp.gens fun a1 w1 ι1 β1 M1 sm1 ev1 i1 => ?_
  · rw [List.getElem?_take_of_lt (by rw [List.length_take] at hj; omega)]
    simp
  have sm : Sim C sf.env a1 w1 ι1 β1 M1 := sm1.ctx (C' := C) hnt rfl rfl
  have at_ : ∀ (i : Nat) d, i ≠ gs → sf.t.get i = some (.v (.one d)) → Rd w1 ι1 M1 (valOf a1 i) d := fun i d hi h => by
    have hh := sm.hold i
    rw [St.env_ne _ hi, h] at hh
    exact hh
  have v38 := at_ 38 _ (by decide) h38
  have v39 := at_ 39 _ (by decide) h39
  rw [wpOpsIn_cons]
  unfold wpOpIn
  rw [opA_at]
  simp only
  rw [if_pos (by simp [Region.wanted, opA_grd])]
  refine wpIn_of_wp (by rw [opA_op]; intro c hc; cases hc) ?_
  refine wp_value (v := .func (.func 102) #[valOf a1 39] #[]) (w' := w1) ?_ ?_
  · have hmf : ∀ (fn : Fn) (first cap : Array Value) (w : World), (Instr.makeFunc fn first cap).run Tryz.prog w = .ok (.func fn first cap) w := fun _ _ _ _ => rfl
    have he : a1.eval (.tmp 39) = valOf a1 39 := rfl
    simp [execOp, opA_op, hmf, he]
  rw [opA_dst]
  have sA := sm.put (d := 40) (v := .func (.func 102) #[valOf a1 39] #[]) (av := .junk) (by rw [hnt]; decide) rfl trivial
  generalize ha2 : a1.put (some 40) (.func (.func 102) #[valOf a1 39] #[]) = a2 at *
  have hsz1 : a1.tmps.size = 62 := by rw [sm.size, hnt]
  have g38 : valOf a2 38 = valOf a1 38 := by rw [← ha2, valOf_put (by rw [hsz1]; decide), if_neg (by decide)]
  have g40 : valOf a2 40 = .func (.func 102) #[valOf a1 39] #[] := by rw [← ha2, valOf_put (by rw [hsz1]; decide), if_pos rfl]
  rw [wpOpsIn_cons]
  unfold wpOpIn
  rw [opB_at]
  simp only
  rw [if_pos (by simp [Region.wanted, opB_grd])]
  refine wpIn_of_wp (by rw [opB_op]; intro c hc; cases hc) ?_
  have hE : (upd sf.env 40 .junk) gs = .heap sf.H sf.nx := by rw [upd_ne _ _ (by decide)]; exact St.env_gs sf
  have hok := sA.heapOk hE
  have hcal : calleeOk Tryz.prog 101 = true := by kernel_rfl
  unfold Oper.wp
  have hcf := callFunc_ok hcal #[valOf a2 38, valOf a2 40] w1
  have he1 : a2.eval (.tmp 38) = valOf a2 38 := rfl
  have he2 : a2.eval (.tmp 40) = valOf a2 40 := rfl
  rw [show (execOp a2.eval opB).run Tryz.prog w1 = .ok (.enter 101 #[valOf a2 38, valOf a2 40]) w1 by
    simp [execOp, opB_op, resolve, invoke, Act.eval, Deferred.ofValue, hcf, valOf], Oper.upon_enter, opB_dst, g40, g38]
  refine (once_eff (v0 := valOf a1 38) (vm := valOf a1 39) sA.lt hok hsz hm r0 r1 v38 v39 hrun hm2 q0 q1).mono fun e' w2 hp2 => ?_
  obtain ⟨rfl, ι2, M2, heff⟩ := hp2
  obtain ⟨sB, evB⟩ := after_eff sA hE heff
  have sC := sB.put (d := 41) (v := .tuple #[]) (av := .junk) (by rw [hnt]; decide) rfl trivial
  show wpOpsIn (Fx ro) n Tryz.prog rpO Qx [] (a2.put (some 41) (.tuple #[])) w2
  have e1 : (⟨(putF sf 40 .junk).t, setD (setD H2 m e2 sz row2 off (.int .u32 1)) m e2 sz (splice row2 off [.int .u32 1]) (off + 1) (.int .i32 0), nx2⟩ : St).env = upd (upd sf.env 40 .junk) gs (.heap (setD (setD H2 m e2 sz row2 off (.int .u32 1)) m e2 sz (splice row2 off [.int .u32 1]) (off + 1) (.int .i32 0)) nx2) := by
    rw [St.env_H, St.set_env (s := sf) (s' := putF sf 40 .junk) (i := 40) (v := .junk) rfl]
  rw [← e1] at sC
  rw [← St.set_env (i := 41) (v := .junk) (s' := putF ⟨(putF sf 40 .junk).t, setD (setD H2 m e2 sz row2 off (.int .u32 1)) m e2 sz (splice row2 off [.int .u32 1]) (off + 1) (.int .i32 0), nx2⟩ 41 .junk) rfl] at sC
  generalize hH3 : setD (setD H2 m e2 sz row2 off (.int .u32 1)) m e2 sz (splice row2 off [.int .u32 1]) (off + 1) (.int .i32 0) = H3 at *
  have plC : Plain (putF ⟨(putF sf 40 .junk).t, H3, nx2⟩ 41 .junk) := fun i => by
    by_cases hi : i = gs
    · exact .inl hi
    · right
      rw [St.set_env (s := ⟨(putF sf 40 .junk).t, H3, nx2⟩) (s' := putF ⟨(putF sf 40 .junk).t, H3, nx2⟩ 41 .junk) (i := 41) (v := .junk) rfl]
      by_cases h41 : i = 41
      · subst h41; rw [upd_same]; rfl
      · rw [upd_ne _ _ h41, St.env_H, upd_ne _ _ hi, St.set_env (s := sf) (s' := putF sf 40 .junk) (i := 40) (v := .junk) rfl]
        by_cases h40 : i = 40
        · subst h40; rw [upd_same]; rfl
        · rw [upd_ne _ _ h40]; exact (pl i).resolve_left hi
  have hl : Less (mkS [(0, a0), (3, a3)] H3 nx2) (putF ⟨(putF sf 40 .junk).t, H3, nx2⟩ 41 .junk) := by
    refine less_of (by kernel_rfl) (fun o => rfl) rfl ?_
    have g : ∀ i, i ≠ 40 → i ≠ 41 → (putF ⟨(putF sf 40 .junk).t, H3, nx2⟩ 41 .junk).t.get i = sf.t.get i := fun i h1 h2 => by
      show ((sf.t.set (some .junk) 30 40).set (some .junk) 30 41).get i = _
      rw [Tr.get_set _ _ _ _ (by decide), if_neg h2, Tr.get_set _ _ _ _ (by decide), if_neg h1]
    simp only [List.map_cons, List.map_nil]
    rw [g 0 (by decide) (by decide), g 3 (by decide) (by decide), h0, h3]
  obtain ⟨k1, k2⟩ := sC.less plC hl
  have evW := ev1.trans evB
  exact hK C _ w2 ι2 _ M2 hnt rfl (fun _ => rfl) k1 k2 (hmk.mono evW) evW (fun o b h => heff.ext o b (i1 o b h))
end Go.Proofs.YtdapdiaklpcmjaaGreat.Pe
namespace Go.Proofs.YtdapdiaklpcmjaaGreat.Pe
open Go
set_option maxRecDepth 100000
noncomputable def onceH (S : Sys) (k : Nat) (sf : St) (m sz off : Nat) (a0 a3 : AV) : Option St := match sf.H m with
  | some ⟨e, sz2, [row]⟩ => br (Nat.beq sz2 sz) (match row[off]? with
    | some (.int .u32 (.ofNat 0)) => match row[off + 1]? with
      | some (.int .i32 (.ofNat 0)) => match (evs S k).fn prepN [.one (.ptr m sz 0 0)] (setD sf.H m e sz row (off + 1) (.int .i32 (.ofNat 1))) sf.nx with
        | some (.tup [], H2, nx2) => match H2 m with
          | some ⟨e2, sz3, [row2]⟩ => br (Nat.beq sz3 sz) (match row2[off]? with
            | some d2 => match row2[off + 1]? with
              | some (.int .i32 (.ofNat 1)) => some (mkS [(0, a0), (3, a3)] (setD (setD H2 m e2 sz row2 off (.int .u32 (.ofNat 1))) m e2 sz (splice row2 off [.int .u32 (.ofNat 1)]) (off + 1) (.int .i32 (.ofNat 0))) nx2)
              | _ => none
            | _ => none) none
          | _ => none
        | _ => none
      | _ => none
    | _ => none) none
  | _ => none
noncomputable def onceS (S : Sys) (k : Nat) (s : St) : Option St := match preO S s with
  | some sf => match sf.t.get 38 with
    | some (.v (.one (.ptr m sz 0 off))) => match sf.t.get 39 with
      | some (.v (.one (.ptr m' sz' 0 0))) => match sf.t.get 0 with
        | some a0 => match sf.t.get 3 with
          | some a3 => br (Nat.beq m' m) (br (Nat.beq sz' sz) (br (Nat.blt 0 sz) (onceH S k sf m sz off a0 a3) none) none) none
          | _ => none
        | _ => none
      | _ => none
    | _ => none
  | _ => none
theorem onceS_ok {S : Sys} (hS : SysOk S Tryz.prog) (hp : (S.tab prepN).isSome = true) {k : Nat} {s s' : St} (h : onceS S k s = some s') : CodeR Tryz.prog 62 none rp5 s .normal s' := by
  unfold onceS at h
  split at h
  · rename_i sf hpre
    split at h
    · rename_i m sz off h38
      split at h
      · rename_i m' sz' h39
        split at h
        · rename_i a0 h0
          split at h
          · rename_i a3 h3
            obtain ⟨e1, h⟩ := br_some h
            obtain ⟨e2, h⟩ := br_some h
            obtain ⟨e3, h⟩ := br_some h
            have e1 := Nat.eq_of_beq_eq_true e1
            have e2 := Nat.eq_of_beq_eq_true e2
            have e3 := blt_lt e3
            subst e1; subst e2
            unfold onceH at h
            split at h
            · rename_i e sz2 row hm
              obtain ⟨e4, h⟩ := br_some h
              have e4 := Nat.eq_of_beq_eq_true e4
              subst e4
              split at h
              · rename_i r0
                split at h
                · rename_i r1
                  split at h
                  · rename_i H2 nx2 hrun
                    split at h
                    · rename_i e2 sz3 row2 hm2
                      obtain ⟨e5, h⟩ := br_some h
                      have e5 := Nat.eq_of_beq_eq_true e5
                      subst e5
                      split at h
                      · rename_i d2 q0
                        split at h
                        · rename_i q1
                          injection h with h
                          subst h
                          exact once_code hS hpre h38 h39 h0 h3 (by omega) hm r0 r1 ((evs_ok hS k).fn prepN hp _ _ _ _ _ _ hrun) hm2 q0 q1
                        · cases h
                      · cases h
                    · cases h
                  · cases h
                · cases h
              · cases h
            · cases h
          · cases h
        · cases h
      · cases h
    · cases h
  · cases h
theorem CodeR.skip {P : Program} {nt : Nat} {r : Option Nat} {s : St} : CodeR P nt r .skip s .normal s := by
  intro C a w ι β M B Qx n ro hnt hrr hs hp hB hm hK
  exact wpIn_skip (hK C a w ι β M hnt rfl (fun _ => rfl) hs hp hm (Evo.refl _ _) (fun _ _ h => h))
noncomputable def rpFd : FD := fdOf Tryz.f68
noncomputable def retOf (S : Sys) (ex : Ex) (s : St) : Option (RV × Hp × Nat) := match ex with
  | .exit _ => none
  | _ => resOf S rpFd s
noncomputable def rpF (S : Sys) (k : Nat) (ads : List AD) (H : Hp) (nx : Nat) : Option (RV × Hp × Nat) := match ads with
  | [x] => match (evs S k).code 62 none rp0 ⟨startS [x] 0 .leaf, H, nx⟩ with
    | some (.normal, s1) => match (evs S k).code 62 none rp1 s1 with
      | some (.normal, s2) => match (evs S k).code 62 none rp4 s2 with
        | some (.normal, s3) => match condS s3 (.tmp 35) with
          | some true => match onceS S k s3 with
            | some s4 => match (evs S k).code 62 none rp6 s4 with
              | some (.ret, s5) => resOf S rpFd s5
              | _ => none
            | none => none
          | some false => match (evs S k).code 62 none rpR s3 with
            | some (ex, s5) => retOf S ex s5
            | none => none
          | none => none
        | _ => none
      | _ => none
    | _ => none
  | _ => none
theorem rpF_ok {S : Sys} (hS : SysOk S Tryz.prog) (hp : (S.tab prepN).isSome = true) (hfd : S.tab repN = some rpFd) (k : Nat) : FnEff Tryz.prog repN (rpF S k) := by
  rw [FnEff.iff]
  intro ads H nx r H' nx' hq
  unfold rpF at hq
  split at hq
  · rename_i x
    have fin : ∀ {ex : Ex} {s : St}, CodeR Tryz.prog 62 none rpB ⟨startS [x] 0 .leaf, H, nx⟩ ex s → (ex = .normal ∨ ex = .ret) → resOf S rpFd s = some (r, H', nx') → RunAt Tryz.prog repN [x] H nx r H' nx' := fun hB hex hr =>
      fn_run (S := S) hS (f := repN) (fd := rpFd) (ads := [x]) hfd ⟨Nat.le_of_ble_eq_true (by kernel_rfl), Nat.le_of_ble_eq_true (by kernel_rfl)⟩ hB hex hr
    split at hq
    · rename_i s1 h1
      have k1 := CodeR.evs hS h1
      split at hq
      · rename_i s2 h2
        have k2 := CodeR.evs hS h2
        split at hq
        · rename_i s3 h3
          have k3 := CodeR.evs hS h3
          split at hq
          · rename_i hc
            split at hq
            · rename_i s4 h4
              have k4 := onceS_ok hS hp h4
              split at hq
              · rename_i s5 h5
                have k5 := CodeR.evs hS h5
                have kX : CodeR Tryz.prog 62 none rpX s3 .ret s5 := by rw [rpX_eq]; exact k4.seq k5
                have kC : CodeR Tryz.prog 62 none rpC s2 .ret s5 := by rw [rpC_eq]; exact k3.seq (CodeR.cond hc kX)
                refine fin (ex := .ret) (s := s5) ?_ (.inr rfl) hq
                rw [rpB_eq]
                exact k1.seq (k2.seq (kC.seq' (by simp)))
              · cases hq
            · cases hq
          · rename_i hc
            split at hq
            · rename_i ex s5 h5
              have k5 := CodeR.evs hS h5
              have kC : CodeR Tryz.prog 62 none rpC s2 .normal s3 := by rw [rpC_eq]; exact k3.seq (CodeR.cond hc CodeR.skip)
              have hB : CodeR Tryz.prog 62 none rpB ⟨startS [x] 0 .leaf, H, nx⟩ ex s5 := by
                rw [rpB_eq]
                exact k1.seq (k2.seq (kC.seq k5))
              unfold retOf at hq
              split at hq
              · cases hq
              · rename_i hne
                exact fin hB (by cases ex with
                  | normal => exact .inl rfl
                  | ret => exact .inr rfl
                  | exit id => exact absurd rfl (hne id)) hq
            · cases hq
          · cases hq
        · cases hq
      · cases hq
    · cases hq
  · cases hq
end Go.Proofs.YtdapdiaklpcmjaaGreat.Pe
namespace Go.Proofs.YtdapdiaklpcmjaaGreat.Pe
open Go Go.Proofs Go.RowKit
set_option maxRecDepth 100000
section
variable {w w1 : World} {ι : Nat → Option Nat} {M : Nat → Prop} {H : Hp} {nx : Nat}
def setN (ι : Nat → Option Nat) (nx b : Nat) : Nat → Option Nat := fun k => if k = nx then some b else ι k
theorem alloc_eff {ob : PObj} (hM : ∀ b, M b → b < w.heap.size) (hok : HeapOk w ι M H nx) (ho : w1.os = w.os) (ht : w1.tape = w.tape) (hp : w1.output = w.output) (hs : w1.heap.size = w.heap.size + 1) (hold : ∀ k, k < w.heap.size → w1.heap[k]? = w.heap[k]?)
    (hob : ObjAt w1 (setN ι nx w.heap.size) (fun b => M b ∨ b = w.heap.size) w.heap.size ob) : EffTo w ι M H w1 (setN ι nx w.heap.size) (fun b => M b ∨ b = w.heap.size) (updO H nx (some ob)) (nx + 1) := by
  have J0 : setN ι nx w.heap.size nx = some w.heap.size := if_pos rfl
  have Jo : ∀ k, k ≠ nx → setN ι nx w.heap.size k = ι k := fun k h => if_neg h
  have old : ∀ k x, H k = some x → k < nx := fun k x hx => by
    obtain ⟨b, hb, _⟩ := hok.objs k x hx
    exact Nat.lt_of_not_le fun hle => by rw [(hok.new k).1 hle] at hb; cases hb
  have hi : ∀ o b, ι o = some b → setN ι nx w.heap.size o = some b := fun o b hb => by
    have : o < nx := Nat.lt_of_not_le fun hle => by rw [(hok.new o).1 hle] at hb; cases hb
    rw [Jo o (by omega)]; exact hb
  have evw : Evo (fun _ => False) M w (fun b => M b ∨ b = w.heap.size) w1 := ⟨ho, ht, hp, by omega, fun b hb _ => hold b hb, fun b hb h => by
    rcases h with h | h
    · exact h
    · omega, fun b hb h => h.elim, .of hold⟩
  have at_ : ∀ k x, updO H nx (some ob) k = some x → (k = nx ∧ x = ob) ∨ (k < nx ∧ H k = some x) := fun k x hx => by
    rw [updO_at] at hx
    split at hx
    · rename_i e; injection hx with hx; exact .inl ⟨e, hx.symm⟩
    · exact .inr ⟨old k x hx, hx⟩
  have blk : ∀ k x b, H k = some x → ι k = some b → b < w.heap.size := fun k x b h1 h2 => hM b (hok.ctl k x b h1 h2)
  refine ⟨⟨fun k => ?_, fun k x hk => ?_, fun k k' x x' b h1 h2 hb hb' => ?_, fun k x b h1 hb => ?_⟩, hi, ⟨ho, ht, hp, by omega, fun b hb _ => hold b hb, fun b hb hh => ?_, fun b hb h => h.elim, .of hold⟩, fun b hb _ => .inl hb, fun b hb h => ?_, fun b h => ?_⟩
  · by_cases h : k = nx
    · subst h; rw [J0]; simp
    · rw [Jo k h, ← hok.new k]; omega
  · rcases at_ k x hk with ⟨rfl, rfl⟩ | ⟨h1, h2⟩
    · exact ⟨_, J0, hob⟩
    · obtain ⟨b, k1, k2⟩ := hok.objs k x h2
      exact ⟨b, hi k b k1, k2.mono evw hi (hold b (blk k x b h2 k1))⟩
  · rcases at_ k x h1 with ⟨rfl, _⟩ | ⟨g1, g2⟩ <;> rcases at_ k' x' h2 with ⟨rfl, _⟩ | ⟨g1', g2'⟩
    · rfl
    · rw [J0] at hb; injection hb with hb; subst hb
      rw [Jo k' (by omega)] at hb'
      have := blk k' x' _ g2' hb'; omega
    · rw [J0] at hb'; injection hb' with hb'; subst hb'
      rw [Jo k (by omega)] at hb
      have := blk k x _ g2 hb; omega
    · rw [Jo k (by omega)] at hb; rw [Jo k' (by omega)] at hb'
      exact hok.inj k k' x x' b g2 g2' hb hb'
  · rcases at_ k x h1 with ⟨rfl, _⟩ | ⟨g1, g2⟩
    · rw [J0] at hb; injection hb with hb; exact .inr hb.symm
    · rw [Jo k (by omega)] at hb; exact .inl (hok.ctl k x b g2 hb)
  · obtain ⟨k, x, h1, hb'⟩ := hh
    rcases at_ k x h1 with ⟨rfl, _⟩ | ⟨g1, g2⟩
    · rw [J0] at hb'; injection hb' with hb'; omega
    · rw [Jo k (by omega)] at hb'; exact ⟨k, x, g2, hb'⟩
  · rcases h with h | h
    · exact h
    · omega
  · rcases h with h | h
    · have := hM b h; omega
    · omega
end
abbrev growN : Nat := 224
theorem info_put : (Tryz.prog.info? 148).map (fun i => (i.zero, i.size, i.bytes)) = some (some (.agg #[.int .u64 0, .int .u64 0]), 2, 16) := by kernel_rfl
theorem grow_run {w : World} {n : Nat} (h0 : 0 < n) (hn : n ≤ 1000000000) : Calls Tryz.prog growN #[.slice none 0 0, .int .i64 n] w fun e w' => e = .returned (.slice (some ⟨w.heap.size, 0, none⟩) 0 (grownCap w n 0 148)) ∧
    w' = (w.alloc (.cells (Builtin.zeroCells #[.int .u64 0, .int .u64 0] n ++ Builtin.zeroCells #[.int .u64 0, .int .u64 0] (grownCap w n 0 148 - n)) 148)).drew := by
  obtain ⟨i, hi, hz, hs, hb⟩ := info_parts info_put
  have happ := Lib.run_append_nil_zeros (P := Tryz.prog) w 102 3 102 148 i (.agg #[.int .u64 0, .int .u64 0]) .i64 .i64 Tryz.underlying102 Tryz.underlying3 hi hz n h0 (by omega) (by omega) (by rw [hb]; omega)
  go_enter Tryz.func224, Tryz.ntmps224
  go_wp2_with (first
    | (at_builtin; refine Lib.wpList_append_run _ rfl _ _ _ _ rfl _ _ rfl rfl _ _ happ ?_)
    | go_in)
  go_ret
  exact ⟨rfl, rfl⟩
theorem zeros_size (z : Array Value) (n : Nat) : (Builtin.zeroCells z n).size = n * z.size := by simp [Builtin.zeroCells]
theorem zeros_one (n : Nat) : ∀ v ∈ (Builtin.zeroCells #[.int .u64 0, .int .u64 0] n).toList, v.oneCell' = true := fun v hv => by
  simp only [Builtin.zeroCells, Array.toList_map, List.mem_map] at hv
  obtain ⟨i, _, rfl⟩ := hv
  have h2 : i % 2 = 0 ∨ i % 2 = 1 := by omega
  show ((#[Value.int .u64 0, Value.int .u64 0])[i % 2]!).oneCell' = true
  rcases h2 with h | h <;> rw [h] <;> rfl
noncomputable def growX (ads : List AD) (H : Hp) (nx : Nat) : Option (RV × Hp × Nat) := match ads with
  | [.one .nils, .one (.int .i64 (.ofNat n))] => br (Nat.blt 0 n) (br (Nat.ble n 1000000000) (some (.a (.one (.ref nx 2 0 0)), updO H nx (some ⟨some 148, 2, []⟩), nx + 1)) none) none
  | _ => none
theorem grow_ok : FnEff Tryz.prog growN growX := by
  rw [FnEff.iff]
  intro ads H nx r H' nx' hq
  unfold growX at hq
  split at hq
  · rename_i n
    obtain ⟨h0, hq⟩ := br_some hq
    obtain ⟨h1, hq⟩ := br_some hq
    have h0 := blt_lt h0
    have h1 := Nat.le_of_ble_eq_true h1
    have hq := Option.some.inj hq
    obtain ⟨q1, q2⟩ := Prod.mk.inj hq
    obtain ⟨q2, q3⟩ := Prod.mk.inj q2
    subst q1; subst q2; subst q3
    intro w ι M vals hM hok hsz hargs
    obtain ⟨v0, v1, rfl⟩ : ∃ v0 v1, vals = #[v0, v1] := by
      have : vals.size = 2 := hsz
      obtain ⟨l⟩ := vals
      match l, this with
      | [x, y], _ => exact ⟨x, y, rfl⟩
    have r0 : Rd w ι M v0 .nils := hargs 0 v0 _ rfl rfl
    have r1 : Rd w ι M v1 (.int .i64 (.ofNat n)) := hargs 1 v1 _ rfl rfl
    cases r0
    cases r1
    refine (grow_run (w := w) h0 h1).mono fun e w' hp => ?_
    obtain ⟨rfl, rfl⟩ := hp
    have hge := grownCap_ge w n 0 148
    have hgl := grownCap_le_maxLen w n 0 148 (by unfold maxLen; omega)
    generalize grownCap w n 0 148 = g at *
    generalize hcs : Builtin.zeroCells #[.int .u64 0, .int .u64 0] n ++ Builtin.zeroCells #[.int .u64 0, .int .u64 0] (g - n) = cs
    have hsize : cs.size = g * 2 := by rw [← hcs, Array.size_append, zeros_size, zeros_size]; show n * 2 + (g - n) * 2 = _; omega
    have hone : ∀ v ∈ cs.toList, v.oneCell' = true := fun v hv => by
      rw [← hcs, Array.toList_append] at hv
      rcases List.mem_append.1 hv with hv | hv
      · exact zeros_one _ v hv
      · exact zeros_one _ v hv
    have hat : ((w.alloc (.cells cs 148)).drew).heap[w.heap.size]? = some (.cells cs 148 (0, 0)) := (MapKept.heap_alloc w _).1
    have hsz1 : ((w.alloc (.cells cs 148)).drew).heap.size = w.heap.size + 1 := by simp
    generalize hw1 : (w.alloc (.cells cs 148)).drew = w1 at *
    have hold : ∀ k, k < w.heap.size → w1.heap[k]? = w.heap[k]? := fun k hk => by rw [← hw1]; exact (MapKept.heap_alloc w _).2 k hk
    have hB : Blk w1 (setN ι nx w.heap.size) (fun b => M b ∨ b = w.heap.size) w.heap.size 148 cs 2 [] := ⟨hat, Nat.succ_pos 1, Nat.le_trans (Nat.le_of_eq (Nat.zero_mul 2)) (Nat.zero_le _), fun r hr => (by cases hr), fun i j r d hr => (by simp at hr), hone⟩
    have hob : ObjAt w1 (setN ι nx w.heap.size) (fun b => M b ∨ b = w.heap.size) w.heap.size ⟨some 148, 2, []⟩ := .inr ⟨_, cs, fun e h => (by injection h), hB⟩
    have eff := alloc_eff (w1 := w1) hM hok (by rw [← hw1]; rfl) (by rw [← hw1]; rfl) (by rw [← hw1]; rfl) hsz1 hold hob
    obtain ⟨h1, h2, h3, h4, h5, h6⟩ := eff
    refine ⟨_, _, _, rfl, ?_, h1, h2, h3, h4, h5, h6⟩
    exact Rd.ref nx 2 0 0 g w.heap.size (if_pos rfl) (Nat.zero_le _) hgl (Nat.succ_pos 1) ⟨cs, _, hat, by rw [hsize]; omega⟩
  · cases hq
noncomputable def growF (ads : List AD) (H : Hp) (nx : Nat) : Option (RV × Hp × Nat) := match growX ads H nx with
  | some z => some z
  | none => (evs S3.toSys 100).fn growN ads H nx
theorem growF_ok : FnEff Tryz.prog growN growF := by
  rw [FnEff.iff]
  intro ads H nx r H' nx' hq
  unfold growF at hq
  split at hq
  · rename_i z hz
    injection hq with hq
    subst hq
    exact FnEff.iff.1 grow_ok _ _ _ _ _ _ hz
  · exact (evs_ok S3_ok 100).fn growN (by kernel_rfl) _ _ _ _ _ _ hq
end Go.Proofs.YtdapdiaklpcmjaaGreat.Pe
namespace Go.Proofs.YtdapdiaklpcmjaaGreat.Pe
open Go
set_option maxRecDepth 100000
noncomputable def bsLg : List (Nat × FnS) := (growN, .eff growF) :: bsL3
theorem bsLg_ok : AllBs Tryz.prog bsLg := ⟨⟨growF_ok, by kernel_rfl⟩, bsL3_ok⟩
noncomputable def Sg : SysP := { sysOf (mkTr ttL) (mkTr ezL) (mkTr fnL) (mkTr bsLg) with pb := S3.pb }
theorem Sg_ok : SysOk Sg.toSys Tryz.prog := sysOf_ok mixed ttL_ok (by kernel_rfl) ezL_ok (by kernel_rfl) fnL_ok (by kernel_rfl) bsLg_ok (by kernel_rfl)
noncomputable def bsLm : List (Nat × FnS) := (repN, .eff (rpF Sg.toSys 3000)) :: bsLg
theorem bsLm_ok : AllBs Tryz.prog bsLm := ⟨⟨rpF_ok Sg_ok (by kernel_rfl) (by kernel_rfl) 3000, by kernel_rfl⟩, bsLg_ok⟩
noncomputable def Sm : SysP := { sysOf (mkTr ttL) (mkTr ezL) (mkTr fnL) (mkTr bsLm) with pb := S3.pb }
theorem Sm_ok : SysOk Sm.toSys Tryz.prog := sysOf_ok mixed ttL_ok (by kernel_rfl) ezL_ok (by kernel_rfl) fnL_ok (by kernel_rfl) bsLm_ok (by kernel_rfl)
end Go.Proofs.YtdapdiaklpcmjaaGreat.Pe
