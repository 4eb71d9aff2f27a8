/- A part of the proof of JdH. -/
import Derived.WalkKit
import Derived.Lib.AppendZerosOnto
import Derived.Laws.NewBlocks
import Derived.Test.YtmhinddneefmbaaGreatKf32
import Derived.Test.YtmhinddneefmbaaGreatKf33
import Derived.Test.YtmhinddneefmbaaGreatKf34
set_option linter.unusedSimpArgs false
set_option linter.unusedVariables false
set_option linter.unusedSectionVars false
namespace Go.Proofs.YtmhinddneefmbaaGreat.Pe
open Go
set_option maxRecDepth 100000
section
variable {w w1 w2 : World} {ι ι1 ι2 : Nat → Option Nat} {M M1 M2 : Nat → Prop} {H H1 H2 : Hp} {nx nx1 nx2 : Nat}
theorem once_eff {m sz off : Nat} {e e2 : Option Nat} {row row2 : List D} {d2 : D} {v0 vm : Value} (hM : ∀ b, M b → b < w.heap.size) (hok : HeapOk w ι M H nx) (hsz : sz ≠ 0) (hm : H m = some ⟨e, sz, [row]⟩)
    (r0 : row[off]? = some (.int .u32 0)) (r1 : row[off + 1]? = some (.int .i32 0)) (hv0 : Rd w ι M v0 (.ptr m sz 0 off)) (hvm : Rd w ι M vm (.ptr m sz 0 0))
    (hrun : RunAt Tryz.prog prepN [.one (.ptr m sz 0 0)] (setD H m e sz row (off + 1) (.int .i32 1)) nx (.tup []) H2 nx2) (hm2 : H2 m = some ⟨e2, sz, [row2]⟩) (q0 : row2[off]? = some d2) (q1 : row2[off + 1]? = some (.int .i32 1)) :
    Calls Tryz.prog 178 #[v0, .func (.func 179) #[vm] #[]] w fun e' w' => e' = .returned (.tuple #[]) ∧ ∃ ι' M', EffTo w ι M H w' ι' M' (setD (setD H2 m e2 sz row2 off (.int .u32 1)) m e2 sz (splice row2 off [.int .u32 1]) (off + 1) (.int .i32 0)) nx2 := by
  obtain ⟨b, hb, _⟩ := hok.objs _ _ hm
  have ev0 : v0 = .pointer (some ⟨b, off, none⟩) := by
    cases hv0 with
    | ptr _ _ _ _ b' h hz => rw [hb] at h; injection h with h; subst h; simp
  subst ev0
  have hlt : ∀ (row : List D) (j : Nat) (d : D), row[j]? = some d → j < row.length := fun row j d h => (List.getElem?_eq_some_iff.1 h).1
  obtain ⟨u0, c0, rd0, f0⟩ := cell_of hok hm hsz hb r0
  obtain ⟨u1, c1, rd1, f1⟩ := cell_of hok hm hsz hb r1
  cases rd0
  cases rd1
  have e1 := setCell_eff (v := .int .i32 1) hM hok hm hsz hb (hlt _ _ _ r1) (.int .i32 1)
  have hM1 : ∀ c, M c → c < (w.setCell ⟨b, off + 1, none⟩ (.int .i32 1)).heap.size := e1.lt
  have hvm1 : Rd (w.setCell ⟨b, off + 1, none⟩ (.int .i32 1)) ι M vm (.ptr m sz 0 0) := by
    cases hvm with
    | ptr _ _ _ _ b' h hz => exact .ptr _ _ _ _ b' h hz
  have hcall := hrun (w.setCell ⟨b, off + 1, none⟩ (.int .i32 1)) ι M #[vm] hM1 e1.ok rfl (fun j v a hv ha => by
    match j with
    | 0 => simp at hv ha; subst hv ha; exact hvm1
    | j + 1 => simp at hv)
  refine (once_run (Post := fun w' => ∃ ι' M', EffTo (w.setCell ⟨b, off + 1, none⟩ (.int .i32 1)) ι M (setD H m e sz row (off + 1) (.int .i32 1)) w' ι' M' H2 nx2) c0 c1 f0 f1 (hcall.mono fun e' w' hp => ?_) (fun w' hp => ?_)).mono fun e' w' hp => ?_
  · obtain ⟨v, ι', M', rfl, hv, h1, h2, h3, h4, h5, h6⟩ := hp
    obtain ⟨vs, rfl, hl, _⟩ := (show RdT w' ι' M' v [] from hv)
    have : vs = #[] := Array.eq_empty_of_size_eq_zero hl
    subst this
    exact ⟨rfl, ι', M', ⟨h1, h2, h3, h4, h5, h6⟩⟩
  · obtain ⟨ι', M', he⟩ := hp
    have hb' : ι' m = some b := he.ext _ _ hb
    obtain ⟨z0, k0, _, g0⟩ := cell_of he.ok hm2 hsz hb' q0
    obtain ⟨z1, k1, rd1, g1⟩ := cell_of he.ok hm2 hsz hb' q1
    cases rd1
    exact ⟨⟨z0, k0⟩, k1, g0, g1⟩
  · obtain ⟨rfl, w2, ⟨ι', M', he⟩, rfl⟩ := hp
    refine ⟨rfl, ι', M', ?_⟩
    have hb' : ι' m = some b := he.ext _ _ hb
    have t1 := e1.trans hM he
    have d1 : EffTo w2 ι' M' H2 w2.drew ι' M' H2 nx2 := .same he.lt he.ok rfl rfl rfl rfl
    have t2 := t1.trans hM d1
    have s1 := setCell_eff (v := .int .u32 1) d1.lt d1.ok hm2 hsz hb' (hlt _ _ _ q0) (.int .u32 1)
    have t3 := t2.trans hM s1
    have hm3 : setD H2 m e2 sz row2 off (.int .u32 1) m = some ⟨e2, sz, [splice row2 off [.int .u32 1]]⟩ := by unfold setD; rw [updO_at, if_pos rfl]
    have s2 := setCell_eff (v := .int .i32 0) (j := off + 1) s1.lt s1.ok hm3 hsz hb' (by rw [splice_length _ _ _ (by have := hlt _ _ _ q0; simp; omega)]; exact hlt _ _ _ q1) (.int .i32 0)
    exact t3.trans hM s2
end
end Go.Proofs.YtmhinddneefmbaaGreat.Pe
namespace Go.Proofs.YtmhinddneefmbaaGreat.Pe
open Go
set_option maxRecDepth 100000
abbrev repN : Nat := 133
abbrev onceN : Nat := 178
noncomputable def rpB : Code := bodyOf Tryz.f133
noncomputable def rp0 : Code := cA rpB
noncomputable def rp1 : Code := cA (cB rpB)
noncomputable def rpC : Code := cA (cB (cB rpB))
noncomputable def rpR : Code := cB (cB (cB rpB))
noncomputable def rp4 : Code := cA rpC
noncomputable def rpX : Code := cA (cB rpC)
noncomputable def rp5 : Code := cA rpX
noncomputable def rp6 : Code := cB rpX
theorem rpB_eq : rpB = .seq rp0 (.seq rp1 (.seq rpC rpR)) := by kernel_rfl
theorem rpC_eq : rpC = .seq rp4 (.cond (.tmp 35) rpX .skip) := by kernel_rfl
theorem rpX_eq : rpX = .seq rp5 rp6 := by kernel_rfl
noncomputable def opsOf (c : Code) : Array Oper := match c with
  | .region _ ops _ => ops
  | _ => #[]
noncomputable def idOf (c : Code) : Nat := match c with
  | .region id _ _ => id
  | _ => 0
noncomputable def rpO : Array Oper := opsOf rp5
theorem rp5_eq : rp5 = .region (idOf rp5) rpO false := by kernel_rfl
noncomputable def opA : Oper := rpO.toList.getD 4 ⟨none, .assign (.tmp 0), 0, "", #[], none⟩
noncomputable def opB : Oper := rpO.toList.getD 5 ⟨none, .assign (.tmp 0), 0, "", #[], none⟩
theorem rpO_size : rpO.size = 6 := by kernel_rfl
theorem opA_at : rpO[4]? = some opA := by kernel_rfl
theorem opB_at : rpO[5]? = some opB := by kernel_rfl
theorem opA_op : opA.op = .makeFunc (.func 179) #[.tmp 39] #[] := by kernel_rfl
theorem opA_dst : opA.dst = some 40 := by kernel_rfl
theorem opA_grd : opA.guard = none := by kernel_rfl
theorem opB_op : opB.op = .call { callee := .value (.func 178), args := #[.tmp 38, .tmp 40], argTypes := #[186, 1] } := by kernel_rfl
theorem opB_dst : opB.dst = some 41 := by kernel_rfl
theorem opB_grd : opB.guard = none := by kernel_rfl
noncomputable def preO (S : Sys) (s : St) : Option St := runF (ctxS S noE 62) rpO 0 (rpO.toList.take 4) s
theorem once_code {S : Sys} (hS : SysOk S Tryz.prog) {s sf : St} {m sz off nx2 : Nat} {a0 a3 : AV} {H2 : Hp} {e e2 : Option Nat} {row row2 : List D} {d2 : D} (hpre : preO S s = some sf) (h38 : sf.t.get 38 = some (.v (.one (.ptr m sz 0 off)))) (h39 : sf.t.get 39 = some (.v (.one (.ptr m sz 0 0))))
    (h0 : sf.t.get 0 = some a0) (h3 : sf.t.get 3 = some a3) (hsz : sz ≠ 0) (hm : sf.H m = some ⟨e, sz, [row]⟩) (r0 : row[off]? = some (.int .u32 0)) (r1 : row[off + 1]? = some (.int .i32 0))
    (hrun : RunAt Tryz.prog prepN [.one (.ptr m sz 0 0)] (setD sf.H m e sz row (off + 1) (.int .i32 1)) sf.nx (.tup []) H2 nx2) (hm2 : H2 m = some ⟨e2, sz, [row2]⟩) (q0 : row2[off]? = some d2) (q1 : row2[off + 1]? = some (.int .i32 1)) :
    CodeR Tryz.prog 62 none rp5 s .normal (mkS [(0, a0), (3, a3)] (setD (setD H2 m e2 sz row2 off (.int .u32 1)) m e2 sz (splice row2 off [.int .u32 1]) (off + 1) (.int .i32 0)) nx2) := by
  intro C a w ι β M B Qx n ro hnt hrr hs hp hB hmk hK
  rw [rp5_eq]
  refine wpIn_region ?_
  rw [rpO_size, show List.range 6 = List.range' 0 (rpO.toList.take 4).length ++ [4, 5] by rw [List.length_take, Array.length_toList, rpO_size]; rfl]
  have hf : ∀ f, (S.tab f).isSome = true → FnEff Tryz.prog f (noE.fn f) := fun f _ ads H nx r H' nx' h => by cases h
  have hy : YldOk Tryz.prog noE.yld := fun lp ads H nx r H' nx' h => by cases h
  have hC := ctx_ok hS hf hy 62 C.X C.dfs (fun _ => true)
  have hs0 : Sim { ctxS S noE 62 with X := C.X, dfs := C.dfs } s.env a w ι β M := hs.ctx hnt.symm rfl rfl
  obtain ⟨rs, hr⟩ := runF_ok (C := ctxS S noE 62) ⟨fun _ => rfl, rfl, fun _ => rfl, fun _ => rfl⟩ hpre
  rw [← runRec_cx (ctxS S noE 62) C.X C.dfs] at hr
  obtain ⟨htx, _, _, hpb, _⟩ := runRec_txt _ _ _ _ _ hr
  have pl : Plain sf := fun i => by
    have := hpb (fun i => by
      rcases hp i with h' | h'
      · exact .inl h'
      · exact .inr (.inr h')) i
    simpa using this
  refine ops_prefix hC _ 0 s.env a w ι β M (fun j hj => ?_) htx.run hs0 hp.gens fun a1 w1 ι1 β1 M1 sm1 ev1 i1 => ?_
  · rw [List.getElem?_take_of_lt (by rw [List.length_take] at hj; omega)]
    simp
  have sm : Sim C sf.env a1 w1 ι1 β1 M1 := sm1.ctx (C' := C) hnt rfl rfl
  have at_ : ∀ (i : Nat) d, i ≠ gs → sf.t.get i = some (.v (.one d)) → Rd w1 ι1 M1 (valOf a1 i) d := fun i d hi h => by
    have hh := sm.hold i
    rw [St.env_ne _ hi, h] at hh
    exact hh
  have v38 := at_ 38 _ (by decide) h38
  have v39 := at_ 39 _ (by decide) h39
  rw [wpOpsIn_cons]
  unfold wpOpIn
  rw [opA_at]
  simp only
  rw [if_pos (by simp [Region.wanted, opA_grd])]
  refine wpIn_of_wp (by rw [opA_op]; intro c hc; cases hc) ?_
  refine wp_value (v := .func (.func 179) #[valOf a1 39] #[]) (w' := w1) ?_ ?_
  · have hmf : ∀ (fn : Fn) (first cap : Array Value) (w : World), (Instr.makeFunc fn first cap).run Tryz.prog w = .ok (.func fn first cap) w := fun _ _ _ _ => rfl
    have he : a1.eval (.tmp 39) = valOf a1 39 := rfl
    simp [execOp, opA_op, hmf, he]
  rw [opA_dst]
  have sA := sm.put (d := 40) (v := .func (.func 179) #[valOf a1 39] #[]) (av := .junk) (by rw [hnt]; decide) rfl trivial
  generalize ha2 : a1.put (some 40) (.func (.func 179) #[valOf a1 39] #[]) = a2 at *
  have hsz1 : a1.tmps.size = 62 := by rw [sm.size, hnt]
  have g38 : valOf a2 38 = valOf a1 38 := by rw [← ha2, valOf_put (by rw [hsz1]; decide), if_neg (by decide)]
  have g40 : valOf a2 40 = .func (.func 179) #[valOf a1 39] #[] := by rw [← ha2, valOf_put (by rw [hsz1]; decide), if_pos rfl]
  rw [wpOpsIn_cons]
  unfold wpOpIn
  rw [opB_at]
  simp only
  rw [if_pos (by simp [Region.wanted, opB_grd])]
  refine wpIn_of_wp (by rw [opB_op]; intro c hc; cases hc) ?_
  have hE : (upd sf.env 40 .junk) gs = .heap sf.H sf.nx := by rw [upd_ne _ _ (by decide)]; exact St.env_gs sf
  have hok := sA.heapOk hE
  have hcal : calleeOk Tryz.prog 178 = true := by kernel_rfl
  unfold Oper.wp
  have hcf := callFunc_ok hcal #[valOf a2 38, valOf a2 40] w1
  have he1 : a2.eval (.tmp 38) = valOf a2 38 := rfl
  have he2 : a2.eval (.tmp 40) = valOf a2 40 := rfl
  rw [show (execOp a2.eval opB).run Tryz.prog w1 = .ok (.enter 178 #[valOf a2 38, valOf a2 40]) w1 by
    simp [execOp, opB_op, resolve, invoke, Act.eval, Deferred.ofValue, hcf, valOf], Oper.upon_enter, opB_dst, g40, g38]
  refine (once_eff (v0 := valOf a1 38) (vm := valOf a1 39) sA.lt hok hsz hm r0 r1 v38 v39 hrun hm2 q0 q1).mono fun e' w2 hp2 => ?_
  obtain ⟨rfl, ι2, M2, heff⟩ := hp2
  obtain ⟨sB, evB⟩ := after_eff sA hE heff
  have sC := sB.put (d := 41) (v := .tuple #[]) (av := .junk) (by rw [hnt]; decide) rfl trivial
  show wpOpsIn (Fx ro) n Tryz.prog rpO Qx [] (a2.put (some 41) (.tuple #[])) w2
  have e1 : (⟨(putF sf 40 .junk).t, setD (setD H2 m e2 sz row2 off (.int .u32 1)) m e2 sz (splice row2 off [.int .u32 1]) (off + 1) (.int .i32 0), nx2⟩ : St).env = upd (upd sf.env 40 .junk) gs (.heap (setD (setD H2 m e2 sz row2 off (.int .u32 1)) m e2 sz (splice row2 off [.int .u32 1]) (off + 1) (.int .i32 0)) nx2) := by
    rw [St.env_H, St.set_env (s := sf) (s' := putF sf 40 .junk) (i := 40) (v := .junk) rfl]
  rw [← e1] at sC
  rw [← St.set_env (i := 41) (v := .junk) (s' := putF ⟨(putF sf 40 .junk).t, setD (setD H2 m e2 sz row2 off (.int .u32 1)) m e2 sz (splice row2 off [.int .u32 1]) (off + 1) (.int .i32 0), nx2⟩ 41 .junk) rfl] at sC
  generalize hH3 : setD (setD H2 m e2 sz row2 off (.int .u32 1)) m e2 sz (splice row2 off [.int .u32 1]) (off + 1) (.int .i32 0) = H3 at *
  have plC : Plain (putF ⟨(putF sf 40 .junk).t, H3, nx2⟩ 41 .junk) := fun i => by
    by_cases hi : i = gs
    · exact .inl hi
    · right
      rw [St.set_env (s := ⟨(putF sf 40 .junk).t, H3, nx2⟩) (s' := putF ⟨(putF sf 40 .junk).t, H3, nx2⟩ 41 .junk) (i := 41) (v := .junk) rfl]
      by_cases h41 : i = 41
      · subst h41; rw [upd_same]; rfl
      · rw [upd_ne _ _ h41, St.env_H, upd_ne _ _ hi, St.set_env (s := sf) (s' := putF sf 40 .junk) (i := 40) (v := .junk) rfl]
        by_cases h40 : i = 40
        · subst h40; rw [upd_same]; rfl
        · rw [upd_ne _ _ h40]; exact (pl i).resolve_left hi
  have hl : Less (mkS [(0, a0), (3, a3)] H3 nx2) (putF ⟨(putF sf 40 .junk).t, H3, nx2⟩ 41 .junk) := by
    refine less_of (by kernel_rfl) (fun o => rfl) rfl ?_
    have g : ∀ i, i ≠ 40 → i ≠ 41 → (putF ⟨(putF sf 40 .junk).t, H3, nx2⟩ 41 .junk).t.get i = sf.t.get i := fun i h1 h2 => by
      show ((sf.t.set (some .junk) 30 40).set (some .junk) 30 41).get i = _
      rw [Tr.get_set _ _ _ _ (by decide), if_neg h2, Tr.get_set _ _ _ _ (by decide), if_neg h1]
    simp only [List.map_cons, List.map_nil]
    rw [g 0 (by decide) (by decide), g 3 (by decide) (by decide), h0, h3]
  obtain ⟨k1, k2⟩ := sC.less plC hl
  have evW := ev1.trans evB
  exact hK C _ w2 ι2 _ M2 hnt rfl (fun _ => rfl) k1 k2 (hmk.mono evW) evW (fun o b h => heff.ext o b (i1 o b h))
end Go.Proofs.YtmhinddneefmbaaGreat.Pe
namespace Go.Proofs.YtmhinddneefmbaaGreat.Pe
open Go
set_option maxRecDepth 100000
noncomputable def onceH (S : Sys) (k : Nat) (sf : St) (m sz off : Nat) (a0 a3 : AV) : Option St := match sf.H m with
  | some ⟨e, sz2, [row]⟩ => br (Nat.beq sz2 sz) (match row[off]? with
    | some (.int .u32 (.ofNat 0)) => match row[off + 1]? with
      | some (.int .i32 (.ofNat 0)) => match (evs S k).fn prepN [.one (.ptr m sz 0 0)] (setD sf.H m e sz row (off + 1) (.int .i32 (.ofNat 1))) sf.nx with
        | some (.tup [], H2, nx2) => match H2 m with
          | some ⟨e2, sz3, [row2]⟩ => br (Nat.beq sz3 sz) (match row2[off]? with
            | some d2 => match row2[off + 1]? with
              | some (.int .i32 (.ofNat 1)) => some (mkS [(0, a0), (3, a3)] (setD (setD H2 m e2 sz row2 off (.int .u32 (.ofNat 1))) m e2 sz (splice row2 off [.int .u32 (.ofNat 1)]) (off + 1) (.int .i32 (.ofNat 0))) nx2)
              | _ => none
            | _ => none) none
          | _ => none
        | _ => none
      | _ => none
    | _ => none) none
  | _ => none
noncomputable def onceS (S : Sys) (k : Nat) (s : St) : Option St := match preO S s with
  | some sf => match sf.t.get 38 with
    | some (.v (.one (.ptr m sz 0 off))) => match sf.t.get 39 with
      | some (.v (.one (.ptr m' sz' 0 0))) => match sf.t.get 0 with
        | some a0 => match sf.t.get 3 with
          | some a3 => br (Nat.beq m' m) (br (Nat.beq sz' sz) (br (Nat.blt 0 sz) (onceH S k sf m sz off a0 a3) none) none) none
          | _ => none
        | _ => none
      | _ => none
    | _ => none
  | _ => none
theorem onceS_ok {S : Sys} (hS : SysOk S Tryz.prog) (hp : (S.tab prepN).isSome = true) {k : Nat} {s s' : St} (h : onceS S k s = some s') : CodeR Tryz.prog 62 none rp5 s .normal s' := by
  unfold onceS at h
  split at h
  · rename_i sf hpre
    split at h
    · rename_i m sz off h38
      split at h
      · rename_i m' sz' h39
        split at h
        · rename_i a0 h0
          split at h
          · rename_i a3 h3
            obtain ⟨e1, h⟩ := br_some h
            obtain ⟨e2, h⟩ := br_some h
            obtain ⟨e3, h⟩ := br_some h
            have e1 := Nat.eq_of_beq_eq_true e1
            have e2 := Nat.eq_of_beq_eq_true e2
            have e3 := blt_lt e3
            subst e1; subst e2
            unfold onceH at h
            split at h
            · rename_i e sz2 row hm
              obtain ⟨e4, h⟩ := br_some h
              have e4 := Nat.eq_of_beq_eq_true e4
              subst e4
              split at h
              · rename_i r0
                split at h
                · rename_i r1
                  split at h
                  · rename_i H2 nx2 hrun
                    split at h
                    · rename_i e2 sz3 row2 hm2
                      obtain ⟨e5, h⟩ := br_some h
                      have e5 := Nat.eq_of_beq_eq_true e5
                      subst e5
                      split at h
                      · rename_i d2 q0
                        split at h
                        · rename_i q1
                          injection h with h
                          subst h
                          exact once_code hS hpre h38 h39 h0 h3 (by omega) hm r0 r1 ((evs_ok hS k).fn prepN hp _ _ _ _ _ _ hrun) hm2 q0 q1
                        · cases h
                      · cases h
                    · cases h
                  · cases h
                · cases h
              · cases h
            · cases h
          · cases h
        · cases h
      · cases h
    · cases h
  · cases h
theorem CodeR.skip {P : Program} {nt : Nat} {r : Option Nat} {s : St} : CodeR P nt r .skip s .normal s := by
  intro C a w ι β M B Qx n ro hnt hrr hs hp hB hm hK
  exact wpIn_skip (hK C a w ι β M hnt rfl (fun _ => rfl) hs hp hm (Evo.refl _ _) (fun _ _ h => h))
noncomputable def rpFd : FD := fdOf Tryz.f133
noncomputable def retOf (S : Sys) (ex : Ex) (s : St) : Option (RV × Hp × Nat) := match ex with
  | .exit _ => none
  | _ => resOf S rpFd s
noncomputable def rpF (S : Sys) (k : Nat) (ads : List AD) (H : Hp) (nx : Nat) : Option (RV × Hp × Nat) := match ads with
  | [x] => match (evs S k).code 62 none rp0 ⟨startS [x] 0 .leaf, H, nx⟩ with
    | some (.normal, s1) => match (evs S k).code 62 none rp1 s1 with
      | some (.normal, s2) => match (evs S k).code 62 none rp4 s2 with
        | some (.normal, s3) => match condS s3 (.tmp 35) with
          | some true => match onceS S k s3 with
            | some s4 => match (evs S k).code 62 none rp6 s4 with
              | some (.ret, s5) => resOf S rpFd s5
              | _ => none
            | none => none
          | some false => match (evs S k).code 62 none rpR s3 with
            | some (ex, s5) => retOf S ex s5
            | none => none
          | none => none
        | _ => none
      | _ => none
    | _ => none
  | _ => none
theorem rpF_ok {S : Sys} (hS : SysOk S Tryz.prog) (hp : (S.tab prepN).isSome = true) (hfd : S.tab repN = some rpFd) (k : Nat) : FnEff Tryz.prog repN (rpF S k) := by
  rw [FnEff.iff]
  intro ads H nx r H' nx' hq
  unfold rpF at hq
  split at hq
  · rename_i x
    have fin : ∀ {ex : Ex} {s : St}, CodeR Tryz.prog 62 none rpB ⟨startS [x] 0 .leaf, H, nx⟩ ex s → (ex = .normal ∨ ex = .ret) → resOf S rpFd s = some (r, H', nx') → RunAt Tryz.prog repN [x] H nx r H' nx' := fun hB hex hr =>
      fn_run (S := S) hS (f := repN) (fd := rpFd) (ads := [x]) hfd ⟨Nat.le_of_ble_eq_true (by kernel_rfl), Nat.le_of_ble_eq_true (by kernel_rfl)⟩ hB hex hr
    split at hq
    · rename_i s1 h1
      have k1 := CodeR.evs hS h1
      split at hq
      · rename_i s2 h2
        have k2 := CodeR.evs hS h2
        split at hq
        · rename_i s3 h3
          have k3 := CodeR.evs hS h3
          split at hq
          · rename_i hc
            split at hq
            · rename_i s4 h4
              have k4 := onceS_ok hS hp h4
              split at hq
              · rename_i s5 h5
                have k5 := CodeR.evs hS h5
                have kX : CodeR Tryz.prog 62 none rpX s3 .ret s5 := by rw [rpX_eq]; exact k4.seq k5
                have kC : CodeR Tryz.prog 62 none rpC s2 .ret s5 := by rw [rpC_eq]; exact k3.seq (CodeR.cond hc kX)
                refine fin (ex := .ret) (s := s5) ?_ (.inr rfl) hq
                rw [rpB_eq]
                exact k1.seq (k2.seq (kC.seq' (by simp)))
              · cases hq
            · cases hq
          · rename_i hc
            split at hq
            · rename_i ex s5 h5
              have k5 := CodeR.evs hS h5
              have kC : CodeR Tryz.prog 62 none rpC s2 .normal s3 := by rw [rpC_eq]; exact k3.seq (CodeR.cond hc CodeR.skip)
              have hB : CodeR Tryz.prog 62 none rpB ⟨startS [x] 0 .leaf, H, nx⟩ ex s5 := by
                rw [rpB_eq]
                exact k1.seq (k2.seq (kC.seq k5))
              unfold retOf at hq
              split at hq
              · cases hq
              · rename_i hne
                exact fin hB (by cases ex with
                  | normal => exact .inl rfl
                  | ret => exact .inr rfl
                  | exit id => exact absurd rfl (hne id)) hq
            · cases hq
          · cases hq
        · cases hq
      · cases hq
    · cases hq
  · cases hq
end Go.Proofs.YtmhinddneefmbaaGreat.Pe
namespace Go.Proofs.YtmhinddneefmbaaGreat.Pe
open Go Go.Proofs Go.RowKit
set_option maxRecDepth 100000
section
variable {w w1 : World} {ι : Nat → Option Nat} {M : Nat → Prop} {H : Hp} {nx : Nat}
def setN (ι : Nat → Option Nat) (nx b : Nat) : Nat → Option Nat := fun k => if k = nx then some b else ι k
theorem alloc_eff {ob : PObj} (hM : ∀ b, M b → b < w.heap.size) (hok : HeapOk w ι M H nx) (ho : w1.os = w.os) (ht : w1.tape = w.tape) (hp : w1.output = w.output) (hs : w1.heap.size = w.heap.size + 1) (hold : ∀ k, k < w.heap.size → w1.heap[k]? = w.heap[k]?)
    (hob : ObjAt w1 (setN ι nx w.heap.size) (fun b => M b ∨ b = w.heap.size) w.heap.size ob) : EffTo w ι M H w1 (setN ι nx w.heap.size) (fun b => M b ∨ b = w.heap.size) (updO H nx (some ob)) (nx + 1) := by
  have J0 : setN ι nx w.heap.size nx = some w.heap.size := if_pos rfl
  have Jo : ∀ k, k ≠ nx → setN ι nx w.heap.size k = ι k := fun k h => if_neg h
  have old : ∀ k x, H k = some x → k < nx := fun k x hx => by
    obtain ⟨b, hb, _⟩ := hok.objs k x hx
    exact Nat.lt_of_not_le fun hle => by rw [(hok.new k).1 hle] at hb; cases hb
  have hi : ∀ o b, ι o = some b → setN ι nx w.heap.size o = some b := fun o b hb => by
    have : o < nx := Nat.lt_of_not_le fun hle => by rw [(hok.new o).1 hle] at hb; cases hb
    rw [Jo o (by omega)]; exact hb
  have evw : Evo (fun _ => False) M w (fun b => M b ∨ b = w.heap.size) w1 := ⟨ho, ht, hp, by omega, fun b hb _ => hold b hb, fun b hb h => by
    rcases h with h | h
    · exact h
    · omega, fun b hb h => h.elim, .of hold⟩
  have at_ : ∀ k x, updO H nx (some ob) k = some x → (k = nx ∧ x = ob) ∨ (k < nx ∧ H k = some x) := fun k x hx => by
    rw [updO_at] at hx
    split at hx
    · rename_i e; injection hx with hx; exact .inl ⟨e, hx.symm⟩
    · exact .inr ⟨old k x hx, hx⟩
  have blk : ∀ k x b, H k = some x → ι k = some b → b < w.heap.size := fun k x b h1 h2 => hM b (hok.ctl k x b h1 h2)
  refine ⟨⟨fun k => ?_, fun k x hk => ?_, fun k k' x x' b h1 h2 hb hb' => ?_, fun k x b h1 hb => ?_⟩, hi, ⟨ho, ht, hp, by omega, fun b hb _ => hold b hb, fun b hb hh => ?_, fun b hb h => h.elim, .of hold⟩, fun b hb _ => .inl hb, fun b hb h => ?_, fun b h => ?_⟩
  · by_cases h : k = nx
    · subst h; rw [J0]; simp
    · rw [Jo k h, ← hok.new k]; omega
  · rcases at_ k x hk with ⟨rfl, rfl⟩ | ⟨h1, h2⟩
    · exact ⟨_, J0, hob⟩
    · obtain ⟨b, k1, k2⟩ := hok.objs k x h2
      exact ⟨b, hi k b k1, k2.mono evw hi (hold b (blk k x b h2 k1))⟩
  · rcases at_ k x h1 with ⟨rfl, _⟩ | ⟨g1, g2⟩ <;> rcases at_ k' x' h2 with ⟨rfl, _⟩ | ⟨g1', g2'⟩
    · rfl
    · rw [J0] at hb; injection hb with hb; subst hb
      rw [Jo k' (by omega)] at hb'
      have := blk k' x' _ g2' hb'; omega
    · rw [J0] at hb'; injection hb' with hb'; subst hb'
      rw [Jo k (by omega)] at hb
      have := blk k x _ g2 hb; omega
    · rw [Jo k (by omega)] at hb; rw [Jo k' (by omega)] at hb'
      exact hok.inj k k' x x' b g2 g2' hb hb'
  · rcases at_ k x h1 with ⟨rfl, _⟩ | ⟨g1, g2⟩
    · rw [J0] at hb; injection hb with hb; exact .inr hb.symm
    · rw [Jo k (by omega)] at hb; exact .inl (hok.ctl k x b g2 hb)
  · obtain ⟨k, x, h1, hb'⟩ := hh
    rcases at_ k x h1 with ⟨rfl, _⟩ | ⟨g1, g2⟩
    · rw [J0] at hb'; injection hb' with hb'; omega
    · rw [Jo k (by omega)] at hb'; exact ⟨k, x, g2, hb'⟩
  · rcases h with h | h
    · exact h
    · omega
  · rcases h with h | h
    · have := hM b h; omega
    · omega
end
abbrev growN : Nat := 342
theorem info_put : (Tryz.prog.info? 240).map (fun i => (i.zero, i.size, i.bytes)) = some (some (.agg #[.int .u64 0, .int .u64 0]), 2, 16) := by kernel_rfl
theorem grow_run {w : World} {n : Nat} (h0 : 0 < n) (hn : n ≤ 1000000000) : Calls Tryz.prog growN #[.slice none 0 0, .int .i64 n] w fun e w' => e = .returned (.slice (some ⟨w.heap.size, 0, none⟩) 0 (grownCap w n 0 240)) ∧
    w' = (w.alloc (.cells (Builtin.zeroCells #[.int .u64 0, .int .u64 0] n ++ Builtin.zeroCells #[.int .u64 0, .int .u64 0] (grownCap w n 0 240 - n)) 240)).drew := by
  obtain ⟨i, hi, hz, hs, hb⟩ := info_parts info_put
  have happ := Lib.run_append_nil_zeros (P := Tryz.prog) w 174 3 174 240 i (.agg #[.int .u64 0, .int .u64 0]) .i64 .i64 Tryz.underlying174 Tryz.underlying3 hi hz n h0 (by omega) (by omega) (by rw [hb]; omega)
  go_enter Tryz.func342, Tryz.ntmps342
  go_wp2_with (first
    | (at_builtin; refine Lib.wpList_append_run _ rfl _ _ _ _ rfl _ _ rfl rfl _ _ happ ?_)
    | go_in)
  go_ret
  exact ⟨rfl, rfl⟩
theorem zeros_size (z : Array Value) (n : Nat) : (Builtin.zeroCells z n).size = n * z.size := by simp [Builtin.zeroCells]
theorem zeros_one (n : Nat) : ∀ v ∈ (Builtin.zeroCells #[.int .u64 0, .int .u64 0] n).toList, v.oneCell' = true := fun v hv => by
  simp only [Builtin.zeroCells, Array.toList_map, List.mem_map] at hv
  obtain ⟨i, _, rfl⟩ := hv
  have h2 : i % 2 = 0 ∨ i % 2 = 1 := by omega
  show ((#[Value.int .u64 0, Value.int .u64 0])[i % 2]!).oneCell' = true
  rcases h2 with h | h <;> rw [h] <;> rfl
noncomputable def growX (ads : List AD) (H : Hp) (nx : Nat) : Option (RV × Hp × Nat) := match ads with
  | [.one .nils, .one (.int .i64 (.ofNat n))] => br (Nat.blt 0 n) (br (Nat.ble n 1000000000) (some (.a (.one (.ref nx 2 0 0)), updO H nx (some ⟨some 240, 2, []⟩), nx + 1)) none) none
  | _ => none
theorem grow_ok : FnEff Tryz.prog growN growX := by
  rw [FnEff.iff]
  intro ads H nx r H' nx' hq
  unfold growX at hq
  split at hq
  · rename_i n
    obtain ⟨h0, hq⟩ := br_some hq
    obtain ⟨h1, hq⟩ := br_some hq
    have h0 := blt_lt h0
    have h1 := Nat.le_of_ble_eq_true h1
    have hq := Option.some.inj hq
    obtain ⟨q1, q2⟩ := Prod.mk.inj hq
    obtain ⟨q2, q3⟩ := Prod.mk.inj q2
    subst q1; subst q2; subst q3
    intro w ι M vals hM hok hsz hargs
    obtain ⟨v0, v1, rfl⟩ : ∃ v0 v1, vals = #[v0, v1] := by
      have : vals.size = 2 := hsz
      obtain ⟨l⟩ := vals
      match l, this with
      | [x, y], _ => exact ⟨x, y, rfl⟩
    have r0 : Rd w ι M v0 .nils := hargs 0 v0 _ rfl rfl
    have r1 : Rd w ι M v1 (.int .i64 (.ofNat n)) := hargs 1 v1 _ rfl rfl
    cases r0
    cases r1
    refine (grow_run (w := w) h0 h1).mono fun e w' hp => ?_
    obtain ⟨rfl, rfl⟩ := hp
    have hge := grownCap_ge w n 0 240
    have hgl := grownCap_le_maxLen w n 0 240 (by unfold maxLen; omega)
    generalize grownCap w n 0 240 = g at *
    generalize hcs : Builtin.zeroCells #[.int .u64 0, .int .u64 0] n ++ Builtin.zeroCells #[.int .u64 0, .int .u64 0] (g - n) = cs
    have hsize : cs.size = g * 2 := by rw [← hcs, Array.size_append, zeros_size, zeros_size]; show n * 2 + (g - n) * 2 = _; omega
    have hone : ∀ v ∈ cs.toList, v.oneCell' = true := fun v hv => by
      rw [← hcs, Array.toList_append] at hv
      rcases List.mem_append.1 hv with hv | hv
      · exact zeros_one _ v hv
      · exact zeros_one _ v hv
    have hat : ((w.alloc (.cells cs 240)).drew).heap[w.heap.size]? = some (.cells cs 240 (0, 0)) := (MapKept.heap_alloc w _).1
    have hsz1 : ((w.alloc (.cells cs 240)).drew).heap.size = w.heap.size + 1 := by simp
    generalize hw1 : (w.alloc (.cells cs 240)).drew = w1 at *
    have hold : ∀ k, k < w.heap.size → w1.heap[k]? = w.heap[k]? := fun k hk => by rw [← hw1]; exact (MapKept.heap_alloc w _).2 k hk
    have hB : Blk w1 (setN ι nx w.heap.size) (fun b => M b ∨ b = w.heap.size) w.heap.size 240 cs 2 [] := ⟨hat, Nat.succ_pos 1, Nat.le_trans (Nat.le_of_eq (Nat.zero_mul 2)) (Nat.zero_le _), fun r hr => (by cases hr), fun i j r d hr => (by simp at hr), hone⟩
    have hob : ObjAt w1 (setN ι nx w.heap.size) (fun b => M b ∨ b = w.heap.size) w.heap.size ⟨some 240, 2, []⟩ := .inr ⟨_, cs, fun e h => (by injection h), hB⟩
    have eff := alloc_eff (w1 := w1) hM hok (by rw [← hw1]; rfl) (by rw [← hw1]; rfl) (by rw [← hw1]; rfl) hsz1 hold hob
    obtain ⟨h1, h2, h3, h4, h5, h6⟩ := eff
    refine ⟨_, _, _, rfl, ?_, h1, h2, h3, h4, h5, h6⟩
    exact Rd.ref nx 2 0 0 g w.heap.size (if_pos rfl) (Nat.zero_le _) hgl (Nat.succ_pos 1) ⟨cs, _, hat, by rw [hsize]; omega⟩
  · cases hq
noncomputable def growF (ads : List AD) (H : Hp) (nx : Nat) : Option (RV × Hp × Nat) := match growX ads H nx with
  | some z => some z
  | none => (evs S3.toSys 100).fn growN ads H nx
theorem growF_ok : FnEff Tryz.prog growN growF := by
  rw [FnEff.iff]
  intro ads H nx r H' nx' hq
  unfold growF at hq
  split at hq
  · rename_i z hz
    injection hq with hq
    subst hq
    exact FnEff.iff.1 grow_ok _ _ _ _ _ _ hz
  · exact (evs_ok S3_ok 100).fn growN (by kernel_rfl) _ _ _ _ _ _ hq
end Go.Proofs.YtmhinddneefmbaaGreat.Pe
namespace Go.Proofs.YtmhinddneefmbaaGreat.Pe
open Go
set_option maxRecDepth 100000
noncomputable def bsLw : List (Nat × FnS) := (wAddN, .eff wAddX) :: (addN, .eff addX) :: (ldN, .eff ldX) :: (growN, .eff growF) :: bsL3
theorem bsLw_ok : AllBs Tryz.prog bsLw := ⟨⟨wAdd_ok, by kernel_rfl⟩, ⟨add_ok, by kernel_rfl⟩, ⟨ld_ok, by kernel_rfl⟩, ⟨growF_ok, by kernel_rfl⟩, bsL3_ok⟩
noncomputable def Sw : SysP := { sysOf (mkTr ttL) (mkTr ezL) (mkTr fnL) (mkTr bsLw) with pb := S3.pb }
theorem Sw_ok : SysOk Sw.toSys Tryz.prog := sysOf_ok mixed ttL_ok (by kernel_rfl) ezL_ok (by kernel_rfl) fnL_ok (by kernel_rfl) bsLw_ok (by kernel_rfl)
noncomputable def bsLr : List (Nat × FnS) := (repN, .eff (rpF Sw.toSys 3000)) :: bsLw
theorem bsLr_ok : AllBs Tryz.prog bsLr := ⟨⟨rpF_ok Sw_ok (by kernel_rfl) (by kernel_rfl) 3000, by kernel_rfl⟩, bsLw_ok⟩
noncomputable def Sr : SysP := { sysOf (mkTr ttL) (mkTr ezL) (mkTr fnL) (mkTr bsLr) with pb := S3.pb }
theorem Sr_ok : SysOk Sr.toSys Tryz.prog := sysOf_ok mixed ttL_ok (by kernel_rfl) ezL_ok (by kernel_rfl) fnL_ok (by kernel_rfl) bsLr_ok (by kernel_rfl)
abbrev pickN : Nat := 10
noncomputable def pkFd : FD := fdOf Tryz.f10
noncomputable def pkB : Code := pkFd.body
noncomputable def pk0 : Code := cA pkB
noncomputable def pkA : Code := cA (cB pkB)
noncomputable def pkD : Code := cA (cB (cB pkB))
noncomputable def pkR : Code := cB (cB (cB pkB))
theorem pkB_eq : pkB = .seq pk0 (.seq pkA (.seq pkD pkR)) := by kernel_rfl
noncomputable def pkO : Array Oper := opsOf pkD
theorem pkD_eq : pkD = .region (idOf pkD) pkO false := by kernel_rfl
noncomputable def pkP : Oper := pkO.toList.getD 3 ⟨none, .assign (.tmp 0), 0, "", #[], none⟩
theorem pkO_size : pkO.size = 4 := by kernel_rfl
theorem pkP_at : pkO[3]? = some pkP := by kernel_rfl
noncomputable def pkC : Call := match pkP.op with
  | .defer c => c
  | _ => ⟨.value (.tmp 0), #[], #[]⟩
theorem pkP_op : pkP.op = .defer pkC := by kernel_rfl
theorem pkP_dst : pkP.dst = none := by kernel_rfl
theorem pkP_grd : pkP.guard = none := by kernel_rfl
theorem pkC_cal : pkC.callee = .value (.func addN) := by kernel_rfl
theorem pk_nt : pkFd.nt = 101 := by kernel_rfl
noncomputable def retP (S : Sys) (ex : Ex) (s : St) : Option (RV × Hp × Nat) := match ex with
  | .ret => resOf S pkFd s
  | _ => none
noncomputable def restP (S : Sys) (ex : Ex) (s : St) (dads : List AD) : Option (RV × Hp × Nat) := match ex with
  | .ret => match addG dads s.H s.nx with
    | some (H4, nx4) => resOf S pkFd ⟨s.t, H4, nx4⟩
    | none => none
  | _ => none
noncomputable def pickF (S : Sys) (k : Nat) (ads : List AD) (H : Hp) (nx : Nat) : Option (RV × Hp × Nat) := match ads with
  | [x, y] => match (evs S k).code 101 none pk0 ⟨startS [x, y] 0 .leaf, H, nx⟩ with
    | some (.normal, s0) => match (evs S k).code 101 none pkA s0 with
      | some (.normal, s1) => match runF (ctxS S noE 101) pkO 0 (pkO.toList.take 3) s1 with
        | some sf => match opsD sf pkC.args.toList with
          | some dads => match (evs S k).code 101 none pkR sf with
            | some (ex, s3) => restP S ex s3 dads
            | none => none
          | none => none
        | none => none
      | some (ex, s1) => retP S ex s1
      | none => none
    | _ => none
  | _ => none
theorem pickF_ok {S : Sys} (hS : SysOk S Tryz.prog) (hfd : S.tab pickN = some pkFd) (k : Nat) : FnEff Tryz.prog pickN (pickF S k) := by
  rw [FnEff.iff]
  intro ads H nx r H' nx' hq
  unfold pickF at hq
  split at hq
  · rename_i x y
    have hle : [x, y].length ≤ pkFd.nt ∧ pkFd.nt ≤ 1000000 := ⟨Nat.le_of_ble_eq_true (by kernel_rfl), Nat.le_of_ble_eq_true (by kernel_rfl)⟩
    split at hq
    · rename_i s0 h0
      have k0 := CodeR.evs hS h0
      split at hq
      · rename_i s1 h1
        have k1 := CodeR.evs hS h1
        split at hq
        · rename_i sf hsf
          split at hq
          · rename_i dads hds
            split at hq
            · rename_i ex s3 h3
              have k3 := CodeR.evs hS h3
              unfold restP at hq
              split at hq
              · split at hq
                · rename_i H4 nx4 hG
                  have kD : DeferR Tryz.prog 101 pkD s1 sf addN dads := by
                    rw [pkD_eq]
                    exact defer_region hS pkO_size hsf pkP_at pkP_op pkC_cal pkP_dst pkP_grd hds
                  exact fn_defer (S := S) hS (f := pickN) (fd := pkFd) addG_ok pkB_eq hfd hle k0 k1 kD k3 (.inr rfl) hG hq
                · cases hq
              · cases hq
            · cases hq
          · cases hq
        · cases hq
      · rename_i ex s1 hne h1
        have k1 := CodeR.evs hS h1
        unfold retP at hq
        split at hq
        · have hB : CodeR Tryz.prog 101 none pkB ⟨startS [x, y] 0 .leaf, H, nx⟩ .ret s1 := by
            rw [pkB_eq]
            exact k0.seq (k1.seq' (by simp))
          exact fn_run (S := S) hS (f := pickN) (fd := pkFd) (ads := [x, y]) hfd hle hB (.inr rfl) hq
        · cases hq
      · cases hq
    · cases hq
  · cases hq
noncomputable def bsLx : List (Nat × FnS) := (pickN, .eff (pickF Sr.toSys 3000)) :: bsLr
theorem bsLx_ok : AllBs Tryz.prog bsLx := ⟨⟨pickF_ok Sr_ok (by kernel_rfl) 3000, by kernel_rfl⟩, bsLr_ok⟩
noncomputable def Spk : SysP := { sysOf (mkTr ttL) (mkTr ezL) (mkTr fnL) (mkTr bsLx) with pb := S3.pb }
theorem Spk_ok : SysOk Spk.toSys Tryz.prog := sysOf_ok mixed ttL_ok (by kernel_rfl) ezL_ok (by kernel_rfl) fnL_ok (by kernel_rfl) bsLx_ok (by kernel_rfl)
end Go.Proofs.YtmhinddneefmbaaGreat.Pe
