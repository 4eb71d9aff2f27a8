/- A part of the proof of JbH. -/
import Derived.Test.YtmhinddneefmbaaGreatKw42
import Derived.Test.YtmhinddneefmbaaGreatKw43
set_option linter.unusedSimpArgs false
set_option linter.unusedVariables false
set_option linter.unusedSectionVars false
namespace Go.Proofs.YtmhinddneefmbaaGreat.Pe
open Go Go.Proofs
set_option maxRecDepth 100000
abbrev prepN : Nat := 179
section
variable {b off : Nat} {vm : Value} {w : World} {Post : World → Prop}
set_option maxHeartbeats 1600000 in
theorem slow_run (h0 : w.cell? ⟨b, off, none⟩ = some (.int .u32 0)) (h1 : w.cell? ⟨b, off + 1, none⟩ = some (.int .i32 0)) (f0 : w.frozen? ⟨b, off, none⟩ = false) (f1 : w.frozen? ⟨b, off + 1, none⟩ = false)
    (hcall : Calls Tryz.prog 179 #[vm] (w.setCell ⟨b, off + 1, none⟩ (.int .i32 1)) fun e w' => e = .returned (.tuple #[]) ∧ Post w')
    (hP : ∀ w', Post w' → (∃ x, w'.cell? ⟨b, off, none⟩ = some x) ∧ w'.cell? ⟨b, off + 1, none⟩ = some (.int .i32 1) ∧ w'.frozen? ⟨b, off, none⟩ = false ∧ w'.frozen? ⟨b, off + 1, none⟩ = false) :
    Calls Tryz.prog 227 #[.pointer (some ⟨b, off, none⟩), .func (.func 179) #[vm] #[]] w fun e w' => e = .returned (.tuple #[]) ∧
      ∃ w2, Post w2 ∧ w' = (w2.drew.setCell ⟨b, off, none⟩ (.int .u32 1)).setCell ⟨b, off + 1, none⟩ (.int .i32 0) := by
  have hl := run_call_load (P := Tryz.prog) Tryz.func274 (by kernel_rfl) (by kernel_rfl) (by kernel_rfl) .u32 (by kernel_rfl) (w := w.setCell ⟨b, off + 1, none⟩ (.int .i32 1)) (a := ⟨b, off, none⟩) (x := 0) ((World.cell?_setCell_other _ ⟨b, off + 1, none⟩ ⟨b, off, none⟩ _ (by simp)).trans h0)
  have hnot : ∀ (x : Bool) (w : World), (Op.unary .not (.bool x)).run Tryz.prog w = .ok (.bool (!x)) w := fun _ _ => rfl
  go_enter_defers Tryz.func227, Tryz.ntmps227
  go_wp2_with (first
    | (go_at_call 275; refine (lock_free ⟨b, off + 1, none⟩ _ h1 f1).mono ?_; rintro e w' ⟨rfl, rfl⟩)
    | (go_at_call 179; refine hcall.mono ?_; rintro e w' ⟨rfl, hw⟩)
    | go_in)
  obtain ⟨⟨x0, p0⟩, p1, z0, z1⟩ := hP _ hw
  refine leaves_cons (f := 277) (args := #[.pointer (some ⟨b, off, none⟩), .bool true]) (by simp) (by simp [go_sem]) ?_
  refine (store_deferred ⟨b, off, none⟩ x0 .returning _ p0 z0).mono ?_
  rintro e u' w'' ⟨rfl, rfl, rfl⟩
  refine leaves_cons (f := 276) (args := #[.pointer (some ⟨b, off + 1, none⟩)]) (by simp [settle]) (by simp [go_sem]) ?_
  refine (unlock_deferred ⟨b, off + 1, none⟩ _ _ ?_ (by simp [z1])).mono ?_
  · exact (World.cell?_setCell_other _ ⟨b, off, none⟩ ⟨b, off + 1, none⟩ _ (by simp)).trans (by rw [World.cell?_drew]; exact p1)
  rintro e u' w'' ⟨rfl, rfl, rfl⟩
  exact ⟨_, results_none rfl _ _ _, rfl, _, hw, rfl⟩
theorem once_run (h0 : w.cell? ⟨b, off, none⟩ = some (.int .u32 0)) (h1 : w.cell? ⟨b, off + 1, none⟩ = some (.int .i32 0)) (f0 : w.frozen? ⟨b, off, none⟩ = false) (f1 : w.frozen? ⟨b, off + 1, none⟩ = false)
    (hcall : Calls Tryz.prog 179 #[vm] (w.setCell ⟨b, off + 1, none⟩ (.int .i32 1)) fun e w' => e = .returned (.tuple #[]) ∧ Post w')
    (hP : ∀ w', Post w' → (∃ x, w'.cell? ⟨b, off, none⟩ = some x) ∧ w'.cell? ⟨b, off + 1, none⟩ = some (.int .i32 1) ∧ w'.frozen? ⟨b, off, none⟩ = false ∧ w'.frozen? ⟨b, off + 1, none⟩ = false) :
    Calls Tryz.prog 178 #[.pointer (some ⟨b, off, none⟩), .func (.func 179) #[vm] #[]] w fun e w' => e = .returned (.tuple #[]) ∧
      ∃ w2, Post w2 ∧ w' = (w2.drew.setCell ⟨b, off, none⟩ (.int .u32 1)).setCell ⟨b, off + 1, none⟩ (.int .i32 0) := by
  have hl := run_call_load (P := Tryz.prog) Tryz.func274 (by kernel_rfl) (by kernel_rfl) (by kernel_rfl) .u32 (by kernel_rfl) h0
  have hnot : ∀ (x : Bool) (w : World), (Op.unary .not (.bool x)).run Tryz.prog w = .ok (.bool (!x)) w := fun _ _ => rfl
  go_enter Tryz.func178, Tryz.ntmps178
  go_wp2_with (first
    | (go_at_call 227; refine (slow_run h0 h1 f0 f1 hcall hP).mono ?_; rintro e w' ⟨rfl, hw⟩)
    | go_in)
  go_end0
  exact ⟨rfl, hw⟩
end
end Go.Proofs.YtmhinddneefmbaaGreat.Pe
namespace Go.Proofs.YtmhinddneefmbaaGreat.Pe
open Go
set_option maxRecDepth 100000
section
variable {w w1 w2 : World} {ι ι1 ι2 : Nat → Option Nat} {M M1 M2 : Nat → Prop} {H H1 H2 : Hp} {nx nx1 nx2 : Nat}
theorem once_eff {m sz off : Nat} {e e2 : Option Nat} {row row2 : List D} {d2 : D} {v0 vm : Value} (hM : ∀ b, M b → b < w.heap.size) (hok : HeapOk w ι M H nx) (hsz : sz ≠ 0) (hm : H m = some ⟨e, sz, [row]⟩)
    (r0 : row[off]? = some (.int .u32 0)) (r1 : row[off + 1]? = some (.int .i32 0)) (hv0 : Rd w ι M v0 (.ptr m sz 0 off)) (hvm : Rd w ι M vm (.ptr m sz 0 0))
    (hrun : RunAt Tryz.prog prepN [.one (.ptr m sz 0 0)] (setD H m e sz row (off + 1) (.int .i32 1)) nx (.tup []) H2 nx2) (hm2 : H2 m = some ⟨e2, sz, [row2]⟩) (q0 : row2[off]? = some d2) (q1 : row2[off + 1]? = some (.int .i32 1)) :
    Calls Tryz.prog 178 #[v0, .func (.func 179) #[vm] #[]] w fun e' w' => e' = .returned (.tuple #[]) ∧ ∃ ι' M', EffTo w ι M H w' ι' M' (setD (setD H2 m e2 sz row2 off (.int .u32 1)) m e2 sz (splice row2 off [.int .u32 1]) (off + 1) (.int .i32 0)) nx2 := by
  obtain ⟨b, hb, _⟩ := hok.objs _ _ hm
  have ev0 : v0 = .pointer (some ⟨b, off, none⟩) := by
    cases hv0 with
    | ptr _ _ _ _ b' h hz => rw [hb] at h; injection h with h; subst h; simp
  subst ev0
  have hlt : ∀ (row : List D) (j : Nat) (d : D), row[j]? = some d → j < row.length := fun row j d h => (List.getElem?_eq_some_iff.1 h).1
  obtain ⟨u0, c0, rd0, f0⟩ := cell_of hok hm hsz hb r0
  obtain ⟨u1, c1, rd1, f1⟩ := cell_of hok hm hsz hb r1
  cases rd0
  cases rd1
  have e1 := setCell_eff (v := .int .i32 1) hM hok hm hsz hb (hlt _ _ _ r1) (.int .i32 1)
  have hM1 : ∀ c, M c → c < (w.setCell ⟨b, off + 1, none⟩ (.int .i32 1)).heap.size := e1.lt
  have hvm1 : Rd (w.setCell ⟨b, off + 1, none⟩ (.int .i32 1)) ι M vm (.ptr m sz 0 0) := by
    cases hvm with
    | ptr _ _ _ _ b' h hz => exact .ptr _ _ _ _ b' h hz
  have hcall := hrun (w.setCell ⟨b, off + 1, none⟩ (.int .i32 1)) ι M #[vm] hM1 e1.ok rfl (fun j v a hv ha => by
    match j with
    | 0 => simp at hv ha; subst hv ha; exact hvm1
    | j + 1 => simp at hv)
  refine (once_run (Post := fun w' => ∃ ι' M', EffTo (w.setCell ⟨b, off + 1, none⟩ (.int .i32 1)) ι M (setD H m e sz row (off + 1) (.int .i32 1)) w' ι' M' H2 nx2) c0 c1 f0 f1 (hcall.mono fun e' w' hp => ?_) (fun w' hp => ?_)).mono fun e' w' hp => ?_
  · obtain ⟨v, ι', M', rfl, hv, h1, h2, h3, h4, h5, h6⟩ := hp
    obtain ⟨vs, rfl, hl, _⟩ := (show RdT w' ι' M' v [] from hv)
    have : vs = #[] := Array.eq_empty_of_size_eq_zero hl
    subst this
    exact ⟨rfl, ι', M', ⟨h1, h2, h3, h4, h5, h6⟩⟩
  · obtain ⟨ι', M', he⟩ := hp
    have hb' : ι' m = some b := he.ext _ _ hb
    obtain ⟨z0, k0, _, g0⟩ := cell_of he.ok hm2 hsz hb' q0
    obtain ⟨z1, k1, rd1, g1⟩ := cell_of he.ok hm2 hsz hb' q1
    cases rd1
    exact ⟨⟨z0, k0⟩, k1, g0, g1⟩
  · obtain ⟨rfl, w2, ⟨ι', M', he⟩, rfl⟩ := hp
    refine ⟨rfl, ι', M', ?_⟩
    have hb' : ι' m = some b := he.ext _ _ hb
    have t1 := e1.trans hM he
    have d1 : EffTo w2 ι' M' H2 w2.drew ι' M' H2 nx2 := .same he.lt he.ok rfl rfl rfl rfl
    have t2 := t1.trans hM d1
    have s1 := setCell_eff (v := .int .u32 1) d1.lt d1.ok hm2 hsz hb' (hlt _ _ _ q0) (.int .u32 1)
    have t3 := t2.trans hM s1
    have hm3 : setD H2 m e2 sz row2 off (.int .u32 1) m = some ⟨e2, sz, [splice row2 off [.int .u32 1]]⟩ := by unfold setD; rw [updO_at, if_pos rfl]
    have s2 := setCell_eff (v := .int .i32 0) (j := off + 1) s1.lt s1.ok hm3 hsz hb' (by rw [splice_length _ _ _ (by have := hlt _ _ _ q0; simp; omega)]; exact hlt _ _ _ q1) (.int .i32 0)
    exact t3.trans hM s2
end
end Go.Proofs.YtmhinddneefmbaaGreat.Pe
namespace Go.Proofs.YtmhinddneefmbaaGreat.Pe
open Go
set_option maxRecDepth 100000
abbrev repN : Nat := 133
abbrev onceN : Nat := 178
noncomputable def rpB : Code := bodyOf Tryz.f133
noncomputable def rp0 : Code := cA rpB
noncomputable def rp1 : Code := cA (cB rpB)
noncomputable def rpC : Code := cA (cB (cB rpB))
noncomputable def rpR : Code := cB (cB (cB rpB))
noncomputable def rp4 : Code := cA rpC
noncomputable def rpX : Code := cA (cB rpC)
noncomputable def rp5 : Code := cA rpX
noncomputable def rp6 : Code := cB rpX
theorem rpB_eq : rpB = .seq rp0 (.seq rp1 (.seq rpC rpR)) := by kernel_rfl
theorem rpC_eq : rpC = .seq rp4 (.cond (.tmp 35) rpX .skip) := by kernel_rfl
theorem rpX_eq : rpX = .seq rp5 rp6 := by kernel_rfl
noncomputable def opsOf (c : Code) : Array Oper := match c with
  | .region _ ops _ => ops
  | _ => #[]
noncomputable def idOf (c : Code) : Nat := match c with
  | .region id _ _ => id
  | _ => 0
noncomputable def rpO : Array Oper := opsOf rp5
theorem rp5_eq : rp5 = .region (idOf rp5) rpO false := by kernel_rfl
noncomputable def opA : Oper := rpO.toList.getD 4 ⟨none, .assign (.tmp 0), 0, "", #[], none⟩
noncomputable def opB : Oper := rpO.toList.getD 5 ⟨none, .assign (.tmp 0), 0, "", #[], none⟩
theorem rpO_size : rpO.size = 6 := by kernel_rfl
theorem opA_at : rpO[4]? = some opA := by kernel_rfl
theorem opB_at : rpO[5]? = some opB := by kernel_rfl
theorem opA_op : opA.op = .makeFunc (.func 179) #[.tmp 39] #[] := by kernel_rfl
theorem opA_dst : opA.dst = some 40 := by kernel_rfl
theorem opA_grd : opA.guard = none := by kernel_rfl
theorem opB_op : opB.op = .call { callee := .value (.func 178), args := #[.tmp 38, .tmp 40], argTypes := #[186, 1] } := by kernel_rfl
theorem opB_dst : opB.dst = some 41 := by kernel_rfl
theorem opB_grd : opB.guard = none := by kernel_rfl
noncomputable def preO (S : Sys) (s : St) : Option St := runF (ctxS S noE 62) rpO 0 (rpO.toList.take 4) s
theorem once_code {S : Sys} (hS : SysOk S Tryz.prog) {s sf : St} {m sz off nx2 : Nat} {a0 a3 : AV} {H2 : Hp} {e e2 : Option Nat} {row row2 : List D} {d2 : D} (hpre : preO S s = some sf) (h38 : sf.t.get 38 = some (.v (.one (.ptr m sz 0 off)))) (h39 : sf.t.get 39 = some (.v (.one (.ptr m sz 0 0))))
    (h0 : sf.t.get 0 = some a0) (h3 : sf.t.get 3 = some a3) (hsz : sz ≠ 0) (hm : sf.H m = some ⟨e, sz, [row]⟩) (r0 : row[off]? = some (.int .u32 0)) (r1 : row[off + 1]? = some (.int .i32 0))
    (hrun : RunAt Tryz.prog prepN [.one (.ptr m sz 0 0)] (setD sf.H m e sz row (off + 1) (.int .i32 1)) sf.nx (.tup []) H2 nx2) (hm2 : H2 m = some ⟨e2, sz, [row2]⟩) (q0 : row2[off]? = some d2) (q1 : row2[off + 1]? = some (.int .i32 1)) :
    CodeR Tryz.prog 62 none rp5 s .normal (mkS [(0, a0), (3, a3)] (setD (setD H2 m e2 sz row2 off (.int .u32 1)) m e2 sz (splice row2 off [.int .u32 1]) (off + 1) (.int .i32 0)) nx2) := by
  intro C a w ι β M B Qx n ro hnt hrr hs hp hB hmk hK
  rw [rp5_eq]
  refine wpIn_region ?_
  rw [rpO_size, show List.range 6 = List.range' 0 (rpO.toList.take 4).length ++ [4, 5] by rw [List.length_take, Array.length_toList, rpO_size]; rfl]
  have hf : ∀ f, (S.tab f).isSome = true → FnEff Tryz.prog f (noE.fn f) := fun f _ ads H nx r H' nx' h => by cases h
  have hy : YldOk Tryz.prog noE.yld := fun lp ads H nx r H' nx' h => by cases h
  have hC := ctx_ok hS hf hy 62 C.X C.dfs (fun _ => true)
  have hs0 : Sim { ctxS S noE 62 with X := C.X, dfs := C.dfs } s.env a w ι β M := hs.ctx hnt.symm rfl rfl
  obtain ⟨rs, hr⟩ := runF_ok (C := ctxS S noE 62) ⟨fun _ => rfl, rfl, fun _ => rfl, fun _ => rfl⟩ hpre
  rw [← runRec_cx (ctxS S noE 62) C.X C.dfs] at hr
  obtain ⟨htx, _, _, hpb, _⟩ := runRec_txt _ _ _ _ _ hr
  have pl : Plain sf := fun i => by
    have := hpb (fun i => by
      rcases hp i with h' | h'
      · exact .inl h'
      · exact .inr (.inr h')) i
    simpa using this
  refine ops_prefix hC _ 0 s.env a w ι β M (fun j hj => ?_) htx.run hs0 hp.gens fun a1 w1 ι1 β1 M1 sm1 ev1 i1 => ?_
  · rw [List.getElem?_take_of_lt (by rw [List.length_take] at hj; omega)]
    simp
  have sm : Sim C sf.env a1 w1 ι1 β1 M1 := sm1.ctx (C' := C) hnt rfl rfl
  have at_ : ∀ (i : Nat) d, i ≠ gs → sf.t.get i = some (.v (.one d)) → Rd w1 ι1 M1 (valOf a1 i) d := fun i d hi h => by
    have hh := sm.hold i
    rw [St.env_ne _ hi, h] at hh
    exact hh
  have v38 := at_ 38 _ (by decide) h38
  have v39 := at_ 39 _ (by decide) h39
  rw [wpOpsIn_cons]
  unfold wpOpIn
  rw [opA_at]
  simp only
  rw [if_pos (by simp [Region.wanted, opA_grd])]
  refine wpIn_of_wp (by rw [opA_op]; intro c hc; cases hc) ?_
  refine wp_value (v := .func (.func 179) #[valOf a1 39] #[]) (w' := w1) ?_ ?_
  · have hmf : ∀ (fn : Fn) (first cap : Array Value) (w : World), (Instr.makeFunc fn first cap).run Tryz.prog w = .ok (.func fn first cap) w := fun _ _ _ _ => rfl
    have he : a1.eval (.tmp 39) = valOf a1 39 := rfl
    simp [execOp, opA_op, hmf, he]
  rw [opA_dst]
  have sA := sm.put (d := 40) (v := .func (.func 179) #[valOf a1 39] #[]) (av := .junk) (by rw [hnt]; decide) rfl trivial
  generalize ha2 : a1.put (some 40) (.func (.func 179) #[valOf a1 39] #[]) = a2 at *
  have hsz1 : a1.tmps.size = 62 := by rw [sm.size, hnt]
  have g38 : valOf a2 38 = valOf a1 38 := by rw [← ha2, valOf_put (by rw [hsz1]; decide), if_neg (by decide)]
  have g40 : valOf a2 40 = .func (.func 179) #[valOf a1 39] #[] := by rw [← ha2, valOf_put (by rw [hsz1]; decide), if_pos rfl]
  rw [wpOpsIn_cons]
  unfold wpOpIn
  rw [opB_at]
  simp only
  rw [if_pos (by simp [Region.wanted, opB_grd])]
  refine wpIn_of_wp (by rw [opB_op]; intro c hc; cases hc) ?_
  have hE : (upd sf.env 40 .junk) gs = .heap sf.H sf.nx := by rw [upd_ne _ _ (by decide)]; exact St.env_gs sf
  have hok := sA.heapOk hE
  have hcal : calleeOk Tryz.prog 178 = true := by kernel_rfl
  unfold Oper.wp
  have hcf := callFunc_ok hcal #[valOf a2 38, valOf a2 40] w1
  have he1 : a2.eval (.tmp 38) = valOf a2 38 := rfl
  have he2 : a2.eval (.tmp 40) = valOf a2 40 := rfl
  rw [show (execOp a2.eval opB).run Tryz.prog w1 = .ok (.enter 178 #[valOf a2 38, valOf a2 40]) w1 by
    simp [execOp, opB_op, resolve, invoke, Act.eval, Deferred.ofValue, hcf, valOf], Oper.upon_enter, opB_dst, g40, g38]
  refine (once_eff (v0 := valOf a1 38) (vm := valOf a1 39) sA.lt hok hsz hm r0 r1 v38 v39 hrun hm2 q0 q1).mono fun e' w2 hp2 => ?_
  obtain ⟨rfl, ι2, M2, heff⟩ := hp2
  obtain ⟨sB, evB⟩ := after_eff sA hE heff
  have sC := sB.put (d := 41) (v := .tuple #[]) (av := .junk) (by rw [hnt]; decide) rfl trivial
  show wpOpsIn (Fx ro) n Tryz.prog rpO Qx [] (a2.put (some 41) (.tuple #[])) w2
  have e1 : (⟨(putF sf 40 .junk).t, setD (setD H2 m e2 sz row2 off (.int .u32 1)) m e2 sz (splice row2 off [.int .u32 1]) (off + 1) (.int .i32 0), nx2⟩ : St).env = upd (upd sf.env 40 .junk) gs (.heap (setD (setD H2 m e2 sz row2 off (.int .u32 1)) m e2 sz (splice row2 off [.int .u32 1]) (off + 1) (.int .i32 0)) nx2) := by
    rw [St.env_H, St.set_env (s := sf) (s' := putF sf 40 .junk) (i := 40) (v := .junk) rfl]
  rw [← e1] at sC
  rw [← St.set_env (i := 41) (v := .junk) (s' := putF ⟨(putF sf 40 .junk).t, setD (setD H2 m e2 sz row2 off (.int .u32 1)) m e2 sz (splice row2 off [.int .u32 1]) (off + 1) (.int .i32 0), nx2⟩ 41 .junk) rfl] at sC
  generalize hH3 : setD (setD H2 m e2 sz row2 off (.int .u32 1)) m e2 sz (splice row2 off [.int .u32 1]) (off + 1) (.int .i32 0) = H3 at *
  have plC : Plain (putF ⟨(putF sf 40 .junk).t, H3, nx2⟩ 41 .junk) := fun i => by
    by_cases hi : i = gs
    · exact .inl hi
    · right
      rw [St.set_env (s := ⟨(putF sf 40 .junk).t, H3, nx2⟩) (s' := putF ⟨(putF sf 40 .junk).t, H3, nx2⟩ 41 .junk) (i := 41) (v := .junk) rfl]
      by_cases h41 : i = 41
      · subst h41; rw [upd_same]; rfl
      · rw [upd_ne _ _ h41, St.env_H, upd_ne _ _ hi, St.set_env (s := sf) (s' := putF sf 40 .junk) (i := 40) (v := .junk) rfl]
        by_cases h40 : i = 40
        · subst h40; rw [upd_same]; rfl
        · rw [upd_ne _ _ h40]; exact (pl i).resolve_left hi
  have hl : Less (mkS [(0, a0), (3, a3)] H3 nx2) (putF ⟨(putF sf 40 .junk).t, H3, nx2⟩ 41 .junk) := by
    refine less_of (by kernel_rfl) (fun o => rfl) rfl ?_
    have g : ∀ i, i ≠ 40 → i ≠ 41 → (putF ⟨(putF sf 40 .junk).t, H3, nx2⟩ 41 .junk).t.get i = sf.t.get i := fun i h1 h2 => by
      show ((sf.t.set (some .junk) 30 40).set (some .junk) 30 41).get i = _
      rw [Tr.get_set _ _ _ _ (by decide), if_neg h2, Tr.get_set _ _ _ _ (by decide), if_neg h1]
    simp only [List.map_cons, List.map_nil]
    rw [g 0 (by decide) (by decide), g 3 (by decide) (by decide), h0, h3]
  obtain ⟨k1, k2⟩ := sC.less plC hl
  have evW := ev1.trans evB
  exact hK C _ w2 ι2 _ M2 hnt rfl (fun _ => rfl) k1 k2 (hmk.mono evW) evW (fun o b h => heff.ext o b (i1 o b h))
end Go.Proofs.YtmhinddneefmbaaGreat.Pe
namespace Go.Proofs.YtmhinddneefmbaaGreat.Pe
open Go
set_option maxRecDepth 100000
noncomputable def onceH (S : Sys) (k : Nat) (sf : St) (m sz off : Nat) (a0 a3 : AV) : Option St := match sf.H m with
  | some ⟨e, sz2, [row]⟩ => br (Nat.beq sz2 sz) (match row[off]? with
    | some (.int .u32 (.ofNat 0)) => match row[off + 1]? with
      | some (.int .i32 (.ofNat 0)) => match (evs S k).fn prepN [.one (.ptr m sz 0 0)] (setD sf.H m e sz row (off + 1) (.int .i32 (.ofNat 1))) sf.nx with
        | some (.tup [], H2, nx2) => match H2 m with
          | some ⟨e2, sz3, [row2]⟩ => br (Nat.beq sz3 sz) (match row2[off]? with
            | some d2 => match row2[off + 1]? with
              | some (.int .i32 (.ofNat 1)) => some (mkS [(0, a0), (3, a3)] (setD (setD H2 m e2 sz row2 off (.int .u32 (.ofNat 1))) m e2 sz (splice row2 off [.int .u32 (.ofNat 1)]) (off + 1) (.int .i32 (.ofNat 0))) nx2)
              | _ => none
            | _ => none) none
          | _ => none
        | _ => none
      | _ => none
    | _ => none) none
  | _ => none
noncomputable def onceS (S : Sys) (k : Nat) (s : St) : Option St := match preO S s with
  | some sf => match sf.t.get 38 with
    | some (.v (.one (.ptr m sz 0 off))) => match sf.t.get 39 with
      | some (.v (.one (.ptr m' sz' 0 0))) => match sf.t.get 0 with
        | some a0 => match sf.t.get 3 with
          | some a3 => br (Nat.beq m' m) (br (Nat.beq sz' sz) (br (Nat.blt 0 sz) (onceH S k sf m sz off a0 a3) none) none) none
          | _ => none
        | _ => none
      | _ => none
    | _ => none
  | _ => none
theorem onceS_ok {S : Sys} (hS : SysOk S Tryz.prog) (hp : (S.tab prepN).isSome = true) {k : Nat} {s s' : St} (h : onceS S k s = some s') : CodeR Tryz.prog 62 none rp5 s .normal s' := by
  unfold onceS at h
  split at h
  · rename_i sf hpre
    split at h
    · rename_i m sz off h38
      split at h
      · rename_i m' sz' h39
        split at h
        · rename_i a0 h0
          split at h
          · rename_i a3 h3
            obtain ⟨e1, h⟩ := br_some h
            obtain ⟨e2, h⟩ := br_some h
            obtain ⟨e3, h⟩ := br_some h
            have e1 := Nat.eq_of_beq_eq_true e1
            have e2 := Nat.eq_of_beq_eq_true e2
            have e3 := blt_lt e3
            subst e1; subst e2
            unfold onceH at h
            split at h
            · rename_i e sz2 row hm
              obtain ⟨e4, h⟩ := br_some h
              have e4 := Nat.eq_of_beq_eq_true e4
              subst e4
              split at h
              · rename_i r0
                split at h
                · rename_i r1
                  split at h
                  · rename_i H2 nx2 hrun
                    split at h
                    · rename_i e2 sz3 row2 hm2
                      obtain ⟨e5, h⟩ := br_some h
                      have e5 := Nat.eq_of_beq_eq_true e5
                      subst e5
                      split at h
                      · rename_i d2 q0
                        split at h
                        · rename_i q1
                          injection h with h
                          subst h
                          exact once_code hS hpre h38 h39 h0 h3 (by omega) hm r0 r1 ((evs_ok hS k).fn prepN hp _ _ _ _ _ _ hrun) hm2 q0 q1
                        · cases h
                      · cases h
                    · cases h
                  · cases h
                · cases h
              · cases h
            · cases h
          · cases h
        · cases h
      · cases h
    · cases h
  · cases h
theorem CodeR.skip {P : Program} {nt : Nat} {r : Option Nat} {s : St} : CodeR P nt r .skip s .normal s := by
  intro C a w ι β M B Qx n ro hnt hrr hs hp hB hm hK
  exact wpIn_skip (hK C a w ι β M hnt rfl (fun _ => rfl) hs hp hm (Evo.refl _ _) (fun _ _ h => h))
noncomputable def rpFd : FD := fdOf Tryz.f133
noncomputable def retOf (S : Sys) (ex : Ex) (s : St) : Option (RV × Hp × Nat) := match ex with
  | .exit _ => none
  | _ => resOf S rpFd s
noncomputable def rpF (S : Sys) (k : Nat) (ads : List AD) (H : Hp) (nx : Nat) : Option (RV × Hp × Nat) := match ads with
  | [x] => match (evs S k).code 62 none rp0 ⟨startS [x] 0 .leaf, H, nx⟩ with
    | some (.normal, s1) => match (evs S k).code 62 none rp1 s1 with
      | some (.normal, s2) => match (evs S k).code 62 none rp4 s2 with
        | some (.normal, s3) => match condS s3 (.tmp 35) with
          | some true => match onceS S k s3 with
            | some s4 => match (evs S k).code 62 none rp6 s4 with
              | some (.ret, s5) => resOf S rpFd s5
              | _ => none
            | none => none
          | some false => match (evs S k).code 62 none rpR s3 with
            | some (ex, s5) => retOf S ex s5
            | none => none
          | none => none
        | _ => none
      | _ => none
    | _ => none
  | _ => none
theorem rpF_ok {S : Sys} (hS : SysOk S Tryz.prog) (hp : (S.tab prepN).isSome = true) (hfd : S.tab repN = some rpFd) (k : Nat) : FnEff Tryz.prog repN (rpF S k) := by
  rw [FnEff.iff]
  intro ads H nx r H' nx' hq
  unfold rpF at hq
  split at hq
  · rename_i x
    have fin : ∀ {ex : Ex} {s : St}, CodeR Tryz.prog 62 none rpB ⟨startS [x] 0 .leaf, H, nx⟩ ex s → (ex = .normal ∨ ex = .ret) → resOf S rpFd s = some (r, H', nx') → RunAt Tryz.prog repN [x] H nx r H' nx' := fun hB hex hr =>
      fn_run (S := S) hS (f := repN) (fd := rpFd) (ads := [x]) hfd ⟨Nat.le_of_ble_eq_true (by kernel_rfl), Nat.le_of_ble_eq_true (by kernel_rfl)⟩ hB hex hr
    split at hq
    · rename_i s1 h1
      have k1 := CodeR.evs hS h1
      split at hq
      · rename_i s2 h2
        have k2 := CodeR.evs hS h2
        split at hq
        · rename_i s3 h3
          have k3 := CodeR.evs hS h3
          split at hq
          · rename_i hc
            split at hq
            · rename_i s4 h4
              have k4 := onceS_ok hS hp h4
              split at hq
              · rename_i s5 h5
                have k5 := CodeR.evs hS h5
                have kX : CodeR Tryz.prog 62 none rpX s3 .ret s5 := by rw [rpX_eq]; exact k4.seq k5
                have kC : CodeR Tryz.prog 62 none rpC s2 .ret s5 := by rw [rpC_eq]; exact k3.seq (CodeR.cond hc kX)
                refine fin (ex := .ret) (s := s5) ?_ (.inr rfl) hq
                rw [rpB_eq]
                exact k1.seq (k2.seq (kC.seq' (by simp)))
              · cases hq
            · cases hq
          · rename_i hc
            split at hq
            · rename_i ex s5 h5
              have k5 := CodeR.evs hS h5
              have kC : CodeR Tryz.prog 62 none rpC s2 .normal s3 := by rw [rpC_eq]; exact k3.seq (CodeR.cond hc CodeR.skip)
              have hB : CodeR Tryz.prog 62 none rpB ⟨startS [x] 0 .leaf, H, nx⟩ ex s5 := by
                rw [rpB_eq]
                exact k1.seq (k2.seq (kC.seq k5))
              unfold retOf at hq
              split at hq
              · cases hq
              · rename_i hne
                exact fin hB (by cases ex with
                  | normal => exact .inl rfl
                  | ret => exact .inr rfl
                  | exit id => exact absurd rfl (hne id)) hq
            · cases hq
          · cases hq
        · cases hq
      · cases hq
    · cases hq
  · cases hq
end Go.Proofs.YtmhinddneefmbaaGreat.Pe
