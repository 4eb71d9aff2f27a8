/- A part of the proof of JbH. -/
import Derived.Test.YtmhinddneefmbaaGreatKw37
set_option linter.unusedSimpArgs false
set_option linter.unusedVariables false
set_option linter.unusedSectionVars false
namespace Go.Proofs.YtmhinddneefmbaaGreat.Pe
open Go
set_option maxRecDepth 100000
theorem rowSet_setCell {w : World} {b : Nat} {cs : Array Value} {T : TypeId} {o : Nat} {v : Value} (h : w.heap[b]? = some (.cells cs T (0, 0))) (ho : o < cs.size) : rowSet w b cs o [v] = w.setCell ⟨b, o, none⟩ v := by
  have e : (cs.toList.take o ++ [v] ++ cs.toList.drop (o + [v].length)).toArray = cs.setIfInBounds o v := by
    apply Array.ext'
    rw [Array.toList_setIfInBounds, List.set_eq_take_append_cons_drop, if_pos (by simpa using ho)]
    simp
  unfold rowSet World.setRow World.setCell
  rw [e]
  congr 1
  apply Array.ext_getElem?
  intro k
  rw [Array.getElem?_modify, Array.getElem?_modify]
  split
  · rename_i hk
    subst hk
    rw [h]
    rfl
  · rfl
section
variable {w w1 w2 : World} {ι ι1 ι2 : Nat → Option Nat} {M M1 M2 : Nat → Prop} {H H1 H2 : Hp} {nx nx1 nx2 : Nat}
theorem EffTo.trans (hM : ∀ b, M b → b < w.heap.size) (h : EffTo w ι M H w1 ι1 M1 H1 nx1) (k : EffTo w1 ι1 M1 H1 w2 ι2 M2 H2 nx2) : EffTo w ι M H w2 ι2 M2 H2 nx2 :=
  ⟨k.ok, fun o b hb => k.ext o b (h.ext o b hb), h.evo.trans k.evo, fun b hb hn => k.kept b (h.kept b hb hn) fun o x ho hi => by
    obtain ⟨o', x', h1, h2⟩ := h.evo.back b (hM b hb) ⟨o, x, ho, hi⟩
    exact hn o' x' h1 h2, fun b hb hm => h.back b hb (k.back b (Nat.lt_of_lt_of_le hb h.evo.size) hm), k.lt⟩
theorem EffTo.same (hM : ∀ b, M b → b < w.heap.size) (hok : HeapOk w ι M H nx) (ho : w1.os = w.os) (ht : w1.tape = w.tape) (hp : w1.output = w.output) (hh : w1.heap = w.heap) : EffTo w ι M H w1 ι M H nx := by
  have ev : ∀ (M : Nat → Prop), Evo (fun _ => False) M w M w1 := fun M => ⟨ho, ht, hp, by rw [hh]; exact Nat.le_refl _, fun _ _ _ => by rw [hh], fun _ _ h => h, fun _ _ h => h.elim, .of fun b _ => by rw [hh]⟩
  refine ⟨⟨hok.new, fun o ob h => ?_, hok.inj, hok.ctl⟩, fun _ _ h => h, ev _, fun _ h _ => h, fun _ _ h => h, fun b h => by rw [hh]; exact hM b h⟩
  obtain ⟨b, h1, h2⟩ := hok.objs o ob h
  exact ⟨b, h1, h2.mono (ev M) (fun _ _ h => h) (by rw [hh])⟩
theorem setCell_eff {m sz b j : Nat} {e : Option Nat} {row : List D} {v : Value} {d : D} (hM : ∀ b, M b → b < w.heap.size) (hok : HeapOk w ι M H nx) (hm : H m = some ⟨e, sz, [row]⟩) (hsz : sz ≠ 0) (hb : ι m = some b) (hj : j < row.length) (hd : Rd w ι M v d) :
    EffTo w ι M H (w.setCell ⟨b, j, none⟩ v) ι M (updO H m (some ⟨e, sz, [splice row j [d]]⟩)) nx := by
  obtain ⟨b', hb', ho⟩ := hok.objs _ _ hm
  rw [hb] at hb'
  injection hb' with hb'
  subst hb'
  have hMb : M b := hok.ctl _ _ _ hm hb
  rcases ho with ⟨h0, _⟩ | ⟨T, cs, hT, hB⟩
  · exact absurd h0 hsz
  have hat : w.heap[b]? = some (.cells cs T (0, 0)) := hB.at_
  have hu : RdL w ι M [v] [d] := ⟨rfl, fun k v' d' hv hd' => by
    cases k with
    | zero => simp at hv hd'; subst hv hd'; exact hd
    | succ k => simp at hv⟩
  obtain ⟨f1, f2, f3⟩ := hB.store hMb (i := 0) (off := j) (r := row) rfl (vs := [d]) (by simp; omega) hu
  simp only [Nat.zero_mul, Nat.zero_add] at f1 f2 f3
  have hjc : j < cs.size := by simp at f1; omega
  have hsh := rowSet_shape hat j [v] f1
  rw [rowSet_setCell hat hjc] at f3 hsh
  have same : ∀ k, k ≠ b → (w.setCell ⟨b, j, none⟩ v).heap[k]? = w.heap[k]? := fun k hk => by rw [← rowSet_setCell hat hjc]; exact setRow_other w b k _ hk
  have sz' : (w.setCell ⟨b, j, none⟩ v).heap.size = w.heap.size := by simp [World.setCell]
  have ev : Evo (fun _ => False) M w M (w.setCell ⟨b, j, none⟩ v) := ⟨rfl, rfl, rfl, Nat.le_of_eq sz'.symm, fun k _ hk => same k (fun h => by subst h; exact hk hMb), fun _ _ h => h, fun _ _ h => h.elim, hsh⟩
  have fro : ∀ k x, updO H m (some ⟨e, sz, [splice row j [d]]⟩) k = some x → ∃ y, H k = some y := fun k x hk => by
    rw [updO_at] at hk
    split at hk
    · rename_i e; subst e; exact ⟨_, hm⟩
    · exact ⟨x, hk⟩
  refine ⟨⟨hok.new, fun o x hx => ?_, fun o o' x x' c h1 h2 => ?_, fun o x c h1 => ?_⟩, fun _ _ h => h, ⟨rfl, rfl, rfl, Nat.le_of_eq sz'.symm, fun k _ hk => same k (fun h => by subst h; exact hk ⟨m, _, hm, hb⟩), fun c _ hc => ?_, fun _ _ h => h.elim, hsh⟩, fun _ h _ => h, fun _ _ h => h, fun c h => by rw [sz']; exact hM c h⟩
  · rw [updO_at] at hx
    split at hx
    · rename_i e'; subst e'
      injection hx with hx; subst hx
      exact ⟨b, hb, .inr ⟨T, _, hT, by simpa using f3⟩⟩
    · rename_i hne
      obtain ⟨c, h1, h2⟩ := hok.objs o x hx
      exact ⟨c, h1, h2.mono ev (fun _ _ h => h) (same c (fun h => by subst h; exact hne (hok.inj _ _ _ _ _ hx hm h1 hb)))⟩
  · obtain ⟨y, hy⟩ := fro o x h1
    obtain ⟨y', hy'⟩ := fro o' x' h2
    exact hok.inj o o' y y' c hy hy'
  · obtain ⟨y, hy⟩ := fro o x h1
    exact hok.ctl o y c hy
  · obtain ⟨o, x, h1, h2⟩ := hc
    obtain ⟨y, hy⟩ := fro o x h1
    exact ⟨o, y, hy, h2⟩
theorem cell_of {m sz b j : Nat} {e : Option Nat} {row : List D} {d : D} (hok : HeapOk w ι M H nx) (hm : H m = some ⟨e, sz, [row]⟩) (hsz : sz ≠ 0) (hb : ι m = some b) (hd : row[j]? = some d) : ∃ v, w.cell? ⟨b, j, none⟩ = some v ∧ Rd w ι M v d ∧ w.frozen? ⟨b, j, none⟩ = false := by
  obtain ⟨b', hb', ho⟩ := hok.objs _ _ hm
  rw [hb] at hb'
  injection hb' with hb'
  subst hb'
  rcases ho with ⟨h0, _⟩ | ⟨T, cs, hT, hB⟩
  · exact absurd h0 hsz
  have hat : w.heap[b]? = some (.cells cs T (0, 0)) := hB.at_
  obtain ⟨v, h1, h2⟩ := hB.rd 0 j row d rfl hd
  simp only [Nat.zero_mul, Nat.zero_add] at h1
  exact ⟨v, by simp [World.cell?, hat, h1], h2, by simp [World.frozen?, hat]⟩
noncomputable def setD (H : Hp) (m : Nat) (e : Option Nat) (sz : Nat) (row : List D) (j : Nat) (d : D) : Hp := updO H m (some ⟨e, sz, [splice row j [d]]⟩)
end
end Go.Proofs.YtmhinddneefmbaaGreat.Pe
namespace Go.Proofs.YtmhinddneefmbaaGreat.Pe
open Go
def DefOk (P : Program) (g : Nat) (G : List AD → Hp → Nat → Option (Hp × Nat)) : Prop :=
  calleeOk P g = true ∧ ∀ ads H nx H' nx', G ads H nx = some (H', nx') → ∀ (w : World) (ι : Nat → Option Nat) (M : Nat → Prop) (vals : Array Value), (∀ b, M b → b < w.heap.size) → HeapOk w ι M H nx → vals.size = ads.length →
    (∀ (j : Nat) v a, vals[j]? = some v → ads[j]? = some a → RdA w ι M v a) → ∀ (n : Nat), CallsDIn (Fx none) n P g vals .returning w fun e u' w' => u' = .returning ∧ (∃ v, e = .returned v) ∧ ∃ ι' M', EffTo w ι M H w' ι' M' H' nx'
def DeferR (P : Program) (nt : Nat) (c : Code) (s : St) (s' : St) (g : Nat) (dads : List AD) : Prop :=
  ∀ (C : Ctx) (a : Act) (w : World) (ι β : Nat → Option Nat) (M : Nat → Prop) (Qx : Exit → Act → World → Prop) (n : Nat),
    C.nt = nt → Sim C s.env a w ι β M → Plain s →
    (∀ C' a' w' ι' β' M' vals, C'.nt = nt → C'.X = C.X → C'.dfs = ⟨.fn (.func g) #[], vals⟩ :: C.dfs → vals.size = dads.length → (∀ (j : Nat) v x, vals[j]? = some v → dads[j]? = some x → RdA w' ι' M' v x) → Sim C' s'.env a' w' ι' β' M' → Plain s' → Evo C.X M w M' w' → (∀ o b, ι o = some b → ι' o = some b) → Qx .normal a' w') → c.wpIn (Fx none) n P Qx a w
section
variable {P : Program} {S : Sys}
theorem fn_defer (hS : SysOk S P) {f g : Nat} {fd : FD} {G : List AD → Hp → Nat → Option (Hp × Nat)} (hg : DefOk P g G) {ads dads : List AD} {H H' H4 : Hp} {nx nx' nx4 : Nat} {ex : Ex} {s0 s1 s2 s3 : St} {r : RV} {c0 cA dR cR : Code} (hbody : fd.body = .seq c0 (.seq cA (.seq dR cR))) (hfd : S.tab f = some fd) (hle : ads.length ≤ fd.nt ∧ fd.nt ≤ 1000000)
    (k0 : CodeR P fd.nt none c0 ⟨startS ads 0 .leaf, H, nx⟩ .normal s0) (kA : CodeR P fd.nt none cA s0 .normal s1) (kD : DeferR P fd.nt dR s1 s2 g dads) (kR : CodeR P fd.nt none cR s2 ex s3) (hex : ex = .normal ∨ ex = .ret) (hG : G dads s3.H s3.nx = some (H4, nx4)) (hr : resOf S fd ⟨s3.t, H4, nx4⟩ = some (r, H', nx')) : RunAt P f ads H nx r H' nx' := by
  intro w ι M vals hM hok hl hargs
  obtain ⟨fn, k1, k2, k3, k4, k5⟩ := hS.tab f fd hfd
  unfold resOf at hr
  cases hrs : (resQ (ctxS S noE fd.nt) fd.res).runS ⟨s3.t, H4, nx4⟩ [] [] with
  | none => rw [hrs] at hr; cases hr
  | some y =>
    obtain ⟨l, s5, rr, uu⟩ := y
    rw [hrs] at hr
    simp only [Option.bind_some, Option.some.injEq, Prod.mk.injEq] at hr
    obtain ⟨rfl, rfl, rfl⟩ := hr
    obtain ⟨hrun, _, _⟩ := Q.runS_at hrs
    let X : Nat → Prop := fun b => M b ∧ ∀ o x, H o = some x → ι o ≠ some b
    let C0 : Ctx := { ctxS S noE fd.nt with X := X }
    have hsz : (vals ++ Array.replicate (fn.ntmps - vals.size) undef).size = fd.nt := by simp; omega
    obtain ⟨sm0, pl0⟩ := mk_sim (C := C0) (t := startS ads 0 .leaf) (tmps := vals ++ Array.replicate (fn.ntmps - vals.size) undef) hok hM hsz hle.2 rfl rfl (fun i v hi hv => by
      rw [startS_get ads 0 .leaf (by omega)] at hv
      split at hv
      · rename_i hlt
        simp only [Nat.sub_zero] at hv
        cases hx : ads[i]? with
        | none => rw [hx] at hv; cases hv
        | some x =>
          rw [hx] at hv
          simp only [Option.map_some, Option.some.injEq] at hv
          have hil : i < vals.size := by omega
          refine ⟨x, hv.symm, ?_⟩
          have : (vals ++ Array.replicate (fn.ntmps - vals.size) undef).getD i undef = vals[i] := by
            rw [Array.getD_eq_getD_getElem?, Array.getElem?_append_left hil, Array.getElem?_eq_getElem hil]; rfl
          rw [this]
          exact hargs i _ x (Array.getElem?_eq_getElem hil) hx
      · cases hv)
    refine callsIn_fx.1 (callsIn_of_wp_marks (F := Fx none) (n := 0) k1 k2 trivial ?_ rfl)
    rw [hbody]
    refine wpIn_seq (k0 C0 _ w ι _ M ⟨w.heap.size, []⟩ _ 0 none rfl rfl sm0 pl0 (Nat.le_refl _) (Marks.none _ _ _ _) ?_)
    intro C9 a9 w9 ι9 β9 M9 hnt9 hX9 _ sm9 pl9 mk9 ev9 hi9
    refine wpIn_seq (kA C9 a9 w9 ι9 β9 M9 ⟨w.heap.size, []⟩ _ 0 none hnt9 rfl sm9 pl9 ev9.size mk9 ?_)
    intro C1 a1 w1 ι1 β1 M1 hnt1 hX19 _ sm1 pl1 mk1 ev19 hi19
    rw [hX9] at ev19
    have hX1 : C1.X = C0.X := hX19.trans hX9
    have ev1 : Evo C0.X M w M1 w1 := ev9.trans ev19
    have hi1 : ∀ o b, ι o = some b → ι1 o = some b := fun o b h => hi19 o b (hi9 o b h)
    refine wpIn_seq (kD C1 a1 w1 ι1 β1 M1 _ 0 hnt1 sm1 pl1 ?_)
    intro C2 a2 w2 ι2 β2 M2 dv hnt2 hX2 hd2 hdl hda sm2 pl2 ev2 hi2
    refine kR C2 a2 w2 ι2 β2 M2 ⟨w2.heap.size, C2.dfs⟩ _ 0 none hnt2 rfl sm2 pl2 (Nat.le_refl _) (Marks.none _ _ _ _) ?_
    intro C3 a3 w3 ι3 β3 M3 hnt3 hX3 _ sm3 pl3 mk3 ev3 hi3
    have goal : LeavesInM (Fx none) 0 P fn a3.tmps (fun e w' => ∃ v ι' M', e = .returned v ∧ RdV w' ι' M' v (rvOf l) ∧ HeapOk w' ι' M' s5.H s5.nx ∧ (∀ o b, ι o = some b → ι' o = some b) ∧ Evo (fun _ => False) (fun b => ∃ o x, H o = some x ∧ ι o = some b) w (fun b => ∃ o x, s5.H o = some x ∧ ι' o = some b) w' ∧
        (∀ b, M b → (∀ o x, H o = some x → ι o ≠ some b) → M' b) ∧ (∀ b, b < w.heap.size → M' b → M b) ∧ (∀ b, M' b → b < w'.heap.size)) a3.defers .returning w3 := by
      rw [sm3.defs]
      refine leaves_marks C3.dfs w3 mk3 ev3.size fun w4 hsh4 hlow4 => ?_
      show LeavesInM (Fx none) 0 P fn a3.tmps _ C2.dfs .returning w4
      rw [hd2]
      have hcal := callFunc_ok hg.1 dv w4
      have sm4 := sm3.sh pl3 hsh4
      have hX31 : C3.X = C1.X := hX3.trans hX2
      rw [hX1] at ev2
      rw [hX2, hX1] at ev3
      have hda4 : ∀ (j : Nat) v x, dv[j]? = some v → dads[j]? = some x → RdA w4 ι3 M3 v x := fun j v x h1 h2 => ((hda j v x h1 h2).mono ev3 hi3).sh hsh4
      refine ⟨by simp, .inr ⟨fun h => (by cases h), .func g, #[], g, dv, rfl, ?_, fun _ _ => trivial, ?_⟩⟩
      · simp [invoke, hcal]
      have hcall := hg.2 dads s3.H s3.nx H4 nx4 hG w4 ι3 M3 dv sm4.lt (sm4.heapOk (St.env_gs s3)) hdl hda4 (0 - 1)
      refine CallsDIn.mono hcall ?_
      rintro e u' w5 ⟨rfl, ⟨v0, rfl⟩, ι5, M5, heff⟩
      obtain ⟨sm5, evW5⟩ := after_eff sm4 (St.env_gs s3) heff
      rw [← St.env_H] at sm5
      have pl5 : Plain ⟨s3.t, H4, nx4⟩ := pl3.heap _ _
      show LeavesInM (Fx none) 0 P fn a3.tmps _ C1.dfs .returning w5
      have mk5 : Marks ⟨w.heap.size, []⟩ C1.dfs w5 M5 := by
        obtain ⟨ms, e0, p1, p2⟩ := mk1.mono (ev2.trans ev3)
        obtain ⟨ms', e0', _, p2'⟩ := mk1
        have ems : ms = ms' := List.append_cancel_right (e0.symm.trans e0')
        subst ems
        refine ⟨ms, e0, p1, fun d hd => ?_⟩
        obtain ⟨D, q1, q2, q3, q4⟩ := p2 d hd
        obtain ⟨D', q1', _, q3', _⟩ := p2' d hd
        have eD : D = D' := by rw [q1] at q1'; injection q1'
        subst eD
        have hD1 : D < w1.heap.size := (Array.getElem?_eq_some_iff.1 q3').1
        have hD2 : D < w2.heap.size := Nat.lt_of_lt_of_le hD1 ev2.size
        have h4 : w4.heap[D]? = some (.deferred (some [])) := (hlow4 D hD2).trans q3
        have hD4 : D < w4.heap.size := (Array.getElem?_eq_some_iff.1 h4).1
        exact ⟨D, q1, q2, (evW5.same D hD4 q4).trans h4, fun hm => q4 (evW5.back D hD4 hm)⟩
      have ev13 : Evo X M w M3 w3 := (ev1.trans ev2).trans ev3
      have ev14 : Evo X M w M3 w4 := ev13.sh hsh4 fun b hb => hlow4 b (Nat.lt_of_lt_of_le hb (Nat.le_trans ev1.size ev2.size))
      have hCX : C3.X = X := hX31.trans hX1
      rw [hCX] at evW5
      have ev15 : Evo X M w M5 w5 := ev14.trans evW5
      refine leaves_marks (B := ⟨w.heap.size, []⟩) C1.dfs w5 mk5 ev15.size fun w6 hsh6 hlow6 => ?_
      have sm6 := sm5.sh pl5 hsh6
      have hC : Ctx.Ok { ctxS S noE fd.nt with X := C3.X, dfs := C3.dfs } P := ctx_ok hS (fun f _ ads H nx r H' nx' h => by cases h) (fun lp ads H nx r H' nx' h => by cases h) fd.nt C3.X C3.dfs (fun _ => true)
      have sm7 : Sim { ctxS S noE fd.nt with X := C3.X, dfs := C3.dfs } (St.env ⟨s3.t, H4, nx4⟩) a3 w6 ι5 β3 M5 := sm6.ctx hnt3.symm rfl rfl
      obtain ⟨β7, M7, v, s7, e7, r7, hrv⟩ := results_sound (P := P) (fn := fn) hC sm7 (by rw [k4, resQ_cx (ctxS S noE fd.nt)]; exact hrun)
      show ∃ v, (results fn a3.tmps).run P w6 = .ok v w6 ∧ _
      refine ⟨v, hrv, v, ι5, M7, rfl, r7, ?_⟩
      have ev7 : Evo X M w M7 w6 := (ev15.sh hsh6 hlow6).trans (X := X) (by have e7' := e7; rw [show ({ ctxS S noE fd.nt with X := C3.X, dfs := C3.dfs } : Ctx).X = X from hCX] at e7'; exact e7')
      obtain ⟨t1, t2, t3, t4, t5, t6⟩ := effTo_of_sim (C := { ctxS S noE fd.nt with X := C3.X, dfs := C3.dfs }) (X := X) rfl hCX s7 (St.env_gs s5) ev7 (fun o b h => heff.ext o b (hi3 o b (hi2 o b (hi1 o b h))))
      exact ⟨t1, t2, t3, t4, t5, t6⟩
    rcases hex with rfl | rfl
    · exact goal
    · exact goal
end
section
variable {P : Program} {C : Ctx} {E E1 : Env} {a : Act} {w : World} {ι β : Nat → Option Nat} {M : Nat → Prop}
theorem ops_prefix {ro : Option Nat} {n : Nat} {ops : Array Oper} {Qx : Exit → Act → World → Prop} {rest : List Nat} (hC : C.Ok P) : ∀ (l : List Oper) (k : Nat) (E : Env) (a : Act) (w : World) (ι β : Nat → Option Nat) (M : Nat → Prop), (∀ j, j < l.length → l[j]? = ops[k + j]?) →
    (runFrom C ops k l).run E = some ((), E1) → Sim C E a w ι β M → Gens E (· ≤ k) →
    (∀ a' w' ι' β' M', Sim C E1 a' w' ι' β' M' → Evo C.X M w M' w' → (∀ o b, ι o = some b → ι' o = some b) → wpOpsIn (Fx ro) n P ops Qx rest a' w') → wpOpsIn (Fx ro) n P ops Qx (List.range' k l.length ++ rest) a w
  | [], k, E, a, w, ι, β, M, _, hq, h, hg, hK => by
    obtain ⟨_, rfl⟩ := ret_run hq
    exact hK _ _ _ _ _ h (Evo.refl _ _) (fun _ _ h => h)
  | o :: l, k, E, a, w, ι, β, M, hl, hq, h, hg, hK => by
    simp only [runFrom] at hq
    obtain ⟨_, E2, h1, hq2⟩ := Q.run_bind_some hq
    simp only [List.length_cons, List.range'_succ, List.cons_append]
    rw [wpOpsIn_cons]
    have ho : ops[k]? = some o := by have := hl 0 (by simp); simpa using this.symm
    have hg2 : Gens E2 (· ≤ k + 1) := ((grd_gen (U := (· ≤ k + 1)) (Nat.le_refl _)).run (hg.mono fun g hg => Nat.le_succ_of_le hg) h1).1
    refine grd_sound hC ho h1 h hg (by omega) ?_
    intro a' w' ι' β' M' s e i
    refine ops_prefix hC l (k + 1) E2 a' w' ι' β' M' (fun j hj => ?_) hq2 s hg2 fun a2 w2 ι2 β2 M2 s2 e2 i2 => hK a2 w2 ι2 β2 M2 s2 (e.trans e2) (fun o b h => i2 _ _ (i _ _ h))
    have := hl (j + 1) (by simpa using hj)
    simpa [Nat.add_assoc, Nat.add_comm 1 j] using this
end
noncomputable def opD (s : St) : Operand → Option AD
  | .tmp t => br (Nat.blt t 1000000) (match s.t.get t with
    | some (.v a) => some a
    | _ => none) none
  | .const v => match cst v with
    | some d => some (.one d)
    | none => none
  | _ => none
noncomputable def opsD (s : St) : List Operand → Option (List AD)
  | [] => some []
  | x :: l => match opD s x with
    | some a => match opsD s l with
      | some r => some (a :: r)
      | none => none
    | none => none
theorem opD_rd {C : Ctx} {s : St} {a : Act} {w : World} {ι β : Nat → Option Nat} {M : Nat → Prop} (h : Sim C s.env a w ι β M) {x : Operand} {d : AD} (hx : opD s x = some d) : RdA w ι M (a.eval x) d := by
  unfold opD at hx
  split at hx
  · rename_i t
    obtain ⟨ht, hx⟩ := br_some hx
    have ht := blt_lt ht
    split at hx
    · rename_i q hq
      injection hx with hx
      subst hx
      have hh := h.hold t
      rw [St.env_ne _ (show t ≠ gs from fun e => by rw [e] at ht; exact absurd ht (by decide)), hq] at hh
      exact hh
    · cases hx
  · split at hx
    · rename_i v q hq
      injection hx with hx
      subst hx
      exact cst_sound hq
    · cases hx
  · cases hx
theorem opsD_rd {C : Ctx} {s : St} {a : Act} {w : World} {ι β : Nat → Option Nat} {M : Nat → Prop} (h : Sim C s.env a w ι β M) : ∀ {l : List Operand} {ds : List AD}, opsD s l = some ds → l.length = ds.length ∧ ∀ (j : Nat) x d, l[j]? = some x → ds[j]? = some d → RdA w ι M (a.eval x) d
  | [], ds, hx => by
    injection hx with hx
    subst hx
    exact ⟨rfl, fun j x d h => by simp at h⟩
  | x :: l, ds, hx => by
    unfold opsD at hx
    split at hx
    · rename_i q hq
      split at hx
      · rename_i r hr
        injection hx with hx
        subst hx
        obtain ⟨h1, h2⟩ := opsD_rd h hr
        refine ⟨by simp [h1], fun j y d hy hd => ?_⟩
        cases j with
        | zero => simp at hy hd; subst hy hd; exact opD_rd h hq
        | succ j => exact h2 j y d (by simpa using hy) (by simpa using hd)
      · cases hx
    · cases hx
theorem defer_region {P : Program} {S : Sys} (hS : SysOk S P) {nt id m g : Nat} {ops : Array Oper} {o : Oper} {c : Call} {s sf : St} {dads : List AD} (hsize : ops.size = m + 1) (hpre : runF (ctxS S noE nt) ops 0 (ops.toList.take m) s = some sf) (ho : ops[m]? = some o) (hop : o.op = .defer c) (hc : c.callee = .value (.func g))
    (hdst : o.dst = none) (hgrd : o.guard = none) (hds : opsD sf c.args.toList = some dads) : DeferR P nt (.region id ops false) s sf g dads := by
  intro C a w ι β M Qx n hnt hs hp hK
  refine wpIn_region ?_
  rw [hsize, show List.range (m + 1) = List.range' 0 (ops.toList.take m).length ++ [m] by rw [List.length_take, Array.length_toList, hsize, Nat.min_eq_left (Nat.le_succ m), List.range_succ, List.range_eq_range']]
  have hf : ∀ f, (S.tab f).isSome = true → FnEff P f (noE.fn f) := fun f _ ads H nx r H' nx' h => by cases h
  have hy : YldOk P noE.yld := fun lp ads H nx r H' nx' h => by cases h
  have hC := ctx_ok hS hf hy nt C.X C.dfs (fun _ => true)
  have hs0 : Sim { ctxS S noE nt with X := C.X, dfs := C.dfs } s.env a w ι β M := hs.ctx hnt.symm rfl rfl
  obtain ⟨rs, hr⟩ := runF_ok (C := ctxS S noE nt) ⟨fun _ => rfl, rfl, fun _ => rfl, fun _ => rfl⟩ hpre
  rw [← runRec_cx (ctxS S noE nt) C.X C.dfs] at hr
  obtain ⟨htx, _, _, hpb, _⟩ := runRec_txt _ _ _ _ _ hr
  have pl : Plain sf := fun i => by
    have := hpb (fun i => by
      rcases hp i with h' | h'
      · exact .inl h'
      · exact .inr (.inr h')) i
    simpa using this
  refine ops_prefix hC _ 0 s.env a w ι β M (fun j hj => ?_) htx.run hs0 hp.gens fun a1 w1 ι1 β1 M1 sm1 ev1 i1 => ?_
  · rw [List.getElem?_take_of_lt (by rw [List.length_take] at hj; omega)]
    simp
  have sm : Sim C sf.env a1 w1 ι1 β1 M1 := sm1.ctx (C' := C) hnt rfl rfl
  obtain ⟨hl, hrd⟩ := opsD_rd sm hds
  rw [wpOpsIn_cons]
  unfold wpOpIn
  rw [ho]
  simp only
  rw [if_pos (by simp [Region.wanted, hgrd])]
  have hrun : (o.semAt (Fx none).round a1.eval).run P w1 = .ok (.defer ⟨.fn (.func g) #[], c.args.map a1.eval⟩) w1 := by
    show (o.semAt none a1.eval).run P w1 = _
    rw [Oper.semAt_none]
    simp [execOp, hop, resolve, hc, Act.eval, Deferred.ofValue]
  refine ⟨fun _ _ => trivial, ?_⟩
  rw [hrun, Oper.uponIn_defer, hdst]
  show wpOpsIn (Fx none) n P ops Qx [] { a1 with defers := ⟨.fn (.func g) #[], c.args.map a1.eval⟩ :: a1.defers } w1
  refine hK { C with dfs := ⟨.fn (.func g) #[], c.args.map a1.eval⟩ :: C.dfs } _ w1 ι1 β1 M1 (c.args.map a1.eval) hnt rfl rfl ?_ (fun j v x hv hx => ?_) ?_ pl ev1 i1
  · rw [Array.size_map, ← Array.length_toList, hl]
  · rw [Array.getElem?_map] at hv
    cases hj : c.args[j]? with
    | none => rw [hj] at hv; cases hv
    | some y =>
      rw [hj] at hv
      injection hv with hv
      subst hv
      exact hrd j y x (by rw [Array.getElem?_toList]; exact hj) hx
  · have := sm.dfr (⟨.fn (.func g) #[], c.args.map a1.eval⟩ :: C.dfs)
    rw [sm.defs]
    exact this
end Go.Proofs.YtmhinddneefmbaaGreat.Pe
