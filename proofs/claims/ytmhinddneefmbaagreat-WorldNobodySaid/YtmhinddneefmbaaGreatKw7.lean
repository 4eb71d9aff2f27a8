/- A part of the proof of JbH. -/
import Derived.Test.YtmhinddneefmbaaGreatKw6
set_option linter.unusedSimpArgs false
set_option linter.unusedVariables false
set_option linter.unusedSectionVars false
namespace Go.Proofs.YtmhinddneefmbaaGreat.Pe
open Go
theorem dstQ_some {C : Ctx} {o : Oper} {k : Nat → Q Unit} {E E1 : Env} (h : (dstQ o k C).run E = some ((), E1)) : ∃ d, o.dst = some d ∧ d < C.nt ∧ (k d).run E = some ((), E1) := by
  unfold dstQ at h
  split at h
  · rename_i d hd
    split at h
    · exact ⟨d, hd, by assumption, h⟩
    · cases h
  · cases h
theorem set_run {d : Nat} {v : AV} {E E1 : Env} (h : (Q.set d v (.ret ()) : Q Unit).run E = some ((), E1)) : E1 = upd E d v := by
  simp only [Q.run, Option.some.injEq, Prod.mk.injEq, true_and] at h; exact h.symm
section
variable {P : Program} {C : Ctx} {E E1 : Env} {a : Act} {w : World} {ι β : Nat → Option Nat} {M : Nat → Prop} {K : Act → World → Prop} {Qx : Exit → Act → World → Prop} {o : Oper} {d : Nat} {U : Nat → Prop} {γ : Nat}
def Then (C : Ctx) (E1 : Env) (M : Nat → Prop) (w : World) (ι : Nat → Option Nat) (K : Act → World → Prop) : Prop :=
  ∀ a' w' ι' β' M', Sim C E1 a' w' ι' β' M' → Evo C.X M w M' w' → (∀ o b, ι o = some b → ι' o = some b) → K a' w'
theorem wp_value {v : Value} {w' : World} (hr : (execOp a.eval o).run P w = .ok (.value v) w') (h : K (a.put o.dst v) w') : o.wp P a w K Qx := by
  unfold Oper.wp; rw [hr]; exact h
theorem Then.of {M1 : Nat → Prop} (h : Then C E1 M w ι K) (he : Evo C.X M w M1 w) : Then C E1 M1 w ι K := fun a' w' ι' β' M' s e i => h a' w' ι' β' M' s (he.trans e) i
theorem put_data (h : Sim C E a w ι β M) (hd : d < C.nt) (hdst : o.dst = some d) {v : Value} {x : AD} (hv : RdA w ι M v x) (hr : (execOp a.eval o).run P w = .ok (.value v) w)
    (hE : E1 = upd E d (.v x)) (hK : Then C E1 M w ι K) : o.wp P a w K Qx := by
  subst hE
  refine wp_value hr ?_
  rw [hdst]
  exact hK _ _ _ _ _ (h.put_v hd hv) (Evo.refl _ _) (fun _ _ h => h)
theorem put_place (h : Sim C E a w ι β M) (hd : d < C.nt) (hdst : o.dst = some d) {v : Value} {p : Pl} (hv : PlHolds w ι β M E v p) (hr : (execOp a.eval o).run P w = .ok (.value v) w)
    (hE : E1 = upd E d p.av) (hK : Then C E1 M w ι K) : o.wp P a w K Qx := by
  subst hE
  refine wp_value hr ?_
  rw [hdst]
  exact hK _ _ _ _ _ (h.put_pl hd hv) (Evo.refl _ _) (fun _ _ h => h)
theorem put_new (h : Sim C E a w ι β M) (hd : d < C.nt) (hdst : o.dst = some d) (hg : Gens E U) (hU : ¬ U γ) {cs : Array Value} {T : TypeId} {v : Value} {av : AV}
    (hav : match av with | .box g _ => g = γ | .own g _ _ _ => g = γ | _ => False)
    (hv : ∀ M', Evo C.X M w M' (w.alloc (.cells cs T)) → (w.alloc (.cells cs T)).heap[w.heap.size]? = some (.cells cs T (0, 0)) → Holds (w.alloc (.cells cs T)) ι (fun s => if s = d then some w.heap.size else β s) M' (fun s => if s = d then v else valOf a s) (upd E d av) d av)
    (hr : (execOp a.eval o).run P w = .ok (.value v) (w.alloc (.cells cs T)))
    (hE : E1 = upd E d av) (hK : Then C E1 M w ι K) : o.wp P a w K Qx := by
  subst hE
  refine wp_value hr ?_
  rw [hdst]
  let M' : Nat → Prop := fun b => M b ∨ b = w.heap.size
  have hev : Evo C.X M w M' (w.alloc (.cells cs T)) := ⟨rfl, rfl, rfl, by simp, fun b hb _ => Go.RowKit.Below.heap_alloc w _ b hb, fun b hb hm => by
    rcases hm with hm | hm
    · exact hm
    · omega, fun b hb _ => Go.RowKit.Below.heap_alloc w _ b hb, .of fun b hb => Go.RowKit.Below.heap_alloc w _ b hb⟩
  have hs : Sim C E a (w.alloc (.cells cs T)) ι β M' := h.world hev (fun b hb => .inl hb) (fun b hb => by
      rcases hb with hb | hb
      · have := h.lt b hb; simp; omega
      · simp; omega) (fun s b hs => Go.RowKit.Below.heap_alloc w _ b (h.lt b (h.ctlB s b hs))) (fun o x b hl hi => Go.RowKit.Below.heap_alloc w _ b (h.lt b (h.ctlO o x b hl hi)))
  refine hK _ _ _ _ _ (hs.claim' (a' := a.put (some d) v) (bo := some w.heap.size) (h.ne_gs hd) (by rw [size_put]; exact h.size) (by rw [defers_put]; exact h.defs) (fun s hs' => by rw [valOf_put (by rw [h.size]; exact hd), if_neg hs']) hav (noref hg hU)
    (fun b hb => by injection hb with hb; exact .inr hb.symm) (fun b hb hx => by injection hb with hb; subst hb; exact absurd (h.xlt _ hx) (Nat.lt_irrefl _)) (fun b s hb hs' => by injection hb with hb; subst hb; have := h.lt _ (h.ctlB s _ hs'); omega)
    (fun b o x hb hl hi => by injection hb with hb; subst hb; have := h.lt _ (h.ctlO o x _ hl hi); omega) ?_) hev (fun _ _ h => h)
  have := hv M' hev (heap_alloc_new w _)
  have he : valOf (a.put (some d) v) = fun s => if s = d then v else valOf a s := by funext s; rw [valOf_put (by rw [h.size]; exact hd)]
  rw [he]; exact this
theorem alloc_blk {T : TypeId} {cs : List Value} {ds : List D} {M' : Nat → Prop} (hds : ds ≠ []) (hr : RdL w ι M cs ds) (he : Evo C.X M w M' (w.alloc (.cells cs.toArray T))) :
    Blk (w.alloc (.cells cs.toArray T)) ι M' w.heap.size T cs.toArray ds.length [ds] := by
  refine ⟨heap_alloc_new w _, ?_, by simp [hr.1], by simp, ?_, hr.one'⟩
  · exact List.length_pos_iff.2 hds
  · intro i j r x hi hj
    cases i with
    | zero =>
      simp at hi; subst hi
      have hj' : j < cs.length := by have := (List.getElem?_eq_some_iff.1 hj).1; rw [hr.1]; exact this
      refine ⟨cs[j], by simp [hj'], ?_⟩
      exact (hr.2 j _ x (List.getElem?_eq_getElem hj') hj).mono he.same he.back (fun _ _ h => h) he.shape
    | succ i => simp at hi
theorem op_alloc {t : TypeId} (ho : o.op = .alloc t) (h : Sim C E a w ι β M) (hd : d < C.nt) (hdst : o.dst = some d) (hg : Gens E U) (hU : ¬ U γ) (ht : TyOk P t (C.tt t)) (hz : (C.tt t).zero ≠ [])
    (hE : E1 = upd E d (.box γ (C.tt t).zero)) (hK : Then C E1 M w ι K) : o.wp P a w K Qx := by
  obtain ⟨i, z, hi, _, hz0, hzc⟩ := info_of ht
  have hcs : z.cells = ((C.tt t).zero.map D.zv).toArray := by rw [← hzc]
  refine put_new (cs := ((C.tt t).zero.map D.zv).toArray) (T := t) (v := .pointer (some ⟨w.heap.size, 0, none⟩)) h hd hdst hg hU rfl (fun M' he _ => ?_) ?_ hE hK
  · exact ⟨w.heap.size, _, t, by simp, by simp, alloc_blk hz (zv_rdl ht.isz w ι M) he⟩
  · simp [execOp, ho, Instr.alloc, run_zeroValue' hi hz0, newVar, newRow, hcs]
theorem op_box {t : TypeId} {x : Operand} (ho : o.op = .box t x) (h : Sim C E a w ι β M) (hd : d < C.nt) (hdst : o.dst = some d) (hg : Gens E U) (hU : ¬ U γ) {y : AD} (hy : RdA w ι M (a.eval x) y) (hz : y.cells ≠ [])
    (hE : E1 = upd E d (.box γ y.cells)) (hK : Then C E1 M w ι K) : o.wp P a w K Qx := by
  have hc := hy.cells
  have hcs : (a.eval x).cells = ((a.eval x).cells.toList).toArray := by simp
  refine put_new (cs := ((a.eval x).cells.toList).toArray) (T := t) (v := .pointer (some ⟨w.heap.size, 0, none⟩)) h hd hdst hg hU rfl (fun M' he _ => ?_) ?_ hE hK
  · exact ⟨w.heap.size, _, t, by simp, by simp, alloc_blk hz hc he⟩
  · simp [execOp, ho, Instr.box, newVar, newRow]
theorem op_load {t : TypeId} {x : Operand} (ho : o.op = .load t x) (h : Sim C E a w ι β M) (hd : d < C.nt) (hdst : o.dst = some d) (ht : C.tt t = dflt ∨ TyOk P t (C.tt t)) (hq : (loadQ C d t x).run E = some ((), E1)) (hK : Then C E1 M w ι K) : o.wp P a w K Qx := by
  unfold loadQ at hq
  obtain ⟨p, E2, h1, hq2⟩ := Q.run_bind_some hq
  obtain ⟨rfl, hp, _⟩ := addr_sound h h1
  obtain ⟨cs, E3, h2, hq3⟩ := Q.run_bind_some hq2
  obtain ⟨rfl, hl, ad, hv, hc⟩ := rdPl_sound h hp h2
  rcases ht with ht | ht
  · rw [ht] at hq3 hl
    have : cs = [] := List.eq_nil_of_length_eq_zero hl
    subst this
    cases hq3
  · obtain ⟨r1, r2⟩ := run_loadAt ht hc hl
    split at hq3
    · rename_i hag
      obtain ⟨v, hr, hrd⟩ := r1 hag
      exact put_data h hd hdst hrd (by simp [execOp, ho, hv, hr]) (set_run hq3) hK
    · rename_i hag
      split at hq3
      · rename_i c
        obtain ⟨v, hr, hrd⟩ := r2 (by simpa using hag) c rfl
        exact put_data h hd hdst hrd (by simp [execOp, ho, hv, hr]) (set_run hq3) hK
      · cases hq3
theorem op_store {t : TypeId} {x y : Operand} (ho : o.op = .store t x y) (h : Sim C E a w ι β M) (hdst : o.dst = none) (ht : C.tt t = dflt ∨ TyOk P t (C.tt t)) (hq : (storeQ C t x y).run E = some ((), E1)) (hK : Then C E1 M w ι K) : o.wp P a w K Qx := by
  unfold storeQ at hq
  obtain ⟨y', E2, h1, hq2⟩ := Q.run_bind_some hq
  obtain ⟨β1, M1, s1, e1, r1⟩ := opd_sound h h1
  obtain ⟨p, E3, h2, hq3⟩ := Q.run_bind_some hq2
  obtain ⟨rfl, hp, _⟩ := addr_sound s1 h2
  split at hq3
  · rename_i hl
    obtain ⟨hl, hpos⟩ := hl
    rcases ht with ht | ht
    · rw [ht] at hpos; simp [dflt] at hpos
    · obtain ⟨b, off, cs, T, hv, hb, hfit, hev, hs⟩ := wrPl_sound s1 hp r1.cells hq3
      have hr := run_storeAt (P := P) ht hb (v := a.eval y) rfl (by rw [r1.cells.1]; exact hl) hfit r1.cells.one'
      unfold Oper.wp
      have : (execOp a.eval o).run P w = .ok .skip (rowSet w b cs off (a.eval y).cells.toList) := by simp [execOp, ho, hv, hr]
      rw [this]
      show K (a.put o.dst undef) _
      rw [hdst]
      exact hK _ _ _ _ _ hs (e1.trans hev) (fun _ _ h => h)
  · cases hq3
theorem op_pick {c x y : Operand} (ho : o.op = .pick c x y) (h : Sim C E a w ι β M) (hd : d < C.nt) (hdst : o.dst = some d)
    (hq : ((opd c).bind fun c => (ofOpt c.bool?).bind fun b => (opd (if b then x else y)).bind fun a => .set d (.v a) (.ret ())).run E = some ((), E1)) (hK : Then C E1 M w ι K) : o.wp P a w K Qx := by
  obtain ⟨c', E2, h1, hq2⟩ := Q.run_bind_some hq
  obtain ⟨β1, M1, s1, e1, r1⟩ := opd_sound h h1
  obtain ⟨b, E3, h2, hq3⟩ := Q.run_bind_some hq2
  obtain ⟨hb, rfl⟩ := ofOpt_run h2
  obtain ⟨z, E4, h3, hq4⟩ := Q.run_bind_some hq3
  obtain ⟨β2, M2, s2, e2, r2⟩ := opd_sound s1 h3
  have hcb : a.eval c = .bool b := by
    cases c' with
    | one x => cases x <;> first | (simp [AD.bool?] at hb; done) | skip
               simp only [AD.bool?, Option.some.injEq] at hb
               subst hb
               have r1' : Rd w ι M1 (a.eval c) (.bool _) := r1
               generalize a.eval c = u at r1'
               cases r1'; rfl
    | many => simp [AD.bool?] at hb
  refine put_data s2 hd hdst r2 ?_ (set_run hq4) ((hK.of e1).of e2)
  simp [execOp, ho, hcb, asBool]
  cases b <;> simp
theorem op_nilCheck {x : Operand} (ho : o.op = .nilCheck x) (h : Sim C E a w ι β M) (hd : d < C.nt) (hdst : o.dst = some d) (hq : ((addr x).bind fun p => .set d p.av (.ret ())).run E = some ((), E1)) (hK : Then C E1 M w ι K)
    : o.wp P a w K Qx := by
  obtain ⟨p, E2, h1, hq2⟩ := Q.run_bind_some hq
  obtain ⟨rfl, hp, ad, hv⟩ := addr_sound h h1
  refine put_place h hd hdst hp ?_ (set_run hq2) hK
  simp [execOp, ho, hv]
theorem int_rd {v : Value} {k : IntKind} {n : Int} (h : RdA w ι M v (.one (.int k n))) : v = .int k n := by
  have h' : Rd w ι M v (.int k n) := h
  cases h'; rfl
theorem AD.int_some {x : AD} {n : IntKind × Int} (h : x.int? = some n) : x = .one (.int n.1 n.2) := by
  cases x with
  | one d => cases d <;> first | (simp [AD.int?] at h; done) | (simp only [AD.int?, Option.some.injEq] at h; subst h; rfl)
  | many => simp [AD.int?] at h
theorem AD.d_some {x : AD} {y : D} (h : x.d? = some y) : x = .one y := by
  cases x with
  | one d => simp only [AD.d?, Option.some.injEq] at h; rw [h]
  | many => simp [AD.d?] at h
theorem shift_eq (op : BinOp) (k yk : IntKind) (x y : Int) {r : D} (h : shD op k x y = some r) (w : World) : ∃ v, (Op.shift op k x yk y).run P w = .ok v w ∧ Rd w ι M v r := by
  unfold shD at h
  unfold Op.shift
  split at h
  · split at h
    · cases h
    · injection h with h; subst h
      rename_i hy
      exact ⟨_, by simp [hy], .int _ _⟩
  · split at h
    · cases h
    · injection h with h; subst h
      rename_i hy
      exact ⟨_, by simp [hy], .int _ _⟩
  · cases h
theorem int_eq (op : BinOp) (t : TypeId) (k : IntKind) (x y : Int) {r : D} (h : intD op k x y = some r) (w : World) : ∃ v, (binOp op t (.int k x) (.int k y)).run P w = .ok v w ∧ Rd w ι M v r := by
  cases op <;> simp only [intD] at h
  case add => injection h with h; subst h; exact ⟨.int k (k.wrap (x + y)), by simp [binOp_add, Op.intArith], .int _ _⟩
  case sub => injection h with h; subst h; exact ⟨.int k (k.wrap (x - y)), by simp [binOp_sub, Op.intArith], .int _ _⟩
  case mul => injection h with h; subst h; exact ⟨.int k (k.wrap (x * y)), by simp [binOp_mul, Op.intArith], .int _ _⟩
  case quo =>
    split at h
    · cases h
    · rename_i hy
      injection h with h; subst h
      exact ⟨.int k (k.wrap (x.tdiv y)), by simp [binOp_quo, Op.intDiv, hy], .int _ _⟩
  case rem =>
    split at h
    · cases h
    · rename_i hy
      injection h with h; subst h
      exact ⟨.int k (x.tmod y), by simp [binOp_rem, Op.intDiv, hy], .int _ _⟩
  case and => injection h with h; subst h; exact ⟨.int k (bits .and k x y), by simp [binOp_and, intBits_and], .int _ _⟩
  case or => injection h with h; subst h; exact ⟨.int k (bits .or k x y), by simp [binOp_or, intBits_or], .int _ _⟩
  case xor => injection h with h; subst h; exact ⟨.int k (bits .xor k x y), by simp [binOp_xor, intBits_xor], .int _ _⟩
  case andNot => injection h with h; subst h; exact ⟨.int k (bits .andNot k x y), by simp [binOp_andNot, intBits_andNot], .int _ _⟩
  case eql => injection h with h; subst h; exact ⟨.bool (x == y), by simp [binOp_eql], .bool _⟩
  case neq => injection h with h; subst h; exact ⟨.bool (x != y), by simp [binOp_neq], .bool _⟩
  case lss => injection h with h; subst h; exact ⟨.bool (decide (x < y)), by simp [binOp_lss], .bool _⟩
  case leq => injection h with h; subst h; exact ⟨.bool (decide (x ≤ y)), by simp [binOp_leq], .bool _⟩
  case gtr => injection h with h; subst h; exact ⟨.bool (decide (x > y)), by simp [binOp_gtr], .bool _⟩
  case geq => injection h with h; subst h; exact ⟨.bool (decide (x ≥ y)), by simp [binOp_geq], .bool _⟩
  all_goals cases h
theorem str_eq (op : BinOp) (t : TypeId) (x y : ByteArray) {r : D} (h : strD op x y = some r) (w : World) : ∃ v, (binOp op t (.string x) (.string y)).run P w = .ok v w ∧ Rd w ι M v r := by
  unfold strD at h
  split at h <;> first | (cases h; done) | (injection h with h; subst h; exact ⟨_, by simp [binOp, Op.stringOp], .bool _⟩)
theorem bin_sound {op : BinOp} {t : TypeId} {x y r : D} {u v : Value} (hx : Rd w ι M u x) (hy : Rd w ι M v y) (h : binD op x y = some r) :
    ∃ z, (binOp op t u v).run P w = .ok z w ∧ Rd w ι M z r ∧ ∀ p q, eqGuard op t p q u v = pure () := by
  unfold binD at h
  split at h
  · cases hx; cases hy
    split at h
    · obtain ⟨z, h1, h2⟩ := shift_eq (ι := ι) (M := M) (P := P) _ _ _ _ _ h w
      exact ⟨z, by rw [binOp_shl]; exact h1, h2, fun p q => by simp [eqGuard_at_int]⟩
    · obtain ⟨z, h1, h2⟩ := shift_eq (ι := ι) (M := M) (P := P) _ _ _ _ _ h w
      exact ⟨z, by rw [binOp_shr]; exact h1, h2, fun p q => by simp [eqGuard_at_int]⟩
    · split at h
      · rename_i hk
        subst hk
        obtain ⟨z, h1, h2⟩ := int_eq (ι := ι) (M := M) (P := P) op t _ _ _ h w
        exact ⟨z, h1, h2, fun p q => by simp [eqGuard_at_int]⟩
      · cases h
  · cases hx; cases hy
    obtain ⟨z, h1, h2⟩ := str_eq (ι := ι) (M := M) (P := P) op t _ _ h w
    exact ⟨z, h1, h2, fun p q => by simp [eqGuard_at_string]⟩
  · cases h
theorem op_bin {op : BinOp} {t u : TypeId} {x y : Operand} (ho : o.op = .binOp op t x y u) (h : Sim C E a w ι β M) (hd : d < C.nt) (hdst : o.dst = some d)
    (hq : ((opd x).bind fun a => (opd y).bind fun b => (ofOpt a.d?).bind fun a => (ofOpt b.d?).bind fun b => (ofOpt (binD op a b)).bind fun r => .set d (.v (.one r)) (.ret ())).run E = some ((), E1)) (hK : Then C E1 M w ι K) : o.wp P a w K Qx := by
  obtain ⟨x', E2, h1, hq2⟩ := Q.run_bind_some hq
  obtain ⟨β1, M1, s1, e1, r1⟩ := opd_sound h h1
  obtain ⟨y', E3, h2, hq3⟩ := Q.run_bind_some hq2
  obtain ⟨β2, M2, s2, e2, r2⟩ := opd_sound s1 h2
  obtain ⟨x2, E4, h3, hq4⟩ := Q.run_bind_some hq3
  obtain ⟨hx, rfl⟩ := ofOpt_run h3
  obtain ⟨y2, E5, h4, hq5⟩ := Q.run_bind_some hq4
  obtain ⟨hy, rfl⟩ := ofOpt_run h4
  obtain ⟨r, E6, h5, hq6⟩ := Q.run_bind_some hq5
  obtain ⟨hb, rfl⟩ := ofOpt_run h5
  rw [AD.d_some hx] at r1
  rw [AD.d_some hy] at r2
  have r1' : Rd w ι M2 (a.eval x) x2 := Rd.mono r1 e2.same e2.back (fun _ _ h => h) e2.shape
  obtain ⟨z, f1, f2, f3⟩ := bin_sound (P := P) (t := t) r1' r2 hb
  exact put_data s2 hd hdst (x := .one r) f2 (by simp [execOp, ho, f3, f1]) (set_run hq6) ((hK.of e1).of e2)
theorem op_un {op : UnOp} {t : TypeId} {x : Operand} (ho : o.op = .unOp op t x) (h : Sim C E a w ι β M) (hd : d < C.nt) (hdst : o.dst = some d)
    (hq : ((opd x).bind fun a => (ofOpt a.d?).bind fun a => (ofOpt (unD op a)).bind fun r => .set d (.v (.one r)) (.ret ())).run E = some ((), E1)) (hK : Then C E1 M w ι K) : o.wp P a w K Qx := by
  obtain ⟨x', E2, h1, hq2⟩ := Q.run_bind_some hq
  obtain ⟨β1, M1, s1, e1, r1⟩ := opd_sound h h1
  obtain ⟨x2, E4, h3, hq4⟩ := Q.run_bind_some hq2
  obtain ⟨hx, rfl⟩ := ofOpt_run h3
  obtain ⟨r, E6, h5, hq6⟩ := Q.run_bind_some hq4
  obtain ⟨hb, rfl⟩ := ofOpt_run h5
  rw [AD.d_some hx] at r1
  have r1' : Rd w ι M1 (a.eval x) x2 := r1
  have : ∃ z, (Op.unary op (a.eval x)).run P w = .ok z w ∧ Rd w ι M1 z r := by
    generalize a.eval x = u at r1'
    unfold unD at hb
    split at hb
    · injection hb with hb; subst hb; cases r1'; exact ⟨_, by simp [Op.unary], .bool _⟩
    · injection hb with hb; subst hb; cases r1'; exact ⟨_, by simp [Op.unary, Op.intArith], .int _ _⟩
    · cases hb
  obtain ⟨z, f1, f2⟩ := this
  exact put_data s1 hd hdst (x := .one r) f2 (by simp [execOp, ho, f1]) (set_run hq6) (hK.of e1)
theorem op_extract {x : Operand} {ix : Nat} (ho : o.op = .extract x ix) (h : Sim C E a w ι β M) (hd : d < C.nt) (hdst : o.dst = some d)
    (hq : (extractQ d ix x).run E = some ((), E1)) (hK : Then C E1 M w ι K) : o.wp P a w K Qx := by
  cases x with
  | tmp t =>
    have hh := h.hold t
    simp only [extractQ, Q.run] at hq
    cases hE : E t with
    | tup l =>
      rw [hE] at hq hh
      obtain ⟨y, E2, h1, hq2⟩ := Q.run_bind_some hq
      obtain ⟨hl, rfl⟩ := ofOpt_run h1
      obtain ⟨vs, hv, hsz, hr⟩ := hh
      have hlt : ix < vs.size := by rw [hsz]; exact (List.getElem?_eq_some_iff.1 hl).1
      refine put_data h hd hdst (hr ix vs[ix] y (by simp [hlt]) hl) ?_ (set_run hq2) hK
      have hv' : a.eval (.tmp t) = .tuple vs := hv
      simp [execOp, ho, hv', Instr.extract, hlt]
    | _ => rw [hE] at hq; cases hq
  | _ => cases hq
end
end Go.Proofs.YtmhinddneefmbaaGreat.Pe
