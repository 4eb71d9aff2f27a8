/- A part of the proof of JdH. -/
import Derived.Maps.AppendAt
import Derived.Test.YtmhinddneefmbaaGreatKf4
set_option linter.unusedSimpArgs false
set_option linter.unusedVariables false
set_option linter.unusedSectionVars false
namespace Go.Proofs.YtmhinddneefmbaaGreat.Pe
open Go
theorem dstQ_some {C : Ctx} {o : Oper} {k : Nat → Q Unit} {E E1 : Env} (h : (dstQ o k C).run E = some ((), E1)) : ∃ d, o.dst = some d ∧ d < C.nt ∧ (k d).run E = some ((), E1) := by
  unfold dstQ at h
  split at h
  · rename_i d hd
    split at h
    · exact ⟨d, hd, by assumption, h⟩
    · cases h
  · cases h
theorem set_run {d : Nat} {v : AV} {E E1 : Env} (h : (Q.set d v (.ret ()) : Q Unit).run E = some ((), E1)) : E1 = upd E d v := by
  simp only [Q.run, Option.some.injEq, Prod.mk.injEq, true_and] at h; exact h.symm
section
variable {P : Program} {C : Ctx} {E E1 : Env} {a : Act} {w : World} {ι β : Nat → Option Nat} {M : Nat → Prop} {K : Act → World → Prop} {Qx : Exit → Act → World → Prop} {o : Oper} {d : Nat} {U : Nat → Prop} {γ : Nat}
def Then (C : Ctx) (E1 : Env) (M : Nat → Prop) (w : World) (ι : Nat → Option Nat) (K : Act → World → Prop) : Prop :=
  ∀ a' w' ι' β' M', Sim C E1 a' w' ι' β' M' → Evo C.X M w M' w' → (∀ o b, ι o = some b → ι' o = some b) → K a' w'
theorem wp_value {v : Value} {w' : World} (hr : (execOp a.eval o).run P w = .ok (.value v) w') (h : K (a.put o.dst v) w') : o.wp P a w K Qx := by
  unfold Oper.wp; rw [hr]; exact h
theorem Then.of {M1 : Nat → Prop} (h : Then C E1 M w ι K) (he : Evo C.X M w M1 w) : Then C E1 M1 w ι K := fun a' w' ι' β' M' s e i => h a' w' ι' β' M' s (he.trans e) i
theorem put_data (h : Sim C E a w ι β M) (hd : d < C.nt) (hdst : o.dst = some d) {v : Value} {x : AD} (hv : RdA w ι M v x) (hr : (execOp a.eval o).run P w = .ok (.value v) w)
    (hE : E1 = upd E d (.v x)) (hK : Then C E1 M w ι K) : o.wp P a w K Qx := by
  subst hE
  refine wp_value hr ?_
  rw [hdst]
  exact hK _ _ _ _ _ (h.put_v hd hv) (Evo.refl _ _) (fun _ _ h => h)
theorem put_place (h : Sim C E a w ι β M) (hd : d < C.nt) (hdst : o.dst = some d) {v : Value} {p : Pl} (hv : PlHolds w ι β M E v p) (hr : (execOp a.eval o).run P w = .ok (.value v) w)
    (hE : E1 = upd E d p.av) (hK : Then C E1 M w ι K) : o.wp P a w K Qx := by
  subst hE
  refine wp_value hr ?_
  rw [hdst]
  exact hK _ _ _ _ _ (h.put_pl hd hv) (Evo.refl _ _) (fun _ _ h => h)
theorem put_new (h : Sim C E a w ι β M) (hd : d < C.nt) (hdst : o.dst = some d) (hg : Gens E U) (hU : ¬ U γ) {cs : Array Value} {T : TypeId} {v : Value} {av : AV}
    (hav : match av with | .box g _ => g = γ | .own g _ _ _ => g = γ | _ => False)
    (hv : ∀ M', Evo C.X M w M' (w.alloc (.cells cs T)) → (w.alloc (.cells cs T)).heap[w.heap.size]? = some (.cells cs T (0, 0)) → Holds (w.alloc (.cells cs T)) ι (fun s => if s = d then some w.heap.size else β s) M' (fun s => if s = d then v else valOf a s) (upd E d av) d av)
    (hr : (execOp a.eval o).run P w = .ok (.value v) (w.alloc (.cells cs T)))
    (hE : E1 = upd E d av) (hK : Then C E1 M w ι K) : o.wp P a w K Qx := by
  subst hE
  refine wp_value hr ?_
  rw [hdst]
  let M' : Nat → Prop := fun b => M b ∨ b = w.heap.size
  have hev : Evo C.X M w M' (w.alloc (.cells cs T)) := ⟨rfl, rfl, rfl, by simp, fun b hb _ => Go.RowKit.Below.heap_alloc w _ b hb, fun b hb hm => by
    rcases hm with hm | hm
    · exact hm
    · omega, fun b hb _ => Go.RowKit.Below.heap_alloc w _ b hb, .of fun b hb => Go.RowKit.Below.heap_alloc w _ b hb⟩
  have hs : Sim C E a (w.alloc (.cells cs T)) ι β M' := h.world hev (fun b hb => .inl hb) (fun b hb => by
      rcases hb with hb | hb
      · have := h.lt b hb; simp; omega
      · simp; omega) (fun s b hs => Go.RowKit.Below.heap_alloc w _ b (h.lt b (h.ctlB s b hs))) (fun o x b hl hi => Go.RowKit.Below.heap_alloc w _ b (h.lt b (h.ctlO o x b hl hi)))
  refine hK _ _ _ _ _ (hs.claim' (a' := a.put (some d) v) (bo := some w.heap.size) (h.ne_gs hd) (by rw [size_put]; exact h.size) (by rw [defers_put]; exact h.defs) (fun s hs' => by rw [valOf_put (by rw [h.size]; exact hd), if_neg hs']) hav (noref hg hU)
    (fun b hb => by injection hb with hb; exact .inr hb.symm) (fun b hb hx => by injection hb with hb; subst hb; exact absurd (h.xlt _ hx) (Nat.lt_irrefl _)) (fun b s hb hs' => by injection hb with hb; subst hb; have := h.lt _ (h.ctlB s _ hs'); omega)
    (fun b o x hb hl hi => by injection hb with hb; subst hb; have := h.lt _ (h.ctlO o x _ hl hi); omega) ?_) hev (fun _ _ h => h)
  have := hv M' hev (heap_alloc_new w _)
  have he : valOf (a.put (some d) v) = fun s => if s = d then v else valOf a s := by funext s; rw [valOf_put (by rw [h.size]; exact hd)]
  rw [he]; exact this
theorem alloc_blk {T : TypeId} {cs : List Value} {ds : List D} {M' : Nat → Prop} (hds : ds ≠ []) (hr : RdL w ι M cs ds) (he : Evo C.X M w M' (w.alloc (.cells cs.toArray T))) :
    Blk (w.alloc (.cells cs.toArray T)) ι M' w.heap.size T cs.toArray ds.length [ds] := by
  refine ⟨heap_alloc_new w _, ?_, by simp [hr.1], by simp, ?_, hr.one'⟩
  · exact List.length_pos_iff.2 hds
  · intro i j r x hi hj
    cases i with
    | zero =>
      simp at hi; subst hi
      have hj' : j < cs.length := by have := (List.getElem?_eq_some_iff.1 hj).1; rw [hr.1]; exact this
      refine ⟨cs[j], by simp [hj'], ?_⟩
      exact (hr.2 j _ x (List.getElem?_eq_getElem hj') hj).mono he.same he.back (fun _ _ h => h) he.shape
    | succ i => simp at hi
theorem op_alloc {t : TypeId} (ho : o.op = .alloc t) (h : Sim C E a w ι β M) (hd : d < C.nt) (hdst : o.dst = some d) (hg : Gens E U) (hU : ¬ U γ) (ht : TyOk P t (C.tt t)) (hz : (C.tt t).zero ≠ [])
    (hE : E1 = upd E d (.box γ (C.tt t).zero)) (hK : Then C E1 M w ι K) : o.wp P a w K Qx := by
  obtain ⟨i, z, hi, _, hz0, hzc⟩ := info_of ht
  have hcs : z.cells = ((C.tt t).zero.map D.zv).toArray := by rw [← hzc]
  refine put_new (cs := ((C.tt t).zero.map D.zv).toArray) (T := t) (v := .pointer (some ⟨w.heap.size, 0, none⟩)) h hd hdst hg hU rfl (fun M' he _ => ?_) ?_ hE hK
  · exact ⟨w.heap.size, _, t, by simp, by simp, alloc_blk hz (zv_rdl ht.isz w ι M) he⟩
  · simp [execOp, ho, Instr.alloc, run_zeroValue' hi hz0, newVar, newRow, hcs]
theorem op_box {t : TypeId} {x : Operand} (ho : o.op = .box t x) (h : Sim C E a w ι β M) (hd : d < C.nt) (hdst : o.dst = some d) (hg : Gens E U) (hU : ¬ U γ) {y : AD} (hy : RdA w ι M (a.eval x) y) (hz : y.cells ≠ [])
    (hE : E1 = upd E d (.box γ y.cells)) (hK : Then C E1 M w ι K) : o.wp P a w K Qx := by
  have hc := hy.cells
  have hcs : (a.eval x).cells = ((a.eval x).cells.toList).toArray := by simp
  refine put_new (cs := ((a.eval x).cells.toList).toArray) (T := t) (v := .pointer (some ⟨w.heap.size, 0, none⟩)) h hd hdst hg hU rfl (fun M' he _ => ?_) ?_ hE hK
  · exact ⟨w.heap.size, _, t, by simp, by simp, alloc_blk hz hc he⟩
  · simp [execOp, ho, Instr.box, newVar, newRow]
theorem op_load {t : TypeId} {x : Operand} (ho : o.op = .load t x) (h : Sim C E a w ι β M) (hd : d < C.nt) (hdst : o.dst = some d) (ht : C.tt t = dflt ∨ TyOk P t (C.tt t)) (hq : (loadQ C d t x).run E = some ((), E1)) (hK : Then C E1 M w ι K) : o.wp P a w K Qx := by
  unfold loadQ at hq
  obtain ⟨p, E2, h1, hq2⟩ := Q.run_bind_some hq
  obtain ⟨rfl, hp, _⟩ := addr_sound h h1
  obtain ⟨cs, E3, h2, hq3⟩ := Q.run_bind_some hq2
  obtain ⟨rfl, hl, ad, hv, hc⟩ := rdPl_sound h hp h2
  rcases ht with ht | ht
  · rw [ht] at hq3 hl
    have : cs = [] := List.eq_nil_of_length_eq_zero hl
    subst this
    cases hq3
  · obtain ⟨r1, r2⟩ := run_loadAt ht hc hl
    split at hq3
    · rename_i hag
      obtain ⟨v, hr, hrd⟩ := r1 hag
      exact put_data h hd hdst hrd (by simp [execOp, ho, hv, hr]) (set_run hq3) hK
    · rename_i hag
      split at hq3
      · rename_i c
        obtain ⟨v, hr, hrd⟩ := r2 (by simpa using hag) c rfl
        exact put_data h hd hdst hrd (by simp [execOp, ho, hv, hr]) (set_run hq3) hK
      · cases hq3
theorem op_store {t : TypeId} {x y : Operand} (ho : o.op = .store t x y) (h : Sim C E a w ι β M) (hdst : o.dst = none) (ht : C.tt t = dflt ∨ TyOk P t (C.tt t)) (hq : (storeQ C t x y).run E = some ((), E1)) (hK : Then C E1 M w ι K) : o.wp P a w K Qx := by
  unfold storeQ at hq
  obtain ⟨y', E2, h1, hq2⟩ := Q.run_bind_some hq
  obtain ⟨β1, M1, s1, e1, r1⟩ := opd_sound h h1
  obtain ⟨p, E3, h2, hq3⟩ := Q.run_bind_some hq2
  obtain ⟨rfl, hp, _⟩ := addr_sound s1 h2
  split at hq3
  · rename_i hl
    obtain ⟨hl, hpos⟩ := hl
    rcases ht with ht | ht
    · rw [ht] at hpos; simp [dflt] at hpos
    · obtain ⟨b, off, cs, T, hv, hb, hfit, hev, hs⟩ := wrPl_sound s1 hp r1.cells hq3
      have hr := run_storeAt (P := P) ht hb (v := a.eval y) rfl (by rw [r1.cells.1]; exact hl) hfit r1.cells.one'
      unfold Oper.wp
      have : (execOp a.eval o).run P w = .ok .skip (rowSet w b cs off (a.eval y).cells.toList) := by simp [execOp, ho, hv, hr]
      rw [this]
      show K (a.put o.dst undef) _
      rw [hdst]
      exact hK _ _ _ _ _ hs (e1.trans hev) (fun _ _ h => h)
  · cases hq3
theorem op_pick {c x y : Operand} (ho : o.op = .pick c x y) (h : Sim C E a w ι β M) (hd : d < C.nt) (hdst : o.dst = some d)
    (hq : ((opd c).bind fun c => (ofOpt c.bool?).bind fun b => (opd (if b then x else y)).bind fun a => .set d (.v a) (.ret ())).run E = some ((), E1)) (hK : Then C E1 M w ι K) : o.wp P a w K Qx := by
  obtain ⟨c', E2, h1, hq2⟩ := Q.run_bind_some hq
  obtain ⟨β1, M1, s1, e1, r1⟩ := opd_sound h h1
  obtain ⟨b, E3, h2, hq3⟩ := Q.run_bind_some hq2
  obtain ⟨hb, rfl⟩ := ofOpt_run h2
  obtain ⟨z, E4, h3, hq4⟩ := Q.run_bind_some hq3
  obtain ⟨β2, M2, s2, e2, r2⟩ := opd_sound s1 h3
  have hcb : a.eval c = .bool b := by
    cases c' with
    | one x => cases x <;> first | (simp [AD.bool?] at hb; done) | skip
               simp only [AD.bool?, Option.some.injEq] at hb
               subst hb
               have r1' : Rd w ι M1 (a.eval c) (.bool _) := r1
               generalize a.eval c = u at r1'
               cases r1'; rfl
    | many => simp [AD.bool?] at hb
  refine put_data s2 hd hdst r2 ?_ (set_run hq4) ((hK.of e1).of e2)
  simp [execOp, ho, hcb, asBool]
  cases b <;> simp
theorem op_nilCheck {x : Operand} (ho : o.op = .nilCheck x) (h : Sim C E a w ι β M) (hd : d < C.nt) (hdst : o.dst = some d) (hq : ((addr x).bind fun p => .set d p.av (.ret ())).run E = some ((), E1)) (hK : Then C E1 M w ι K)
    : o.wp P a w K Qx := by
  obtain ⟨p, E2, h1, hq2⟩ := Q.run_bind_some hq
  obtain ⟨rfl, hp, ad, hv⟩ := addr_sound h h1
  refine put_place h hd hdst hp ?_ (set_run hq2) hK
  simp [execOp, ho, hv]
theorem int_rd {v : Value} {k : IntKind} {n : Int} (h : RdA w ι M v (.one (.int k n))) : v = .int k n := by
  have h' : Rd w ι M v (.int k n) := h
  cases h'; rfl
theorem AD.int_some {x : AD} {n : IntKind × Int} (h : x.int? = some n) : x = .one (.int n.1 n.2) := by
  cases x with
  | one d => cases d <;> first | (simp [AD.int?] at h; done) | (simp only [AD.int?, Option.some.injEq] at h; subst h; rfl)
  | many => simp [AD.int?] at h
theorem AD.d_some {x : AD} {y : D} (h : x.d? = some y) : x = .one y := by
  cases x with
  | one d => simp only [AD.d?, Option.some.injEq] at h; rw [h]
  | many => simp [AD.d?] at h
theorem shift_eq (op : BinOp) (k yk : IntKind) (x y : Int) {r : D} (h : shD op k x y = some r) (w : World) : ∃ v, (Op.shift op k x yk y).run P w = .ok v w ∧ Rd w ι M v r := by
  unfold shD at h
  unfold Op.shift
  split at h
  · split at h
    · cases h
    · injection h with h; subst h
      rename_i hy
      exact ⟨_, by simp [hy], .int _ _⟩
  · split at h
    · cases h
    · injection h with h; subst h
      rename_i hy
      exact ⟨_, by simp [hy], .int _ _⟩
  · cases h
theorem int_eq (op : BinOp) (t : TypeId) (k : IntKind) (x y : Int) {r : D} (h : intD op k x y = some r) (w : World) : ∃ v, (binOp op t (.int k x) (.int k y)).run P w = .ok v w ∧ Rd w ι M v r := by
  cases op <;> simp only [intD] at h
  case add => injection h with h; subst h; exact ⟨.int k (k.wrap (x + y)), by simp [binOp_add, Op.intArith], .int _ _⟩
  case sub => injection h with h; subst h; exact ⟨.int k (k.wrap (x - y)), by simp [binOp_sub, Op.intArith], .int _ _⟩
  case mul => injection h with h; subst h; exact ⟨.int k (k.wrap (x * y)), by simp [binOp_mul, Op.intArith], .int _ _⟩
  case quo =>
    split at h
    · cases h
    · rename_i hy
      injection h with h; subst h
      exact ⟨.int k (k.wrap (x.tdiv y)), by simp [binOp_quo, Op.intDiv, hy], .int _ _⟩
  case rem =>
    split at h
    · cases h
    · rename_i hy
      injection h with h; subst h
      exact ⟨.int k (x.tmod y), by simp [binOp_rem, Op.intDiv, hy], .int _ _⟩
  case and => injection h with h; subst h; exact ⟨.int k (bits .and k x y), by simp [binOp_and, intBits_and], .int _ _⟩
  case or => injection h with h; subst h; exact ⟨.int k (bits .or k x y), by simp [binOp_or, intBits_or], .int _ _⟩
  case xor => injection h with h; subst h; exact ⟨.int k (bits .xor k x y), by simp [binOp_xor, intBits_xor], .int _ _⟩
  case andNot => injection h with h; subst h; exact ⟨.int k (bits .andNot k x y), by simp [binOp_andNot, intBits_andNot], .int _ _⟩
  case eql => injection h with h; subst h; exact ⟨.bool (x == y), by simp [binOp_eql], .bool _⟩
  case neq => injection h with h; subst h; exact ⟨.bool (x != y), by simp [binOp_neq], .bool _⟩
  case lss => injection h with h; subst h; exact ⟨.bool (decide (x < y)), by simp [binOp_lss], .bool _⟩
  case leq => injection h with h; subst h; exact ⟨.bool (decide (x ≤ y)), by simp [binOp_leq], .bool _⟩
  case gtr => injection h with h; subst h; exact ⟨.bool (decide (x > y)), by simp [binOp_gtr], .bool _⟩
  case geq => injection h with h; subst h; exact ⟨.bool (decide (x ≥ y)), by simp [binOp_geq], .bool _⟩
  all_goals cases h
theorem str_eq (op : BinOp) (t : TypeId) (x y : ByteArray) {r : D} (h : strD op x y = some r) (w : World) : ∃ v, (binOp op t (.string x) (.string y)).run P w = .ok v w ∧ Rd w ι M v r := by
  unfold strD at h
  split at h <;> first | (cases h; done) | (injection h with h; subst h; exact ⟨_, by simp [binOp, Op.stringOp], .bool _⟩)
theorem bin_sound {op : BinOp} {t : TypeId} {x y r : D} {u v : Value} (hx : Rd w ι M u x) (hy : Rd w ι M v y) (h : binD op x y = some r) :
    ∃ z, (binOp op t u v).run P w = .ok z w ∧ Rd w ι M z r ∧ ∀ p q, eqGuard op t p q u v = pure () := by
  unfold binD at h
  split at h
  · cases hx; cases hy
    split at h
    · obtain ⟨z, h1, h2⟩ := shift_eq (ι := ι) (M := M) (P := P) _ _ _ _ _ h w
      exact ⟨z, by rw [binOp_shl]; exact h1, h2, fun p q => by simp [eqGuard_at_int]⟩
    · obtain ⟨z, h1, h2⟩ := shift_eq (ι := ι) (M := M) (P := P) _ _ _ _ _ h w
      exact ⟨z, by rw [binOp_shr]; exact h1, h2, fun p q => by simp [eqGuard_at_int]⟩
    · split at h
      · rename_i hk
        subst hk
        obtain ⟨z, h1, h2⟩ := int_eq (ι := ι) (M := M) (P := P) op t _ _ _ h w
        exact ⟨z, h1, h2, fun p q => by simp [eqGuard_at_int]⟩
      · cases h
  · cases hx; cases hy
    obtain ⟨z, h1, h2⟩ := str_eq (ι := ι) (M := M) (P := P) op t _ _ h w
    exact ⟨z, h1, h2, fun p q => by simp [eqGuard_at_string]⟩
  · cases h
theorem op_bin {op : BinOp} {t u : TypeId} {x y : Operand} (ho : o.op = .binOp op t x y u) (h : Sim C E a w ι β M) (hd : d < C.nt) (hdst : o.dst = some d)
    (hq : ((opd x).bind fun a => (opd y).bind fun b => (ofOpt a.d?).bind fun a => (ofOpt b.d?).bind fun b => (ofOpt (binD op a b)).bind fun r => .set d (.v (.one r)) (.ret ())).run E = some ((), E1)) (hK : Then C E1 M w ι K) : o.wp P a w K Qx := by
  obtain ⟨x', E2, h1, hq2⟩ := Q.run_bind_some hq
  obtain ⟨β1, M1, s1, e1, r1⟩ := opd_sound h h1
  obtain ⟨y', E3, h2, hq3⟩ := Q.run_bind_some hq2
  obtain ⟨β2, M2, s2, e2, r2⟩ := opd_sound s1 h2
  obtain ⟨x2, E4, h3, hq4⟩ := Q.run_bind_some hq3
  obtain ⟨hx, rfl⟩ := ofOpt_run h3
  obtain ⟨y2, E5, h4, hq5⟩ := Q.run_bind_some hq4
  obtain ⟨hy, rfl⟩ := ofOpt_run h4
  obtain ⟨r, E6, h5, hq6⟩ := Q.run_bind_some hq5
  obtain ⟨hb, rfl⟩ := ofOpt_run h5
  rw [AD.d_some hx] at r1
  rw [AD.d_some hy] at r2
  have r1' : Rd w ι M2 (a.eval x) x2 := Rd.mono r1 e2.same e2.back (fun _ _ h => h) e2.shape
  obtain ⟨z, f1, f2, f3⟩ := bin_sound (P := P) (t := t) r1' r2 hb
  exact put_data s2 hd hdst (x := .one r) f2 (by simp [execOp, ho, f3, f1]) (set_run hq6) ((hK.of e1).of e2)
theorem op_un {op : UnOp} {t : TypeId} {x : Operand} (ho : o.op = .unOp op t x) (h : Sim C E a w ι β M) (hd : d < C.nt) (hdst : o.dst = some d)
    (hq : ((opd x).bind fun a => (ofOpt a.d?).bind fun a => (ofOpt (unD op a)).bind fun r => .set d (.v (.one r)) (.ret ())).run E = some ((), E1)) (hK : Then C E1 M w ι K) : o.wp P a w K Qx := by
  obtain ⟨x', E2, h1, hq2⟩ := Q.run_bind_some hq
  obtain ⟨β1, M1, s1, e1, r1⟩ := opd_sound h h1
  obtain ⟨x2, E4, h3, hq4⟩ := Q.run_bind_some hq2
  obtain ⟨hx, rfl⟩ := ofOpt_run h3
  obtain ⟨r, E6, h5, hq6⟩ := Q.run_bind_some hq4
  obtain ⟨hb, rfl⟩ := ofOpt_run h5
  rw [AD.d_some hx] at r1
  have r1' : Rd w ι M1 (a.eval x) x2 := r1
  have : ∃ z, (Op.unary op (a.eval x)).run P w = .ok z w ∧ Rd w ι M1 z r := by
    generalize a.eval x = u at r1'
    unfold unD at hb
    split at hb
    · injection hb with hb; subst hb; cases r1'; exact ⟨_, by simp [Op.unary], .bool _⟩
    · injection hb with hb; subst hb; cases r1'; exact ⟨_, by simp [Op.unary, Op.intArith], .int _ _⟩
    · cases hb
  obtain ⟨z, f1, f2⟩ := this
  exact put_data s1 hd hdst (x := .one r) f2 (by simp [execOp, ho, f1]) (set_run hq6) (hK.of e1)
theorem op_extract {x : Operand} {ix : Nat} (ho : o.op = .extract x ix) (h : Sim C E a w ι β M) (hd : d < C.nt) (hdst : o.dst = some d)
    (hq : (extractQ d ix x).run E = some ((), E1)) (hK : Then C E1 M w ι K) : o.wp P a w K Qx := by
  cases x with
  | tmp t =>
    have hh := h.hold t
    simp only [extractQ, Q.run] at hq
    cases hE : E t with
    | tup l =>
      rw [hE] at hq hh
      obtain ⟨y, E2, h1, hq2⟩ := Q.run_bind_some hq
      obtain ⟨hl, rfl⟩ := ofOpt_run h1
      obtain ⟨vs, hv, hsz, hr⟩ := hh
      have hlt : ix < vs.size := by rw [hsz]; exact (List.getElem?_eq_some_iff.1 hl).1
      refine put_data h hd hdst (hr ix vs[ix] y (by simp [hlt]) hl) ?_ (set_run hq2) hK
      have hv' : a.eval (.tmp t) = .tuple vs := hv
      simp [execOp, ho, hv', Instr.extract, hlt]
    | _ => rw [hE] at hq; cases hq
  | _ => cases hq
end
end Go.Proofs.YtmhinddneefmbaaGreat.Pe
namespace Go.Proofs.YtmhinddneefmbaaGreat.Pe
open Go
section
variable {P : Program} {C : Ctx} {E E1 : Env} {a : Act} {w : World} {ι β : Nat → Option Nat} {M : Nat → Prop} {K : Act → World → Prop} {Qx : Exit → Act → World → Prop} {o : Oper} {d : Nat} {U : Nat → Prop} {γ : Nat}
theorem put_copy (h : Sim C E a w ι β M) (hd : d < C.nt) (hdst : o.dst = some d) {t : Nat} {av : AV} (hE : E t = av) (hnb : av.isBlk = false) (hnh : ∀ H nx, av ≠ .heap H nx) (hr : (execOp a.eval o).run P w = .ok (.value (valOf a t)) w)
    (hE1 : E1 = upd E d av) (hK : Then C E1 M w ι K) : o.wp P a w K Qx := by
  subst hE1
  refine wp_value hr ?_
  rw [hdst]
  have hh := h.hold t
  rw [hE] at hh
  refine hK _ _ _ _ _ (h.put hd hnb ?_) (Evo.refl _ _) (fun _ _ h => h)
  have hv := h.val_put hd (valOf a t)
  have hvo : ∀ s, s ≠ d → valOf (a.put (some d) (valOf a t)) s = valOf a s := fun s hs => by rw [valOf_put (by rw [h.size]; exact hd), if_neg hs]
  cases av with
  | junk => trivial
  | heap H nx => exact absurd rfl (hnh H nx)
  | v x => simp only [Holds]; rw [hv]; exact hh
  | tup l => simp only [Holds]; rw [hv]; exact hh
  | imm rows i off => simp only [Holds]; rw [hv]; exact hh
  | loc s g off =>
    intro xs ht
    by_cases e : s = d
    · subst e; rw [upd_same] at ht; cases ht
    · rw [upd_ne E _ e] at ht
      obtain ⟨b, h1, h2⟩ := hh xs ht
      exact ⟨b, by simp [unset, e, h1], by rw [hv]; exact h2⟩
  | oloc s g i off =>
    intro e' sz rows ht
    by_cases e : s = d
    · subst e; rw [upd_same] at ht; cases ht
    · rw [upd_ne E _ e] at ht
      obtain ⟨b, h1, h2⟩ := hh e' sz rows ht
      exact ⟨b, by simp [unset, e, h1], by rw [hv]; exact h2⟩
  | vw s g =>
    intro e' sz rows ht
    by_cases e : s = d
    · subst e; rfl
    · rw [upd_ne E _ e] at ht
      rw [hv, hvo s e]
      exact hh e' sz rows ht
  | box => cases hnb
  | own => cases hnb
theorem put_own (h : Sim C E a w ι β M) (hd : d < C.nt) (hdst : o.dst = some d) (hg : Gens E U) (hU : ¬ U γ) {s g e sz : Nat} {rows : List (List D)} (hE : E s = .own g e sz rows) (hr : (execOp a.eval o).run P w = .ok (.value (valOf a s)) w)
    (hE1 : E1 = upd (upd E s .junk) d (.own γ e sz rows)) (hK : Then C E1 M w ι K) : o.wp P a w K Qx := by
  subst hE1
  refine wp_value hr ?_
  rw [hdst]
  have hh := h.hold s
  rw [hE] at hh
  have hs : s ≠ gs := by
    rintro rfl
    obtain ⟨H, nx, hH, _⟩ := h.hp
    rw [hH] at hE; cases hE
  have hj := h.junk hs
  have hgj : Gens (upd E s .junk) U := fun t => by
    unfold upd; split
    · trivial
    · exact hg t
  have hv := h.val_put hd (valOf a s)
  refine hK _ _ _ _ _ (hj.claim' (a' := a.put (some d) (valOf a s)) (γ := γ) (bo := β s) (h.ne_gs hd) (by rw [size_put]; exact h.size) (by rw [defers_put]; exact h.defs) (fun t ht => by rw [valOf_put (by rw [h.size]; exact hd), if_neg ht]) rfl (noref hgj hU)
    (fun b hb => h.ctlB s b hb) (fun b hb => h.xB s b hb) (fun b t hb ht => ?_) (fun b o x hb hl hi => ?_) ?_) (Evo.refl _ _) (fun _ _ h => h)
  · unfold unset at ht
    split at ht
    · cases ht
    · rename_i hne; exact hne (h.injB t s b ht hb)
  · rw [live_upd E _ hs] at hl; exact h.disj o x s b hl hi hb
  · obtain ⟨hpos, hh⟩ := hh
    refine ⟨hpos, ?_⟩
    rcases hh with ⟨h1, h2, h3⟩ | ⟨b, cs, cap, h1, h2, h3⟩
    · exact .inl ⟨by rw [hv]; exact h1, h2, by simp [h3]⟩
    · exact .inr ⟨b, cs, cap, by simp [h1], by rw [hv]; exact h2, h3⟩
theorem op_mv {x : Operand} {asg : Bool} {ty : Nat} (hr : (execOp a.eval o).run P w = .ok (.value (a.eval x)) w) (h : Sim C E a w ι β M) (hd : d < C.nt) (hdst : o.dst = some d) (hg : Gens E U) (hU : ¬ U γ)
    (hq : (mv C γ d ty asg x).run E = some ((), E1)) (hK : Then C E1 M w ι K) : o.wp P a w K Qx := by
  cases x with
  | tmp t =>
    have hr' : (execOp a.eval o).run P w = .ok (.value (valOf a t)) w := hr
    simp only [mv, Q.run] at hq
    cases hE : E t with
    | junk => rw [hE] at hq; cases hq
    | heap => rw [hE] at hq; cases hq
    | v y => rw [hE] at hq; exact put_copy h hd hdst hE rfl (by simp) hr' (set_run hq) hK
    | tup y => rw [hE] at hq; exact put_copy h hd hdst hE rfl (by simp) hr' (set_run hq) hK
    | loc s g off => rw [hE] at hq; exact put_copy h hd hdst hE rfl (by simp) hr' (set_run hq) hK
    | oloc s g i off => rw [hE] at hq; exact put_copy h hd hdst hE rfl (by simp) hr' (set_run hq) hK
    | imm rows i off => rw [hE] at hq; exact put_copy h hd hdst hE rfl (by simp) hr' (set_run hq) hK
    | box g xs =>
      rw [hE] at hq
      have hh := h.hold t
      rw [hE] at hh
      obtain ⟨b, cs, T, h1, h2, _⟩ := hh
      refine put_place (p := .loc t g 0) h hd hdst (fun xs' _ => ⟨b, h1, h2⟩) hr' (set_run hq) hK
    | own g e sz rows =>
      rw [hE] at hq
      cases asg
      · have := set_run hq
        subst this
        refine wp_value hr' ?_
        rw [hdst]
        refine hK _ _ _ _ _ (h.put hd rfl ?_) (Evo.refl _ _) (fun _ _ h => h)
        intro e' sz' rows' ht
        by_cases htd : t = d
        · subst htd; rfl
        · rw [h.val_put hd, valOf_put (by rw [h.size]; exact hd), if_neg htd]
      · simp only [Q.run, if_true, Option.some.injEq, Prod.mk.injEq, true_and] at hq
        exact put_own h hd hdst hg hU hE hr' hq.symm hK
    | vw s g =>
      rw [hE] at hq
      have hh := h.hold t
      rw [hE] at hh
      cases asg
      · exact put_copy h hd hdst hE rfl (by simp) hr' (set_run hq) hK
      · simp only [if_true, Q.run] at hq
        cases hS : E s with
        | own g' e sz rows =>
          rw [hS] at hq
          simp only at hq
          split at hq
          · rename_i hgg; subst hgg
            simp only [Q.run, Option.some.injEq, Prod.mk.injEq, true_and] at hq
            have hv : valOf a t = valOf a s := hh e sz rows hS
            exact put_own h hd hdst hg hU hS (by rw [← hv]; exact hr') hq.symm hK
          · cases hq
        | _ => rw [hS] at hq; cases hq
  | const v =>
    have hr' : (execOp a.eval o).run P w = .ok (.value v) w := hr
    replace hq : (mvC C γ d ty asg v).run E = some ((), E1) := hq
    unfold mvC at hq
    split at hq
    · split at hq
      · split at hq
        · exact put_data h hd hdst (x := .one .nils) .nils hr' (set_run hq) hK
        split at hq
        · rename_i hk _ hpos
          have := set_run hq
          subst this
          refine wp_value hr' ?_
          rw [hdst]
          refine hK _ _ _ _ _ (h.claim' (a' := a.put (some d) _) (γ := γ) (bo := none) (h.ne_gs hd) (by rw [size_put]; exact h.size) (by rw [defers_put]; exact h.defs) (fun t ht => by rw [valOf_put (by rw [h.size]; exact hd), if_neg ht]) rfl (noref hg hU)
            (fun b hb => by cases hb) (fun b hb => by cases hb) (fun b s hb => by cases hb) (fun b o x hb => by cases hb) ?_) (Evo.refl _ _) (fun _ _ h => h)
          exact ⟨hpos.2, .inl ⟨h.val_put hd _, rfl, by simp⟩⟩
        · exact put_data h hd hdst (x := .one (.sl [])) (.nil _ _) hr' (set_run hq) hK
      · cases hq
    · obtain ⟨y, E2, h1, hq2⟩ := Q.run_bind_some hq
      obtain ⟨hc, rfl⟩ := ofOpt_run h1
      exact put_data h hd hdst (x := .one y) (cst_sound hc) hr' (set_run hq2) hK
  | func f => exact put_data h hd hdst (x := .one (.fn f)) (.fn f) hr (set_run hq) hK
  | global g => cases hq
theorem field_some {t : Nat} {fs : List (Nat × Nat)} (hl : layoutOf P t = some (fs.map fun x => (x.1, some x.2))) : ∃ fields, P.underlying t = some (.struct fields) ∧ ∀ (j : Nat) p, fs[j]? = some p → ∃ f i, fields[j]? = some f ∧ P.info? f.type = some i ∧ f.offset = p.1 ∧ i.size = p.2 := by
  unfold layoutOf at hl
  cases hu : P.underlying t with
  | none => rw [hu] at hl; cases hl
  | some dd =>
    rw [hu] at hl
    cases dd <;> first | (cases hl; done) | skip
    rename_i fields
    simp only [Option.some.injEq] at hl
    refine ⟨fields, rfl, fun j p hp => ?_⟩
    have hj := congrArg (fun l => l[j]?) hl
    simp only [List.getElem?_map, hp, Option.map_some] at hj
    cases hf : fields.toList[j]? with
    | none => rw [hf] at hj; cases hj
    | some f =>
      rw [hf] at hj
      simp only [Option.map_some, Option.some.injEq, Prod.mk.injEq] at hj
      cases hi : P.info? f.type with
      | none => rw [hi] at hj; exact absurd hj.2 (by simp)
      | some i =>
        rw [hi] at hj
        simp only [Option.map_some, Option.some.injEq] at hj
        exact ⟨f, i, by simpa using hf, hi, hj.1, hj.2⟩
theorem op_fieldAddr {t f : Nat} {x : Operand} (ho : o.op = .fieldAddr t x f) (h : Sim C E a w ι β M) (hd : d < C.nt) (hdst : o.dst = some d) (ht : C.tt t = dflt ∨ TyOk P t (C.tt t))
    (hq : (fieldAddrQ C d t f x).run E = some ((), E1)) (hK : Then C E1 M w ι K) : o.wp P a w K Qx := by
  unfold fieldAddrQ at hq
  split at hq
  · rename_i fs hk
    have hl : layoutOf P t = some (fs.map fun x => (x.1, some x.2)) := by
      rcases ht with ht | ht
      · rw [ht] at hk; cases hk
      · have := ht.und; rw [hk] at this; exact this
    split at hq
    · rename_i off sz hf
      split at hq
      · rename_i hpos
        obtain ⟨p, E2, h1, hq2⟩ := Q.run_bind_some hq
        obtain ⟨rfl, hp, ad, hv⟩ := addr_sound h h1
        obtain ⟨fields, hu, hfs⟩ := field_some hl
        obtain ⟨fd, i, h2, h3, h4, h5⟩ := hfs f _ hf
        refine put_place h hd hdst (hp.shift (n := off) hv) ?_ (set_run hq2) hK
        have hz : i.size ≠ 0 := by rw [h5]; simp; omega
        simp [execOp, ho, hv, Instr.fieldAt, run_underlying hu, h2, Instr.sureAddr, fieldPlace, run_sizeOf' h3, hz, h4]
      · cases hq
    · cases hq
  · cases hq
theorem ar_some {t n esz : Nat} (hl : arOf P t = some (n, some esz)) : ∃ e i, P.underlying t = some (.array n e) ∧ P.info? e = some i ∧ i.size = esz := by
  unfold arOf at hl
  cases hu : P.underlying t with
  | none => rw [hu] at hl; cases hl
  | some dd =>
    rw [hu] at hl
    cases dd <;> first | (cases hl; done) | skip
    rename_i m e
    simp only [Option.some.injEq, Prod.mk.injEq] at hl
    obtain ⟨rfl, h2⟩ := hl
    cases hi : P.info? e with
    | none => rw [hi] at h2; cases h2
    | some i => rw [hi] at h2; exact ⟨e, i, rfl, hi, by simpa using h2⟩
theorem sl_some {t e esz eb : Nat} {ez : List D} (hl : TkOk P t (.sl e esz eb ez)) : P.underlying t = some (.slice e) ∧ ∃ i z, P.info? e = some i ∧ i.size = esz ∧ i.bytes = eb ∧ i.zero = some z ∧ z.cells.toList = ez.map D.zv := by
  refine ⟨hl.1, ?_⟩
  have h2 := hl.2.1
  cases hi : P.info? e with
  | none => rw [hi] at h2; cases h2
  | some i =>
    rw [hi] at h2
    simp only [Option.map_some, Option.some.injEq, Prod.mk.injEq] at h2
    cases hz : i.zero with
    | none => rw [hz] at h2; exact absurd h2.2.2 (by simp)
    | some z => rw [hz] at h2; exact ⟨i, z, rfl, h2.1, h2.2.1, hz, by simpa using h2.2.2⟩
theorem run_indexAt_sl {t e : Nat} {i : TypeInfo} (hu : P.underlying t = some (.slice e)) (hi : P.info? e = some i) {ad : Addr} {len cap : Nat} {k : IntKind} {n : Int} (h0 : 0 ≤ n) (h1 : n < len) :
    (Instr.indexAt t (.slice (some ad) len cap) (.int k n)).run P w = .ok (.pointer (some (ad.add (n.toNat * i.size)))) w := by
  simp [Instr.indexAt, run_underlying hu, asIntOf, h0, h1, run_sizeOf' hi]
theorem run_indexAt_ar {t e m : Nat} {i : TypeInfo} (hu : P.underlying t = some (.array m e)) (hi : P.info? e = some i) {ad : Addr} {k : IntKind} {n : Int} (h0 : 0 ≤ n) (h1 : n < m) :
    (Instr.indexAt t (.pointer (some ad)) (.int k n)).run P w = .ok (.pointer (some (ad.add (n.toNat * i.size)))) w := by
  simp [Instr.indexAt, run_underlying hu, asIntOf, h0, h1, run_sizeOf' hi, Instr.sureAddr]
theorem op_indexAddr {t : Nat} {x ix : Operand} (ho : o.op = .indexAddr t x ix) (h : Sim C E a w ι β M) (hd : d < C.nt) (hdst : o.dst = some d) (ht : C.tt t = dflt ∨ TyOk P t (C.tt t))
    (hq : (indexAddrQ C d t x ix).run E = some ((), E1)) (hK : Then C E1 M w ι K) : o.wp P a w K Qx := by
  unfold indexAddrQ at hq
  obtain ⟨n', E2, h1, hq2⟩ := Q.run_bind_some hq
  obtain ⟨β1, M1, s1, e1, r1⟩ := opd_sound h h1
  obtain ⟨n, E3, h2, hq3⟩ := Q.run_bind_some hq2
  obtain ⟨hn, rfl⟩ := ofOpt_run h2
  rw [AD.int_some hn] at r1
  have hix := int_rd r1
  have hK1 := hK.of e1
  clear hq hq2 h1
  split at hq3
  · rename_i len esz ag hk
    have hl : arOf P t = some (len, some esz) := by
      rcases ht with ht | ht
      · rw [ht] at hk; cases hk
      · have := ht.und; rw [hk] at this; exact this.1
    obtain ⟨e, i, hu, hi, hsz⟩ := ar_some hl
    split at hq3
    · rename_i hb
      obtain ⟨p, E4, h3, hq4⟩ := Q.run_bind_some hq3
      obtain ⟨rfl, hp, ad, hv⟩ := addr_sound s1 h3
      refine put_place s1 hd hdst (hp.shift (n := n.2.toNat * esz) hv) ?_ (set_run hq4) hK1
      simp [execOp, ho, hix, hv, run_indexAt_ar hu hi hb.1 hb.2, hsz]
    · cases hq3
  · rename_i e esz eb ez hk
    have hl : TkOk P t (.sl e esz eb ez) := by
      rcases ht with ht | ht
      · rw [ht] at hk; cases hk
      · have := ht.und; rw [hk] at this; exact this
    obtain ⟨hu, i, z, hi, hsz, _, _, _⟩ := sl_some hl
    cases x with
    | tmp s =>
      have hh := s1.hold s
      simp only [Q.run] at hq3
      cases hE : E3 s with
      | own g e' sz rows =>
        rw [hE] at hq3 hh
        simp only at hq3
        split at hq3
        · rename_i hb
          obtain ⟨hb0, hb1, rfl⟩ := hb
          obtain ⟨_, hh⟩ := hh
          rcases hh with ⟨_, hn0, _⟩ | ⟨b, cs, cap, h3, h4, _⟩
          · subst hn0; simp at hb1; omega
          · have hv : a.eval (.tmp s) = .slice (some ⟨b, 0, none⟩) rows.length cap := h4
            refine put_place (p := .oloc s g n.2.toNat 0) s1 hd hdst (v := .pointer (some ⟨b, n.2.toNat * sz, none⟩)) (fun e2 sz2 rows2 hE2 => ?_) ?_ (set_run hq3) hK1
            · rw [hE] at hE2; injection hE2 with _ _ e3 _; subst e3; exact ⟨b, h3, by simp⟩
            · simp [execOp, ho, hix, hv, run_indexAt_sl hu hi hb0 hb1, hsz, addr_add]
        · cases hq3
      | vw s' g =>
        rw [hE] at hq3 hh
        simp only [Q.run] at hq3
        cases hS : E3 s' with
        | own g' e' sz rows =>
          rw [hS] at hq3
          simp only at hq3
          split at hq3
          · rename_i hb
            obtain ⟨rfl, hb0, hb1, rfl⟩ := hb
            have hval : valOf a s = valOf a s' := hh e' sz rows hS
            have hh' := s1.hold s'
            rw [hS] at hh'
            obtain ⟨_, hh'⟩ := hh'
            rcases hh' with ⟨_, hn0, _⟩ | ⟨b, cs, cap, h3, h4, _⟩
            · subst hn0; simp at hb1; omega
            · have hv : a.eval (.tmp s) = .slice (some ⟨b, 0, none⟩) rows.length cap := hval.trans h4
              refine put_place (p := .oloc s' g n.2.toNat 0) s1 hd hdst (v := .pointer (some ⟨b, n.2.toNat * sz, none⟩)) (fun e2 sz2 rows2 hE2 => ?_) ?_ (set_run hq3) hK1
              · rw [hS] at hE2; injection hE2 with _ _ e3 _; subst e3; exact ⟨b, h3, by simp⟩
              · simp [execOp, ho, hix, hv, run_indexAt_sl hu hi hb0 hb1, hsz, addr_add]
          · cases hq3
        | _ => rw [hS] at hq3; cases hq3
      | v y =>
        rw [hE] at hq3 hh
        cases y with
        | one dd =>
          cases dd with
          | sl rows =>
            simp only at hq3
            split at hq3
            · rename_i hb
              obtain ⟨r, E5, h3, hq4⟩ := Q.run_bind_some hq3
              obtain ⟨hr, rfl⟩ := ofOpt_run h3
              split at hq4
              · rename_i hrl
                have hrd : Rd w ι M1 (valOf a s) (.sl rows) := hh
                rcases hrd.imm with ⟨A, c, _, h5⟩ | ⟨ad, c, sz, h4, h5, h6, h7⟩
                · subst h5; simp at hr
                · have hv : a.eval (.tmp s) = .slice (some ad) rows.length c := h4
                  have hsz' : sz = esz := by rw [← h7.uni r (List.mem_of_getElem? hr), hrl]
                  subst hsz'
                  refine put_place (p := .imm rows n.2.toNat 0) s1 hd hdst (v := .pointer (some (ad.add (n.2.toNat * sz)))) ⟨ad, sz, h7, by simp⟩ ?_ (set_run hq4) hK1
                  simp [execOp, ho, hix, hv, run_indexAt_sl hu hi hb.1 hb.2, hsz]
              · cases hq4
            · cases hq3
          | ref ob sz i0 len =>
            simp only at hq3
            split at hq3
            · rename_i hb
              obtain ⟨hb0, hb1, rfl⟩ := hb
              have hrd : Rd w ι M1 (valOf a s) (.ref ob sz i0 len) := hh
              have : ∃ b c, ι ob = some b ∧ 0 < sz ∧ valOf a s = .slice (some ⟨b, i0 * sz, none⟩) len c := by
                generalize valOf a s = u at hrd
                cases hrd with
                | ref _ _ _ _ c b hb _ _ hz _ => exact ⟨b, c, hb, hz, rfl⟩
              obtain ⟨b, c, h5, hz5, h6⟩ := this
              have hv : a.eval (.tmp s) = .slice (some ⟨b, i0 * sz, none⟩) len c := h6
              refine put_data s1 hd hdst (x := .one (.ptr ob sz (i0 + n.2.toNat) 0)) (v := .pointer (some ⟨b, (i0 + n.2.toNat) * sz + 0, none⟩)) (.ptr _ _ _ _ _ h5 hz5) ?_ (set_run hq3) hK1
              simp [execOp, ho, hix, hv, run_indexAt_sl hu hi hb0 hb1, hsz, addr_add, Nat.add_mul]
            · cases hq3
          | _ => cases hq3
        | many => cases hq3
      | _ => rw [hE] at hq3; cases hq3
    | _ => cases hq3
  · cases hq3
end
end Go.Proofs.YtmhinddneefmbaaGreat.Pe
