/- A part of the proof of PmD. -/
import Derived.Test.YtdapdiaklpcmjaaGreatCb4
set_option linter.unusedSimpArgs false
set_option linter.unusedVariables false
set_option linter.unusedSectionVars false
namespace Go.Proofs.YtdapdiaklpcmjaaGreat.Pe
open Go
section
variable {P : Program} {C : Ctx} {E E1 : Env} {a : Act} {w : World} {ι β : Nat → Option Nat} {M : Nat → Prop} {K : Act → World → Prop} {Qx : Exit → Act → World → Prop} {o : Oper} {d : Nat} {U : Nat → Prop} {γ : Nat}
theorem ImmAt.drop {ad : Addr} {sz : Nat} {rows : List (List D)} (h : ImmAt w ι M ad sz rows) (l n : Nat) : ImmAt w ι M (ad.add (l * sz)) sz ((rows.drop l).take n) := by
  refine ⟨h.pos, fun r hr => h.uni r (List.mem_of_mem_drop (List.mem_of_mem_take hr)), ?_, ?_, ?_, ?_⟩
  · rw [addr_add h.spot]
  · rw [addr_add h.spot]; exact h.im
  · rw [addr_add h.spot]; exact h.lt
  · intro i j r x hr hx
    rw [List.getElem?_take] at hr
    split at hr
    · rw [List.getElem?_drop] at hr
      obtain ⟨v, hv, hrd⟩ := h.rd (l + i) j r x hr hx
      refine ⟨v, ?_, hrd⟩
      rw [addr_add h.spot] at hv ⊢
      rw [addr_add rfl]
      rw [← hv]
      congr 2
      simp [Nat.add_mul, Nat.add_assoc]
    · cases hr
theorem optInt_sound {x : Option Operand} {n : Option Int} (h : Sim C E a w ι β M) (hq : (optInt x).run E = some (n, E1)) :
    ∃ β1 M1, Sim C E1 a w ι β1 M1 ∧ Evo C.X M w M1 w ∧ ((x = none ∧ n = none) ∨ ∃ y k m, x = some y ∧ n = some m ∧ a.eval y = .int k m) := by
  cases x with
  | none => obtain ⟨rfl, rfl⟩ := ret_run hq; exact ⟨β, M, h, Evo.refl _ _, .inl ⟨rfl, rfl⟩⟩
  | some y =>
    simp only [optInt] at hq
    obtain ⟨z, E2, h1, hq2⟩ := Q.run_bind_some hq
    obtain ⟨β1, M1, s1, e1, r1⟩ := opd_sound h h1
    obtain ⟨m, E3, h2, hq3⟩ := Q.run_bind_some hq2
    obtain ⟨hm, rfl⟩ := ofOpt_run h2
    obtain ⟨rfl, rfl⟩ := ret_run hq3
    rw [AD.int_some hm] at r1
    exact ⟨β1, M1, s1, e1, .inr ⟨y, m.1, m.2, rfl, rfl, int_rd r1⟩⟩
theorem run_boundsC {b : Bool} {len cap : Nat} {lo hi : Option Operand} {l h : Option Int} (hlo : (lo = none ∧ l = none) ∨ ∃ y k m, lo = some y ∧ l = some m ∧ a.eval y = .int k m) (hhi : (hi = none ∧ h = none) ∨ ∃ y k m, hi = some y ∧ h = some m ∧ a.eval y = .int k m)
    (h0 : 0 ≤ l.getD 0) (h1 : l.getD 0 ≤ h.getD (len : Int)) (h2 : h.getD (len : Int) ≤ cap) (hlc : len ≤ cap) :
    (Instr.sliceBounds b len cap (lo.map a.eval) (hi.map a.eval) none).run P w = .ok ((l.getD 0).toNat, (h.getD (len : Int)).toNat, cap) w := by
  rcases hlo with ⟨rfl, rfl⟩ | ⟨y, k, m, rfl, rfl, hy⟩ <;> rcases hhi with ⟨rfl, rfl⟩ | ⟨y', k', m', rfl, rfl, hy'⟩
  · simp [Instr.sliceBounds]
  · simp only [Option.getD_some, Option.getD_none] at *
    simp [Instr.sliceBounds, hy', run_sliceBound (w := w) k' m' cap _ (by omega) (by omega)]
  · simp only [Option.getD_some, Option.getD_none] at *
    simp [Instr.sliceBounds, hy, run_sliceBound (w := w) k m len _ (by omega) (by omega)]
  · simp only [Option.getD_some] at *
    have e : (m'.toNat : Int) = m' := Int.toNat_of_nonneg (by omega)
    simp [Instr.sliceBounds, hy, hy', run_sliceBound (w := w) k' m' cap _ (by omega) (by omega), run_sliceBound (w := w) k m m'.toNat _ (by omega) (by omega)]
theorem run_bounds {b : Bool} {len cap : Nat} {lo hi : Option Operand} {l h : Option Int} (hlo : (lo = none ∧ l = none) ∨ ∃ y k m, lo = some y ∧ l = some m ∧ a.eval y = .int k m) (hhi : (hi = none ∧ h = none) ∨ ∃ y k m, hi = some y ∧ h = some m ∧ a.eval y = .int k m)
    (h0 : 0 ≤ l.getD 0) (h1 : l.getD 0 ≤ h.getD (len : Int)) (h2 : h.getD (len : Int) ≤ len) (hlc : len ≤ cap) :
    (Instr.sliceBounds b len cap (lo.map a.eval) (hi.map a.eval) none).run P w = .ok ((l.getD 0).toNat, (h.getD (len : Int)).toNat, cap) w :=
  run_boundsC hlo hhi h0 h1 (by omega) hlc
theorem op_slice {t : Nat} {x : Operand} {lo hi mx : Option Operand} (ho : o.op = .slice t x lo hi mx) (hmx : mx = none) (hC : C.Ok P) (h : Sim C E a w ι β M) (hd : d < C.nt) (hdst : o.dst = some d)
    (hq : (sliceQ C d t x lo hi).run E = some ((), E1)) (hK : Then C E1 M w ι K) : o.wp P a w K Qx := by
  subst hmx
  unfold sliceQ at hq
  obtain ⟨y, E2, h1, hq2⟩ := Q.run_bind_some hq
  obtain ⟨β1, M1, s1, e1, r1⟩ := opd_sound h h1
  obtain ⟨l, E3, h2, hq3⟩ := Q.run_bind_some hq2
  obtain ⟨β2, M2, s2, e2, r2⟩ := optInt_sound s1 h2
  obtain ⟨hh, E4, h3, hq4⟩ := Q.run_bind_some hq3
  obtain ⟨β3, M3, s3, e3, r3⟩ := optInt_sound s2 h3
  have hK' := ((hK.of e1).of e2).of e3
  have r1' := r1.mono (e2.trans e3) (fun _ _ h => h)
  split at hq4
  · rename_i e esz eb ez rows hk
    obtain ⟨hu, i, z, hi', hsz, _⟩ := sl_some (tk_of (hC.tt t) hk (by simp))
    obtain ⟨r, E5, h4, hq5⟩ := Q.run_bind_some hq4
    obtain ⟨hr, rfl⟩ := ofOpt_run h4
    unfold slRows at hr
    split at hr
    · rename_i hb
      obtain ⟨b0, b1, b2, b3⟩ := hb
      injection hr with hr; subst hr
      have hrd : Rd w ι M3 (a.eval x) (.sl rows) := r1'
      rcases hrd.imm with ⟨A, c, hv, hn⟩ | ⟨ad, c, sz, hv, hpos, hlc, him⟩
      · subst hn
        have b1' : l.getD 0 ≤ hh.getD 0 := b1
        have b2' : hh.getD 0 ≤ 0 := b2
        have hbd : (Instr.sliceBounds true 0 c (lo.map a.eval) (hi.map a.eval) none).run P w = .ok ((l.getD 0).toNat, (hh.getD 0).toNat, c) w := run_bounds (P := P) (w := w) (a := a) (b := true) (len := 0) (cap := c) r2 r3 b0 b1' b2' (Nat.zero_le _)
        refine put_data s3 hd hdst (x := .one (.sl _)) (v := .slice (if c = (l.getD 0).toNat then A else A.map (·.add ((l.getD 0).toNat * i.size))) ((hh.getD 0).toNat - (l.getD 0).toNat) (c - (l.getD 0).toNat)) ?_ ?_ (set_run hq5) hK'
        · simp only [List.drop_nil, List.take_nil]
          have : (hh.getD 0).toNat - (l.getD 0).toNat = 0 := by omega
          rw [this]; exact Rd.nil _ _
        · simp [execOp, ho, hv, Instr.sliceAt, run_underlying hu, Instr.slice, hbd, run_sizeOf' hi']
      · have hbd := run_bounds (P := P) (w := w) (a := a) (b := true) (len := rows.length) (cap := c) r2 r3 b0 b1 b2 hlc
        have hsz' : sz = i.size := by
          have hm := List.getElem_mem hpos
          rw [← him.uni _ hm, hsz]
          simpa using List.all_eq_true.1 b3 _ hm
        refine put_data s3 hd hdst (x := .one (.sl _)) (v := .slice (some (if c = (l.getD 0).toNat then ad else ad.add ((l.getD 0).toNat * i.size))) ((hh.getD (rows.length : Int)).toNat - (l.getD 0).toNat) (c - (l.getD 0).toNat)) ?_ ?_ (set_run hq5) hK'
        · have hlen : ((rows.drop (l.getD 0).toNat).take ((hh.getD (rows.length : Int)).toNat - (l.getD 0).toNat)).length = (hh.getD (rows.length : Int)).toNat - (l.getD 0).toNat := by
            simp; omega
          rcases Nat.eq_zero_or_pos ((hh.getD (rows.length : Int)).toNat - (l.getD 0).toNat) with h0 | h0
          · rw [h0]; simp only [List.take_zero]; exact Rd.nil _ _
          · have him' := him.drop (l.getD 0).toNat ((hh.getD (rows.length : Int)).toNat - (l.getD 0).toNat)
            have hne : ¬ c = (l.getD 0).toNat := by omega
            rw [if_neg hne, ← hsz']
            have := him'.rd_sl (c := c - (l.getD 0).toNat) (by rw [hlen]; omega) (by rw [hlen]; exact h0)
            rw [hlen] at this
            exact this
        · have hif : ∀ (p : Prop) [Decidable p] (u v : Addr), (if p then some u else some v) = some (if p then u else v) := fun p _ u v => by split <;> rfl
          simp [execOp, ho, hv, Instr.sliceAt, run_underlying hu, Instr.slice, hbd, run_sizeOf' hi', hif]
    · cases hr
  · rename_i s hk
    have hu : P.underlying t = some .string := tk_of (hC.tt t) hk (by simp)
    obtain ⟨r, E5, h4, hq5⟩ := Q.run_bind_some hq4
    obtain ⟨hr, rfl⟩ := ofOpt_run h4
    unfold slStr at hr
    split at hr
    · rename_i hb
      obtain ⟨b0, b1, b2⟩ := hb
      injection hr with hr; subst hr
      have hrd : Rd w ι M3 (a.eval x) (.str s) := r1'
      have hv : a.eval x = .string s := by generalize a.eval x = u at hrd; cases hrd; rfl
      have hbd := run_bounds (P := P) (w := w) (a := a) (b := false) (len := s.size) (cap := s.size) r2 r3 b0 b1 b2 (Nat.le_refl _)
      exact put_data s3 hd hdst (x := .one (.str _)) (v := .string (s.extract (l.getD 0).toNat (hh.getD (s.size : Int)).toNat)) (.str _) (by simp [execOp, ho, hv, Instr.sliceAt, run_underlying hu, Instr.slice, hbd]) (set_run hq5) hK'
    · cases hr
  · rename_i e esz eb ez ob sz ix n hk
    obtain ⟨hu, i, z, hi', hsz, _⟩ := sl_some (tk_of (hC.tt t) hk (by simp))
    split at hq4
    · rename_i hb
      obtain ⟨b00, b0, b1, b2⟩ := hb
      subst b00
      replace b1 : l.getD 0 ≤ hh.getD (n : Int) := by
        rcases b1 with b1 | ⟨_, b1⟩
        · exact Int.le_of_lt b1
        · exact b1
      have hrd : Rd w ι M3 (a.eval x) (.ref ob sz ix n) := r1'
      generalize hvx : a.eval x = vx at hrd
      cases hrd with
      | ref _ _ _ _ c b hb hnc hcm hz hcap =>
        have hbd := run_bounds (P := P) (w := w) (a := a) (b := true) (len := n) (cap := c) r2 r3 b0 (by omega) (by omega) hnc
        obtain ⟨l0, hl0⟩ : ∃ l0 : Nat, l.getD 0 = l0 := ⟨(l.getD 0).toNat, by omega⟩
        obtain ⟨h0, hh0⟩ : ∃ h0 : Nat, hh.getD (n : Int) = h0 := ⟨(hh.getD (n : Int)).toNat, by omega⟩
        rw [hl0, hh0] at hbd b1
        rw [hh0] at b2
        rw [hl0, hh0] at hq4
        simp only [Int.toNat_natCast] at hbd hq4
        split at hq4
        · rename_i hlt
          by_cases hne : c = l0
          · have hl00 : l0 = 0 := by omega
            subst hl00
            subst hne
            refine put_data s3 hd hdst (x := .one (.ref ob sz (ix + 0) (h0 - 0))) (v := .slice (some ⟨b, ix * sz, none⟩) (h0 - 0) (0 - 0)) ?_ ?_ (set_run hq4) hK'
            · obtain ⟨cs, T, q1, q2⟩ := hcap
              exact Rd.ref _ _ _ _ _ _ hb (by omega) (by omega) hz ⟨cs, T, q1, q2⟩
            · simp [execOp, ho, hvx, Instr.sliceAt, run_underlying hu, Instr.slice, hbd, run_sizeOf' hi']
          · refine put_data s3 hd hdst (x := .one (.ref ob sz (ix + l0) (h0 - l0))) (v := .slice (some ⟨b, (ix + l0) * sz, none⟩) (h0 - l0) (c - l0)) ?_ ?_ (set_run hq4) hK'
            · obtain ⟨cs, T, q1, q2⟩ := hcap
              exact Rd.ref _ _ _ _ _ _ hb (by omega) (by omega) hz ⟨cs, T, q1, by rw [show ix + l0 + (c - l0) = ix + c by omega]; exact q2⟩
            · simp [execOp, ho, hvx, Instr.sliceAt, run_underlying hu, Instr.slice, hbd, run_sizeOf' hi', hne, addr_add, hsz, Nat.add_mul]
        · rename_i hlt
          have he : h0 = l0 := by omega
          subst he
          refine put_data s3 hd hdst (x := .one (.sl [])) (v := .slice (some (if c = h0 then ⟨b, ix * sz, none⟩ else ⟨b, (ix + h0) * sz, none⟩)) 0 (c - h0)) (Rd.nil _ _) ?_ (set_run hq4) hK'
          have hif : ∀ (p : Prop) [Decidable p] (u v : Addr), (if p then some u else some v) = some (if p then u else v) := fun p _ u v => by split <;> rfl
          simp [execOp, ho, hvx, Instr.sliceAt, run_underlying hu, Instr.slice, hbd, run_sizeOf' hi', addr_add, hsz, Nat.add_mul, hif]
    · cases hq4
  · rename_i e esz eb ez hk
    obtain ⟨hu, i, z, hi', hsz, _⟩ := sl_some (tk_of (hC.tt t) hk (by simp))
    split at hq4
    · rename_i hb
      obtain ⟨b0, b1, b2⟩ := hb
      have hrd : Rd w ι M3 (a.eval x) .nils := r1'
      have hvx : a.eval x = .slice none 0 0 := by generalize a.eval x = u at hrd; cases hrd; rfl
      have b1' : l.getD 0 ≤ hh.getD 0 := b1
      have b2' : hh.getD 0 ≤ 0 := b2
      have hbd : (Instr.sliceBounds true 0 0 (lo.map a.eval) (hi.map a.eval) none).run P w = .ok ((l.getD 0).toNat, (hh.getD 0).toNat, 0) w := run_bounds (P := P) (w := w) (a := a) (b := true) (len := 0) (cap := 0) r2 r3 b0 b1' b2' (Nat.zero_le _)
      have hl0 : (l.getD 0).toNat = 0 := by omega
      have hh0 : (hh.getD 0).toNat = 0 := by omega
      rw [hl0, hh0] at hbd
      refine put_data s3 hd hdst (x := .one .nils) (v := .slice none 0 0) .nils ?_ (set_run hq4) hK'
      simp [execOp, ho, hvx, Instr.sliceAt, run_underlying hu, Instr.slice, hbd, run_sizeOf' hi']
    · cases hq4
  · rename_i e esz eb ez ob sz ix n c hk
    obtain ⟨hu, i, z, hi', hsz, _⟩ := sl_some (tk_of (hC.tt t) hk (by simp))
    split at hq4
    · rename_i hb
      obtain ⟨b00, b0, b1, b2⟩ := hb
      subst b00
      have hrd : Rd w ι M3 (a.eval x) (.refc ob sz ix n c) := r1'
      generalize hvx : a.eval x = vx at hrd
      cases hrd with
      | refc _ _ _ _ _ b hb hnc hcm hz hcap =>
        have hbd := run_boundsC (P := P) (w := w) (a := a) (b := true) (len := n) (cap := c) r2 r3 b0 b1 b2 hnc
        obtain ⟨l0, hl0⟩ : ∃ l0 : Nat, l.getD 0 = l0 := ⟨(l.getD 0).toNat, by omega⟩
        obtain ⟨h0, hh0⟩ : ∃ h0 : Nat, hh.getD (n : Int) = h0 := ⟨(hh.getD (n : Int)).toNat, by omega⟩
        rw [hl0, hh0] at hbd b1
        rw [hh0] at b2
        rw [hl0, hh0] at hq4
        simp only [Int.toNat_natCast] at hbd hq4
        split at hq4
        · rename_i hlc
          obtain rfl : c = l0 := by omega
          refine put_data s3 hd hdst (x := .one (.sl [])) (v := .slice (some ⟨b, ix * sz, none⟩) (h0 - c) (c - c)) ?_ ?_ (set_run hq4) hK'
          · rw [show h0 - c = 0 by omega]; exact Rd.nil _ _
          · simp [execOp, ho, hvx, Instr.sliceAt, run_underlying hu, Instr.slice, hbd, run_sizeOf' hi']
        · rename_i hlc
          have hne : ¬ c = l0 := by omega
          refine put_data s3 hd hdst (x := .one (.refc ob sz (ix + l0) (h0 - l0) (c - l0))) (v := .slice (some ⟨b, (ix + l0) * sz, none⟩) (h0 - l0) (c - l0)) ?_ ?_ (set_run hq4) hK'
          · obtain ⟨cs, T, q1, q2⟩ := hcap
            exact Rd.refc _ _ _ _ _ _ hb (by omega) (by omega) hz ⟨cs, T, q1, by rw [show ix + l0 + (c - l0) = ix + c by omega]; exact q2⟩
          · simp [execOp, ho, hvx, Instr.sliceAt, run_underlying hu, Instr.slice, hbd, run_sizeOf' hi', hne, addr_add, hsz, Nat.add_mul]
    · cases hq4
  · cases hq4
theorem run_call_fn {c : Call} {f : Nat} (ho : o.op = .call c) (hc : c.callee = .value (.func f)) (hf : calleeOk P f = true) : (execOp a.eval o).run P w = .ok (.enter f (c.args.map a.eval)) w := by
  unfold calleeOk at hf
  cases hfn : P.funcs[f]? with
  | none => rw [hfn] at hf; cases hf
  | some fn =>
    rw [hfn] at hf
    simp only [Bool.and_eq_true, bne_iff_ne, ne_eq] at hf
    obtain ⟨b, hb⟩ := Option.isSome_iff_exists.1 hf.2
    simp [execOp, ho, resolve, hc, Act.eval, Deferred.ofValue, invoke, callFunc, hfn, hf.1, hb]
theorem Ext0.evo {X : Nat → Prop} {w' : World} (h : Ext0 w w') : Evo X M w M w' :=
  ⟨h.os, h.tape, h.output, h.size, fun b hb _ => h.same b hb, fun _ _ h => h, fun b hb _ => h.same b hb, .of fun b hb => h.same b hb⟩
theorem after_eff {E3 : Env} (h : Sim C E3 a w ι β M) {H H' : Hp} {nx nx' : Nat} (hE : E3 gs = .heap H nx) {w' : World} {ι' : Nat → Option Nat} {M' : Nat → Prop} (ht : EffTo w ι M H w' ι' M' H' nx') :
    Sim C (upd E3 gs (.heap H' nx')) a w' ι' β M' ∧ Evo C.X M w M' w' := by
  obtain ⟨hh', hi, he, hM, hMb, hMl⟩ := ht
  have hl0 : ∀ t, live E3 t = H t := fun t => by simp [live, hE]
  have hl1 : ∀ t, live (upd E3 gs (.heap H' nx')) t = H' t := fun t => by simp [live, upd]
  have hho : HeapOk w ι M H nx := by
    obtain ⟨H0, nx0, hE0, hn⟩ := h.hp
    rw [hE] at hE0; injection hE0 with _ hE0; subst hE0
    exact ⟨hn, fun o ob ho' => h.objs o ob (by rw [hl0]; exact ho'), fun o o' x x' b h1 h2 => h.injO o o' x x' b (by rw [hl0]; exact h1) (by rw [hl0]; exact h2), fun o x b h1 => h.ctlO o x b (by rw [hl0]; exact h1)⟩
  have hev : Evo C.X M w M' w' := ⟨he.os, he.tape, he.output, he.size, fun b hb hm => he.same b hb (fun ⟨o, x, hx, hi⟩ => hm (hho.ctl o x b hx hi)), hMb, fun b hb hX => he.same b hb (fun ⟨o, x, hx, hi⟩ => h.xO o x b (by rw [hl0]; exact hx) hi hX), he.shape⟩
  have hloc : ∀ s b, β s = some b → w'.heap[b]? = w.heap[b]? := fun s b hs => he.same b (h.lt b (h.ctlB s b hs)) (fun ⟨o, x, hx, hi⟩ => h.disj o x s b (by rw [hl0]; exact hx) hi hs)
  have s2 : Sim C (upd E3 gs (.heap H' nx')) a w' ι' β M' := by
    refine ⟨h.size, h.defs, h.small, ⟨H', nx', upd_same _ _ _, hh'.new⟩, fun o ob ho' => hh'.objs o ob (by rw [← hl1]; exact ho'), fun o o' x x' b h1 h2 => hh'.inj o o' x x' b (by rw [← hl1]; exact h1) (by rw [← hl1]; exact h2), h.injB, fun o x s b h1 h2 h3 => ?_,
      fun o x b h1 => hh'.ctl o x b (by rw [← hl1]; exact h1), fun s b hs => hM b (h.ctlB s b hs) (fun o x h1 h2 => h.disj o x s b (by rw [hl0]; exact h1) h2 hs), fun o x b h1 h2 hX => ?_, h.xB, fun b hb => Nat.lt_of_lt_of_le (h.xlt b hb) he.size, fun b hb => hM b (h.xM b hb) (fun o x h1 h2 => h.xO o x b (by rw [hl0]; exact h1) h2 hb), hMl, fun s => ?_⟩
    · have hb := h.lt b (h.ctlB s b h3)
      obtain ⟨o', x', h5, h6⟩ := he.back b hb ⟨o, x, by rw [← hl1]; exact h1, h2⟩
      exact h.disj o' x' s b (by rw [hl0]; exact h5) h6 h3
    · obtain ⟨o', x', h5, h6⟩ := he.back b (h.xlt b hX) ⟨o, x, by rw [← hl1]; exact h1, h2⟩
      exact h.xO o' x' b (by rw [hl0]; exact h5) h6 hX
    · by_cases hs : s = gs
      · subst hs; rw [upd_same]; rfl
      · rw [upd_ne E3 _ hs]
        have ho' : Holds w' ι' β M' (valOf a) E3 s (E3 s) := (h.hold s).mono hev hi (fun b hb => hloc s b hb)
        generalize hy : E3 s = y at ho'
        cases y with
        | loc t g off =>
          intro xs ht
          by_cases htd : t = gs
          · subst htd; rw [upd_same] at ht; cases ht
          · rw [upd_ne E3 _ htd] at ht; exact ho' xs ht
        | oloc t g i off =>
          intro e sz rows ht
          by_cases htd : t = gs
          · subst htd; rw [upd_same] at ht; cases ht
          · rw [upd_ne E3 _ htd] at ht; exact ho' e sz rows ht
        | vw t g =>
          intro e sz rows ht
          by_cases htd : t = gs
          · subst htd; rw [upd_same] at ht; cases ht
          · rw [upd_ne E3 _ htd] at ht; exact ho' e sz rows ht
        | _ => exact ho'
  exact ⟨s2, hev⟩
theorem Sim.heapOk {E3 : Env} (h : Sim C E3 a w ι β M) {H : Hp} {nx : Nat} (hE : E3 gs = .heap H nx) : HeapOk w ι M H nx := by
  have hl0 : ∀ t, live E3 t = H t := fun t => by simp [live, hE]
  obtain ⟨H0, nx0, hE0, hn⟩ := h.hp
  rw [hE] at hE0; injection hE0 with _ hE0; subst hE0
  exact ⟨hn, fun o ob ho' => h.objs o ob (by rw [hl0]; exact ho'), fun o o' x x' b h1 h2 => h.injO o o' x x' b (by rw [hl0]; exact h1) (by rw [hl0]; exact h2), fun o x b h1 => h.ctlO o x b (by rw [hl0]; exact h1)⟩
theorem enter_eff {f : Nat} {ads : List AD} {vals : Array Value} (hr : calleeOk P f = true → (execOp a.eval o).run P w = .ok (.enter f vals) w) {E3 : Env} (h : Sim C E3 a w ι β M) (hd : d < C.nt) (hdst : o.dst = some d)
    (hsz : vals.size = ads.length) (hargs : ∀ (j : Nat) v x, vals[j]? = some v → ads[j]? = some x → RdA w ι M v x) {F : List AD → Hp → Nat → Option (RV × Hp × Nat)} (hp : FnEff P f F) (hok : calleeOk P f = true) {H H' : Hp} {nx nx' : Nat} {r : RV} (hE : E3 gs = .heap H nx)
    (hF' : F ads H nx = some (r, H', nx')) (hq3 : (setRV d r).run (upd E3 gs (.heap H' nx')) = some ((), E1)) (hK : Then C E1 M w ι K) : o.wp P a w K Qx := by
  have hho := h.heapOk hE
  unfold Oper.wp
  rw [hr hok, Oper.upon_enter, hdst]
  refine (hp ads H nx r H' nx' hF' w ι M _ h.lt hho hsz hargs).mono ?_
  rintro e w' ⟨v, ι', M', rfl, hv, hh', hi, he, hM, hMb, hMl⟩
  obtain ⟨s2, hev⟩ := after_eff h hE ⟨hh', hi, he, hM, hMb, hMl⟩
  cases r with
  | a x =>
    have := set_run hq3
    subst this
    exact hK _ _ _ _ _ (s2.put_v hd hv) hev hi
  | tup l =>
    have := set_run hq3
    subst this
    exact hK _ _ _ _ _ (s2.put (av := .tup l) hd rfl (by simp only [Holds]; rw [s2.val_put hd]; exact hv)) hev hi
theorem enter_sound {f : Nat} {ads : List AD} {vals : Array Value} (hr : calleeOk P f = true → (execOp a.eval o).run P w = .ok (.enter f vals) w) (hC : C.Ok P) (h : Sim C E a w ι β M) (hd : d < C.nt) (hdst : o.dst = some d)
    (hsz : vals.size = ads.length) (hargs : ∀ (j : Nat) v x, vals[j]? = some v → ads[j]? = some x → RdA w ι M v x)
    (hq : (enterQ C d f ads).run E = some ((), E1)) (hK : Then C E1 M w ι K) : o.wp P a w K Qx := by
  unfold enterQ at hq
  split at hq
  · cases hq
  · rename_i F hF
    obtain ⟨hp, hok⟩ := hC.pure f F hF
    obtain ⟨r, E3, h2, hq3⟩ := Q.run_bind_some hq
    obtain ⟨hF', rfl⟩ := ofOpt_run h2
    unfold Oper.wp
    rw [hr hok, Oper.upon_enter, hdst]
    refine (hp ads r hF' w ι M _ h.lt (by obtain ⟨H0, nx0, _, hn⟩ := h.hp; exact ⟨nx0, hn⟩) hsz hargs).mono ?_
    rintro e w' ⟨v, rfl, hv, he⟩
    have hev : Evo C.X M w M w' := he.evo
    have s2 : Sim C E3 a w' ι β M := h.world hev (fun _ h => h) (fun b hb => Nat.lt_of_lt_of_le (h.lt b hb) he.size)
      (fun s b hs => he.same b (h.lt b (h.ctlB s b hs))) (fun o x b ho hi => he.same b (h.lt b (h.ctlO o x b ho hi)))
    cases r with
    | a x =>
      have := set_run hq3
      subst this
      exact hK _ _ _ _ _ (s2.put_v hd hv) hev (fun _ _ h => h)
    | tup l =>
      have := set_run hq3
      subst this
      exact hK _ _ _ _ _ (s2.put (av := .tup l) hd rfl (by simp only [Holds]; rw [s2.val_put hd]; exact hv)) hev (fun _ _ h => h)
  · rename_i F hF
    obtain ⟨hp, hok⟩ := hC.eff f F hF
    simp only [Q.run] at hq
    cases hE : E gs with
    | heap H nx =>
      rw [hE] at hq
      simp only at hq
      obtain ⟨⟨r, H', nx'⟩, E3, h2, hq3⟩ := Q.run_bind_some hq
      obtain ⟨hF', rfl⟩ := ofOpt_run h2
      simp only [Q.run] at hq3
      exact enter_eff hr h hd hdst hsz hargs hp hok hE hF' hq3 hK
    | _ => rw [hE] at hq; cases hq
  · cases hq
  · cases hq
  · rename_i F hF
    obtain ⟨hp, hok⟩ := hC.rd f F hF
    simp only [Q.run] at hq
    cases hE : E gs with
    | heap H nx =>
      rw [hE] at hq
      simp only at hq
      obtain ⟨r, E3, h2, hq3⟩ := Q.run_bind_some hq
      obtain ⟨hF', rfl⟩ := ofOpt_run h2
      have hsame : upd E3 gs (.heap H nx) = E3 := by
        funext t; unfold upd; split
        · rename_i e; subst e; exact hE.symm
        · rfl
      exact enter_eff hr h hd hdst hsz hargs hp hok hE (by rw [hF']; rfl) (by rw [hsame]; exact hq3) hK
    | _ => rw [hE] at hq; cases hq
theorem op_call {c : Call} {f : Nat} (ho : o.op = .call c) (hc : c.callee = .value (.func f)) (hC : C.Ok P) (h : Sim C E a w ι β M) (hd : d < C.nt) (hdst : o.dst = some d) (hg : Gens E U) (hU : ¬ U γ)
    (hq : (callQ C γ d f c.args.toList).run E = some ((), E1)) (hK : Then C E1 M w ι K) : o.wp P a w K Qx := by
  unfold callQ at hq
  obtain ⟨ads, E2, h1, hq2⟩ := Q.run_bind_some hq
  obtain ⟨β1, M1, s1, e1, hl, r1⟩ := opds_sound h h1
  have hargs : ∀ (j : Nat) v x, (c.args.map a.eval)[j]? = some v → ads[j]? = some x → RdA w ι M1 v x := by
    intro j v x hv hx
    rw [Array.getElem?_map] at hv
    cases hj : c.args[j]? with
    | none => rw [hj] at hv; cases hv
    | some y =>
      rw [hj] at hv
      simp only [Option.map_some, Option.some.injEq] at hv
      subst hv
      exact r1 j y x (by simpa using hj) hx
  split at hq2
  · rename_i F hF
    have hg2 : Gens E2 U := ((opds_gen _).run hg h1).1
    obtain ⟨hp, hok⟩ := hC.new f F hF
    obtain ⟨r, E3, h2, hq3⟩ := Q.run_bind_some hq2
    obtain ⟨hF', rfl⟩ := ofOpt_run h2
    have := set_run hq3
    subst this
    unfold Oper.wp
    rw [run_call_fn (a := a) (w := w) ho hc hok, Oper.upon_enter, hdst]
    refine (hp ads r hF' w ι M1 _ s1.lt (by obtain ⟨H0, nx0, _, hn⟩ := s1.hp; exact ⟨nx0, hn⟩) (by simp [hl]) hargs).mono ?_
    rintro e w' ⟨v, rfl, he, hpos, hv⟩
    rcases hv with ⟨rfl, hr0⟩ | ⟨b, cs, cap, hb, rfl, h3, h4, h5, h6⟩
    · have hev : Evo C.X M1 w M1 w' := he.evo
      have s2 : Sim C _ a w' ι β1 M1 := s1.world hev (fun _ h => h) (fun b hb => Nat.lt_of_lt_of_le (s1.lt b hb) he.size)
        (fun s b hs => he.same b (s1.lt b (s1.ctlB s b hs))) (fun o x b ho hi => he.same b (s1.lt b (s1.ctlO o x b ho hi)))
      refine hK.of e1 _ _ _ _ _ (s2.claim' (a' := a.put (some d) (.slice none 0 0)) (γ := γ) (bo := none) (s1.ne_gs hd) (by rw [size_put]; exact s1.size) (by rw [defers_put]; exact s1.defs) (fun s hs' => by rw [valOf_put (by rw [s1.size]; exact hd), if_neg hs']) rfl (noref hg2 hU)
        (fun b hb => by cases hb) (fun b hb => by cases hb) (fun b s hb => by cases hb) (fun b o x hb => by cases hb) ?_) hev (fun _ _ h => h)
      exact ⟨hpos, .inl ⟨by rw [valOf_put (by rw [s1.size]; exact hd), if_pos rfl], hr0, by simp⟩⟩
    · let M' : Nat → Prop := fun x => M1 x ∨ x = b
      have hblt := h6.lt
      have hev : Evo C.X M1 w M' w' := ⟨he.os, he.tape, he.output, he.size, fun x hx _ => he.same x hx, fun x hx hm => by
        rcases hm with hm | hm
        · exact hm
        · omega, fun x hx _ => he.same x hx, .of fun x hx => he.same x hx⟩
      have s2 : Sim C _ a w' ι β1 M' := s1.world hev (fun x hx => .inl hx) (fun x hx => by
          rcases hx with hx | hx
          · have := s1.lt x hx; have := he.size; omega
          · omega)
        (fun s x hs => he.same x (s1.lt x (s1.ctlB s x hs))) (fun o x y ho hi => he.same y (s1.lt y (s1.ctlO o x y ho hi)))
      refine hK.of e1 _ _ _ _ _ (s2.claim' (a' := a.put (some d) (.slice (some ⟨b, 0, none⟩) r.2.2.length cap)) (γ := γ) (bo := some b) (s1.ne_gs hd) (by rw [size_put]; exact s1.size) (by rw [defers_put]; exact s1.defs) (fun s hs' => by rw [valOf_put (by rw [s1.size]; exact hd), if_neg hs']) rfl (noref hg2 hU)
        (fun x hx => by injection hx with hx; exact .inr hx.symm) (fun x hx hX => by injection hx with hx; subst hx; have := s1.xlt _ hX; omega) (fun x s hx hs' => by injection hx with hx; subst hx; have := s1.lt _ (s1.ctlB s _ hs'); omega)
        (fun x o y hx hl hi => by injection hx with hx; subst hx; have := s1.lt _ (s1.ctlO o y _ hl hi); omega) ?_) hev (fun _ _ h => h)
      exact ⟨hpos, .inr ⟨b, cs, cap, by simp, by rw [valOf_put (by rw [s1.size]; exact hd), if_pos rfl], h3, h4, h5, h6⟩⟩
  · rename_i F hF
    simp only [Q.run] at hq2
    cases hE2 : E2 gs with
    | heap H nx =>
      rw [hE2] at hq2
      simp only at hq2
      obtain ⟨r, E3, h2, hq3⟩ := Q.run_bind_some hq2
      obtain ⟨hF', rfl⟩ := ofOpt_run h2
      have hl0 : ∀ t, live E3 t = H t := fun t => by simp [live, hE2]
      have hho : HeapOk w ι M1 H nx := by
        obtain ⟨H0, nx0, hE0, hn⟩ := s1.hp
        rw [hE2] at hE0; injection hE0 with _ hE0; subst hE0
        exact ⟨hn, fun o ob ho' => s1.objs o ob (by rw [hl0]; exact ho'), fun o o' x x' b h1 h2 => s1.injO o o' x x' b (by rw [hl0]; exact h1) (by rw [hl0]; exact h2), fun o x b h1 => s1.ctlO o x b (by rw [hl0]; exact h1)⟩
      obtain ⟨v, hrun, hv⟩ := hC.ext f F hF ads H nx r hF' w ι M1 (c.args.map a.eval) hho (by simp [hl]) hargs
      have hr : (execOp a.eval o).run P w = .ok (.value v) w := by
        rw [← hrun]
        simp [execOp, ho, resolve, hc, Act.eval, Deferred.ofValue, invoke]
      refine wp_value hr ?_
      rw [hdst]
      cases r with
      | a x =>
        have := set_run hq3
        subst this
        exact hK.of e1 _ _ _ _ _ (s1.put_v hd hv) (Evo.refl _ _) (fun _ _ h => h)
      | tup l =>
        have := set_run hq3
        subst this
        exact hK.of e1 _ _ _ _ _ (s1.put (av := .tup l) hd rfl (by simp only [Holds]; rw [s1.val_put hd]; exact hv)) (Evo.refl _ _) (fun _ _ h => h)
    | _ => rw [hE2] at hq2; cases hq2
  · exact enter_sound (vals := c.args.map a.eval) (fun hok => run_call_fn (a := a) (w := w) ho hc hok) hC s1 hd hdst (by simp [hl]) hargs hq2 (hK.of e1)
end
end Go.Proofs.YtdapdiaklpcmjaaGreat.Pe
namespace Go.Proofs.YtdapdiaklpcmjaaGreat.Pe
open Go
section
variable {P : Program} {C : Ctx} {E E1 : Env} {a : Act} {w : World} {ι β : Nat → Option Nat} {M : Nat → Prop} {K : Act → World → Prop} {Qx : Exit → Act → World → Prop} {o : Oper} {d : Nat} {U : Nat → Prop} {γ : Nat}
structure RowsAt (w : World) (ι : Nat → Option Nat) (M : Nat → Prop) (cs : List Value) (sz : Nat) (rows : List (List D)) : Prop where
  fit : rows.length * sz = cs.length
  uni : ∀ r ∈ rows, r.length = sz
  rd : ∀ (i j : Nat) r d, rows[i]? = some r → r[j]? = some d → ∃ v, cs[i * sz + j]? = some v ∧ Rd w ι M v d
theorem RowsAt.blk {w' : World} {M' : Nat → Prop} {cs : List Value} {sz : Nat} {rows : List (List D)} (h : RowsAt w ι M cs sz rows) {X : Nat → Prop} (he : Evo X M w M' w') (hpos : 0 < sz) {b : Nat} {T : TypeId} {ca : Array Value} (hca : ca.toList = cs) (hb : w'.heap[b]? = some (.cells ca T (0, 0))) :
    Blk w' ι M' b T ca sz rows := by
  subst hca
  refine ⟨hb, hpos, by have := h.fit; simp only [Array.length_toList] at this; omega, h.uni, fun i j r d hr hd => ?_, cover_one (by have := h.fit; omega) hpos h.uni h.rd⟩
  obtain ⟨v, hv, hrd⟩ := h.rd i j r d hr hd
  exact ⟨v, by simpa using hv, hrd.mono he.same he.back (fun _ _ h => h) he.shape⟩
theorem RowsAt.set {cs : List Value} {sz : Nat} {rows : List (List D)} (h : RowsAt w ι M cs sz rows) {i : Nat} (hi : i < rows.length) {us : List Value} {vs : List D} (hu : RdL w ι M us vs) (hl : vs.length = sz) :
    RowsAt w ι M (cs.take (i * sz) ++ us ++ cs.drop (i * sz + us.length)) sz (rows.set i vs) := by
  have hul : us.length = sz := hu.1.trans hl
  have hfit : i * sz + us.length ≤ cs.length := by
    have h1 : (i + 1) * sz ≤ rows.length * sz := Nat.mul_le_mul_right _ hi
    have := h.fit
    rw [Nat.add_mul] at h1; omega
  refine ⟨?_, ?_, ?_⟩
  · have := h.fit
    simp only [List.length_set, List.length_append, List.length_take, List.length_drop]
    omega
  · intro r hr
    rcases List.mem_or_eq_of_mem_set hr with h1 | h1
    · exact h.uni r h1
    · rw [h1, hl]
  · intro i' j r x hr hx
    rw [seg_get cs us (i * sz) _ hfit]
    by_cases hii : i' = i
    · subst hii
      rw [List.getElem?_set_self hi] at hr
      injection hr with hr; subst hr
      have hj : j < us.length := by have := (List.getElem?_eq_some_iff.1 hx).1; omega
      rw [if_neg (by omega), if_pos (by omega), show i' * sz + j - i' * sz = j by omega]
      exact ⟨us[j], List.getElem?_eq_getElem hj, hu.2 j _ x (List.getElem?_eq_getElem hj) hx⟩
    · rw [List.getElem?_set_ne (fun e => hii e.symm)] at hr
      have hj : j < sz := by have := (List.getElem?_eq_some_iff.1 hx).1; have := h.uni r (List.mem_of_getElem? hr); omega
      obtain ⟨v, hv, hrd⟩ := h.rd i' j r x hr hx
      refine ⟨v, ?_, hrd⟩
      rcases row_ne (sz := sz) (off := 0) (n := us.length) hii hj (by omega) with h1 | h1
      · rw [if_pos (by omega)]; exact hv
      · rw [if_neg (by omega), if_neg (by omega)]; exact hv
theorem fold_set (off : Nat) : ∀ (us : List Value) (k : Nat) (cells : Array Value), off + k + us.length ≤ cells.size →
    ((us.zipIdx k).foldl (fun cs (x : Value × Nat) => cs.setIfInBounds (off + x.2) x.1) cells).toList = cells.toList.take (off + k) ++ us ++ cells.toList.drop (off + k + us.length)
  | [], k, cells, _ => by simp
  | u :: us, k, cells, h => by
    have ih := fold_set off us (k + 1) (cells.setIfInBounds (off + k) u) (by simp at h ⊢; omega)
    simp only [List.zipIdx_cons, List.foldl_cons]
    rw [ih]
    have e := list_seg_step cells.toList (off + k) u us (by simp at h ⊢; omega)
    simp only [Array.toList_setIfInBounds, List.length_cons]
    rw [← Nat.add_assoc off k 1, show off + k + 1 + us.length = off + k + 1 + us.length from rfl]
    exact e
theorem fill_cells (off : Nat) (v : Value) (cells : Array Value) (h : off + v.cells.size ≤ cells.size) :
    (v.cells.zipIdx.foldl (fun cs (x : Value × Nat) => cs.setIfInBounds (off + x.2) x.1) cells).toList = cells.toList.take off ++ v.cells.toList ++ cells.toList.drop (off + v.cells.toList.length) := by
  have := fold_set off v.cells.toList 0 cells (by simpa using h)
  simp only [Nat.add_zero] at this
  rw [← this, ← Array.foldl_toList, Array.toList_zipIdx]
theorem splice_rdl {us : List Value} {ds : List D} {cs : List Value} {xs : List D} (hc : RdL w ι M cs xs) (hu : RdL w ι M us ds) {off : Nat} (h : off + ds.length ≤ xs.length) : RdL w ι M (cs.take off ++ us ++ cs.drop (off + us.length)) (splice xs off ds) := by
  have h1 : off + us.length ≤ cs.length := by rw [hu.1, hc.1]; exact h
  refine ⟨?_, fun j v x hv hx => ?_⟩
  · rw [splice_length _ _ _ h, ← hc.1]; simp; omega
  · rw [seg_get cs us off j h1] at hv
    unfold splice at hx
    rw [seg_get xs ds off j h] at hx
    rw [hu.1] at hv
    split at hv
    · rename_i h2; rw [if_pos h2] at hx; exact hc.2 j v x hv hx
    · rename_i h2
      rw [if_neg h2] at hx
      split at hv
      · rename_i h3; rw [if_pos h3] at hx; exact hu.2 _ v x hv hx
      · rename_i h3; rw [if_neg h3] at hx; exact hc.2 j v x hv hx
theorem fill_sound (place : Nat → Option (Nat × Nat)) : ∀ (ps : List (Nat × List D)) (vs : List (Nat × Value)) (cells : Array Value) (ds ds' : List D), ps.length = vs.length →
    (∀ (j : Nat) x y, vs[j]? = some x → ps[j]? = some y → y.1 = x.1 ∧ RdL w ι M x.2.cells.toList y.2) → RdL w ι M cells.toList ds → fillD place ds ps = some ds' →
    ∃ cells', Instr.fill place cells vs = some cells' ∧ RdL w ι M cells'.toList ds'
  | [], [], cells, ds, ds', _, _, hc, hf => by
    simp only [fillD, Option.some.injEq] at hf; subst hf; exact ⟨cells, rfl, hc⟩
  | [], _ :: _, _, _, _, h, _, _, _ => by cases h
  | _ :: _, [], _, _, _, h, _, _, _ => by cases h
  | (i, p) :: ps, (i', v) :: vs, cells, ds, ds', hl, hp, hc, hf => by
    obtain ⟨h1, h2⟩ := hp 0 _ _ rfl rfl
    simp only at h1 h2
    subst h1
    simp only [fillD] at hf
    simp only [Instr.fill]
    cases hpl : place i with
    | none => rw [hpl] at hf; cases hf
    | some os =>
      obtain ⟨off, size⟩ := os
      rw [hpl] at hf
      simp only at hf ⊢
      split at hf
      · rename_i hb
        obtain ⟨hb1, hb2⟩ := hb
        have hvs : v.cells.size = size := by rw [← hb1, ← h2.1]; simp
        have hcs : cells.size = ds.length := by rw [← hc.1]; simp
        have hg : (decide (v.cells.size ≠ size) || decide (off + v.cells.size > cells.size)) = false := by
          simp [hvs]; omega
        rw [if_neg (by rw [hg]; simp)]
        refine fill_sound place ps vs _ (splice ds off p) ds' (by simpa using hl) (fun j x y hx hy => hp (j + 1) x y hx hy) ?_ hf
        rw [fill_cells off v cells (by omega)]
        exact splice_rdl hc h2 (by rw [hb1]; exact hb2)
      · cases hf
theorem run_mapM_layout : ∀ (fields : List Field) (fs : List (Nat × Nat)), (fields.map fun f => (f.offset, (P.info? f.type).map (·.size))) = (fs.map fun x => (x.1, some x.2)) →
    (fields.mapM fun f => (do pure (f.offset, ← sizeOf f.type) : Sem (Nat × Nat))).run P w = .ok fs w
  | [], [], _ => rfl
  | [], _ :: _, h => by cases h
  | _ :: _, [], h => by cases h
  | f :: fields, x :: fs, h => by
    simp only [List.map_cons, List.cons.injEq, Prod.mk.injEq] at h
    obtain ⟨⟨h1, h2⟩, h3⟩ := h
    have ih := run_mapM_layout fields fs h3
    cases hi : P.info? f.type with
    | none => rw [hi] at h2; cases h2
    | some i =>
      rw [hi] at h2
      simp only [Option.map_some, Option.some.injEq] at h2
      simp only [List.mapM_cons, Sem.run_bind, run_sizeOf' hi, Result.andThen_ok, Sem.run_pure, ih]
      rw [h1, h2]
theorem op_build {t : Nat} {ps : Array (Nat × Operand)} (ho : o.op = .build t ps) (hC : C.Ok P) (h : Sim C E a w ι β M) (hd : d < C.nt) (hdst : o.dst = some d)
    (hq : ((parts ps.toList).bind fun ps => match (C.tt t).k with
      | .st fs => (ofOpt (fillD (fun j => fs[j]?) (C.tt t).zero ps)).bind fun cs => .set d (.v (.many cs)) (.ret ())
      | .ar _ esz _ => (ofOpt (fillD (fun j => some (j * esz, esz)) (C.tt t).zero ps)).bind fun cs => .set d (.v (.many cs)) (.ret ())
      | _ => .fail : Q Unit).run E = some ((), E1)) (hK : Then C E1 M w ι K) : o.wp P a w K Qx := by
  obtain ⟨qs, E2, h1, hq2⟩ := Q.run_bind_some hq
  obtain ⟨β1, M1, s1, e1, hl, r1⟩ := parts_sound h h1
  have hvs : ∀ (j : Nat) x y, (ps.toList.map fun p => (p.1, a.eval p.2))[j]? = some x → qs[j]? = some y → y.1 = x.1 ∧ RdL w ι M1 x.2.cells.toList y.2 := by
    intro j x y hx hy
    rw [List.getElem?_map] at hx
    cases hj : ps.toList[j]? with
    | none => rw [hj] at hx; cases hx
    | some p =>
      rw [hj] at hx
      simp only [Option.map_some, Option.some.injEq] at hx
      subst hx
      exact r1 j p y hj hy
  split at hq2
  · rename_i fs hk
    have hl0 := tk_of (hC.tt t) hk (by simp)
    have ht : TyOk P t (C.tt t) := by
      rcases hC.tt t with ht | ht
      · rw [ht] at hk; cases hk
      · exact ht
    obtain ⟨i, z, hi, hs, hz, hzc⟩ := info_of ht
    obtain ⟨cs, E3, h2, hq3⟩ := Q.run_bind_some hq2
    obtain ⟨hf, rfl⟩ := ofOpt_run h2
    obtain ⟨fields, hu, _⟩ := field_some hl0
    have hlay : (fields.toList.map fun f => (f.offset, (P.info? f.type).map (·.size))) = (fs.map fun x => (x.1, some x.2)) := by
      have := hl0
      simp only [TkOk, layoutOf, hu, Option.some.injEq] at this
      exact this
    obtain ⟨cells', hc1, hc2⟩ := fill_sound (w := w) (ι := ι) (M := M1) (fun j => fs[j]?) qs _ z.cells _ _ (by rw [hl]; simp) hvs (by rw [hzc]; exact zv_rdl ht.isz w ι M1) hf
    refine put_data s1 hd hdst (x := .many cs) (v := .agg cells') ⟨cells', rfl, hc2⟩ ?_ (set_run hq3) (hK.of e1)
    have hm : (fields.mapM fun f => (do pure (f.offset, ← sizeOf f.type) : Sem (Nat × Nat))).run P w = .ok fs.toArray w := by
      rw [Array.mapM_eq_mapM_toList]
      simp only [Sem.run_map, run_mapM_layout fields.toList fs hlay, Result.andThen_ok]
    have hfun : (fun j : Nat => fs.toArray[j]?) = fun j : Nat => fs[j]? := by funext j; simp
    simp only [execOp, ho, Instr.build, Sem.run_bind, run_zeroValue' hi hz, Result.andThen_ok, run_underlying hu, hm, Array.toList_map, hfun, hc1, Sem.run_pure]
  · rename_i n esz ag hk
    have hl0 := (tk_of (hC.tt t) hk (by simp)).1
    have ht : TyOk P t (C.tt t) := by
      rcases hC.tt t with ht | ht
      · rw [ht] at hk; cases hk
      · exact ht
    obtain ⟨i, z, hi, hs, hz, hzc⟩ := info_of ht
    obtain ⟨cs, E3, h2, hq3⟩ := Q.run_bind_some hq2
    obtain ⟨hf, rfl⟩ := ofOpt_run h2
    obtain ⟨e, ie, hu, hie, hse⟩ := ar_some hl0
    obtain ⟨cells', hc1, hc2⟩ := fill_sound (w := w) (ι := ι) (M := M1) (fun j => some (j * esz, esz)) qs _ z.cells _ _ (by rw [hl]; simp) hvs (by rw [hzc]; exact zv_rdl ht.isz w ι M1) hf
    refine put_data s1 hd hdst (x := .many cs) (v := .agg cells') ⟨cells', rfl, hc2⟩ ?_ (set_run hq3) (hK.of e1)
    simp only [execOp, ho, Instr.build, Sem.run_bind, run_zeroValue' hi hz, Result.andThen_ok, run_underlying hu, run_sizeOf' hie, hse, Array.toList_map, hc1, Sem.run_pure]
  · cases hq2
theorem zero_rows (zs : List D) (hz : zs.all D.isZ = true) (hpos : 0 < zs.length) (n : Nat) :
    RowsAt w ι M ((Array.range (n * zs.length)).map ((zs.map D.zv).toArray[· % (zs.map D.zv).toArray.size]!)).toList zs.length (List.replicate n zs) := by
  refine ⟨by simp, fun r hr => by rw [(List.mem_replicate.1 hr).2], fun i j r x hr hx => ?_⟩
  have hi : i < n := by have := (List.getElem?_eq_some_iff.1 hr).1; simpa using this
  have hr' : r = zs := by
    rw [List.getElem?_replicate] at hr
    simp [hi] at hr
    exact hr.symm
  subst hr'
  have hj : j < r.length := (List.getElem?_eq_some_iff.1 hx).1
  have hlt : i * r.length + j < n * r.length := by
    have : (i + 1) * r.length ≤ n * r.length := Nat.mul_le_mul_right _ hi
    rw [Nat.add_mul] at this; omega
  have hmod : (i * r.length + j) % r.length = j := by rw [Nat.mul_comm, Nat.mul_add_mod]; exact Nat.mod_eq_of_lt hj
  refine ⟨r[j].zv, ?_, ?_⟩
  · rw [Array.getElem?_toList, Array.getElem?_map, Array.getElem?_range, if_pos hlt]
    simp [hmod, hj]
  · have : x = r[j] := by rw [List.getElem?_eq_getElem hj] at hx; injection hx with hx; exact hx.symm
    subst this
    exact zv_rd (List.all_eq_true.1 hz _ (List.getElem_mem hj)) _ _ _
theorem fillRows_sound (esz : Nat) : ∀ (ps : List (Nat × List D)) (vs : List (Nat × Value)) (cells : Array Value) (rows rows' : List (List D)), ps.length = vs.length →
    (∀ (j : Nat) x y, vs[j]? = some x → ps[j]? = some y → y.1 = x.1 ∧ RdL w ι M x.2.cells.toList y.2) → RowsAt w ι M cells.toList esz rows → cells.size = rows.length * esz → fillRows esz rows ps = some rows' →
    ∃ cells', Instr.fill (fun i => some (i * esz, esz)) cells vs = some cells' ∧ RowsAt w ι M cells'.toList esz rows' ∧ cells'.size = rows'.length * esz ∧ rows'.length = rows.length
  | [], [], cells, rows, rows', _, _, hc, hs, hf => by
    simp only [fillRows, Option.some.injEq] at hf; subst hf; exact ⟨cells, rfl, hc, hs, rfl⟩
  | [], _ :: _, _, _, _, h, _, _, _, _ => by cases h
  | _ :: _, [], _, _, _, h, _, _, _, _ => by cases h
  | (i, p) :: ps, (i', v) :: vs, cells, rows, rows', hl, hp, hc, hs, hf => by
    obtain ⟨h1, h2⟩ := hp 0 _ _ rfl rfl
    simp only at h1 h2
    subst h1
    simp only [fillRows] at hf
    simp only [Instr.fill]
    split at hf
    · rename_i hb
      obtain ⟨hb1, hb2⟩ := hb
      have hvs : v.cells.size = esz := by rw [← hb1, ← h2.1]; simp
      have hle : i * esz + esz ≤ cells.size := by
        have : (i + 1) * esz ≤ rows.length * esz := Nat.mul_le_mul_right _ hb2
        rw [Nat.add_mul] at this; omega
      have hg : (decide (v.cells.size ≠ esz) || decide (i * esz + v.cells.size > cells.size)) = false := by
        simp [hvs]; omega
      rw [if_neg (by rw [hg]; simp)]
      have hfc := fill_cells (i * esz) v cells (by omega)
      have hset := hc.set hb2 h2 hb1
      rw [← hfc] at hset
      obtain ⟨cells', f1, f2, f3, f4⟩ := fillRows_sound esz ps vs _ (rows.set i p) rows' (by simpa using hl) (fun j x y hx hy => hp (j + 1) x y hx hy) hset (by
        rw [← Array.length_toList, hfc]; simp; omega) hf
      exact ⟨cells', f1, f2, f3, by rw [f4]; simp⟩
    · cases hf
theorem op_buildSlice {t n : Nat} {ps : Array (Nat × Operand)} (ho : o.op = .buildSlice t n ps) (hC : C.Ok P) (h : Sim C E a w ι β M) (hd : d < C.nt) (hdst : o.dst = some d) (hg : Gens E U) (hU : ¬ U γ)
    (hq : ((parts ps.toList).bind fun ps => match (C.tt t).k with
      | .sl e esz _ ez => if 0 < esz ∧ n * esz ≤ 16777216 ∧ ez.length = esz then (ofOpt (fillRows esz (List.replicate n ez) ps)).bind fun rows => .set d (.own γ e esz rows) (.ret ()) else .fail
      | _ => .fail : Q Unit).run E = some ((), E1)) (hK : Then C E1 M w ι K) : o.wp P a w K Qx := by
  obtain ⟨qs, E2, h1, hq2⟩ := Q.run_bind_some hq
  obtain ⟨β1, M1, s1, e1, hl, r1⟩ := parts_sound h h1
  have hg2 : Gens E2 U := ((parts_gen ps.toList).run hg h1).1
  have hvs : ∀ (j : Nat) x y, (ps.toList.map fun p => (p.1, a.eval p.2))[j]? = some x → qs[j]? = some y → y.1 = x.1 ∧ RdL w ι M1 x.2.cells.toList y.2 := by
    intro j x y hx hy
    rw [List.getElem?_map] at hx
    cases hj : ps.toList[j]? with
    | none => rw [hj] at hx; cases hx
    | some p =>
      rw [hj] at hx
      simp only [Option.map_some, Option.some.injEq] at hx
      subst hx
      exact r1 j p y hj hy
  split at hq2
  · rename_i e esz eb ez hk
    have hl0 := tk_of (hC.tt t) hk (by simp)
    obtain ⟨hu, i, z, hi, hs, _, hz, hzc⟩ := sl_some hl0
    split at hq2
    · rename_i hb
      obtain ⟨hb1, hb2, hb3⟩ := hb
      obtain ⟨rows, E3, h2, hq3⟩ := Q.run_bind_some hq2
      obtain ⟨hf, rfl⟩ := ofOpt_run h2
      have hez : ez.all D.isZ = true := hl0.2.2.1
      have hzr := zero_rows (w := w) (ι := ι) (M := M1) ez hez (by omega) n
      rw [hb3] at hzr
      have hzcell : z.cells = (ez.map D.zv).toArray := by rw [← hzc]
      obtain ⟨cells', f1, f2, f3, f4⟩ := fillRows_sound (w := w) (ι := ι) (M := M1) esz qs _ _ (List.replicate n ez) rows (by rw [hl]; simp) hvs hzr (by simp) hf
      have hrl : rows.length = n := by rw [f4]; simp
      have hrun : (execOp a.eval o).run P w = .ok (.value (.slice (some ⟨w.heap.size, 0, none⟩) n n)) (w.alloc (.cells cells' e)) := by
        have hsm : ¬ (n * esz > 2 ^ 24) := by omega
        have hr0 : Array.range 0 = #[] := rfl
        by_cases hn : n * esz = 0
        · rw [hn, hr0, Array.map_empty] at f1
          simp only [execOp, ho, Instr.buildSlice, Sem.run_bind, run_underlying hu, Result.andThen_ok, run_sizeOf' hi, hs, hn, if_true, Sem.run_pure, hr0, Array.map_empty, Array.toList_map, f1, newRow, run_newObj, World.alloc_eq, Nat.reducePow, Nat.not_lt_zero, gt_iff_lt, if_false]
        · simp only [execOp, ho, Instr.buildSlice, Sem.run_bind, run_underlying hu, Result.andThen_ok, run_sizeOf' hi, hs, if_neg hsm, if_neg hn, run_zeroValue' hi hz, Sem.run_pure, hzcell, Array.toList_map, f1, newRow, run_newObj, World.alloc_eq]
      have hfin := set_run hq3
      refine put_new (γ := γ) s1 hd hdst hg2 hU rfl (fun M' he hb' => ?_) hrun hfin (hK.of e1)
      refine ⟨hb1, .inr ⟨w.heap.size, cells', n, by simp, by simp [hrl], by omega, ?_, by rw [f3, hrl], f2.blk he hb1 rfl hb'⟩⟩
      have : n * 1 ≤ n * esz := Nat.mul_le_mul_left _ hb1
      unfold maxLen; omega
    · cases hq2
  · cases hq2
theorem op_makeSlice {t : Nat} {l c : Operand} (ho : o.op = .makeSlice t l c) (hC : C.Ok P) (h : Sim C E a w ι β M) (hd : d < C.nt) (hdst : o.dst = some d) (hg : Gens E U) (hU : ¬ U γ)
    (hq : ((opd l).bind fun l => (opd c).bind fun c => (ofOpt l.int?).bind fun l => (ofOpt c.int?).bind fun c => match (C.tt t).k with
      | .sl e esz eb ez => if 0 < esz ∧ ez.length = esz ∧ l.2 = c.2 ∧ 0 ≤ l.2 ∧ l.2.toNat * (eb + 1) ≤ 140737488355328 then .set d (.own γ e esz (List.replicate l.2.toNat ez)) (.ret ()) else .fail
      | _ => .fail : Q Unit).run E = some ((), E1)) (hK : Then C E1 M w ι K) : o.wp P a w K Qx := by
  obtain ⟨x', E2, h1, hq2⟩ := Q.run_bind_some hq
  obtain ⟨β1, M1, s1, e1, r1⟩ := opd_sound h h1
  obtain ⟨y', E3, h2, hq3⟩ := Q.run_bind_some hq2
  obtain ⟨β2, M2, s2, e2, r2⟩ := opd_sound s1 h2
  obtain ⟨x2, E4, h3, hq4⟩ := Q.run_bind_some hq3
  obtain ⟨hx, rfl⟩ := ofOpt_run h3
  obtain ⟨y2, E5, h4, hq5⟩ := Q.run_bind_some hq4
  obtain ⟨hy, rfl⟩ := ofOpt_run h4
  have hg2 : Gens E5 U := ((opd_gen c).run ((opd_gen l).run hg h1).1 h2).1
  rw [AD.int_some hx] at r1
  rw [AD.int_some hy] at r2
  have hv1 := int_rd r1
  have hv2 := int_rd r2
  split at hq5
  · rename_i e esz eb ez hk
    have hl0 := tk_of (hC.tt t) hk (by simp)
    obtain ⟨hu, i, z, hi, hs, hby, hz, hzc⟩ := sl_some hl0
    split at hq5
    · rename_i hb
      obtain ⟨hb1, hb2, hb3, hb4, hb5⟩ := hb
      have hzcell : z.cells = (ez.map D.zv).toArray := by rw [← hzc]
      obtain ⟨n, hn⟩ := Int.eq_ofNat_of_zero_le hb4
      rw [hn] at hb5
      simp only [Int.toNat_natCast] at hb5
      have hne : eb * n ≤ 140737488355328 := by rw [Nat.mul_comm]; exact Nat.le_trans (Nat.mul_le_mul_left n (Nat.le_succ eb)) hb5
      have hn1 : n ≤ 140737488355328 := by
        have : n * 1 ≤ n * (eb + 1) := Nat.mul_le_mul_left n (by omega)
        omega
      have hbi : (i.bytes : Int) * (n : Int) ≤ 281474976710656 := by
        have h : ((eb * n : Nat) : Int) ≤ 281474976710656 := by omega
        rw [Int.natCast_mul] at h
        rw [hby]; exact h
      have hmk := run_make (P := P) w t e i z hu hi hz x2.1 y2.1 (n : Int) (n : Int) (by omega) (by omega) hbi (by omega)
      have hzr := zero_rows (w := w) (ι := ι) (M := M2) ez hl0.2.2.1 (by omega) n
      rw [hb2] at hzr
      have hfin := set_run hq5
      rw [hn] at hfin
      simp only [Int.toNat_natCast] at hfin hmk
      have hcells : madeCells z.cells (n * i.size) = (Array.range (n * esz)).map ((ez.map D.zv).toArray[· % (ez.map D.zv).toArray.size]!) := by
        rw [hs, hzcell]; rfl
      refine put_new (γ := γ) (cs := madeCells z.cells (n * i.size)) (T := e) (v := .slice (some ⟨w.heap.size, 0, none⟩) n n) s2 hd hdst hg2 hU rfl (fun M' he hb' => ?_) ?_ hfin ((hK.of e1).of e2)
      · refine ⟨hb1, .inr ⟨w.heap.size, _, n, by simp, by simp, by simp, by unfold maxLen; omega, ?_, hzr.blk he hb1 ?_ hb'⟩⟩
        · rw [hcells]; simp
        · rw [hcells]
      · rw [hn] at hv1
        have : y2.2 = (n : Int) := by rw [← hb3]; exact hn
        rw [this] at hv2
        simp [execOp, ho, hv1, hv2, hmk]
    · cases hq5
  · cases hq5
end
end Go.Proofs.YtdapdiaklpcmjaaGreat.Pe
