/- A part of the proof of JdH. -/
import Derived.Test.YtmhinddneefmbaaGreatKf6
set_option linter.unusedSimpArgs false
set_option linter.unusedVariables false
set_option linter.unusedSectionVars false
namespace Go.Proofs.YtmhinddneefmbaaGreat.Pe
open Go
section
variable {P : Program} {C : Ctx} {E E1 : Env} {a : Act} {w : World} {ι β : Nat → Option Nat} {M : Nat → Prop} {K : Act → World → Prop} {Qx : Exit → Act → World → Prop} {o : Oper} {d : Nat} {U : Nat → Prop} {γ : Nat}
theorem ImmAt.drop {ad : Addr} {sz : Nat} {rows : List (List D)} (h : ImmAt w ι M ad sz rows) (l n : Nat) : ImmAt w ι M (ad.add (l * sz)) sz ((rows.drop l).take n) := by
  refine ⟨h.pos, fun r hr => h.uni r (List.mem_of_mem_drop (List.mem_of_mem_take hr)), ?_, ?_, ?_, ?_⟩
  · rw [addr_add h.spot]
  · rw [addr_add h.spot]; exact h.im
  · rw [addr_add h.spot]; exact h.lt
  · intro i j r x hr hx
    rw [List.getElem?_take] at hr
    split at hr
    · rw [List.getElem?_drop] at hr
      obtain ⟨v, hv, hrd⟩ := h.rd (l + i) j r x hr hx
      refine ⟨v, ?_, hrd⟩
      rw [addr_add h.spot] at hv ⊢
      rw [addr_add rfl]
      rw [← hv]
      congr 2
      simp [Nat.add_mul, Nat.add_assoc]
    · cases hr
theorem optInt_sound {x : Option Operand} {n : Option Int} (h : Sim C E a w ι β M) (hq : (optInt x).run E = some (n, E1)) :
    ∃ β1 M1, Sim C E1 a w ι β1 M1 ∧ Evo C.X M w M1 w ∧ ((x = none ∧ n = none) ∨ ∃ y k m, x = some y ∧ n = some m ∧ a.eval y = .int k m) := by
  cases x with
  | none => obtain ⟨rfl, rfl⟩ := ret_run hq; exact ⟨β, M, h, Evo.refl _ _, .inl ⟨rfl, rfl⟩⟩
  | some y =>
    simp only [optInt] at hq
    obtain ⟨z, E2, h1, hq2⟩ := Q.run_bind_some hq
    obtain ⟨β1, M1, s1, e1, r1⟩ := opd_sound h h1
    obtain ⟨m, E3, h2, hq3⟩ := Q.run_bind_some hq2
    obtain ⟨hm, rfl⟩ := ofOpt_run h2
    obtain ⟨rfl, rfl⟩ := ret_run hq3
    rw [AD.int_some hm] at r1
    exact ⟨β1, M1, s1, e1, .inr ⟨y, m.1, m.2, rfl, rfl, int_rd r1⟩⟩
theorem run_boundsC {b : Bool} {len cap : Nat} {lo hi : Option Operand} {l h : Option Int} (hlo : (lo = none ∧ l = none) ∨ ∃ y k m, lo = some y ∧ l = some m ∧ a.eval y = .int k m) (hhi : (hi = none ∧ h = none) ∨ ∃ y k m, hi = some y ∧ h = some m ∧ a.eval y = .int k m)
    (h0 : 0 ≤ l.getD 0) (h1 : l.getD 0 ≤ h.getD (len : Int)) (h2 : h.getD (len : Int) ≤ cap) (hlc : len ≤ cap) :
    (Instr.sliceBounds b len cap (lo.map a.eval) (hi.map a.eval) none).run P w = .ok ((l.getD 0).toNat, (h.getD (len : Int)).toNat, cap) w := by
  rcases hlo with ⟨rfl, rfl⟩ | ⟨y, k, m, rfl, rfl, hy⟩ <;> rcases hhi with ⟨rfl, rfl⟩ | ⟨y', k', m', rfl, rfl, hy'⟩
  · simp [Instr.sliceBounds]
  · simp only [Option.getD_some, Option.getD_none] at *
    simp [Instr.sliceBounds, hy', run_sliceBound (w := w) k' m' cap _ (by omega) (by omega)]
  · simp only [Option.getD_some, Option.getD_none] at *
    simp [Instr.sliceBounds, hy, run_sliceBound (w := w) k m len _ (by omega) (by omega)]
  · simp only [Option.getD_some] at *
    have e : (m'.toNat : Int) = m' := Int.toNat_of_nonneg (by omega)
    simp [Instr.sliceBounds, hy, hy', run_sliceBound (w := w) k' m' cap _ (by omega) (by omega), run_sliceBound (w := w) k m m'.toNat _ (by omega) (by omega)]
theorem run_bounds {b : Bool} {len cap : Nat} {lo hi : Option Operand} {l h : Option Int} (hlo : (lo = none ∧ l = none) ∨ ∃ y k m, lo = some y ∧ l = some m ∧ a.eval y = .int k m) (hhi : (hi = none ∧ h = none) ∨ ∃ y k m, hi = some y ∧ h = some m ∧ a.eval y = .int k m)
    (h0 : 0 ≤ l.getD 0) (h1 : l.getD 0 ≤ h.getD (len : Int)) (h2 : h.getD (len : Int) ≤ len) (hlc : len ≤ cap) :
    (Instr.sliceBounds b len cap (lo.map a.eval) (hi.map a.eval) none).run P w = .ok ((l.getD 0).toNat, (h.getD (len : Int)).toNat, cap) w :=
  run_boundsC hlo hhi h0 h1 (by omega) hlc
theorem op_slice {t : Nat} {x : Operand} {lo hi mx : Option Operand} (ho : o.op = .slice t x lo hi mx) (hmx : mx = none) (hC : C.Ok P) (h : Sim C E a w ι β M) (hd : d < C.nt) (hdst : o.dst = some d)
    (hq : (sliceQ C d t x lo hi).run E = some ((), E1)) (hK : Then C E1 M w ι K) : o.wp P a w K Qx := by
  subst hmx
  unfold sliceQ at hq
  obtain ⟨y, E2, h1, hq2⟩ := Q.run_bind_some hq
  obtain ⟨β1, M1, s1, e1, r1⟩ := opd_sound h h1
  obtain ⟨l, E3, h2, hq3⟩ := Q.run_bind_some hq2
  obtain ⟨β2, M2, s2, e2, r2⟩ := optInt_sound s1 h2
  obtain ⟨hh, E4, h3, hq4⟩ := Q.run_bind_some hq3
  obtain ⟨β3, M3, s3, e3, r3⟩ := optInt_sound s2 h3
  have hK' := ((hK.of e1).of e2).of e3
  have r1' := r1.mono (e2.trans e3) (fun _ _ h => h)
  split at hq4
  · rename_i e esz eb ez rows hk
    obtain ⟨hu, i, z, hi', hsz, _⟩ := sl_some (tk_of (hC.tt t) hk (by simp))
    obtain ⟨r, E5, h4, hq5⟩ := Q.run_bind_some hq4
    obtain ⟨hr, rfl⟩ := ofOpt_run h4
    unfold slRows at hr
    split at hr
    · rename_i hb
      obtain ⟨b0, b1, b2, b3⟩ := hb
      injection hr with hr; subst hr
      have hrd : Rd w ι M3 (a.eval x) (.sl rows) := r1'
      rcases hrd.imm with ⟨A, c, hv, hn⟩ | ⟨ad, c, sz, hv, hpos, hlc, him⟩
      · subst hn
        have b1' : l.getD 0 ≤ hh.getD 0 := b1
        have b2' : hh.getD 0 ≤ 0 := b2
        have hbd : (Instr.sliceBounds true 0 c (lo.map a.eval) (hi.map a.eval) none).run P w = .ok ((l.getD 0).toNat, (hh.getD 0).toNat, c) w := run_bounds (P := P) (w := w) (a := a) (b := true) (len := 0) (cap := c) r2 r3 b0 b1' b2' (Nat.zero_le _)
        refine put_data s3 hd hdst (x := .one (.sl _)) (v := .slice (if c = (l.getD 0).toNat then A else A.map (·.add ((l.getD 0).toNat * i.size))) ((hh.getD 0).toNat - (l.getD 0).toNat) (c - (l.getD 0).toNat)) ?_ ?_ (set_run hq5) hK'
        · simp only [List.drop_nil, List.take_nil]
          have : (hh.getD 0).toNat - (l.getD 0).toNat = 0 := by omega
          rw [this]; exact Rd.nil _ _
        · simp [execOp, ho, hv, Instr.sliceAt, run_underlying hu, Instr.slice, hbd, run_sizeOf' hi']
      · have hbd := run_bounds (P := P) (w := w) (a := a) (b := true) (len := rows.length) (cap := c) r2 r3 b0 b1 b2 hlc
        have hsz' : sz = i.size := by
          have hm := List.getElem_mem hpos
          rw [← him.uni _ hm, hsz]
          simpa using List.all_eq_true.1 b3 _ hm
        refine put_data s3 hd hdst (x := .one (.sl _)) (v := .slice (some (if c = (l.getD 0).toNat then ad else ad.add ((l.getD 0).toNat * i.size))) ((hh.getD (rows.length : Int)).toNat - (l.getD 0).toNat) (c - (l.getD 0).toNat)) ?_ ?_ (set_run hq5) hK'
        · have hlen : ((rows.drop (l.getD 0).toNat).take ((hh.getD (rows.length : Int)).toNat - (l.getD 0).toNat)).length = (hh.getD (rows.length : Int)).toNat - (l.getD 0).toNat := by
            simp; omega
          rcases Nat.eq_zero_or_pos ((hh.getD (rows.length : Int)).toNat - (l.getD 0).toNat) with h0 | h0
          · rw [h0]; simp only [List.take_zero]; exact Rd.nil _ _
          · have him' := him.drop (l.getD 0).toNat ((hh.getD (rows.length : Int)).toNat - (l.getD 0).toNat)
            have hne : ¬ c = (l.getD 0).toNat := by omega
            rw [if_neg hne, ← hsz']
            have := him'.rd_sl (c := c - (l.getD 0).toNat) (by rw [hlen]; omega) (by rw [hlen]; exact h0)
            rw [hlen] at this
            exact this
        · have hif : ∀ (p : Prop) [Decidable p] (u v : Addr), (if p then some u else some v) = some (if p then u else v) := fun p _ u v => by split <;> rfl
          simp [execOp, ho, hv, Instr.sliceAt, run_underlying hu, Instr.slice, hbd, run_sizeOf' hi', hif]
    · cases hr
  · rename_i s hk
    have hu : P.underlying t = some .string := tk_of (hC.tt t) hk (by simp)
    obtain ⟨r, E5, h4, hq5⟩ := Q.run_bind_some hq4
    obtain ⟨hr, rfl⟩ := ofOpt_run h4
    unfold slStr at hr
    split at hr
    · rename_i hb
      obtain ⟨b0, b1, b2⟩ := hb
      injection hr with hr; subst hr
      have hrd : Rd w ι M3 (a.eval x) (.str s) := r1'
      have hv : a.eval x = .string s := by generalize a.eval x = u at hrd; cases hrd; rfl
      have hbd := run_bounds (P := P) (w := w) (a := a) (b := false) (len := s.size) (cap := s.size) r2 r3 b0 b1 b2 (Nat.le_refl _)
      exact put_data s3 hd hdst (x := .one (.str _)) (v := .string (s.extract (l.getD 0).toNat (hh.getD (s.size : Int)).toNat)) (.str _) (by simp [execOp, ho, hv, Instr.sliceAt, run_underlying hu, Instr.slice, hbd]) (set_run hq5) hK'
    · cases hr
  · rename_i e esz eb ez ob sz ix n hk
    obtain ⟨hu, i, z, hi', hsz, _⟩ := sl_some (tk_of (hC.tt t) hk (by simp))
    split at hq4
    · rename_i hb
      obtain ⟨b00, b0, b1, b2⟩ := hb
      subst b00
      replace b1 : l.getD 0 ≤ hh.getD (n : Int) := by
        rcases b1 with b1 | ⟨_, b1⟩
        · exact Int.le_of_lt b1
        · exact b1
      have hrd : Rd w ι M3 (a.eval x) (.ref ob sz ix n) := r1'
      generalize hvx : a.eval x = vx at hrd
      cases hrd with
      | ref _ _ _ _ c b hb hnc hcm hz hcap =>
        have hbd := run_bounds (P := P) (w := w) (a := a) (b := true) (len := n) (cap := c) r2 r3 b0 (by omega) (by omega) hnc
        obtain ⟨l0, hl0⟩ : ∃ l0 : Nat, l.getD 0 = l0 := ⟨(l.getD 0).toNat, by omega⟩
        obtain ⟨h0, hh0⟩ : ∃ h0 : Nat, hh.getD (n : Int) = h0 := ⟨(hh.getD (n : Int)).toNat, by omega⟩
        rw [hl0, hh0] at hbd b1
        rw [hh0] at b2
        rw [hl0, hh0] at hq4
        simp only [Int.toNat_natCast] at hbd hq4
        split at hq4
        · rename_i hlt
          by_cases hne : c = l0
          · have hl00 : l0 = 0 := by omega
            subst hl00
            subst hne
            refine put_data s3 hd hdst (x := .one (.ref ob sz (ix + 0) (h0 - 0))) (v := .slice (some ⟨b, ix * sz, none⟩) (h0 - 0) (0 - 0)) ?_ ?_ (set_run hq4) hK'
            · obtain ⟨cs, T, q1, q2⟩ := hcap
              exact Rd.ref _ _ _ _ _ _ hb (by omega) (by omega) hz ⟨cs, T, q1, q2⟩
            · simp [execOp, ho, hvx, Instr.sliceAt, run_underlying hu, Instr.slice, hbd, run_sizeOf' hi']
          · refine put_data s3 hd hdst (x := .one (.ref ob sz (ix + l0) (h0 - l0))) (v := .slice (some ⟨b, (ix + l0) * sz, none⟩) (h0 - l0) (c - l0)) ?_ ?_ (set_run hq4) hK'
            · obtain ⟨cs, T, q1, q2⟩ := hcap
              exact Rd.ref _ _ _ _ _ _ hb (by omega) (by omega) hz ⟨cs, T, q1, by rw [show ix + l0 + (c - l0) = ix + c by omega]; exact q2⟩
            · simp [execOp, ho, hvx, Instr.sliceAt, run_underlying hu, Instr.slice, hbd, run_sizeOf' hi', hne, addr_add, hsz, Nat.add_mul]
        · rename_i hlt
          have he : h0 = l0 := by omega
          subst he
          refine put_data s3 hd hdst (x := .one (.sl [])) (v := .slice (some (if c = h0 then ⟨b, ix * sz, none⟩ else ⟨b, (ix + h0) * sz, none⟩)) 0 (c - h0)) (Rd.nil _ _) ?_ (set_run hq4) hK'
          have hif : ∀ (p : Prop) [Decidable p] (u v : Addr), (if p then some u else some v) = some (if p then u else v) := fun p _ u v => by split <;> rfl
          simp [execOp, ho, hvx, Instr.sliceAt, run_underlying hu, Instr.slice, hbd, run_sizeOf' hi', addr_add, hsz, Nat.add_mul, hif]
    · cases hq4
  · rename_i e esz eb ez hk
    obtain ⟨hu, i, z, hi', hsz, _⟩ := sl_some (tk_of (hC.tt t) hk (by simp))
    split at hq4
    · rename_i hb
      obtain ⟨b0, b1, b2⟩ := hb
      have hrd : Rd w ι M3 (a.eval x) .nils := r1'
      have hvx : a.eval x = .slice none 0 0 := by generalize a.eval x = u at hrd; cases hrd; rfl
      have b1' : l.getD 0 ≤ hh.getD 0 := b1
      have b2' : hh.getD 0 ≤ 0 := b2
      have hbd : (Instr.sliceBounds true 0 0 (lo.map a.eval) (hi.map a.eval) none).run P w = .ok ((l.getD 0).toNat, (hh.getD 0).toNat, 0) w := run_bounds (P := P) (w := w) (a := a) (b := true) (len := 0) (cap := 0) r2 r3 b0 b1' b2' (Nat.zero_le _)
      have hl0 : (l.getD 0).toNat = 0 := by omega
      have hh0 : (hh.getD 0).toNat = 0 := by omega
      rw [hl0, hh0] at hbd
      refine put_data s3 hd hdst (x := .one .nils) (v := .slice none 0 0) .nils ?_ (set_run hq4) hK'
      simp [execOp, ho, hvx, Instr.sliceAt, run_underlying hu, Instr.slice, hbd, run_sizeOf' hi']
    · cases hq4
  · rename_i e esz eb ez ob sz ix n c hk
    obtain ⟨hu, i, z, hi', hsz, _⟩ := sl_some (tk_of (hC.tt t) hk (by simp))
    split at hq4
    · rename_i hb
      obtain ⟨b00, b0, b1, b2⟩ := hb
      subst b00
      have hrd : Rd w ι M3 (a.eval x) (.refc ob sz ix n c) := r1'
      generalize hvx : a.eval x = vx at hrd
      cases hrd with
      | refc _ _ _ _ _ b hb hnc hcm hz hcap =>
        have hbd := run_boundsC (P := P) (w := w) (a := a) (b := true) (len := n) (cap := c) r2 r3 b0 b1 b2 hnc
        obtain ⟨l0, hl0⟩ : ∃ l0 : Nat, l.getD 0 = l0 := ⟨(l.getD 0).toNat, by omega⟩
        obtain ⟨h0, hh0⟩ : ∃ h0 : Nat, hh.getD (n : Int) = h0 := ⟨(hh.getD (n : Int)).toNat, by omega⟩
        rw [hl0, hh0] at hbd b1
        rw [hh0] at b2
        rw [hl0, hh0] at hq4
        simp only [Int.toNat_natCast] at hbd hq4
        split at hq4
        · rename_i hlc
          obtain rfl : c = l0 := by omega
          refine put_data s3 hd hdst (x := .one (.sl [])) (v := .slice (some ⟨b, ix * sz, none⟩) (h0 - c) (c - c)) ?_ ?_ (set_run hq4) hK'
          · rw [show h0 - c = 0 by omega]; exact Rd.nil _ _
          · simp [execOp, ho, hvx, Instr.sliceAt, run_underlying hu, Instr.slice, hbd, run_sizeOf' hi']
        · rename_i hlc
          have hne : ¬ c = l0 := by omega
          refine put_data s3 hd hdst (x := .one (.refc ob sz (ix + l0) (h0 - l0) (c - l0))) (v := .slice (some ⟨b, (ix + l0) * sz, none⟩) (h0 - l0) (c - l0)) ?_ ?_ (set_run hq4) hK'
          · obtain ⟨cs, T, q1, q2⟩ := hcap
            exact Rd.refc _ _ _ _ _ _ hb (by omega) (by omega) hz ⟨cs, T, q1, by rw [show ix + l0 + (c - l0) = ix + c by omega]; exact q2⟩
          · simp [execOp, ho, hvx, Instr.sliceAt, run_underlying hu, Instr.slice, hbd, run_sizeOf' hi', hne, addr_add, hsz, Nat.add_mul]
    · cases hq4
  · cases hq4
theorem run_call_fn {c : Call} {f : Nat} (ho : o.op = .call c) (hc : c.callee = .value (.func f)) (hf : calleeOk P f = true) : (execOp a.eval o).run P w = .ok (.enter f (c.args.map a.eval)) w := by
  unfold calleeOk at hf
  cases hfn : P.funcs[f]? with
  | none => rw [hfn] at hf; cases hf
  | some fn =>
    rw [hfn] at hf
    simp only [Bool.and_eq_true, bne_iff_ne, ne_eq] at hf
    obtain ⟨b, hb⟩ := Option.isSome_iff_exists.1 hf.2
    simp [execOp, ho, resolve, hc, Act.eval, Deferred.ofValue, invoke, callFunc, hfn, hf.1, hb]
theorem Ext0.evo {X : Nat → Prop} {w' : World} (h : Ext0 w w') : Evo X M w M w' :=
  ⟨h.os, h.tape, h.output, h.size, fun b hb _ => h.same b hb, fun _ _ h => h, fun b hb _ => h.same b hb, .of fun b hb => h.same b hb⟩
theorem after_eff {E3 : Env} (h : Sim C E3 a w ι β M) {H H' : Hp} {nx nx' : Nat} (hE : E3 gs = .heap H nx) {w' : World} {ι' : Nat → Option Nat} {M' : Nat → Prop} (ht : EffTo w ι M H w' ι' M' H' nx') :
    Sim C (upd E3 gs (.heap H' nx')) a w' ι' β M' ∧ Evo C.X M w M' w' := by
  obtain ⟨hh', hi, he, hM, hMb, hMl⟩ := ht
  have hl0 : ∀ t, live E3 t = H t := fun t => by simp [live, hE]
  have hl1 : ∀ t, live (upd E3 gs (.heap H' nx')) t = H' t := fun t => by simp [live, upd]
  have hho : HeapOk w ι M H nx := by
    obtain ⟨H0, nx0, hE0, hn⟩ := h.hp
    rw [hE] at hE0; injection hE0 with _ hE0; subst hE0
    exact ⟨hn, fun o ob ho' => h.objs o ob (by rw [hl0]; exact ho'), fun o o' x x' b h1 h2 => h.injO o o' x x' b (by rw [hl0]; exact h1) (by rw [hl0]; exact h2), fun o x b h1 => h.ctlO o x b (by rw [hl0]; exact h1)⟩
  have hev : Evo C.X M w M' w' := ⟨he.os, he.tape, he.output, he.size, fun b hb hm => he.same b hb (fun ⟨o, x, hx, hi⟩ => hm (hho.ctl o x b hx hi)), hMb, fun b hb hX => he.same b hb (fun ⟨o, x, hx, hi⟩ => h.xO o x b (by rw [hl0]; exact hx) hi hX), he.shape⟩
  have hloc : ∀ s b, β s = some b → w'.heap[b]? = w.heap[b]? := fun s b hs => he.same b (h.lt b (h.ctlB s b hs)) (fun ⟨o, x, hx, hi⟩ => h.disj o x s b (by rw [hl0]; exact hx) hi hs)
  have s2 : Sim C (upd E3 gs (.heap H' nx')) a w' ι' β M' := by
    refine ⟨h.size, h.defs, h.small, ⟨H', nx', upd_same _ _ _, hh'.new⟩, fun o ob ho' => hh'.objs o ob (by rw [← hl1]; exact ho'), fun o o' x x' b h1 h2 => hh'.inj o o' x x' b (by rw [← hl1]; exact h1) (by rw [← hl1]; exact h2), h.injB, fun o x s b h1 h2 h3 => ?_,
      fun o x b h1 => hh'.ctl o x b (by rw [← hl1]; exact h1), fun s b hs => hM b (h.ctlB s b hs) (fun o x h1 h2 => h.disj o x s b (by rw [hl0]; exact h1) h2 hs), fun o x b h1 h2 hX => ?_, h.xB, fun b hb => Nat.lt_of_lt_of_le (h.xlt b hb) he.size, fun b hb => hM b (h.xM b hb) (fun o x h1 h2 => h.xO o x b (by rw [hl0]; exact h1) h2 hb), hMl, fun s => ?_⟩
    · have hb := h.lt b (h.ctlB s b h3)
      obtain ⟨o', x', h5, h6⟩ := he.back b hb ⟨o, x, by rw [← hl1]; exact h1, h2⟩
      exact h.disj o' x' s b (by rw [hl0]; exact h5) h6 h3
    · obtain ⟨o', x', h5, h6⟩ := he.back b (h.xlt b hX) ⟨o, x, by rw [← hl1]; exact h1, h2⟩
      exact h.xO o' x' b (by rw [hl0]; exact h5) h6 hX
    · by_cases hs : s = gs
      · subst hs; rw [upd_same]; rfl
      · rw [upd_ne E3 _ hs]
        have ho' : Holds w' ι' β M' (valOf a) E3 s (E3 s) := (h.hold s).mono hev hi (fun b hb => hloc s b hb)
        generalize hy : E3 s = y at ho'
        cases y with
        | loc t g off =>
          intro xs ht
          by_cases htd : t = gs
          · subst htd; rw [upd_same] at ht; cases ht
          · rw [upd_ne E3 _ htd] at ht; exact ho' xs ht
        | oloc t g i off =>
          intro e sz rows ht
          by_cases htd : t = gs
          · subst htd; rw [upd_same] at ht; cases ht
          · rw [upd_ne E3 _ htd] at ht; exact ho' e sz rows ht
        | vw t g =>
          intro e sz rows ht
          by_cases htd : t = gs
          · subst htd; rw [upd_same] at ht; cases ht
          · rw [upd_ne E3 _ htd] at ht; exact ho' e sz rows ht
        | _ => exact ho'
  exact ⟨s2, hev⟩
theorem Sim.heapOk {E3 : Env} (h : Sim C E3 a w ι β M) {H : Hp} {nx : Nat} (hE : E3 gs = .heap H nx) : HeapOk w ι M H nx := by
  have hl0 : ∀ t, live E3 t = H t := fun t => by simp [live, hE]
  obtain ⟨H0, nx0, hE0, hn⟩ := h.hp
  rw [hE] at hE0; injection hE0 with _ hE0; subst hE0
  exact ⟨hn, fun o ob ho' => h.objs o ob (by rw [hl0]; exact ho'), fun o o' x x' b h1 h2 => h.injO o o' x x' b (by rw [hl0]; exact h1) (by rw [hl0]; exact h2), fun o x b h1 => h.ctlO o x b (by rw [hl0]; exact h1)⟩
theorem enter_eff {f : Nat} {ads : List AD} {vals : Array Value} (hr : calleeOk P f = true → (execOp a.eval o).run P w = .ok (.enter f vals) w) {E3 : Env} (h : Sim C E3 a w ι β M) (hd : d < C.nt) (hdst : o.dst = some d)
    (hsz : vals.size = ads.length) (hargs : ∀ (j : Nat) v x, vals[j]? = some v → ads[j]? = some x → RdA w ι M v x) {F : List AD → Hp → Nat → Option (RV × Hp × Nat)} (hp : FnEff P f F) (hok : calleeOk P f = true) {H H' : Hp} {nx nx' : Nat} {r : RV} (hE : E3 gs = .heap H nx)
    (hF' : F ads H nx = some (r, H', nx')) (hq3 : (setRV d r).run (upd E3 gs (.heap H' nx')) = some ((), E1)) (hK : Then C E1 M w ι K) : o.wp P a w K Qx := by
  have hho := h.heapOk hE
  unfold Oper.wp
  rw [hr hok, Oper.upon_enter, hdst]
  refine (hp ads H nx r H' nx' hF' w ι M _ h.lt hho hsz hargs).mono ?_
  rintro e w' ⟨v, ι', M', rfl, hv, hh', hi, he, hM, hMb, hMl⟩
  obtain ⟨s2, hev⟩ := after_eff h hE ⟨hh', hi, he, hM, hMb, hMl⟩
  cases r with
  | a x =>
    have := set_run hq3
    subst this
    exact hK _ _ _ _ _ (s2.put_v hd hv) hev hi
  | tup l =>
    have := set_run hq3
    subst this
    exact hK _ _ _ _ _ (s2.put (av := .tup l) hd rfl (by simp only [Holds]; rw [s2.val_put hd]; exact hv)) hev hi
theorem enter_sound {f : Nat} {ads : List AD} {vals : Array Value} (hr : calleeOk P f = true → (execOp a.eval o).run P w = .ok (.enter f vals) w) (hC : C.Ok P) (h : Sim C E a w ι β M) (hd : d < C.nt) (hdst : o.dst = some d)
    (hsz : vals.size = ads.length) (hargs : ∀ (j : Nat) v x, vals[j]? = some v → ads[j]? = some x → RdA w ι M v x)
    (hq : (enterQ C d f ads).run E = some ((), E1)) (hK : Then C E1 M w ι K) : o.wp P a w K Qx := by
  unfold enterQ at hq
  split at hq
  · cases hq
  · rename_i F hF
    obtain ⟨hp, hok⟩ := hC.pure f F hF
    obtain ⟨r, E3, h2, hq3⟩ := Q.run_bind_some hq
    obtain ⟨hF', rfl⟩ := ofOpt_run h2
    unfold Oper.wp
    rw [hr hok, Oper.upon_enter, hdst]
    refine (hp ads r hF' w ι M _ h.lt (by obtain ⟨H0, nx0, _, hn⟩ := h.hp; exact ⟨nx0, hn⟩) hsz hargs).mono ?_
    rintro e w' ⟨v, rfl, hv, he⟩
    have hev : Evo C.X M w M w' := he.evo
    have s2 : Sim C E3 a w' ι β M := h.world hev (fun _ h => h) (fun b hb => Nat.lt_of_lt_of_le (h.lt b hb) he.size)
      (fun s b hs => he.same b (h.lt b (h.ctlB s b hs))) (fun o x b ho hi => he.same b (h.lt b (h.ctlO o x b ho hi)))
    cases r with
    | a x =>
      have := set_run hq3
      subst this
      exact hK _ _ _ _ _ (s2.put_v hd hv) hev (fun _ _ h => h)
    | tup l =>
      have := set_run hq3
      subst this
      exact hK _ _ _ _ _ (s2.put (av := .tup l) hd rfl (by simp only [Holds]; rw [s2.val_put hd]; exact hv)) hev (fun _ _ h => h)
  · rename_i F hF
    obtain ⟨hp, hok⟩ := hC.eff f F hF
    simp only [Q.run] at hq
    cases hE : E gs with
    | heap H nx =>
      rw [hE] at hq
      simp only at hq
      obtain ⟨⟨r, H', nx'⟩, E3, h2, hq3⟩ := Q.run_bind_some hq
      obtain ⟨hF', rfl⟩ := ofOpt_run h2
      simp only [Q.run] at hq3
      exact enter_eff hr h hd hdst hsz hargs hp hok hE hF' hq3 hK
    | _ => rw [hE] at hq; cases hq
  · cases hq
  · cases hq
  · rename_i F hF
    obtain ⟨hp, hok⟩ := hC.rd f F hF
    simp only [Q.run] at hq
    cases hE : E gs with
    | heap H nx =>
      rw [hE] at hq
      simp only at hq
      obtain ⟨r, E3, h2, hq3⟩ := Q.run_bind_some hq
      obtain ⟨hF', rfl⟩ := ofOpt_run h2
      have hsame : upd E3 gs (.heap H nx) = E3 := by
        funext t; unfold upd; split
        · rename_i e; subst e; exact hE.symm
        · rfl
      exact enter_eff hr h hd hdst hsz hargs hp hok hE (by rw [hF']; rfl) (by rw [hsame]; exact hq3) hK
    | _ => rw [hE] at hq; cases hq
theorem op_call {c : Call} {f : Nat} (ho : o.op = .call c) (hc : c.callee = .value (.func f)) (hC : C.Ok P) (h : Sim C E a w ι β M) (hd : d < C.nt) (hdst : o.dst = some d) (hg : Gens E U) (hU : ¬ U γ)
    (hq : (callQ C γ d f c.args.toList).run E = some ((), E1)) (hK : Then C E1 M w ι K) : o.wp P a w K Qx := by
  unfold callQ at hq
  obtain ⟨ads, E2, h1, hq2⟩ := Q.run_bind_some hq
  obtain ⟨β1, M1, s1, e1, hl, r1⟩ := opds_sound h h1
  have hargs : ∀ (j : Nat) v x, (c.args.map a.eval)[j]? = some v → ads[j]? = some x → RdA w ι M1 v x := by
    intro j v x hv hx
    rw [Array.getElem?_map] at hv
    cases hj : c.args[j]? with
    | none => rw [hj] at hv; cases hv
    | some y =>
      rw [hj] at hv
      simp only [Option.map_some, Option.some.injEq] at hv
      subst hv
      exact r1 j y x (by simpa using hj) hx
  split at hq2
  · rename_i F hF
    have hg2 : Gens E2 U := ((opds_gen _).run hg h1).1
    obtain ⟨hp, hok⟩ := hC.new f F hF
    obtain ⟨r, E3, h2, hq3⟩ := Q.run_bind_some hq2
    obtain ⟨hF', rfl⟩ := ofOpt_run h2
    have := set_run hq3
    subst this
    unfold Oper.wp
    rw [run_call_fn (a := a) (w := w) ho hc hok, Oper.upon_enter, hdst]
    refine (hp ads r hF' w ι M1 _ s1.lt (by obtain ⟨H0, nx0, _, hn⟩ := s1.hp; exact ⟨nx0, hn⟩) (by simp [hl]) hargs).mono ?_
    rintro e w' ⟨v, rfl, he, hpos, hv⟩
    rcases hv with ⟨rfl, hr0⟩ | ⟨b, cs, cap, hb, rfl, h3, h4, h5, h6⟩
    · have hev : Evo C.X M1 w M1 w' := he.evo
      have s2 : Sim C _ a w' ι β1 M1 := s1.world hev (fun _ h => h) (fun b hb => Nat.lt_of_lt_of_le (s1.lt b hb) he.size)
        (fun s b hs => he.same b (s1.lt b (s1.ctlB s b hs))) (fun o x b ho hi => he.same b (s1.lt b (s1.ctlO o x b ho hi)))
      refine hK.of e1 _ _ _ _ _ (s2.claim' (a' := a.put (some d) (.slice none 0 0)) (γ := γ) (bo := none) (s1.ne_gs hd) (by rw [size_put]; exact s1.size) (by rw [defers_put]; exact s1.defs) (fun s hs' => by rw [valOf_put (by rw [s1.size]; exact hd), if_neg hs']) rfl (noref hg2 hU)
        (fun b hb => by cases hb) (fun b hb => by cases hb) (fun b s hb => by cases hb) (fun b o x hb => by cases hb) ?_) hev (fun _ _ h => h)
      exact ⟨hpos, .inl ⟨by rw [valOf_put (by rw [s1.size]; exact hd), if_pos rfl], hr0, by simp⟩⟩
    · let M' : Nat → Prop := fun x => M1 x ∨ x = b
      have hblt := h6.lt
      have hev : Evo C.X M1 w M' w' := ⟨he.os, he.tape, he.output, he.size, fun x hx _ => he.same x hx, fun x hx hm => by
        rcases hm with hm | hm
        · exact hm
        · omega, fun x hx _ => he.same x hx, .of fun x hx => he.same x hx⟩
      have s2 : Sim C _ a w' ι β1 M' := s1.world hev (fun x hx => .inl hx) (fun x hx => by
          rcases hx with hx | hx
          · have := s1.lt x hx; have := he.size; omega
          · omega)
        (fun s x hs => he.same x (s1.lt x (s1.ctlB s x hs))) (fun o x y ho hi => he.same y (s1.lt y (s1.ctlO o x y ho hi)))
      refine hK.of e1 _ _ _ _ _ (s2.claim' (a' := a.put (some d) (.slice (some ⟨b, 0, none⟩) r.2.2.length cap)) (γ := γ) (bo := some b) (s1.ne_gs hd) (by rw [size_put]; exact s1.size) (by rw [defers_put]; exact s1.defs) (fun s hs' => by rw [valOf_put (by rw [s1.size]; exact hd), if_neg hs']) rfl (noref hg2 hU)
        (fun x hx => by injection hx with hx; exact .inr hx.symm) (fun x hx hX => by injection hx with hx; subst hx; have := s1.xlt _ hX; omega) (fun x s hx hs' => by injection hx with hx; subst hx; have := s1.lt _ (s1.ctlB s _ hs'); omega)
        (fun x o y hx hl hi => by injection hx with hx; subst hx; have := s1.lt _ (s1.ctlO o y _ hl hi); omega) ?_) hev (fun _ _ h => h)
      exact ⟨hpos, .inr ⟨b, cs, cap, by simp, by rw [valOf_put (by rw [s1.size]; exact hd), if_pos rfl], h3, h4, h5, h6⟩⟩
  · rename_i F hF
    simp only [Q.run] at hq2
    cases hE2 : E2 gs with
    | heap H nx =>
      rw [hE2] at hq2
      simp only at hq2
      obtain ⟨r, E3, h2, hq3⟩ := Q.run_bind_some hq2
      obtain ⟨hF', rfl⟩ := ofOpt_run h2
      have hl0 : ∀ t, live E3 t = H t := fun t => by simp [live, hE2]
      have hho : HeapOk w ι M1 H nx := by
        obtain ⟨H0, nx0, hE0, hn⟩ := s1.hp
        rw [hE2] at hE0; injection hE0 with _ hE0; subst hE0
        exact ⟨hn, fun o ob ho' => s1.objs o ob (by rw [hl0]; exact ho'), fun o o' x x' b h1 h2 => s1.injO o o' x x' b (by rw [hl0]; exact h1) (by rw [hl0]; exact h2), fun o x b h1 => s1.ctlO o x b (by rw [hl0]; exact h1)⟩
      obtain ⟨v, hrun, hv⟩ := hC.ext f F hF ads H nx r hF' w ι M1 (c.args.map a.eval) hho (by simp [hl]) hargs
      have hr : (execOp a.eval o).run P w = .ok (.value v) w := by
        rw [← hrun]
        simp [execOp, ho, resolve, hc, Act.eval, Deferred.ofValue, invoke]
      refine wp_value hr ?_
      rw [hdst]
      cases r with
      | a x =>
        have := set_run hq3
        subst this
        exact hK.of e1 _ _ _ _ _ (s1.put_v hd hv) (Evo.refl _ _) (fun _ _ h => h)
      | tup l =>
        have := set_run hq3
        subst this
        exact hK.of e1 _ _ _ _ _ (s1.put (av := .tup l) hd rfl (by simp only [Holds]; rw [s1.val_put hd]; exact hv)) (Evo.refl _ _) (fun _ _ h => h)
    | _ => rw [hE2] at hq2; cases hq2
  · exact enter_sound (vals := c.args.map a.eval) (fun hok => run_call_fn (a := a) (w := w) ho hc hok) hC s1 hd hdst (by simp [hl]) hargs hq2 (hK.of e1)
end
end Go.Proofs.YtmhinddneefmbaaGreat.Pe
