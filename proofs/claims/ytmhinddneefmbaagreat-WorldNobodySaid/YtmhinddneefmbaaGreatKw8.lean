/- A part of the proof of JbH. -/
import Derived.Maps.AppendAt
import Derived.Test.YtmhinddneefmbaaGreatKw7
set_option linter.unusedSimpArgs false
set_option linter.unusedVariables false
set_option linter.unusedSectionVars false
namespace Go.Proofs.YtmhinddneefmbaaGreat.Pe
open Go
section
variable {P : Program} {C : Ctx} {E E1 : Env} {a : Act} {w : World} {ι β : Nat → Option Nat} {M : Nat → Prop} {K : Act → World → Prop} {Qx : Exit → Act → World → Prop} {o : Oper} {d : Nat} {U : Nat → Prop} {γ : Nat}
theorem put_copy (h : Sim C E a w ι β M) (hd : d < C.nt) (hdst : o.dst = some d) {t : Nat} {av : AV} (hE : E t = av) (hnb : av.isBlk = false) (hnh : ∀ H nx, av ≠ .heap H nx) (hr : (execOp a.eval o).run P w = .ok (.value (valOf a t)) w)
    (hE1 : E1 = upd E d av) (hK : Then C E1 M w ι K) : o.wp P a w K Qx := by
  subst hE1
  refine wp_value hr ?_
  rw [hdst]
  have hh := h.hold t
  rw [hE] at hh
  refine hK _ _ _ _ _ (h.put hd hnb ?_) (Evo.refl _ _) (fun _ _ h => h)
  have hv := h.val_put hd (valOf a t)
  have hvo : ∀ s, s ≠ d → valOf (a.put (some d) (valOf a t)) s = valOf a s := fun s hs => by rw [valOf_put (by rw [h.size]; exact hd), if_neg hs]
  cases av with
  | junk => trivial
  | heap H nx => exact absurd rfl (hnh H nx)
  | v x => simp only [Holds]; rw [hv]; exact hh
  | tup l => simp only [Holds]; rw [hv]; exact hh
  | imm rows i off => simp only [Holds]; rw [hv]; exact hh
  | loc s g off =>
    intro xs ht
    by_cases e : s = d
    · subst e; rw [upd_same] at ht; cases ht
    · rw [upd_ne E _ e] at ht
      obtain ⟨b, h1, h2⟩ := hh xs ht
      exact ⟨b, by simp [unset, e, h1], by rw [hv]; exact h2⟩
  | oloc s g i off =>
    intro e' sz rows ht
    by_cases e : s = d
    · subst e; rw [upd_same] at ht; cases ht
    · rw [upd_ne E _ e] at ht
      obtain ⟨b, h1, h2⟩ := hh e' sz rows ht
      exact ⟨b, by simp [unset, e, h1], by rw [hv]; exact h2⟩
  | vw s g =>
    intro e' sz rows ht
    by_cases e : s = d
    · subst e; rfl
    · rw [upd_ne E _ e] at ht
      rw [hv, hvo s e]
      exact hh e' sz rows ht
  | box => cases hnb
  | own => cases hnb
theorem put_own (h : Sim C E a w ι β M) (hd : d < C.nt) (hdst : o.dst = some d) (hg : Gens E U) (hU : ¬ U γ) {s g e sz : Nat} {rows : List (List D)} (hE : E s = .own g e sz rows) (hr : (execOp a.eval o).run P w = .ok (.value (valOf a s)) w)
    (hE1 : E1 = upd (upd E s .junk) d (.own γ e sz rows)) (hK : Then C E1 M w ι K) : o.wp P a w K Qx := by
  subst hE1
  refine wp_value hr ?_
  rw [hdst]
  have hh := h.hold s
  rw [hE] at hh
  have hs : s ≠ gs := by
    rintro rfl
    obtain ⟨H, nx, hH, _⟩ := h.hp
    rw [hH] at hE; cases hE
  have hj := h.junk hs
  have hgj : Gens (upd E s .junk) U := fun t => by
    unfold upd; split
    · trivial
    · exact hg t
  have hv := h.val_put hd (valOf a s)
  refine hK _ _ _ _ _ (hj.claim' (a' := a.put (some d) (valOf a s)) (γ := γ) (bo := β s) (h.ne_gs hd) (by rw [size_put]; exact h.size) (by rw [defers_put]; exact h.defs) (fun t ht => by rw [valOf_put (by rw [h.size]; exact hd), if_neg ht]) rfl (noref hgj hU)
    (fun b hb => h.ctlB s b hb) (fun b hb => h.xB s b hb) (fun b t hb ht => ?_) (fun b o x hb hl hi => ?_) ?_) (Evo.refl _ _) (fun _ _ h => h)
  · unfold unset at ht
    split at ht
    · cases ht
    · rename_i hne; exact hne (h.injB t s b ht hb)
  · rw [live_upd E _ hs] at hl; exact h.disj o x s b hl hi hb
  · obtain ⟨hpos, hh⟩ := hh
    refine ⟨hpos, ?_⟩
    rcases hh with ⟨h1, h2, h3⟩ | ⟨b, cs, cap, h1, h2, h3⟩
    · exact .inl ⟨by rw [hv]; exact h1, h2, by simp [h3]⟩
    · exact .inr ⟨b, cs, cap, by simp [h1], by rw [hv]; exact h2, h3⟩
theorem op_mv {x : Operand} {asg : Bool} {ty : Nat} (hr : (execOp a.eval o).run P w = .ok (.value (a.eval x)) w) (h : Sim C E a w ι β M) (hd : d < C.nt) (hdst : o.dst = some d) (hg : Gens E U) (hU : ¬ U γ)
    (hq : (mv C γ d ty asg x).run E = some ((), E1)) (hK : Then C E1 M w ι K) : o.wp P a w K Qx := by
  cases x with
  | tmp t =>
    have hr' : (execOp a.eval o).run P w = .ok (.value (valOf a t)) w := hr
    simp only [mv, Q.run] at hq
    cases hE : E t with
    | junk => rw [hE] at hq; cases hq
    | heap => rw [hE] at hq; cases hq
    | v y => rw [hE] at hq; exact put_copy h hd hdst hE rfl (by simp) hr' (set_run hq) hK
    | tup y => rw [hE] at hq; exact put_copy h hd hdst hE rfl (by simp) hr' (set_run hq) hK
    | loc s g off => rw [hE] at hq; exact put_copy h hd hdst hE rfl (by simp) hr' (set_run hq) hK
    | oloc s g i off => rw [hE] at hq; exact put_copy h hd hdst hE rfl (by simp) hr' (set_run hq) hK
    | imm rows i off => rw [hE] at hq; exact put_copy h hd hdst hE rfl (by simp) hr' (set_run hq) hK
    | box g xs =>
      rw [hE] at hq
      have hh := h.hold t
      rw [hE] at hh
      obtain ⟨b, cs, T, h1, h2, _⟩ := hh
      refine put_place (p := .loc t g 0) h hd hdst (fun xs' _ => ⟨b, h1, h2⟩) hr' (set_run hq) hK
    | own g e sz rows =>
      rw [hE] at hq
      cases asg
      · have := set_run hq
        subst this
        refine wp_value hr' ?_
        rw [hdst]
        refine hK _ _ _ _ _ (h.put hd rfl ?_) (Evo.refl _ _) (fun _ _ h => h)
        intro e' sz' rows' ht
        by_cases htd : t = d
        · subst htd; rfl
        · rw [h.val_put hd, valOf_put (by rw [h.size]; exact hd), if_neg htd]
      · simp only [Q.run, if_true, Option.some.injEq, Prod.mk.injEq, true_and] at hq
        exact put_own h hd hdst hg hU hE hr' hq.symm hK
    | vw s g =>
      rw [hE] at hq
      have hh := h.hold t
      rw [hE] at hh
      cases asg
      · exact put_copy h hd hdst hE rfl (by simp) hr' (set_run hq) hK
      · simp only [if_true, Q.run] at hq
        cases hS : E s with
        | own g' e sz rows =>
          rw [hS] at hq
          simp only at hq
          split at hq
          · rename_i hgg; subst hgg
            simp only [Q.run, Option.some.injEq, Prod.mk.injEq, true_and] at hq
            have hv : valOf a t = valOf a s := hh e sz rows hS
            exact put_own h hd hdst hg hU hS (by rw [← hv]; exact hr') hq.symm hK
          · cases hq
        | _ => rw [hS] at hq; cases hq
  | const v =>
    have hr' : (execOp a.eval o).run P w = .ok (.value v) w := hr
    replace hq : (mvC C γ d ty asg v).run E = some ((), E1) := hq
    unfold mvC at hq
    split at hq
    · split at hq
      · split at hq
        · exact put_data h hd hdst (x := .one .nils) .nils hr' (set_run hq) hK
        split at hq
        · rename_i hk _ hpos
          have := set_run hq
          subst this
          refine wp_value hr' ?_
          rw [hdst]
          refine hK _ _ _ _ _ (h.claim' (a' := a.put (some d) _) (γ := γ) (bo := none) (h.ne_gs hd) (by rw [size_put]; exact h.size) (by rw [defers_put]; exact h.defs) (fun t ht => by rw [valOf_put (by rw [h.size]; exact hd), if_neg ht]) rfl (noref hg hU)
            (fun b hb => by cases hb) (fun b hb => by cases hb) (fun b s hb => by cases hb) (fun b o x hb => by cases hb) ?_) (Evo.refl _ _) (fun _ _ h => h)
          exact ⟨hpos.2, .inl ⟨h.val_put hd _, rfl, by simp⟩⟩
        · exact put_data h hd hdst (x := .one (.sl [])) (.nil _ _) hr' (set_run hq) hK
      · cases hq
    · obtain ⟨y, E2, h1, hq2⟩ := Q.run_bind_some hq
      obtain ⟨hc, rfl⟩ := ofOpt_run h1
      exact put_data h hd hdst (x := .one y) (cst_sound hc) hr' (set_run hq2) hK
  | func f => exact put_data h hd hdst (x := .one (.fn f)) (.fn f) hr (set_run hq) hK
  | global g => cases hq
theorem field_some {t : Nat} {fs : List (Nat × Nat)} (hl : layoutOf P t = some (fs.map fun x => (x.1, some x.2))) : ∃ fields, P.underlying t = some (.struct fields) ∧ ∀ (j : Nat) p, fs[j]? = some p → ∃ f i, fields[j]? = some f ∧ P.info? f.type = some i ∧ f.offset = p.1 ∧ i.size = p.2 := by
  unfold layoutOf at hl
  cases hu : P.underlying t with
  | none => rw [hu] at hl; cases hl
  | some dd =>
    rw [hu] at hl
    cases dd <;> first | (cases hl; done) | skip
    rename_i fields
    simp only [Option.some.injEq] at hl
    refine ⟨fields, rfl, fun j p hp => ?_⟩
    have hj := congrArg (fun l => l[j]?) hl
    simp only [List.getElem?_map, hp, Option.map_some] at hj
    cases hf : fields.toList[j]? with
    | none => rw [hf] at hj; cases hj
    | some f =>
      rw [hf] at hj
      simp only [Option.map_some, Option.some.injEq, Prod.mk.injEq] at hj
      cases hi : P.info? f.type with
      | none => rw [hi] at hj; exact absurd hj.2 (by simp)
      | some i =>
        rw [hi] at hj
        simp only [Option.map_some, Option.some.injEq] at hj
        exact ⟨f, i, by simpa using hf, hi, hj.1, hj.2⟩
theorem op_fieldAddr {t f : Nat} {x : Operand} (ho : o.op = .fieldAddr t x f) (h : Sim C E a w ι β M) (hd : d < C.nt) (hdst : o.dst = some d) (ht : C.tt t = dflt ∨ TyOk P t (C.tt t))
    (hq : (fieldAddrQ C d t f x).run E = some ((), E1)) (hK : Then C E1 M w ι K) : o.wp P a w K Qx := by
  unfold fieldAddrQ at hq
  split at hq
  · rename_i fs hk
    have hl : layoutOf P t = some (fs.map fun x => (x.1, some x.2)) := by
      rcases ht with ht | ht
      · rw [ht] at hk; cases hk
      · have := ht.und; rw [hk] at this; exact this
    split at hq
    · rename_i off sz hf
      split at hq
      · rename_i hpos
        obtain ⟨p, E2, h1, hq2⟩ := Q.run_bind_some hq
        obtain ⟨rfl, hp, ad, hv⟩ := addr_sound h h1
        obtain ⟨fields, hu, hfs⟩ := field_some hl
        obtain ⟨fd, i, h2, h3, h4, h5⟩ := hfs f _ hf
        refine put_place h hd hdst (hp.shift (n := off) hv) ?_ (set_run hq2) hK
        have hz : i.size ≠ 0 := by rw [h5]; simp; omega
        simp [execOp, ho, hv, Instr.fieldAt, run_underlying hu, h2, Instr.sureAddr, fieldPlace, run_sizeOf' h3, hz, h4]
      · cases hq
    · cases hq
  · cases hq
theorem ar_some {t n esz : Nat} (hl : arOf P t = some (n, some esz)) : ∃ e i, P.underlying t = some (.array n e) ∧ P.info? e = some i ∧ i.size = esz := by
  unfold arOf at hl
  cases hu : P.underlying t with
  | none => rw [hu] at hl; cases hl
  | some dd =>
    rw [hu] at hl
    cases dd <;> first | (cases hl; done) | skip
    rename_i m e
    simp only [Option.some.injEq, Prod.mk.injEq] at hl
    obtain ⟨rfl, h2⟩ := hl
    cases hi : P.info? e with
    | none => rw [hi] at h2; cases h2
    | some i => rw [hi] at h2; exact ⟨e, i, rfl, hi, by simpa using h2⟩
theorem sl_some {t e esz eb : Nat} {ez : List D} (hl : TkOk P t (.sl e esz eb ez)) : P.underlying t = some (.slice e) ∧ ∃ i z, P.info? e = some i ∧ i.size = esz ∧ i.bytes = eb ∧ i.zero = some z ∧ z.cells.toList = ez.map D.zv := by
  refine ⟨hl.1, ?_⟩
  have h2 := hl.2.1
  cases hi : P.info? e with
  | none => rw [hi] at h2; cases h2
  | some i =>
    rw [hi] at h2
    simp only [Option.map_some, Option.some.injEq, Prod.mk.injEq] at h2
    cases hz : i.zero with
    | none => rw [hz] at h2; exact absurd h2.2.2 (by simp)
    | some z => rw [hz] at h2; exact ⟨i, z, rfl, h2.1, h2.2.1, hz, by simpa using h2.2.2⟩
theorem run_indexAt_sl {t e : Nat} {i : TypeInfo} (hu : P.underlying t = some (.slice e)) (hi : P.info? e = some i) {ad : Addr} {len cap : Nat} {k : IntKind} {n : Int} (h0 : 0 ≤ n) (h1 : n < len) :
    (Instr.indexAt t (.slice (some ad) len cap) (.int k n)).run P w = .ok (.pointer (some (ad.add (n.toNat * i.size)))) w := by
  simp [Instr.indexAt, run_underlying hu, asIntOf, h0, h1, run_sizeOf' hi]
theorem run_indexAt_ar {t e m : Nat} {i : TypeInfo} (hu : P.underlying t = some (.array m e)) (hi : P.info? e = some i) {ad : Addr} {k : IntKind} {n : Int} (h0 : 0 ≤ n) (h1 : n < m) :
    (Instr.indexAt t (.pointer (some ad)) (.int k n)).run P w = .ok (.pointer (some (ad.add (n.toNat * i.size)))) w := by
  simp [Instr.indexAt, run_underlying hu, asIntOf, h0, h1, run_sizeOf' hi, Instr.sureAddr]
theorem op_indexAddr {t : Nat} {x ix : Operand} (ho : o.op = .indexAddr t x ix) (h : Sim C E a w ι β M) (hd : d < C.nt) (hdst : o.dst = some d) (ht : C.tt t = dflt ∨ TyOk P t (C.tt t))
    (hq : (indexAddrQ C d t x ix).run E = some ((), E1)) (hK : Then C E1 M w ι K) : o.wp P a w K Qx := by
  unfold indexAddrQ at hq
  obtain ⟨n', E2, h1, hq2⟩ := Q.run_bind_some hq
  obtain ⟨β1, M1, s1, e1, r1⟩ := opd_sound h h1
  obtain ⟨n, E3, h2, hq3⟩ := Q.run_bind_some hq2
  obtain ⟨hn, rfl⟩ := ofOpt_run h2
  rw [AD.int_some hn] at r1
  have hix := int_rd r1
  have hK1 := hK.of e1
  clear hq hq2 h1
  split at hq3
  · rename_i len esz ag hk
    have hl : arOf P t = some (len, some esz) := by
      rcases ht with ht | ht
      · rw [ht] at hk; cases hk
      · have := ht.und; rw [hk] at this; exact this.1
    obtain ⟨e, i, hu, hi, hsz⟩ := ar_some hl
    split at hq3
    · rename_i hb
      obtain ⟨p, E4, h3, hq4⟩ := Q.run_bind_some hq3
      obtain ⟨rfl, hp, ad, hv⟩ := addr_sound s1 h3
      refine put_place s1 hd hdst (hp.shift (n := n.2.toNat * esz) hv) ?_ (set_run hq4) hK1
      simp [execOp, ho, hix, hv, run_indexAt_ar hu hi hb.1 hb.2, hsz]
    · cases hq3
  · rename_i e esz eb ez hk
    have hl : TkOk P t (.sl e esz eb ez) := by
      rcases ht with ht | ht
      · rw [ht] at hk; cases hk
      · have := ht.und; rw [hk] at this; exact this
    obtain ⟨hu, i, z, hi, hsz, _, _, _⟩ := sl_some hl
    cases x with
    | tmp s =>
      have hh := s1.hold s
      simp only [Q.run] at hq3
      cases hE : E3 s with
      | own g e' sz rows =>
        rw [hE] at hq3 hh
        simp only at hq3
        split at hq3
        · rename_i hb
          obtain ⟨hb0, hb1, rfl⟩ := hb
          obtain ⟨_, hh⟩ := hh
          rcases hh with ⟨_, hn0, _⟩ | ⟨b, cs, cap, h3, h4, _⟩
          · subst hn0; simp at hb1; omega
          · have hv : a.eval (.tmp s) = .slice (some ⟨b, 0, none⟩) rows.length cap := h4
            refine put_place (p := .oloc s g n.2.toNat 0) s1 hd hdst (v := .pointer (some ⟨b, n.2.toNat * sz, none⟩)) (fun e2 sz2 rows2 hE2 => ?_) ?_ (set_run hq3) hK1
            · rw [hE] at hE2; injection hE2 with _ _ e3 _; subst e3; exact ⟨b, h3, by simp⟩
            · simp [execOp, ho, hix, hv, run_indexAt_sl hu hi hb0 hb1, hsz, addr_add]
        · cases hq3
      | vw s' g =>
        rw [hE] at hq3 hh
        simp only [Q.run] at hq3
        cases hS : E3 s' with
        | own g' e' sz rows =>
          rw [hS] at hq3
          simp only at hq3
          split at hq3
          · rename_i hb
            obtain ⟨rfl, hb0, hb1, rfl⟩ := hb
            have hval : valOf a s = valOf a s' := hh e' sz rows hS
            have hh' := s1.hold s'
            rw [hS] at hh'
            obtain ⟨_, hh'⟩ := hh'
            rcases hh' with ⟨_, hn0, _⟩ | ⟨b, cs, cap, h3, h4, _⟩
            · subst hn0; simp at hb1; omega
            · have hv : a.eval (.tmp s) = .slice (some ⟨b, 0, none⟩) rows.length cap := hval.trans h4
              refine put_place (p := .oloc s' g n.2.toNat 0) s1 hd hdst (v := .pointer (some ⟨b, n.2.toNat * sz, none⟩)) (fun e2 sz2 rows2 hE2 => ?_) ?_ (set_run hq3) hK1
              · rw [hS] at hE2; injection hE2 with _ _ e3 _; subst e3; exact ⟨b, h3, by simp⟩
              · simp [execOp, ho, hix, hv, run_indexAt_sl hu hi hb0 hb1, hsz, addr_add]
          · cases hq3
        | _ => rw [hS] at hq3; cases hq3
      | v y =>
        rw [hE] at hq3 hh
        cases y with
        | one dd =>
          cases dd with
          | sl rows =>
            simp only at hq3
            split at hq3
            · rename_i hb
              obtain ⟨r, E5, h3, hq4⟩ := Q.run_bind_some hq3
              obtain ⟨hr, rfl⟩ := ofOpt_run h3
              split at hq4
              · rename_i hrl
                have hrd : Rd w ι M1 (valOf a s) (.sl rows) := hh
                rcases hrd.imm with ⟨A, c, _, h5⟩ | ⟨ad, c, sz, h4, h5, h6, h7⟩
                · subst h5; simp at hr
                · have hv : a.eval (.tmp s) = .slice (some ad) rows.length c := h4
                  have hsz' : sz = esz := by rw [← h7.uni r (List.mem_of_getElem? hr), hrl]
                  subst hsz'
                  refine put_place (p := .imm rows n.2.toNat 0) s1 hd hdst (v := .pointer (some (ad.add (n.2.toNat * sz)))) ⟨ad, sz, h7, by simp⟩ ?_ (set_run hq4) hK1
                  simp [execOp, ho, hix, hv, run_indexAt_sl hu hi hb.1 hb.2, hsz]
              · cases hq4
            · cases hq3
          | ref ob sz i0 len =>
            simp only at hq3
            split at hq3
            · rename_i hb
              obtain ⟨hb0, hb1, rfl⟩ := hb
              have hrd : Rd w ι M1 (valOf a s) (.ref ob sz i0 len) := hh
              have : ∃ b c, ι ob = some b ∧ 0 < sz ∧ valOf a s = .slice (some ⟨b, i0 * sz, none⟩) len c := by
                generalize valOf a s = u at hrd
                cases hrd with
                | ref _ _ _ _ c b hb _ _ hz _ => exact ⟨b, c, hb, hz, rfl⟩
              obtain ⟨b, c, h5, hz5, h6⟩ := this
              have hv : a.eval (.tmp s) = .slice (some ⟨b, i0 * sz, none⟩) len c := h6
              refine put_data s1 hd hdst (x := .one (.ptr ob sz (i0 + n.2.toNat) 0)) (v := .pointer (some ⟨b, (i0 + n.2.toNat) * sz + 0, none⟩)) (.ptr _ _ _ _ _ h5 hz5) ?_ (set_run hq3) hK1
              simp [execOp, ho, hix, hv, run_indexAt_sl hu hi hb0 hb1, hsz, addr_add, Nat.add_mul]
            · cases hq3
          | _ => cases hq3
        | many => cases hq3
      | _ => rw [hE] at hq3; cases hq3
    | _ => cases hq3
  · cases hq3
end
end Go.Proofs.YtmhinddneefmbaaGreat.Pe
