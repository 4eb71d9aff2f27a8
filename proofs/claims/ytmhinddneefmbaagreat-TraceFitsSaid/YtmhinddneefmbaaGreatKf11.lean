/- A part of the proof of JdH. -/
import Derived.Lib.AppendZerosOnto
import Derived.Test.YtmhinddneefmbaaGreatKf10
set_option linter.unusedSimpArgs false
set_option linter.unusedVariables false
set_option linter.unusedSectionVars false
namespace Go.Proofs.YtmhinddneefmbaaGreat.Pe
open Go
section
variable {P : Program} {C : Ctx} {E E1 : Env} {a : Act} {w : World} {ι β : Nat → Option Nat} {M : Nat → Prop} {K : Act → World → Prop} {Qx : Exit → Act → World → Prop} {o : Oper} {d : Nat} {U : Nat → Prop} {γ : Nat}
theorem Src.mono {M' : Nat → Prop} {v : Value} {sz : Nat} {ys : List (List D)} (h : Src w ι M v sz ys) {X : Nat → Prop} (e : Evo X M w M' w) : Src w ι M' v sz ys := by
  obtain ⟨A, c', hv, hs⟩ := h
  refine ⟨A, c', hv, hs.imp_right ?_⟩
  rintro ⟨ad, hA, hrr⟩
  exact ⟨ad, hA, fun i j r x hr hx => let ⟨u, q1, q2⟩ := hrr i j r x hr hx; ⟨u, q1, q2.mono e.same e.back (fun _ _ h => h) e.shape⟩⟩
theorem Blk.over {b : Nat} {T : TypeId} {cs : Array Value} {sz : Nat} {rows zs : List (List D)} {us : List Value} (h : Blk w ι M b T cs sz rows) (hb : M b) {i : Nat} (hi : i + zs.length ≤ rows.length) (hz : ∀ r ∈ zs, r.length = sz) (hu : us.length = zs.length * sz)
    (hrd : ∀ (i j : Nat) r x, zs[i]? = some r → r[j]? = some x → ∃ u, us[i * sz + j]? = some u ∧ Rd w ι M u x) (hone : ∀ u ∈ us, u.oneCell' = true) :
    i * sz + us.length ≤ cs.size ∧ ∃ cs', Blk (rowSet w b cs (i * sz) us) ι M b T cs' sz (overRows rows zs i) := by
  have hfit : i * sz + us.length ≤ cs.size := by
    rw [hu, ← Nat.add_mul]
    exact Nat.le_trans (Nat.mul_le_mul_right _ hi) h.fit
  have hsz : (cs.toList.take (i * sz) ++ us ++ cs.toList.drop (i * sz + us.length)).toArray.size = cs.size := by simp; omega
  have he : Evo (fun _ => False) M w M (rowSet w b cs (i * sz) us) := rowSet_evo hb (fun h => h) _ _ _ (rowSet_shape h.at_ _ _ hfit)
  have hlen : (overRows rows zs i).length = rows.length := by simp [overRows]; omega
  refine ⟨hfit, _, setRow_heap w b cs _ T _ h.at_, h.pos, by rw [hsz, hlen]; exact h.fit, ?_, ?_, one_set h.one hone _ _⟩
  · intro r hr
    simp only [overRows, List.mem_append] at hr
    rcases hr with (hr | hr) | hr
    · exact h.uni r (List.mem_of_mem_take hr)
    · exact hz r hr
    · exact h.uni r (List.mem_of_mem_drop hr)
  · intro i' j r x hr hx
    unfold overRows at hr
    rw [seg_get rows zs i i' hi] at hr
    have hget := seg_get cs.toList us (i * sz) (i' * sz + j) (by simpa using hfit)
    simp only [List.getElem?_toArray]
    rw [hget]
    by_cases h1 : i' < i
    · rw [if_pos h1] at hr
      obtain ⟨v, hv, hrd'⟩ := h.rd i' j r x hr hx
      have hj : j < sz := by have := (List.getElem?_eq_some_iff.1 hx).1; have := h.uni r (List.mem_of_getElem? hr); omega
      have hlt : i' * sz + j < i * sz := by
        have : (i' + 1) * sz ≤ i * sz := Nat.mul_le_mul_right _ h1
        rw [Nat.add_mul] at this; omega
      exact ⟨v, by rw [if_pos hlt]; simpa using hv, hrd'.mono he.same he.back (fun _ _ h => h) he.shape⟩
    · rw [if_neg h1] at hr
      have hge : i * sz ≤ i' * sz := Nat.mul_le_mul_right _ (by omega)
      by_cases h2 : i' < i + zs.length
      · rw [if_pos h2] at hr
        obtain ⟨u, hu1, hu2⟩ := hrd (i' - i) j r x hr hx
        have hlt := (List.getElem?_eq_some_iff.1 hu1).1
        have e : (i' - i) * sz + j = i' * sz + j - i * sz := by rw [Nat.sub_mul]; omega
        rw [e] at hu1 hlt
        exact ⟨u, by rw [if_neg (by omega), if_pos (by omega)]; exact hu1, hu2.mono he.same he.back (fun _ _ h => h) he.shape⟩
      · rw [if_neg h2] at hr
        obtain ⟨v, hv, hrd'⟩ := h.rd i' j r x hr hx
        have hge2 : (i + zs.length) * sz ≤ i' * sz := Nat.mul_le_mul_right _ (by omega)
        rw [Nat.add_mul] at hge2
        exact ⟨v, by rw [if_neg (by omega), if_neg (by rw [hu]; omega)]; simpa using hv, hrd'.mono he.same he.back (fun _ _ h => h) he.shape⟩
theorem run_firstCells_zero (size : Nat) (A : Option Addr) (n c : Nat) : (Builtin.firstCells size 0 (.slice A n c)).run P w = .ok #[] w := by
  cases A with
  | none => simp [Builtin.firstCells]
  | some ad => exact run_firstCells_some (P := P) w size 0 ad n c [] (by simp) (fun j v h => by simp at h)
theorem overRows_nil (rows : List (List D)) (i : Nat) : overRows rows [] i = rows := by simp [overRows]
theorem Src.take {sz : Nat} {ys : List (List D)} {A : Option Addr} (h : ys = [] ∨ ∃ ad, A = some ad ∧ ∀ (i j : Nat) r x, ys[i]? = some r → r[j]? = some x → ∃ u, w.cell? (ad.add (i * sz + j)) = some u ∧ Rd w ι M u x) (m : Nat) (hy : 0 < ys.length) :
    ∃ ad, A = some ad ∧ ∀ (i j : Nat) r x, (ys.take m)[i]? = some r → r[j]? = some x → ∃ u, w.cell? (ad.add (i * sz + j)) = some u ∧ Rd w ι M u x := by
  rcases h with h | ⟨ad, hA, h⟩
  · subst h; simp at hy
  · refine ⟨ad, hA, fun i j r x hr hx => ?_⟩
    rw [List.getElem?_take] at hr
    split at hr
    · exact h i j r x hr hx
    · cases hr
theorem op_copy {c : Call} {t : TypeId} {x y : Operand} (ho : o.op = .call c) (hc : c.callee = .builtin .copy) (ha : c.args = #[x, y]) (hat : c.argTypes = #[t, t]) (hC : C.Ok P) (h : Sim C E a w ι β M) (hd : d < C.nt) (hdst : o.dst = some d)
    (hq : (copyQ C d t x y).run E = some ((), E1)) (hK : Then C E1 M w ι K) : o.wp P a w K Qx := by
  have hrun := run_call_builtin (a := a) ho hc
  rw [ha, hat] at hrun
  unfold copyQ at hq
  obtain ⟨b, E2, h1, hq2⟩ := Q.run_bind_some hq
  obtain ⟨β1, M1, s1, e1, r1⟩ := opd_sound h h1
  obtain ⟨ys, E3, h2, hq3⟩ := Q.run_bind_some hq2
  clear hq hq2
  split at hq3
  · rename_i e esz eb ez hk
    obtain ⟨hut, i0, z0, hi0, hsz0, _⟩ := sl_some (tk_of (hC.tt t) hk (by simp))
    split at hq3
    · rename_i hcond
      obtain ⟨hu, hpos⟩ := hcond
      obtain ⟨rfl, hsrc⟩ := rowsOf_sound s1 r1 h2 hu
      obtain ⟨xv, E4, h3, hq4⟩ := Q.run_bind_some hq3
      clear hq3
      obtain ⟨β2, M2, s2, e2, r2⟩ := opd_sound s1 h3
      have hsrc2 := hsrc.mono e2
      obtain ⟨A, cy, hvy, hsy⟩ := hsrc2
      have hyu : ∀ r ∈ ys, r.length = esz := fun r hr => by simpa using List.all_eq_true.1 hu r hr
      have r2 := r2.weak
      split at hq4
      · rename_i hwk
        rw [hwk] at r2
        have hrd : Rd w ι M2 (a.eval x) (.sl []) := r2
        have : ∃ A' c', a.eval x = .slice A' 0 c' := by
          rcases hrd.imm with ⟨A', c', h, _⟩ | ⟨_, _, _, _, h, _⟩
          · exact ⟨A', c', h⟩
          · simp at h
        obtain ⟨A', c', hvx⟩ := this
        refine put_data s2 hd hdst (x := .one (.int .i64 0)) (v := .int .i64 0) (.int _ _) ?_ (set_run hq4) ((hK.of e1).of e2)
        rw [hrun]
        have hf := run_firstCells_zero (P := P) (w := w) i0.size A ys.length cy
        have hz := run_sizeOf' hi0 w
        cases A' <;> simp [builtin, Builtin.copy_, run_underlying hut, hvx, hvy, Builtin.lenOf, hz, hf, goInt, storeCells]
      · rename_i ob sz i n hwk
        rw [hwk] at r2
        simp only [Q.run] at hq4
        cases hG : E4 gs with
        | heap H nx =>
          rw [hG] at hq4
          simp only at hq4
          obtain ⟨pb, E5, h4, hq5⟩ := Q.run_bind_some hq4
          obtain ⟨hH, rfl⟩ := ofOpt_run h4
          split at hq5
          · rename_i hcnd
            obtain ⟨c2, c3, c4⟩ := hcnd
            subst c3
            simp only [Q.run, Option.some.injEq, Prod.mk.injEq, true_and] at hq5
            have hrd : Rd w ι M2 (a.eval x) (.ref ob sz i n) := r2
            obtain ⟨b0, cap, k1, k2, k3, k4, k5, cs, T, k6, k7⟩ := ref_rd hrd
            have hlo : live E5 ob = some pb := by simp [live, hG, hH]
            obtain ⟨b1, k8, k9⟩ := s2.objs ob pb hlo
            rw [k1] at k8; injection k8 with k8; subst k8
            obtain ⟨T', cs', k10, k11⟩ := k9.blk (by omega)
            rw [c2] at k11
            have hMb : M2 b0 := s2.ctlO ob pb b0 hlo k1
            have hXb : ¬ C.X b0 := s2.xO ob pb b0 hlo k1
            have hz := run_sizeOf' hi0
            by_cases hm : min ys.length n = 0
            · have hnil : ys.take n = [] := by
                apply List.eq_nil_of_length_eq_zero
                rw [List.length_take]; omega
              have hr : (execOp a.eval o).run P w = .ok (.value (.int .i64 0)) w := by
                rw [hrun]
                have hm' : Nat.min ys.length n = 0 := hm
                have hf := run_firstCells_zero (P := P) (w := w) i0.size A ys.length cy
                simp [builtin, Builtin.copy_, run_underlying hut, k2, hvy, Builtin.lenOf, hz, hm', hf, goInt, storeCells]
              rw [hnil, overRows_nil, hm] at hq5
              have s3 := s2.storedO (w' := w) hG hH k1 (Evo.refl _ _) (fun _ _ => rfl) (ob := ⟨pb.e, pb.sz, pb.rows⟩) (.inr ⟨T', cs', k10, by rw [c2]; exact k11⟩)
              subst hq5
              refine wp_value hr ?_
              rw [hdst]
              exact hK _ _ _ _ _ (s3.put_v hd (x := .one (.int .i64 _)) (.int _ _)) (e1.trans e2) (fun _ _ h => h)
            · obtain ⟨ad, hA, hs2⟩ := Src.take hsy n (by omega)
              subst hA
              obtain ⟨news, n1, n2, n3, n4⟩ := flat_news hpos (fun r hr => hyu r (List.mem_of_mem_take hr)) hs2
              have hlt : (ys.take n).length = min ys.length n := by rw [List.length_take]; omega
              obtain ⟨f1, cs2, f2⟩ := k11.over hMb (i := i) (zs := ys.take n) (us := news) (by rw [hlt]; omega) (fun r hr => hyu r (List.mem_of_mem_take hr)) n1 n4 n3
              have hev := rowSet_evo (w := w) hMb hXb cs' (i * sz) news (rowSet_shape k11.at_ _ _ f1)
              have hst := run_storeCells_at P b0 (i * sz) T' news 0 cs' w k11.at_ (by simpa using f1) n3
              simp only [Nat.add_zero] at hst
              have hr : (execOp a.eval o).run P w = .ok (.value (.int .i64 (min ys.length n : Nat))) (rowSet w b0 cs' (i * sz) news) := by
                rw [hrun]
                have hf := run_firstCells_some (P := P) w i0.size (min ys.length n) ad ys.length cy news (by rw [n1, hlt, hsz0]) n2
                have hf' : (Builtin.firstCells i0.size (Nat.min ys.length n) (.slice (some ad) ys.length cy)).run P w = .ok news.toArray w := hf
                simp [builtin, Builtin.copy_, run_underlying hut, k2, hvy, Builtin.lenOf, hz, hf', goInt, hst, rowSet]
              have s3 := s2.storedO hG hH k1 hev (fun k hk => setRow_other w b0 k _ hk) (ob := ⟨pb.e, pb.sz, overRows pb.rows (ys.take n) i⟩) (.inr ⟨T', cs2, k10, by rw [c2]; exact f2⟩)
              subst hq5
              refine wp_value hr ?_
              rw [hdst]
              exact hK _ _ _ _ _ (s3.put_v hd (x := .one (.int .i64 _)) (.int _ _)) ((e1.trans e2).trans hev) (fun _ _ h => h)
          · cases hq5
        | _ => rw [hG] at hq4; cases hq4
      · cases hq4
    · cases hq3
  · cases hq3
theorem op_eqz {op : BinOp} {t u : TypeId} {x y : Operand} {k : EK} (ho : o.op = .binOp op t x y u) (hC : C.Ok P) (ht : C.eqz t = some k) (h : Sim C E a w ι β M) (hd : d < C.nt) (hdst : o.dst = some d)
    (hq : (eqZQ (C.eqz t) d op x y).run E = some ((), E1)) (hK : Then C E1 M w ι K) : o.wp P a w K Qx := by
  unfold eqZQ at hq
  obtain ⟨x', E2, h1, hq2⟩ := Q.run_bind_some hq
  obtain ⟨β1, M1, s1, e1, r1⟩ := opd_sound h h1
  obtain ⟨y', E3, h2, hq3⟩ := Q.run_bind_some hq2
  obtain ⟨β2, M2, s2, e2, r2⟩ := opd_sound s1 h2
  obtain ⟨r, E4, h3, hq4⟩ := Q.run_bind_some hq3
  obtain ⟨hr, rfl⟩ := ofOpt_run h3
  rw [ht] at hr
  have r1' : RdA w ι M2 (a.eval x) x' := r1.mono e2 (fun _ _ h => h)
  obtain ⟨k1, k2, k3⟩ := hC.eqz t k ht w ι M2 _ _ _ _ _ r1' r2 hr
  split at hq4
  · exact put_data s2 hd hdst (x := .one (.bool r)) (.bool _) (by simp [execOp, ho, k3, k1]) (set_run hq4) ((hK.of e1).of e2)
  · exact put_data s2 hd hdst (x := .one (.bool !r)) (.bool _) (by simp [execOp, ho, k3, k2]) (set_run hq4) ((hK.of e1).of e2)
  · cases hq4
theorem op_eq {op : BinOp} {t u : TypeId} {x y : Operand} (ho : o.op = .binOp op t x y u) (hC : C.Ok P) (ht : C.eqs t = true) (h : Sim C E a w ι β M) (hd : d < C.nt) (hdst : o.dst = some d)
    (hq : (eqQ (C.tt t).eqn d op x y).run E = some ((), E1)) (hK : Then C E1 M w ι K) : o.wp P a w K Qx := by
  unfold eqQ at hq
  obtain ⟨x', E2, h1, hq2⟩ := Q.run_bind_some hq
  obtain ⟨β1, M1, s1, e1, r1⟩ := opd_sound h h1
  obtain ⟨y', E3, h2, hq3⟩ := Q.run_bind_some hq2
  obtain ⟨β2, M2, s2, e2, r2⟩ := opd_sound s1 h2
  obtain ⟨r, E4, h3, hq4⟩ := Q.run_bind_some hq3
  obtain ⟨hr, rfl⟩ := ofOpt_run h3
  have r1' : RdA w ι M2 (a.eval x) x' := r1.mono e2 (fun _ _ h => h)
  split at hr
  rotate_left
  · cases hr
  rename_i hfit
  obtain ⟨k1, k2, k3⟩ := hC.eqs t ht w ι M2 _ _ _ _ _ r1' r2 hfit hr
  split at hq4
  · exact put_data s2 hd hdst (x := .one (.bool r)) (.bool _) (by simp [execOp, ho, k3, k1]) (set_run hq4) ((hK.of e1).of e2)
  · exact put_data s2 hd hdst (x := .one (.bool !r)) (.bool _) (by simp [execOp, ho, k3, k2]) (set_run hq4) ((hK.of e1).of e2)
  · cases hq4
theorem run_call_val {c : Call} {t f : Nat} {caps : Array Value} (ho : o.op = .call c) (hc : c.callee = .value (.tmp t)) (hv : a.eval (.tmp t) = .func (.func f) #[] caps) (hf : calleeOk P f = true) : (execOp a.eval o).run P w = .ok (.enter f (c.args.map a.eval ++ caps)) w := by
  unfold calleeOk at hf
  cases hfn : P.funcs[f]? with
  | none => rw [hfn] at hf; cases hf
  | some fn =>
    rw [hfn] at hf
    simp only [Bool.and_eq_true, bne_iff_ne, ne_eq] at hf
    obtain ⟨b, hb⟩ := Option.isSome_iff_exists.1 hf.2
    simp [execOp, ho, resolve, hc, hv, Deferred.ofValue, invoke, callFunc, hfn, hf.1, hb]
theorem op_callV {c : Call} {t : Nat} (ho : o.op = .call c) (hc : c.callee = .value (.tmp t)) (hC : C.Ok P) (h : Sim C E a w ι β M) (hd : d < C.nt) (hdst : o.dst = some d)
    (hq : (callVQ C d t c.args.toList).run E = some ((), E1)) (hK : Then C E1 M w ι K) : o.wp P a w K Qx := by
  unfold callVQ at hq
  obtain ⟨fv, E2, h1, hq2⟩ := Q.run_bind_some hq
  obtain ⟨β1, M1, s1, e1, r1⟩ := data_sound h h1
  obtain ⟨ads, E3, h2, hq3⟩ := Q.run_bind_some hq2
  obtain ⟨β2, M2, s2, e2, hl, r2⟩ := opds_sound s1 h2
  have r1' : RdA w ι M2 (valOf a t) fv := r1.mono e2 (fun _ _ h => h)
  have hargs : ∀ (j : Nat) v x, (c.args.map a.eval)[j]? = some v → ads[j]? = some x → RdA w ι M2 v x := by
    intro j v x hv hx
    rw [Array.getElem?_map] at hv
    cases hj : c.args[j]? with
    | none => rw [hj] at hv; cases hv
    | some y =>
      rw [hj] at hv
      simp only [Option.map_some, Option.some.injEq] at hv
      subst hv
      exact r2 j y x (by simpa using hj) hx
  split at hq3
  · rename_i f
    have hv : a.eval (.tmp t) = .func (.func f) #[] #[] := by
      have hr : Rd w ι M2 (valOf a t) (.fn f) := r1'
      show valOf a t = _
      generalize valOf a t = u at hr
      cases hr; rfl
    exact enter_sound (vals := c.args.map a.eval) (fun hok => by rw [run_call_val ho hc hv hok, Array.append_empty]) hC s2 hd hdst (by simp [hl]) hargs hq3 ((hK.of e1).of e2)
  · rename_i f caps
    have hv : ∃ cs : Array Value, a.eval (.tmp t) = .func (.func f) #[] cs ∧ cs.size = caps.length ∧ ∀ (j : Nat) v d, cs[j]? = some v → caps[j]? = some d → Rd w ι M2 v d := by
      have hr : Rd w ι M2 (valOf a t) (.clo f caps) := r1'
      show ∃ cs, valOf a t = _ ∧ _
      generalize valOf a t = u at hr
      cases hr with
      | clo _ cs _ hn hr => exact ⟨cs, rfl, hn, hr⟩
    obtain ⟨cs, hv, hn, hr⟩ := hv
    refine enter_sound (vals := c.args.map a.eval ++ cs) (fun hok => run_call_val ho hc hv hok) hC s2 hd hdst (by simp [hl, hn]) (fun j v x hv hx => ?_) hq3 ((hK.of e1).of e2)
    have hsz : (c.args.map a.eval).size = ads.length := by simp [hl]
    rcases Nat.lt_or_ge j ads.length with hj | hj
    · rw [Array.getElem?_append_left (by omega)] at hv
      rw [List.getElem?_append_left hj] at hx
      exact hargs j v x hv hx
    · rw [Array.getElem?_append_right (by omega), hsz] at hv
      rw [List.getElem?_append_right hj, List.getElem?_map] at hx
      cases hd : caps[j - ads.length]? with
      | none => rw [hd] at hx; cases hx
      | some dd =>
        rw [hd] at hx
        simp only [Option.map_some, Option.some.injEq] at hx
        subst hx
        exact hr _ v dd hv hd
  · cases hq3
theorem ones_some : ∀ {l : List AD} {ds : List D}, ones l = some ds → l = ds.map .one
  | [], ds, h => by simp only [ones, Option.some.injEq] at h; subst h; rfl
  | .one d :: l, ds, h => by
    simp only [ones] at h
    cases hl : ones l with
    | none => rw [hl] at h; cases h
    | some r => rw [hl] at h; simp only [Option.map_some, Option.some.injEq] at h; subst h; rw [ones_some hl]; rfl
  | .many _ :: _, ds, h => by cases h
theorem op_makeFunc {f : Nat} {fs caps : Array Operand} (ho : o.op = .makeFunc (.func f) fs caps) (hfs : fs.size = 0) (h : Sim C E a w ι β M) (hd : d < C.nt) (hdst : o.dst = some d)
    (hq : ((opds caps.toList).bind fun ads => (ofOpt (ones ads)).bind fun ds => .set d (.v (.one (.clo f ds))) (.ret ()) : Q Unit).run E = some ((), E1)) (hK : Then C E1 M w ι K) : o.wp P a w K Qx := by
  have hfs' : fs = #[] := Array.eq_empty_of_size_eq_zero hfs
  subst hfs'
  obtain ⟨ads, E2, h1, hq2⟩ := Q.run_bind_some hq
  obtain ⟨β1, M1, s1, e1, hl, r1⟩ := opds_sound h h1
  obtain ⟨ds, E3, h2, hq3⟩ := Q.run_bind_some hq2
  obtain ⟨hds, rfl⟩ := ofOpt_run h2
  have := ones_some hds
  subst this
  refine put_data s1 hd hdst (x := .one (.clo f ds)) (v := .func (.func f) #[] (caps.map a.eval)) (.clo f _ ds (by simpa using hl.symm) ?_) (by simp [execOp, ho, Instr.makeFunc]) (set_run hq3) (hK.of e1)
  intro j v x hv hx
  rw [Array.getElem?_map] at hv
  cases hj : caps[j]? with
  | none => rw [hj] at hv; cases hv
  | some y =>
    rw [hj] at hv
    simp only [Option.map_some, Option.some.injEq] at hv
    subst hv
    exact r1 j y (.one x) (by simpa using hj) (by simp [hx])
theorem isSl_some {k : TK} (h : k.isSl = true) : ∃ e esz eb ez, k = .sl e esz eb ez := by
  cases k with
  | sl e esz eb ez => exact ⟨e, esz, eb, ez, rfl⟩
  | _ => cases h
theorem refc_rd {v : Value} {o sz i n c : Nat} (h : Rd w ι M v (.refc o sz i n c)) : ∃ b, ι o = some b ∧ v = .slice (some ⟨b, i * sz, none⟩) n c ∧ n ≤ c ∧ c ≤ maxLen ∧ 0 < sz ∧ ∃ cs T, w.heap[b]? = some (.cells cs T (0, 0)) ∧ (i + c) * sz = cs.size := by
  cases h with
  | refc _ _ _ _ _ b hb h1 h2 h3 h4 => exact ⟨b, hb, rfl, h1, h2, h3, h4⟩
theorem op_cap {c : Call} {t : TypeId} {x : Operand} (ho : o.op = .call c) (hc : c.callee = .builtin .cap) (ha : c.args = #[x]) (hat : c.argTypes = #[t]) (hk : (C.tt t).k.isSl = true) (hC : C.Ok P) (h : Sim C E a w ι β M) (hd : d < C.nt) (hdst : o.dst = some d)
    (hq : (capQ d x).run E = some ((), E1)) (hK : Then C E1 M w ι K) : o.wp P a w K Qx := by
  have hrun := run_call_builtin (a := a) ho hc
  rw [ha, hat] at hrun
  obtain ⟨e, esz, eb, ez, hk⟩ := isSl_some hk
  have hut := (sl_some (tk_of (hC.tt t) hk (by simp))).1
  unfold capQ at hq
  obtain ⟨b, E2, h1, hq2⟩ := Q.run_bind_some hq
  obtain ⟨β1, M1, s1, e1, r1⟩ := opd_sound h h1
  split at hq2
  · rename_i ob sz i n cc
    obtain ⟨b0, _, hv, _⟩ := refc_rd (show Rd w ι M1 (a.eval x) (.refc ob sz i n cc) from r1)
    exact put_data s1 hd hdst (x := .one (.int .i64 cc)) (v := .int .i64 cc) (.int _ _) (by rw [hrun]; simp [builtin, Builtin.cap_, hv, run_underlying hut, goInt]) (set_run hq2) (hK.of e1)
  · have hv : a.eval x = .slice none 0 0 := by
      have hr : Rd w ι M1 (a.eval x) .nils := r1
      generalize a.eval x = u at hr; cases hr; rfl
    exact put_data s1 hd hdst (x := .one (.int .i64 0)) (v := .int .i64 0) (.int _ _) (by rw [hrun]; simp [builtin, Builtin.cap_, hv, run_underlying hut, goInt]) (set_run hq2) (hK.of e1)
  · cases hq2
theorem op_clear {c : Call} {t : TypeId} {x : Operand} (ho : o.op = .call c) (hc : c.callee = .builtin .clear) (ha : c.args = #[x]) (hat : c.argTypes = #[t]) (hk : (C.tt t).k.isSl = true) (hC : C.Ok P) (h : Sim C E a w ι β M) (hdst : o.dst = none)
    (hq : (clearQ x).run E = some ((), E1)) (hK : Then C E1 M w ι K) : o.wp P a w K Qx := by
  have hrun := run_call_builtin (a := a) ho hc
  rw [ha, hat] at hrun
  obtain ⟨e, esz, eb, ez, hk⟩ := isSl_some hk
  have hut := (sl_some (tk_of (hC.tt t) hk (by simp))).1
  unfold clearQ at hq
  obtain ⟨b, E2, h1, hq2⟩ := Q.run_bind_some hq
  obtain ⟨β1, M1, s1, e1, r1⟩ := opd_sound h h1
  have fin : (∃ A cc, a.eval x = .slice A 0 cc) → E1 = E2 → o.wp P a w K Qx := by
    rintro ⟨A, cc, hv⟩ rfl
    have hr : (execOp a.eval o).run P w = .ok (.value (.tuple #[])) w := by
      rw [hrun]
      cases A <;> simp [builtin, Builtin.clear_, hv, run_underlying hut]
    refine wp_value hr ?_
    rw [hdst]
    exact hK.of e1 _ _ _ _ _ s1 (Evo.refl _ _) (fun _ _ h => h)
  split at hq2
  · obtain ⟨_, rfl⟩ := ret_run hq2
    refine fin ?_ rfl
    rcases (show Rd w ι M1 (a.eval x) (.sl []) from r1).imm with ⟨A, cc, hv, _⟩ | ⟨_, _, _, _, hp, _⟩
    · exact ⟨A, cc, hv⟩
    · simp at hp
  · obtain ⟨_, rfl⟩ := ret_run hq2
    refine fin ?_ rfl
    have hr : Rd w ι M1 (a.eval x) .nils := r1
    generalize a.eval x = u at hr
    cases hr
    exact ⟨_, _, rfl⟩
  · rename_i ob sz i cc
    obtain ⟨_, rfl⟩ := ret_run hq2
    obtain ⟨b0, _, hv, _⟩ := refc_rd (show Rd w ι M1 (a.eval x) (.refc ob sz i 0 cc) from r1)
    exact fin ⟨_, _, hv⟩ rfl
  · cases hq2
theorem Blk.take {b : Nat} {T : TypeId} {cs : Array Value} {sz : Nat} {rows : List (List D)} (h : Blk w ι M b T cs sz rows) (n : Nat) : Blk w ι M b T cs sz (rows.take n) :=
  ⟨h.at_, h.pos, Nat.le_trans (Nat.mul_le_mul_right _ (by rw [List.length_take]; omega)) h.fit, fun r hr => h.uni r (List.mem_of_mem_take hr), (fun i j r d hr hd => by
    rw [List.getElem?_take] at hr
    split at hr
    · exact h.rd i j r d hr hd
    · cases hr), h.one⟩
theorem trim_sound {x ob n sz ix c : Nat} (h : Sim C E a w ι β M) (hix : ix = 0) (hx : x < C.nt) (hE : E x = .v (.one (.refc ob sz ix n c))) (hq : (trimQ x ob n sz).run E = some ((), E1)) : Sim C E1 a w ι (unset β x) M := by
  subst hix
  simp only [trimQ, Q.run] at hq
  cases hG : E gs with
  | heap H nx =>
    rw [hG] at hq
    simp only at hq
    obtain ⟨pb, E2, h4, hq2⟩ := Q.run_bind_some hq
    obtain ⟨hH, rfl⟩ := ofOpt_run h4
    split at hq2
    · rename_i hc
      simp only [Q.run, Option.some.injEq, Prod.mk.injEq, true_and] at hq2
      have hh := h.hold x
      rw [hE] at hh
      have hrd : Rd w ι M (valOf a x) (.refc ob sz 0 n c) := hh
      obtain ⟨b0, k1, k2, k3, k4, k5, _⟩ := refc_rd hrd
      obtain ⟨b1, k8, k9⟩ := h.objs ob pb (by simp [live, hG, hH])
      rw [k1] at k8; injection k8 with k8; subst k8
      obtain ⟨T', cs', k10, k11⟩ := k9.blk (by omega)
      have s3 := h.storedO (w' := w) hG hH k1 (Evo.refl _ _) (fun _ _ => rfl) (ob := ⟨pb.e, pb.sz, pb.rows.take n⟩) (.inr ⟨T', cs', k10, k11.take n⟩)
      have hw : RdA w ι M (valOf a x) (.one (.ref ob sz 0 n)) := RdA.weak (a := .one (.refc ob sz 0 n c)) hrd
      have := s3.put' (a' := a) (av := .v (.one (.ref ob sz 0 n))) (h.ne_gs hx) h.size h.defs (fun _ _ => rfl) rfl hw
      subst hq2
      exact this
    · cases hq2
  | _ => rw [hG] at hq; cases hq
theorem op_appendZ {c : Call} {t u : TypeId} {x : Nat} {y : Operand} {ob sz ix n cc : Nat} (ho : o.op = .call c) (hc : c.callee = .builtin .append) (ha : c.args = #[.tmp x, y]) (hat : c.argTypes = #[t, u]) (hk : (C.tt u).k.isInt = true) (hC : C.Ok P) (h : Sim C E a w ι β M) (hd : d < C.nt) (hdst : o.dst = some d)
    (hx : E x = .v (.one (.refc ob sz ix n cc))) (hq : (appendZQ C d t ob sz ix n cc y).run E = some ((), E1)) (hK : Then C E1 M w ι K) : o.wp P a w K Qx := by
  have hrun := run_call_builtin (a := a) ho hc
  rw [ha, hat] at hrun
  have hku : ∃ k, (C.tt u).k = .int k := by
    cases hh : (C.tt u).k with
    | int k => exact ⟨k, rfl⟩
    | _ => rw [hh] at hk; cases hk
  obtain ⟨ku, hku⟩ := hku
  have huu : P.underlying u = some (.int ku) := tk_of (hC.tt u) hku (by simp)
  have hh := h.hold x
  rw [hx] at hh
  unfold appendZQ at hq
  obtain ⟨b, E2, h1, hq2⟩ := Q.run_bind_some hq
  obtain ⟨β1, M1, s1, e1, r1⟩ := opd_sound h h1
  have hrd : Rd w ι M1 (valOf a x) (.refc ob sz ix n cc) := Rd.mono (show Rd w ι M (valOf a x) _ from hh) e1.same e1.back (fun _ _ h => h) e1.shape
  obtain ⟨k, E3, h2, hq3⟩ := Q.run_bind_some hq2
  obtain ⟨hb, rfl⟩ := ofOpt_run h2
  have hy : a.eval y = .int k.1 k.2 := by
    unfold AD.int? at hb
    split at hb
    · injection hb with hb
      subst hb
      rename_i kk nn
      have hr : Rd w ι M1 (a.eval y) (.int kk nn) := r1
      generalize a.eval y = q at hr
      cases hr; rfl
    · cases hb
  split at hq3
  · rename_i e esz eb ez hkt
    obtain ⟨hut, i, z, hi, hs, hby, hz, hzc⟩ := sl_some (tk_of (hC.tt t) hkt (by simp))
    have hezz : ez.all D.isZ = true := (tk_of (hC.tt t) hkt (by simp)).2.2.1
    simp only [Q.run] at hq3
    cases hG : E3 gs with
    | heap H nx =>
      rw [hG] at hq3
      simp only at hq3
      obtain ⟨pb, E4, h4, hq5⟩ := Q.run_bind_some hq3
      obtain ⟨hH, rfl⟩ := ofOpt_run h4
      split at hq5
      · rename_i hcnd
        obtain ⟨c1, c2, c3, c4, c5, c6, c7, c8, c9⟩ := hcnd
        subst c2; subst c4
        simp only [Q.run, Option.some.injEq, Prod.mk.injEq, true_and] at hq5
        obtain ⟨b0, k1, k2, k3, k4, k5, _⟩ := refc_rd hrd
        obtain ⟨b1, k8, k9⟩ := s1.objs ob pb (by simp [live, hG, hH])
        rw [k1] at k8; injection k8 with k8; subst k8
        obtain ⟨T', cs', k10, k11⟩ := k9.blk (by omega)
        rw [c1] at k11
        obtain ⟨kn, hkn⟩ : ∃ kn : Nat, k.2 = kn := ⟨k.2.toNat, by omega⟩
        rw [hkn] at hq5 c7 c8 c9 hy
        simp only [Int.toNat_natCast] at hq5
        have hnr : n * sz ≤ cs'.size := Nat.le_trans (Nat.mul_le_mul_right _ c5) k11.fit
        have hzs : z.cells.size = sz := by rw [← Array.length_toList, hzc, List.length_map]; exact c6
        have hbz : (n + kn) * (eb + 1) ≤ 70368744177664 := by
          apply Int.ofNat_le.1
          rw [Int.natCast_mul, Int.natCast_add, Int.natCast_add]
          exact c9
        have hne : (n + kn) * eb ≤ 70368744177664 := Nat.le_trans (Nat.mul_le_mul_left _ (Nat.le_succ eb)) hbz
        have hn1 : n + kn ≤ 70368744177664 := by
          have : (n + kn) * 1 ≤ (n + kn) * (eb + 1) := Nat.mul_le_mul_left _ (by omega)
          omega
        have hke : kn * eb ≤ 70368744177664 := Nat.le_trans (Nat.mul_le_mul_right _ (by omega)) hne
        have hf := run_firstCells_some (P := P) w.drew i.size n ⟨b0, 0, none⟩ n cc (cs'.toList.take (n * sz)) (by rw [hs]; simp; omega) (fun j v hj => by
          rw [List.getElem?_take] at hj
          split at hj
          · rw [addr_add rfl]
            simp only [World.cell?, show w.drew.heap[b0]? = _ from k11.at_]
            simpa using hj
          · cases hj)
        have hrn := Lib.run_append_grow_zeros (P := P) w t u o.type e i z k.1 ku hut huu hi hz (some ⟨b0, 0, none⟩) n cc _ hf kn (by omega) (by rw [hs]; exact k5) (by omega) (by omega) (by rw [hby]; omega) (growslice_fits (by omega) (by rw [hby]; omega))
        have hval : a.eval (.tmp x) = .slice (some ⟨b0, 0, none⟩) n cc := by
          show valOf a x = _
          rw [k2, Nat.zero_mul]
        have hr : (execOp a.eval o).run P w = .ok (.value (.slice (some ⟨w.heap.size, 0, none⟩) (n + kn) (grownCap w (n + kn) cc e))) (w.drew.alloc (.cells ((cs'.toList.take (n * sz)).toArray ++ Builtin.zeroCells z.cells kn ++ Builtin.zeroCells z.cells (grownCap w (n + kn) cc e - (n + kn))) e)) := by
          rw [hrun]
          have e2 : (#[Operand.tmp x, y].map a.eval) = #[.slice (some ⟨b0, 0, none⟩) n cc, .int k.1 kn] := by simp [hval, hy]
          rw [e2]
          simp [builtin, hrn]
        refine wp_value hr ?_
        rw [hdst]
        have hge := grownCap_ge w (n + kn) cc e
        have hgl := grownCap_le_maxLen w (n + kn) cc e (by unfold maxLen; omega)
        generalize grownCap w (n + kn) cc e = g at *
        have hzl : z.cells = (ez.map D.zv).toArray := by rw [← hzc]
        have hZ : Builtin.zeroCells z.cells kn = (Array.range (kn * ez.length)).map ((ez.map D.zv).toArray[· % (ez.map D.zv).toArray.size]!) := by unfold Builtin.zeroCells; rw [hzl]; simp
        have hra := zero_rows (w := w) (ι := ι) (M := M1) ez hezz (by omega) kn
        rw [← hZ, c6] at hra
        have hzone : ∀ v ∈ z.cells.toList, v.oneCell' = true := by rw [hzc]; exact (zv_rdl hezz w ι M1).one'
        have hAsz : (cs'.toList.take (n * sz)).toArray.size = n * sz := by simp; omega
        have hZsz : (Builtin.zeroCells z.cells kn).size = kn * sz := by unfold Builtin.zeroCells; rw [Array.size_map, Array.size_range, hzs]
        have hZsz2 : (Builtin.zeroCells z.cells (g - (n + kn))).size = (g - (n + kn)) * sz := by unfold Builtin.zeroCells; rw [Array.size_map, Array.size_range, hzs]
        generalize hcl : (cs'.toList.take (n * sz)).toArray ++ Builtin.zeroCells z.cells kn ++ Builtin.zeroCells z.cells (g - (n + kn)) = cl at *
        have hclsz : cl.size = g * sz := by
          rw [← hcl, Array.size_append, Array.size_append, hAsz, hZsz, hZsz2, ← Nat.add_mul, ← Nat.add_mul]
          congr 1; omega
        have hsame : ∀ b, b < w.heap.size → (w.drew.alloc (.cells cl e)).heap[b]? = w.heap[b]? := fun b hb => Go.RowKit.Below.heap_alloc w.drew _ b hb
        have hat0 : (w.drew.alloc (.cells cl e)).heap[w.heap.size]? = some (.cells cl e (0, 0)) := heap_alloc_new w.drew _
        have hev : Evo C.X M1 w (fun b => M1 b ∨ b = w.heap.size) (w.drew.alloc (.cells cl e)) := ⟨rfl, rfl, rfl, by have := (Array.getElem?_eq_some_iff.1 hat0).1; omega, fun b hb _ => hsame b hb, fun b hb hm => by
          rcases hm with hm | hm
          · exact hm
          · omega, fun b hb _ => hsame b hb, .of hsame⟩
        have s4 : Sim C E4 a (w.drew.alloc (.cells cl e)) ι β1 (fun b => M1 b ∨ b = w.heap.size) := s1.world hev (fun b hb => .inl hb) (fun b hb => by
            have := (Array.getElem?_eq_some_iff.1 hat0).1
            rcases hb with hb | hb
            · have := s1.lt b hb; omega
            · omega)
          (fun t b ht => hsame b (s1.lt b (s1.ctlB t b ht))) (fun o' x' b hl hi => hsame b (s1.lt b (s1.ctlO o' x' b hl hi)))
        have hblk : Blk (w.drew.alloc (.cells cl e)) ι (fun b => M1 b ∨ b = w.heap.size) w.heap.size e cl sz (pb.rows.take n ++ List.replicate kn ez) := by
          refine ⟨hat0, k5, ?_, ?_, ?_, ?_⟩
          · rw [hclsz, List.length_append, List.length_replicate, List.length_take]
            exact Nat.mul_le_mul_right _ (by omega)
          · intro r hr
            rcases List.mem_append.1 hr with h | h
            · exact k11.uni r (List.mem_of_mem_take h)
            · rw [(List.mem_replicate.1 h).2]; exact c6
          · intro i' j r d' hr hd'
            have hntl : (pb.rows.take n).length = n := by rw [List.length_take]; omega
            have hi'l : i' < n + kn := by have := (List.getElem?_eq_some_iff.1 hr).1; simpa [hntl] using this
            by_cases hlo : i' < n
            · rw [List.getElem?_append_left (by omega), List.getElem?_take, if_pos hlo] at hr
              obtain ⟨v, hv, hrd2⟩ := k11.rd i' j r d' hr hd'
              have hj : j < sz := by have := (List.getElem?_eq_some_iff.1 hd').1; have := k11.uni r (List.mem_of_getElem? hr); omega
              have hlt : i' * sz + j < n * sz := by
                have : (i' + 1) * sz ≤ n * sz := Nat.mul_le_mul_right _ hlo
                rw [Nat.add_mul] at this; omega
              refine ⟨v, ?_, hrd2.mono hev.same hev.back (fun _ _ h => h) hev.shape⟩
              rw [← hcl, Array.append_assoc, Array.getElem?_append_left (by rw [hAsz]; exact hlt)]
              simp only [List.getElem?_toArray, List.getElem?_take, if_pos hlt]
              simpa using hv
            · rw [List.getElem?_append_right (by omega), hntl] at hr
              obtain ⟨v, hv, hrd2⟩ := hra.rd (i' - n) j r d' hr hd'
              have hlt2 := (List.getElem?_eq_some_iff.1 hv).1
              have hge2 : n * sz ≤ i' * sz := Nat.mul_le_mul_right _ (by omega)
              have e3 : i' * sz + j - n * sz = (i' - n) * sz + j := by rw [Nat.sub_mul]; omega
              simp only [Array.length_toList] at hlt2
              refine ⟨v, ?_, hrd2.mono hev.same hev.back (fun _ _ h => h) hev.shape⟩
              rw [← hcl, Array.getElem?_append_left (by rw [Array.size_append, hAsz]; omega), Array.getElem?_append_right (by rw [hAsz]; omega), hAsz, e3]
              simpa using hv
          · rw [← hcl]
            intro v hv
            simp only [Array.toList_append, List.mem_append] at hv
            rcases hv with (hv | hv) | hv
            · exact k11.one v (List.mem_of_mem_take hv)
            · exact zero_one hzone v hv
            · exact zero_one hzone v hv
        have s5 := s4.newObj (b := w.heap.size) (ob := ⟨some e, sz, pb.rows.take n ++ List.replicate kn ez⟩) hG (.inr ⟨e, cl, (fun _ h => by injection h), hblk⟩) (.inr rfl)
          (fun hx => Nat.lt_irrefl _ (s1.xlt _ hx)) (fun s hs => Nat.lt_irrefl _ (s1.lt _ (s1.ctlB s _ hs))) (fun o' x' hl hi => Nat.lt_irrefl _ (s1.lt _ (s1.ctlO o' x' _ hl hi)))
        have hrd' : Rd (w.drew.alloc (.cells cl e)) (setI ι nx w.heap.size) (fun b => M1 b ∨ b = w.heap.size) (.slice (some ⟨w.heap.size, 0, none⟩) (n + kn) g) (.ref nx sz 0 (n + kn)) := by
          have := Rd.ref (w := w.drew.alloc (.cells cl e)) (ι := setI ι nx w.heap.size) (M := fun b => M1 b ∨ b = w.heap.size) nx sz 0 (n + kn) g w.heap.size (by simp [setI]) hge hgl k5 ⟨cl, e, hat0, by rw [hclsz, Nat.zero_add]⟩
          simpa using this
        have s6 := s5.put_v hd (x := .one (.ref nx sz 0 (n + kn))) hrd'
        subst hq5
        exact hK.of e1 _ _ _ _ _ s6 hev (setI_mono (b := w.heap.size) s1 hG)
      · cases hq5
    | _ => rw [hG] at hq3; cases hq3
  · cases hq3
end
end Go.Proofs.YtmhinddneefmbaaGreat.Pe
