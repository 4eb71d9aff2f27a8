/- A part of the proof of JdH. -/
import Derived.Test.YtmhinddneefmbaaGreatKf7
set_option linter.unusedSimpArgs false
set_option linter.unusedVariables false
set_option linter.unusedSectionVars false
namespace Go.Proofs.YtmhinddneefmbaaGreat.Pe
open Go
section
variable {P : Program} {C : Ctx} {E E1 : Env} {a : Act} {w : World} {ι β : Nat → Option Nat} {M : Nat → Prop} {K : Act → World → Prop} {Qx : Exit → Act → World → Prop} {o : Oper} {d : Nat} {U : Nat → Prop} {γ : Nat}
structure RowsAt (w : World) (ι : Nat → Option Nat) (M : Nat → Prop) (cs : List Value) (sz : Nat) (rows : List (List D)) : Prop where
  fit : rows.length * sz = cs.length
  uni : ∀ r ∈ rows, r.length = sz
  rd : ∀ (i j : Nat) r d, rows[i]? = some r → r[j]? = some d → ∃ v, cs[i * sz + j]? = some v ∧ Rd w ι M v d
theorem RowsAt.blk {w' : World} {M' : Nat → Prop} {cs : List Value} {sz : Nat} {rows : List (List D)} (h : RowsAt w ι M cs sz rows) {X : Nat → Prop} (he : Evo X M w M' w') (hpos : 0 < sz) {b : Nat} {T : TypeId} {ca : Array Value} (hca : ca.toList = cs) (hb : w'.heap[b]? = some (.cells ca T (0, 0))) :
    Blk w' ι M' b T ca sz rows := by
  subst hca
  refine ⟨hb, hpos, by have := h.fit; simp only [Array.length_toList] at this; omega, h.uni, fun i j r d hr hd => ?_, cover_one (by have := h.fit; omega) hpos h.uni h.rd⟩
  obtain ⟨v, hv, hrd⟩ := h.rd i j r d hr hd
  exact ⟨v, by simpa using hv, hrd.mono he.same he.back (fun _ _ h => h) he.shape⟩
theorem RowsAt.set {cs : List Value} {sz : Nat} {rows : List (List D)} (h : RowsAt w ι M cs sz rows) {i : Nat} (hi : i < rows.length) {us : List Value} {vs : List D} (hu : RdL w ι M us vs) (hl : vs.length = sz) :
    RowsAt w ι M (cs.take (i * sz) ++ us ++ cs.drop (i * sz + us.length)) sz (rows.set i vs) := by
  have hul : us.length = sz := hu.1.trans hl
  have hfit : i * sz + us.length ≤ cs.length := by
    have h1 : (i + 1) * sz ≤ rows.length * sz := Nat.mul_le_mul_right _ hi
    have := h.fit
    rw [Nat.add_mul] at h1; omega
  refine ⟨?_, ?_, ?_⟩
  · have := h.fit
    simp only [List.length_set, List.length_append, List.length_take, List.length_drop]
    omega
  · intro r hr
    rcases List.mem_or_eq_of_mem_set hr with h1 | h1
    · exact h.uni r h1
    · rw [h1, hl]
  · intro i' j r x hr hx
    rw [seg_get cs us (i * sz) _ hfit]
    by_cases hii : i' = i
    · subst hii
      rw [List.getElem?_set_self hi] at hr
      injection hr with hr; subst hr
      have hj : j < us.length := by have := (List.getElem?_eq_some_iff.1 hx).1; omega
      rw [if_neg (by omega), if_pos (by omega), show i' * sz + j - i' * sz = j by omega]
      exact ⟨us[j], List.getElem?_eq_getElem hj, hu.2 j _ x (List.getElem?_eq_getElem hj) hx⟩
    · rw [List.getElem?_set_ne (fun e => hii e.symm)] at hr
      have hj : j < sz := by have := (List.getElem?_eq_some_iff.1 hx).1; have := h.uni r (List.mem_of_getElem? hr); omega
      obtain ⟨v, hv, hrd⟩ := h.rd i' j r x hr hx
      refine ⟨v, ?_, hrd⟩
      rcases row_ne (sz := sz) (off := 0) (n := us.length) hii hj (by omega) with h1 | h1
      · rw [if_pos (by omega)]; exact hv
      · rw [if_neg (by omega), if_neg (by omega)]; exact hv
theorem fold_set (off : Nat) : ∀ (us : List Value) (k : Nat) (cells : Array Value), off + k + us.length ≤ cells.size →
    ((us.zipIdx k).foldl (fun cs (x : Value × Nat) => cs.setIfInBounds (off + x.2) x.1) cells).toList = cells.toList.take (off + k) ++ us ++ cells.toList.drop (off + k + us.length)
  | [], k, cells, _ => by simp
  | u :: us, k, cells, h => by
    have ih := fold_set off us (k + 1) (cells.setIfInBounds (off + k) u) (by simp at h ⊢; omega)
    simp only [List.zipIdx_cons, List.foldl_cons]
    rw [ih]
    have e := list_seg_step cells.toList (off + k) u us (by simp at h ⊢; omega)
    simp only [Array.toList_setIfInBounds, List.length_cons]
    rw [← Nat.add_assoc off k 1, show off + k + 1 + us.length = off + k + 1 + us.length from rfl]
    exact e
theorem fill_cells (off : Nat) (v : Value) (cells : Array Value) (h : off + v.cells.size ≤ cells.size) :
    (v.cells.zipIdx.foldl (fun cs (x : Value × Nat) => cs.setIfInBounds (off + x.2) x.1) cells).toList = cells.toList.take off ++ v.cells.toList ++ cells.toList.drop (off + v.cells.toList.length) := by
  have := fold_set off v.cells.toList 0 cells (by simpa using h)
  simp only [Nat.add_zero] at this
  rw [← this, ← Array.foldl_toList, Array.toList_zipIdx]
theorem splice_rdl {us : List Value} {ds : List D} {cs : List Value} {xs : List D} (hc : RdL w ι M cs xs) (hu : RdL w ι M us ds) {off : Nat} (h : off + ds.length ≤ xs.length) : RdL w ι M (cs.take off ++ us ++ cs.drop (off + us.length)) (splice xs off ds) := by
  have h1 : off + us.length ≤ cs.length := by rw [hu.1, hc.1]; exact h
  refine ⟨?_, fun j v x hv hx => ?_⟩
  · rw [splice_length _ _ _ h, ← hc.1]; simp; omega
  · rw [seg_get cs us off j h1] at hv
    unfold splice at hx
    rw [seg_get xs ds off j h] at hx
    rw [hu.1] at hv
    split at hv
    · rename_i h2; rw [if_pos h2] at hx; exact hc.2 j v x hv hx
    · rename_i h2
      rw [if_neg h2] at hx
      split at hv
      · rename_i h3; rw [if_pos h3] at hx; exact hu.2 _ v x hv hx
      · rename_i h3; rw [if_neg h3] at hx; exact hc.2 j v x hv hx
theorem fill_sound (place : Nat → Option (Nat × Nat)) : ∀ (ps : List (Nat × List D)) (vs : List (Nat × Value)) (cells : Array Value) (ds ds' : List D), ps.length = vs.length →
    (∀ (j : Nat) x y, vs[j]? = some x → ps[j]? = some y → y.1 = x.1 ∧ RdL w ι M x.2.cells.toList y.2) → RdL w ι M cells.toList ds → fillD place ds ps = some ds' →
    ∃ cells', Instr.fill place cells vs = some cells' ∧ RdL w ι M cells'.toList ds'
  | [], [], cells, ds, ds', _, _, hc, hf => by
    simp only [fillD, Option.some.injEq] at hf; subst hf; exact ⟨cells, rfl, hc⟩
  | [], _ :: _, _, _, _, h, _, _, _ => by cases h
  | _ :: _, [], _, _, _, h, _, _, _ => by cases h
  | (i, p) :: ps, (i', v) :: vs, cells, ds, ds', hl, hp, hc, hf => by
    obtain ⟨h1, h2⟩ := hp 0 _ _ rfl rfl
    simp only at h1 h2
    subst h1
    simp only [fillD] at hf
    simp only [Instr.fill]
    cases hpl : place i with
    | none => rw [hpl] at hf; cases hf
    | some os =>
      obtain ⟨off, size⟩ := os
      rw [hpl] at hf
      simp only at hf ⊢
      split at hf
      · rename_i hb
        obtain ⟨hb1, hb2⟩ := hb
        have hvs : v.cells.size = size := by rw [← hb1, ← h2.1]; simp
        have hcs : cells.size = ds.length := by rw [← hc.1]; simp
        have hg : (decide (v.cells.size ≠ size) || decide (off + v.cells.size > cells.size)) = false := by
          simp [hvs]; omega
        rw [if_neg (by rw [hg]; simp)]
        refine fill_sound place ps vs _ (splice ds off p) ds' (by simpa using hl) (fun j x y hx hy => hp (j + 1) x y hx hy) ?_ hf
        rw [fill_cells off v cells (by omega)]
        exact splice_rdl hc h2 (by rw [hb1]; exact hb2)
      · cases hf
theorem run_mapM_layout : ∀ (fields : List Field) (fs : List (Nat × Nat)), (fields.map fun f => (f.offset, (P.info? f.type).map (·.size))) = (fs.map fun x => (x.1, some x.2)) →
    (fields.mapM fun f => (do pure (f.offset, ← sizeOf f.type) : Sem (Nat × Nat))).run P w = .ok fs w
  | [], [], _ => rfl
  | [], _ :: _, h => by cases h
  | _ :: _, [], h => by cases h
  | f :: fields, x :: fs, h => by
    simp only [List.map_cons, List.cons.injEq, Prod.mk.injEq] at h
    obtain ⟨⟨h1, h2⟩, h3⟩ := h
    have ih := run_mapM_layout fields fs h3
    cases hi : P.info? f.type with
    | none => rw [hi] at h2; cases h2
    | some i =>
      rw [hi] at h2
      simp only [Option.map_some, Option.some.injEq] at h2
      simp only [List.mapM_cons, Sem.run_bind, run_sizeOf' hi, Result.andThen_ok, Sem.run_pure, ih]
      rw [h1, h2]
theorem op_build {t : Nat} {ps : Array (Nat × Operand)} (ho : o.op = .build t ps) (hC : C.Ok P) (h : Sim C E a w ι β M) (hd : d < C.nt) (hdst : o.dst = some d)
    (hq : ((parts ps.toList).bind fun ps => match (C.tt t).k with
      | .st fs => (ofOpt (fillD (fun j => fs[j]?) (C.tt t).zero ps)).bind fun cs => .set d (.v (.many cs)) (.ret ())
      | .ar _ esz _ => (ofOpt (fillD (fun j => some (j * esz, esz)) (C.tt t).zero ps)).bind fun cs => .set d (.v (.many cs)) (.ret ())
      | _ => .fail : Q Unit).run E = some ((), E1)) (hK : Then C E1 M w ι K) : o.wp P a w K Qx := by
  obtain ⟨qs, E2, h1, hq2⟩ := Q.run_bind_some hq
  obtain ⟨β1, M1, s1, e1, hl, r1⟩ := parts_sound h h1
  have hvs : ∀ (j : Nat) x y, (ps.toList.map fun p => (p.1, a.eval p.2))[j]? = some x → qs[j]? = some y → y.1 = x.1 ∧ RdL w ι M1 x.2.cells.toList y.2 := by
    intro j x y hx hy
    rw [List.getElem?_map] at hx
    cases hj : ps.toList[j]? with
    | none => rw [hj] at hx; cases hx
    | some p =>
      rw [hj] at hx
      simp only [Option.map_some, Option.some.injEq] at hx
      subst hx
      exact r1 j p y hj hy
  split at hq2
  · rename_i fs hk
    have hl0 := tk_of (hC.tt t) hk (by simp)
    have ht : TyOk P t (C.tt t) := by
      rcases hC.tt t with ht | ht
      · rw [ht] at hk; cases hk
      · exact ht
    obtain ⟨i, z, hi, hs, hz, hzc⟩ := info_of ht
    obtain ⟨cs, E3, h2, hq3⟩ := Q.run_bind_some hq2
    obtain ⟨hf, rfl⟩ := ofOpt_run h2
    obtain ⟨fields, hu, _⟩ := field_some hl0
    have hlay : (fields.toList.map fun f => (f.offset, (P.info? f.type).map (·.size))) = (fs.map fun x => (x.1, some x.2)) := by
      have := hl0
      simp only [TkOk, layoutOf, hu, Option.some.injEq] at this
      exact this
    obtain ⟨cells', hc1, hc2⟩ := fill_sound (w := w) (ι := ι) (M := M1) (fun j => fs[j]?) qs _ z.cells _ _ (by rw [hl]; simp) hvs (by rw [hzc]; exact zv_rdl ht.isz w ι M1) hf
    refine put_data s1 hd hdst (x := .many cs) (v := .agg cells') ⟨cells', rfl, hc2⟩ ?_ (set_run hq3) (hK.of e1)
    have hm : (fields.mapM fun f => (do pure (f.offset, ← sizeOf f.type) : Sem (Nat × Nat))).run P w = .ok fs.toArray w := by
      rw [Array.mapM_eq_mapM_toList]
      simp only [Sem.run_map, run_mapM_layout fields.toList fs hlay, Result.andThen_ok]
    have hfun : (fun j : Nat => fs.toArray[j]?) = fun j : Nat => fs[j]? := by funext j; simp
    simp only [execOp, ho, Instr.build, Sem.run_bind, run_zeroValue' hi hz, Result.andThen_ok, run_underlying hu, hm, Array.toList_map, hfun, hc1, Sem.run_pure]
  · rename_i n esz ag hk
    have hl0 := (tk_of (hC.tt t) hk (by simp)).1
    have ht : TyOk P t (C.tt t) := by
      rcases hC.tt t with ht | ht
      · rw [ht] at hk; cases hk
      · exact ht
    obtain ⟨i, z, hi, hs, hz, hzc⟩ := info_of ht
    obtain ⟨cs, E3, h2, hq3⟩ := Q.run_bind_some hq2
    obtain ⟨hf, rfl⟩ := ofOpt_run h2
    obtain ⟨e, ie, hu, hie, hse⟩ := ar_some hl0
    obtain ⟨cells', hc1, hc2⟩ := fill_sound (w := w) (ι := ι) (M := M1) (fun j => some (j * esz, esz)) qs _ z.cells _ _ (by rw [hl]; simp) hvs (by rw [hzc]; exact zv_rdl ht.isz w ι M1) hf
    refine put_data s1 hd hdst (x := .many cs) (v := .agg cells') ⟨cells', rfl, hc2⟩ ?_ (set_run hq3) (hK.of e1)
    simp only [execOp, ho, Instr.build, Sem.run_bind, run_zeroValue' hi hz, Result.andThen_ok, run_underlying hu, run_sizeOf' hie, hse, Array.toList_map, hc1, Sem.run_pure]
  · cases hq2
theorem zero_rows (zs : List D) (hz : zs.all D.isZ = true) (hpos : 0 < zs.length) (n : Nat) :
    RowsAt w ι M ((Array.range (n * zs.length)).map ((zs.map D.zv).toArray[· % (zs.map D.zv).toArray.size]!)).toList zs.length (List.replicate n zs) := by
  refine ⟨by simp, fun r hr => by rw [(List.mem_replicate.1 hr).2], fun i j r x hr hx => ?_⟩
  have hi : i < n := by have := (List.getElem?_eq_some_iff.1 hr).1; simpa using this
  have hr' : r = zs := by
    rw [List.getElem?_replicate] at hr
    simp [hi] at hr
    exact hr.symm
  subst hr'
  have hj : j < r.length := (List.getElem?_eq_some_iff.1 hx).1
  have hlt : i * r.length + j < n * r.length := by
    have : (i + 1) * r.length ≤ n * r.length := Nat.mul_le_mul_right _ hi
    rw [Nat.add_mul] at this; omega
  have hmod : (i * r.length + j) % r.length = j := by rw [Nat.mul_comm, Nat.mul_add_mod]; exact Nat.mod_eq_of_lt hj
  refine ⟨r[j].zv, ?_, ?_⟩
  · rw [Array.getElem?_toList, Array.getElem?_map, Array.getElem?_range, if_pos hlt]
    simp [hmod, hj]
  · have : x = r[j] := by rw [List.getElem?_eq_getElem hj] at hx; injection hx with hx; exact hx.symm
    subst this
    exact zv_rd (List.all_eq_true.1 hz _ (List.getElem_mem hj)) _ _ _
theorem fillRows_sound (esz : Nat) : ∀ (ps : List (Nat × List D)) (vs : List (Nat × Value)) (cells : Array Value) (rows rows' : List (List D)), ps.length = vs.length →
    (∀ (j : Nat) x y, vs[j]? = some x → ps[j]? = some y → y.1 = x.1 ∧ RdL w ι M x.2.cells.toList y.2) → RowsAt w ι M cells.toList esz rows → cells.size = rows.length * esz → fillRows esz rows ps = some rows' →
    ∃ cells', Instr.fill (fun i => some (i * esz, esz)) cells vs = some cells' ∧ RowsAt w ι M cells'.toList esz rows' ∧ cells'.size = rows'.length * esz ∧ rows'.length = rows.length
  | [], [], cells, rows, rows', _, _, hc, hs, hf => by
    simp only [fillRows, Option.some.injEq] at hf; subst hf; exact ⟨cells, rfl, hc, hs, rfl⟩
  | [], _ :: _, _, _, _, h, _, _, _, _ => by cases h
  | _ :: _, [], _, _, _, h, _, _, _, _ => by cases h
  | (i, p) :: ps, (i', v) :: vs, cells, rows, rows', hl, hp, hc, hs, hf => by
    obtain ⟨h1, h2⟩ := hp 0 _ _ rfl rfl
    simp only at h1 h2
    subst h1
    simp only [fillRows] at hf
    simp only [Instr.fill]
    split at hf
    · rename_i hb
      obtain ⟨hb1, hb2⟩ := hb
      have hvs : v.cells.size = esz := by rw [← hb1, ← h2.1]; simp
      have hle : i * esz + esz ≤ cells.size := by
        have : (i + 1) * esz ≤ rows.length * esz := Nat.mul_le_mul_right _ hb2
        rw [Nat.add_mul] at this; omega
      have hg : (decide (v.cells.size ≠ esz) || decide (i * esz + v.cells.size > cells.size)) = false := by
        simp [hvs]; omega
      rw [if_neg (by rw [hg]; simp)]
      have hfc := fill_cells (i * esz) v cells (by omega)
      have hset := hc.set hb2 h2 hb1
      rw [← hfc] at hset
      obtain ⟨cells', f1, f2, f3, f4⟩ := fillRows_sound esz ps vs _ (rows.set i p) rows' (by simpa using hl) (fun j x y hx hy => hp (j + 1) x y hx hy) hset (by
        rw [← Array.length_toList, hfc]; simp; omega) hf
      exact ⟨cells', f1, f2, f3, by rw [f4]; simp⟩
    · cases hf
theorem op_buildSlice {t n : Nat} {ps : Array (Nat × Operand)} (ho : o.op = .buildSlice t n ps) (hC : C.Ok P) (h : Sim C E a w ι β M) (hd : d < C.nt) (hdst : o.dst = some d) (hg : Gens E U) (hU : ¬ U γ)
    (hq : ((parts ps.toList).bind fun ps => match (C.tt t).k with
      | .sl e esz _ ez => if 0 < esz ∧ n * esz ≤ 16777216 ∧ ez.length = esz then (ofOpt (fillRows esz (List.replicate n ez) ps)).bind fun rows => .set d (.own γ e esz rows) (.ret ()) else .fail
      | _ => .fail : Q Unit).run E = some ((), E1)) (hK : Then C E1 M w ι K) : o.wp P a w K Qx := by
  obtain ⟨qs, E2, h1, hq2⟩ := Q.run_bind_some hq
  obtain ⟨β1, M1, s1, e1, hl, r1⟩ := parts_sound h h1
  have hg2 : Gens E2 U := ((parts_gen ps.toList).run hg h1).1
  have hvs : ∀ (j : Nat) x y, (ps.toList.map fun p => (p.1, a.eval p.2))[j]? = some x → qs[j]? = some y → y.1 = x.1 ∧ RdL w ι M1 x.2.cells.toList y.2 := by
    intro j x y hx hy
    rw [List.getElem?_map] at hx
    cases hj : ps.toList[j]? with
    | none => rw [hj] at hx; cases hx
    | some p =>
      rw [hj] at hx
      simp only [Option.map_some, Option.some.injEq] at hx
      subst hx
      exact r1 j p y hj hy
  split at hq2
  · rename_i e esz eb ez hk
    have hl0 := tk_of (hC.tt t) hk (by simp)
    obtain ⟨hu, i, z, hi, hs, _, hz, hzc⟩ := sl_some hl0
    split at hq2
    · rename_i hb
      obtain ⟨hb1, hb2, hb3⟩ := hb
      obtain ⟨rows, E3, h2, hq3⟩ := Q.run_bind_some hq2
      obtain ⟨hf, rfl⟩ := ofOpt_run h2
      have hez : ez.all D.isZ = true := hl0.2.2.1
      have hzr := zero_rows (w := w) (ι := ι) (M := M1) ez hez (by omega) n
      rw [hb3] at hzr
      have hzcell : z.cells = (ez.map D.zv).toArray := by rw [← hzc]
      obtain ⟨cells', f1, f2, f3, f4⟩ := fillRows_sound (w := w) (ι := ι) (M := M1) esz qs _ _ (List.replicate n ez) rows (by rw [hl]; simp) hvs hzr (by simp) hf
      have hrl : rows.length = n := by rw [f4]; simp
      have hrun : (execOp a.eval o).run P w = .ok (.value (.slice (some ⟨w.heap.size, 0, none⟩) n n)) (w.alloc (.cells cells' e)) := by
        have hsm : ¬ (n * esz > 2 ^ 24) := by omega
        have hr0 : Array.range 0 = #[] := rfl
        by_cases hn : n * esz = 0
        · rw [hn, hr0, Array.map_empty] at f1
          simp only [execOp, ho, Instr.buildSlice, Sem.run_bind, run_underlying hu, Result.andThen_ok, run_sizeOf' hi, hs, hn, if_true, Sem.run_pure, hr0, Array.map_empty, Array.toList_map, f1, newRow, run_newObj, World.alloc_eq, Nat.reducePow, Nat.not_lt_zero, gt_iff_lt, if_false]
        · simp only [execOp, ho, Instr.buildSlice, Sem.run_bind, run_underlying hu, Result.andThen_ok, run_sizeOf' hi, hs, if_neg hsm, if_neg hn, run_zeroValue' hi hz, Sem.run_pure, hzcell, Array.toList_map, f1, newRow, run_newObj, World.alloc_eq]
      have hfin := set_run hq3
      refine put_new (γ := γ) s1 hd hdst hg2 hU rfl (fun M' he hb' => ?_) hrun hfin (hK.of e1)
      refine ⟨hb1, .inr ⟨w.heap.size, cells', n, by simp, by simp [hrl], by omega, ?_, by rw [f3, hrl], f2.blk he hb1 rfl hb'⟩⟩
      have : n * 1 ≤ n * esz := Nat.mul_le_mul_left _ hb1
      unfold maxLen; omega
    · cases hq2
  · cases hq2
theorem op_makeSlice {t : Nat} {l c : Operand} (ho : o.op = .makeSlice t l c) (hC : C.Ok P) (h : Sim C E a w ι β M) (hd : d < C.nt) (hdst : o.dst = some d) (hg : Gens E U) (hU : ¬ U γ)
    (hq : ((opd l).bind fun l => (opd c).bind fun c => (ofOpt l.int?).bind fun l => (ofOpt c.int?).bind fun c => match (C.tt t).k with
      | .sl e esz eb ez => if 0 < esz ∧ ez.length = esz ∧ l.2 = c.2 ∧ 0 ≤ l.2 ∧ l.2.toNat * (eb + 1) ≤ 140737488355328 then .set d (.own γ e esz (List.replicate l.2.toNat ez)) (.ret ()) else .fail
      | _ => .fail : Q Unit).run E = some ((), E1)) (hK : Then C E1 M w ι K) : o.wp P a w K Qx := by
  obtain ⟨x', E2, h1, hq2⟩ := Q.run_bind_some hq
  obtain ⟨β1, M1, s1, e1, r1⟩ := opd_sound h h1
  obtain ⟨y', E3, h2, hq3⟩ := Q.run_bind_some hq2
  obtain ⟨β2, M2, s2, e2, r2⟩ := opd_sound s1 h2
  obtain ⟨x2, E4, h3, hq4⟩ := Q.run_bind_some hq3
  obtain ⟨hx, rfl⟩ := ofOpt_run h3
  obtain ⟨y2, E5, h4, hq5⟩ := Q.run_bind_some hq4
  obtain ⟨hy, rfl⟩ := ofOpt_run h4
  have hg2 : Gens E5 U := ((opd_gen c).run ((opd_gen l).run hg h1).1 h2).1
  rw [AD.int_some hx] at r1
  rw [AD.int_some hy] at r2
  have hv1 := int_rd r1
  have hv2 := int_rd r2
  split at hq5
  · rename_i e esz eb ez hk
    have hl0 := tk_of (hC.tt t) hk (by simp)
    obtain ⟨hu, i, z, hi, hs, hby, hz, hzc⟩ := sl_some hl0
    split at hq5
    · rename_i hb
      obtain ⟨hb1, hb2, hb3, hb4, hb5⟩ := hb
      have hzcell : z.cells = (ez.map D.zv).toArray := by rw [← hzc]
      obtain ⟨n, hn⟩ := Int.eq_ofNat_of_zero_le hb4
      rw [hn] at hb5
      simp only [Int.toNat_natCast] at hb5
      have hne : eb * n ≤ 140737488355328 := by rw [Nat.mul_comm]; exact Nat.le_trans (Nat.mul_le_mul_left n (Nat.le_succ eb)) hb5
      have hn1 : n ≤ 140737488355328 := by
        have : n * 1 ≤ n * (eb + 1) := Nat.mul_le_mul_left n (by omega)
        omega
      have hbi : (i.bytes : Int) * (n : Int) ≤ 281474976710656 := by
        have h : ((eb * n : Nat) : Int) ≤ 281474976710656 := by omega
        rw [Int.natCast_mul] at h
        rw [hby]; exact h
      have hmk := run_make (P := P) w t e i z hu hi hz x2.1 y2.1 (n : Int) (n : Int) (by omega) (by omega) hbi (by omega)
      have hzr := zero_rows (w := w) (ι := ι) (M := M2) ez hl0.2.2.1 (by omega) n
      rw [hb2] at hzr
      have hfin := set_run hq5
      rw [hn] at hfin
      simp only [Int.toNat_natCast] at hfin hmk
      have hcells : madeCells z.cells (n * i.size) = (Array.range (n * esz)).map ((ez.map D.zv).toArray[· % (ez.map D.zv).toArray.size]!) := by
        rw [hs, hzcell]; rfl
      refine put_new (γ := γ) (cs := madeCells z.cells (n * i.size)) (T := e) (v := .slice (some ⟨w.heap.size, 0, none⟩) n n) s2 hd hdst hg2 hU rfl (fun M' he hb' => ?_) ?_ hfin ((hK.of e1).of e2)
      · refine ⟨hb1, .inr ⟨w.heap.size, _, n, by simp, by simp, by simp, by unfold maxLen; omega, ?_, hzr.blk he hb1 ?_ hb'⟩⟩
        · rw [hcells]; simp
        · rw [hcells]
      · rw [hn] at hv1
        have : y2.2 = (n : Int) := by rw [← hb3]; exact hn
        rw [this] at hv2
        simp [execOp, ho, hv1, hv2, hmk]
    · cases hq5
  · cases hq5
end
end Go.Proofs.YtmhinddneefmbaaGreat.Pe
