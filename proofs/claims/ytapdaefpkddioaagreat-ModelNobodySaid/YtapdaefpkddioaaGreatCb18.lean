/- A part of the proof of PmD. -/
import Derived.Test.YtapdaefpkddioaaGreatCb14
set_option linter.unusedSimpArgs false
set_option linter.unusedVariables false
set_option linter.unusedSectionVars false
namespace Go.Proofs.YtapdaefpkddioaaGreat.Pe
open Go
structure Bk where
  off : Int
  size : Int
  used : Bool
  owner : Int
  len : Int
def Bk.c (b : Bk) : List D := [.int .u64 b.off, .int .u64 b.size, .bool b.used, .int .i64 b.owner, .int .u64 b.len]
theorem Bk.c_inj {a b : Bk} (h : a.c = b.c) : a = b := by
  cases a; cases b
  simp only [Bk.c, List.cons.injEq, D.int.injEq, D.bool.injEq, true_and, and_true] at h
  simp only [Bk.mk.injEq]; exact h
def rowsB (l : List Bk) : List (List D) := l.map Bk.c
theorem rowsB_inj {l m : List Bk} (h : rowsB l = rowsB m) : l = m := (List.map_inj_right (fun _ _ h => Bk.c_inj h)).1 h
theorem rowsB_len (l : List Bk) : (rowsB l).length = l.length := by simp [rowsB]
theorem rowsB_get (l : List Bk) (i : Nat) : (rowsB l)[i]? = l[i]?.map Bk.c := by simp [rowsB]
theorem rowsB_get' (l : List Bk) (i : Nat) (h : i < l.length) : (rowsB l)[i]? = some l[i].c := by simp [rowsB, h]
theorem rowsB_all (l : List Bk) : (rowsB l).all (fun r => decide (r.length = 5)) = true := by simp [rowsB, Bk.c]
theorem rowsB_app (l m : List Bk) : rowsB l ++ rowsB m = rowsB (l ++ m) := by simp [rowsB]
attribute [go_sem] rowsB_get' rowsB_len rowsB_all
def rowsL (l : List (List Int)) : List D := l.map fun m => .sl (rowsN m)
theorem rowsL_inj {l m : List (List Int)} (h : rowsL l = rowsL m) : l = m :=
  (List.map_inj_right (fun _ _ h => rowsN_inj (by simpa using h))).1 h
theorem rowsL_len (l : List (List Int)) : (rowsL l).length = l.length := by simp [rowsL]
attribute [go_sem] rowsL_len
structure Hpp where
  fin : Int
  bl : List Bk
  ls : List (List Int)
def Hpp.c (h : Hpp) : List D := .int .u64 h.fin :: .sl (rowsB h.bl) :: rowsL h.ls
theorem Hpp.c_inj {a b : Hpp} (h : a.c = b.c) : a = b := by
  cases a; cases b
  simp only [Hpp.c, List.cons.injEq, D.int.injEq, D.sl.injEq, true_and] at h
  simp only [Hpp.mk.injEq]; exact ⟨h.1, rowsB_inj h.2.1, rowsL_inj h.2.2⟩
def sizes (l : List Bk) : Int := (l.map (·.size)).sum
structure Bk.ok (b : Bk) : Prop where
  off0 : 0 ≤ b.off
  off1 : b.off ≤ 1099511627776
  size0 : 0 ≤ b.size
  own0 : 0 ≤ b.owner
  own1 : b.owner ≤ 8
  len : U64 b.len
structure Hpp.ok (h : Hpp) : Prop where
  eight : h.ls.length = 8
  sm : Sm h.bl
  bs : ∀ b ∈ h.bl, b.ok
  sum : sizes h.bl ≤ 1099511627776
  lsm : ∀ l ∈ h.ls, Sm l
  fin0 : 0 ≤ h.fin
  fin1 : h.fin ≤ 1099511627776
def placeN (l : List Bk) (p : Int) : Option Nat := l.findIdx? fun b => b.used && b.off + 32 == p
def placeV (l : List Bk) (p : Int) : Int := match placeN l p with
  | some i => i
  | none => -1
def encHN (x : Hpp × Int) : List AD := [.many x.1.c, .one (.int .u64 x.2)]
theorem encHN_inj (x y : Hpp × Int) (h : encHN x = encHN y) : x = y := by
  obtain ⟨a, b⟩ := x; obtain ⟨c, d⟩ := y
  simp only [encHN, List.cons.injEq, AD.one.injEq, AD.many.injEq, D.int.injEq, true_and, and_true] at h
  rw [Hpp.c_inj h.1, h.2]
noncomputable def placeF : List AD → Option RV := byEnc encHN (fun x => x.1.ok) fun x => .a (.one (.int .i64 (placeV x.1.bl x.2)))
theorem placeF_eq {h : Hpp} {p : Int} (hh : h.ok) : placeF [.many h.c, .one (.int .u64 p)] = some (.a (.one (.int .i64 (placeV h.bl p)))) := byEnc_eq (x := (h, p)) encHN_inj hh
theorem findIdx_take {α : Type} (l : List α) (p : α → Bool) (i : Nat) (hi : i < l.length) (h : (l.take i).findIdx? p = none) (hp : p l[i] = true) : l.findIdx? p = some i := by
  rw [← List.take_append_drop i l, List.findIdx?_append, h, List.drop_eq_getElem_cons hi, List.findIdx?_cons, hp]
  simp; omega
theorem findIdx_none {α : Type} {l : List α} {p : α → Bool} {i : Nat} (hi : i < l.length) (h : (l.take i).findIdx? p = none) (hp : p l[i] = false) : (l.take (i + 1)).findIdx? p = none := by
  rw [List.findIdx?_eq_none_iff] at *
  intro x hx
  rw [take_one _ _ hi] at hx
  rcases List.mem_append.1 hx with hx | hx
  · exact h x hx
  · simp only [List.mem_singleton] at hx; subst hx; exact hp
theorem place_ok : FnPure Tryz.prog 102 placeF := by
  (refine fn_pure' (f := 102) mixed Tryz.func102 rfl (fun X => { nt := 32, tt := tt, fns := ofList [], keep := keep102, X := X }) (fun X => ok_of tt_ok trivial (noEqs _)) (fun _ => rfl) (fun _ => rfl) (by decide) Tryz.results102 placeF ?_)
  intro l r hq
  obtain ⟨⟨h, p⟩, rfl, hh, rfl⟩ := byEnc_some hq
  clear hq
  have hsm := hh.sm
  simp only [Sm] at hsm
  have h8 : (rowsL h.ls).length = 8 := by rw [rowsL_len]; exact hh.eight
  refine ⟨by simp [encHN, Tryz.ntmps102], fun X nx R hR => ?_⟩
  simp only [encHN, Hpp.c]
  (((try simp only [cl_seq, cl_skip]); with_reducible refine cl_reg fun K hK => ?_; (simp (maxSteps := 1000000) only [go_sem, tt, keep102]); (repeat refine ck ?_); (first | ((try simp (disch := omega) only [wrap64, wrapi64]); refine hK _ ?_; clear hK K) | skip)))
  (((try simp only [cl_seq, cl_skip]); with_reducible refine cl_reg fun K hK => ?_; (simp (maxSteps := 1000000) only [go_sem, tt, keep102]); (repeat refine ck ?_); (first | ((try simp (disch := omega) only [wrap64, wrapi64]); refine hK _ ?_; clear hK K) | skip)))
  (((try simp only [cl_seq, cl_skip]); refine cl_block fun K hK1 R hR1 X hX1 => ?_))
  refine cl_loop (fun E n => ∃ i : Nat, i ≤ h.bl.length ∧ placeN (h.bl.take i) p = none ∧ n = h.bl.length - i ∧ E = mk [(1000000, .heap (fun _ => none) nx), (5, .v (.one (.int .i64 i))), (1, .v (.one (.int .u64 p))), (2, .box 0 (.int .u64 h.fin :: .sl (rowsB h.bl) :: rowsL h.ls))]) h.bl.length ⟨0, by omega, rfl, by omega, rfl⟩ ?_
  rintro E n ⟨i, hi, hnone, rfl, rfl⟩ J hJ R2 hR2 X2 hX2
  (((try simp only [cl_seq, cl_skip]); with_reducible refine cl_reg fun K hK => ?_; (simp (maxSteps := 1000000) only [go_sem, tt, keep102, rowsB_len, h8]); (repeat refine ck ?_); (first | ((try simp (disch := omega) only [wrap64, wrapi64]); refine hK _ ?_; clear hK K) | skip)))
  (((try simp only [cl_seq, cl_skip]); refine cl_cond rfl (fun hc => ?_) (fun hc => ?_)))
  · simp only [decide_eq_true_eq, Int.ofNat_lt] at hc
    have hget : h.bl[i]? = some h.bl[i] := List.getElem?_eq_getElem hc
    have hb := hh.bs _ (List.getElem_mem hc)
    have hb0 := hb.off0
    have hb1 := hb.off1
    (((try simp only [cl_seq, cl_skip]); refine cl_block fun K hK3 R hR3 X hX3 => ?_))
    (((try simp only [cl_seq, cl_skip]); refine cl_reg_b (g := ?g104) (t := ?t104) (L := ?L104) ((h.bl[i].used && h.bl[i].off + 32 == p)) (fun K hK => ?h1104) ?h2104; case' h1104 => (simp (maxSteps := 1000000) only [go_sem, tt, keep102, rowsB_len, h8, rowsB_get, hget, Option.map_some, Bk.c, wrap64 (n := h.bl[i].off + 32) (by omega) (by omega)]); (repeat refine ck ?_); (repeat' (((refine ite_split (fun hb => ?_) (fun hb => ?_) <;> ((try (simp (maxSteps := 1000000) only [go_sem, hb, tt, keep102, rowsB_len, h8, rowsB_get, hget, Option.map_some, Bk.c, wrap64 (n := h.bl[i].off + 32) (by omega) (by omega)])); (repeat refine ck ?_)))))); all_goals (first | ((try simp (disch := omega) only [wrap64, wrapi64]); refine hK _ ?_; clear hK K; first | rfl | grind | skip) | skip)))
    (((try simp only [cl_seq, cl_skip]); refine cl_cond rfl (fun hd => ?_) (fun hd => ?_)))
    · (((try simp only [cl_seq, cl_skip]); with_reducible refine cl_reg fun K hK => ?_; (simp (maxSteps := 1000000) only [go_sem, tt, keep102]); (repeat refine ck ?_); (first | ((try simp (disch := omega) only [wrap64, wrapi64]); refine hK _ ?_; clear hK K) | skip)))
      simp only [cl_ret]
      refine hR3 _ (hR2 _ (hR1 _ ?_))
      (((try simp only [cl_seq, cl_skip]); (try simp only [cl_ret]); refine hR _ _ (.inr rfl) ?_; (simp (maxSteps := 1000000) only [go_sem])))
      have := findIdx_take h.bl (fun b => b.used && b.off + 32 == p) i hc hnone hd
      simp [placeV, placeN, this]
    · ((try simp only [cl_seq, cl_skip, cl_exit, cl_nil]))
      refine hK3 _ ?_
      (((try simp only [cl_seq, cl_skip]); with_reducible refine cl_reg fun K hK => ?_; (simp (maxSteps := 1000000) only [go_sem, tt, keep102, wrapi64 (n := (i : Int) + 1) (by omega) (by omega)]); (repeat refine ck ?_); (first | ((try simp (disch := omega) only [wrap64, wrapi64]); refine hK _ ?_; clear hK K) | skip)))
      ((try simp only [cl_seq, cl_skip, cl_exit, cl_nil]))
      refine hJ _ (h.bl.length - (i + 1)) (by omega) ⟨i + 1, by omega, ?_, rfl, rfl⟩
      exact findIdx_none hc hnone hd
  · simp only [decide_eq_false_iff_not, Int.ofNat_lt] at hc
    have hil : i = h.bl.length := by omega
    subst hil
    rw [List.take_length] at hnone
    ((try simp only [cl_seq, cl_skip, cl_exit, cl_nil]))
    refine hX2 0 _ (hK1 _ ?_)
    (((try simp only [cl_seq, cl_skip]); with_reducible refine cl_reg fun K hK => ?_; (simp (maxSteps := 1000000) only [go_sem, tt, keep102]); (repeat refine ck ?_); (first | ((try simp (disch := omega) only [wrap64, wrapi64]); refine hK _ ?_; clear hK K) | skip)))
    (((try simp only [cl_seq, cl_skip]); (try simp only [cl_ret]); refine hR _ _ (.inr rfl) ?_; (simp (maxSteps := 1000000) only [go_sem])))
    simp [placeV, hnone]
def payls (l : List Bk) : List Int := (l.filter (·.used)).map (·.off + 32)
def paylV (l : List Bk) (n : Int) : Int := (payls l).getD (n.toNat % (payls l).length) 0
def encHI (x : Hpp × Int) : List AD := [.many x.1.c, .one (.int .i64 x.2)]
theorem encHI_inj (x y : Hpp × Int) (h : encHI x = encHI y) : x = y := by
  obtain ⟨a, b⟩ := x; obtain ⟨c, d⟩ := y
  simp only [encHI, List.cons.injEq, AD.one.injEq, AD.many.injEq, D.int.injEq, true_and, and_true] at h
  rw [Hpp.c_inj h.1, h.2]
noncomputable def paylF : List AD → Option RV := byEnc encHI (fun x => x.1.ok ∧ 0 ≤ x.2 ∧ x.2 < 1000) fun x => .a (.one (.int .u64 (paylV x.1.bl x.2)))
theorem paylF_eq {h : Hpp} {p : Int} (hh : h.ok) (h0 : 0 ≤ p) (h1 : p < 1000) : paylF [.many h.c, .one (.int .i64 p)] = some (.a (.one (.int .u64 (paylV h.bl p)))) := byEnc_eq (x := (h, p)) encHI_inj ⟨hh, h0, h1⟩
theorem payls_len (l : List Bk) : (payls l).length ≤ l.length := by unfold payls; rw [List.length_map]; exact List.length_filter_le _ _
theorem payl_ok : FnPure Tryz.prog 44 paylF := by
  (refine fn_pure' (f := 44) mixed Tryz.func44 rfl (fun X => { nt := 41, tt := tt, fns := ofList [], keep := keep44, X := X }) (fun X => ok_of tt_ok trivial (noEqs _)) (fun _ => rfl) (fun _ => rfl) (by decide) Tryz.results44 paylF ?_)
  intro l r hq
  obtain ⟨⟨h, p⟩, rfl, ⟨hh, hp0, hp1⟩, rfl⟩ := byEnc_some hq
  clear hq
  simp only at hp0 hp1 hh
  have hsm := hh.sm
  simp only [Sm] at hsm
  have h8 : (rowsL h.ls).length = 8 := by rw [rowsL_len]; exact hh.eight
  refine ⟨by simp [encHI, Tryz.ntmps44], fun X nx R hR => ?_⟩
  simp only [encHI, Hpp.c]
  (((try simp only [cl_seq, cl_skip]); with_reducible refine cl_reg fun K hK => ?_; (simp (maxSteps := 1000000) only [go_sem, tt, keep44]); (repeat refine ck ?_); (first | ((try simp (disch := omega) only [wrap64, wrapi64]); refine hK _ ?_; clear hK K) | skip)))
  (((try simp only [cl_seq, cl_skip]); with_reducible refine cl_reg fun K hK => ?_; (simp (maxSteps := 1000000) only [go_sem, tt, keep44]); (repeat refine ck ?_); (first | ((try simp (disch := omega) only [wrap64, wrapi64]); refine hK _ ?_; clear hK K) | skip)))
  (((try simp only [cl_seq, cl_skip]); with_reducible refine cl_reg fun K hK => ?_; (simp (maxSteps := 1000000) only [go_sem, tt, keep44]); (repeat refine ck ?_); (first | ((try simp (disch := omega) only [wrap64, wrapi64]); refine hK _ ?_; clear hK K) | skip)))
  (((try simp only [cl_seq, cl_skip]); refine cl_block fun K hK1 R hR1 X hX1 => ?_))
  refine cl_loop (fun E n => ∃ i : Nat, i ≤ h.bl.length ∧ n = h.bl.length - i ∧ E = mk [(1000000, .heap (fun _ => none) nx), (6, .v (.one (.int .i64 i))), (1, .v (.one (.int .i64 p))), (2, .box 0 (.int .u64 h.fin :: .sl (rowsB h.bl) :: rowsL h.ls)), (5, .own 0 26 1 (rowsN (payls (h.bl.take i))))]) h.bl.length ⟨0, by omega, by omega, rfl⟩ ?_
  rintro E n ⟨i, hi, rfl, rfl⟩ J hJ R2 hR2 X2 hX2
  (((try simp only [cl_seq, cl_skip]); with_reducible refine cl_reg fun K hK => ?_; (simp (maxSteps := 1000000) only [go_sem, tt, keep44, rowsB_len, h8]); (repeat refine ck ?_); (first | ((try simp (disch := omega) only [wrap64, wrapi64]); refine hK _ ?_; clear hK K) | skip)))
  (((try simp only [cl_seq, cl_skip]); refine cl_cond rfl (fun hc => ?_) (fun hc => ?_)))
  · simp only [decide_eq_true_eq, Int.ofNat_lt] at hc
    have hget : h.bl[i]? = some h.bl[i] := List.getElem?_eq_getElem hc
    have hb := hh.bs _ (List.getElem_mem hc)
    have hb0 := hb.off0
    have hb1 := hb.off1
    have hpl : (payls (h.bl.take i)).length ≤ 100000 := Nat.le_trans (payls_len _) (by rw [List.length_take]; omega)
    (((try simp only [cl_seq, cl_skip]); refine cl_block fun K hK3 R hR3 X hX3 => ?_))
    (((try simp only [cl_seq, cl_skip]); with_reducible refine cl_reg fun K hK => ?_; (simp (maxSteps := 1000000) only [go_sem, tt, keep44, rowsB_len, h8, rowsB_get, hget, Option.map_some, Bk.c]); (repeat refine ck ?_); (first | ((try simp (disch := omega) only [wrap64, wrapi64]); refine hK _ ?_; clear hK K) | skip)))
    (((try simp only [cl_seq, cl_skip]); refine cl_cond rfl (fun hd => ?_) (fun hd => ?_)))
    · (((try simp only [cl_seq, cl_skip]); with_reducible refine cl_reg fun K hK => ?_; (simp (maxSteps := 1000000) only [go_sem, tt, keep44, rowsB_len, h8, rowsB_get, hget, Option.map_some, Bk.c, rowsN_len, wrap64 (n := h.bl[i].off + 32) (by omega) (by omega)]); (repeat refine ck ?_); (first | ((try simp (disch := omega) only [wrap64, wrapi64]); refine hK _ ?_; clear hK K) | skip)))
      ((try simp only [cl_seq, cl_skip, cl_exit, cl_nil]))
      refine hK3 _ ?_
      (((try simp only [cl_seq, cl_skip]); with_reducible refine cl_reg fun K hK => ?_; (simp (maxSteps := 1000000) only [go_sem, tt, keep44, wrapi64 (n := (i : Int) + 1) (by omega) (by omega)]); (repeat refine ck ?_); (first | ((try simp (disch := omega) only [wrap64, wrapi64]); refine hK _ ?_; clear hK K) | skip)))
      ((try simp only [cl_seq, cl_skip, cl_exit, cl_nil]))
      refine hJ _ (h.bl.length - (i + 1)) (by omega) ⟨i + 1, by omega, rfl, ?_⟩
      have : payls (h.bl.take (i + 1)) = payls (h.bl.take i) ++ [h.bl[i].off + 32] := by
        unfold payls; rw [filter_take _ _ hc, List.filter_cons_of_pos hd]; simp
      rw [this, ← rowsN_app]
      rfl
    · ((try simp only [cl_seq, cl_skip, cl_exit, cl_nil]))
      refine hK3 _ ?_
      (((try simp only [cl_seq, cl_skip]); with_reducible refine cl_reg fun K hK => ?_; (simp (maxSteps := 1000000) only [go_sem, tt, keep44, wrapi64 (n := (i : Int) + 1) (by omega) (by omega)]); (repeat refine ck ?_); (first | ((try simp (disch := omega) only [wrap64, wrapi64]); refine hK _ ?_; clear hK K) | skip)))
      ((try simp only [cl_seq, cl_skip, cl_exit, cl_nil]))
      refine hJ _ (h.bl.length - (i + 1)) (by omega) ⟨i + 1, by omega, rfl, ?_⟩
      have : payls (h.bl.take (i + 1)) = payls (h.bl.take i) := by
        unfold payls; rw [filter_take _ _ hc, List.filter_cons_of_neg (by simp [hd])]; simp
      rw [this]
      rfl
  · simp only [decide_eq_false_iff_not, Int.ofNat_lt] at hc
    have hil : i = h.bl.length := by omega
    subst hil
    rw [List.take_length]
    ((try simp only [cl_seq, cl_skip, cl_exit, cl_nil]))
    refine hX2 0 _ (hK1 _ ?_)
    have hpl := payls_len h.bl
    (((try simp only [cl_seq, cl_skip]); with_reducible refine cl_reg fun K hK => ?_; (simp (maxSteps := 1000000) only [go_sem, tt, keep44, rowsN_len]); (repeat refine ck ?_); (first | ((try simp (disch := omega) only [wrap64, wrapi64]); refine hK _ ?_; clear hK K) | skip)))
    (((try simp only [cl_seq, cl_skip]); refine cl_cond rfl (fun hd => ?_) (fun hd => ?_)))
    · simp only [beq_iff_eq, Int.natCast_eq_zero] at hd
      (((try simp only [cl_seq, cl_skip]); with_reducible refine cl_reg fun K hK => ?_; (simp (maxSteps := 1000000) only [go_sem, tt, keep44]); (repeat refine ck ?_); (first | ((try simp (disch := omega) only [wrap64, wrapi64]); refine hK _ ?_; clear hK K) | skip)))
      (((try simp only [cl_seq, cl_skip]); (try simp only [cl_ret]); refine hR _ _ (.inr rfl) ?_; (simp (maxSteps := 1000000) only [go_sem])))
      simp [paylV, List.eq_nil_of_length_eq_zero hd]
    · simp only [beq_eq_false_iff_ne, ne_eq, Int.natCast_eq_zero] at hd
      have hm : p.tmod (payls h.bl).length = ((p.toNat % (payls h.bl).length : Nat) : Int) := by
        rw [Int.tmod_eq_emod_of_nonneg hp0, Int.natCast_emod, Int.toNat_of_nonneg hp0]
      have hml : p.toNat % (payls h.bl).length < (payls h.bl).length := Nat.mod_lt _ (by omega)
      have hget := List.getElem?_eq_getElem hml
      (((try simp only [cl_seq, cl_skip]); with_reducible refine cl_reg fun K hK => ?_; (simp (maxSteps := 1000000) only [go_sem, tt, keep44, rowsN_len, Int.natCast_eq_zero, hd, hm, rowsN_get, hget, Option.map_some]); (repeat refine ck ?_); (first | ((try simp (disch := omega) only [wrap64, wrapi64]); refine hK _ ?_; clear hK K) | skip)))
      (((try simp only [cl_seq, cl_skip]); (try simp only [cl_ret]); refine hR _ _ (.inr rfl) ?_; (simp (maxSteps := 1000000) only [go_sem])))
      simp [paylV, hget]
def joinStep (out : List Bk) (b : Bk) : List Bk := match out.getLast? with
  | some c => if !c.used && !b.used then out.dropLast ++ [{ c with size := c.size + b.size }] else out ++ [b]
  | none => [b]
def joined (l : List Bk) : List Bk := l.foldl joinStep []
theorem joinStep_len (out : List Bk) (b : Bk) : (joinStep out b).length ≤ out.length + 1 := by
  unfold joinStep
  split
  · split <;> simp <;> omega
  · simp
theorem foldl_len (l : List Bk) : ∀ out : List Bk, (l.foldl joinStep out).length ≤ out.length + l.length := by
  induction l with
  | nil => intro out; simp
  | cons b l ih => intro out; have := ih (joinStep out b); have := joinStep_len out b; simp only [List.foldl_cons, List.length_cons]; omega
theorem joined_len (l : List Bk) : (joined l).length ≤ l.length := by have := foldl_len l []; simpa [joined] using this
theorem joined_take (l : List Bk) (i : Nat) (h : i < l.length) : joined (l.take (i + 1)) = joinStep (joined (l.take i)) l[i] := by
  rw [take_one l i h]; unfold joined; rw [List.foldl_append]; rfl
theorem sizes_app (l m : List Bk) : sizes (l ++ m) = sizes l + sizes m := by simp [sizes]
theorem sizes_joinStep (out : List Bk) (b : Bk) : sizes (joinStep out b) = sizes out + b.size := by
  unfold joinStep
  split
  · rename_i c hc
    obtain ⟨ys, rfl⟩ := List.getLast?_eq_some_iff.1 hc
    split
    · simp [sizes_app, sizes]; omega
    · simp [sizes_app, sizes]; omega
  · rename_i hc
    rw [List.getLast?_eq_none_iff] at hc
    subst hc; simp [sizes]
theorem sizes_joined (l : List Bk) : sizes (joined l) = sizes l := by
  have : ∀ (l out : List Bk), sizes (l.foldl joinStep out) = sizes out + sizes l := by
    intro l
    induction l with
    | nil => intro out; simp [sizes]
    | cons b l ih => intro out; rw [List.foldl_cons, ih, sizes_joinStep]; simp [sizes]; omega
  have h := this l []
  simpa [joined, sizes] using h
theorem joinStep_all {p : Bk → Prop} {out : List Bk} {b : Bk} (hm : ∀ c b, p c → p b → p { c with size := c.size + b.size }) (ho : ∀ x ∈ out, p x) (hb : p b) : ∀ x ∈ joinStep out b, p x := by
  unfold joinStep
  split
  · rename_i c hc
    obtain ⟨ys, rfl⟩ := List.getLast?_eq_some_iff.1 hc
    split
    · intro x hx
      simp only [List.dropLast_concat, List.mem_append, List.mem_singleton] at hx
      rcases hx with hx | hx
      · exact ho x (by simp [hx])
      · subst hx; exact hm c b (ho c (by simp)) hb
    · intro x hx
      rcases List.mem_append.1 hx with hx | hx
      · exact ho x hx
      · simp only [List.mem_singleton] at hx; subst hx; exact hb
  · intro x hx
    simp only [List.mem_singleton] at hx; subst hx; exact hb
theorem joined_all {p : Bk → Prop} {l : List Bk} (hm : ∀ c b, p c → p b → p { c with size := c.size + b.size }) (h : ∀ x ∈ l, p x) : ∀ x ∈ joined l, p x := by
  have : ∀ (l out : List Bk), (∀ x ∈ out, p x) → (∀ x ∈ l, p x) → ∀ x ∈ l.foldl joinStep out, p x := by
    intro l
    induction l with
    | nil => intro out ho _; exact ho
    | cons b l ih => intro out ho hl; exact ih _ (joinStep_all hm ho (hl b (by simp))) (fun x hx => hl x (by simp [hx]))
  exact this l [] (fun x hx => by cases hx) h
theorem sizes_nonneg {l : List Bk} (h : ∀ b ∈ l, 0 ≤ b.size) : 0 ≤ sizes l := by
  induction l with
  | nil => simp [sizes]
  | cons b l ih =>
    have h1 := h b (by simp)
    have h2 := ih (fun x hx => h x (by simp [hx]))
    simp only [sizes, List.map_cons, List.sum_cons] at *; omega
theorem sizes_take {l : List Bk} (h : ∀ b ∈ l, 0 ≤ b.size) (i : Nat) : sizes (l.take i) ≤ sizes l := by
  have e := sizes_app (l.take i) (l.drop i)
  rw [List.take_append_drop] at e
  have := sizes_nonneg (l := l.drop i) (fun b hb => h b (List.mem_of_mem_drop hb))
  omega
theorem size_le {l : List Bk} (h : ∀ b ∈ l, 0 ≤ b.size) {b : Bk} (hb : b ∈ l) : b.size ≤ sizes l := by
  obtain ⟨s, t, rfl⟩ := List.append_of_mem hb
  rw [sizes_app]
  have h1 := sizes_nonneg (l := s) (fun x hx => h x (by simp [hx]))
  have h2 := sizes_nonneg (l := t) (fun x hx => h x (by simp [hx]))
  simp only [sizes, List.map_cons, List.sum_cons] at *
  omega
def encB (x : List Bk) : List AD := [.one (.sl (rowsB x))]
theorem encB_inj (x y : List Bk) (h : encB x = encB y) : x = y := by
  simp only [encB, List.cons.injEq, AD.one.injEq, D.sl.injEq, and_true] at h
  exact rowsB_inj h
noncomputable def joinedF : List AD → Option RV := byEnc encB (fun x => Sm x ∧ (∀ b ∈ x, b.ok) ∧ sizes x ≤ 2199023255552) fun x => .a (.one (.sl (rowsB (joined x))))
theorem joinedF_eq {l : List Bk} (h : Sm l) (hb : ∀ b ∈ l, b.ok) (hs : sizes l ≤ 2199023255552) : joinedF [.one (.sl (rowsB l))] = some (.a (.one (.sl (rowsB (joined l))))) := byEnc_eq (x := l) encB_inj ⟨h, hb, hs⟩
theorem joined_ok : FnPure Tryz.prog 86 joinedF := by
  (refine fn_pure' (f := 86) mixed Tryz.func86 rfl (fun X => { nt := 66, tt := tt, fns := ofList [], keep := keep86, X := X }) (fun X => ok_of tt_ok trivial (noEqs _)) (fun _ => rfl) (fun _ => rfl) (by decide) Tryz.results86 joinedF ?_)
  intro l r hq
  obtain ⟨l, rfl, ⟨hsm, hb, hs⟩, rfl⟩ := byEnc_some hq
  clear hq
  simp only [Sm] at hsm
  refine ⟨by simp [encB, Tryz.ntmps86], fun X nx R hR => ?_⟩
  simp only [encB]
  (((try simp only [cl_seq, cl_skip]); with_reducible refine cl_reg fun K hK => ?_; (simp (maxSteps := 1000000) only [go_sem, tt, keep86]); (repeat refine ck ?_); (first | ((try simp (disch := omega) only [wrap64, wrapi64]); refine hK _ ?_; clear hK K) | skip)))
  (((try simp only [cl_seq, cl_skip]); with_reducible refine cl_reg fun K hK => ?_; (simp (maxSteps := 1000000) only [go_sem, tt, keep86]); (repeat refine ck ?_); (first | ((try simp (disch := omega) only [wrap64, wrapi64]); refine hK _ ?_; clear hK K) | skip)))
  (((try simp only [cl_seq, cl_skip]); with_reducible refine cl_reg fun K hK => ?_; (simp (maxSteps := 1000000) only [go_sem, tt, keep86]); (repeat refine ck ?_); (first | ((try simp (disch := omega) only [wrap64, wrapi64]); refine hK _ ?_; clear hK K) | skip)))
  (((try simp only [cl_seq, cl_skip]); refine cl_block fun K hK1 R hR1 X hX1 => ?_))
  refine cl_loop (fun E n => ∃ i : Nat, i ≤ l.length ∧ n = l.length - i ∧ E = mk [(1000000, .heap (fun _ => none) nx), (4, .v (.one (.int .i64 i))), (0, .v (.one (.sl (rowsB l)))), (3, .own 0 77 5 (rowsB (joined (l.take i))))]) l.length ⟨0, by omega, by omega, rfl⟩ ?_
  rintro E n ⟨i, hi, rfl, rfl⟩ J hJ R2 hR2 X2 hX2
  (((try simp only [cl_seq, cl_skip]); with_reducible refine cl_reg fun K hK => ?_; (simp (maxSteps := 1000000) only [go_sem, tt, keep86, rowsB_len]); (repeat refine ck ?_); (first | ((try simp (disch := omega) only [wrap64, wrapi64]); refine hK _ ?_; clear hK K) | skip)))
  (((try simp only [cl_seq, cl_skip]); refine cl_cond rfl (fun hc => ?_) (fun hc => ?_)))
  · simp only [decide_eq_true_eq, Int.ofNat_lt] at hc
    have hget : l[i]? = some l[i] := List.getElem?_eq_getElem hc
    have hbi := hb _ (List.getElem_mem hc)
    have hsi := hbi.size0
    have hjl : (joined (l.take i)).length ≤ 100000 := Nat.le_trans (joined_len _) (by rw [List.length_take]; omega)
    have hjs : sizes (joined (l.take i)) ≤ 2199023255552 := by
      rw [sizes_joined]; exact Int.le_trans (sizes_take (fun b h => (hb b h).size0) i) hs
    have hjb : ∀ b ∈ joined (l.take i), 0 ≤ b.size := joined_all (p := fun b => 0 ≤ b.size) (fun c b h1 h2 => by simp only; omega) (fun b h => (hb b (List.mem_of_mem_take h)).size0)
    have hstep := joined_take l i hc
    generalize joined (l.take i) = out at *
    (((try simp only [cl_seq, cl_skip]); refine cl_block fun K3 hK3 R hR3 X hX3 => ?_))
    have hend : ∀ E', E' 1000000 = .heap (fun _ => none) nx → E' 0 = .v (.one (.sl (rowsB l))) → E' 3 = .own 0 77 5 (rowsB (joinStep out l[i])) → E' 4 = .v (.one (.int .i64 i)) → K3 E' := by
      intro E' e1 e2 e3 e4
      refine hK3 _ ?_
      (((try simp only [cl_seq, cl_skip]); with_reducible refine cl_reg fun K hK => ?_; (simp (maxSteps := 1000000) only [go_sem, tt, keep86, wrapi64 (n := (i : Int) + 1) (by omega) (by omega), e1, e2, e3, e4]); (repeat refine ck ?_); (first | ((try simp (disch := omega) only [wrap64, wrapi64]); refine hK _ ?_; clear hK K) | skip)))
      ((try simp only [cl_seq, cl_skip, cl_exit, cl_nil]))
      refine hJ _ (l.length - (i + 1)) (by omega) ⟨i + 1, by omega, rfl, ?_⟩
      rw [hstep]
      rfl
    clear hK3
    (((try simp only [cl_seq, cl_skip]); with_reducible refine cl_reg fun K hK => ?_; (simp (maxSteps := 1000000) only [go_sem, tt, keep86, rowsB_len]); (repeat refine ck ?_); (first | ((try simp (disch := omega) only [wrap64, wrapi64]); refine hK _ ?_; clear hK K) | skip)))
    rcases List.eq_nil_or_concat out with rfl | ⟨ys, c, rfl⟩
    · (((try simp only [cl_seq, cl_skip]); with_reducible refine cl_reg fun K hK => ?_; (simp (maxSteps := 1000000) only [go_sem, tt, keep86, show rowsB [] = [] from rfl, Int.natCast_zero]); (repeat refine ck ?_); (first | ((try simp (disch := omega) only [wrap64, wrapi64]); refine hK _ ?_; clear hK K) | skip)))
      (((try simp only [cl_seq, cl_skip]); refine cl_cond rfl (fun hd => ?_) (fun hd => ?_)))
      · exact absurd hd (by simp)
      · (((try simp only [cl_seq, cl_skip]); with_reducible refine cl_reg fun K hK => ?_; (simp (maxSteps := 1000000) only [go_sem, tt, keep86, show rowsB [] = [] from rfl, rowsB_len, rowsB_get, hget, Option.map_some, Bk.c]); (repeat refine ck ?_); (first | ((try simp (disch := omega) only [wrap64, wrapi64]); refine hK _ ?_; clear hK K) | skip)))
        ((try simp only [cl_seq, cl_skip, cl_exit, cl_nil]))
        refine hend _ ?_ ?_ ?_ ?_ <;> simp [mk, joinStep, rowsB, Bk.c]
    · simp only [List.concat_eq_append] at *
      have hyl : ys.length + 1 ≤ 100000 := by simpa using hjl
      have hw : IntKind.i64.wrap (((ys.length + 1 : Nat) : Int) - 1) = (ys.length : Int) := by
        rw [wrapi64 (by omega) (by omega)]; omega
      have hw2 : IntKind.i64.wrap (ys.length : Int) = (ys.length : Int) := wrapi64 (by omega) (by omega)
      have hgc : (ys ++ [c])[ys.length]? = some c := by simp
      have hcs := hjb c (by simp)
      have hcs1 : c.size + l[i].size < 18446744073709551616 := by
        have h1 := size_le (l := ys ++ [c]) hjb (b := c) (by simp)
        have h2 := size_le (fun b h => (hb b h).size0) (List.getElem_mem hc)
        omega
      (((try simp only [cl_seq, cl_skip]); refine cl_reg_b (g := ?g105) (t := ?t105) (L := ?L105) ((!c.used && !l[i].used)) (fun K hK => ?h1105) ?h2105; case' h1105 => (simp (maxSteps := 1000000) only [go_sem, tt, keep86, rowsB_len, List.length_append, hw, hw2, hgc, rowsB_get, hget, Option.map_some, Bk.c]); (repeat refine ck ?_); (repeat' (((refine ite_split (fun hb => ?_) (fun hb => ?_) <;> ((try (simp (maxSteps := 1000000) only [go_sem, hb, tt, keep86, rowsB_len, List.length_append, hw, hw2, hgc, rowsB_get, hget, Option.map_some, Bk.c])); (repeat refine ck ?_)))))); all_goals (first | ((try simp (disch := omega) only [wrap64, wrapi64]); refine hK _ ?_; clear hK K; first | rfl | grind | skip) | skip)))
      (((try simp only [cl_seq, cl_skip]); refine cl_cond rfl (fun hd => ?_) (fun hd => ?_)))
      · (((try simp only [cl_seq, cl_skip]); with_reducible refine cl_reg fun K hK => ?_; (simp (maxSteps := 1000000) only [go_sem, tt, keep86, rowsB_len, List.length_append, hw, hw2, hgc, rowsB_get, hget, Option.map_some, Bk.c]); (repeat refine ck ?_); (first | ((try simp (disch := omega) only [wrap64, wrapi64]); refine hK _ ?_; clear hK K) | skip)))
        (((try simp only [cl_seq, cl_skip]); with_reducible refine cl_drw fun K hK => ?_; (simp (maxSteps := 1000000) only [go_sem, tt, keep86, rowsB_len, List.length_append, hw, hw2, hgc, rowsB_get, hget, Option.map_some, Bk.c, wrap64 (n := c.size + l[i].size) (by omega) (by omega)]); (repeat refine ck ?_); (first | ((try simp (disch := omega) only [wrap64, wrapi64]); refine hK _ ?_; clear hK K) | skip)))
        (((try simp only [cl_seq, cl_skip]); with_reducible refine cl_reg fun K hK => ?_; (simp (maxSteps := 1000000) only [go_sem, tt, keep86, rowsB_len, List.length_append, hw, hw2, hgc, rowsB_get, hget, Option.map_some, Bk.c]); (repeat refine ck ?_); (first | ((try simp (disch := omega) only [wrap64, wrapi64]); refine hK _ ?_; clear hK K) | skip)))
        ((try simp only [cl_seq, cl_skip, cl_exit, cl_nil]))
        refine hend _ rfl rfl ?_ rfl
        have e : joinStep (ys ++ [c]) l[i] = ys ++ [{ c with size := c.size + l[i].size }] := by simp [joinStep, hd]
        rw [e]
        simp [rowsB, Bk.c, mk, List.set_append]
      · (((try simp only [cl_seq, cl_skip]); with_reducible refine cl_reg fun K hK => ?_; (simp (maxSteps := 1000000) only [go_sem, tt, keep86, rowsB_len, List.length_append, rowsB_get, hget, Option.map_some, Bk.c]); (repeat refine ck ?_); (first | ((try simp (disch := omega) only [wrap64, wrapi64]); refine hK _ ?_; clear hK K) | skip)))
        ((try simp only [cl_seq, cl_skip, cl_exit, cl_nil]))
        refine hend _ rfl rfl ?_ rfl
        have e : joinStep (ys ++ [c]) l[i] = ys ++ [c] ++ [l[i]] := by simp [joinStep, hd]
        rw [e]
        simp [rowsB, Bk.c, mk]
  · simp only [decide_eq_false_iff_not, Int.ofNat_lt] at hc
    have hil : i = l.length := by omega
    subst hil
    rw [List.take_length]
    ((try simp only [cl_seq, cl_skip, cl_exit, cl_nil]))
    refine hX2 0 _ (hK1 _ ?_)
    (((try simp only [cl_seq, cl_skip]); with_reducible refine cl_reg fun K hK => ?_; (simp (maxSteps := 1000000) only [go_sem, tt, keep86]); (repeat refine ck ?_); (first | ((try simp (disch := omega) only [wrap64, wrapi64]); refine hK _ ?_; clear hK K) | skip)))
    (((try simp only [cl_seq, cl_skip]); (try simp only [cl_ret]); refine hR _ _ (.inr rfl) ?_; (simp (maxSteps := 1000000) only [go_sem])))
end Go.Proofs.YtapdaefpkddioaaGreat.Pe
namespace Go.Proofs.YtapdaefpkddioaaGreat.Pe
open Go
def heap0 (n : Int) : Hpp := ⟨n, [⟨3776, n - 3776, false, 0, 0⟩], [[], [], [], [], [], [], [], []]⟩
def newhF : List AD → Option RV
  | [.one (.int .u64 n)] => if 3776 ≤ n ∧ n < 18446744073709551616 then some (.a (.many (heap0 n).c)) else none
  | _ => none
theorem newhF_eq {n : Int} (h : 3776 ≤ n ∧ n < 18446744073709551616) : newhF [.one (.int .u64 n)] = some (.a (.many (heap0 n).c)) := by simp [newhF, h]
theorem newh_ok : FnPure Tryz.prog 52 newhF := by
  (refine fn_pure' (f := 52) mixed Tryz.func52 rfl (fun X => { nt := 13, tt := tt, fns := ofList [], keep := keep52, X := X }) (fun X => ok_of tt_ok trivial (noEqs _)) (fun _ => rfl) (fun _ => rfl) (by decide) Tryz.results52 newhF ?_)
  intro l r h
  unfold newhF at h
  split at h
  · rename_i n
    split at h
    · rename_i hn
      injection h with h
      subst h
      refine ⟨by simp [Tryz.ntmps52], fun X nx R hR => ?_⟩
      (((try simp only [cl_seq, cl_skip]); with_reducible refine cl_reg fun K hK => ?_; (simp (maxSteps := 1000000) only [go_sem, tt, keep52]); (repeat refine ck ?_); (first | ((try simp (disch := omega) only [wrap64, wrapi64]); refine hK _ ?_; clear hK K) | skip)))
      (((try simp only [cl_seq, cl_skip]); with_reducible refine cl_reg fun K hK => ?_; (simp (maxSteps := 1000000) only [go_sem, tt, keep52]); (repeat refine ck ?_); (first | ((try simp (disch := omega) only [wrap64, wrapi64]); refine hK _ ?_; clear hK K) | skip)))
      (((try simp only [cl_seq, cl_skip]); with_reducible refine cl_reg fun K hK => ?_; (simp (maxSteps := 1000000) only [go_sem, tt, keep52, wrap64 (n := n - 3776) (by omega) (by omega)]); (repeat refine ck ?_); (first | ((try simp (disch := omega) only [wrap64, wrapi64]); refine hK _ ?_; clear hK K) | skip)))
      (((try simp only [cl_seq, cl_skip]); with_reducible refine cl_reg fun K hK => ?_; (simp (maxSteps := 1000000) only [go_sem, tt, keep52]); (repeat refine ck ?_); (first | ((try simp (disch := omega) only [wrap64, wrapi64]); refine hK _ ?_; clear hK K) | skip)))
      (((try simp only [cl_seq, cl_skip]); (try simp only [cl_ret]); refine hR _ _ (.inr rfl) ?_; (simp (maxSteps := 1000000) only [go_sem, tt])))
      rfl
    · cases h
  · cases h
def freeF : List AD → Option RV
  | [.one (.int .u64 a), .one (.int .u64 b)] => some (.a (.many (Bk.c ⟨a, b, false, 0, 0⟩)))
  | _ => none
theorem free_ok : FnPure Tryz.prog 115 freeF := by
  (refine fn_pure' (f := 115) mixed Tryz.func115 rfl (fun X => { nt := 12, tt := tt, fns := ofList [], keep := keep115, X := X }) (fun X => ok_of tt_ok trivial (noEqs _)) (fun _ => rfl) (fun _ => rfl) (by decide) Tryz.results115 freeF ?_)
  intro l r h
  unfold freeF at h
  split at h
  · rename_i a b
    injection h with h
    subst h
    refine ⟨by simp [Tryz.ntmps115], fun X nx R hR => ?_⟩
    (((try simp only [cl_seq, cl_skip]); with_reducible refine cl_reg fun K hK => ?_; (simp (maxSteps := 1000000) only [go_sem, tt, keep115]); (repeat refine ck ?_); (first | ((try simp (disch := omega) only [wrap64, wrapi64]); refine hK _ ?_; clear hK K) | skip)))
    (((try simp only [cl_seq, cl_skip]); with_reducible refine cl_reg fun K hK => ?_; (simp (maxSteps := 1000000) only [go_sem, tt, keep115]); (repeat refine ck ?_); (first | ((try simp (disch := omega) only [wrap64, wrapi64]); refine hK _ ?_; clear hK K) | skip)))
    (((try simp only [cl_seq, cl_skip]); with_reducible refine cl_reg fun K hK => ?_; (simp (maxSteps := 1000000) only [go_sem, tt, keep115]); (repeat refine ck ?_); (first | ((try simp (disch := omega) only [wrap64, wrapi64]); refine hK _ ?_; clear hK K) | skip)))
    (((try simp only [cl_seq, cl_skip]); with_reducible refine cl_reg fun K hK => ?_; (simp (maxSteps := 1000000) only [go_sem, tt, keep115]); (repeat refine ck ?_); (first | ((try simp (disch := omega) only [wrap64, wrapi64]); refine hK _ ?_; clear hK K) | skip)))
    (((try simp only [cl_seq, cl_skip]); (try simp only [cl_ret]); refine hR _ _ (.inr rfl) ?_; (simp (maxSteps := 1000000) only [go_sem, tt])))
    rfl
  · cases h
def alignV (a : Int) : Bool := pow2 a && decide (16 ≤ a) && decide (a ≤ 4096)
def alignF : List AD → Option RV
  | [.one (.int .u64 a)] => if U64 a then some (.a (.one (.bool (alignV a)))) else none
  | _ => none
theorem alignF_eq {a : Int} (h : U64 a) : alignF [.one (.int .u64 a)] = some (.a (.one (.bool (alignV a)))) := by simp [alignF, h]
theorem align_ok : FnPure Tryz.prog 132 alignF := by
  (refine fn_pure' (f := 132) mixed Tryz.func132 rfl (fun X => { nt := 25, tt := tt, fns := ofList ([(134, .pure upF)]), keep := keep132, X := X }) (fun X => ok_of tt_ok (⟨up_ok, by kernel_rfl, trivial⟩) (noEqs _)) (fun _ => rfl) (fun _ => rfl) (by decide) Tryz.results132 alignF ?_)
  intro l r h
  unfold alignF at h
  split at h
  · rename_i a
    split at h
    · rename_i ha
      have ha' := ha
      unfold U64 at ha
      injection h with h
      subst h
      refine ⟨by simp [Tryz.ntmps132], fun X nx R hR => ?_⟩
      have hu : upV a a = if pow2 a then some a else none := by
        unfold upV
        split
        · rw [if_pos Int.emod_self]
        · rfl
      (((try simp only [cl_seq, cl_skip]); with_reducible refine cl_reg fun K hK => ?_; (simp (maxSteps := 1000000) only [go_sem, tt, keep132]); (repeat refine ck ?_); (first | ((try simp (disch := omega) only [wrap64, wrapi64]); refine hK _ ?_; clear hK K) | skip)))
      (((try simp only [cl_seq, cl_skip]); with_reducible refine cl_reg fun K hK => ?_; (simp (maxSteps := 1000000) only [go_sem, tt, keep132, upF_eq ha' ha', optV, hu]); (repeat refine ck ?_); (first | ((try simp (disch := omega) only [wrap64, wrapi64]); refine hK _ ?_; clear hK K) | skip)))
      cases hp : pow2 a with
      | true =>
        (((try simp only [cl_seq, cl_skip]); refine cl_reg_b (g := ?g106) (t := ?t106) (L := ?L106) ((alignV a)) (fun K hK => ?h1106) ?h2106; case' h1106 => (simp (maxSteps := 1000000) only [go_sem, tt, keep132, hp, Option.isSome_some, Option.getD_some]); (repeat refine ck ?_); (repeat' (((refine ite_split (fun hb => ?_) (fun hb => ?_) <;> ((try (simp (maxSteps := 1000000) only [go_sem, hb, tt, keep132, hp, Option.isSome_some, Option.getD_some])); (repeat refine ck ?_)))))); all_goals (first | ((try simp (disch := omega) only [wrap64, wrapi64]); refine hK _ ?_; clear hK K; first | rfl | grind | skip) | skip)))
        · simp_all [alignV]
        · simp_all [alignV]; omega
        (((try simp only [cl_seq, cl_skip]); (try simp only [cl_ret]); refine hR _ _ (.inr rfl) ?_; (simp (maxSteps := 1000000) only [go_sem])))
      | false =>
        (((try simp only [cl_seq, cl_skip]); refine cl_reg_b (g := ?g107) (t := ?t107) (L := ?L107) ((alignV a)) (fun K hK => ?h1107) ?h2107; case' h1107 => (simp (maxSteps := 1000000) only [go_sem, tt, keep132, hp, Option.isSome_none, Option.getD_none]); (repeat refine ck ?_); (repeat' (((refine ite_split (fun hb => ?_) (fun hb => ?_) <;> ((try (simp (maxSteps := 1000000) only [go_sem, hb, tt, keep132, hp, Option.isSome_none, Option.getD_none])); (repeat refine ck ?_)))))); all_goals (first | ((try simp (disch := omega) only [wrap64, wrapi64]); refine hK _ ?_; clear hK K; first | rfl | grind | skip) | skip)))
        · simp_all [alignV]
        (((try simp only [cl_seq, cl_skip]); (try simp only [cl_ret]); refine hR _ _ (.inr rfl) ?_; (simp (maxSteps := 1000000) only [go_sem])))
    · cases h
  · cases h
def padV (off a : Int) : Int := if (off + 32) % a = 0 then 0 else (off + 79 + a) / a * a - (off + 32)
theorem pad_facts {off a : Int} (ho : off % 16 = 0) (ha : a % 16 = 0) (h16 : 16 ≤ a) : padV off a % 16 = 0 ∧ 0 ≤ padV off a ∧ padV off a ≤ 48 + a ∧ ((off + 32) % a ≠ 0 → 48 ≤ padV off a ∧ (off + 32 + padV off a) % a = 0) := by
  unfold padV
  split
  · rename_i h; refine ⟨by omega, by omega, by omega, fun h' => absurd h h'⟩
  · have h1 := Int.mul_ediv_add_emod (off + 79 + a) a
    have h2 := Int.emod_nonneg (off + 79 + a) (show a ≠ 0 by omega)
    have h3 := Int.emod_lt_of_pos (off + 79 + a) (show 0 < a by omega)
    have h4 : a * ((off + 79 + a) / a) = (off + 79 + a) / a * a := Int.mul_comm _ _
    have h5 : ((off + 79 + a) / a * a) % 16 = 0 := by
      exact Int.emod_eq_zero_of_dvd (Int.dvd_trans (Int.dvd_of_emod_eq_zero ha) (Int.dvd_mul_left _ _))
    refine ⟨by omega, by omega, by omega, fun _ => ⟨by omega, ?_⟩⟩
    rw [show off + 32 + ((off + 79 + a) / a * a - (off + 32)) = (off + 79 + a) / a * a by omega]
    exact Int.mul_emod_left _ _
theorem pad_least {off a n : Int} (ho : off % 16 = 0) (ha : a % 16 = 0) (h16 : 16 ≤ a) (hn : n % 16 = 0) (h0 : 0 ≤ n) (hl : n ≤ padV off a) : ((off + 32 + n) % a ≠ 0 ∨ 0 < n ∧ n < 48) ↔ n ≠ padV off a := by
  obtain ⟨f1, f2, f3, f4⟩ := pad_facts ho ha h16
  constructor
  · rintro h rfl
    by_cases hz : (off + 32) % a = 0
    · have : padV off a = 0 := by unfold padV; rw [if_pos hz]
      rw [this] at h
      simp only [Int.add_zero] at h
      omega
    · obtain ⟨g1, g2⟩ := f4 hz
      omega
  · intro hne
    by_cases hz : (off + 32) % a = 0
    · have : padV off a = 0 := by unfold padV; rw [if_pos hz]
      omega
    · by_cases h48 : n < 48
      · by_cases hn0 : n = 0
        · left; rw [hn0, Int.add_zero]; exact hz
        · right; omega
      · left
        intro hm
        have hp : padV off a = (off + 79 + a) / a * a - (off + 32) := by unfold padV; rw [if_neg hz]
        have h1 := Int.mul_ediv_add_emod (off + 79 + a) a
        have h2 := Int.emod_nonneg (off + 79 + a) (show a ≠ 0 by omega)
        have h4 : a * ((off + 79 + a) / a) = (off + 79 + a) / a * a := Int.mul_comm _ _
        obtain ⟨m, hm⟩ := Int.dvd_of_emod_eq_zero hm
        have hlt : a * m < a * ((off + 79 + a) / a) := by omega
        have hlt' := Int.lt_of_mul_lt_mul_left hlt (by omega)
        have hle : a * m ≤ a * ((off + 79 + a) / a - 1) := Int.mul_le_mul_of_nonneg_left (by omega) (by omega)
        rw [Int.mul_sub] at hle
        omega
def padF : List AD → Option RV
  | [.one (.int .u64 off), .one (.int .u64 a)] => if 0 ≤ off ∧ off ≤ 1099511627776 ∧ off % 16 = 0 ∧ 16 ≤ a ∧ a ≤ 4096 ∧ a % 16 = 0 then some (.a (.one (.int .u64 (padV off a)))) else none
  | _ => none
theorem padF_eq {off a : Int} (h : 0 ≤ off ∧ off ≤ 1099511627776 ∧ off % 16 = 0 ∧ 16 ≤ a ∧ a ≤ 4096 ∧ a % 16 = 0) : padF [.one (.int .u64 off), .one (.int .u64 a)] = some (.a (.one (.int .u64 (padV off a)))) := by simp [padF, h]
theorem pad_ok : FnPure Tryz.prog 133 padF := by
  (refine fn_pure' (f := 133) mixed Tryz.func133 rfl (fun X => { nt := 24, tt := tt, fns := ofList [], keep := keep133, X := X }) (fun X => ok_of tt_ok trivial (noEqs _)) (fun _ => rfl) (fun _ => rfl) (by decide) Tryz.results133 padF ?_)
  intro l r h
  unfold padF at h
  split at h
  · rename_i off a
    split at h
    · rename_i hh
      obtain ⟨o0, o1, o16, a16, a1, am⟩ := hh
      injection h with h
      subst h
      obtain ⟨f1, f2, f3, f4⟩ := pad_facts o16 am a16
      refine ⟨by simp [Tryz.ntmps133], fun X nx R hR => ?_⟩
      (((try simp only [cl_seq, cl_skip]); with_reducible refine cl_reg fun K hK => ?_; (simp (maxSteps := 1000000) only [go_sem, tt, keep133]); (repeat refine ck ?_); (first | ((try simp (disch := omega) only [wrap64, wrapi64]); refine hK _ ?_; clear hK K) | skip)))
      (((try simp only [cl_seq, cl_skip]); with_reducible refine cl_reg fun K hK => ?_; (simp (maxSteps := 1000000) only [go_sem, tt, keep133]); (repeat refine ck ?_); (first | ((try simp (disch := omega) only [wrap64, wrapi64]); refine hK _ ?_; clear hK K) | skip)))
      (((try simp only [cl_seq, cl_skip]); refine cl_block fun K hK1 R hR1 X hX1 => ?_))
      refine cl_loop (fun E k => ∃ n : Int, 0 ≤ n ∧ n ≤ padV off a ∧ n % 16 = 0 ∧ k = (padV off a - n).toNat ∧ E = mk [(1000000, .heap (fun _ => none) nx), (5, .v (.one (.int .u64 n))), (0, .v (.one (.int .u64 off))), (1, .v (.one (.int .u64 a)))]) (padV off a).toNat ⟨0, by omega, by omega, by omega, by omega, rfl⟩ ?_
      rintro E k ⟨n, n0, n1, n16, rfl, rfl⟩ J hJ R2 hR2 X2 hX2
      have hle := pad_least o16 am a16 n16 n0 n1
      (((try simp only [cl_seq, cl_skip]); refine cl_reg_b (g := ?g108) (t := ?t108) (L := ?L108) ((decide (n ≠ padV off a))) (fun K hK => ?h1108) ?h2108; case' h1108 => (simp (maxSteps := 1000000) only [go_sem, tt, keep133, show ¬ a = 0 by omega, wrap64 (n := off + 32) (by omega) (by omega), wrap64 (n := off + 32 + n) (by omega) (by omega), Int.tmod_eq_emod_of_nonneg (a := off + 32 + n) (b := a) (by omega)]); (repeat refine ck ?_); (repeat' (((refine ite_split (fun hb => ?_) (fun hb => ?_) <;> ((try (simp (maxSteps := 1000000) only [go_sem, hb, tt, keep133, show ¬ a = 0 by omega, wrap64 (n := off + 32) (by omega) (by omega), wrap64 (n := off + 32 + n) (by omega) (by omega), Int.tmod_eq_emod_of_nonneg (a := off + 32 + n) (b := a) (by omega)])); (repeat refine ck ?_)))))); all_goals (first | ((try simp (disch := omega) only [wrap64, wrapi64]); refine hK _ ?_; clear hK K; first | rfl | grind | skip) | skip)))
      (((try simp only [cl_seq, cl_skip]); refine cl_cond rfl (fun hc => ?_) (fun hc => ?_)))
      · simp only [decide_eq_true_eq] at hc
        (((try simp only [cl_seq, cl_skip]); refine cl_block fun K hK3 R hR3 X hX3 => ?_))
        (((try simp only [cl_seq, cl_skip]); with_reducible refine cl_reg fun K hK => ?_; (simp (maxSteps := 1000000) only [go_sem, tt, keep133, wrap64 (n := n + 16) (by omega) (by omega)]); (repeat refine ck ?_); (first | ((try simp (disch := omega) only [wrap64, wrapi64]); refine hK _ ?_; clear hK K) | skip)))
        ((try simp only [cl_seq, cl_skip, cl_exit, cl_nil]))
        exact hK3 _ (hJ _ (padV off a - (n + 16)).toNat (by omega) ⟨n + 16, by omega, by omega, by omega, rfl, rfl⟩)
      · simp only [decide_eq_false_iff_not, Decidable.not_not, ne_eq] at hc
        subst hc
        ((try simp only [cl_seq, cl_skip, cl_exit, cl_nil]))
        refine hX2 0 _ (hK1 _ ?_)
        (((try simp only [cl_seq, cl_skip]); with_reducible refine cl_reg fun K hK => ?_; (simp (maxSteps := 1000000) only [go_sem, tt, keep133]); (repeat refine ck ?_); (first | ((try simp (disch := omega) only [wrap64, wrapi64]); refine hK _ ?_; clear hK K) | skip)))
        (((try simp only [cl_seq, cl_skip]); (try simp only [cl_ret]); refine hR _ _ (.inr rfl) ?_; (simp (maxSteps := 1000000) only [go_sem])))
    · cases h
  · cases h
end Go.Proofs.YtapdaefpkddioaaGreat.Pe
