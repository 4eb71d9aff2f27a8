/- A part of the proof of PmD. -/
import Derived.Test.YtapdaefpkddioaaGreatCb19
set_option linter.unusedSimpArgs false
set_option linter.unusedVariables false
set_option linter.unusedSectionVars false
namespace Go.Proofs.YtapdaefpkddioaaGreat.Pe
open Go
set_option maxHeartbeats 2000000
theorem rowsL_get' (l : List (List Int)) (i : Nat) (h : i < l.length) : (rowsL l)[i]? = some (.sl (rowsN l[i])) := by simp [rowsL, h]
theorem rowsL_take8 (l : List (List Int)) (h : (rowsL l).length = 8) : (rowsL l).take 8 = rowsL l := by rw [← h, List.take_length]
attribute [go_sem] rowsL_take8 rowsL_get'
theorem rowsL_set (l : List (List Int)) (i : Nat) (m : List Int) : (rowsL l).set i (.sl (rowsN m)) = rowsL (l.set i m) := by simp [rowsL, List.map_set]
theorem rowsB_take (l : List Bk) (i : Nat) : (rowsB l).take i = rowsB (l.take i) := by simp [rowsB, List.map_take]
theorem rowsB_drop (l : List Bk) (i : Nat) : (rowsB l).drop i = rowsB (l.drop i) := by simp [rowsB, List.map_drop]
theorem rowsB_set (l : List Bk) (i : Nat) (b : Bk) : (rowsB l).set i b.c = rowsB (l.set i b) := by simp [rowsB, List.map_set]
theorem rd8 (a b : D) (ls : List (List Int)) (k : Nat) (h : k < ls.length) : List.take 1 (List.drop (2 + k * 1) (a :: b :: rowsL ls)) = [.sl (rowsN ls[k])] := by
  rw [Nat.mul_one, Nat.add_comm, List.drop_succ_cons, List.drop_succ_cons, List.drop_eq_getElem_cons (by rw [rowsL_len]; exact h)]
  simp [rowsL]
theorem wr8 (a b : D) (ls : List (List Int)) (k : Nat) (m : List Int) (h : k < ls.length) : List.take (2 + k * 1) (a :: b :: rowsL ls) ++ [.sl (rowsN m)] ++ List.drop (2 + k * 1) (b :: rowsL ls) = a :: b :: rowsL (ls.set k m) := by
  rw [Nat.mul_one, Nat.add_comm, ← rowsL_set]
  rw [List.take_succ_cons, List.take_succ_cons, show k + 2 = k + 1 + 1 by omega, List.drop_succ_cons]
  simp only [List.cons_append, List.nil_append, List.append_assoc, List.singleton_append]
  rw [List.set_eq_take_append_cons_drop, if_pos (by rw [rowsL_len]; exact h)]
attribute [go_sem] rd8 wr8 List.length_set
theorem rowsB_cons (b : Bk) (l : List Bk) : b.c :: rowsB l = rowsB (b :: l) := rfl
theorem take_drop_all {α : Type} (l : List α) (k : Nat) : (l.drop k).take (l.length - k) = l.drop k := by rw [← List.length_drop, List.take_length]
attribute [go_sem] rowsB_take rowsB_drop take_drop_all
theorem rowsB_one (b : Bk) : [b.c] = rowsB [b] := rfl
theorem rowsB_nil : ([] : List (List D)) = rowsB [] := rfl
theorem best_fits (l : List Bk) (need a : Int) : ∀ n j, bestUpto l need a n = some j → ∃ h : j < l.length, fits need a l[j] = true
  | 0, j, h => by cases h
  | n + 1, j, h => by
    rw [best_succ] at h
    have ih := best_fits l need a n j
    unfold bestStep at h
    split at h
    · rename_i b hb
      obtain ⟨hn, hb⟩ := List.getElem?_eq_some_iff.1 hb
      split at h
      · rename_i hf
        injection h with h; subst h
        simp only [Bool.and_eq_true] at hf
        exact ⟨hn, by rw [hb]; exact hf.1⟩
      · exact ih h
    · exact ih h
inductive FitIs (l : List Bk) (n a : Int) : Int × Int × Int × Int → Prop
  | bad (e : Int) (h : e = 1 ∨ e = 2 ∨ e = 3) : FitIs l n a (0, 0, 0, e)
  | good (i : Nat) (need : Int) (hi : i < l.length) (hf : fits need a l[i] = true) (hn : needV n = some need) (ha : alignV a = true) : FitIs l n a (i, padV l[i].off a, need, 0)
theorem fit_is (l : List Bk) (n a : Int) : FitIs l n a (fitV l n a) := by
  unfold fitV
  split
  · rename_i ha
    split
    · exact .bad 2 (by omega)
    · rename_i need hn
      split
      · exact .bad 3 (by omega)
      · rename_i i hi
        obtain ⟨h1, h2⟩ := best_fits _ _ _ _ _ hi
        rw [List.getElem?_eq_getElem h1]
        exact .good i need h1 h2 hn ha
  · exact .bad 1 (by omega)
def freeB (off size : Int) : Bk := ⟨off, size, false, 0, 0⟩
def takeB (l : List Bk) (i : Nat) (before need owner n : Int) : List Bk := match l[i]? with
  | none => l
  | some b =>
    let rest := b.size - before - need
    l.take i ++ ((if 0 < before then [freeB b.off before] else []) ++ ([⟨b.off + before, if rest < 48 then need + rest else need, true, owner, n⟩] ++ ((if 48 ≤ rest then [freeB (b.off + before + need) rest] else []) ++ l.drop (i + 1))))
def listAdd (ls : List (List Int)) (owner off : Int) : List (List Int) :=
  if 0 < owner then ls.set (owner - 1).toNat (off :: (ls[(owner - 1).toNat]?.getD [])) else ls
def takeV (h : Hpp) (owner n a : Int) : Hpp × Int × Int :=
  let (i, before, need, e) := fitV h.bl n a
  if e = 0 then
    let off := ((h.bl[i.toNat]?.map (·.off)).getD 0) + before
    ({ h with bl := takeB h.bl i.toNat before need owner n, ls := listAdd h.ls owner off }, off + 32, 0)
  else (h, 0, e)
def takeRV (x : Hpp × Int × Int) : RV := .tup [.many x.1.c, .one (.int .u64 x.2.1), .one (.int .i64 x.2.2)]
def encHINN (x : Hpp × Int × Int × Int) : List AD := [.many x.1.c, .one (.int .i64 x.2.1), .one (.int .u64 x.2.2.1), .one (.int .u64 x.2.2.2)]
theorem encHINN_inj (x y : Hpp × Int × Int × Int) (h : encHINN x = encHINN y) : x = y := by
  obtain ⟨a, b, c, z⟩ := x; obtain ⟨d, e, f, g⟩ := y
  simp only [encHINN, List.cons.injEq, AD.one.injEq, AD.many.injEq, D.int.injEq, true_and, and_true] at h
  rw [Hpp.c_inj h.1, h.2.1, h.2.2.1, h.2.2.2]
noncomputable def takeF : List AD → Option RV := byEnc encHINN (fun x => x.1.ok ∧ x.1.al ∧ 0 ≤ x.2.1 ∧ x.2.1 ≤ 8 ∧ U64 x.2.2.1 ∧ U64 x.2.2.2) fun x => takeRV (takeV x.1 x.2.1 x.2.2.1 x.2.2.2)
theorem takeF_eq {h : Hpp} {o n a : Int} (hh : h.ok) (ha : h.al) (o0 : 0 ≤ o) (o1 : o ≤ 8) (h0 : U64 n) (h1 : U64 a) : takeF [.many h.c, .one (.int .i64 o), .one (.int .u64 n), .one (.int .u64 a)] = some (takeRV (takeV h o n a)) := byEnc_eq (x := (h, o, n, a)) encHINN_inj ⟨hh, ha, o0, o1, h0, h1⟩
theorem freeF_eq {a b : Int} : freeF [.one (.int .u64 a), .one (.int .u64 b)] = some (.a (.many (freeB a b).c)) := rfl
theorem take_ok : FnPure Tryz.prog 79 takeF := by
  (refine fn_pure' (f := 79) mixed Tryz.func79 rfl (fun X => { nt := 129, tt := tt, fns := ofList ([(114, .pure fitF), (115, .pure freeF), (116, .pure firstF)]), keep := keep79, X := X }) (fun X => ok_of tt_ok (⟨fit_ok, by kernel_rfl, free_ok, by kernel_rfl, first_ok, by kernel_rfl, trivial⟩) (noEqs _)) (fun _ => rfl) (fun _ => rfl) (by decide) Tryz.results79 takeF ?_)
  intro l r hq
  obtain ⟨⟨h, o, n, a⟩, rfl, ⟨hh, hal, o0, o1, hn, ha⟩, hr⟩ := byEnc_some hq
  clear hq
  simp only at hh hal hn ha o0 o1 hr
  have hsm := hh.sm
  simp only [Sm] at hsm
  have h8 : (rowsL h.ls).length = 8 := by rw [rowsL_len]; exact hh.eight
  have h8' := hh.eight
  refine ⟨by simp [encHINN, Tryz.ntmps79], fun X nx R hR => ?_⟩
  simp only [encHINN, Hpp.c]
  (repeat ((try simp only [cl_seq, cl_skip]); with_reducible refine cg fun K hK => ?_; (simp (maxSteps := 1000000) only [go_sem, h8, show ¬ o < 0 by omega, show ¬ 8 < o by omega]); (repeat refine ck ?_); (try simp (disch := omega) only [wrap64, wrapi64]); refine hK _ ?_; clear hK K))
  (((try simp only [cl_seq, cl_skip]); refine cl_cond rfl (fun h1 => ?_) (fun h1 => ?_)))
  · exact absurd h1 (by simp)
  clear h1
  have hfe := fitF_eq hh hal hn ha
  rw [Hpp.c] at hfe
  unfold takeV at hr
  generalize hfv : fitV h.bl n a = fv at *
  have hfi := fit_is h.bl n a
  rw [hfv] at hfi
  cases hfi with
  | bad e he =>
    (repeat ((try simp only [cl_seq, cl_skip]); with_reducible refine cg fun K hK => ?_; (simp (maxSteps := 1000000) only [go_sem, h8, hfe, fitRV]); (repeat refine ck ?_); (try simp (disch := omega) only [wrap64, wrapi64]); refine hK _ ?_; clear hK K))
    (((try simp only [cl_seq, cl_skip]); refine cl_cond rfl (fun h2 => ?_) (fun h2 => ?_)))
    · (repeat ((try simp only [cl_seq, cl_skip]); with_reducible refine cg fun K hK => ?_; (simp (maxSteps := 1000000) only [go_sem, h8]); (repeat refine ck ?_); (try simp (disch := omega) only [wrap64, wrapi64]); refine hK _ ?_; clear hK K))
      (((try simp only [cl_seq, cl_skip]); (try simp only [cl_ret]); refine hR _ _ (.inr rfl) ?_; (simp (maxSteps := 1000000) only [go_sem, h8])))
      simp only [hr, show ¬ e = 0 by omega, ↓reduceIte]
      rfl
    · exact absurd h2 (by simp; omega)
  | good i need hi hf hnn haa =>
    simp only [↓reduceIte] at hr
    have hb := hh.bs _ (List.getElem_mem hi)
    have hb16 := hal _ (List.getElem_mem hi)
    have hb0 := hb.off0
    have hb1 := hb.off1
    have hs0 := hb.size0
    have hs1 : h.bl[i].size ≤ 1099511627776 := Int.le_trans (size_le (fun b h' => (hh.bs b h').size0) (List.getElem_mem hi)) hh.sum
    have hget : h.bl[i]? = some h.bl[i] := List.getElem?_eq_getElem hi
    simp only [fits, Bool.and_eq_true, Bool.not_eq_true', decide_eq_true_eq] at hf
    obtain ⟨⟨f1, f2⟩, f3⟩ := hf
    obtain ⟨n0, n1, n16, _⟩ := needV_range hn hnn
    have hp := (pad_facts hb16 (align_16 haa).1 (align_16 haa).2.1).2.1
    simp only [Int.toNat_natCast, hget, Option.map_some, Option.getD_some] at hr
    generalize padV h.bl[i].off a = pd at *
    (repeat ((try simp only [cl_seq, cl_skip]); with_reducible refine cg fun K hK => ?_; (simp (maxSteps := 1000000) only [go_sem, h8, hfe, fitRV]); (repeat refine ck ?_); (try simp (disch := omega) only [wrap64, wrapi64]); refine hK _ ?_; clear hK K))
    (((try simp only [cl_seq, cl_skip]); refine cl_cond rfl (fun h2 => ?_) (fun h2 => ?_)))
    · exact absurd h2 (by simp)
    (repeat ((try simp only [cl_seq, cl_skip]); with_reducible refine cg fun K hK => ?_; (simp (maxSteps := 1000000) only [go_sem, h8, hi, Bk.c]); (repeat refine ck ?_); (try simp (disch := omega) only [wrap64, wrapi64]); refine hK _ ?_; clear hK K))
    have hlt : (h.bl.take i).length ≤ 100000 := by rw [List.length_take]; omega
    have hld : (h.bl.drop (i + 1)).length ≤ 100000 := by rw [List.length_drop]; omega
    (((try simp only [cl_seq, cl_skip]); refine cl_cond rfl (fun h3 => ?_) (fun h3 => ?_)))
    all_goals simp only [decide_eq_true_eq, decide_eq_false_iff_not] at h3
    all_goals (repeat ((try simp only [cl_seq, cl_skip]); with_reducible refine cg fun K hK => ?_; (simp (maxSteps := 1000000) only [go_sem, h8, hi, Bk.c, freeF_eq, freeB, rowsB_len, List.length_append]); (repeat refine ck ?_); (try simp (disch := omega) only [wrap64, wrapi64]); refine hK _ ?_; clear hK K))
    all_goals (((try simp only [cl_seq, cl_skip]); refine cl_cond rfl (fun h4 => ?_) (fun h4 => ?_)))
    all_goals simp only [decide_eq_true_eq, decide_eq_false_iff_not] at h4
    all_goals (repeat ((try simp only [cl_seq, cl_skip]); with_reducible refine cg fun K hK => ?_; (simp (maxSteps := 1000000) only [go_sem, h8, hi, Bk.c, freeF_eq, freeB, rowsB_len, List.length_append]); (repeat refine ck ?_); (try simp (disch := omega) only [wrap64, wrapi64]); refine hK _ ?_; clear hK K))
    all_goals (((try simp only [cl_seq, cl_skip]); refine cl_cond rfl (fun h5 => ?_) (fun h5 => ?_)))
    all_goals simp only [decide_eq_true_eq, decide_eq_false_iff_not] at h5
    all_goals try (exfalso; omega)
    all_goals (repeat ((try simp only [cl_seq, cl_skip]); with_reducible refine cg fun K hK => ?_; (simp (maxSteps := 1000000) only [go_sem, h8, hi, Bk.c, freeF_eq, freeB, rowsB_len, List.length_append, wrapi64 (n := (i : Int) + 1) (by omega) (by omega), show ((i : Int) + 1).toNat = i + 1 by omega]); (repeat refine ck ?_); (try simp (disch := omega) only [wrap64, wrapi64]); refine hK _ ?_; clear hK K))
    all_goals (((try simp only [cl_seq, cl_skip]); refine cl_cond rfl (fun h6 => ?_) (fun h6 => ?_)))
    all_goals simp only [decide_eq_true_eq, decide_eq_false_iff_not] at h6
    all_goals have hk : (o - 1).toNat < 8 := by omega
    all_goals rw [hr] at hR
    any_goals
      have hk' : (o - 1).toNat < h.ls.length := by omega
      have hf1 := firstF_eq (x := h.bl[i].off + pd) (hh.lsm _ (List.getElem_mem hk'))
      (repeat ((try simp only [cl_seq, cl_skip]); with_reducible refine cg fun K hK => ?_; (simp (maxSteps := 1000000) only [go_sem, h8, h8', hk, hk', hf1, wrapi64 (n := o - 1) (by omega) (by omega)]); (repeat refine ck ?_); (try simp (disch := omega) only [wrap64, wrapi64]); refine hK _ ?_; clear hK K))
      (((try simp only [cl_seq, cl_skip]); (try simp only [cl_ret]); refine hR _ _ (.inr rfl) ?_; (simp (maxSteps := 1000000) only [go_sem, h8, h8'])))
      first
      | simp [takeRV, takeB, hget, h3, h4, h6, listAdd, Hpp.c, rowsB, Bk.c, freeB, List.getElem?_eq_getElem (show o.toNat - 1 < h.ls.length by omega), show 48 ≤ h.bl[i].size - pd - need by omega]; done
      | simp [takeRV, takeB, hget, h3, h4, h6, listAdd, Hpp.c, rowsB, Bk.c, freeB, List.getElem?_eq_getElem (show o.toNat - 1 < h.ls.length by omega), show ¬ 48 ≤ h.bl[i].size - pd - need by omega]; done
    all_goals
      (repeat ((try simp only [cl_seq, cl_skip]); with_reducible refine cg fun K hK => ?_; (simp (maxSteps := 1000000) only [go_sem, h8]); (repeat refine ck ?_); (try simp (disch := omega) only [wrap64, wrapi64]); refine hK _ ?_; clear hK K))
      (((try simp only [cl_seq, cl_skip]); (try simp only [cl_ret]); refine hR _ _ (.inr rfl) ?_; (simp (maxSteps := 1000000) only [go_sem, h8])))
      first
      | simp [takeRV, takeB, hget, h3, h4, h6, listAdd, Hpp.c, rowsB, Bk.c, freeB, show 48 ≤ h.bl[i].size - pd - need by omega]; done
      | simp [takeRV, takeB, hget, h3, h4, h6, listAdd, Hpp.c, rowsB, Bk.c, freeB, show ¬ 48 ≤ h.bl[i].size - pd - need by omega]; done
end Go.Proofs.YtapdaefpkddioaaGreat.Pe
namespace Go.Proofs.YtapdaefpkddioaaGreat.Pe
open Go
def chain : Int → List Bk → Int → Prop
  | a, [], z => a = z
  | a, b :: l, z => b.off = a ∧ chain (a + b.size) l z
theorem chain_app {a z : Int} {l m : List Bk} : chain a (l ++ m) z ↔ ∃ y, chain a l y ∧ chain y m z := by
  induction l generalizing a with
  | nil => simp [chain]
  | cons b l ih => simp [chain, ih, and_assoc]
theorem chain_sizes {a z : Int} {l : List Bk} (h : chain a l z) : sizes l = z - a := by
  induction l generalizing a with
  | nil => simp only [chain] at h; simp [sizes, h]
  | cons b l ih => have := ih h.2; simp only [sizes, List.map_cons, List.sum_cons] at *; omega
theorem chain_le {a z : Int} {l : List Bk} (h : chain a l z) (hs : ∀ b ∈ l, 0 ≤ b.size) : a ≤ z := by
  have h1 := chain_sizes h
  have h2 := sizes_nonneg hs
  omega
theorem chain_mem {a z : Int} {l : List Bk} (h : chain a l z) (hs : ∀ b ∈ l, 0 ≤ b.size) {b : Bk} (hb : b ∈ l) : a ≤ b.off ∧ b.off + b.size ≤ z := by
  obtain ⟨s, t, rfl⟩ := List.append_of_mem hb
  obtain ⟨y, h1, h2, h3⟩ := chain_app.1 h
  have e1 := chain_le h1 (fun x hx => hs x (by simp [hx]))
  have e2 := chain_le h3 (fun x hx => hs x (by simp [hx]))
  omega
theorem chain_joinStep {a y : Int} {out : List Bk} {b : Bk} (h : chain a out y) (hb : b.off = y) : chain a (joinStep out b) (y + b.size) := by
  unfold joinStep
  split
  · rename_i c hc
    obtain ⟨ys, rfl⟩ := List.getLast?_eq_some_iff.1 hc
    obtain ⟨x, h1, h2⟩ := chain_app.1 h
    simp only [chain] at h2
    split
    · rw [List.dropLast_concat]
      exact chain_app.2 ⟨x, h1, h2.1, by have := h2.2; simp only [chain]; omega⟩
    · exact chain_app.2 ⟨y, h, hb, rfl⟩
  · rename_i hc
    rw [List.getLast?_eq_none_iff] at hc
    subst hc
    simp only [chain] at *
    omega
theorem chain_joined {a z : Int} {l : List Bk} (h : chain a l z) : chain a (joined l) z := by
  have : ∀ (l out : List Bk) (y : Int), chain a out y → chain y l z → chain a (l.foldl joinStep out) z := by
    intro l
    induction l with
    | nil => intro out y h1 h2; simp only [chain] at h2; subst h2; exact h1
    | cons b l ih => intro out y h1 h2; exact ih _ _ (chain_joinStep h1 h2.1) h2.2
  exact this l [] a rfl h
theorem used_joinStep (out : List Bk) (b : Bk) : (joinStep out b).filter (·.used) = out.filter (·.used) ++ [b].filter (·.used) := by
  unfold joinStep
  split
  · rename_i c hc
    obtain ⟨ys, rfl⟩ := List.getLast?_eq_some_iff.1 hc
    split
    · rename_i h
      simp only [Bool.and_eq_true, Bool.not_eq_true'] at h
      simp [h.1, h.2]
    · rw [List.filter_append]
  · rename_i hc
    rw [List.getLast?_eq_none_iff] at hc
    subst hc; simp
theorem used_joined (l : List Bk) : (joined l).filter (·.used) = l.filter (·.used) := by
  have : ∀ (l out : List Bk), (l.foldl joinStep out).filter (·.used) = out.filter (·.used) ++ l.filter (·.used) := by
    intro l
    induction l with
    | nil => intro out; simp
    | cons b l ih => intro out; rw [List.foldl_cons, ih, used_joinStep, List.append_assoc, ← List.filter_append]; rfl
  simpa [joined] using this l []
theorem mem_used {l m : List Bk} (h : l.filter (·.used) = m.filter (·.used)) {b : Bk} (hu : b.used = true) : b ∈ l ↔ b ∈ m := by
  have h1 : b ∈ l.filter (·.used) ↔ b ∈ m.filter (·.used) := by rw [h]
  simpa [List.mem_filter, hu] using h1
def merged : List Bk → Prop
  | a :: b :: l => (a.used = true ∨ b.used = true) ∧ merged (b :: l)
  | _ => True
theorem merged_snoc {l : List Bk} {b : Bk} (h : merged l) (hb : ∀ c, l.getLast? = some c → c.used = true ∨ b.used = true) : merged (l ++ [b]) := by
  match l with
  | [] => trivial
  | [a] => exact ⟨hb a rfl, trivial⟩
  | a :: c :: l => exact ⟨h.1, merged_snoc (l := c :: l) h.2 (fun d hd => hb d (by rw [List.getLast?_cons_cons]; exact hd))⟩
theorem merged_app {l m : List Bk} : merged (l ++ m) ↔ merged l ∧ merged m ∧ ∀ c d, l.getLast? = some c → m.head? = some d → c.used = true ∨ d.used = true := by
  match l with
  | [] => simp [merged]
  | [a] =>
    match m with
    | [] => simp [merged]
    | d :: m => simp [merged]; exact And.comm
  | a :: c :: l =>
    have ih := merged_app (l := c :: l) (m := m)
    simp only [List.cons_append] at *
    simp only [merged, ih, List.getLast?_cons_cons]
    simp only [and_assoc]
theorem merged_joinStep {out : List Bk} {b : Bk} (h : merged out) : merged (joinStep out b) := by
  unfold joinStep
  split
  · rename_i c hc
    obtain ⟨ys, rfl⟩ := List.getLast?_eq_some_iff.1 hc
    split
    · rename_i hcb
      simp only [Bool.and_eq_true, Bool.not_eq_true'] at hcb
      rw [List.dropLast_concat]
      obtain ⟨h1, _, h3⟩ := merged_app.1 h
      exact merged_snoc h1 (fun d hd => .inl (by
        rcases h3 d c hd rfl with h | h
        · exact h
        · rw [hcb.1] at h; cases h))
    · rename_i hcb
      refine merged_snoc h (fun d hd => ?_)
      rw [hc] at hd
      injection hd with hd
      subst hd
      simp only [Bool.and_eq_true, Bool.not_eq_true'] at hcb
      cases h1 : c.used <;> cases h2 : b.used <;> simp_all
  · trivial
theorem merged_joined (l : List Bk) : merged (joined l) := by
  have : ∀ (l out : List Bk), merged out → merged (l.foldl joinStep out) := by
    intro l
    induction l with
    | nil => intro out h; exact h
    | cons b l ih => intro out h; exact ih _ (merged_joinStep h)
  exact this l [] trivial
structure Bk.good (b : Bk) : Prop where
  size0 : 48 ≤ b.size
  size16 : b.size % 16 = 0
  own0 : 0 ≤ b.owner
  own1 : b.owner ≤ 8
  len0 : U64 b.len
  need : b.used = true → ∃ nd, needV b.len = some nd ∧ nd ≤ b.size
  free : b.used = false → b.owner = 0 ∧ b.len = 0
structure Owns (bl : List Bk) (k : Nat) (l : List Int) : Prop where
  nd : l.Nodup
  mem : ∀ x, x ∈ l ↔ ∃ b ∈ bl, b.used = true ∧ b.owner = (k : Int) + 1 ∧ b.off = x
structure Hpp.Inv (h : Hpp) : Prop where
  eight : h.ls.length = 8
  ch : chain 3776 h.bl h.fin
  fin1 : h.fin ≤ 1048576
  bs : ∀ b ∈ h.bl, b.good
  own : ∀ k (hk : k < h.ls.length), Owns h.bl k h.ls[k]
  mg : merged h.bl
theorem len_sizes {l : List Bk} (h : ∀ b ∈ l, 48 ≤ b.size) : (l.length : Int) * 48 ≤ sizes l := by
  induction l with
  | nil => simp [sizes]
  | cons b l ih =>
    have h1 := h b (by simp)
    have h2 := ih (fun x hx => h x (by simp [hx]))
    simp only [sizes, List.map_cons, List.sum_cons, List.length_cons] at *
    omega
theorem Hpp.Inv.len {h : Hpp} (i : h.Inv) : h.bl.length ≤ 22000 := by
  have h1 := len_sizes (fun b hb => (i.bs b hb).size0)
  have h2 := chain_sizes i.ch
  have h3 := i.fin1
  omega
theorem Hpp.Inv.mem {h : Hpp} (i : h.Inv) {b : Bk} (hb : b ∈ h.bl) : 3776 ≤ b.off ∧ b.off + b.size ≤ h.fin := chain_mem i.ch (fun b hb => by have := (i.bs b hb).size0; omega) hb
theorem chain_16 {a z : Int} {l : List Bk} (h : chain a l z) (ha : a % 16 = 0) (hs : ∀ b ∈ l, b.size % 16 = 0) : (∀ b ∈ l, b.off % 16 = 0) ∧ z % 16 = 0 := by
  induction l generalizing a with
  | nil => simp only [chain] at h; subst h; exact ⟨fun b hb => (by cases hb), ha⟩
  | cons b l ih =>
    have h1 := hs b (by simp)
    obtain ⟨h2, h3⟩ := ih h.2 (by omega) (fun x hx => hs x (by simp [hx]))
    refine ⟨fun x hx => ?_, h3⟩
    rcases List.mem_cons.1 hx with rfl | hx
    · have := h.1; omega
    · exact h2 x hx
theorem Hpp.Inv.al {h : Hpp} (i : h.Inv) : h.al := (chain_16 i.ch (by decide) (fun b hb => (i.bs b hb).size16)).1
theorem Hpp.Inv.fin16 {h : Hpp} (i : h.Inv) : h.fin % 16 = 0 := (chain_16 i.ch (by decide) (fun b hb => (i.bs b hb).size16)).2
theorem Hpp.Inv.fin0 {h : Hpp} (i : h.Inv) : 3776 ≤ h.fin := chain_le i.ch (fun b hb => by have := (i.bs b hb).size0; omega)
theorem nodup_len {l m : List Int} (hn : l.Nodup) (h : ∀ x ∈ l, x ∈ m) : l.length ≤ m.length := by
  induction l generalizing m with
  | nil => simp
  | cons a l ih =>
    have ha := h a (by simp)
    have hn' := List.nodup_cons.1 hn
    have := ih (m := m.erase a) hn'.2 (fun x hx => by
      have hxa : x ≠ a := fun e => hn'.1 (e ▸ hx)
      exact (List.mem_erase_of_ne hxa).2 (h x (by simp [hx])))
    rw [List.length_erase_of_mem ha] at this
    have hp := List.length_pos_of_mem ha
    simp only [List.length_cons]; omega
theorem Hpp.Inv.lsm {h : Hpp} (i : h.Inv) : ∀ l ∈ h.ls, l.length ≤ 22000 := by
  intro l hl
  obtain ⟨k, hk, rfl⟩ := List.getElem_of_mem hl
  have ho := i.own k hk
  have := nodup_len ho.nd (m := h.bl.map (·.off)) (fun x hx => by
    obtain ⟨b, hb, _, _, e⟩ := (ho.mem x).1 hx
    exact List.mem_map.2 ⟨b, hb, e⟩)
  rw [List.length_map] at this
  have := i.len
  omega
theorem Hpp.Inv.ok {h : Hpp} (i : h.Inv) : h.ok where
  eight := i.eight
  sm := by have := i.len; unfold Sm; omega
  bs b hb := by
    have g := i.bs b hb
    have m := i.mem hb
    have f := i.fin1
    have := g.size0
    exact { off0 := by omega, off1 := by omega, size0 := by omega, own0 := g.own0, own1 := g.own1, len := g.len0 }
  sum := by have := chain_sizes i.ch; have := i.fin1; omega
  lsm l hl := by have := i.lsm l hl; unfold Sm; omega
  fin0 := by have := i.fin0; omega
  fin1 := by have := i.fin1; omega
theorem Owns.cong {l m : List Bk} (h : l.filter (·.used) = m.filter (·.used)) {k : Nat} {x : List Int} (o : Owns l k x) : Owns m k x := by
  refine ⟨o.nd, fun y => (o.mem y).trans ?_⟩
  constructor
  · rintro ⟨b, hb, hu, h1⟩; exact ⟨b, (mem_used h hu).1 hb, hu, h1⟩
  · rintro ⟨b, hb, hu, h1⟩; exact ⟨b, (mem_used h hu).2 hb, hu, h1⟩
theorem joined_good {l : List Bk} (h : ∀ b ∈ l, b.good) : ∀ b ∈ joined l, b.good := by
  have key : ∀ (l out : List Bk), (∀ b ∈ out, b.good) → (∀ b ∈ l, b.good) → ∀ b ∈ l.foldl joinStep out, b.good := by
    intro l
    induction l with
    | nil => intro out ho _; exact ho
    | cons b l ih =>
      intro out ho hl
      refine ih _ ?_ (fun x hx => hl x (by simp [hx]))
      have hb := hl b (by simp)
      unfold joinStep
      split
      · rename_i c hc
        obtain ⟨ys, rfl⟩ := List.getLast?_eq_some_iff.1 hc
        have hcg := ho c (by simp)
        split
        · rename_i hcb
          simp only [Bool.and_eq_true, Bool.not_eq_true'] at hcb
          intro x hx
          simp only [List.dropLast_concat, List.mem_append, List.mem_singleton] at hx
          rcases hx with hx | rfl
          · exact ho x (by simp [hx])
          · have h1 := hcg.size0
            have h2 := hb.size0
            have h3 := hcg.size16
            have h4 := hb.size16
            exact { size0 := by simp only; omega, size16 := by simp only; omega, own0 := hcg.own0, own1 := hcg.own1, len0 := hcg.len0, need := fun hu => (by simp only at hu; rw [hcb.1] at hu; cases hu), free := hcg.free }
        · intro x hx
          rcases List.mem_append.1 hx with hx | hx
          · exact ho x hx
          · simp only [List.mem_singleton] at hx; subst hx; exact hb
      · intro x hx
        simp only [List.mem_singleton] at hx; subst hx; exact hb
  exact key l [] (fun b hb => by cases hb) h
end Go.Proofs.YtapdaefpkddioaaGreat.Pe
