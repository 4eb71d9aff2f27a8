/- A part of the proof of PmD. -/
import Derived.Test.YtapdaefpkddioaaGreatCb23
set_option linter.unusedSimpArgs false
set_option linter.unusedVariables false
set_option linter.unusedSectionVars false
namespace Go.Proofs.YtapdaefpkddioaaGreat.Pe
open Go
set_option maxHeartbeats 2000000
def st0 (size all : Int) : St := ⟨all, heap0 size, [], [], List.replicate 8 false⟩
def newF : List AD → Option RV
  | [.one (.int .u64 n), .one (.int .u64 a)] => if 3776 ≤ n ∧ n < 18446744073709551616 then some (.a (.many (st0 n a).c)) else none
  | _ => none
theorem newF_eq {n a : Int} (h : 3776 ≤ n ∧ n < 18446744073709551616) : newF [.one (.int .u64 n), .one (.int .u64 a)] = some (.a (.many (st0 n a).c)) := by simp [newF, h]
theorem new_ok : FnPure Tryz.prog 21 newF := by
  (refine fn_pure' (f := 21) mixed Tryz.func21 rfl (fun X => { nt := 9, tt := tt, fns := ofList ([(52, .pure newhF)]), keep := keep21, X := X }) (fun X => ok_of tt_ok (⟨newh_ok, by kernel_rfl, trivial⟩) (noEqs _)) (fun _ => rfl) (fun _ => rfl) (by decide) Tryz.results21 newF ?_)
  intro l r h
  unfold newF at h
  split at h
  · rename_i n a
    split at h
    · rename_i hn
      injection h with h
      refine ⟨by simp [Tryz.ntmps21], fun X nx R hR => ?_⟩
      (repeat ((try simp only [cl_seq, cl_skip]); with_reducible refine cg fun K hK => ?_; (simp (maxSteps := 1000000) only [go_sem, newhF_eq hn, heap0, Hpp.c, rowsL, List.map_cons, List.map_nil, show rowsN [] = [] from rfl]); (repeat refine ck ?_); (try simp (disch := omega) only [wrap64, wrapi64]); refine hK _ ?_; clear hK K))
      (((try simp only [cl_seq, cl_skip]); (try simp only [cl_ret]); refine hR _ _ (.inr rfl) ?_; (simp (maxSteps := 1000000) only [go_sem])))
      rw [← h]
      rfl
    · cases h
  · cases h
def encWN (x : List Wd × Int) : List AD := [.one (.sl (rowsW x.1)), .one (.int .u64 x.2)]
theorem encWN_inj (x y : List Wd × Int) (h : encWN x = encWN y) : x = y := by
  obtain ⟨a, b⟩ := x; obtain ⟨c, d⟩ := y
  simp only [encWN, List.cons.injEq, AD.one.injEq, D.sl.injEq, D.int.injEq, true_and, and_true] at h
  rw [rowsW_inj h.1, h.2]
def dropV (l : List Wd) (x : Int) : List Wd := l.filter (·.off ≠ x)
noncomputable def dropF : List AD → Option (Nat × Nat × List (List D)) := byEnc encWN (fun x => Sm x.1) fun x => (136, 2, rowsW (dropV x.1 x.2))
theorem dropF_eq {l : List Wd} {x : Int} (h : Sm l) : dropF [.one (.sl (rowsW l)), .one (.int .u64 x)] = some (136, 2, rowsW (dropV l x)) := byEnc_eq (x := (l, x)) encWN_inj h
theorem drop_ok : FnNew Tryz.prog 75 dropF := by
  (refine fn_new' (f := 75) mixed Tryz.func75 rfl (fun X => { nt := 28, tt := tt, fns := ofList [], keep := keep75, X := X }) (fun X => ok_of tt_ok trivial (noEqs _)) (fun _ => rfl) (fun _ => rfl) (by decide) Tryz.results75 dropF ?_)
  intro l r h
  obtain ⟨⟨l, x⟩, rfl, hl, hr⟩ := byEnc_some h
  simp only [Sm] at hl hr
  refine ⟨by simp [encWN, Tryz.ntmps75], fun X nx R hR => ?_⟩
  simp only [encWN]
  (repeat ((try simp only [cl_seq, cl_skip]); with_reducible refine cg fun K hK => ?_; (simp (maxSteps := 1000000) only [go_sem]); (repeat refine ck ?_); (try simp (disch := omega) only [wrap64, wrapi64]); refine hK _ ?_; clear hK K))
  (((try simp only [cl_seq, cl_skip]); refine cl_block fun K hK1 R hR1 X hX1 => ?_))
  refine cl_loop (fun E n => ∃ i : Nat, i ≤ l.length ∧ n = l.length - i ∧ E = mk [(1000000, .heap (fun _ => none) nx), (6, .v (.one (.int .i64 i))), (0, .v (.one (.sl (rowsW l)))), (1, .v (.one (.int .u64 x))), (5, .own 0 136 2 (rowsW (dropV (l.take i) x)))]) l.length ⟨0, by omega, by omega, rfl⟩ ?_
  rintro E n ⟨i, hi, rfl, rfl⟩ J hJ R2 hR2 X2 hX2
  have hfl : (dropV (l.take i) x).length ≤ 100000 := Nat.le_trans (List.length_filter_le _ _) (by simp; omega)
  (repeat ((try simp only [cl_seq, cl_skip]); with_reducible refine cg fun K hK => ?_; (simp (maxSteps := 1000000) only [go_sem]); (repeat refine ck ?_); (try simp (disch := omega) only [wrap64, wrapi64]); refine hK _ ?_; clear hK K))
  (((try simp only [cl_seq, cl_skip]); refine cl_cond rfl (fun hc => ?_) (fun hc => ?_)))
  · simp only [decide_eq_true_eq, Int.ofNat_lt] at hc
    (((try simp only [cl_seq, cl_skip]); refine cl_block fun K hK3 R hR3 X hX3 => ?_))
    (repeat ((try simp only [cl_seq, cl_skip]); with_reducible refine cg fun K hK => ?_; (simp (maxSteps := 1000000) only [go_sem, hc, Wd.c]); (repeat refine ck ?_); (try simp (disch := omega) only [wrap64, wrapi64]); refine hK _ ?_; clear hK K))
    have hst : dropV (l.take (i + 1)) x = dropV (l.take i) x ++ if l[i].off ≠ x then [l[i]] else [] := by
      unfold dropV
      rw [filter_take l i hc]
      congr 1
      by_cases hh : l[i].off ≠ x <;> simp [hh]
    (((try simp only [cl_seq, cl_skip]); refine cl_cond rfl (fun hd => ?_) (fun hd => ?_)))
    · simp only [bne_iff_ne, ne_eq] at hd
      rw [if_pos hd] at hst
      (repeat ((try simp only [cl_seq, cl_skip]); with_reducible refine cg fun K hK => ?_; (simp (maxSteps := 1000000) only [go_sem, hc, Wd.c]); (repeat refine ck ?_); (try simp (disch := omega) only [wrap64, wrapi64]); refine hK _ ?_; clear hK K))
      ((try simp only [cl_seq, cl_skip, cl_exit, cl_nil]))
      refine hK3 _ ?_
      (repeat ((try simp only [cl_seq, cl_skip]); with_reducible refine cg fun K hK => ?_; (simp (maxSteps := 1000000) only [go_sem, wrapi64 (n := (i : Int) + 1) (by omega) (by omega)]); (repeat refine ck ?_); (try simp (disch := omega) only [wrap64, wrapi64]); refine hK _ ?_; clear hK K))
      ((try simp only [cl_seq, cl_skip, cl_exit, cl_nil]))
      refine hJ _ (l.length - (i + 1)) (by omega) ⟨i + 1, by omega, rfl, ?_⟩
      rw [hst]
      rfl
    · simp only [bne_eq_false_iff_eq] at hd
      rw [if_neg (by simp [hd]), List.append_nil] at hst
      ((try simp only [cl_seq, cl_skip, cl_exit, cl_nil]))
      refine hK3 _ ?_
      (repeat ((try simp only [cl_seq, cl_skip]); with_reducible refine cg fun K hK => ?_; (simp (maxSteps := 1000000) only [go_sem, wrapi64 (n := (i : Int) + 1) (by omega) (by omega)]); (repeat refine ck ?_); (try simp (disch := omega) only [wrap64, wrapi64]); refine hK _ ?_; clear hK K))
      ((try simp only [cl_seq, cl_skip, cl_exit, cl_nil]))
      refine hJ _ (l.length - (i + 1)) (by omega) ⟨i + 1, by omega, rfl, ?_⟩
      rw [hst]
      rfl
  · simp only [decide_eq_false_iff_not, Int.ofNat_lt] at hc
    have hil : i = l.length := by omega
    subst hil
    simp only [cl_exit]
    refine hX2 0 _ (hK1 _ ?_)
    (repeat ((try simp only [cl_seq, cl_skip]); with_reducible refine cg fun K hK => ?_; (simp (maxSteps := 1000000) only [go_sem]); (repeat refine ck ?_); (try simp (disch := omega) only [wrap64, wrapi64]); refine hK _ ?_; clear hK K))
    (try simp only [cl_seq, cl_skip]); (try simp only [cl_ret])
    subst hr
    rw [List.take_length]
    exact hR _ _ (.inr rfl) ⟨⟨_, rfl⟩, rfl⟩
def encWNN (x : List Wd × Int × List Int) : List AD := [.one (.sl (rowsW x.1)), .one (.int .u64 x.2.1), .one (.sl (rowsN x.2.2))]
theorem encWNN_inj (x y : List Wd × Int × List Int) (h : encWNN x = encWNN y) : x = y := by
  obtain ⟨a, b, e⟩ := x; obtain ⟨c, d, f⟩ := y
  simp only [encWNN, List.cons.injEq, AD.one.injEq, D.sl.injEq, D.int.injEq, true_and, and_true] at h
  rw [rowsW_inj h.1, h.2.1, rowsN_inj h.2.2]
def putV (l : List Wd) (x : Int) (d : List Int) : List Wd := dropV l x ++ [⟨x, d⟩]
theorem dropV_len (l : List Wd) (x : Int) : (dropV l x).length ≤ l.length := List.length_filter_le _ _
noncomputable def putF : List AD → Option RV := byEnc encWNN (fun x => Sm x.1 ∧ Sm x.2.2) fun x => .a (.one (.sl (rowsW (putV x.1 x.2.1 x.2.2))))
theorem putF_eq {l : List Wd} {x : Int} {d : List Int} (h : Sm l) (hd : Sm d) : putF [.one (.sl (rowsW l)), .one (.int .u64 x), .one (.sl (rowsN d))] = some (.a (.one (.sl (rowsW (putV l x d))))) := byEnc_eq (x := (l, x, d)) encWNN_inj ⟨h, hd⟩
theorem put_ok : FnPure Tryz.prog 80 putF := by
  (refine fn_pure' (f := 80) mixed Tryz.func80 rfl (fun X => { nt := 18, tt := tt, fns := ofList ([(75, .new dropF)]), keep := keep80, X := X }) (fun X => ok_of tt_ok (⟨drop_ok, by kernel_rfl, trivial⟩) (noEqs _)) (fun _ => rfl) (fun _ => rfl) (by decide) Tryz.results80 putF ?_)
  intro l r h
  obtain ⟨⟨l, x, d⟩, rfl, ⟨hl, hd⟩, hr⟩ := byEnc_some h
  simp only at hl hd hr
  have he := dropF_eq (x := x) hl
  have hle := dropV_len l x
  unfold Sm at hl hd
  refine ⟨by simp [encWNN, Tryz.ntmps80], fun X nx R hR => ?_⟩
  simp only [encWNN]
  (repeat ((try simp only [cl_seq, cl_skip]); with_reducible refine cg fun K hK => ?_; (simp (maxSteps := 1000000) only [go_sem, he]); (repeat refine ck ?_); (try simp (disch := omega) only [wrap64, wrapi64]); refine hK _ ?_; clear hK K))
  (((try simp only [cl_seq, cl_skip]); (try simp only [cl_ret]); refine hR _ _ (.inr rfl) ?_; (simp (maxSteps := 1000000) only [go_sem])))
  rw [hr]
  rfl
def sizedV (d : List Int) (n : Nat) : List Int := d.take n ++ List.replicate (n - d.length) 0
theorem sizedV_len (d : List Int) (n : Nat) : (sizedV d n).length = n := by simp [sizedV]; omega
theorem sizedV_succ (d : List Int) (n : Nat) : sizedV d (n + 1) = sizedV d n ++ [d[n]?.getD 0] := by
  unfold sizedV
  by_cases h : n < d.length
  · rw [take_one d n h, show n + 1 - d.length = 0 by omega, show n - d.length = 0 by omega]
    simp [h]
  · rw [List.take_of_length_le (by omega), List.take_of_length_le (by omega), show n + 1 - d.length = (n - d.length) + 1 by omega, List.replicate_succ', List.getElem?_eq_none (by omega)]
    simp
noncomputable def sizedF : List AD → Option RV := byEnc encNN (fun x => Sm x.1 ∧ 0 ≤ x.2 ∧ x.2 ≤ 100000) fun x => .a (.one (.sl (rowsN (sizedV x.1 x.2.toNat))))
theorem sizedF_eq {l : List Int} {x : Int} (h : Sm l) (h0 : 0 ≤ x) (h1 : x ≤ 100000) : sizedF [.one (.sl (rowsN l)), .one (.int .u64 x)] = some (.a (.one (.sl (rowsN (sizedV l x.toNat))))) := byEnc_eq (x := (l, x)) encNN_inj ⟨h, h0, h1⟩
theorem rowsN_appL (l : List Int) (a : Int) : rowsN l ++ [[.int .u64 a]] = rowsN (l ++ [a]) := by simp [rowsN]
attribute [go_sem] rowsN_app rowsN_appL
theorem sized_ok : FnPure Tryz.prog 81 sizedF := by
  (refine fn_pure' (f := 81) mixed Tryz.func81 rfl (fun X => { nt := 27, tt := tt, fns := ofList [], keep := keep81, X := X }) (fun X => ok_of tt_ok trivial (noEqs _)) (fun _ => rfl) (fun _ => rfl) (by decide) Tryz.results81 sizedF ?_)
  intro l r h
  obtain ⟨⟨d, n⟩, rfl, ⟨hd, n0, n1⟩, hr⟩ := byEnc_some h
  simp only [Sm] at hd n0 n1 hr
  refine ⟨by simp [encNN, Tryz.ntmps81], fun X nx R hR => ?_⟩
  simp only [encNN]
  (repeat ((try simp only [cl_seq, cl_skip]); with_reducible refine cg fun K hK => ?_; (simp (maxSteps := 1000000) only [go_sem]); (repeat refine ck ?_); (try simp (disch := omega) only [wrap64, wrapi64]); refine hK _ ?_; clear hK K))
  (((try simp only [cl_seq, cl_skip]); refine cl_block fun K hK1 R hR1 X hX1 => ?_))
  refine cl_loop (fun E k => ∃ i : Nat, i ≤ n.toNat ∧ k = n.toNat - i ∧ E = mk [(1000000, .heap (fun _ => none) nx), (6, .v (.one (.int .u64 i))), (0, .v (.one (.sl (rowsN d)))), (1, .v (.one (.int .u64 n))), (5, .own 0 26 1 (rowsN (sizedV d i)))]) n.toNat ⟨0, by omega, by omega, by rw [show sizedV d 0 = [] by simp [sizedV]]; rfl⟩ ?_
  rintro E k ⟨i, hi, rfl, rfl⟩ J hJ R2 hR2 X2 hX2
  have hsl := sizedV_len d i
  have hst := sizedV_succ d i
  (repeat ((try simp only [cl_seq, cl_skip]); with_reducible refine cg fun K hK => ?_; (simp (maxSteps := 1000000) only [go_sem]); (repeat refine ck ?_); (try simp (disch := omega) only [wrap64, wrapi64]); refine hK _ ?_; clear hK K))
  (((try simp only [cl_seq, cl_skip]); refine cl_cond rfl (fun hc => ?_) (fun hc => ?_)))
  · simp only [decide_eq_true_eq] at hc
    (((try simp only [cl_seq, cl_skip]); refine cl_block fun K3 hK3 R hR3 X hX3 => ?_))
    (repeat ((try simp only [cl_seq, cl_skip]); with_reducible refine cg fun K hK => ?_; (simp (maxSteps := 1000000) only [go_sem, wrap64 (n := (d.length : Int)) (by omega) (by omega)]); (repeat refine ck ?_); (try simp (disch := omega) only [wrap64, wrapi64]); refine hK _ ?_; clear hK K))
    (((try simp only [cl_seq, cl_skip]); refine cl_cond rfl (fun hx => ?_) (fun hx => ?_)))
    · simp only [decide_eq_true_eq, Int.ofNat_lt] at hx
      rw [List.getElem?_eq_getElem hx, Option.getD_some] at hst
      (repeat ((try simp only [cl_seq, cl_skip]); with_reducible refine cg fun K hK => ?_; (simp (maxSteps := 1000000) only [go_sem, hx, hsl]); (repeat refine ck ?_); (try simp (disch := omega) only [wrap64, wrapi64]); refine hK _ ?_; clear hK K))
      ((try simp only [cl_seq, cl_skip, cl_exit, cl_nil]))
      refine hK3 _ ?_
      (repeat ((try simp only [cl_seq, cl_skip]); with_reducible refine cg fun K hK => ?_; (simp (maxSteps := 1000000) only [go_sem, wrap64 (n := (i : Int) + 1) (by omega) (by omega)]); (repeat refine ck ?_); (try simp (disch := omega) only [wrap64, wrapi64]); refine hK _ ?_; clear hK K))
      ((try simp only [cl_seq, cl_skip, cl_exit, cl_nil]))
      refine hJ _ (n.toNat - (i + 1)) (by omega) ⟨i + 1, by omega, rfl, ?_⟩
      rw [hst]
      rfl
    · simp only [decide_eq_false_iff_not, Int.ofNat_lt] at hx
      rw [List.getElem?_eq_none (by omega), Option.getD_none] at hst
      (repeat ((try simp only [cl_seq, cl_skip]); with_reducible refine cg fun K hK => ?_; (simp (maxSteps := 1000000) only [go_sem, hsl]); (repeat refine ck ?_); (try simp (disch := omega) only [wrap64, wrapi64]); refine hK _ ?_; clear hK K))
      ((try simp only [cl_seq, cl_skip, cl_exit, cl_nil]))
      refine hK3 _ ?_
      (repeat ((try simp only [cl_seq, cl_skip]); with_reducible refine cg fun K hK => ?_; (simp (maxSteps := 1000000) only [go_sem, wrap64 (n := (i : Int) + 1) (by omega) (by omega)]); (repeat refine ck ?_); (try simp (disch := omega) only [wrap64, wrapi64]); refine hK _ ?_; clear hK K))
      ((try simp only [cl_seq, cl_skip, cl_exit, cl_nil]))
      refine hJ _ (n.toNat - (i + 1)) (by omega) ⟨i + 1, by omega, rfl, ?_⟩
      rw [hst]
      rfl
  · simp only [decide_eq_false_iff_not] at hc
    have hil : i = n.toNat := by omega
    subst hil
    simp only [cl_exit]
    refine hX2 0 _ (hK1 _ ?_)
    (repeat ((try simp only [cl_seq, cl_skip]); with_reducible refine cg fun K hK => ?_; (simp (maxSteps := 1000000) only [go_sem]); (repeat refine ck ?_); (try simp (disch := omega) only [wrap64, wrapi64]); refine hK _ ?_; clear hK K))
    (((try simp only [cl_seq, cl_skip]); (try simp only [cl_ret]); refine hR _ _ (.inr rfl) ?_; (simp (maxSteps := 1000000) only [go_sem])))
    rw [hr]
end Go.Proofs.YtapdaefpkddioaaGreat.Pe
namespace Go.Proofs.YtapdaefpkddioaaGreat.Pe
open Go
set_option maxHeartbeats 2000000
structure St.Wk (s : St) : Prop where
  hi : s.h.Inv
  lv8 : s.live.length = 8
  fin1 : s.h.fin ≤ 100000
  all0 : 0 ≤ s.all
  all1 : s.all ≤ 100000
  dl : s.data.length ≤ 50000
  ds : ∀ w ∈ s.data, Sm w.d
  nl : s.names.length ≤ 1000
theorem St.Wk.sh {s : St} (w : s.Wk) : s.sh := ⟨w.hi.eight, w.lv8⟩
theorem encS_inj {s t : St} (hs : s.Wk) (ht : t.Wk) (h : s.c = t.c) : s = t := by
  have := Sst.c_inj (a := ⟨s, hs.sh⟩) (b := ⟨t, ht.sh⟩) h
  exact congrArg Subtype.val this
def dataV (s : St) (off : Int) : List Int := match s.data.findIdx? (·.off == off) with
  | some i => (s.data[i]?.map (·.d)).getD []
  | none => []
noncomputable def dataF : List AD → Option RV := byEnc encSN (fun x => x.1.1.Wk) fun x => .a (.one (.sl (rowsN (dataV x.1.1 x.2))))
theorem dataF_eq {s : St} {off : Int} (hs : s.Wk) : dataF [.many s.c, .one (.int .u64 off)] = some (.a (.one (.sl (rowsN (dataV s off))))) := byEnc_eq (x := (⟨s, hs.sh⟩, off)) encSN_inj hs
theorem findIdxG_take {α : Type} (l : List α) (p : α → Bool) (i : Nat) (hi : i < l.length) (h : (l.take i).findIdx? p = none) (hp : p l[i] = true) : l.findIdx? p = some i := findIdx_take l p i hi h hp
theorem data_ok : FnPure Tryz.prog 59 dataF := by
  (refine fn_pure' (f := 59) mixed Tryz.func59 rfl (fun X => { nt := 27, tt := tt, fns := ofList [], keep := keep59, X := X }) (fun X => ok_of tt_ok trivial (noEqs _)) (fun _ => rfl) (fun _ => rfl) (by decide) Tryz.results59 dataF ?_)
  intro l r hq
  obtain ⟨⟨⟨s, hsh⟩, off⟩, rfl, hs, hr⟩ := byEnc_some hq
  clear hq
  simp only at hs hr
  have h1 := hs.sh.ls8
  have h2 := hs.lv8
  have hdl := hs.dl
  refine ⟨by simp [encSN, Tryz.ntmps59], fun X nx R hR => ?_⟩
  simp only [encSN, St.c, stc]
  (repeat ((try simp only [cl_seq, cl_skip]); with_reducible refine cg fun K hK => ?_; (simp (maxSteps := 1000000) only [go_sem]); (repeat refine ck ?_); (try simp (disch := omega) only [wrap64, wrapi64]); refine hK _ ?_; clear hK K))
  (((try simp only [cl_seq, cl_skip]); refine cl_block fun K hK1 R hR1 X hX1 => ?_))
  refine cl_loop (fun E n => ∃ i : Nat, i ≤ s.data.length ∧ (s.data.take i).findIdx? (·.off == off) = none ∧ n = s.data.length - i ∧ E = mk [(1000000, .heap (fun _ => none) nx), (5, .v (.one (.int .i64 i))), (1, .v (.one (.int .u64 off))), (2, .box 0 (stc (.int .u64 s.all) (.int .u64 s.h.fin) (.sl (rowsB s.h.bl)) s.h.ls (.sl (rowsW s.data)) (.sl (rowsE s.names)) s.live))]) s.data.length ⟨0, by omega, rfl, by omega, rfl⟩ ?_
  rintro E n ⟨i, hi, hnone, rfl, rfl⟩ J hJ R2 hR2 X2 hX2
  simp only [stc]
  (repeat ((try simp only [cl_seq, cl_skip]); with_reducible refine cg fun K hK => ?_; (simp (maxSteps := 1000000) only [go_sem, h1, h2]); (repeat refine ck ?_); (try simp (disch := omega) only [wrap64, wrapi64]); refine hK _ ?_; clear hK K))
  (((try simp only [cl_seq, cl_skip]); refine cl_cond rfl (fun hc => ?_) (fun hc => ?_)))
  · simp only [decide_eq_true_eq, Int.ofNat_lt] at hc
    (((try simp only [cl_seq, cl_skip]); refine cl_block fun K hK3 R hR3 X hX3 => ?_))
    (repeat ((try simp only [cl_seq, cl_skip]); with_reducible refine cg fun K hK => ?_; (simp (maxSteps := 1000000) only [go_sem, h1, h2, hc, Wd.c]); (repeat refine ck ?_); (try simp (disch := omega) only [wrap64, wrapi64]); refine hK _ ?_; clear hK K))
    (((try simp only [cl_seq, cl_skip]); refine cl_cond rfl (fun hd => ?_) (fun hd => ?_)))
    · (repeat ((try simp only [cl_seq, cl_skip]); with_reducible refine cg fun K hK => ?_; (simp (maxSteps := 1000000) only [go_sem, h1, h2, hc, Wd.c]); (repeat refine ck ?_); (try simp (disch := omega) only [wrap64, wrapi64]); refine hK _ ?_; clear hK K))
      simp only [cl_ret]
      refine hR3 _ (hR2 _ (hR1 _ ?_))
      (((try simp only [cl_seq, cl_skip]); (try simp only [cl_ret]); refine hR _ _ (.inr rfl) ?_; (simp (maxSteps := 1000000) only [go_sem])))
      have := findIdx_take s.data (fun w => w.off == off) i hc hnone hd
      rw [hr]
      simp [dataV, this, hc]
    · ((try simp only [cl_seq, cl_skip, cl_exit, cl_nil]))
      refine hK3 _ ?_
      (repeat ((try simp only [cl_seq, cl_skip]); with_reducible refine cg fun K hK => ?_; (simp (maxSteps := 1000000) only [go_sem, wrapi64 (n := (i : Int) + 1) (by omega) (by omega)]); (repeat refine ck ?_); (try simp (disch := omega) only [wrap64, wrapi64]); refine hK _ ?_; clear hK K))
      ((try simp only [cl_seq, cl_skip, cl_exit, cl_nil]))
      refine hJ _ (s.data.length - (i + 1)) (by omega) ⟨i + 1, by omega, ?_, rfl, rfl⟩
      exact findIdx_none hc hnone hd
  · simp only [decide_eq_false_iff_not, Int.ofNat_lt] at hc
    have hil : i = s.data.length := by omega
    subst hil
    rw [List.take_length] at hnone
    ((try simp only [cl_seq, cl_skip, cl_exit, cl_nil]))
    refine hX2 0 _ (hK1 _ ?_)
    (repeat ((try simp only [cl_seq, cl_skip]); with_reducible refine cg fun K hK => ?_; (simp (maxSteps := 1000000) only [go_sem]); (repeat refine ck ?_); (try simp (disch := omega) only [wrap64, wrapi64]); refine hK _ ?_; clear hK K))
    (((try simp only [cl_seq, cl_skip]); (try simp only [cl_ret]); refine hR _ _ (.inr rfl) ?_; (simp (maxSteps := 1000000) only [go_sem])))
    rw [hr]
    simp [dataV, hnone, rowsN]
def nameP (name : ByteArray) (off : Int) (e : En) : Bool := (e.name.toList == name.toList) || (e.off == off)
def namedV (l : List En) (name : ByteArray) (off : Int) : Int := match l.findIdx? (nameP name off) with
  | some i => i
  | none => -1
def encSTN (x : Sst × ByteArray × Int) : List AD := [.many x.1.1.c, .one (.str x.2.1), .one (.int .u64 x.2.2)]
theorem encSTN_inj (x y : Sst × ByteArray × Int) (h : encSTN x = encSTN y) : x = y := by
  obtain ⟨a, b, e⟩ := x; obtain ⟨c, d, f⟩ := y
  simp only [encSTN, List.cons.injEq, AD.one.injEq, AD.many.injEq, D.int.injEq, D.str.injEq, true_and, and_true] at h
  rw [Sst.c_inj h.1, h.2.1, h.2.2]
noncomputable def namedF : List AD → Option RV := byEnc encSTN (fun x => x.1.1.Wk) fun x => .a (.one (.int .i64 (namedV x.1.1.names x.2.1 x.2.2)))
theorem namedF_eq {s : St} {name : ByteArray} {off : Int} (hs : s.Wk) : namedF [.many s.c, .one (.str name), .one (.int .u64 off)] = some (.a (.one (.int .i64 (namedV s.names name off)))) := byEnc_eq (x := (⟨s, hs.sh⟩, name, off)) encSTN_inj hs
theorem named_ok : FnPure Tryz.prog 84 namedF := by
  (refine fn_pure' (f := 84) mixed Tryz.func84 rfl (fun X => { nt := 34, tt := tt, fns := ofList [], keep := keep84, X := X }) (fun X => ok_of tt_ok trivial (noEqs _)) (fun _ => rfl) (fun _ => rfl) (by decide) Tryz.results84 namedF ?_)
  intro l r hq
  obtain ⟨⟨⟨s, hsh⟩, name, off⟩, rfl, hs, hr⟩ := byEnc_some hq
  clear hq
  simp only at hs hr
  have h1 := hs.sh.ls8
  have h2 := hs.lv8
  have hdl := hs.nl
  refine ⟨by simp [encSTN, Tryz.ntmps84], fun X nx R hR => ?_⟩
  simp only [encSTN, St.c, stc]
  (repeat ((try simp only [cl_seq, cl_skip]); with_reducible refine cg fun K hK => ?_; (simp (maxSteps := 1000000) only [go_sem]); (repeat refine ck ?_); (try simp (disch := omega) only [wrap64, wrapi64]); refine hK _ ?_; clear hK K))
  (((try simp only [cl_seq, cl_skip]); refine cl_block fun K hK1 R hR1 X hX1 => ?_))
  refine cl_loop (fun E n => ∃ i : Nat, i ≤ s.names.length ∧ (s.names.take i).findIdx? (nameP name off) = none ∧ n = s.names.length - i ∧ E = mk [(1000000, .heap (fun _ => none) nx), (7, .v (.one (.int .i64 i))), (1, .v (.one (.str name))), (2, .v (.one (.int .u64 off))), (3, .box 0 (stc (.int .u64 s.all) (.int .u64 s.h.fin) (.sl (rowsB s.h.bl)) s.h.ls (.sl (rowsW s.data)) (.sl (rowsE s.names)) s.live))]) s.names.length ⟨0, by omega, rfl, by omega, rfl⟩ ?_
  rintro E n ⟨i, hi, hnone, rfl, rfl⟩ J hJ R2 hR2 X2 hX2
  simp only [stc]
  (repeat ((try simp only [cl_seq, cl_skip]); with_reducible refine cg fun K hK => ?_; (simp (maxSteps := 1000000) only [go_sem, h1, h2]); (repeat refine ck ?_); (try simp (disch := omega) only [wrap64, wrapi64]); refine hK _ ?_; clear hK K))
  (((try simp only [cl_seq, cl_skip]); refine cl_cond rfl (fun hc => ?_) (fun hc => ?_)))
  · simp only [decide_eq_true_eq, Int.ofNat_lt] at hc
    (((try simp only [cl_seq, cl_skip]); refine cl_block fun K hK3 R hR3 X hX3 => ?_))
    (((try simp only [cl_seq, cl_skip]); refine cl_reg_b (g := ?g109) (t := ?t109) (L := ?L109) ((nameP name off s.names[i])) (fun K hK => ?h1109) ?h2109; case' h1109 => (simp (maxSteps := 1000000) only [go_sem, h1, h2, hc, En.c, strD]); (repeat refine ck ?_); (repeat' (((refine ite_split (fun hb => ?_) (fun hb => ?_) <;> ((try (simp (maxSteps := 1000000) only [go_sem, hb, h1, h2, hc, En.c, strD])); (repeat refine ck ?_)))))); all_goals (first | ((try simp (disch := omega) only [wrap64, wrapi64]); refine hK _ ?_; clear hK K; first | rfl | grind | skip) | skip)))
    · simp_all [nameP]
    · simp_all [nameP]
    (((try simp only [cl_seq, cl_skip]); refine cl_cond rfl (fun hd => ?_) (fun hd => ?_)))
    · (repeat ((try simp only [cl_seq, cl_skip]); with_reducible refine cg fun K hK => ?_; (simp (maxSteps := 1000000) only [go_sem]); (repeat refine ck ?_); (try simp (disch := omega) only [wrap64, wrapi64]); refine hK _ ?_; clear hK K))
      simp only [cl_ret]
      refine hR3 _ (hR2 _ (hR1 _ ?_))
      (((try simp only [cl_seq, cl_skip]); (try simp only [cl_ret]); refine hR _ _ (.inr rfl) ?_; (simp (maxSteps := 1000000) only [go_sem])))
      have := findIdx_take s.names (nameP name off) i hc hnone hd
      rw [hr]
      simp [namedV, this]
    · ((try simp only [cl_seq, cl_skip, cl_exit, cl_nil]))
      refine hK3 _ ?_
      (repeat ((try simp only [cl_seq, cl_skip]); with_reducible refine cg fun K hK => ?_; (simp (maxSteps := 1000000) only [go_sem, wrapi64 (n := (i : Int) + 1) (by omega) (by omega)]); (repeat refine ck ?_); (try simp (disch := omega) only [wrap64, wrapi64]); refine hK _ ?_; clear hK K))
      ((try simp only [cl_seq, cl_skip, cl_exit, cl_nil]))
      refine hJ _ (s.names.length - (i + 1)) (by omega) ⟨i + 1, by omega, ?_, rfl, rfl⟩
      exact findIdx_none hc hnone hd
  · simp only [decide_eq_false_iff_not, Int.ofNat_lt] at hc
    have hil : i = s.names.length := by omega
    subst hil
    rw [List.take_length] at hnone
    ((try simp only [cl_seq, cl_skip, cl_exit, cl_nil]))
    refine hX2 0 _ (hK1 _ ?_)
    (repeat ((try simp only [cl_seq, cl_skip]); with_reducible refine cg fun K hK => ?_; (simp (maxSteps := 1000000) only [go_sem]); (repeat refine ck ?_); (try simp (disch := omega) only [wrap64, wrapi64]); refine hK _ ?_; clear hK K))
    (((try simp only [cl_seq, cl_skip]); (try simp only [cl_ret]); refine hR _ _ (.inr rfl) ?_; (simp (maxSteps := 1000000) only [go_sem])))
    rw [hr]
    simp [namedV, hnone]
def takeSV (s : St) (o n a : Int) : St × Int × Int :=
  let t := takeV s.h o n a
  if t.2.2 = 0 then ({ s with h := t.1, data := putV s.data t.2.1 (sizedV [] (wordsV n).toNat) }, 0, t.2.1) else (s, t.2.2, 0)
def encSINN (x : Sst × Int × Int × Int) : List AD := [.many x.1.1.c, .one (.int .i64 x.2.1), .one (.int .u64 x.2.2.1), .one (.int .u64 x.2.2.2)]
theorem encSINN_inj (x y : Sst × Int × Int × Int) (h : encSINN x = encSINN y) : x = y := by
  obtain ⟨a, b, e, g⟩ := x; obtain ⟨c, d, f, k⟩ := y
  simp only [encSINN, List.cons.injEq, AD.one.injEq, AD.many.injEq, D.int.injEq, true_and, and_true] at h
  rw [Sst.c_inj h.1, h.2.1, h.2.2.1, h.2.2.2]
noncomputable def takeSF : List AD → Option RV := byEnc encSINN (fun x => x.1.1.Wk ∧ 0 ≤ x.2.1 ∧ x.2.1 ≤ 8 ∧ U64 x.2.2.1 ∧ U64 x.2.2.2) fun x => let t := takeSV x.1.1 x.2.1 x.2.2.1 x.2.2.2; stRV t.1 t.2.1 t.2.2 0
theorem takeSF_eq {s : St} {o n a : Int} (hs : s.Wk) (o0 : 0 ≤ o) (o1 : o ≤ 8) (hn : U64 n) (ha : U64 a) : takeSF [.many s.c, .one (.int .i64 o), .one (.int .u64 n), .one (.int .u64 a)] = some (stRV (takeSV s o n a).1 (takeSV s o n a).2.1 (takeSV s o n a).2.2 0) := byEnc_eq (x := (⟨s, hs.sh⟩, o, n, a)) encSINN_inj ⟨hs, o0, o1, hn, ha⟩
theorem take_small {h : Hpp} (v : h.Inv) {o n a : Int} (hn : U64 n) (he : (takeV h o n a).2.2 = 0) : n ≤ h.fin ∧ (takeV h o n a).1.fin = h.fin ∧ 0 ≤ (takeV h o n a).2.1 ∧ (takeV h o n a).2.1 ≤ h.fin := by
  unfold takeV at *
  have hfi := fit_is h.bl n a
  generalize fitV h.bl n a = fv at *
  cases hfi with
  | bad e he' => simp only [show ¬ e = 0 by omega, ↓reduceIte] at he
  | good i need hi hf hnn haa =>
    simp only [fits, Bool.and_eq_true, Bool.not_eq_true', decide_eq_true_eq] at hf
    obtain ⟨⟨f1, f2⟩, f3⟩ := hf
    obtain ⟨n0, n1, n16, n2⟩ := needV_range hn hnn
    have m := v.mem (List.getElem_mem hi)
    have b16 := v.al _ (List.getElem_mem hi)
    obtain ⟨a16, a0, _⟩ := align_16 haa
    obtain ⟨p16, p0, _, _⟩ := pad_facts b16 a16 a0
    simp only [↓reduceIte, Int.toNat_natCast, List.getElem?_eq_getElem hi, Option.map_some, Option.getD_some, true_and]
    omega
theorem takeS_ok : FnPure Tryz.prog 54 takeSF := by
  (refine fn_pure' (f := 54) mixed Tryz.func54 rfl (fun X => { nt := 41, tt := tt, fns := ofList ([(79, .pure takeF), (82, .pure wordsF), (81, .pure sizedF), (80, .pure putF)]), keep := keep54, X := X }) (fun X => ok_of tt_ok (⟨take_ok, by kernel_rfl, words_ok, by kernel_rfl, sized_ok, by kernel_rfl, put_ok, by kernel_rfl, trivial⟩) (noEqs _)) (fun _ => rfl) (fun _ => rfl) (by decide) Tryz.results54 takeSF ?_)
  intro l r hq
  obtain ⟨⟨⟨s, hsh⟩, o, n, a⟩, rfl, ⟨hs, o0, o1, hn, ha⟩, hr⟩ := byEnc_some hq
  clear hq
  simp only at hs hr o0 o1 hn ha
  have h1 := hs.sh.ls8
  have h2 := hs.lv8
  have hdl := hs.dl
  have hte := takeF_eq (a := a) hs.hi.ok hs.hi.al o0 o1 hn ha
  have hti := takeV_inv (a := a) hs.hi o0 o1 hn
  have hts := take_small (o := o) (a := a) hs.hi hn
  rw [Hpp.c] at hte
  unfold takeSV at hr
  generalize takeV s.h o n a = t at *
  obtain ⟨k, p, e⟩ := t
  simp only at hr hti hts
  have hk8 := hti.eight
  refine ⟨by simp [encSINN, Tryz.ntmps54], fun X nx R hR => ?_⟩
  simp only [encSINN, St.c, stc]
  (repeat ((try simp only [cl_seq, cl_skip]); with_reducible refine cg fun K hK => ?_; (simp (maxSteps := 1000000) only [go_sem, h1, h2, hte, takeRV, Hpp.c, hk8]); (repeat refine ck ?_); (try simp (disch := omega) only [wrap64, wrapi64]); refine hK _ ?_; clear hK K))
  (((try simp only [cl_seq, cl_skip]); refine cl_cond rfl (fun hc => ?_) (fun hc => ?_)))
  · simp only [bne_iff_ne, ne_eq] at hc
    (repeat ((try simp only [cl_seq, cl_skip]); with_reducible refine cg fun K hK => ?_; (simp (maxSteps := 1000000) only [go_sem, h1, h2]); (repeat refine ck ?_); (try simp (disch := omega) only [wrap64, wrapi64]); refine hK _ ?_; clear hK K))
    (((try simp only [cl_seq, cl_skip]); (try simp only [cl_ret]); refine hR _ _ (.inr rfl) ?_; (simp (maxSteps := 1000000) only [go_sem, h1, h2])))
    rw [hr, if_neg hc]
    rfl
  · simp only [bne_eq_false_iff_eq] at hc
    subst hc
    obtain ⟨s1, s2, s3, s4⟩ := hts rfl
    have f1 := hs.fin1
    have hw := wordsF_eq hn
    have hw0 : 0 ≤ wordsV n ∧ wordsV n ≤ 100000 := by unfold wordsV; unfold U64 at hn; omega
    have hz := sizedF_eq (l := []) (by simp [Sm]) hw0.1 hw0.2
    rw [show rowsN [] = [] from rfl] at hz
    have hp := putF_eq (l := s.data) (x := p) (d := sizedV [] (wordsV n).toNat) (by unfold Sm; omega) (by unfold Sm; rw [sizedV_len]; omega)
    (repeat ((try simp only [cl_seq, cl_skip]); with_reducible refine cg fun K hK => ?_; (simp (maxSteps := 1000000) only [go_sem, h1, h2, hk8, hw, hz, hp]); (repeat refine ck ?_); (try simp (disch := omega) only [wrap64, wrapi64]); refine hK _ ?_; clear hK K))
    (((try simp only [cl_seq, cl_skip]); (try simp only [cl_ret]); refine hR _ _ (.inr rfl) ?_; (simp (maxSteps := 1000000) only [go_sem, h1, h2, hk8])))
    rw [hr, if_pos rfl]
    rfl
def freedV (s : St) (off : Int) : St := { s with h := (freeHV s.h off).1, data := dropV s.data off }
noncomputable def freedF : List AD → Option RV := byEnc encSN (fun x => x.1.1.Wk) fun x => .a (.many (freedV x.1.1 x.2).c)
theorem freedF_eq {s : St} {off : Int} (hs : s.Wk) : freedF [.many s.c, .one (.int .u64 off)] = some (.a (.many (freedV s off).c)) := byEnc_eq (x := (⟨s, hs.sh⟩, off)) encSN_inj hs
theorem freed_ok : FnPure Tryz.prog 46 freedF := by
  (refine fn_pure' (f := 46) mixed Tryz.func46 rfl (fun X => { nt := 22, tt := tt, fns := ofList ([(74, .pure freeHF), (75, .new dropF)]), keep := keep46, X := X }) (fun X => ok_of tt_ok (⟨freeH_ok, by kernel_rfl, drop_ok, by kernel_rfl, trivial⟩) (noEqs _)) (fun _ => rfl) (fun _ => rfl) (by decide) Tryz.results46 freedF ?_)
  intro l r hq
  obtain ⟨⟨⟨s, hsh⟩, off⟩, rfl, hs, hr⟩ := byEnc_some hq
  clear hq
  simp only at hs hr
  have h1 := hs.sh.ls8
  have h2 := hs.lv8
  have hdl := hs.dl
  have hte := freeHF_eq (p := off) hs.hi
  have hti := freeHV_inv hs.hi off
  have hk8 := hti.eight
  rw [Hpp.c] at hte
  have hd := dropF_eq (l := s.data) (x := off) (by unfold Sm; omega)
  refine ⟨by simp [encSN, Tryz.ntmps46], fun X nx R hR => ?_⟩
  simp only [encSN, St.c, stc]
  (repeat ((try simp only [cl_seq, cl_skip]); with_reducible refine cg fun K hK => ?_; (simp (maxSteps := 1000000) only [go_sem, h1, h2, hte, hRV, Hpp.c, hk8, hd]); (repeat refine ck ?_); (try simp (disch := omega) only [wrap64, wrapi64]); refine hK _ ?_; clear hK K))
  (((try simp only [cl_seq, cl_skip]); (try simp only [cl_ret]); refine hR _ _ (.inr rfl) ?_; (simp (maxSteps := 1000000) only [go_sem, h1, h2, hk8])))
  rw [hr]
  rfl
end Go.Proofs.YtapdaefpkddioaaGreat.Pe
