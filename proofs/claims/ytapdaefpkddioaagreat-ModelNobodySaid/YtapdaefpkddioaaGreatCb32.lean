/- A part of the proof of PmD. -/
import Derived.Test.YtapdaefpkddioaaGreatCb14
import Derived.Test.YtapdaefpkddioaaGreatCb29
import Derived.Test.YtapdaefpkddioaaGreatCb31
set_option linter.unusedSimpArgs false
set_option linter.unusedVariables false
set_option linter.unusedSectionVars false
namespace Go.Proofs.YtapdaefpkddioaaGreat.Pe
open Go
set_option maxHeartbeats 2000000
def boxO (k : IntKind) (p : Int) : Option PObj := some ⟨none, 1, [[.int k p]]⟩
attribute [go_sem] boxO
def isAtF : List AD → Hp → Nat → Option (RV × Hp × Nat)
  | [.many [.int .u64 off, .int .u64 _, .bool u, .int .i64 _, .int .u64 _, _], .one (.ptr o 1 0 0)], H, nx => match H o with
    | some ⟨none, 1, [[.int .u64 p]]⟩ => if 0 ≤ off ∧ off ≤ 1099511627776 then some (.a (.one (.bool (u && off + 32 == p))), H, nx) else none
    | _ => none
  | _, _, _ => none
theorem isAtF_eq {m : Mb} {o nx : Nat} {p : Int} {H : Hp} (ho : H o = boxO .u64 p) (h0 : 0 ≤ m.b.off) (h1 : m.b.off ≤ 1099511627776) :
    isAtF [.many m.c, .one (.ptr o 1 0 0)] H nx = some (.a (.one (.bool (m.b.used && m.b.off + 32 == p))), H, nx) := by
  simp [isAtF, Mb.c, ho, boxO, h0, h1]
theorem isAt_ok : FnEff Tryz.prog 96 isAtF := by
  (refine fn_eff' (f := 96) mixed Tryz.func96 rfl (fun X => { nt := 13, tt := tt, fns := ofList [], keep := keep96, X := X }) (fun X => ok_of tt_ok trivial (noEqs _)) (fun _ => rfl) (fun _ => rfl) (by decide) Tryz.results96 isAtF ?_)
  intro l H nx r H' nx' h
  unfold isAtF at h
  split at h
  · rename_i off sz u ow ln d o
    split at h
    · rename_i p ho
      split at h
      · rename_i hb
        injection h with h
        injection h with h1 h
        injection h with h2 h3
        subst h2; subst h3
        refine ⟨by simp [Tryz.ntmps96], fun X R hR => ?_⟩
        (((try simp only [cl_seq, cl_skip]); with_reducible refine cl_reg fun K hK => ?_; (simp (maxSteps := 1000000) only [go_sem, ho]); (repeat refine ck ?_); (first | ((try simp (disch := omega) only [wrap64, wrapi64]); refine hK _ ?_; clear hK K) | skip)))
        (((try simp only [cl_seq, cl_skip]); refine cl_reg_b (g := ?g116) (t := ?t116) (L := ?L116) ((u && off + 32 == p)) (fun K hK => ?h1116) ?h2116; case' h1116 => (simp (maxSteps := 1000000) only [go_sem, ho, wrap64 (n := off + 32) (by omega) (by omega)]); (repeat refine ck ?_); (repeat' (((refine ite_split (fun hb => ?_) (fun hb => ?_) <;> ((try (simp (maxSteps := 1000000) only [go_sem, hb, ho, wrap64 (n := off + 32) (by omega) (by omega)])); (repeat refine ck ?_)))))); all_goals (first | ((try simp (disch := omega) only [wrap64, wrapi64]); refine hK _ ?_; clear hK K; first | rfl | grind | skip) | skip)))
        (((try simp only [cl_seq, cl_skip]); (try simp only [cl_ret]); refine hR _ _ (.inr rfl) ?_; (simp (maxSteps := 1000000) only [go_sem])))
        rw [← h1]
      · cases h
    · cases h
  · cases h
def isHisF : List AD → Hp → Nat → Option (RV × Hp × Nat)
  | [.many [.int .u64 _, .int .u64 _, .bool u, .int .i64 ow, .int .u64 _, _], .one (.ptr o 1 0 0)], H, nx => match H o with
    | some ⟨none, 1, [[.int .i64 c]]⟩ => if 0 ≤ c ∧ c ≤ 7 then some (.a (.one (.bool (u && ow == c + 1))), H, nx) else none
    | _ => none
  | _, _, _ => none
theorem isHisF_eq {m : Mb} {o nx : Nat} {c : Int} {H : Hp} (ho : H o = boxO .i64 c) (h0 : 0 ≤ c) (h1 : c ≤ 7) :
    isHisF [.many m.c, .one (.ptr o 1 0 0)] H nx = some (.a (.one (.bool (m.b.used && m.b.owner == c + 1))), H, nx) := by
  simp [isHisF, Mb.c, ho, boxO, h0, h1]
theorem isHis_ok : FnEff Tryz.prog 73 isHisF := by
  (refine fn_eff' (f := 73) mixed Tryz.func73 rfl (fun X => { nt := 13, tt := tt, fns := ofList [], keep := keep73, X := X }) (fun X => ok_of tt_ok trivial (noEqs _)) (fun _ => rfl) (fun _ => rfl) (by decide) Tryz.results73 isHisF ?_)
  intro l H nx r H' nx' h
  unfold isHisF at h
  split at h
  · rename_i off sz u ow ln d o
    split at h
    · rename_i c ho
      split at h
      · rename_i hb
        injection h with h
        injection h with h1 h
        injection h with h2 h3
        subst h2; subst h3
        refine ⟨by simp [Tryz.ntmps73], fun X R hR => ?_⟩
        (((try simp only [cl_seq, cl_skip]); with_reducible refine cl_reg fun K hK => ?_; (simp (maxSteps := 1000000) only [go_sem, ho]); (repeat refine ck ?_); (first | ((try simp (disch := omega) only [wrap64, wrapi64]); refine hK _ ?_; clear hK K) | skip)))
        (((try simp only [cl_seq, cl_skip]); refine cl_reg_b (g := ?g117) (t := ?t117) (L := ?L117) ((u && ow == c + 1)) (fun K hK => ?h1117) ?h2117; case' h1117 => (simp (maxSteps := 1000000) only [go_sem, ho, wrapi64 (n := c + 1) (by omega) (by omega)]); (repeat refine ck ?_); (repeat' (((refine ite_split (fun hb => ?_) (fun hb => ?_) <;> ((try (simp (maxSteps := 1000000) only [go_sem, hb, ho, wrapi64 (n := c + 1) (by omega) (by omega)])); (repeat refine ck ?_)))))); all_goals (first | ((try simp (disch := omega) only [wrap64, wrapi64]); refine hK _ ?_; clear hK K; first | rfl | grind | skip) | skip)))
        (((try simp only [cl_seq, cl_skip]); (try simp only [cl_ret]); refine hR _ _ (.inr rfl) ?_; (simp (maxSteps := 1000000) only [go_sem])))
        rw [← h1]
      · cases h
    · cases h
  · cases h
def idxV : Option Nat → Int
  | some i => i
  | none => -1
noncomputable def Cx79 : (Nat → Prop) → Ctx := fun X => { nt := 19, tt := tt, fns := ofList [(96, .eff isAtF), (73, .eff isHisF)], keep := keep95, X := X }
noncomputable def indexF : List AD → Hp → Nat → Option (RV × Hp × Nat) := semT Tryz.f95 Cx79 Tryz.f95.results
theorem index_ok : FnEff Tryz.prog 95 indexF := semT_ok mixed Tryz.func95 rfl (fun X => ok_of (l := [(96, .eff isAtF), (73, .eff isHisF)]) tt_ok ⟨isAt_ok, by kernel_rfl, isHis_ok, by kernel_rfl, trivial⟩ (noEqs _)) (fun _ => rfl) (fun _ => rfl) (by decide) rfl
theorem indexF_eq {B g o nx : Nat} {ml : List Mb} {H : Hp} (p : Mb → Bool) (G : List AD → Hp → Nat → Option (RV × Hp × Nat)) (hg : (if g = 96 then FnS.eff isAtF else if g = 73 then FnS.eff isHisF else FnS.none) = FnS.eff G) (hB : H B = blkO ml) (sm : ml.length ≤ 50000)
    (hp : ∀ (i : Nat) (hi : i < ml.length), G [.many ml[i].c, .one (.ptr o 1 0 0)] H nx = some (.a (.one (.bool (p ml[i]))), H, nx)) :
    indexF [.one (.ref B 6 0 ml.length), .one (.clo g [.ptr o 1 0 0])] H nx = some (.a (.one (.int .i64 (idxV (ml.findIdx? p)))), H, nx) := by
  unfold indexF
  rw [Tryz.results95]
  refine semT_eq rfl (by simp [Tryz.ntmps95]) fun X R hR => ?_
  unfold Cx79
  (repeat ((try simp only [cl_seq, cl_skip]); with_reducible refine cg fun K hK => ?_; (simp (maxSteps := 1000000) only [go_sem, hB]); (repeat refine ck ?_); (try simp (disch := omega) only [wrap64, wrapi64]); refine hK _ ?_; clear hK K))
  (((try simp only [cl_seq, cl_skip]); refine cl_block fun K hK1 R hR1 X hX1 => ?_))
  refine cl_loop (fun E n => ∃ i : Nat, i ≤ ml.length ∧ (ml.take i).findIdx? p = none ∧ n = ml.length - i ∧ E = mk [(1000000, .heap H nx), (8, .v (.one (.int .i64 i))), (0, .v (.one (.ref B 6 0 ml.length))), (1, .v (.one (.clo g [.ptr o 1 0 0]))), (7, .v (.one (.int .i64 ml.length)))]) ml.length ⟨0, by omega, rfl, by omega, rfl⟩ ?_
  rintro E n ⟨i, hi, hnone, rfl, rfl⟩ J hJ R2 hR2 X2 hX2
  (repeat ((try simp only [cl_seq, cl_skip]); with_reducible refine cg fun K hK => ?_; (simp (maxSteps := 1000000) only [go_sem, hB]); (repeat refine ck ?_); (try simp (disch := omega) only [wrap64, wrapi64]); refine hK _ ?_; clear hK K))
  (((try simp only [cl_seq, cl_skip]); refine cl_cond rfl (fun hc => ?_) (fun hc => ?_)))
  · simp only [decide_eq_true_eq, Int.ofNat_lt] at hc
    have hpi := hp i hc
    simp only [Mb.c] at hpi
    (((try simp only [cl_seq, cl_skip]); refine cl_block fun K hK3 R hR3 X hX3 => ?_))
    (repeat ((try simp only [cl_seq, cl_skip]); with_reducible refine cg fun K hK => ?_; (simp (maxSteps := 1000000) only [go_sem, hB, hc, hg, hpi]); (repeat refine ck ?_); (try simp (disch := omega) only [wrap64, wrapi64]); refine hK _ ?_; clear hK K))
    (((try simp only [cl_seq, cl_skip]); refine cl_cond rfl (fun hd => ?_) (fun hd => ?_)))
    · (repeat ((try simp only [cl_seq, cl_skip]); with_reducible refine cg fun K hK => ?_; (simp (maxSteps := 1000000) only [go_sem]); (repeat refine ck ?_); (try simp (disch := omega) only [wrap64, wrapi64]); refine hK _ ?_; clear hK K))
      simp only [cl_ret]
      refine hR3 _ (hR2 _ (hR1 _ ?_))
      (((try simp only [cl_seq, cl_skip]); (try simp only [cl_ret]); refine hR _ _ (.inr rfl) ?_; (simp (maxSteps := 1000000) only [go_sem])))
      have := findIdx_take ml p i hc hnone hd
      simp [idxV, this]
    · ((try simp only [cl_seq, cl_skip, cl_exit, cl_nil]))
      refine hK3 _ ?_
      (repeat ((try simp only [cl_seq, cl_skip]); with_reducible refine cg fun K hK => ?_; (simp (maxSteps := 1000000) only [go_sem, wrapi64 (n := (i : Int) + 1) (by omega) (by omega)]); (repeat refine ck ?_); (try simp (disch := omega) only [wrap64, wrapi64]); refine hK _ ?_; clear hK K))
      ((try simp only [cl_seq, cl_skip, cl_exit, cl_nil]))
      exact hJ _ (ml.length - (i + 1)) (by omega) ⟨i + 1, by omega, findIdx_none hc hnone hd, rfl, rfl⟩
  · simp only [decide_eq_false_iff_not, Int.ofNat_lt] at hc
    have hil : i = ml.length := by omega
    subst hil
    rw [List.take_length] at hnone
    ((try simp only [cl_seq, cl_skip, cl_exit, cl_nil]))
    refine hX2 0 _ (hK1 _ ?_)
    (repeat ((try simp only [cl_seq, cl_skip]); with_reducible refine cg fun K hK => ?_; (simp (maxSteps := 1000000) only [go_sem]); (repeat refine ck ?_); (try simp (disch := omega) only [wrap64, wrapi64]); refine hK _ ?_; clear hK K))
    (((try simp only [cl_seq, cl_skip]); (try simp only [cl_ret]); refine hR _ _ (.inr rfl) ?_; (simp (maxSteps := 1000000) only [go_sem])))
    simp [idxV, hnone]
noncomputable def Cx58 : (Nat → Prop) → Ctx := fun X => { nt := 9, tt := tt, fns := ofList [(95, .eff indexF)], keep := keep72, X := X }
noncomputable def containsF : List AD → Hp → Nat → Option (RV × Hp × Nat) := semT Tryz.f72 Cx58 Tryz.f72.results
theorem contains_ok : FnEff Tryz.prog 72 containsF := semT_ok mixed Tryz.func72 rfl (fun X => ok_of (l := [(95, .eff indexF)]) tt_ok ⟨index_ok, by kernel_rfl, trivial⟩ (noEqs _)) (fun _ => rfl) (fun _ => rfl) (by decide) rfl
theorem containsF_eq {B g o nx : Nat} {ml : List Mb} {H : Hp} {v : Option Nat} (h : indexF [.one (.ref B 6 0 ml.length), .one (.clo g [.ptr o 1 0 0])] H nx = some (.a (.one (.int .i64 (idxV v))), H, nx)) :
    containsF [.one (.ref B 6 0 ml.length), .one (.clo g [.ptr o 1 0 0])] H nx = some (.a (.one (.bool v.isSome)), H, nx) := by
  unfold containsF
  rw [Tryz.results72]
  refine semT_eq rfl (by simp [Tryz.ntmps72]) fun X R hR => ?_
  unfold Cx58
  (repeat ((try simp only [cl_seq, cl_skip]); with_reducible refine cg fun K hK => ?_; (simp (maxSteps := 1000000) only [go_sem, h]); (repeat refine ck ?_); (try simp (disch := omega) only [wrap64, wrapi64]); refine hK _ ?_; clear hK K))
  (((try simp only [cl_seq, cl_skip]); (try simp only [cl_ret]); refine hR _ _ (.inr rfl) ?_; (simp (maxSteps := 1000000) only [go_sem])))
  cases v with
  | none => simp [idxV]
  | some i => simp [idxV]
theorem ne_of_at {H : Hp} {a b : Nat} {x y : Option PObj} (ha : H a = x) (hb : H b = y) (h : x ≠ y) : a ≠ b := by rintro rfl; exact h (ha.symm.trans hb)
theorem updO_ne {H : Hp} {o t : Nat} {x : Option PObj} (h : t ≠ o) : updO H o x t = H t := by simp [updO, h]
theorem findIdx_bks (ml : List Mb) (q : Bk → Bool) : ml.findIdx? (fun m => q m.b) = (bks ml).findIdx? q := by
  unfold bks; rw [List.findIdx?_map]; rfl
structure Hs (S B : Nat) (a f mp : D) (live : List Bool) (ml : List Mb) (H : Hp) (nx : Nat) : Prop where
  top : H S = topO a f (.ref B 6 0 ml.length) mp live
  bl : H B = blkO ml
  fresh : ∀ o, nx ≤ o → H o = none
theorem Hs.ne {S B : Nat} {a f mp : D} {live : List Bool} {ml : List Mb} {H : Hp} {nx : Nat} (h : Hs S B a f mp live ml H nx) : S ≠ B :=
  ne_of_at h.top h.bl (by simp [topO, blkO])
theorem Hs.ltS {S B : Nat} {a f mp : D} {live : List Bool} {ml : List Mb} {H : Hp} {nx : Nat} (h : Hs S B a f mp live ml H nx) : S < nx := by
  rcases Nat.lt_or_ge S nx with h1 | h1
  · exact h1
  · have := h.fresh S h1; rw [h.top] at this; simp [topO] at this
theorem Hs.ltB {S B : Nat} {a f mp : D} {live : List Bool} {ml : List Mb} {H : Hp} {nx : Nat} (h : Hs S B a f mp live ml H nx) : B < nx := by
  rcases Nat.lt_or_ge B nx with h1 | h1
  · exact h1
  · have := h.fresh B h1; rw [h.bl] at this; simp [blkO] at this
structure Stp (S B : Nat) (H : Hp) (nx B' : Nat) (H' : Hp) (nx' : Nat) : Prop where
  le : nx ≤ nx'
  bl : B' = B ∨ nx ≤ B'
  same : ∀ o, o < nx → o ≠ S → o ≠ B → H' o = H o
theorem Stp.refl (S B : Nat) (H : Hp) (nx : Nat) : Stp S B H nx B H nx := ⟨Nat.le_refl _, .inl rfl, fun _ _ _ _ => rfl⟩
theorem Stp.trans {S B B1 B2 n0 n1 n2 : Nat} {H H1 H2 : Hp} (h : Stp S B H n0 B1 H1 n1) (k : Stp S B1 H1 n1 B2 H2 n2) : Stp S B H n0 B2 H2 n2 :=
  ⟨Nat.le_trans h.le k.le, by
    rcases k.bl with e | e
    · rw [e]; exact h.bl
    · right; exact Nat.le_trans h.le e, fun o ho h1 h2 => by
    have h3 : o ≠ B1 := by
      rcases h.bl with e | e
      · rw [e]; exact h2
      · omega
    rw [k.same o (Nat.lt_of_lt_of_le ho h.le) h1 h3]
    exact h.same o ho h1 h2⟩
noncomputable def Cx53 : (Nat → Prop) → Ctx := fun X => { nt := 11, tt := tt, fns := ofList [(95, .eff indexF)], keep := keep67, X := X, pub := fun t => t == 3 }
noncomputable def atF : List AD → Hp → Nat → Option (RV × Hp × Nat) := semT Tryz.f67 Cx53 Tryz.f67.results
theorem at_ok : FnEff Tryz.prog 67 atF := semT_ok mixed Tryz.func67 rfl (fun X => ok_of (l := [(95, .eff indexF)]) tt_ok ⟨index_ok, by kernel_rfl, trivial⟩ (noEqs _)) (fun _ => rfl) (fun _ => rfl) (by decide) rfl
theorem atF_eq {S B nx : Nat} {a f mp : D} {live : List Bool} {ml : List Mb} {H : Hp} {p : Int} (h8 : live.length = 8) (hs : Hs S B a f mp live ml H nx) (sm : ml.length ≤ 50000) (ho : ∀ m ∈ ml, 0 ≤ m.b.off ∧ m.b.off ≤ 1099511627776) :
    atF [.one (.ptr S 12 0 0), .one (.int .u64 p)] H nx = some (.a (.one (.int .i64 (placeV (bks ml) p))), updO H nx (boxO .u64 p), nx + 1) := by
  unfold atF
  rw [Tryz.results67]
  refine semT_eq rfl (by simp [Tryz.ntmps67]) fun X R hR => ?_
  unfold Cx53
  have hlo := rowsO_len live
  have hS : (updO H nx (boxO .u64 p)) S = topO a f (.ref B 6 0 ml.length) mp live := by rw [updO_ne (Nat.ne_of_lt hs.ltS)]; exact hs.top
  have hB : (updO H nx (boxO .u64 p)) B = blkO ml := by rw [updO_ne (Nat.ne_of_lt hs.ltB)]; exact hs.bl
  have hix := indexF_eq (g := 96) (o := nx) (nx := nx + 1) (H := updO H nx (boxO .u64 p)) (fun m => m.b.used && m.b.off + 32 == p) isAtF rfl hB sm
    (fun i hi => by
      have := ho _ (List.getElem_mem hi)
      exact isAtF_eq (updO_at _ _ _) this.1 this.2)
  have hv : idxV (ml.findIdx? fun m => m.b.used && m.b.off + 32 == p) = placeV (bks ml) p := by
    rw [findIdx_bks ml (fun b => b.used && b.off + 32 == p)]
    unfold placeV placeN
    cases (bks ml).findIdx? _ <;> rfl
  rw [hv] at hix
  simp only [boxO] at hix hS
  (repeat ((try simp only [cl_seq, cl_skip]); with_reducible refine cg fun K hK => ?_; (simp (maxSteps := 1000000) only [go_sem, Nat.reduceBEq, hS, hlo, h8, List.size_toArray, Array.size_empty, Option.map_some, hix]); (repeat refine ck ?_); (try simp (disch := omega) only [wrap64, wrapi64]); refine hK _ ?_; clear hK K))
  (((try simp only [cl_seq, cl_skip]); (try simp only [cl_ret]); refine hR _ _ (.inr rfl) ?_; (simp (maxSteps := 1000000) only [go_sem])))
end Go.Proofs.YtapdaefpkddioaaGreat.Pe
namespace Go.Proofs.YtapdaefpkddioaaGreat.Pe
open Go
set_option maxHeartbeats 2000000
def encNP (x : List Int × Int) : List AD := [.one (.sl (rowsN x.1)), .one (.int .u64 x.2)]
theorem encNP_inj (x y : List Int × Int) (h : encNP x = encNP y) : x = y := by
  obtain ⟨a, b⟩ := x; obtain ⟨c, d⟩ := y
  simp only [encNP, List.cons.injEq, AD.one.injEq, D.sl.injEq, D.int.injEq, true_and, and_true] at h
  rw [rowsN_inj h.1, h.2]
noncomputable def indexNF : List AD → Option RV := byEnc encNP (fun x => x.1.length ≤ 100000) fun x => .a (.one (.int .i64 (idxV (x.1.findIdx? (x.2 == ·)))))
theorem indexNF_eq {l : List Int} {p : Int} (h : l.length ≤ 100000) : indexNF [.one (.sl (rowsN l)), .one (.int .u64 p)] = some (.a (.one (.int .i64 (idxV (l.findIdx? (p == ·)))))) := byEnc_eq (x := (l, p)) encNP_inj h
theorem findN_take (l : List Int) (q : Int → Bool) (i : Nat) (h : i < l.length) (hn : (l.take i).findIdx? q = none) (hq : q l[i] = true) : l.findIdx? q = some i := findIdx_take l q i h hn hq
theorem indexN_ok : FnPure Tryz.prog 124 indexNF := by
  (refine fn_pure' (f := 124) mixed Tryz.func124 rfl (fun X => { nt := 19, tt := tt, fns := ofList [], keep := keep124, X := X }) (fun X => ok_of tt_ok trivial (noEqs _)) (fun _ => rfl) (fun _ => rfl) (by decide) Tryz.results124 indexNF ?_)
  intro l r hq
  obtain ⟨⟨l, p⟩, rfl, hl, hr⟩ := byEnc_some hq
  clear hq
  simp only at hl hr
  refine ⟨by simp [encNP, Tryz.ntmps124], fun X nx R hR => ?_⟩
  simp only [encNP]
  (repeat ((try simp only [cl_seq, cl_skip]); with_reducible refine cg fun K hK => ?_; (simp (maxSteps := 1000000) only [go_sem]); (repeat refine ck ?_); (try simp (disch := omega) only [wrap64, wrapi64]); refine hK _ ?_; clear hK K))
  (((try simp only [cl_seq, cl_skip]); refine cl_block fun K hK1 R hR1 X hX1 => ?_))
  refine cl_loop (fun E n => ∃ i : Nat, i ≤ l.length ∧ (l.take i).findIdx? (p == ·) = none ∧ n = l.length - i ∧ E = mk [(1000000, .heap (fun _ => none) nx), (8, .v (.one (.int .i64 i))), (0, .v (.one (.sl (rowsN l)))), (1, .v (.one (.int .u64 p))), (7, .v (.one (.int .i64 l.length)))]) l.length ⟨0, by omega, rfl, by omega, rfl⟩ ?_
  rintro E n ⟨i, hi, hnone, rfl, rfl⟩ J hJ R2 hR2 X2 hX2
  (repeat ((try simp only [cl_seq, cl_skip]); with_reducible refine cg fun K hK => ?_; (simp (maxSteps := 1000000) only [go_sem]); (repeat refine ck ?_); (try simp (disch := omega) only [wrap64, wrapi64]); refine hK _ ?_; clear hK K))
  (((try simp only [cl_seq, cl_skip]); refine cl_cond rfl (fun hc => ?_) (fun hc => ?_)))
  · simp only [decide_eq_true_eq, Int.ofNat_lt] at hc
    (((try simp only [cl_seq, cl_skip]); refine cl_block fun K hK3 R hR3 X hX3 => ?_))
    (repeat ((try simp only [cl_seq, cl_skip]); with_reducible refine cg fun K hK => ?_; (simp (maxSteps := 1000000) only [go_sem, hc]); (repeat refine ck ?_); (try simp (disch := omega) only [wrap64, wrapi64]); refine hK _ ?_; clear hK K))
    (((try simp only [cl_seq, cl_skip]); refine cl_cond rfl (fun hd => ?_) (fun hd => ?_)))
    · (repeat ((try simp only [cl_seq, cl_skip]); with_reducible refine cg fun K hK => ?_; (simp (maxSteps := 1000000) only [go_sem]); (repeat refine ck ?_); (try simp (disch := omega) only [wrap64, wrapi64]); refine hK _ ?_; clear hK K))
      simp only [cl_ret]
      refine hR3 _ (hR2 _ (hR1 _ ?_))
      (((try simp only [cl_seq, cl_skip]); (try simp only [cl_ret]); refine hR _ _ (.inr rfl) ?_; (simp (maxSteps := 1000000) only [go_sem])))
      have := findN_take l (p == ·) i hc hnone hd
      rw [hr, this]; rfl
    · ((try simp only [cl_seq, cl_skip, cl_exit, cl_nil]))
      refine hK3 _ ?_
      (repeat ((try simp only [cl_seq, cl_skip]); with_reducible refine cg fun K hK => ?_; (simp (maxSteps := 1000000) only [go_sem, wrapi64 (n := (i : Int) + 1) (by omega) (by omega)]); (repeat refine ck ?_); (try simp (disch := omega) only [wrap64, wrapi64]); refine hK _ ?_; clear hK K))
      ((try simp only [cl_seq, cl_skip, cl_exit, cl_nil]))
      exact hJ _ (l.length - (i + 1)) (by omega) ⟨i + 1, by omega, findIdx_none hc hnone hd, rfl, rfl⟩
  · simp only [decide_eq_false_iff_not, Int.ofNat_lt] at hc
    have hil : i = l.length := by omega
    subst hil
    rw [List.take_length] at hnone
    ((try simp only [cl_seq, cl_skip, cl_exit, cl_nil]))
    refine hX2 0 _ (hK1 _ ?_)
    (repeat ((try simp only [cl_seq, cl_skip]); with_reducible refine cg fun K hK => ?_; (simp (maxSteps := 1000000) only [go_sem]); (repeat refine ck ?_); (try simp (disch := omega) only [wrap64, wrapi64]); refine hK _ ?_; clear hK K))
    (((try simp only [cl_seq, cl_skip]); (try simp only [cl_ret]); refine hR _ _ (.inr rfl) ?_; (simp (maxSteps := 1000000) only [go_sem])))
    rw [hr, hnone]; rfl
noncomputable def contNF : List AD → Option RV := byEnc encNP (fun x => x.1.length ≤ 100000) fun x => .a (.one (.bool (x.1.contains x.2)))
theorem contNF_eq {l : List Int} {p : Int} (h : l.length ≤ 100000) : contNF [.one (.sl (rowsN l)), .one (.int .u64 p)] = some (.a (.one (.bool (l.contains p)))) := byEnc_eq (x := (l, p)) encNP_inj h
theorem contN_ok : FnPure Tryz.prog 97 contNF := by
  (refine fn_pure' (f := 97) mixed Tryz.func97 rfl (fun X => { nt := 9, tt := tt, fns := ofList ([(124, .pure indexNF)]), keep := keep97, X := X }) (fun X => ok_of tt_ok (⟨indexN_ok, by kernel_rfl, trivial⟩) (noEqs _)) (fun _ => rfl) (fun _ => rfl) (by decide) Tryz.results97 contNF ?_)
  intro l r hq
  obtain ⟨⟨l, p⟩, rfl, hl, hr⟩ := byEnc_some hq
  clear hq
  simp only at hl hr
  refine ⟨by simp [encNP, Tryz.ntmps97], fun X nx R hR => ?_⟩
  simp only [encNP]
  (repeat ((try simp only [cl_seq, cl_skip]); with_reducible refine cg fun K hK => ?_; (simp (maxSteps := 1000000) only [go_sem, indexNF_eq hl]); (repeat refine ck ?_); (try simp (disch := omega) only [wrap64, wrapi64]); refine hK _ ?_; clear hK K))
  (((try simp only [cl_seq, cl_skip]); (try simp only [cl_ret]); refine hR _ _ (.inr rfl) ?_; (simp (maxSteps := 1000000) only [go_sem])))
  rw [hr]
  congr 3
  cases hf : l.findIdx? (p == ·) with
  | none =>
    have : p ∉ l := fun hp => by
      have := List.findIdx?_eq_none_iff.1 hf p hp
      simp at this
    simp [idxV, this]
  | some i =>
    obtain ⟨h1, h2, _⟩ := List.findIdx?_eq_some_iff_getElem.1 hf
    simp only [beq_iff_eq] at h2
    have : p ∈ l := by rw [h2]; exact List.getElem_mem h1
    simp [idxV, this]
end Go.Proofs.YtapdaefpkddioaaGreat.Pe
namespace Go.Proofs.YtapdaefpkddioaaGreat.Pe
open Go
set_option maxHeartbeats 2000000
theorem merge_hs {S B : Nat} {a f mp : D} {live : List Bool} {ml : List Mb} {H : Hp} {nx : Nat} (h8 : live.length = 8) (hs : Hs S B a f mp live ml H nx) (ok : MOk ml) :
    ∃ B' H' nx', mergeF [.one (.ptr S 12 0 0)] H nx = some (.tup [], H', nx') ∧ Hs S B' a f mp live (joinedM ml) H' nx' ∧ Stp S B H nx B' H' nx' := by
  have h1 := hs.ltS
  refine ⟨nx, _, nx + 1, mergeF_eq h8 hs.top hs.bl (by omega) ok, ⟨updO_at _ _ _, ?_, fun o ho => ?_⟩, ⟨by omega, .inr (Nat.le_refl _), fun o ho ho1 ho2 => ?_⟩⟩
  · rw [updO_ne (by omega), updO_at]
  · rw [updO_ne (by omega), updO_ne (by omega)]; exact hs.fresh o (by omega)
  · rw [updO_ne ho1, updO_ne (by omega)]
theorem set_hs {S B : Nat} {a f mp : D} {live : List Bool} {ml : List Mb} {H : Hp} {nx : Nat} (hs : Hs S B a f mp live ml H nx) (ml' : List Mb) (hl : ml'.length = ml.length) :
    Hs S B a f mp live ml' (updO H B (blkO ml')) nx ∧ Stp S B H nx B (updO H B (blkO ml')) nx := by
  have h1 := hs.ltB
  refine ⟨⟨?_, updO_at _ _ _, fun o ho => ?_⟩, ⟨Nat.le_refl _, .inl rfl, fun o ho ho1 ho2 => updO_ne ho2⟩⟩
  · rw [updO_ne hs.ne, hl]; exact hs.top
  · rw [updO_ne (by omega)]; exact hs.fresh o ho
def freeM (m : Mb) : Mb := ⟨freeB m.b.off m.b.size, .sl []⟩
def freeL (ml : List Mb) (i : Nat) : List Mb := match ml[i]? with
  | some m => joinedM (ml.set i (freeM m))
  | none => ml
theorem bks_set (ml : List Mb) (i : Nat) (m : Mb) : bks (ml.set i m) = (bks ml).set i m.b := by simp [bks, List.map_set]
theorem MOk.set {ml : List Mb} (ok : MOk ml) {i : Nat} (hi : i < ml.length) {m : Mb} (hm : m.b.size = ml[i].b.size) : MOk (ml.set i m) where
  pos := by simpa using ok.pos
  sm := by simpa using ok.sm
  bs x hx := by
    rcases List.mem_or_eq_of_mem_set hx with h | h
    · exact ok.bs x h
    · rw [h, hm]; exact ok.bs _ (List.getElem_mem hi)
  sum := by
    rw [bks_set, sizes_set (by rw [bks_len]; exact hi) (by simp [bks, hm])]
    exact ok.sum
noncomputable def Cx54 : (Nat → Prop) → Ctx := fun X => { nt := 29, tt := tt, fns := ofList [(45, .eff mergeF)], keep := keep68, X := X }
noncomputable def freeMF : List AD → Hp → Nat → Option (RV × Hp × Nat) := semT Tryz.f68 Cx54 Tryz.f68.results
theorem freeM_ok : FnEff Tryz.prog 68 freeMF := semT_ok mixed Tryz.func68 rfl (fun X => ok_of (l := [(45, .eff mergeF)]) tt_ok ⟨merge_ok, by kernel_rfl, trivial⟩ (noEqs _)) (fun _ => rfl) (fun _ => rfl) (by decide) rfl
theorem freeMF_eq {S B nx : Nat} {a f mp : D} {live : List Bool} {ml : List Mb} {H : Hp} {i : Nat} (h8 : live.length = 8) (hs : Hs S B a f mp live ml H nx) (ok : MOk ml) (hi : i < ml.length) :
    ∃ B' H' nx', freeMF [.one (.ptr S 12 0 0), .one (.int .i64 i)] H nx = some (.tup [], H', nx') ∧ Hs S B' a f mp live (freeL ml i) H' nx' ∧ Stp S B H nx B' H' nx' := by
  obtain ⟨hs1, st1⟩ := set_hs hs (ml.set i (freeM ml[i])) (by simp)
  obtain ⟨B', H', nx', he, hs2, st2⟩ := merge_hs h8 hs1 (ok.set hi rfl)
  have hfl : freeL ml i = joinedM (ml.set i (freeM ml[i])) := by unfold freeL; rw [List.getElem?_eq_getElem hi]
  refine ⟨B', H', nx', ?_, by rw [hfl]; exact hs2, st1.trans st2⟩
  unfold freeMF
  rw [Tryz.results68]
  refine semT_eq rfl (by simp [Tryz.ntmps68]) fun X R hR => ?_
  unfold Cx54
  have hlo := rowsO_len live
  have hS := hs.top
  have hB := hs.bl
  simp only [freeM, freeB, blkO] at he
  (repeat ((try simp only [cl_seq, cl_skip]); with_reducible refine cg fun K hK => ?_; (simp (maxSteps := 1000000) only [go_sem, hS, hB, hlo, h8, hi, he]); (repeat refine ck ?_); (try simp (disch := omega) only [wrap64, wrapi64]); refine hK _ ?_; clear hK K))
  (((try simp only [cl_seq, cl_skip]); (try simp only [cl_nil]); refine hR _ _ (.inl rfl) ?_; (simp (maxSteps := 1000000) only [go_sem])))
end Go.Proofs.YtapdaefpkddioaaGreat.Pe
namespace Go.Proofs.YtapdaefpkddioaaGreat.Pe
open Go
set_option maxHeartbeats 2000000
theorem Rd.back {w w' : World} {ι ι' : Nat → Option Nat} {M M' : Nat → Prop} (hi : ∀ o b, ι o = some b → ι' o = some b) {v : Value} {d : D} (h : Rd w' ι' M' v d) : ∀ {v0 : Value}, Rd w ι M v0 d → Rd w' ι M' v d := by
  induction h with
  | int => intro _ _; exact .int _ _
  | bool => intro _ _; exact .bool _
  | str => intro _ _; exact .str _
  | nil => intro _ _; exact .nil _ _
  | sl a n c sz rows f hn h0 hnc hsz hs' ha hm hc hr ih =>
    intro v0 k
    cases k with
    | nil A c' => simp at hn; omega
    | sl a2 n2 c2 sz2 rows f2 hn2 h02 hnc2 hsz2 hs2 ha2 hm2 hc2 hr2 =>
      exact .sl a n c sz rows f hn h0 hnc hsz hs' ha hm hc fun i j r d h1 h2 => ih i j r d h1 h2 (hr2 i j r d h1 h2)
  | ptr o sz i off b h hz =>
    intro v0 k
    cases k with
    | ptr _ _ _ _ b2 h2 hz2 =>
      have := hi o b2 h2
      rw [h] at this; injection this with this; subst this
      exact .ptr _ _ _ _ _ h2 hz
  | nilp => intro _ _; exact .nilp
  | ref o sz i n c b h hnc hcm hz hc =>
    intro v0 k
    cases k with
    | ref _ _ _ _ _ b2 h2 =>
      have := hi o b2 h2
      rw [h] at this; injection this with this; subst this
      exact .ref _ _ _ _ _ _ h2 hnc hcm hz hc
  | refc o sz i n c b h hnc hcm hz hc =>
    intro v0 k
    cases k with
    | refc _ _ _ _ _ b2 h2 =>
      have := hi o b2 h2
      rw [h] at this; injection this with this; subst this
      exact .refc _ _ _ _ _ _ h2 hnc hcm hz hc
  | fn => intro _ _; exact .fn _
  | nilm => intro _ _; exact .nilm
  | nilf => intro _ _; exact .nilf
  | anyb b => intro _ _; exact .anyb b
  | hole v h1 => intro _ _; exact .hole v h1
  | mp o b h =>
    intro v0 k
    cases k with
    | mp _ b2 h2 =>
      have := hi o b2 h2
      rw [h] at this; injection this with this; subst this
      exact .mp _ _ h2
  | clo f cs caps hn hr ih =>
    intro v0 k
    cases k with
    | clo _ cs2 _ hn2 hr2 =>
      refine .clo f cs caps hn fun j v d hv hd => ?_
      have hj : j < cs2.size := by rw [hn2, ← hn]; exact (Array.getElem?_eq_some_iff.1 hv).1
      exact ih j v d hv hd (hr2 j _ d (Array.getElem?_eq_getElem hj) hd)
theorem ObjAt.back {w w' : World} {ι ι' : Nat → Option Nat} {M M' : Nat → Prop} (hi : ∀ o b, ι o = some b → ι' o = some b) {b b0 : Nat} {ob : PObj} (h : ObjAt w' ι' M' b ob) (h0 : ObjAt w ι M b0 ob) : ObjAt w' ι M' b ob := by
  rcases h with ⟨hz, es, clock, h⟩ | ⟨T, cs, hT, h⟩
  · obtain ⟨es0, clock0, k⟩ := h0.map hz
    refine .inl ⟨hz, es, clock, h.at_, h.len, fun i e r he hr => ?_, h.st⟩
    obtain ⟨kk, v, h1, h2, h3⟩ := h.rd i e r he hr
    have hlt : i < es0.size := by rw [k.len, ← h.len]; exact (Array.getElem?_eq_some_iff.1 he).1
    obtain ⟨kk', v', q1, q2, q3⟩ := k.rd i _ r (Array.getElem?_eq_getElem hlt) hr
    rw [h1] at q1
    injection q1 with q1 q4
    injection q4 with q4 _
    subst q1; subst q4
    exact ⟨kk, v, h1, h2.back hi q2, h3.back hi q3⟩
  · obtain ⟨T0, cs0, _, k⟩ := h0.blk h.pos
    refine .inr ⟨T, cs, hT, h.at_, h.pos, h.fit, h.uni, fun i j r d hr hd => ?_, h.one⟩
    obtain ⟨v, h1, h2⟩ := h.rd i j r d hr hd
    obtain ⟨v', _, q2⟩ := k.rd i j r d hr hd
    exact ⟨v, h1, h2.back hi q2⟩
open Classical in
noncomputable def forgetF (F : List AD → Hp → Nat → Option (RV × Hp × Nat)) : List AD → Hp → Nat → Option RV := fun l H nx => match F l H nx with
  | some (.a (.one (.int k n)), H', nx') => if nx ≤ nx' ∧ (∀ o, o < nx → H' o = H o) ∧ (∀ o, nx ≤ o → H o = none) then some (.a (.one (.int k n))) else none
  | _ => none
theorem forgetF_eq {F : List AD → Hp → Nat → Option (RV × Hp × Nat)} {l : List AD} {H H' : Hp} {nx nx' : Nat} {k : IntKind} {n : Int} (h : F l H nx = some (.a (.one (.int k n)), H', nx')) (h1 : nx ≤ nx') (h2 : ∀ o, o < nx → H' o = H o) (h3 : ∀ o, nx ≤ o → H o = none) :
    forgetF F l H nx = some (.a (.one (.int k n))) := by
  unfold forgetF
  rw [h]
  simp only
  rw [if_pos ⟨h1, h2, h3⟩]
theorem forget_ok {P : Program} {f : Nat} {F : List AD → Hp → Nat → Option (RV × Hp × Nat)} (h : FnEff P f F) : FnRd P f (forgetF F) := by
  intro l H nx r H' nx' hF w ι M vals hM hok hl hargs
  obtain ⟨r0, hr0, hF⟩ := Option.map_eq_some_iff.1 hF
  injection hF with hr hF
  injection hF with hH hnx
  subst hr; subst hH; subst hnx
  unfold forgetF at hr0
  split at hr0
  · rename_i k n H1 nx1 hF1
    split at hr0
    · rename_i hc
      obtain ⟨c1, c2, c3⟩ := hc
      injection hr0 with hr0
      subst hr0
      refine (h _ _ _ _ _ _ hF1 w ι M vals hM hok hl hargs).mono ?_
      rintro e w' ⟨v, ι', M', h1, h2, h3, h4, h5, h6, h7, h8⟩
      have hlt : ∀ o x, H o = some x → o < nx ∧ H1 o = some x := fun o x ho => by
        rcases Nat.lt_or_ge o nx with q | q
        · exact ⟨q, (c2 o q).trans ho⟩
        · rw [c3 o q] at ho; cases ho
      have hii : ∀ o x b, H o = some x → (ι' o = some b ↔ ι o = some b) := fun o x b ho => by
        obtain ⟨b0, q1, _⟩ := hok.objs o x ho
        have q2 := h4 o b0 q1
        rw [q1, q2]
      refine ⟨v, ι, M', h1, ?_, ⟨hok.new, fun o ob ho => ?_, fun o o' x x' b q1 q2 q3 q4 => hok.inj o o' x x' b q1 q2 q3 q4, fun o x b q1 q2 => h3.ctl o x b (hlt o x q1).2 (h4 o b q2)⟩, fun _ _ h => h, ⟨h5.os, h5.tape, h5.output, h5.size, h5.same, fun b hb ⟨o, x, q1, q2⟩ => ⟨o, x, q1, q2⟩, h5.keep, h5.shape⟩, h6, h7, h8⟩
      · have hr : Rd w' ι' M' v (.int k n) := h2
        show Rd w' ι M' v (.int k n)
        cases hr; exact .int _ _
      · obtain ⟨b0, q1, q2⟩ := hok.objs o ob ho
        obtain ⟨b, q3, q4⟩ := h3.objs o ob (hlt o ob ho).2
        have q5 := h4 o b0 q1
        rw [q3] at q5; injection q5 with q5; subst q5
        exact ⟨b, q1, q4.back h4 q2⟩
    · cases hr0
  · cases hr0
noncomputable def atR : List AD → Hp → Nat → Option RV := forgetF atF
theorem atR_ok : FnRd Tryz.prog 67 atR := forget_ok at_ok
theorem at_c : cok Tryz.prog 67 (.rd atR) = true := by kernel_rfl
theorem atR_eq {S B nx : Nat} {a f mp : D} {live : List Bool} {ml : List Mb} {H : Hp} {p : Int} (h8 : live.length = 8) (hs : Hs S B a f mp live ml H nx) (sm : ml.length ≤ 50000) (ho : ∀ m ∈ ml, 0 ≤ m.b.off ∧ m.b.off ≤ 1099511627776) :
    atR [.one (.ptr S 12 0 0), .one (.int .u64 p)] H nx = some (.a (.one (.int .i64 (placeV (bks ml) p)))) :=
  forgetF_eq (atF_eq h8 hs sm ho) (by omega) (fun o h => updO_ne (by omega)) hs.fresh
theorem insertF_eq {B nx i : Nat} {ml : List Mb} {m : Mb} {H : Hp} (hB : H B = blkO ml) (hi : i ≤ ml.length) (h0 : 0 < ml.length) (sm : ml.length ≤ 50000) (hf : H nx = none) (hn : B ≠ nx) :
    insertF [.one (.ref B 6 0 ml.length), .one (.int .i64 i), .one (.sl [m.c])] H nx = some (.a (.one (.ref nx 6 0 (ml.length + 1))), updO (updO H B none) nx (blkO (ml.take i ++ ([m] ++ ml.drop i))), nx + 1) := by
  have e : (rowsM ml).take i ++ ([m.c] ++ (rowsM ml).drop i) = rowsM (ml.take i ++ ([m] ++ ml.drop i)) := by simp [rowsM]
  simp only [insertF, hB, blkO, rowsM_len]
  rw [if_pos ⟨trivial, h0, by omega, by omega, by omega, rfl, by simp [Mb.c], by rw [hf]; rfl, hn⟩, Int.toNat_natCast, e]
theorem replaceF_eq {B nx i : Nat} {ml ms : List Mb} {H : Hp} (hB : H B = blkO ml) (hi : i < ml.length) (sm : ml.length ≤ 50000) (h0 : 0 < ms.length) (h3 : ms.length ≤ 3) (hn : B ≠ nx) :
    replaceF [.one (.ref B 6 0 ml.length), .one (.int .i64 i), .one (.int .i64 ((i : Int) + 1)), .one (.sl (rowsM ms))] H nx = some (.a (.one (.ref nx 6 0 (ml.length - 1 + ms.length))), updO (updO H B none) nx (blkO (ml.take i ++ (ms ++ ml.drop (i + 1)))), nx + 1) := by
  have e : (rowsM ml).take i ++ (rowsM ms ++ (rowsM ml).drop (i + 1)) = rowsM (ml.take i ++ (ms ++ ml.drop (i + 1))) := by simp [rowsM]
  simp only [replaceF, hB, blkO, rowsM_len]
  rw [if_pos ⟨trivial, trivial, by omega, by omega, by omega, h0, h3, rowsM_all ms, hn⟩, Int.toNat_natCast, e]
theorem ins_hs {S B : Nat} {a f mp : D} {live : List Bool} {ml : List Mb} {H : Hp} {nx : Nat} (hs : Hs S B a f mp live ml H nx) (ml' : List Mb) (n : Nat) (hn : ml'.length = n) :
    Hs S nx a f mp live ml' (updO (updO (updO H B none) nx (blkO ml')) S (topO a f (.ref nx 6 0 n) mp live)) (nx + 1) ∧ Stp S B H nx nx (updO (updO (updO H B none) nx (blkO ml')) S (topO a f (.ref nx 6 0 n) mp live)) (nx + 1) := by
  subst hn
  have h1 := hs.ltB
  have h2 := hs.ltS
  refine ⟨⟨updO_at _ _ _, ?_, fun o ho => ?_⟩, ⟨by omega, .inr (Nat.le_refl _), fun o ho ho1 ho2 => ?_⟩⟩
  · rw [updO_ne (by omega), updO_at]
  · rw [updO_ne (by omega), updO_ne (by omega), updO_ne (by omega)]; exact hs.fresh o (by omega)
  · rw [updO_ne ho1, updO_ne (by omega), updO_ne ho2]
def cutL (ml : List Mb) (i : Nat) (need : Int) : List Mb := match ml[i]? with
  | some m => if m.b.size - need < 48 then ml else joinedM (ml.take i ++ ([⟨{ m.b with size := need }, m.d⟩, ⟨freeB (m.b.off + need) (m.b.size - need), .sl []⟩] ++ ml.drop (i + 1)))
  | none => ml
noncomputable def Cx52 : (Nat → Prop) → Ctx := fun X => { nt := 48, tt := tt, fns := ofList [(45, .eff mergeF), (94, .eff insertF)], keep := keep66, X := X }
noncomputable def cutMF : List AD → Hp → Nat → Option (RV × Hp × Nat) := semT Tryz.f66 Cx52 Tryz.f66.results
theorem cutM_ok : FnEff Tryz.prog 66 cutMF := semT_ok mixed Tryz.func66 rfl (fun X => ok_of (l := [(45, .eff mergeF), (94, .eff insertF)]) tt_ok ⟨merge_ok, by kernel_rfl, insert_ok, insert_c, trivial⟩ (noEqs _)) (fun _ => rfl) (fun _ => rfl) (by decide) rfl
theorem cutMF_eq {S B nx : Nat} {a f mp : D} {live : List Bool} {ml : List Mb} {H : Hp} {i : Nat} {need : Int} (h8 : live.length = 8) (hs : Hs S B a f mp live ml H nx) (ok : MOk ml) (sm : ml.length ≤ 40000) (hi : i < ml.length) (n0 : 0 ≤ need) (n1 : need ≤ ml[i].b.size) (s1 : ml[i].b.size ≤ 1099511627776) (o0 : 0 ≤ ml[i].b.off) (o1 : ml[i].b.off ≤ 1099511627776) :
    ∃ B' H' nx', cutMF [.one (.ptr S 12 0 0), .one (.int .i64 i), .one (.int .u64 need)] H nx = some (.tup [], H', nx') ∧ Hs S B' a f mp live (cutL ml i need) H' nx' ∧ Stp S B H nx B' H' nx' := by
  have hlo := rowsO_len live
  have hS := hs.top
  have hB := hs.bl
  have hcl : cutL ml i need = if ml[i].b.size - need < 48 then ml else joinedM (ml.take i ++ ([⟨{ ml[i].b with size := need }, ml[i].d⟩, ⟨freeB (ml[i].b.off + need) (ml[i].b.size - need), .sl []⟩] ++ ml.drop (i + 1))) := by
    unfold cutL; rw [List.getElem?_eq_getElem hi]
  by_cases hlt : ml[i].b.size - need < 48
  · rw [hcl, if_pos hlt]
    refine ⟨B, H, nx, ?_, hs, .refl _ _ _ _⟩
    unfold cutMF
    rw [Tryz.results66]
    refine semT_eq rfl (by simp [Tryz.ntmps66]) fun X R hR => ?_
    unfold Cx52
    (repeat ((try simp only [cl_seq, cl_skip]); with_reducible refine cg fun K hK => ?_; (simp (maxSteps := 1000000) only [go_sem, hS, hB, hlo, h8, hi, wrap64 (n := ml[i].b.size - need) (by omega) (by omega)]); (repeat refine ck ?_); (try simp (disch := omega) only [wrap64, wrapi64]); refine hK _ ?_; clear hK K))
    (((try simp only [cl_seq, cl_skip]); refine cl_cond rfl (fun hc => ?_) (fun hc => ?_)))
    · (((try simp only [cl_seq, cl_skip]); (try simp only [cl_ret]); refine hR _ _ (.inr rfl) ?_; (simp (maxSteps := 1000000) only [go_sem])))
    · exact absurd hc (by simp; omega)
  · rw [hcl, if_neg hlt]
    obtain ⟨hs1, st1⟩ := set_hs hs (ml.set i ⟨{ ml[i].b with size := need }, ml[i].d⟩) (by simp)
    have hi1 : i < (ml.set i (⟨{ ml[i].b with size := need }, ml[i].d⟩ : Mb)).length := by simpa using hi
    have hltB := hs.ltB
    have hins := insertF_eq (nx := nx) (i := i + 1) (m := ⟨freeB (ml[i].b.off + need) (ml[i].b.size - need), .sl []⟩) hs1.bl (by simp; omega) (by simp; omega) (by simp; omega) (hs1.fresh _ (Nat.le_refl _)) (by omega)
    have e1 : (ml.set i (⟨{ ml[i].b with size := need }, ml[i].d⟩ : Mb)).take (i + 1) ++ ([(⟨freeB (ml[i].b.off + need) (ml[i].b.size - need), .sl []⟩ : Mb)] ++ (ml.set i (⟨{ ml[i].b with size := need }, ml[i].d⟩ : Mb)).drop (i + 1)) =
        ml.take i ++ ([⟨{ ml[i].b with size := need }, ml[i].d⟩, ⟨freeB (ml[i].b.off + need) (ml[i].b.size - need), .sl []⟩] ++ ml.drop (i + 1)) := by
      rw [List.drop_set_of_lt (by omega), take_one _ i hi1, List.take_set_of_le (by omega)]
      simp
    rw [e1] at hins
    generalize hml2 : ml.take i ++ ([(⟨{ ml[i].b with size := need }, ml[i].d⟩ : Mb), ⟨freeB (ml[i].b.off + need) (ml[i].b.size - need), .sl []⟩] ++ ml.drop (i + 1)) = ml2 at *
    have hl2 : ml2.length = (ml.set i (⟨{ ml[i].b with size := need }, ml[i].d⟩ : Mb)).length + 1 := by rw [← hml2]; simp; omega
    obtain ⟨hs2, st2⟩ := ins_hs hs1 ml2 _ hl2
    have ok2 : MOk ml2 := by
      have hsp : bks ml2 = (bks ml).take i ++ ([{ ml[i].b with size := need }, freeB (ml[i].b.off + need) (ml[i].b.size - need)] ++ (bks ml).drop (i + 1)) := by rw [← hml2]; simp [bks]
      refine ⟨by omega, by rw [hl2]; simp; omega, fun x hx => ?_, ?_⟩
      · rw [← hml2] at hx
        simp only [List.mem_append, List.mem_cons, List.not_mem_nil, or_false] at hx
        rcases hx with hx | (hx | hx) | hx
        · exact ok.bs x (List.mem_of_mem_take hx)
        · rw [hx]; exact n0
        · rw [hx]; simp only [freeB]; omega
        · exact ok.bs x (List.mem_of_mem_drop hx)
      · rw [hsp, sizes_cut (by rw [bks_len]; exact hi) (by simp [bks, freeB]; omega)]
        exact ok.sum
    obtain ⟨B', H', nx', he, hs3, st3⟩ := merge_hs h8 hs2 ok2
    refine ⟨B', H', nx', ?_, hs3, (st1.trans st2).trans st3⟩
    unfold cutMF
    rw [Tryz.results66]
    refine semT_eq rfl (by simp [Tryz.ntmps66]) fun X R hR => ?_
    unfold Cx52
    have e2 : ((i + 1 : Nat) : Int) = (i : Int) + 1 := by omega
    rw [e2] at hins
    have hlen : (ml.set i (⟨{ ml[i].b with size := need }, ml[i].d⟩ : Mb)).length = ml.length := by simp
    have hS1 := hs1.top
    rw [hlen] at hS1 hins he
    simp only [Mb.c, freeB, blkO, topO, topR, updO_same] at hins he hS1
    have hSn : ∀ x, updO (updO H B none) nx x S = topO a f (.ref B 6 0 ml.length) mp live := fun x => by
      rw [updO_ne (Nat.ne_of_lt hs.ltS), updO_ne hs.ne, hS]
    (repeat ((try simp only [cl_seq, cl_skip]); with_reducible refine cg fun K hK => ?_; (simp (maxSteps := 1000000) only [go_sem, hS, hB, hlo, h8, hi, wrap64 (n := ml[i].b.size - need) (by omega) (by omega)]); (repeat refine ck ?_); (try simp (disch := omega) only [wrap64, wrapi64]); refine hK _ ?_; clear hK K))
    (((try simp only [cl_seq, cl_skip]); refine cl_cond rfl (fun hc => ?_) (fun hc => ?_)))
    · exact absurd hc (by simp; omega)
    (repeat ((try simp only [cl_seq, cl_skip]); with_reducible refine cg fun K hK => ?_; (simp (maxSteps := 1000000) only [go_sem, hS, hB, hlo, h8, hi]); (repeat refine ck ?_); (try simp (disch := omega) only [wrap64, wrapi64]); refine hK _ ?_; clear hK K))
    (repeat ((try simp only [cl_seq, cl_skip]); with_reducible refine cg fun K hK => ?_; (simp (maxSteps := 1000000) only [go_sem, hS, hB, hlo, h8, hi, hS1, hins, hSn, he, wrapi64 (n := (i : Int) + 1) (by omega) (by omega), wrap64 (n := ml[i].b.off + need) (by omega) (by omega)]); (repeat refine ck ?_); (try simp (disch := omega) only [wrap64, wrapi64]); refine hK _ ?_; clear hK K))
    (((try simp only [cl_seq, cl_skip]); (try simp only [cl_nil]); refine hR _ _ (.inl rfl) ?_; (simp (maxSteps := 1000000) only [go_sem])))
end Go.Proofs.YtapdaefpkddioaaGreat.Pe
namespace Go.Proofs.YtapdaefpkddioaaGreat.Pe
open Go
set_option maxHeartbeats 4000000
def mineV (l : List Bk) (c off : Int) (all : Bool) : Int × Int := match placeN l off with
  | none => (-1, 4)
  | some i => (i, if ((l[i]?.map (·.owner)).getD 0 != c + 1) && !(all && (l[i]?.map (·.owner)).getD 0 == 0) then 5 else 0)
noncomputable def Cx49 : (Nat → Prop) → Ctx := fun X => { nt := 48, tt := tt, fns := ofList [(67, .rd atR)], keep := keep63, X := X }
noncomputable def mineT : List AD → Hp → Nat → Option (RV × Hp × Nat) := semT Tryz.f63 Cx49 Tryz.f63.results
theorem mineT_ok : FnEff Tryz.prog 63 mineT := semT_ok mixed Tryz.func63 rfl (fun X => ok_of (l := [(67, .rd atR)]) tt_ok ⟨atR_ok, at_c, trivial⟩ (noEqs _)) (fun _ => rfl) (fun _ => rfl) (by decide) rfl
theorem mineT_eq {S B nx : Nat} {a f mp : D} {live : List Bool} {ml : List Mb} {H : Hp} {c : Int} {op : Opn} {al : Bool} (h8 : live.length = 8) (hs : Hs S B a f mp live ml H nx) (sm : ml.length ≤ 50000) (ho : ∀ m ∈ ml, 0 ≤ m.b.off ∧ m.b.off ≤ 1099511627776) (c0 : 0 ≤ c) (c1 : c ≤ 7) :
    mineT [.one (.ptr S 12 0 0), .one (.int .i64 c), .many op.c, .one (.bool al)] H nx = some (iiRV (mineV (bks ml) c op.off al), H, nx) := by
  generalize hv : iiRV (mineV (bks ml) c op.off al) = r
  unfold mineV at hv
  unfold mineT
  rw [Tryz.results63]
  refine semT_eq rfl (by simp [Tryz.ntmps63]) fun X R hR => ?_
  unfold Cx49
  have hlo := rowsO_len live
  have hS := hs.top
  have hB := hs.bl
  have hat := atR_eq (p := op.off) h8 hs sm ho
  have hbl := bks_len ml
  cases hp : placeN (bks ml) op.off with
  | none =>
    have hpv : placeV (bks ml) op.off = -1 := by simp [placeV, hp]
    rw [hpv] at hat
    rw [hp] at hv
    (repeat ((try simp only [cl_seq, cl_skip]); with_reducible refine cg fun K hK => ?_; (simp (maxSteps := 1000000) only [go_sem, Opn.c, hat]); (repeat refine ck ?_); (try simp (disch := omega) only [wrap64, wrapi64]); refine hK _ ?_; clear hK K))
    (((try simp only [cl_seq, cl_skip]); refine cl_block fun K hK1 R hR1 X hX1 => ?_))
    (repeat ((try simp only [cl_seq, cl_skip]); with_reducible refine cg fun K hK => ?_; (simp (maxSteps := 1000000) only [go_sem]); (repeat refine ck ?_); (try simp (disch := omega) only [wrap64, wrapi64]); refine hK _ ?_; clear hK K))
    (((try simp only [cl_seq, cl_skip]); refine cl_cond rfl (fun hd => ?_) (fun hd => ?_)))
    · (repeat ((try simp only [cl_seq, cl_skip]); with_reducible refine cg fun K hK => ?_; (simp (maxSteps := 1000000) only [go_sem]); (repeat refine ck ?_); (try simp (disch := omega) only [wrap64, wrapi64]); refine hK _ ?_; clear hK K))
      (((try simp only [cl_seq, cl_skip]); (try simp only [cl_ret]); refine hR1 _ (hR _ _ (.inr rfl) ?_); (simp (maxSteps := 1000000) only [go_sem])))
      rw [← hv]; rfl
    · exact absurd hd (by decide)
  | some i =>
    obtain ⟨hi, _, _⟩ := place_some hp
    have hi' : i < ml.length := by rw [← hbl]; exact hi
    have hpv : placeV (bks ml) op.off = i := by simp [placeV, hp]
    rw [hpv] at hat
    have hbi : (bks ml)[i]? = some ml[i].b := by simp [bks, hi']
    rw [hp] at hv
    simp only [hbi, Option.map_some, Option.getD_some] at hv
    (repeat ((try simp only [cl_seq, cl_skip]); with_reducible refine cg fun K hK => ?_; (simp (maxSteps := 1000000) only [go_sem, Opn.c, hat]); (repeat refine ck ?_); (try simp (disch := omega) only [wrap64, wrapi64]); refine hK _ ?_; clear hK K))
    (((try simp only [cl_seq, cl_skip]); refine cl_block fun K hK1 R hR1 X hX1 => ?_))
    (repeat ((try simp only [cl_seq, cl_skip]); with_reducible refine cg fun K hK => ?_; (simp (maxSteps := 1000000) only [go_sem]); (repeat refine ck ?_); (try simp (disch := omega) only [wrap64, wrapi64]); refine hK _ ?_; clear hK K))
    (((try simp only [cl_seq, cl_skip]); refine cl_cond rfl (fun hd => ?_) (fun hd => ?_)))
    · exact absurd hd (by simp)
    · (((try simp only [cl_seq, cl_skip]); refine cl_reg_b (g := ?g118) (t := ?t118) (L := ?L118) (((ml[i].b.owner != c + 1) && !(al && ml[i].b.owner == 0))) (fun K hK => ?h1118) ?h2118; case' h1118 => (simp (maxSteps := 1000000) only [go_sem, hS, hB, hi', hlo, h8, wrapi64 (n := c + 1) (by omega) (by omega)]); (repeat refine ck ?_); (repeat' (((refine ite_split (fun hb => ?_) (fun hb => ?_) <;> ((try (simp (maxSteps := 1000000) only [go_sem, hb, hS, hB, hi', hlo, h8, wrapi64 (n := c + 1) (by omega) (by omega)])); (repeat refine ck ?_)))))); all_goals (first | ((try simp (disch := omega) only [wrap64, wrapi64]); refine hK _ ?_; clear hK K; first | rfl | grind | skip) | skip)))
      (((try simp only [cl_seq, cl_skip]); refine cl_cond rfl (fun he => ?_) (fun he => ?_)))
      · (repeat ((try simp only [cl_seq, cl_skip]); with_reducible refine cg fun K hK => ?_; (simp (maxSteps := 1000000) only [go_sem]); (repeat refine ck ?_); (try simp (disch := omega) only [wrap64, wrapi64]); refine hK _ ?_; clear hK K))
        (((try simp only [cl_seq, cl_skip]); (try simp only [cl_ret]); refine hR1 _ (hR _ _ (.inr rfl) ?_); (simp (maxSteps := 1000000) only [go_sem])))
        rw [← hv, he]; rfl
      · ((try simp only [cl_seq, cl_skip, cl_exit, cl_nil]))
        refine hK1 _ ?_
        (repeat ((try simp only [cl_seq, cl_skip]); with_reducible refine cg fun K hK => ?_; (simp (maxSteps := 1000000) only [go_sem]); (repeat refine ck ?_); (try simp (disch := omega) only [wrap64, wrapi64]); refine hK _ ?_; clear hK K))
        (((try simp only [cl_seq, cl_skip]); (try simp only [cl_ret]); refine hR _ _ (.inr rfl) ?_; (simp (maxSteps := 1000000) only [go_sem])))
        rw [← hv, he]; rfl
end Go.Proofs.YtapdaefpkddioaaGreat.Pe
