/- A part of the proof of PmD. -/
import Derived.Sort.Walk0
import Derived.Sort.Statements
import Derived.Shelf.SlSortCmp.NoneTotal
import Derived.Maps.StringElems
import Derived.Laws.Cover1
import Derived.Test.YtapdaefpkddioaaGreatCb11
import Derived.Test.YtapdaefpkddioaaGreatCb24
import Derived.Test.YtapdaefpkddioaaGreatCe39
set_option linter.unusedSimpArgs false
set_option linter.unusedVariables false
set_option linter.unusedSectionVars false
namespace Go.Proofs.YtapdaefpkddioaaGreat.Pe
open Go
set_option maxHeartbeats 4000000
def fitsV (n a : Int) : Bool := n % 16 == 0 && (decide (3824 ≤ n) && decide (n ≤ a))
def fitsF : List AD → Option RV
 | [.one (.int .u64 n), .one (.int .u64 a)] => if U64 n ∧ U64 a then some (.a (.one (.bool (fitsV n a)))) else none
 | _ => none
theorem fits_ok : FnPure Tryz.prog 51 fitsF := by
 (refine fn_pure' (f := 51) mixed Tryz.func51 rfl (fun X => { nt := 17, tt := tt, fns := ofList [], keep := keep51, X := X }) (fun X => ok_of tt_ok trivial (noEqs _)) (fun _ => rfl) (fun _ => rfl) (by decide) Tryz.results51 fitsF ?_)
 intro l r h
 unfold fitsF at h
 split at h
 ·rename_i n a
  split at h
  ·rename_i hn
   obtain ⟨⟨n0, n1⟩, a0, a1⟩ := hn
   injection h with h
   subst h
   refine ⟨by simp [Tryz.ntmps51], fun X nx R hR => ?_⟩
   (repeat ((try simp only [cZ]); with_reducible refine cg fun K hK => ?_; simp only [go_sem]; (repeat refine ck ?_); (try simp (disch := omega) only [wZ]); refine hK _ ?_; clear hK K))
   (((try simp only [cZ]); refine cl_reg_b (g := ?g131) (t := ?t131) (L := ?L131) ((fitsV n a)) (fun K hK => ?h1131) ?h2131; case' h1131 => simp only [go_sem, Int.tmod_eq_emod_of_nonneg n0, ge_iff_le]; (repeat refine ck ?_); (repeat' (((refine ite_split (fun hb => ?_) (fun hb => ?_) <;> ((try (simp only [go_sem, hb, Int.tmod_eq_emod_of_nonneg n0, ge_iff_le])); (repeat refine ck ?_)))))); all_goals (first | ((try simp (disch := omega) only [wZ]); refine hK _ ?_; clear hK K; first | rfl | grind | skip) | skip)))
   all_goals try (simp [fitsV, *]; done)
   (((try simp only [cZ]); (try simp only [cl_ret]); refine hR _ _ (.inr rfl) ?_; (simp only [go_sem])))
  ·cases h
 ·cases h
def mayV (n a : Int) : Bool := fitsV n a && (decide (a ≤ 1048576) && a % 8 == 0)
def mayF : List AD → Option RV
 | [.one (.int .u64 n), .one (.int .u64 a)] => if U64 n ∧ U64 a then some (.a (.one (.bool (mayV n a)))) else none
 | _ => none
theorem may_ok : FnPure Tryz.prog 20 mayF := by
 (refine fn_pure' (f := 20) mixed Tryz.func20 rfl (fun X => { nt := 17, tt := tt, fns := ofList ([(51, .pure fitsF)]), keep := keep20, X := X }) (fun X => ok_of tt_ok (⟨fits_ok, by kernel_rfl, trivial⟩) (noEqs _)) (fun _ => rfl) (fun _ => rfl) (by decide) Tryz.results20 mayF ?_)
 intro l r h
 unfold mayF at h
 split at h
 ·rename_i n a
  split at h
  ·rename_i hn
   injection h with h
   subst h
   have hf : fitsF [.one (.int .u64 n), .one (.int .u64 a)] = some (.a (.one (.bool (fitsV n a)))) := by simp only [fitsF]; rw [if_pos hn]
   obtain ⟨⟨n0, n1⟩, a0, a1⟩ := hn
   refine ⟨by simp [Tryz.ntmps20], fun X nx R hR => ?_⟩
   (repeat ((try simp only [cZ]); with_reducible refine cg fun K hK => ?_; simp only [go_sem]; (repeat refine ck ?_); (try simp (disch := omega) only [wZ]); refine hK _ ?_; clear hK K))
   cases hv : fitsV n a with
   | false =>
    rw [hv] at hf
    (repeat ((try simp only [cZ]); with_reducible refine cg fun K hK => ?_; simp only [go_sem, hf]; (repeat refine ck ?_); (try simp (disch := omega) only [wZ]); refine hK _ ?_; clear hK K))
    (((try simp only [cZ]); (try simp only [cl_ret]); refine hR _ _ (.inr rfl) ?_; (simp only [go_sem])))
    simp [mayV, hv]
   | true =>
    rw [hv] at hf
    (((try simp only [cZ]); refine cl_reg_b (g := ?g132) (t := ?t132) (L := ?L132) ((mayV n a)) (fun K hK => ?h1132) ?h2132; case' h1132 => simp only [go_sem, hf, Int.tmod_eq_emod_of_nonneg a0]; (repeat refine ck ?_); (repeat' (((refine ite_split (fun hb => ?_) (fun hb => ?_) <;> ((try (simp only [go_sem, hb, hf, Int.tmod_eq_emod_of_nonneg a0])); (repeat refine ck ?_)))))); all_goals (first | ((try simp (disch := omega) only [wZ]); refine hK _ ?_; clear hK K; first | rfl | grind | skip) | skip)))
    all_goals try (simp [mayV, *]; done)
    (((try simp only [cZ]); (try simp only [cl_ret]); refine hR _ _ (.inr rfl) ?_; (simp only [go_sem])))
  ·cases h
 ·cases h
def rowsI (l : List Int) : List (List D) := l.map fun n => [.int .i64 n]
theorem rowsI_get' (l : List Int) (i : Nat) (h : i < l.length) : (rowsI l)[i]? = some [.int .i64 l[i]] := by simp [rowsI, h]
theorem rowsI_len (l : List Int) : (rowsI l).length = l.length := by simp [rowsI]
theorem rowsI_all (l : List Int) : (rowsI l).all (fun r => decide (r.length = 1)) = true := by simp [rowsI]
theorem rowsI_appL (l : List Int) (n : Int) : rowsI l ++ [[.int .i64 n]] = rowsI (l ++ [n]) := by simp [rowsI]
theorem rowsI_inj {l m : List Int} (h : rowsI l = rowsI m) : l = m := by
 unfold rowsI at h
 exact List.map_inj_right (fun x y e => by simpa using e) |>.1 h
attribute [go_sem] rowsI_get' rowsI_len rowsI_all rowsI_appL
def liveV (l : List Bool) : Nat → List Int
 | 0 => []
 | k + 1 => liveV l k ++ (if l[k]?.getD false then [(k : Int)] else [])
theorem liveV_len (l : List Bool) : ∀ k, (liveV l k).length ≤ k
 | 0 => Nat.le_refl _
 | k + 1 => by have := liveV_len l k; unfold liveV; rw [List.length_append]; split <;> simp <;> omega
def encSt (x : Sst) : List AD := [.many x.1.c]
theorem encSt_inj (x y : Sst) (h : encSt x = encSt y) : x = y := by
 simp only [encSt, List.cons.injEq, AD.many.injEq, and_true] at h
 exact Sst.c_inj h
noncomputable def liveF : List AD → Option RV := byEnc encSt (fun _ => True) fun x => .a (.one (.sl (rowsI (liveV x.1.live 8))))
theorem liveF_eq {s : St} (h : s.sh) : liveF [.many s.c] = some (.a (.one (.sl (rowsI (liveV s.live 8))))) := byEnc_eq (x := (⟨s, h⟩ : Sst)) encSt_inj trivial
theorem live_ok : FnPure Tryz.prog 26 liveF := by
 (refine fn_pure' (f := 26) mixed Tryz.func26 rfl (fun X => { nt := 18, tt := tt, fns := ofList [], keep := keep26, X := X }) (fun X => ok_of tt_ok trivial (noEqs _)) (fun _ => rfl) (fun _ => rfl) (by decide) Tryz.results26 liveF ?_)
 intro l r hq
 obtain ⟨⟨s, hs⟩, rfl, _, hr⟩ := byEnc_some hq
 clear hq
 simp only at hr
 refine ⟨by simp [encSt, Tryz.ntmps26], fun X nx R hR => ?_⟩
 have h8 := hs.ls8
 have h8' := hs.lv8
 simp only [encSt, St.c, stc]
 (repeat ((try simp only [cZ]); with_reducible refine cg fun K hK => ?_; simp only [go_sem, h8, h8']; (repeat refine ck ?_); (try simp (disch := omega) only [wZ]); refine hK _ ?_; clear hK K))
 (((try simp only [cZ]); refine cl_block fun K hK1 R hR1 X hX1 => ?_))
 refine cl_loop (fun E n => ∃ i : Nat, i ≤ 8 ∧ n = 8 - i ∧ E = mk [(1000000, .heap (fun _ => none) nx), (4, .v (.one (.int .i64 i))), (1, .box 0 (.int .u64 s.all :: .int .u64 s.h.fin :: .sl (rowsB s.h.bl) :: (rowsL s.h.ls ++ (.sl (rowsW s.data) :: .sl (rowsE s.names) :: rowsO s.live)))), (3, .own 0 3 1 (rowsI (liveV s.live i)))]) 8 ⟨0, by omega, by omega, rfl⟩ ?_
 rintro E n ⟨i, hi, rfl, rfl⟩ J hJ R2 hR2 X2 hX2
 have hlen := liveV_len s.live i
 (repeat ((try simp only [cZ]); with_reducible refine cg fun K hK => ?_; simp only [go_sem]; (repeat refine ck ?_); (try simp (disch := omega) only [wZ]); refine hK _ ?_; clear hK K))
 (((try simp only [cZ]); refine cl_cond rfl (fun hc => ?_) (fun hc => ?_)))
 ·simp only [decide_eq_true_eq] at hc
  have hi8 : i < 8 := by omega
  have hil : i < s.live.length := by omega
  (((try simp only [cZ]); refine cl_block fun K hK3 R hR3 X hX3 => ?_))
  cases hv : s.live[i] with
  | true =>
   (repeat ((try simp only [cZ]); with_reducible refine cg fun K hK => ?_; simp only [go_sem, h8, h8', hil, hi8, hv, Int.ofNat_lt]; (repeat refine ck ?_); (try simp (disch := omega) only [wZ]); refine hK _ ?_; clear hK K))
   (((try simp only [cZ]); refine cl_cond (b := true) rfl (fun _ => ?_) (fun h => nomatch h)))
   (repeat ((try simp only [cZ]); with_reducible refine cg fun K hK => ?_; simp only [go_sem]; (repeat refine ck ?_); (try simp (disch := omega) only [wZ]); refine hK _ ?_; clear hK K))
   ((try simp only [cZ, cl_exit, cl_nil]))
   refine hK3 _ ?_
   (repeat ((try simp only [cZ]); with_reducible refine cg fun K hK => ?_; simp only [go_sem, wrapi64 (n := (i : Int) + 1) (by omega) (by omega)]; (repeat refine ck ?_); (try simp (disch := omega) only [wZ]); refine hK _ ?_; clear hK K))
   ((try simp only [cZ, cl_exit, cl_nil]))
   refine hJ _ (8 - (i + 1)) (by omega) ⟨i + 1, by omega, rfl, ?_⟩
   simp only [liveV, List.getElem?_eq_getElem hil, hv, Option.getD_some, ↓reduceIte]
   rfl
  | false =>
   (repeat ((try simp only [cZ]); with_reducible refine cg fun K hK => ?_; simp only [go_sem, h8, h8', hil, hi8, hv, Int.ofNat_lt]; (repeat refine ck ?_); (try simp (disch := omega) only [wZ]); refine hK _ ?_; clear hK K))
   (((try simp only [cZ]); refine cl_cond (b := false) rfl (fun h => nomatch h) (fun _ => ?_)))
   ((try simp only [cZ, cl_exit, cl_nil]))
   refine hK3 _ ?_
   (repeat ((try simp only [cZ]); with_reducible refine cg fun K hK => ?_; simp only [go_sem, wrapi64 (n := (i : Int) + 1) (by omega) (by omega)]; (repeat refine ck ?_); (try simp (disch := omega) only [wZ]); refine hK _ ?_; clear hK K))
   ((try simp only [cZ, cl_exit, cl_nil]))
   refine hJ _ (8 - (i + 1)) (by omega) ⟨i + 1, by omega, rfl, ?_⟩
   simp only [liveV, List.getElem?_eq_getElem hil, hv, Option.getD_some, Bool.false_eq_true, ↓reduceIte, List.append_nil]
   rfl
 ·simp only [decide_eq_false_iff_not] at hc
  have : i = 8 := by omega
  subst this
  ((try simp only [cZ, cl_exit, cl_nil]))
  refine hX2 0 _ (hK1 _ ?_)
  (repeat ((try simp only [cZ]); with_reducible refine cg fun K hK => ?_; simp only [go_sem]; (repeat refine ck ?_); (try simp (disch := omega) only [wZ]); refine hK _ ?_; clear hK K))
  (((try simp only [cZ]); (try simp only [cl_ret]); refine hR _ _ (.inr rfl) ?_; (simp only [go_sem])))
  rw [hr]
def encIs (x : List Int × List Int) : List AD := [.one (.sl (rowsI x.1)), .one (.sl (rowsI x.2))]
theorem encIs_inj (x y : List Int × List Int) (h : encIs x = encIs y) : x = y := by
 obtain ⟨a, b⟩ := x; obtain ⟨c, d⟩ := y
 simp only [encIs, List.cons.injEq, AD.one.injEq, D.sl.injEq, and_true] at h
 rw [rowsI_inj h.1, rowsI_inj h.2]
noncomputable def intsF : List AD → Option RV := byEnc encIs (fun x => Sm x.1 ∧ Sm x.2) fun x => .a (.one (.bool (decide (x.1 = x.2))))
theorem intsF_eq {l m : List Int} (h : Sm l) (hm : Sm m) : intsF [.one (.sl (rowsI l)), .one (.sl (rowsI m))] = some (.a (.one (.bool (decide (l = m))))) := byEnc_eq (x := (l, m)) encIs_inj ⟨h, hm⟩
theorem ints_ok : FnPure Tryz.prog 25 intsF := by
 (refine fn_pure' (f := 25) mixed Tryz.func25 rfl (fun X => { nt := 26, tt := tt, fns := ofList [], keep := keep25, X := X }) (fun X => ok_of tt_ok trivial (noEqs _)) (fun _ => rfl) (fun _ => rfl) (by decide) Tryz.results25 intsF ?_)
 intro l r hq
 obtain ⟨⟨l, m⟩, rfl, ⟨hl, hm⟩, hr⟩ := byEnc_some hq
 clear hq
 simp only [Sm] at hl hm hr
 refine ⟨by simp [encIs, Tryz.ntmps25], fun X nx R hR => ?_⟩
 simp only [encIs]
 (repeat ((try simp only [cZ]); with_reducible refine cg fun K hK => ?_; simp only [go_sem]; (repeat refine ck ?_); (try simp (disch := omega) only [wZ]); refine hK _ ?_; clear hK K))
 (((try simp only [cZ]); refine cl_cond rfl (fun hc => ?_) (fun hc => ?_)))
 ·simp only [bne_iff_ne, ne_eq, Int.natCast_inj] at hc
  (repeat ((try simp only [cZ]); with_reducible refine cg fun K hK => ?_; simp only [go_sem]; (repeat refine ck ?_); (try simp (disch := omega) only [wZ]); refine hK _ ?_; clear hK K))
  (((try simp only [cZ]); (try simp only [cl_ret]); refine hR _ _ (.inr rfl) ?_; (simp only [go_sem])))
  rw [hr]
  have : l ≠ m := fun e => hc (by rw [e])
  simp [this]
 ·simp only [bne_eq_false_iff_eq, Int.natCast_inj] at hc
  (repeat ((try simp only [cZ]); with_reducible refine cg fun K hK => ?_; simp only [go_sem]; (repeat refine ck ?_); (try simp (disch := omega) only [wZ]); refine hK _ ?_; clear hK K))
  (((try simp only [cZ]); refine cl_block fun K hK1 R hR1 X hX1 => ?_))
  refine cl_loop (fun E n => ∃ i : Nat, i ≤ l.length ∧ l.take i = m.take i ∧ n = l.length - i ∧ E = mk [(1000000, .heap (fun _ => none) nx), (5, .v (.one (.int .i64 i))), (0, .v (.one (.sl (rowsI l)))), (1, .v (.one (.sl (rowsI m))))]) l.length ⟨0, by omega, rfl, by omega, rfl⟩ ?_
  rintro E n ⟨i, hi, hti, rfl, rfl⟩ J hJ R2 hR2 X2 hX2
  (repeat ((try simp only [cZ]); with_reducible refine cg fun K hK => ?_; simp only [go_sem]; (repeat refine ck ?_); (try simp (disch := omega) only [wZ]); refine hK _ ?_; clear hK K))
  (((try simp only [cZ]); refine cl_cond rfl (fun hd => ?_) (fun hd => ?_)))
  ·simp only [decide_eq_true_eq, Int.ofNat_lt] at hd
   have hd2 : i < m.length := by omega
   (((try simp only [cZ]); refine cl_block fun K hK3 R hR3 X hX3 => ?_))
   (repeat ((try simp only [cZ]); with_reducible refine cg fun K hK => ?_; simp only [go_sem, hd, hd2]; (repeat refine ck ?_); (try simp (disch := omega) only [wZ]); refine hK _ ?_; clear hK K))
   (((try simp only [cZ]); refine cl_cond rfl (fun he => ?_) (fun he => ?_)))
   ·simp only [bne_iff_ne, ne_eq] at he
    (repeat ((try simp only [cZ]); with_reducible refine cg fun K hK => ?_; simp only [go_sem]; (repeat refine ck ?_); (try simp (disch := omega) only [wZ]); refine hK _ ?_; clear hK K))
    simp only [cl_ret]
    refine hR3 _ (hR2 _ (hR1 _ ?_))
    (((try simp only [cZ]); (try simp only [cl_ret]); refine hR _ _ (.inr rfl) ?_; (simp only [go_sem])))
    rw [hr]
    have : l ≠ m := fun e => he (by subst e; rfl)
    simp [this]
   ·simp only [bne_eq_false_iff_eq] at he
    ((try simp only [cZ, cl_exit, cl_nil]))
    refine hK3 _ ?_
    (repeat ((try simp only [cZ]); with_reducible refine cg fun K hK => ?_; simp only [go_sem, wrapi64 (n := (i : Int) + 1) (by omega) (by omega)]; (repeat refine ck ?_); (try simp (disch := omega) only [wZ]); refine hK _ ?_; clear hK K))
    ((try simp only [cZ, cl_exit, cl_nil]))
    refine hJ _ (l.length - (i + 1)) (by omega) ⟨i + 1, by omega, ?_, rfl, rfl⟩
    rw [take_one l i hd, take_one m i hd2, hti, he]
  ·simp only [decide_eq_false_iff_not, Int.ofNat_lt] at hd
   have hil : i = l.length := by omega
   subst hil
   ((try simp only [cZ, cl_exit, cl_nil]))
   refine hX2 0 _ (hK1 _ ?_)
   (repeat ((try simp only [cZ]); with_reducible refine cg fun K hK => ?_; simp only [go_sem]; (repeat refine ck ?_); (try simp (disch := omega) only [wZ]); refine hK _ ?_; clear hK K))
   (((try simp only [cZ]); (try simp only [cl_ret]); refine hR _ _ (.inr rfl) ?_; (simp only [go_sem])))
   rw [hr]
   have : l = m := by
    rw [List.take_length, hc, List.take_length] at hti
    exact hti
   simp [this]
end Go.Proofs.YtapdaefpkddioaaGreat.Pe
namespace Go.Proofs.YtapdaefpkddioaaGreat.Pe
open Go
set_option maxHeartbeats 4000000
def lessE (a b : En) : Bool := Op.bytesLess a.name.toList b.name.toList
def placeE (out : List En) (e : En) : Nat := (out.findIdx? (lessE e)).getD out.length
def insE (out : List En) (e : En) : List En := out.take (placeE out e) ++ (e :: out.drop (placeE out e))
def entV (l : List En) : List En := l.foldl insE []
theorem placeE_le (out : List En) (e : En) : placeE out e ≤ out.length := by
 unfold placeE
 cases h : out.findIdx? (lessE e) with
 | none => simp
 | some i =>
  have := (List.findIdx?_eq_some_iff_getElem.1 h).1
  simp; omega
theorem insE_len (out : List En) (e : En) : (insE out e).length = out.length + 1 := by
 have := placeE_le out e
 simp [insE]; omega
theorem entV_len (l : List En) : (entV l).length = l.length := by
 have : ∀ (l out : List En), (l.foldl insE out).length = out.length + l.length := by
  intro l
  induction l with
  | nil => intro out; rfl
  | cons e l ih => intro out; rw [List.foldl_cons, ih, insE_len, List.length_cons]; omega
 simpa [entV] using this l []
def backE (out : List En) (e : En) (k : Nat) : Nat := ((out.drop k).findIdx? (lessE e)).elim out.length (· + k)
theorem backE_0 (out : List En) (e : En) : backE out e 0 = placeE out e := by
 unfold backE placeE
 rw [List.drop_zero]
 cases out.findIdx? (lessE e) <;> rfl
theorem backE_end (out : List En) (e : En) : backE out e out.length = out.length := by
 unfold backE
 rw [List.drop_length]; rfl
theorem backE_step (out : List En) (e : En) (k : Nat) (h : k < out.length) : backE out e k = if lessE e out[k] then k else backE out e (k + 1) := by
 unfold backE
 rw [List.drop_eq_getElem_cons h, List.findIdx?_cons]
 split
 ·show 0 + k = k; omega
 ·cases (out.drop (k + 1)).findIdx? (lessE e) <;> simp
  omega
theorem backE_le (out : List En) (e : En) (k : Nat) (h : k ≤ out.length) : backE out e k ≤ out.length := by
 unfold backE
 cases hf : (out.drop k).findIdx? (lessE e) with
 | none => simp
 | some i =>
  have := (List.findIdx?_eq_some_iff_getElem.1 hf).1
  simp at this
  simp; omega
noncomputable def entF : List AD → Option RV := byEnc encSt (fun x => x.1.Wk) fun x => .a (.one (.sl (rowsE (entV x.1.names))))
theorem entF_eq {s : St} (h : s.Wk) : entF [.many s.c] = some (.a (.one (.sl (rowsE (entV s.names))))) := byEnc_eq (x := (⟨s, h.sh⟩ : Sst)) encSt_inj h
theorem ent_ok : FnPure Tryz.prog 24 entF := by
 (refine fn_pure' (f := 24) mixed Tryz.func24 rfl (fun X => { nt := 57, tt := tt, fns := ofList [], keep := keep24, X := X }) (fun X => ok_of tt_ok trivial (noEqs _)) (fun _ => rfl) (fun _ => rfl) (by decide) Tryz.results24 entF ?_)
 intro l r hq
 obtain ⟨⟨s, hs⟩, rfl, hw, hr⟩ := byEnc_some hq
 clear hq
 simp only at hr hw
 have h8 := hs.ls8
 have h8' := hs.lv8
 have hn := hw.nl
 refine ⟨by simp [encSt, Tryz.ntmps24], fun X nx R hR => ?_⟩
 simp only [encSt, St.c, stc]
 (repeat ((try simp only [cZ]); with_reducible refine cg fun K hK => ?_; simp only [go_sem, h8, h8']; (repeat refine ck ?_); (try simp (disch := omega) only [wZ]); refine hK _ ?_; clear hK K))
 (((try simp only [cZ]); refine cl_block fun K hK1 R hR1 X hX1 => ?_))
 refine cl_loop (fun E n => ∃ i : Nat, i ≤ s.names.length ∧ n = s.names.length - i ∧ E = mk [(1000000, .heap (fun _ => none) nx), (4, .v (.one (.int .i64 i))), (1, .box 0 (.int .u64 s.all :: .int .u64 s.h.fin :: .sl (rowsB s.h.bl) :: (rowsL s.h.ls ++ (.sl (rowsW s.data) :: .sl (rowsE s.names) :: rowsO s.live)))), (3, .own 0 82 2 (rowsE (entV (s.names.take i))))]) s.names.length ⟨0, by omega, by omega, rfl⟩ ?_
 rintro E n ⟨i, hi, rfl, rfl⟩ J hJ R2 hR2 X2 hX2
 (repeat ((try simp only [cZ]); with_reducible refine cg fun K hK => ?_; simp only [go_sem, h8, h8']; (repeat refine ck ?_); (try simp (disch := omega) only [wZ]); refine hK _ ?_; clear hK K))
 (((try simp only [cZ]); refine cl_cond rfl (fun hc => ?_) (fun hc => ?_)))
 ·simp only [decide_eq_true_eq, Int.ofNat_lt] at hc
  have hel : (entV (s.names.take i)).length = i := by rw [entV_len, List.length_take]; omega
  have hstep : entV (s.names.take (i + 1)) = insE (entV (s.names.take i)) s.names[i] := by
   rw [take_one _ i hc]; unfold entV; rw [List.foldl_append]; rfl
  generalize entV (s.names.take i) = out at *
  generalize hx : s.names[i] = x at *
  (((try simp only [cZ]); refine cl_block fun K hK3 R hR3 X hX3 => ?_))
  (repeat ((try simp only [cZ]); with_reducible refine cg fun K hK => ?_; simp only [go_sem, h8, h8', hel, wrapi64 (n := (i : Int) - 1) (by omega) (by omega)]; (repeat refine ck ?_); (try simp (disch := omega) only [wZ]); refine hK _ ?_; clear hK K))
  (((try simp only [cZ]); refine cl_block fun K hL1 R hS1 X hY1 => ?_))
  refine cl_loop (fun E n => ∃ k : Nat, k ≤ out.length ∧ n = k ∧ E = mk [(1000000, .heap (fun _ => none) nx), (6, .v (.one (.int .i64 ((k : Int) - 1)))), (1, .box 0 (.int .u64 s.all :: .int .u64 s.h.fin :: .sl (rowsB s.h.bl) :: (rowsL s.h.ls ++ (.sl (rowsW s.data) :: .sl (rowsE s.names) :: rowsO s.live)))), (3, .own 0 82 2 (rowsE out)), (4, .v (.one (.int .i64 i))), (5, .v (.one (.int .i64 (backE out x k))))]) out.length ⟨i, by omega, by omega, by rw [← hel, backE_end]⟩ ?_
  rintro E k ⟨k', hk, rfl, rfl⟩ J' hJ' R3 hR3' X3 hX3'
  (repeat ((try simp only [cZ]); with_reducible refine cg fun K hK => ?_; simp only [go_sem, h8, h8']; (repeat refine ck ?_); (try simp (disch := omega) only [wZ]); refine hK _ ?_; clear hK K))
  (((try simp only [cZ]); refine cl_cond rfl (fun hd => ?_) (fun hd => ?_)))
  ·simp only [decide_eq_true_eq] at hd
   obtain ⟨j, rfl⟩ : ∃ j, k = j + 1 := ⟨k - 1, by omega⟩
   have hj : j < out.length := by omega
   have hbs := backE_step out x j hj
   have hjk : ((j + 1 : Nat) : Int) - 1 = (j : Int) := by omega
   have hend : ∀ E', E' = mk [(1000000, .heap (fun _ => none) nx), (6, .v (.one (.int .i64 ((j : Int) - 1)))), (1, .box 0 (.int .u64 s.all :: .int .u64 s.h.fin :: .sl (rowsB s.h.bl) :: (rowsL s.h.ls ++ (.sl (rowsW s.data) :: .sl (rowsE s.names) :: rowsO s.live)))), (3, .own 0 82 2 (rowsE out)), (4, .v (.one (.int .i64 i))), (5, .v (.one (.int .i64 (backE out x j))))] → J' E' := fun E' hE => hJ' _ j (by omega) ⟨j, by omega, rfl, hE⟩
   generalize hy : out[j] = y at *
   rw [hjk]
   (((try simp only [cZ]); refine cl_block fun K hL3 R hS3 X hY3 => ?_))
   cases hle : lessE x y with
   | true =>
    rw [hle, if_pos rfl] at hbs
    have hle' : Op.bytesLess x.name.toList y.name.toList = true := hle
    (repeat ((try simp only [cZ]); with_reducible refine cg fun K hK => ?_; simp only [go_sem, h8, h8', hc, hx, hj, hy, hle', En.c, strD, Int.ofNat_lt]; (repeat refine ck ?_); (try simp (disch := omega) only [wZ]); refine hK _ ?_; clear hK K))
    (((try simp only [cZ]); refine cl_cond (b := true) rfl (fun _ => ?_) (fun h => nomatch h)))
    (repeat ((try simp only [cZ]); with_reducible refine cg fun K hK => ?_; simp only [go_sem]; (repeat refine ck ?_); (try simp (disch := omega) only [wZ]); refine hK _ ?_; clear hK K))
    ((try simp only [cZ, cl_exit, cl_nil]))
    refine hL3 _ ?_
    (repeat ((try simp only [cZ]); with_reducible refine cg fun K hK => ?_; simp only [go_sem, wrapi64 (n := (j : Int) - 1) (by omega) (by omega)]; (repeat refine ck ?_); (try simp (disch := omega) only [wZ]); refine hK _ ?_; clear hK K))
    ((try simp only [cZ, cl_exit, cl_nil]))
    exact hend _ (by rw [hbs])
   | false =>
    rw [hle, if_neg (by simp)] at hbs
    have hle' : Op.bytesLess x.name.toList y.name.toList = false := hle
    (repeat ((try simp only [cZ]); with_reducible refine cg fun K hK => ?_; simp only [go_sem, h8, h8', hc, hx, hj, hy, hle', En.c, strD, Int.ofNat_lt]; (repeat refine ck ?_); (try simp (disch := omega) only [wZ]); refine hK _ ?_; clear hK K))
    (((try simp only [cZ]); refine cl_cond (b := false) rfl (fun h => nomatch h) (fun _ => ?_)))
    ((try simp only [cZ, cl_exit, cl_nil]))
    refine hL3 _ ?_
    (repeat ((try simp only [cZ]); with_reducible refine cg fun K hK => ?_; simp only [go_sem, wrapi64 (n := (j : Int) - 1) (by omega) (by omega)]; (repeat refine ck ?_); (try simp (disch := omega) only [wZ]); refine hK _ ?_; clear hK K))
    ((try simp only [cZ, cl_exit, cl_nil]))
    exact hend _ (by rw [hbs])
  ·simp only [decide_eq_false_iff_not] at hd
   have : k = 0 := by omega
   subst this
   rw [backE_0]
   have hpl := placeE_le out x
   ((try simp only [cZ, cl_exit, cl_nil]))
   refine hX3' 2 _ (hL1 _ ?_)
   (repeat ((try simp only [cZ]); with_reducible refine cg fun K hK => ?_; simp only [go_sem, h8, h8', hc, hx, En.c, hpl, show ((placeE out x : Nat) : Int) ≤ (out.length : Int) by omega]; (repeat refine ck ?_); (try simp (disch := omega) only [wZ]); refine hK _ ?_; clear hK K))
   ((try simp only [cZ, cl_exit, cl_nil]))
   refine hK3 _ ?_
   (repeat ((try simp only [cZ]); with_reducible refine cg fun K hK => ?_; simp only [go_sem, wrapi64 (n := (i : Int) + 1) (by omega) (by omega)]; (repeat refine ck ?_); (try simp (disch := omega) only [wZ]); refine hK _ ?_; clear hK K))
   ((try simp only [cZ, cl_exit, cl_nil]))
   refine hJ _ (s.names.length - (i + 1)) (by omega) ⟨i + 1, by omega, rfl, ?_⟩
   rw [hstep]
   rfl
 ·simp only [decide_eq_false_iff_not, Int.ofNat_lt] at hc
  have : i = s.names.length := by omega
  subst this
  rw [List.take_length]
  ((try simp only [cZ, cl_exit, cl_nil]))
  refine hX2 0 _ (hK1 _ ?_)
  (repeat ((try simp only [cZ]); with_reducible refine cg fun K hK => ?_; simp only [go_sem]; (repeat refine ck ?_); (try simp (disch := omega) only [wZ]); refine hK _ ?_; clear hK K))
  (((try simp only [cZ]); (try simp only [cl_ret]); refine hR _ _ (.inr rfl) ?_; (simp only [go_sem])))
  rw [hr]
end Go.Proofs.YtapdaefpkddioaaGreat.Pe
namespace Go.Proofs.YtapdaefpkddioaaGreat.Pe
open Go
theorem bl_irr (x : List UInt8) : Op.bytesLess x x = false := by
 induction x with
 | nil => rfl
 | cons a x ih => simp [Op.bytesLess, ih]
theorem bl_trans : ∀ (x y z : List UInt8), Op.bytesLess x y = true → Op.bytesLess y z = true → Op.bytesLess x z = true
 | _, [], _, h, _ => by cases ‹List UInt8› <;> simp [Op.bytesLess] at h
 | _, _ :: _, [], _, h => by simp [Op.bytesLess] at h
 | [], b :: y, c :: z, _, _ => by simp [Op.bytesLess]
 | a :: x, b :: y, c :: z, h1, h2 => by
  have ih := bl_trans x y z
  simp only [Op.bytesLess, Bool.or_eq_true, Bool.and_eq_true, decide_eq_true_eq, beq_iff_eq] at *
  rcases h1 with h1 | ⟨rfl, h1⟩
  ·rcases h2 with h2 | ⟨rfl, h2⟩
   ·exact .inl (UInt8.lt_trans h1 h2)
   ·exact .inl h1
  ·rcases h2 with h2 | ⟨rfl, h2⟩
   ·exact .inl h2
   ·exact .inr ⟨rfl, ih h1 h2⟩
theorem bl_tri : ∀ (x y : List UInt8), Op.bytesLess x y = false → Op.bytesLess y x = false → x = y
 | [], [], _, _ => rfl
 | [], _ :: _, h, _ => by simp [Op.bytesLess] at h
 | _ :: _, [], _, h => by simp [Op.bytesLess] at h
 | a :: x, b :: y, h1, h2 => by
  simp only [Op.bytesLess, Bool.or_eq_false_iff, decide_eq_false_iff_not, Bool.and_eq_false_iff, beq_eq_false_iff_ne] at h1 h2
  have hab : a = b := UInt8.le_antisymm (UInt8.not_lt.1 h2.1) (UInt8.not_lt.1 h1.1)
  subst hab
  have e1 := h1.2.resolve_left (fun h => h rfl)
  have e2 := h2.2.resolve_left (fun h => h rfl)
  rw [bl_tri x y e1 e2]
theorem bl_ntrans (x y z : List UInt8) (h1 : Op.bytesLess x y = false) (h2 : Op.bytesLess y z = false) : Op.bytesLess x z = false := by
 cases h : Op.bytesLess x z with
 | false => rfl
 | true =>
  cases h3 : Op.bytesLess y x with
  | true => rw [bl_trans y x z h3 h] at h2; cases h2
  | false => rw [bl_tri x y h1 h3] at h; rw [h] at h2; cases h2
theorem one_order {α : Type} {lt : α → α → Bool} : ∀ {l m : List α}, l.Perm m → (∀ a ∈ l, ∀ b ∈ l, lt a b = false → lt b a = false → a = b) → l.Pairwise (fun a b => lt b a = false) → m.Pairwise (fun a b => lt b a = false) → l = m
 | [], m, h, _, _, _ => (List.nil_perm.1 h).symm
 | a :: l, m, h, ht, h1, h2 => by
  match m, h with
  | [], h => simp at h
  | b :: m, h =>
   have hab : a = b := by
    obtain ⟨h1a, _⟩ := List.pairwise_cons.1 h1
    obtain ⟨h2b, _⟩ := List.pairwise_cons.1 h2
    by_cases e : a = b
    ·exact e
    ·have ha : a ∈ m := ((List.mem_cons.1 (h.mem_iff.1 List.mem_cons_self)).resolve_left e)
     have hb : b ∈ l := ((List.mem_cons.1 (h.mem_iff.2 List.mem_cons_self)).resolve_left (fun e' => e e'.symm))
     exact ht a List.mem_cons_self b (List.mem_cons_of_mem _ hb) (h2b a ha) (h1a b hb)
   subst hab
   rw [one_order (List.perm_cons a |>.1 h) (fun x hx y hy => ht x (List.mem_cons_of_mem _ hx) y (List.mem_cons_of_mem _ hy)) (List.pairwise_cons.1 h1).2 (List.pairwise_cons.1 h2).2]
theorem insE_perm (out : List En) (e : En) : (insE out e).Perm (e :: out) := by
 unfold insE
 have : (out.take (placeE out e) ++ (e :: out.drop (placeE out e))).Perm (e :: (out.take (placeE out e) ++ out.drop (placeE out e))) := List.perm_middle
 rwa [List.take_append_drop] at this
theorem entV_perm (l : List En) : (entV l).Perm l := by
 have : ∀ (l out : List En), (l.foldl insE out).Perm (out ++ l) := by
  intro l
  induction l with
  | nil => intro out; simp
  | cons e l ih =>
   intro out
   rw [List.foldl_cons]
   refine (ih _).trans ?_
   refine ((insE_perm out e).append_right l).trans ?_
   exact (List.perm_middle (l₁ := out) (a := e) (l₂ := l)).symm
 simpa [entV] using this l []
theorem insE_sorted {out : List En} {e : En} (h : out.Pairwise (fun a b => lessE b a = false)) : (insE out e).Pairwise (fun a b => lessE b a = false) := by
 have hdrop : ∀ x ∈ out.drop (placeE out e), lessE x e = false := by
  intro x hx
  unfold placeE at hx
  cases hf : out.findIdx? (lessE e) with
  | none => rw [hf] at hx; simp at hx
  | some i =>
   rw [hf] at hx
   simp only [Option.getD_some] at hx
   obtain ⟨hi, h1, _⟩ := List.findIdx?_eq_some_iff_getElem.1 hf
   rw [List.drop_eq_getElem_cons hi] at hx
   have hlt : ∀ y, lessE e y = true → lessE y e = false := fun y hy => by
    cases h2 : lessE y e with
    | false => rfl
    | true => have := bl_trans _ _ _ hy h2; rw [bl_irr] at this; cases this
   rcases List.mem_cons.1 hx with rfl | hx
   ·exact hlt _ h1
   ·have hp := (List.pairwise_cons.1 ((List.drop_eq_getElem_cons hi) ▸ (h.drop (i := i)))).1 x hx
    cases h2 : lessE x e with
    | false => rfl
    | true => have := bl_trans _ _ _ h2 h1; rw [show Op.bytesLess x.name.toList out[i].name.toList = lessE x out[i] from rfl, hp] at this; cases this
 have htake : ∀ x ∈ out.take (placeE out e), lessE e x = false := by
  intro x hx
  unfold placeE at hx
  cases hf : out.findIdx? (lessE e) with
  | none =>
   rw [hf] at hx
   simp only [Option.getD_none, List.take_length] at hx
   have := List.findIdx?_eq_none_iff.1 hf x hx
   simpa using this
  | some i =>
   rw [hf] at hx
   simp only [Option.getD_some] at hx
   obtain ⟨hi, _, h2⟩ := List.findIdx?_eq_some_iff_getElem.1 hf
   obtain ⟨j, hj, rfl⟩ := List.getElem_of_mem hx
   simp at hj
   have := h2 j (by omega)
   rw [List.getElem_take]
   simpa using this
 unfold insE
 refine List.pairwise_append.2 ⟨h.sublist (List.take_sublist _ _), List.pairwise_cons.2 ⟨hdrop, h.sublist (List.drop_sublist _ _)⟩, fun a ha b hb => ?_⟩
 rcases List.mem_cons.1 hb with rfl | hb
 ·exact htake a ha
 ·have := List.take_append_drop (placeE out e) out ▸ h
  exact (List.pairwise_append.1 this).2.2 a ha b hb
theorem entV_sorted (l : List En) : (entV l).Pairwise (fun a b => lessE b a = false) := by
 have : ∀ (l out : List En), out.Pairwise (fun a b => lessE b a = false) → (l.foldl insE out).Pairwise (fun a b => lessE b a = false) := by
  intro l
  induction l with
  | nil => intro out h; exact h
  | cons e l ih => intro out h; exact ih _ (insE_sorted h)
 exact this l [] List.Pairwise.nil
end Go.Proofs.YtapdaefpkddioaaGreat.Pe
namespace Go.Proofs.YtapdaefpkddioaaGreat.Pe
open Go Go.Proofs Go.RowKit Go.Sort Go.Shelf Go.Lib
def cmpB (a b : ByteArray) : Int := if Op.bytesLess a.toList b.toList = true then -1 else if (a.toList == b.toList) = true then 0 else 1
set_option maxHeartbeats 1000000 in
theorem ent_cmp (a b : ByteArray) (x y : Int) (W : World) : Calls Tryz.prog 49 #[.agg #[.string a, .int .u64 x], .agg #[.string b, .int .u64 y]] W fun e w' => e = .returned (.int .i64 (cmpB a b)) ∧ ∃ q os', w' = grow (W.drewN q) os' := by
 obtain ⟨r, hr⟩ : ∃ r, cmpB a b = r := ⟨_, rfl⟩
 rw [hr]
 unfold cmpB at hr
 have fin : ∀ r', r' = r → ∀ w', w' = (W.alloc (.cells #[.string a, .int .u64 x] 81)).alloc (.cells #[.string b, .int .u64 y] 81) → Ending.returned (Value.int .i64 r') = .returned (.int .i64 r) ∧ ∃ q os', w' = grow (W.drewN q) os' := by
  rintro _ rfl _ rfl
  exact ⟨rfl, 0, _, by rw [alloc_eq_grow, alloc_eq_grow, grow_grow]; rfl⟩
 generalize hl : Op.bytesLess a.toList b.toList = l at hr
 generalize he : (a.toList == b.toList) = eq at hr
 cases l with
 | true =>
  go_enter Tryz.func49, Tryz.ntmps49
  go_wp2
  go_ret
  exact fin _ (by simpa using hr) _ rfl
 | false =>
  cases eq with
  | true =>
   go_enter Tryz.func49, Tryz.ntmps49
   go_wp2
   go_ret
   exact fin _ (by simpa using hr) _ rfl
  | false =>
   go_enter Tryz.func49, Tryz.ntmps49
   go_wp2
   go_ret
   exact fin _ (by simpa using hr) _ rfl
end Go.Proofs.YtapdaefpkddioaaGreat.Pe
