/- A part of the proof of PmD. -/
import Derived.Test.YtapdaefpkddioaaGreatCb13
set_option linter.unusedSimpArgs false
set_option linter.unusedVariables false
set_option linter.unusedSectionVars false
namespace Go.Proofs.YtapdaefpkddioaaGreat.Pe
open Go
def rowsN (l : List Int) : List (List D) := l.map fun n => [.int .u64 n]
theorem rowsN_get' (l : List Int) (i : Nat) (h : i < l.length) : (rowsN l)[i]? = some [.int .u64 l[i]] := by simp [rowsN, h]
theorem rowsN_len (l : List Int) : (rowsN l).length = l.length := by simp [rowsN]
theorem rowsN_all (l : List Int) : (rowsN l).all (fun r => decide (r.length = 1)) = true := by simp [rowsN]
theorem wrap64 {n : Int} (h0 : 0 ≤ n) (h1 : n < 18446744073709551616) : IntKind.u64.wrap n = n := by
  rw [IntKind.wrap_u64]; omega
theorem wrapi64 {n : Int} (h0 : -9223372036854775808 ≤ n) (h1 : n < 9223372036854775808) : IntKind.i64.wrap n = n := by
  rw [IntKind.wrap_i64]; omega
theorem splice_eq (xs : List D) (off : Nat) (vs : List D) : splice xs off vs = xs.take off ++ vs ++ xs.drop (off + vs.length) := rfl
attribute [go_sem low] splice_eq
theorem bytesD_len (s : ByteArray) : (bytesD s).length = s.size := by simp [bytesD]
theorem bytesD_all (s : ByteArray) : (bytesD s).all (fun r => decide (r.length = 1)) = true := by
  unfold bytesD; rw [List.all_map, List.all_eq_true]; intro x _; rfl
attribute [go_sem] nilQ isNilC eqNe TK.isSl Bool.false_and Bool.and_false bytesQ strAtQ TK.isStr bytesD_len bytesD_all
attribute [go_sem] fitEq TyI.eqn D.isB D.isP D.isI AD.weak capQ clearQ trimQ appendZQ TK.isInt runFrom grdQ skipQ preQ semOp semOp0 semOp1 pubQ appendRefQ copyQ eqQ eqD eqCells eqAD enterQ callVQ ones mapRows lookupQ updateQ deleteQ keyOk dstQ mv mvC opd opds parts data cst addr Pl.av Pl.shift rdPl wrPl loadQ storeQ fieldAddrQ indexAddrQ lenQ rowsOf appendQ optInt sliceQ slRows slStr setRV callQ extractQ mmQ maxD minD Q.wp_bind Q.wp_ask Q.wp_set Q.wp_ret Q.wp_ite Q.wp_fail mk_cons upd_mk norm normAV List.map_cons List.map_nil binD intD shD unD AD.int? AD.d? AD.bool? AD.cells fillD fillRows sub TK.agg start startL gs resQ resQ1 rvOf ofList fun2 List.toList_toArray List.getElem?_toArray List.getElem?_cons_zero List.getElem?_cons_succ Option.bind_some Option.bind_none List.length_cons List.length_nil List.take_zero List.take_succ_cons List.drop_zero List.drop_succ_cons List.take_nil List.drop_nil List.nil_append List.cons_append List.set_cons_zero List.set_cons_succ and_true true_and Option.isNone_none Option.isNone_some Nat.zero_add Nat.add_zero decide_true decide_false false_and and_false Bool.false_eq_true Nat.lt_add_one Nat.zero_lt_succ Nat.succ_ne_zero gt_iff_lt List.replicate_succ List.replicate_zero Int.toNat_natCast ofOpt_some ofOpt_none ofOpt_ck1 ofOpt_ck2 wp_ck1 wp_ck2 Q.bind_ret upd_at ck_ite tt rowsN_get' rowsN_len rowsN_all List.append_nil Option.getD_some Option.getD_none Nat.sub_zero List.length_take List.length_drop List.all_cons List.all_nil List.all_append Bool.and_true Bool.true_and
theorem wpT_ck1 {α : Type} (c : Prop) [Decidable c] (q : Q α) (K : α → Env → List Nat → List Nat → Prop) (E : Env) (r u : List Nat) : (if c then q else Q.fail).wpT K E r u = (c ∧ q.wpT K E r u) := by by_cases h : c <;> simp [h, Q.wpT]
theorem wpT_ck2 {α : Type} (c : Prop) [Decidable c] (q : Q α) (K : α → Env → List Nat → List Nat → Prop) (E : Env) (r u : List Nat) : (if c then Q.fail else q).wpT K E r u = (¬ c ∧ q.wpT K E r u) := by by_cases h : c <;> simp [h, Q.wpT]
attribute [go_sem] drawW wpT_ck1 wpT_ck2 Q.wpT_bind Q.wpT_ite Q.wpT_ret Q.wpT_fail Q.wpT_ask Q.wpT_set
attribute [go_sem] Nat.reduceBEq Bool.or_false Bool.or_true Bool.not_true Bool.not_false Nat.reduceAdd Nat.reduceMul Nat.reduceSub Nat.reduceLT Nat.reduceLeDiff Nat.reduceEqDiff reduceCtorEq Int.reduceEq Int.reduceLT Int.reduceLE Int.reduceNe Int.reduceAdd Int.reduceSub Int.reduceMul Int.reduceToNat Int.reduceNeg
attribute [go_sem ↓] reduceIte
theorem ck {a b : Prop} (k : b) (h : a := by first | omega | (refine And.intro ?_ ?_ <;> omega) | (with_reducible refine (show indep _ _ = true from ?_); kernel_rfl) | (simp; omega) | (simp; done)) : a ∧ b := ⟨h, k⟩
theorem cl_mid {C : Ctx} {c : Code} {cs : List Code} {Qx : Ex → Env → Prop} {E : Env} (Pm : Env → Prop) (h1 : ∀ K : Env → Prop, (∀ E', Pm E' → K E') → cl C [c] (fun e E' => match e with | .normal => K E' | e => Qx e E') E) (h2 : ∀ E', Pm E' → cl C cs Qx E') : cl C (c :: cs) Qx E := by
  refine cwp_congr (fun e E' h => ?_) (fun e E' h => ?_) (cl_one (h1 (fun E' => cl C cs Qx E') h2))
  · cases e <;> exact h
  · cases e <;> exact h
theorem cl_reg_b {C : Ctx} {cs : List Code} {Qx : Ex → Env → Prop} {E : Env} {id t : Nat} {ops : Array Oper} {g : Nat × AV} {L : List (Nat × AV)} (f : Bool)
    (h : ∀ K : Env → Prop, (∀ b, b = f → K (mk (g :: (t, .v (.one (.bool b))) :: L))) → (runFrom C ops 0 ops.toList).wp (fun _ E' => K (norm (C.keep id) E')) E) (hc : cl C cs Qx (mk (g :: (t, .v (.one (.bool f))) :: L))) : cl C (.region id ops false :: cs) Qx E :=
  h _ fun b hb => by subst hb; exact hc
theorem cl_drw_b {C : Ctx} {cs : List Code} {Qx : Ex → Env → Prop} {E : Env} {id t : Nat} {ops : Array Oper} {g : Nat × AV} {L : List (Nat × AV)} (f : Bool)
    (h : ∀ K : Env → Prop, (∀ b, b = f → K (mk (g :: (t, .v (.one (.bool b))) :: L))) → drawW C ops 0 ops.toList (fun E' fp => indep ops fp = true ∧ K (norm (C.keep id) E')) E []) (hc : cl C cs Qx (mk (g :: (t, .v (.one (.bool f))) :: L))) : cl C (.region id ops true :: cs) Qx E :=
  h _ fun b hb => by subst hb; exact hc
def regW (C : Ctx) (id : Nat) (ops : Array Oper) (d : Bool) (K : Env → Prop) (E : Env) : Prop :=
  match d with
  | false => (runFrom C ops 0 ops.toList).wp (fun _ E' => K (norm (C.keep id) E')) E
  | true => drawW C ops 0 ops.toList (fun E' fp => indep ops fp = true ∧ K (norm (C.keep id) E')) E []
theorem regW_f (C : Ctx) (id : Nat) (ops : Array Oper) (K : Env → Prop) (E : Env) : regW C id ops false K E = (runFrom C ops 0 ops.toList).wp (fun _ E' => K (norm (C.keep id) E')) E := rfl
theorem regW_t (C : Ctx) (id : Nat) (ops : Array Oper) (K : Env → Prop) (E : Env) : regW C id ops true K E = drawW C ops 0 ops.toList (fun E' fp => indep ops fp = true ∧ K (norm (C.keep id) E')) E [] := rfl
attribute [go_sem] regW_f regW_t
theorem cg {C : Ctx} {cs : List Code} {Qx : Ex → Env → Prop} {E : Env} {id : Nat} {ops : Array Oper} {d : Bool} (h : ∀ K : Env → Prop, (∀ E', cl C cs Qx E' → K E') → regW C id ops d K E) : cl C (.region id ops d :: cs) Qx E := by
  cases d with
  | false => exact h _ fun _ h => h
  | true => exact h _ fun _ h => h
end Go.Proofs.YtapdaefpkddioaaGreat.Pe
namespace Go.Proofs.YtapdaefpkddioaaGreat.Pe
open Go
noncomputable def byEnc {α β : Type} (enc : α → List AD) (ok : α → Prop) (val : α → β) : List AD → Option β :=
  open Classical in fun l => if h : ∃ x, enc x = l ∧ ok x then some (val (Classical.choose h)) else none
theorem byEnc_some {α β : Type} {enc : α → List AD} {ok : α → Prop} {val : α → β} {l : List AD} {r : β} (h : byEnc enc ok val l = some r) : ∃ x, l = enc x ∧ ok x ∧ r = val x := by
  unfold byEnc at h
  split at h
  · rename_i hx
    injection h with h
    exact ⟨_, (Classical.choose_spec hx).1.symm, (Classical.choose_spec hx).2, h.symm⟩
  · cases h
theorem byEnc_eq {α β : Type} {enc : α → List AD} {ok : α → Prop} {val : α → β} (hi : ∀ x y, enc x = enc y → x = y) {x : α} (h : ok x) : byEnc enc ok val (enc x) = some (val x) := by
  have hx : ∃ y, enc y = enc x ∧ ok y := ⟨x, rfl, h⟩
  unfold byEnc
  rw [dif_pos hx, hi _ _ (Classical.choose_spec hx).1]
abbrev U64 (n : Int) : Prop := 0 ≤ n ∧ n < 18446744073709551616
def addV (a b : Int) : Option Int := if a + b < 18446744073709551616 then some (a + b) else none
theorem addV_u64 {a b s : Int} (ha : U64 a) (hb : U64 b) (h : addV a b = some s) : U64 s := by
  unfold addV at h
  unfold U64 at *
  split at h
  · injection h with h; omega
  · cases h
def optV (o : Option Int) : RV := .tup [.one (.int .u64 (o.getD 0)), .one (.bool o.isSome)]
instance (n : Int) : Decidable (U64 n) := by unfold U64; infer_instance
def addF : List AD → Option RV
  | [.one (.int .u64 a), .one (.int .u64 b)] => if U64 a ∧ U64 b then some (optV (addV a b)) else none
  | _ => none
theorem add_ok : FnPure Tryz.prog 85 addF := by
  (refine fn_pure' (f := 85) mixed Tryz.func85 rfl (fun X => { nt := 13, tt := tt, fns := ofList [], keep := keep85, X := X }) (fun X => ok_of tt_ok trivial (noEqs _)) (fun _ => rfl) (fun _ => rfl) (by decide) Tryz.results85 addF ?_)
  intro l r h
  unfold addF at h
  split at h
  · rename_i a b
    split at h
    · rename_i hab
      obtain ⟨ha, hb⟩ := hab
      unfold U64 at ha hb
      injection h with h
      subst h
      refine ⟨by simp [Tryz.ntmps85], fun X nx R hR => ?_⟩
      (((try simp only [cl_seq, cl_skip]); with_reducible refine cl_reg fun K hK => ?_; (simp (maxSteps := 1000000) only [go_sem, keep85]); (repeat refine ck ?_); (first | ((try simp (disch := omega) only [wrap64, wrapi64]); refine hK _ ?_; clear hK K) | skip)))
      (((try simp only [cl_seq, cl_skip]); with_reducible refine cl_reg fun K hK => ?_; (simp (maxSteps := 1000000) only [go_sem, keep85, wrap64 (n := 18446744073709551615 - a) (by omega) (by omega)]); (repeat refine ck ?_); (first | ((try simp (disch := omega) only [wrap64, wrapi64]); refine hK _ ?_; clear hK K) | skip)))
      (((try simp only [cl_seq, cl_skip]); refine cl_cond rfl (fun hc => ?_) (fun hc => ?_)))
      · simp only [decide_eq_true_eq] at hc
        (((try simp only [cl_seq, cl_skip]); with_reducible refine cl_reg fun K hK => ?_; (simp (maxSteps := 1000000) only [go_sem, keep85]); (repeat refine ck ?_); (first | ((try simp (disch := omega) only [wrap64, wrapi64]); refine hK _ ?_; clear hK K) | skip)))
        simp only [cl_ret]
        refine hR _ _ (.inr rfl) ?_
        (simp (maxSteps := 1000000) only [go_sem])
        simp [addV, optV, show ¬ a + b < 18446744073709551616 by omega]
      · simp only [decide_eq_false_iff_not] at hc
        (((try simp only [cl_seq, cl_skip]); with_reducible refine cl_reg fun K hK => ?_; (simp (maxSteps := 1000000) only [go_sem, keep85, wrap64 (n := a + b) (by omega) (by omega)]); (repeat refine ck ?_); (first | ((try simp (disch := omega) only [wrap64, wrapi64]); refine hK _ ?_; clear hK K) | skip)))
        simp only [cl_ret]
        refine hR _ _ (.inr rfl) ?_
        (simp (maxSteps := 1000000) only [go_sem])
        simp [addV, optV, show a + b < 18446744073709551616 by omega]
    · cases h
  · cases h
theorem addF_eq {a b : Int} (ha : U64 a) (hb : U64 b) : addF [.one (.int .u64 a), .one (.int .u64 b)] = some (optV (addV a b)) := by simp [addF, ha, hb]
def pow2N (a : Nat) : Bool := if h : 1 < a ∧ a % 2 = 0 then pow2N (a / 2) else a == 1
termination_by a
decreasing_by omega
def pow2 (a : Int) : Bool := pow2N a.toNat
theorem pow2_half {a : Int} (h : 1 < a) (he : a % 2 = 0) : pow2 a = pow2 (a / 2) := by
  unfold pow2
  rw [pow2N, dif_pos (by omega)]
  congr 1; omega
theorem pow2_end {a : Int} (h0 : 0 ≤ a) (h : ¬ (1 < a ∧ a % 2 = 0)) : pow2 a = decide (a = 1) := by
  unfold pow2
  rw [pow2N, dif_neg (by omega)]
  by_cases e : a = 1
  · subst e; rfl
  · simp [e]; omega
def powF : List AD → Option RV
  | [.one (.int .u64 a)] => if U64 a then some (.a (.one (.bool (pow2 a)))) else none
  | _ => none
theorem pow_ok : FnPure Tryz.prog 137 powF := by
  (refine fn_pure' (f := 137) mixed Tryz.func137 rfl (fun X => { nt := 14, tt := tt, fns := ofList [], keep := keep137, X := X }) (fun X => ok_of tt_ok trivial (noEqs _)) (fun _ => rfl) (fun _ => rfl) (by decide) Tryz.results137 powF ?_)
  intro l r h
  unfold powF at h
  split at h
  · rename_i a
    split at h
    · rename_i ha
      unfold U64 at ha
      injection h with h
      subst h
      refine ⟨by simp [Tryz.ntmps137], fun X nx R hR => ?_⟩
      (((try simp only [cl_seq, cl_skip]); with_reducible refine cl_reg fun K hK => ?_; (simp (maxSteps := 1000000) only [go_sem, keep137]); (repeat refine ck ?_); (first | ((try simp (disch := omega) only [wrap64, wrapi64]); refine hK _ ?_; clear hK K) | skip)))
      simp only [cl_seq]
      refine cl_block fun K1 hK1 R1 hR1 X1 hX1 => ?_
      refine cl_loop (fun E n => ∃ a', 0 ≤ a' ∧ a' < 18446744073709551616 ∧ pow2 a' = pow2 a ∧ n = a'.toNat ∧ E = mk [(1000000, .heap (fun _ => none) nx), (0, .v (.one (.int .u64 a')))]) a.toNat ⟨a, ha.1, ha.2, rfl, rfl, rfl⟩ ?_
      rintro E n ⟨a', h0, h1, hp, rfl, rfl⟩ J hJ R2 hR2 X2 hX2
      (((try simp only [cl_seq, cl_skip]); refine cl_reg_b (g := ?g101) (t := ?t101) (L := ?L101) ((decide (1 < a' ∧ a' % 2 = 0))) (fun K hK => ?h1101) ?h2101; case' h1101 => (simp (maxSteps := 1000000) only [go_sem, keep137, Int.tmod_eq_emod_of_nonneg h0]); (repeat refine ck ?_); (repeat' (((refine ite_split (fun hb => ?_) (fun hb => ?_) <;> ((try (simp (maxSteps := 1000000) only [go_sem, hb, keep137, Int.tmod_eq_emod_of_nonneg h0])); (repeat refine ck ?_)))))); all_goals (first | ((try simp (disch := omega) only [wrap64, wrapi64]); refine hK _ ?_; clear hK K; first | rfl | grind | skip) | skip)))
      (((try simp only [cl_seq, cl_skip]); refine cl_cond rfl (fun hc => ?_) (fun hc => ?_)))
      · simp only [decide_eq_true_eq] at hc
        simp only [cl_skip]
        refine cl_block fun K3 hK3 R3 hR3 X3 hX3 => ?_
        (((try simp only [cl_seq, cl_skip]); with_reducible refine cl_reg fun K hK => ?_; (simp (maxSteps := 1000000) only [go_sem, keep137, Int.tdiv_eq_ediv_of_nonneg h0, wrap64 (n := a' / 2) (by omega) (by omega)]); (repeat refine ck ?_); (first | ((try simp (disch := omega) only [wrap64, wrapi64]); refine hK _ ?_; clear hK K) | skip)))
        simp only [cl_nil]
        exact hK3 _ (hJ _ (a' / 2).toNat (by omega) ⟨a' / 2, by omega, by omega, by rw [← hp, pow2_half hc.1 hc.2], rfl, rfl⟩)
      · simp only [decide_eq_false_iff_not] at hc
        simp only [cl_exit]
        refine hX2 0 _ (hK1 _ ?_)
        (((try simp only [cl_seq, cl_skip]); with_reducible refine cl_reg fun K hK => ?_; (simp (maxSteps := 1000000) only [go_sem, keep137]); (repeat refine ck ?_); (first | ((try simp (disch := omega) only [wrap64, wrapi64]); refine hK _ ?_; clear hK K) | skip)))
        (((try simp only [cl_seq, cl_skip]); (try simp only [cl_ret]); refine hR _ _ (.inr rfl) ?_; (simp (maxSteps := 1000000) only [go_sem])))
        simp [← hp, pow2_end h0 hc, Bool.beq_eq_decide_eq]
    · cases h
  · cases h
theorem powF_eq {a : Int} (h : U64 a) : powF [.one (.int .u64 a)] = some (.a (.one (.bool (pow2 a)))) := by simp [powF, h]
def mulV (a b : Int) : Option Int := if a * b < 18446744073709551616 then some (a * b) else none
def mulF : List AD → Option RV
  | [.one (.int .u64 a), .one (.int .u64 b)] => if U64 a ∧ U64 b then some (optV (mulV a b)) else none
  | _ => none
theorem mul_le {a b : Int} (ha : 0 < a) : 18446744073709551615 / a < b ↔ ¬ a * b < 18446744073709551616 := by
  rw [Int.ediv_lt_iff_lt_mul ha, Int.mul_comm b a]; omega
theorem mul_ok : FnPure Tryz.prog 55 mulF := by
  (refine fn_pure' (f := 55) mixed Tryz.func55 rfl (fun X => { nt := 17, tt := tt, fns := ofList [], keep := keep55, X := X }) (fun X => ok_of tt_ok trivial (noEqs _)) (fun _ => rfl) (fun _ => rfl) (by decide) Tryz.results55 mulF ?_)
  intro l r h
  unfold mulF at h
  split at h
  · rename_i a b
    split at h
    · rename_i hab
      obtain ⟨ha, hb⟩ := hab
      unfold U64 at ha hb
      injection h with h
      subst h
      refine ⟨by simp [Tryz.ntmps55], fun X nx R hR => ?_⟩
      have hab0 : 0 ≤ a * b := Int.mul_nonneg ha.1 hb.1
      have hq0 : 0 ≤ 18446744073709551615 / a := Int.ediv_nonneg (by omega) ha.1
      have hq1 : 18446744073709551615 / a ≤ 18446744073709551615 := Int.ediv_le_self _ (by omega)
      (((try simp only [cl_seq, cl_skip]); with_reducible refine cl_reg fun K hK => ?_; (simp (maxSteps := 1000000) only [go_sem, keep55]); (repeat refine ck ?_); (first | ((try simp (disch := omega) only [wrap64, wrapi64]); refine hK _ ?_; clear hK K) | skip)))
      (((try simp only [cl_seq, cl_skip]); refine cl_reg_b (g := ?g102) (t := ?t102) (L := ?L102) ((decide (¬ a * b < 18446744073709551616))) (fun K hK => ?h1102) ?h2102; case' h1102 => (simp (maxSteps := 1000000) only [go_sem, keep55, Int.tdiv_eq_ediv_of_nonneg (a := 18446744073709551615) (b := a) (by omega), wrap64 (n := 18446744073709551615 / a) (by omega) (by omega)]); (repeat refine ck ?_); (repeat' (((refine ite_split (fun hb => ?_) (fun hb => ?_) <;> ((try (simp (maxSteps := 1000000) only [go_sem, hb, keep55, Int.tdiv_eq_ediv_of_nonneg (a := 18446744073709551615) (b := a) (by omega), wrap64 (n := 18446744073709551615 / a) (by omega) (by omega)])); (repeat refine ck ?_)))))); all_goals (first | ((try simp (disch := omega) only [wrap64, wrapi64]); refine hK _ ?_; clear hK K; first | rfl | grind | skip) | skip)))
      · simp_all
      · rw [decide_eq_decide, mul_le (by omega)]
      (((try simp only [cl_seq, cl_skip]); refine cl_cond rfl (fun hc => ?_) (fun hc => ?_)))
      · simp only [decide_eq_true_eq] at hc
        (((try simp only [cl_seq, cl_skip]); with_reducible refine cl_reg fun K hK => ?_; (simp (maxSteps := 1000000) only [go_sem, keep55]); (repeat refine ck ?_); (first | ((try simp (disch := omega) only [wrap64, wrapi64]); refine hK _ ?_; clear hK K) | skip)))
        (((try simp only [cl_seq, cl_skip]); (try simp only [cl_ret]); refine hR _ _ (.inr rfl) ?_; (simp (maxSteps := 1000000) only [go_sem])))
        simp [mulV, optV, hc]
      · simp only [decide_eq_false_iff_not, Decidable.not_not] at hc
        (((try simp only [cl_seq, cl_skip]); with_reducible refine cl_reg fun K hK => ?_; (simp (maxSteps := 1000000) only [go_sem, keep55, wrap64 (n := a * b) (by omega) (by omega)]); (repeat refine ck ?_); (first | ((try simp (disch := omega) only [wrap64, wrapi64]); refine hK _ ?_; clear hK K) | skip)))
        (((try simp only [cl_seq, cl_skip]); (try simp only [cl_ret]); refine hR _ _ (.inr rfl) ?_; (simp (maxSteps := 1000000) only [go_sem])))
        simp [mulV, optV, hc]
    · cases h
  · cases h
theorem mulF_eq {a b : Int} (ha : U64 a) (hb : U64 b) : mulF [.one (.int .u64 a), .one (.int .u64 b)] = some (optV (mulV a b)) := by simp [mulF, ha, hb]
theorem pow2_pos {a : Int} (h0 : 0 ≤ a) (h : pow2 a = true) : 0 < a := by
  rcases Int.lt_or_eq_of_le h0 with h1 | h1
  · exact h1
  · subst h1; simp [pow2, pow2N] at h
def upV (n a : Int) : Option Int := if pow2 a then (if n % a = 0 then some n else addV (n - n % a) a) else none
def upF : List AD → Option RV
  | [.one (.int .u64 a), .one (.int .u64 b)] => if U64 a ∧ U64 b then some (optV (upV a b)) else none
  | _ => none
theorem upF_eq {a b : Int} (ha : U64 a) (hb : U64 b) : upF [.one (.int .u64 a), .one (.int .u64 b)] = some (optV (upV a b)) := by simp [upF, ha, hb]
theorem up_ok : FnPure Tryz.prog 134 upF := by
  (refine fn_pure' (f := 134) mixed Tryz.func134 rfl (fun X => { nt := 23, tt := tt, fns := ofList ([(85, .pure addF), (137, .pure powF)]), keep := keep134, X := X }) (fun X => ok_of tt_ok (⟨add_ok, by kernel_rfl, pow_ok, by kernel_rfl, trivial⟩) (noEqs _)) (fun _ => rfl) (fun _ => rfl) (by decide) Tryz.results134 upF ?_)
  intro l r h
  unfold upF at h
  split at h
  · rename_i n a
    split at h
    · rename_i hab
      obtain ⟨hn, ha⟩ := hab
      have hn' := hn
      have ha' := ha
      unfold U64 at hn ha
      injection h with h
      subst h
      refine ⟨by simp [Tryz.ntmps134], fun X nx R hR => ?_⟩
      (((try simp only [cl_seq, cl_skip]); with_reducible refine cl_reg fun K hK => ?_; (simp (maxSteps := 1000000) only [go_sem, keep134]); (repeat refine ck ?_); (first | ((try simp (disch := omega) only [wrap64, wrapi64]); refine hK _ ?_; clear hK K) | skip)))
      (((try simp only [cl_seq, cl_skip]); with_reducible refine cl_reg fun K hK => ?_; (simp (maxSteps := 1000000) only [go_sem, keep134, powF_eq ha']); (repeat refine ck ?_); (first | ((try simp (disch := omega) only [wrap64, wrapi64]); refine hK _ ?_; clear hK K) | skip)))
      (((try simp only [cl_seq, cl_skip]); refine cl_cond rfl (fun hc => ?_) (fun hc => ?_)))
      · simp only [Bool.not_eq_true'] at hc
        (((try simp only [cl_seq, cl_skip]); with_reducible refine cl_reg fun K hK => ?_; (simp (maxSteps := 1000000) only [go_sem, keep134]); (repeat refine ck ?_); (first | ((try simp (disch := omega) only [wrap64, wrapi64]); refine hK _ ?_; clear hK K) | skip)))
        (((try simp only [cl_seq, cl_skip]); (try simp only [cl_ret]); refine hR _ _ (.inr rfl) ?_; (simp (maxSteps := 1000000) only [go_sem])))
        simp [upV, optV, hc]
      · simp only [Bool.not_eq_false'] at hc
        have hp := pow2_pos ha.1 hc
        have hm0 := Int.emod_nonneg n (show a ≠ 0 by omega)
        have hm1 := Int.emod_lt_of_pos n hp
        have hm2 : n % a ≤ n := by
          have h1 := Int.mul_ediv_add_emod n a
          have h2 := Int.mul_nonneg (Int.le_of_lt hp) (Int.ediv_nonneg hn.1 (Int.le_of_lt hp))
          omega
        (((try simp only [cl_seq, cl_skip]); with_reducible refine cl_reg fun K hK => ?_; (simp (maxSteps := 1000000) only [go_sem, keep134, show ¬ a = 0 by omega, Int.tmod_eq_emod_of_nonneg hn.1]); (repeat refine ck ?_); (first | ((try simp (disch := omega) only [wrap64, wrapi64]); refine hK _ ?_; clear hK K) | skip)))
        (((try simp only [cl_seq, cl_skip]); refine cl_cond rfl (fun hd => ?_) (fun hd => ?_)))
        · simp only [beq_iff_eq] at hd
          (((try simp only [cl_seq, cl_skip]); with_reducible refine cl_reg fun K hK => ?_; (simp (maxSteps := 1000000) only [go_sem, keep134]); (repeat refine ck ?_); (first | ((try simp (disch := omega) only [wrap64, wrapi64]); refine hK _ ?_; clear hK K) | skip)))
          (((try simp only [cl_seq, cl_skip]); (try simp only [cl_ret]); refine hR _ _ (.inr rfl) ?_; (simp (maxSteps := 1000000) only [go_sem])))
          simp [upV, optV, hc, hd]
        · simp only [beq_eq_false_iff_ne, ne_eq] at hd
          (((try simp only [cl_seq, cl_skip]); with_reducible refine cl_reg fun K hK => ?_; (simp (maxSteps := 1000000) only [go_sem, keep134, show ¬ a = 0 by omega, Int.tmod_eq_emod_of_nonneg hn.1, wrap64 (n := n - n % a) (by omega) (by omega), addF_eq (a := n - n % a) (b := a) ⟨by omega, by omega⟩ ha', optV]); (repeat refine ck ?_); (first | ((try simp (disch := omega) only [wrap64, wrapi64]); refine hK _ ?_; clear hK K) | skip)))
          (((try simp only [cl_seq, cl_skip]); (try simp only [cl_ret]); refine hR _ _ (.inr rfl) ?_; (simp (maxSteps := 1000000) only [go_sem])))
          simp [upV, optV, hc, hd]
    · cases h
  · cases h
def needV (n : Int) : Option Int := (addV (if n < 8 then 8 else n) 40).bind fun s => upV s 16
def needF : List AD → Option RV
  | [.one (.int .u64 a)] => if U64 a then some (optV (needV a)) else none
  | _ => none
theorem needF_eq {a : Int} (ha : U64 a) : needF [.one (.int .u64 a)] = some (optV (needV a)) := by simp [needF, ha]
theorem need_ok : FnPure Tryz.prog 117 needF := by
  (refine fn_pure' (f := 117) mixed Tryz.func117 rfl (fun X => { nt := 18, tt := tt, fns := ofList ([(85, .pure addF), (134, .pure upF)]), keep := keep117, X := X }) (fun X => ok_of tt_ok (⟨add_ok, by kernel_rfl, up_ok, by kernel_rfl, trivial⟩) (noEqs _)) (fun _ => rfl) (fun _ => rfl) (by decide) Tryz.results117 needF ?_)
  intro l r h
  unfold needF at h
  split at h
  · rename_i n
    split at h
    · rename_i hn
      have hn' := hn
      unfold U64 at hn
      injection h with h
      subst h
      refine ⟨by simp [Tryz.ntmps117], fun X nx R hR => ?_⟩
      (((try simp only [cl_seq, cl_skip]); with_reducible refine cl_reg fun K hK => ?_; (simp (maxSteps := 1000000) only [go_sem, keep117]); (repeat refine ck ?_); (first | ((try simp (disch := omega) only [wrap64, wrapi64]); refine hK _ ?_; clear hK K) | skip)))
      have hm : U64 (if n < 8 then 8 else n) := by unfold U64; split <;> omega
      (((try simp only [cl_seq, cl_skip]); with_reducible refine cl_reg fun K hK => ?_; (simp (maxSteps := 1000000) only [go_sem, keep117, addF_eq (b := 40) hm (by decide), optV]); (repeat refine ck ?_); (first | ((try simp (disch := omega) only [wrap64, wrapi64]); refine hK _ ?_; clear hK K) | skip)))
      (((try simp only [cl_seq, cl_skip]); with_reducible refine cl_reg fun K hK => ?_; (simp (maxSteps := 1000000) only [go_sem, keep117]); (repeat refine ck ?_); (first | ((try simp (disch := omega) only [wrap64, wrapi64]); refine hK _ ?_; clear hK K) | skip)))
      (((try simp only [cl_seq, cl_skip]); refine cl_cond rfl (fun hc => ?_) (fun hc => ?_)))
      · simp only [Bool.not_eq_true', Option.isSome_eq_false_iff, Option.isNone_iff_eq_none] at hc
        (((try simp only [cl_seq, cl_skip]); with_reducible refine cl_reg fun K hK => ?_; (simp (maxSteps := 1000000) only [go_sem, keep117]); (repeat refine ck ?_); (first | ((try simp (disch := omega) only [wrap64, wrapi64]); refine hK _ ?_; clear hK K) | skip)))
        (((try simp only [cl_seq, cl_skip]); (try simp only [cl_ret]); refine hR _ _ (.inr rfl) ?_; (simp (maxSteps := 1000000) only [go_sem])))
        simp [needV, optV, hc]
      · simp only [Bool.not_eq_false', Option.isSome_iff_exists] at hc
        obtain ⟨s, hs⟩ := hc
        have hs' : U64 s := addV_u64 hm (by decide) hs
        (((try simp only [cl_seq, cl_skip]); with_reducible refine cl_reg fun K hK => ?_; (simp (maxSteps := 1000000) only [go_sem, keep117, hs, Option.getD_some, upF_eq (a := s) (b := 16) hs' (by decide), optV]); (repeat refine ck ?_); (first | ((try simp (disch := omega) only [wrap64, wrapi64]); refine hK _ ?_; clear hK K) | skip)))
        (((try simp only [cl_seq, cl_skip]); (try simp only [cl_ret]); refine hR _ _ (.inr rfl) ?_; (simp (maxSteps := 1000000) only [go_sem])))
        simp [needV, optV, hs]
    · cases h
  · cases h
def wordsV (n : Int) : Int := (n + 7) / 8
def wordsF : List AD → Option RV
  | [.one (.int .u64 a)] => if U64 a then some (.a (.one (.int .u64 (wordsV a)))) else none
  | _ => none
theorem wordsF_eq {a : Int} (ha : U64 a) : wordsF [.one (.int .u64 a)] = some (.a (.one (.int .u64 (wordsV a)))) := by simp [wordsF, ha]
theorem words_ok : FnPure Tryz.prog 82 wordsF := by
  (refine fn_pure' (f := 82) mixed Tryz.func82 rfl (fun X => { nt := 11, tt := tt, fns := ofList [], keep := keep82, X := X }) (fun X => ok_of tt_ok trivial (noEqs _)) (fun _ => rfl) (fun _ => rfl) (by decide) Tryz.results82 wordsF ?_)
  intro l r h
  unfold wordsF at h
  split at h
  · rename_i n
    split at h
    · rename_i hn
      unfold U64 at hn
      injection h with h
      subst h
      refine ⟨by simp [Tryz.ntmps82], fun X nx R hR => ?_⟩
      (((try simp only [cl_seq, cl_skip]); with_reducible refine cl_reg fun K hK => ?_; (simp (maxSteps := 1000000) only [go_sem, keep82]); (repeat refine ck ?_); (first | ((try simp (disch := omega) only [wrap64, wrapi64]); refine hK _ ?_; clear hK K) | skip)))
      (((try simp only [cl_seq, cl_skip]); with_reducible refine cl_reg fun K hK => ?_; (simp (maxSteps := 1000000) only [go_sem, keep82, Int.tmod_eq_emod_of_nonneg hn.1]); (repeat refine ck ?_); (first | ((try simp (disch := omega) only [wrap64, wrapi64]); refine hK _ ?_; clear hK K) | skip)))
      (((try simp only [cl_seq, cl_skip]); refine cl_cond rfl (fun hc => ?_) (fun hc => ?_)))
      · simp only [beq_iff_eq] at hc
        (((try simp only [cl_seq, cl_skip]); with_reducible refine cl_reg fun K hK => ?_; (simp (maxSteps := 1000000) only [go_sem, keep82, Int.tdiv_eq_ediv_of_nonneg hn.1, wrap64 (n := n / 8) (by omega) (by omega)]); (repeat refine ck ?_); (first | ((try simp (disch := omega) only [wrap64, wrapi64]); refine hK _ ?_; clear hK K) | skip)))
        (((try simp only [cl_seq, cl_skip]); (try simp only [cl_ret]); refine hR _ _ (.inr rfl) ?_; (simp (maxSteps := 1000000) only [go_sem])))
        simp [wordsV]; omega
      · simp only [beq_eq_false_iff_ne, ne_eq] at hc
        (((try simp only [cl_seq, cl_skip]); with_reducible refine cl_reg fun K hK => ?_; (simp (maxSteps := 1000000) only [go_sem, keep82, Int.tdiv_eq_ediv_of_nonneg hn.1, wrap64 (n := n / 8) (by omega) (by omega), wrap64 (n := n / 8 + 1) (by omega) (by omega)]); (repeat refine ck ?_); (first | ((try simp (disch := omega) only [wrap64, wrapi64]); refine hK _ ?_; clear hK K) | skip)))
        (((try simp only [cl_seq, cl_skip]); (try simp only [cl_ret]); refine hR _ _ (.inr rfl) ?_; (simp (maxSteps := 1000000) only [go_sem])))
        simp [wordsV]; omega
    · cases h
  · cases h
end Go.Proofs.YtapdaefpkddioaaGreat.Pe
namespace Go.Proofs.YtapdaefpkddioaaGreat.Pe
open Go
theorem rowsN_inj {l m : List Int} (h : rowsN l = rowsN m) : l = m := by
  unfold rowsN at h
  exact (List.map_inj_right (fun x y h => by simpa using h)).1 h
theorem rowsN_get (l : List Int) (i : Nat) : (rowsN l)[i]? = l[i]?.map fun n => [.int .u64 n] := by simp [rowsN]
theorem rowsN_app (l m : List Int) : rowsN l ++ rowsN m = rowsN (l ++ m) := by simp [rowsN]
theorem rowsN_one (x : Int) : [[D.int .u64 x]] = rowsN [x] := rfl
theorem rowsN_cons (x : Int) (l : List Int) : [D.int .u64 x] :: rowsN l = rowsN (x :: l) := rfl
theorem take_one {α : Type} (l : List α) (i : Nat) (h : i < l.length) : l.take (i + 1) = l.take i ++ [l[i]] := by
  rw [List.take_add_one, List.getElem?_eq_getElem h]; rfl
theorem filter_take {α : Type} (l : List α) (i : Nat) (h : i < l.length) (p : α → Bool) : (l.take (i + 1)).filter p = (l.take i).filter p ++ [l[i]].filter p := by
  rw [take_one l i h, List.filter_append]
def Sm {α : Type} (l : List α) : Prop := l.length ≤ 100000
def encNN (x : List Int × Int) : List AD := [.one (.sl (rowsN x.1)), .one (.int .u64 x.2)]
theorem encNN_inj (x y : List Int × Int) (h : encNN x = encNN y) : x = y := by
  obtain ⟨a, b⟩ := x; obtain ⟨c, d⟩ := y
  simp only [encNN, List.cons.injEq, AD.one.injEq, D.sl.injEq, D.int.injEq, true_and, and_true] at h
  rw [rowsN_inj h.1, h.2]
noncomputable def firstF : List AD → Option RV := byEnc encNN (fun x => Sm x.1) fun x => .a (.one (.sl (rowsN (x.2 :: x.1))))
theorem firstF_eq {l : List Int} {x : Int} (h : Sm l) : firstF [.one (.sl (rowsN l)), .one (.int .u64 x)] = some (.a (.one (.sl (rowsN (x :: l))))) := byEnc_eq (x := (l, x)) encNN_inj h
theorem first_ok : FnPure Tryz.prog 116 firstF := by
  (refine fn_pure' (f := 116) mixed Tryz.func116 rfl (fun X => { nt := 11, tt := tt, fns := ofList [], keep := keep116, X := X }) (fun X => ok_of tt_ok trivial (noEqs _)) (fun _ => rfl) (fun _ => rfl) (by decide) Tryz.results116 firstF ?_)
  intro l r h
  obtain ⟨⟨l, x⟩, rfl, hl, rfl⟩ := byEnc_some h
  simp only [Sm] at hl
  refine ⟨by simp [encNN, Tryz.ntmps116], fun X nx R hR => ?_⟩
  simp only [encNN]
  (((try simp only [cl_seq, cl_skip]); with_reducible refine cl_reg fun K hK => ?_; (simp (maxSteps := 1000000) only [go_sem, tt, keep116]); (repeat refine ck ?_); (first | ((try simp (disch := omega) only [wrap64, wrapi64]); refine hK _ ?_; clear hK K) | skip)))
  (((try simp only [cl_seq, cl_skip]); with_reducible refine cl_reg fun K hK => ?_; (simp (maxSteps := 1000000) only [go_sem, tt, keep116, rowsN_all, rowsN_len]); (repeat refine ck ?_); (first | ((try simp (disch := omega) only [wrap64, wrapi64]); refine hK _ ?_; clear hK K) | skip)))
  (((try simp only [cl_seq, cl_skip]); with_reducible refine cl_reg fun K hK => ?_; (simp (maxSteps := 1000000) only [go_sem, tt, keep116]); (repeat refine ck ?_); (first | ((try simp (disch := omega) only [wrap64, wrapi64]); refine hK _ ?_; clear hK K) | skip)))
  (((try simp only [cl_seq, cl_skip]); (try simp only [cl_ret]); refine hR _ _ (.inr rfl) ?_; (simp (maxSteps := 1000000) only [go_sem])))
  rfl
noncomputable def withoutF : List AD → Option RV := byEnc encNN (fun x => Sm x.1) fun x => .a (.one (.sl (rowsN (x.1.filter (· ≠ x.2)))))
theorem withoutF_eq {l : List Int} {x : Int} (h : Sm l) : withoutF [.one (.sl (rowsN l)), .one (.int .u64 x)] = some (.a (.one (.sl (rowsN (l.filter (· ≠ x)))))) := byEnc_eq (x := (l, x)) encNN_inj h
theorem without_ok : FnPure Tryz.prog 103 withoutF := by
  (refine fn_pure' (f := 103) mixed Tryz.func103 rfl (fun X => { nt := 27, tt := tt, fns := ofList [], keep := keep103, X := X }) (fun X => ok_of tt_ok trivial (noEqs _)) (fun _ => rfl) (fun _ => rfl) (by decide) Tryz.results103 withoutF ?_)
  intro l r h
  obtain ⟨⟨l, x⟩, rfl, hl, rfl⟩ := byEnc_some h
  simp only [Sm] at hl
  refine ⟨by simp [encNN, Tryz.ntmps103], fun X nx R hR => ?_⟩
  simp only [encNN]
  (((try simp only [cl_seq, cl_skip]); with_reducible refine cl_reg fun K hK => ?_; (simp (maxSteps := 1000000) only [go_sem, tt, keep103]); (repeat refine ck ?_); (first | ((try simp (disch := omega) only [wrap64, wrapi64]); refine hK _ ?_; clear hK K) | skip)))
  (((try simp only [cl_seq, cl_skip]); with_reducible refine cl_reg fun K hK => ?_; (simp (maxSteps := 1000000) only [go_sem, tt, keep103]); (repeat refine ck ?_); (first | ((try simp (disch := omega) only [wrap64, wrapi64]); refine hK _ ?_; clear hK K) | skip)))
  (((try simp only [cl_seq, cl_skip]); with_reducible refine cl_reg fun K hK => ?_; (simp (maxSteps := 1000000) only [go_sem, tt, keep103]); (repeat refine ck ?_); (first | ((try simp (disch := omega) only [wrap64, wrapi64]); refine hK _ ?_; clear hK K) | skip)))
  refine cl_block fun K1 hK1 R1 hR1 X1 hX1 => ?_
  refine cl_loop (fun E n => ∃ i : Nat, i ≤ l.length ∧ n = l.length - i ∧ E = mk [(1000000, .heap (fun _ => none) nx), (6, .v (.one (.int .i64 i))), (0, .v (.one (.sl (rowsN l)))), (1, .v (.one (.int .u64 x))), (5, .own 0 26 1 (rowsN ((l.take i).filter (· ≠ x))))]) l.length ⟨0, by omega, by omega, rfl⟩ ?_
  rintro E n ⟨i, hi, rfl, rfl⟩ J hJ R2 hR2 X2 hX2
  have hfl : ((l.take i).filter (· ≠ x)).length ≤ 100000 := Nat.le_trans (List.length_filter_le _ _) (by simp; omega)
  (((try simp only [cl_seq, cl_skip]); with_reducible refine cl_reg fun K hK => ?_; (simp (maxSteps := 1000000) only [go_sem, tt, keep103, rowsN_len]); (repeat refine ck ?_); (first | ((try simp (disch := omega) only [wrap64, wrapi64]); refine hK _ ?_; clear hK K) | skip)))
  (((try simp only [cl_seq, cl_skip]); refine cl_cond rfl (fun hc => ?_) (fun hc => ?_)))
  · simp only [decide_eq_true_eq, Int.ofNat_lt] at hc
    have hget : l[i]? = some l[i] := List.getElem?_eq_getElem hc
    (((try simp only [cl_seq, cl_skip]); refine cl_block fun K hK3 R hR3 X hX3 => ?_))
    (((try simp only [cl_seq, cl_skip]); with_reducible refine cl_reg fun K hK => ?_; (simp (maxSteps := 1000000) only [go_sem, tt, keep103, rowsN_len, rowsN_get, hget, Option.map_some]); (repeat refine ck ?_); (first | ((try simp (disch := omega) only [wrap64, wrapi64]); refine hK _ ?_; clear hK K) | skip)))
    (((try simp only [cl_seq, cl_skip]); refine cl_cond rfl (fun hd => ?_) (fun hd => ?_)))
    · simp only [bne_iff_ne, ne_eq] at hd
      (((try simp only [cl_seq, cl_skip]); with_reducible refine cl_reg fun K hK => ?_; (simp (maxSteps := 1000000) only [go_sem, tt, keep103, rowsN_len, rowsN_get, hget, Option.map_some]); (repeat refine ck ?_); (first | ((try simp (disch := omega) only [wrap64, wrapi64]); refine hK _ ?_; clear hK K) | skip)))
      ((try simp only [cl_seq, cl_skip, cl_exit, cl_nil]))
      refine hK3 _ ?_
      (((try simp only [cl_seq, cl_skip]); with_reducible refine cl_reg fun K hK => ?_; (simp (maxSteps := 1000000) only [go_sem, tt, keep103, wrapi64 (n := (i : Int) + 1) (by omega) (by omega)]); (repeat refine ck ?_); (first | ((try simp (disch := omega) only [wrap64, wrapi64]); refine hK _ ?_; clear hK K) | skip)))
      ((try simp only [cl_seq, cl_skip, cl_exit, cl_nil]))
      refine hJ _ (l.length - (i + 1)) (by omega) ⟨i + 1, by omega, rfl, ?_⟩
      rw [filter_take l i hc, List.filter_cons_of_pos (by simp [hd]), ← rowsN_app]
      simp [rowsN]
    · simp only [bne_eq_false_iff_eq] at hd
      ((try simp only [cl_seq, cl_skip, cl_exit, cl_nil]))
      refine hK3 _ ?_
      (((try simp only [cl_seq, cl_skip]); with_reducible refine cl_reg fun K hK => ?_; (simp (maxSteps := 1000000) only [go_sem, tt, keep103, wrapi64 (n := (i : Int) + 1) (by omega) (by omega)]); (repeat refine ck ?_); (first | ((try simp (disch := omega) only [wrap64, wrapi64]); refine hK _ ?_; clear hK K) | skip)))
      ((try simp only [cl_seq, cl_skip, cl_exit, cl_nil]))
      refine hJ _ (l.length - (i + 1)) (by omega) ⟨i + 1, by omega, rfl, ?_⟩
      rw [filter_take l i hc, List.filter_cons_of_neg (by simp [hd])]
      simp
  · simp only [decide_eq_false_iff_not, Int.ofNat_lt] at hc
    have hil : i = l.length := by omega
    subst hil
    simp only [cl_exit]
    refine hX2 0 _ (hK1 _ ?_)
    (((try simp only [cl_seq, cl_skip]); with_reducible refine cl_reg fun K hK => ?_; (simp (maxSteps := 1000000) only [go_sem, tt, keep103]); (repeat refine ck ?_); (first | ((try simp (disch := omega) only [wrap64, wrapi64]); refine hK _ ?_; clear hK K) | skip)))
    (((try simp only [cl_seq, cl_skip]); (try simp only [cl_ret]); refine hR _ _ (.inr rfl) ?_; (simp (maxSteps := 1000000) only [go_sem])))
    simp
theorem without14_ok : FnPure Tryz.prog 119 withoutF := by
  (refine fn_pure' (f := 119) mixed Tryz.func119 rfl (fun X => { nt := 27, tt := tt, fns := ofList [], keep := keep119, X := X }) (fun X => ok_of tt_ok trivial (noEqs _)) (fun _ => rfl) (fun _ => rfl) (by decide) Tryz.results119 withoutF ?_)
  intro l r h
  obtain ⟨⟨l, x⟩, rfl, hl, rfl⟩ := byEnc_some h
  simp only [Sm] at hl
  refine ⟨by simp [encNN, Tryz.ntmps119], fun X nx R hR => ?_⟩
  simp only [encNN]
  (((try simp only [cl_seq, cl_skip]); with_reducible refine cl_reg fun K hK => ?_; (simp (maxSteps := 1000000) only [go_sem, tt, keep119]); (repeat refine ck ?_); (first | ((try simp (disch := omega) only [wrap64, wrapi64]); refine hK _ ?_; clear hK K) | skip)))
  (((try simp only [cl_seq, cl_skip]); with_reducible refine cl_reg fun K hK => ?_; (simp (maxSteps := 1000000) only [go_sem, tt, keep119]); (repeat refine ck ?_); (first | ((try simp (disch := omega) only [wrap64, wrapi64]); refine hK _ ?_; clear hK K) | skip)))
  (((try simp only [cl_seq, cl_skip]); with_reducible refine cl_reg fun K hK => ?_; (simp (maxSteps := 1000000) only [go_sem, tt, keep119]); (repeat refine ck ?_); (first | ((try simp (disch := omega) only [wrap64, wrapi64]); refine hK _ ?_; clear hK K) | skip)))
  refine cl_block fun K1 hK1 R1 hR1 X1 hX1 => ?_
  refine cl_loop (fun E n => ∃ i : Nat, i ≤ l.length ∧ n = l.length - i ∧ E = mk [(1000000, .heap (fun _ => none) nx), (6, .v (.one (.int .i64 i))), (0, .v (.one (.sl (rowsN l)))), (1, .v (.one (.int .u64 x))), (5, .own 0 26 1 (rowsN ((l.take i).filter (· ≠ x))))]) l.length ⟨0, by omega, by omega, rfl⟩ ?_
  rintro E n ⟨i, hi, rfl, rfl⟩ J hJ R2 hR2 X2 hX2
  have hfl : ((l.take i).filter (· ≠ x)).length ≤ 100000 := Nat.le_trans (List.length_filter_le _ _) (by simp; omega)
  (((try simp only [cl_seq, cl_skip]); with_reducible refine cl_reg fun K hK => ?_; (simp (maxSteps := 1000000) only [go_sem, tt, keep119, rowsN_len]); (repeat refine ck ?_); (first | ((try simp (disch := omega) only [wrap64, wrapi64]); refine hK _ ?_; clear hK K) | skip)))
  (((try simp only [cl_seq, cl_skip]); refine cl_cond rfl (fun hc => ?_) (fun hc => ?_)))
  · simp only [decide_eq_true_eq, Int.ofNat_lt] at hc
    have hget : l[i]? = some l[i] := List.getElem?_eq_getElem hc
    (((try simp only [cl_seq, cl_skip]); refine cl_block fun K hK3 R hR3 X hX3 => ?_))
    (((try simp only [cl_seq, cl_skip]); with_reducible refine cl_reg fun K hK => ?_; (simp (maxSteps := 1000000) only [go_sem, tt, keep119, rowsN_len, rowsN_get, hget, Option.map_some]); (repeat refine ck ?_); (first | ((try simp (disch := omega) only [wrap64, wrapi64]); refine hK _ ?_; clear hK K) | skip)))
    (((try simp only [cl_seq, cl_skip]); refine cl_cond rfl (fun hd => ?_) (fun hd => ?_)))
    · simp only [bne_iff_ne, ne_eq] at hd
      (((try simp only [cl_seq, cl_skip]); with_reducible refine cl_reg fun K hK => ?_; (simp (maxSteps := 1000000) only [go_sem, tt, keep119, rowsN_len, rowsN_get, hget, Option.map_some]); (repeat refine ck ?_); (first | ((try simp (disch := omega) only [wrap64, wrapi64]); refine hK _ ?_; clear hK K) | skip)))
      ((try simp only [cl_seq, cl_skip, cl_exit, cl_nil]))
      refine hK3 _ ?_
      (((try simp only [cl_seq, cl_skip]); with_reducible refine cl_reg fun K hK => ?_; (simp (maxSteps := 1000000) only [go_sem, tt, keep119, wrapi64 (n := (i : Int) + 1) (by omega) (by omega)]); (repeat refine ck ?_); (first | ((try simp (disch := omega) only [wrap64, wrapi64]); refine hK _ ?_; clear hK K) | skip)))
      ((try simp only [cl_seq, cl_skip, cl_exit, cl_nil]))
      refine hJ _ (l.length - (i + 1)) (by omega) ⟨i + 1, by omega, rfl, ?_⟩
      rw [filter_take l i hc, List.filter_cons_of_pos (by simp [hd]), ← rowsN_app]
      simp [rowsN]
    · simp only [bne_eq_false_iff_eq] at hd
      ((try simp only [cl_seq, cl_skip, cl_exit, cl_nil]))
      refine hK3 _ ?_
      (((try simp only [cl_seq, cl_skip]); with_reducible refine cl_reg fun K hK => ?_; (simp (maxSteps := 1000000) only [go_sem, tt, keep119, wrapi64 (n := (i : Int) + 1) (by omega) (by omega)]); (repeat refine ck ?_); (first | ((try simp (disch := omega) only [wrap64, wrapi64]); refine hK _ ?_; clear hK K) | skip)))
      ((try simp only [cl_seq, cl_skip, cl_exit, cl_nil]))
      refine hJ _ (l.length - (i + 1)) (by omega) ⟨i + 1, by omega, rfl, ?_⟩
      rw [filter_take l i hc, List.filter_cons_of_neg (by simp [hd])]
      simp
  · simp only [decide_eq_false_iff_not, Int.ofNat_lt] at hc
    have hil : i = l.length := by omega
    subst hil
    simp only [cl_exit]
    refine hX2 0 _ (hK1 _ ?_)
    (((try simp only [cl_seq, cl_skip]); with_reducible refine cl_reg fun K hK => ?_; (simp (maxSteps := 1000000) only [go_sem, tt, keep119]); (repeat refine ck ?_); (first | ((try simp (disch := omega) only [wrap64, wrapi64]); refine hK _ ?_; clear hK K) | skip)))
    (((try simp only [cl_seq, cl_skip]); (try simp only [cl_ret]); refine hR _ _ (.inr rfl) ?_; (simp (maxSteps := 1000000) only [go_sem])))
    simp
end Go.Proofs.YtapdaefpkddioaaGreat.Pe
