/- A part of the proof of PmD. -/
import Derived.Test.YtapdaefpkddioaaGreatCb17
import Derived.Test.YtapdaefpkddioaaGreatCb18
set_option linter.unusedSimpArgs false
set_option linter.unusedVariables false
set_option linter.unusedSectionVars false
namespace Go.Proofs.YtapdaefpkddioaaGreat.Pe
open Go
set_option maxHeartbeats 2000000
attribute [local irreducible] cl bits
def upM (n a : Int) : Option Int :=
  if onesV a = 1 then
    if bits .and .u64 n (IntKind.u64.wrap (a - 1)) = 0 then some n else addV (bits .andNot .u64 n (IntKind.u64.wrap (a - 1))) a
  else none
def upMF : List AD → Option RV
  | [.one (.int .u64 n), .one (.int .u64 a)] => if U64 n ∧ U64 a then some (optV (upM n a)) else none
  | _ => none
theorem upMF_eq {a b : Int} (ha : U64 a) (hb : U64 b) : upMF [.one (.int .u64 a), .one (.int .u64 b)] = some (optV (upM a b)) := by simp [upMF, ha, hb]
noncomputable def addO : List AD → Option RV := Classical.choose (⟨addF, rfl⟩ : ∃ F, F = addF)
theorem addO_eq : addO = addF := Classical.choose_spec (⟨addF, rfl⟩ : ∃ F, F = addF)
theorem addO_ok : FnPure Tryz.prog 71 addO := by rw [addO_eq]; exact wadd_ok
theorem wup_ok : FnPure Tryz.prog 90 upMF := by
  (refine fn_pure' (f := 90) mixed Tryz.func90 rfl (fun X => { nt := 23, tt := tt, fns := ofList ([(120, .pure onesF), (71, .pure addO)]), keep := keep90, X := X }) (fun X => ok_of tt_ok (⟨ones_ok, by kernel_rfl, addO_ok, by kernel_rfl, trivial⟩) (noEqs _)) (fun _ => rfl) (fun _ => rfl) (by decide) Tryz.results90 upMF ?_)
  intro l r h
  unfold upMF at h
  split at h
  · rename_i n a
    split at h
    · rename_i hab
      obtain ⟨hn, ha⟩ := hab
      injection h with h
      have he := onesF_eq ha
      have had := addF_eq (a := bits .andNot .u64 n (IntKind.u64.wrap (a - 1))) (b := a) ⟨bits_lo_u64 _ _ _, by have := bits_hi_u64 .andNot n (IntKind.u64.wrap (a - 1)); omega⟩ ha
      refine ⟨by simp [Tryz.ntmps90], fun X nx R hR => ?_⟩
      unfold upM at h
      obtain ⟨x, hx⟩ : ∃ x, bits .and .u64 n (IntKind.u64.wrap (a - 1)) = x := ⟨_, rfl⟩
      obtain ⟨y, hy⟩ : ∃ y, bits .andNot .u64 n (IntKind.u64.wrap (a - 1)) = y := ⟨_, rfl⟩
      rw [hx, hy] at h
      rw [hy, ← addO_eq] at had
      (repeat ((try simp only [cl_seq, cl_skip]); with_reducible refine cg fun K hK => ?_; (simp (maxSteps := 1000000) only [go_sem, he]); (repeat refine ck ?_); (try simp (disch := omega) only [wrap64, wrapi64]); refine hK _ ?_; clear hK K))
      (((try simp only [cl_seq, cl_skip]); refine cl_cond rfl (fun hc => ?_) (fun hc => ?_)))
      · simp only [bne_iff_ne, ne_eq] at hc
        rw [if_neg hc] at h
        (repeat ((try simp only [cl_seq, cl_skip]); with_reducible refine cg fun K hK => ?_; (simp (maxSteps := 1000000) only [go_sem]); (repeat refine ck ?_); (try simp (disch := omega) only [wrap64, wrapi64]); refine hK _ ?_; clear hK K))
        (((try simp only [cl_seq, cl_skip]); (try simp only [cl_ret]); refine hR _ _ (.inr rfl) ?_; (simp (maxSteps := 1000000) only [go_sem])))
        rw [← h]; rfl
      · simp only [bne_eq_false_iff_eq] at hc
        rw [if_pos hc] at h
        by_cases hd : x = 0
        · rw [if_pos hd] at h
          have hb : (x == 0) = true := by simp [hd]
          (repeat ((try simp only [cl_seq, cl_skip]); with_reducible refine cg fun K hK => ?_; (simp (maxSteps := 1000000) only [go_sem, hx, hb]); (repeat refine ck ?_); (try simp (disch := omega) only [wrap64, wrapi64]); refine hK _ ?_; clear hK K))
          (((try simp only [cl_seq, cl_skip]); refine cl_cond (b := true) rfl (fun _ => ?_) (fun h => nomatch h)))
          (repeat ((try simp only [cl_seq, cl_skip]); with_reducible refine cg fun K hK => ?_; (simp (maxSteps := 1000000) only [go_sem]); (repeat refine ck ?_); (try simp (disch := omega) only [wrap64, wrapi64]); refine hK _ ?_; clear hK K))
          (((try simp only [cl_seq, cl_skip]); (try simp only [cl_ret]); refine hR _ _ (.inr rfl) ?_; (simp (maxSteps := 1000000) only [go_sem])))
          rw [← h]; rfl
        · rw [if_neg hd] at h
          have hb : (x == 0) = false := by simp [hd]
          (repeat ((try simp only [cl_seq, cl_skip]); with_reducible refine cg fun K hK => ?_; (simp (maxSteps := 1000000) only [go_sem, hx, hb]); (repeat refine ck ?_); (try simp (disch := omega) only [wrap64, wrapi64]); refine hK _ ?_; clear hK K))
          (((try simp only [cl_seq, cl_skip]); refine cl_cond (b := false) rfl (fun h => nomatch h) (fun _ => ?_)))
          (repeat ((try simp only [cl_seq, cl_skip]); with_reducible refine cg fun K hK => ?_; (simp (maxSteps := 1000000) only [go_sem, hy, had, optV]); (repeat refine ck ?_); (try simp (disch := omega) only [wrap64, wrapi64]); refine hK _ ?_; clear hK K))
          (((try simp only [cl_seq, cl_skip]); (try simp only [cl_ret]); refine hR _ _ (.inr rfl) ?_; (simp (maxSteps := 1000000) only [go_sem])))
          rw [← h]; rfl
    · cases h
  · cases h
theorem and_high' (N n k : Nat) (hk : k ≤ N) (hn : n < 2 ^ N) : n &&& (2 ^ N - 2 ^ k) = n - n % 2 ^ k := by
  have e1 : n - n % 2 ^ k = (n / 2 ^ k) * 2 ^ k := by have := Nat.div_add_mod' n (2 ^ k); omega
  have e2 : 2 ^ N - 2 ^ k = (2 ^ (N - k) - 1) * 2 ^ k := by rw [Nat.sub_mul, Nat.one_mul, ← Nat.pow_add, Nat.sub_add_cancel hk]
  rw [e1, e2, ← Nat.shiftLeft_eq, ← Nat.shiftLeft_eq, ← Nat.shiftRight_eq_div_pow]
  apply Nat.eq_of_testBit_eq
  intro i
  simp only [Nat.testBit_and, Nat.testBit_shiftLeft, Nat.testBit_shiftRight, Nat.testBit_two_pow_sub_one]
  by_cases hi : k ≤ i
  · rw [show k + (i - k) = i by omega]
    by_cases h64 : i < N
    · simp [hi, show i - k < N - k by omega]
    · have : n.testBit i = false := Nat.testBit_lt_two_pow (Nat.lt_of_lt_of_le hn (Nat.pow_le_pow_right (by omega) (by omega)))
      simp [this]
  · simp [hi]
theorem and_high (n k : Nat) (hk : k ≤ 64) (hn : n < 18446744073709551616) : n &&& (18446744073709551616 - 2 ^ k) = n - n % 2 ^ k := and_high' 64 n k hk hn
theorem pw_list : ∀ m : Fin 65, ∀ n : Fin 64, pw 14 (64 * m.val + n.val) = true → (List.range 13).any (fun k => 2 ^ k == 64 * m.val + n.val) = true := by decide +kernel
theorem pow2_log {a : Int} (h0 : 0 ≤ a) (h1 : a ≤ 4096) (hp : pow2 a = true) : ∃ k : Nat, k ≤ 12 ∧ a = ((2 ^ k : Nat) : Int) := by
  obtain ⟨n, rfl⟩ := Int.eq_ofNat_of_zero_le h0
  have e : pow2 (n : Int) = pow2N n := by simp [pow2]
  rw [e, pw_eq 13 n (by omega)] at hp
  have := pw_list ⟨n / 64, by omega⟩ ⟨n % 64, by omega⟩
  simp only at this
  rw [show 64 * (n / 64) + n % 64 = n by omega] at this
  have h := this hp
  rw [List.any_eq_true] at h
  obtain ⟨k, hk, hh⟩ := h
  rw [List.mem_range] at hk
  rw [beq_iff_eq] at hh
  exact ⟨k, by omega, by rw [hh]⟩
theorem upM_eq {n a : Int} (hn : U64 n) (h0 : 0 ≤ a) (h1 : a ≤ 4096) : upM n a = upV n a := by
  unfold upM upV
  have ho := ones_pow h0 h1
  by_cases hp : pow2 a = true
  · rw [if_pos (ho.2 hp), if_pos hp]
    obtain ⟨k, hk, rfl⟩ := pow2_log h0 h1 hp
    obtain ⟨m, rfl⟩ := Int.eq_ofNat_of_zero_le hn.1
    have hm : m < 18446744073709551616 := by have := hn.2; omega
    have hp1 : 1 ≤ 2 ^ k := Nat.one_le_two_pow
    have hp2 : (2 ^ k : Nat) ≤ 4096 := by omega
    have hw : IntKind.u64.wrap (((2 ^ k : Nat) : Int) - 1) = ((2 ^ k - 1 : Nat) : Int) := by
      rw [wrap64 (by omega) (by omega)]; omega
    have h3 : bits .and .u64 (m : Int) (((2 ^ k - 1 : Nat) : Int)) = ((m % 2 ^ k : Nat) : Int) := by
      rw [u64_and_nat m (2 ^ k - 1) hm (by omega), Nat.and_two_pow_sub_one_eq_mod]
    have h4 : bits .andNot .u64 (m : Int) (((2 ^ k - 1 : Nat) : Int)) = ((m - m % 2 ^ k : Nat) : Int) := by
      rw [u64_andNot_nat m (2 ^ k - 1) hm (by omega)]
      congr 1
      rw [← and_high m k (by omega) hm]
      congr 1
      omega
    rw [hw, h3, h4]
    have hle : m % 2 ^ k ≤ m := Nat.mod_le _ _
    by_cases hz : m % 2 ^ k = 0
    · rw [if_pos (by omega), if_pos (by rw [← Int.natCast_emod]; omega)]
    · rw [if_neg (by omega), if_neg (by rw [← Int.natCast_emod]; omega)]
      congr 1
      rw [← Int.natCast_emod]; omega
  · rw [if_neg (fun h => hp (ho.1 h)), if_neg hp]
theorem wneed_ok : FnPure Tryz.prog 64 needF := by
  (refine fn_pure' (f := 64) mixed Tryz.func64 rfl (fun X => { nt := 18, tt := tt, fns := ofList ([(71, .pure addF), (90, .pure upMF)]), keep := keep64, X := X }) (fun X => ok_of tt_ok (⟨wadd_ok, by kernel_rfl, wup_ok, by kernel_rfl, trivial⟩) (noEqs _)) (fun _ => rfl) (fun _ => rfl) (by decide) Tryz.results64 needF ?_)
  intro l r h
  unfold needF at h
  split at h
  · rename_i n
    split at h
    · rename_i hn
      injection h with h
      have hm : U64 (if n < 8 then 8 else n) := by unfold U64 at *; split <;> omega
      have ha := addF_eq (b := 40) hm (by decide)
      unfold needV at h
      have hau := fun s (hs : addV (if n < 8 then 8 else n) 40 = some s) => addV_u64 hm (by decide) hs
      refine ⟨by simp [Tryz.ntmps64], fun X nx R hR => ?_⟩
      have hmx : (if (8 : Int) > n then (8 : Int) else n) = if n < 8 then 8 else n := rfl
      (repeat ((try simp only [cl_seq, cl_skip]); with_reducible refine cg fun K hK => ?_; (simp (maxSteps := 1000000) only [go_sem, hmx, ha, optV]); (repeat refine ck ?_); (try simp (disch := omega) only [wrap64, wrapi64]); refine hK _ ?_; clear hK K))
      cases hs : addV (if n < 8 then 8 else n) 40 with
      | none =>
        rw [hs] at h
        (repeat ((try simp only [cl_seq, cl_skip]); with_reducible refine cg fun K hK => ?_; (simp (maxSteps := 1000000) only [go_sem, hmx, ha, optV, hs, Option.isSome_none, Bool.not_false]); (repeat refine ck ?_); (try simp (disch := omega) only [wrap64, wrapi64]); refine hK _ ?_; clear hK K))
        (((try simp only [cl_seq, cl_skip]); refine cl_cond (b := true) rfl (fun _ => ?_) (fun h => nomatch h)))
        (repeat ((try simp only [cl_seq, cl_skip]); with_reducible refine cg fun K hK => ?_; (simp (maxSteps := 1000000) only [go_sem]); (repeat refine ck ?_); (try simp (disch := omega) only [wrap64, wrapi64]); refine hK _ ?_; clear hK K))
        (((try simp only [cl_seq, cl_skip]); (try simp only [cl_ret]); refine hR _ _ (.inr rfl) ?_; (simp (maxSteps := 1000000) only [go_sem])))
        rw [← h]; rfl
      | some s =>
        rw [hs] at h
        have us := hau s hs
        have hu := upMF_eq (b := 16) us (by decide)
        rw [upM_eq us (by decide) (by decide)] at hu
        (repeat ((try simp only [cl_seq, cl_skip]); with_reducible refine cg fun K hK => ?_; (simp (maxSteps := 1000000) only [go_sem, hmx, ha, optV, hs, Option.isSome_some, Bool.not_true]); (repeat refine ck ?_); (try simp (disch := omega) only [wrap64, wrapi64]); refine hK _ ?_; clear hK K))
        (((try simp only [cl_seq, cl_skip]); refine cl_cond (b := false) rfl (fun h => nomatch h) (fun _ => ?_)))
        (repeat ((try simp only [cl_seq, cl_skip]); with_reducible refine cg fun K hK => ?_; (simp (maxSteps := 1000000) only [go_sem, hu, optV]); (repeat refine ck ?_); (try simp (disch := omega) only [wrap64, wrapi64]); refine hK _ ?_; clear hK K))
        (((try simp only [cl_seq, cl_skip]); (try simp only [cl_ret]); refine hR _ _ (.inr rfl) ?_; (simp (maxSteps := 1000000) only [go_sem])))
        rw [← h]; rfl
    · cases h
  · cases h
def padMF : List AD → Option RV
  | [.one (.int .u64 off), .one (.int .u64 a)] => if 0 ≤ off ∧ off ≤ 1099511627776 ∧ alignV a = true then some (.a (.one (.int .u64 (padV off a)))) else none
  | _ => none
theorem padMF_eq {off a : Int} (h0 : 0 ≤ off) (h1 : off ≤ 1099511627776) (ha : alignV a = true) : padMF [.one (.int .u64 off), .one (.int .u64 a)] = some (.a (.one (.int .u64 (padV off a)))) := by simp [padMF, h0, h1, ha]
theorem wpad_ok : FnPure Tryz.prog 91 padMF := by
  (refine fn_pure' (f := 91) mixed Tryz.func91 rfl (fun X => { nt := 24, tt := tt, fns := ofList ([(90, .pure upMF)]), keep := keep91, X := X }) (fun X => ok_of tt_ok (⟨wup_ok, by kernel_rfl, trivial⟩) (noEqs _)) (fun _ => rfl) (fun _ => rfl) (by decide) Tryz.results91 padMF ?_)
  intro l r h
  unfold padMF at h
  split at h
  · rename_i off a
    split at h
    · rename_i hh
      obtain ⟨o0, o1, ha⟩ := hh
      injection h with h
      have ha' := ha
      simp only [alignV, Bool.and_eq_true, decide_eq_true_eq] at ha'
      obtain ⟨⟨hp, a16⟩, a1⟩ := ha'
      have hu := upMF_eq (a := off + 32 + 48) (b := a) ⟨by omega, by omega⟩ ⟨by omega, by omega⟩
      rw [upM_eq ⟨by omega, by omega⟩ (by omega) a1] at hu
      unfold padV at h
      refine ⟨by simp [Tryz.ntmps91], fun X nx R hR => ?_⟩
      have tm : (off + 32).tmod a = (off + 32) % a := Int.tmod_eq_emod_of_nonneg (by omega)
      (repeat ((try simp only [cl_seq, cl_skip]); with_reducible refine cg fun K hK => ?_; (simp (maxSteps := 1000000) only [go_sem, wrap64 (n := off + 32) (by omega) (by omega), show ¬ a = 0 by omega, tm]); (repeat refine ck ?_); (try simp (disch := omega) only [wrap64, wrapi64]); refine hK _ ?_; clear hK K))
      (((try simp only [cl_seq, cl_skip]); refine cl_cond rfl (fun hc => ?_) (fun hc => ?_)))
      · simp only [beq_iff_eq] at hc
        rw [if_pos hc] at h
        (repeat ((try simp only [cl_seq, cl_skip]); with_reducible refine cg fun K hK => ?_; (simp (maxSteps := 1000000) only [go_sem]); (repeat refine ck ?_); (try simp (disch := omega) only [wrap64, wrapi64]); refine hK _ ?_; clear hK K))
        (((try simp only [cl_seq, cl_skip]); (try simp only [cl_ret]); refine hR _ _ (.inr rfl) ?_; (simp (maxSteps := 1000000) only [go_sem])))
        rw [← h]
      · simp only [beq_eq_false_iff_ne, ne_eq] at hc
        rw [if_neg hc] at h
        have hup : upV (off + 32 + 48) a = some ((off + 79 + a) / a * a) := by
          unfold upV
          rw [if_pos hp]
          have g1 := Int.mul_ediv_add_emod (off + 32 + 48) a
          have g2 := Int.emod_nonneg (off + 32 + 48) (show a ≠ 0 by omega)
          have g3 := Int.emod_lt_of_pos (off + 32 + 48) (show 0 < a by omega)
          have g4 : a * ((off + 32 + 48) / a) = (off + 32 + 48) / a * a := Int.mul_comm _ _
          by_cases hz : (off + 32 + 48) % a = 0
          · rw [if_pos hz]
            have : (off + 79 + a) / a = (off + 32 + 48) / a := by
              rw [show off + 79 + a = (a - 1) + a * ((off + 32 + 48) / a) by omega, Int.add_mul_ediv_left _ _ (show a ≠ 0 by omega), Int.ediv_eq_zero_of_lt (by omega) (by omega)]; omega
            rw [this]; congr 1; omega
          · rw [if_neg hz]
            have : (off + 79 + a) / a = (off + 32 + 48) / a + 1 := by
              rw [show off + 79 + a = ((off + 32 + 48) % a - 1) + a * ((off + 32 + 48) / a + 1) by rw [Int.mul_add]; omega, Int.add_mul_ediv_left _ _ (show a ≠ 0 by omega), Int.ediv_eq_zero_of_lt (by omega) (by omega)]; omega
            rw [this, Int.add_mul]
            unfold addV
            rw [if_pos (by omega)]
            congr 1; omega
        have hge : off + 32 ≤ (off + 79 + a) / a * a ∧ (off + 79 + a) / a * a ≤ off + 79 + a := by
          have g1 := Int.mul_ediv_add_emod (off + 79 + a) a
          have g2 := Int.emod_nonneg (off + 79 + a) (show a ≠ 0 by omega)
          have g3 := Int.emod_lt_of_pos (off + 79 + a) (show 0 < a by omega)
          have g4 : a * ((off + 79 + a) / a) = (off + 79 + a) / a * a := Int.mul_comm _ _
          omega
        rw [hup] at hu
        generalize (off + 79 + a) / a * a = q at *
        (repeat ((try simp only [cl_seq, cl_skip]); with_reducible refine cg fun K hK => ?_; (simp (maxSteps := 1000000) only [go_sem, wrap64 (n := off + 32 + 48) (by omega) (by omega), hu, optV]); (repeat refine ck ?_); (try simp (disch := omega) only [wrap64, wrapi64]); refine hK _ ?_; clear hK K))
        (((try simp only [cl_seq, cl_skip]); (try simp only [cl_ret]); refine hR _ _ (.inr rfl) ?_; (simp (maxSteps := 1000000) only [go_sem])))
        rw [← h]
    · cases h
  · cases h
end Go.Proofs.YtapdaefpkddioaaGreat.Pe
