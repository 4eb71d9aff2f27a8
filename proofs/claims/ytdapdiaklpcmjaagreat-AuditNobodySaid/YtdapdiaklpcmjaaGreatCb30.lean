/- A part of the proof of PmD. -/
import Derived.Test.YtdapdiaklpcmjaaGreatCb17
import Derived.Test.YtdapdiaklpcmjaaGreatCb19
import Derived.Test.YtdapdiaklpcmjaaGreatCb20
import Derived.Test.YtdapdiaklpcmjaaGreatCb21
import Derived.Test.YtdapdiaklpcmjaaGreatCb22
import Derived.Test.YtdapdiaklpcmjaaGreatCb23
import Derived.Test.YtdapdiaklpcmjaaGreatCb24
import Derived.Test.YtdapdiaklpcmjaaGreatCb25
import Derived.Test.YtdapdiaklpcmjaaGreatCb26
import Derived.Test.YtdapdiaklpcmjaaGreatCb27
import Derived.Test.YtdapdiaklpcmjaaGreatCb28
import Derived.Test.YtdapdiaklpcmjaaGreatCb29
set_option linter.unusedSimpArgs false
set_option linter.unusedVariables false
set_option linter.unusedSectionVars false
namespace Go.Proofs.YtdapdiaklpcmjaaGreat.Pe
open Go
set_option maxRecDepth 100000
theorem load_all {k : Nat} (h : k < 600) : LoadAt k := by
  rcases Nat.lt_or_ge k 300 with h0_600 | h0_600
  · rcases Nat.lt_or_ge k 150 with h0_300 | h0_300
    · rcases Nat.lt_or_ge k 75 with h0_150 | h0_150
      · rcases Nat.lt_or_ge k 25 with h0_75 | h0_75
        · exact Kl0.at_ (by omega) (by omega)
        · rcases Nat.lt_or_ge k 50 with h25_75 | h25_75
          · exact Kl25.at_ (by omega) (by omega)
          · exact Kl50.at_ (by omega) (by omega)
      · rcases Nat.lt_or_ge k 100 with h75_150 | h75_150
        · exact Kl75.at_ (by omega) (by omega)
        · rcases Nat.lt_or_ge k 125 with h100_150 | h100_150
          · exact Kl100.at_ (by omega) (by omega)
          · exact Kl125.at_ (by omega) (by omega)
    · rcases Nat.lt_or_ge k 225 with h150_300 | h150_300
      · rcases Nat.lt_or_ge k 175 with h150_225 | h150_225
        · exact Kl150.at_ (by omega) (by omega)
        · rcases Nat.lt_or_ge k 200 with h175_225 | h175_225
          · exact Kl175.at_ (by omega) (by omega)
          · exact Kl200.at_ (by omega) (by omega)
      · rcases Nat.lt_or_ge k 250 with h225_300 | h225_300
        · exact Kl225.at_ (by omega) (by omega)
        · rcases Nat.lt_or_ge k 275 with h250_300 | h250_300
          · exact Kl250.at_ (by omega) (by omega)
          · exact Kl275.at_ (by omega) (by omega)
  · rcases Nat.lt_or_ge k 450 with h300_600 | h300_600
    · rcases Nat.lt_or_ge k 375 with h300_450 | h300_450
      · rcases Nat.lt_or_ge k 325 with h300_375 | h300_375
        · exact Kl300.at_ (by omega) (by omega)
        · rcases Nat.lt_or_ge k 350 with h325_375 | h325_375
          · exact Kl325.at_ (by omega) (by omega)
          · exact Kl350.at_ (by omega) (by omega)
      · rcases Nat.lt_or_ge k 400 with h375_450 | h375_450
        · exact Kl375.at_ (by omega) (by omega)
        · rcases Nat.lt_or_ge k 425 with h400_450 | h400_450
          · exact Kl400.at_ (by omega) (by omega)
          · exact Kl425.at_ (by omega) (by omega)
    · rcases Nat.lt_or_ge k 525 with h450_600 | h450_600
      · rcases Nat.lt_or_ge k 475 with h450_525 | h450_525
        · exact Kl450.at_ (by omega) (by omega)
        · rcases Nat.lt_or_ge k 500 with h475_525 | h475_525
          · exact Kl475.at_ (by omega) (by omega)
          · exact Kl500.at_ (by omega) (by omega)
      · rcases Nat.lt_or_ge k 550 with h525_600 | h525_600
        · exact Kl525.at_ (by omega) (by omega)
        · rcases Nat.lt_or_ge k 575 with h550_600 | h550_600
          · exact Kl550.at_ (by omega) (by omega)
          · exact Kl575.at_ (by omega) (by omega)
theorem store_all {k : Nat} (h : k < 600) : StoreAt k := by
  rcases Nat.lt_or_ge k 300 with h0_600 | h0_600
  · rcases Nat.lt_or_ge k 150 with h0_300 | h0_300
    · rcases Nat.lt_or_ge k 75 with h0_150 | h0_150
      · rcases Nat.lt_or_ge k 25 with h0_75 | h0_75
        · exact Ks0.at_ (by omega) (by omega)
        · rcases Nat.lt_or_ge k 50 with h25_75 | h25_75
          · exact Ks25.at_ (by omega) (by omega)
          · exact Ks50.at_ (by omega) (by omega)
      · rcases Nat.lt_or_ge k 100 with h75_150 | h75_150
        · exact Ks75.at_ (by omega) (by omega)
        · rcases Nat.lt_or_ge k 125 with h100_150 | h100_150
          · exact Ks100.at_ (by omega) (by omega)
          · exact Ks125.at_ (by omega) (by omega)
    · rcases Nat.lt_or_ge k 225 with h150_300 | h150_300
      · rcases Nat.lt_or_ge k 175 with h150_225 | h150_225
        · exact Ks150.at_ (by omega) (by omega)
        · rcases Nat.lt_or_ge k 200 with h175_225 | h175_225
          · exact Ks175.at_ (by omega) (by omega)
          · exact Ks200.at_ (by omega) (by omega)
      · rcases Nat.lt_or_ge k 250 with h225_300 | h225_300
        · exact Ks225.at_ (by omega) (by omega)
        · rcases Nat.lt_or_ge k 275 with h250_300 | h250_300
          · exact Ks250.at_ (by omega) (by omega)
          · exact Ks275.at_ (by omega) (by omega)
  · rcases Nat.lt_or_ge k 450 with h300_600 | h300_600
    · rcases Nat.lt_or_ge k 375 with h300_450 | h300_450
      · rcases Nat.lt_or_ge k 325 with h300_375 | h300_375
        · exact Ks300.at_ (by omega) (by omega)
        · rcases Nat.lt_or_ge k 350 with h325_375 | h325_375
          · exact Ks325.at_ (by omega) (by omega)
          · exact Ks350.at_ (by omega) (by omega)
      · rcases Nat.lt_or_ge k 400 with h375_450 | h375_450
        · exact Ks375.at_ (by omega) (by omega)
        · rcases Nat.lt_or_ge k 425 with h400_450 | h400_450
          · exact Ks400.at_ (by omega) (by omega)
          · exact Ks425.at_ (by omega) (by omega)
    · rcases Nat.lt_or_ge k 525 with h450_600 | h450_600
      · rcases Nat.lt_or_ge k 475 with h450_525 | h450_525
        · exact Ks450.at_ (by omega) (by omega)
        · rcases Nat.lt_or_ge k 500 with h475_525 | h475_525
          · exact Ks475.at_ (by omega) (by omega)
          · exact Ks500.at_ (by omega) (by omega)
      · rcases Nat.lt_or_ge k 550 with h525_600 | h525_600
        · exact Ks525.at_ (by omega) (by omega)
        · rcases Nat.lt_or_ge k 575 with h550_600 | h550_600
          · exact Ks550.at_ (by omega) (by omega)
          · exact Ks575.at_ (by omega) (by omega)
noncomputable def segX (H : Hp) (sg : Nat) : Option (Nat × Nat × Tr Nat × Option Nat) := match H sg with
  | some ⟨_, 1, [[.ref o 1 0 n]]⟩ => match H o with
    | some ⟨e, 0, [[.wds t m]]⟩ => br (Nat.beq n m) (some (o, n, t, e)) none
    | _ => none
  | _ => none
theorem segX_some {H : Hp} {sg o n : Nat} {t : Tr Nat} {e : Option Nat} (h : segX H sg = some (o, n, t, e)) : (∃ e1, H sg = some ⟨e1, 1, [[.ref o 1 0 n]]⟩) ∧ H o = some ⟨e, 0, [[.wds t n]]⟩ := by
  unfold segX at h
  split at h
  · rename_i e1 o' n' hsg
    split at h
    · rename_i e' t' m ho
      obtain ⟨h1, h2⟩ := br_some h
      have := Nat.eq_of_beq_eq_true h1
      subst this
      simp only [Option.some.injEq, Prod.mk.injEq] at h2
      obtain ⟨rfl, rfl, rfl, rfl⟩ := h2
      exact ⟨⟨e1, hsg⟩, ho⟩
    · cases h
  · cases h
noncomputable def wordX (t : Tr Nat) (k : Nat) : Nat := Option.rec (motive := fun _ => Nat) 0 (fun v => v) (t.get k)
theorem wordX_eq (t : Tr Nat) (k : Nat) : wordX t k = (t.get k).getD 0 := by unfold wordX; cases t.get k <;> rfl
noncomputable def loadX (ads : List AD) (H : Hp) (nx : Nat) : Option (RV × Hp × Nat) := match ads with
  | [.one (.ptr sg 1 0 0), .one (.int .u64 (.ofNat off))] => match segX H sg with
    | some q => br (Nat.beq q.2.1 4800) (br (inW off 4800) (br (Nat.blt (wordX q.2.2.1 (Nat.div off 8)) 18446744073709551616) (some (.tup [.one (.int .u64 (.ofNat (wordX q.2.2.1 (Nat.div off 8)))), .one (.int .i64 0)], H, nx)) none) none) none
    | none => none
  | _ => none
noncomputable def storeX (ads : List AD) (H : Hp) (nx : Nat) : Option (RV × Hp × Nat) := match ads with
  | [.one (.ptr sg 1 0 0), .one (.int .u64 (.ofNat off)), .one (.int .u64 (.ofNat v))] => match segX H sg with
    | some q => br (Nat.beq q.2.1 4800) (br (inW off 4800) (some (.a (.one (.int .i64 0)), updO H q.1 (some ⟨q.2.2.2, 0, [[.wds (q.2.2.1.set (some v) 30 (Nat.div off 8)) q.2.1]]⟩), nx)) none) none
    | none => none
  | _ => none
theorem inW_some {off n : Nat} (h : inW off n = true) : off % 8 = 0 ∧ off < n := by
  unfold inW at h
  have h : Nat.beq (Nat.mod off 8) 0 = true ∧ Nat.blt off n = true := by simpa using h
  exact ⟨Nat.eq_of_beq_eq_true h.1, Nat.le_of_ble_eq_true h.2⟩
theorem out_some {x : Option (RV × Hp × Nat)} {r : RV} {a b : Option PObj} {m : Nat} (h : out x = some (r, a, b, m)) : ∃ K, x = some (r, K, m) ∧ K 0 = a ∧ K 1 = b := by
  unfold out at h
  cases x with
  | none => cases h
  | some x =>
    obtain ⟨r', K, m'⟩ := x
    have h : some (r', K 0, K 1, m') = some (r, a, b, m) := h
    simp only [Option.some.injEq, Prod.mk.injEq] at h
    obtain ⟨rfl, h1, h2, rfl⟩ := h
    exact ⟨K, rfl, h1, h2⟩
abbrev loadN : Nat := 83
abbrev storeN : Nat := 20
theorem S0_ok : SysOk S0 Tryz.prog := sysOf_ok (bs := []) mixed ttL_ok (by kernel_rfl) ezL_ok (by kernel_rfl) fnL_ok (by kernel_rfl) trivial rfl
theorem HeapOk.cong {w : World} {ι : Nat → Option Nat} {M : Nat → Prop} {H H' : Hp} {nx : Nat} (h : HeapOk w ι M H nx) (e : ∀ k, H' k = H k) : HeapOk w ι M H' nx :=
  ⟨h.new, fun o ob ho => h.objs o ob (by rw [← e]; exact ho), fun o o' x x' b ho ho' => h.inj o o' x x' b (by rw [← e]; exact ho) (by rw [← e]; exact ho'), fun o x b ho => h.ctl o x b (by rw [← e]; exact ho)⟩
theorem load_ok : FnEff Tryz.prog loadN loadX := by
  intro ads H nx r H' nx' hq w ι M vals hM hok hsz hargs
  unfold loadX at hq
  split at hq
  · rename_i sg off
    split at hq
    · rename_i q hs
      obtain ⟨o, n, t, e5⟩ := q
      obtain ⟨h1, hq⟩ := br_some hq
      obtain ⟨h2, hq⟩ := br_some hq
      obtain ⟨h3, hq⟩ := br_some hq
      have h1 : n = 4800 := Nat.eq_of_beq_eq_true h1
      subst h1
      obtain ⟨ha, hb⟩ := inW_some h2
      have h3 : wordX t (off / 8) < 18446744073709551616 := Nat.le_of_ble_eq_true h3
      simp only [Option.some.injEq, Prod.mk.injEq] at hq
      obtain ⟨rfl, rfl, rfl⟩ := hq
      obtain ⟨⟨e1, hsg⟩, ho⟩ := segX_some hs
      obtain ⟨k, rfl⟩ : ∃ k, off = 8 * k := ⟨off / 8, by omega⟩
      have ek : 8 * k / 8 = k := by omega
      have hk6 : k < 600 := by omega
      have hk8 : 8 * k + 8 ≤ 4800 := by omega
      have h9 : 4800 ≤ 1000000000 := Nat.le_of_ble_eq_true rfl
      rw [ek] at h3
      obtain ⟨K, hrun, hK0, hK1⟩ := out_some (load_all hk6 e1 e5 (bOf t 4800))
      rw [wordX_eq] at h3
      rw [wordL_words t h9 hk8 h3] at hrun
      have hF : FnEff Tryz.prog loadN ((evs S0 200).fn loadN) := (evs_ok S0_ok 200).fn loadN (by kernel_rfl)
      have hrows := bOf_rows t h9
      refine (seg_frame hF hrows hrows hsg ho hrun hK1 hK0 rfl (fun x hx => by rcases List.mem_singleton.1 hx with rfl; rfl) hM hok hsz hargs).mono fun e w' hp => ?_
      obtain ⟨v, ι', M', he, hr, hk, hi, hev, hkept, hback, hlt⟩ := hp
      have same : ∀ j, H j = updO H o (some ⟨e5, 0, [[.wds t 4800]]⟩) j := fun j => by
        rw [updO_at]; split
        · rename_i e; subst e; exact ho
        · rfl
      refine ⟨v, ι', M', he, ?_, hk.cong same, hi, ⟨hev.os, hev.tape, hev.output, hev.size, hev.same, fun b hb ⟨j, x, h1, h2⟩ => hev.back b hb ⟨j, x, by rw [← same]; exact h1, h2⟩, hev.keep, hev.shape⟩, hkept, hback, hlt⟩
      have ev : wordX t (Nat.div (8 * k) 8) = (t.get k).getD 0 := by
        rw [wordX_eq]
        show (t.get (8 * k / 8)).getD 0 = _
        rw [ek]
      show RdV w' ι' M' v (.tup [.one (.int .u64 (.ofNat (wordX t (Nat.div (8 * k) 8)))), .one (.int .i64 0)])
      rw [ev]
      exact hr
    · cases hq
  · cases hq
theorem store_ok : FnEff Tryz.prog storeN storeX := by
  intro ads H nx r H' nx' hq w ι M vals hM hok hsz hargs
  unfold storeX at hq
  split at hq
  · rename_i sg off v
    split at hq
    · rename_i q hs
      obtain ⟨o, n, t, e5⟩ := q
      obtain ⟨h1, hq⟩ := br_some hq
      obtain ⟨h2, hq⟩ := br_some hq
      have h1 : n = 4800 := Nat.eq_of_beq_eq_true h1
      subst h1
      obtain ⟨ha, hb⟩ := inW_some h2
      simp only [Option.some.injEq, Prod.mk.injEq] at hq
      obtain ⟨rfl, rfl, rfl⟩ := hq
      obtain ⟨⟨e1, hsg⟩, ho⟩ := segX_some hs
      obtain ⟨k, rfl⟩ : ∃ k, off = 8 * k := ⟨off / 8, by omega⟩
      have ek : Nat.div (8 * k) 8 = k := by show 8 * k / 8 = k; omega
      have hk6 : k < 600 := by omega
      have hk8 : 8 * k + 8 ≤ 4800 := by omega
      have h9 : 4800 ≤ 1000000000 := Nat.le_of_ble_eq_true rfl
      obtain ⟨K, hrun, hK0, hK1⟩ := out_some (store_all hk6 e1 e5 (bOf t 4800) v)
      have hF : FnEff Tryz.prog storeN ((evs S0 200).fn storeN) := (evs_ok S0_ok 200).fn storeN (by kernel_rfl)
      have := seg_frame hF (bOf_rows t h9) (bytesSet_rows t (v := v) h9 hk8) hsg ho hrun hK1 hK0 rfl (fun x hx => by
        rcases List.mem_cons.1 hx with rfl | hx
        · rfl
        · rcases List.mem_singleton.1 hx with rfl; rfl) hM hok hsz hargs
      rw [ek]
      exact this
    · cases hq
  · cases hq
abbrev sizeN : Nat := 36
theorem size_at (e1 e5 : Option Nat) (bt : Tr Nat) : out ((evs S0 200).fn sizeN [.one (.ptr 1 1 0 0)] (seg0 e1 e5 bt 4800) 2) = some (.a (.one (.int .u64 4800)), some ⟨e5, 0, [[.bts bt 4800]]⟩, some ⟨e1, 1, [[.ref 0 1 0 4800]]⟩, 2) := by kernel_rfl
noncomputable def sizeX (ads : List AD) (H : Hp) (nx : Nat) : Option (RV × Hp × Nat) := match ads with
  | [.one (.ptr sg 1 0 0)] => match segX H sg with
    | some q => br (Nat.beq q.2.1 4800) (some (.a (.one (.int .u64 4800)), H, nx)) none
    | none => none
  | _ => none
theorem size_ok : FnEff Tryz.prog sizeN sizeX := by
  intro ads H nx r H' nx' hq w ι M vals hM hok hsz hargs
  unfold sizeX at hq
  split at hq
  · rename_i sg
    split at hq
    · rename_i q hs
      obtain ⟨o, n, t, e5⟩ := q
      obtain ⟨h1, hq⟩ := br_some hq
      have h1 : n = 4800 := Nat.eq_of_beq_eq_true h1
      subst h1
      simp only [Option.some.injEq, Prod.mk.injEq] at hq
      obtain ⟨rfl, rfl, rfl⟩ := hq
      obtain ⟨⟨e1, hsg⟩, ho⟩ := segX_some hs
      have h9 : 4800 ≤ 1000000000 := Nat.le_of_ble_eq_true rfl
      obtain ⟨K, hrun, hK0, hK1⟩ := out_some (size_at e1 e5 (bOf t 4800))
      have hF : FnEff Tryz.prog sizeN ((evs S0 200).fn sizeN) := (evs_ok S0_ok 200).fn sizeN (by kernel_rfl)
      have hrows := bOf_rows t h9
      refine (seg_frame hF hrows hrows hsg ho hrun hK1 hK0 rfl (fun x hx => by cases hx) hM hok hsz hargs).mono fun e w' hp => ?_
      obtain ⟨v, ι', M', he, hr, hk, hi, hev, hkept, hback, hlt⟩ := hp
      have same : ∀ j, H j = updO H o (some ⟨e5, 0, [[.wds t 4800]]⟩) j := fun j => by
        rw [updO_at]; split
        · rename_i e; subst e; exact ho
        · rfl
      exact ⟨v, ι', M', he, hr, hk.cong same, hi, ⟨hev.os, hev.tape, hev.output, hev.size, hev.same, fun b hb ⟨j, x, h1, h2⟩ => hev.back b hb ⟨j, x, by rw [← same]; exact h1, h2⟩, hev.keep, hev.shape⟩, hkept, hback, hlt⟩
    · cases hq
  · cases hq
abbrev newN : Nat := 8
theorem new_at : ∃ K, (evs S0 200).fn newN [.one (.int .u64 4800)] (.tr .leaf) 0 = some (.a (.one (.ptr 1 1 0 0)), K, 2) ∧ K 1 = some ⟨none, 1, [[.ref 0 1 0 4800]]⟩ ∧ K 0 = some ⟨some 5, 1, List.replicate 4800 [.int .u8 0]⟩ := by
  have h : out ((evs S0 200).fn newN [.one (.int .u64 4800)] (.tr .leaf) 0) = some (.a (.one (.ptr 1 1 0 0)), some ⟨some 5, 1, List.replicate 4800 [.int .u8 0]⟩, some ⟨none, 1, [[.ref 0 1 0 4800]]⟩, 2) := by kernel_rfl
  obtain ⟨K, h1, h2, h3⟩ := out_some h
  exact ⟨K, h1, h3, h2⟩
theorem zero_wds (n : Nat) : wdsRows .leaf n = List.replicate n [.int .u8 0] := by
  unfold wdsRows
  apply List.eq_replicate_iff.2
  refine ⟨by simp, fun r hr => ?_⟩
  obtain ⟨i, _, rfl⟩ := List.mem_map.1 hr
  show [byteOf .leaf i] = _
  unfold byteOf
  rw [Tr.get_leaf]
  simp
noncomputable def newX (ads : List AD) (H : Hp) (nx : Nat) : Option (RV × Hp × Nat) := match ads with
  | [.one (.int .u64 (.ofNat n))] => br (Nat.beq n 4800) (some (.a (.one (.ptr (nx + 1) 1 0 0)), updO (updO H nx (some ⟨some 5, 0, [[.wds .leaf 4800]]⟩)) (nx + 1) (some ⟨none, 1, [[.ref nx 1 0 4800]]⟩), nx + 2)) none
  | _ => none
theorem new_ok : FnEff Tryz.prog newN newX := by
  intro ads H nx r H' nx' hq w ι M vals hM hok hsz hargs
  unfold newX at hq
  split at hq
  · rename_i n
    obtain ⟨h1, hq⟩ := br_some hq
    have h1 : n = 4800 := Nat.eq_of_beq_eq_true h1
    subst h1
    have hq := Option.some.inj hq
    obtain ⟨q1, q2⟩ := Prod.mk.inj hq
    obtain ⟨q2, q3⟩ := Prod.mk.inj q2
    subst q1; subst q2; subst q3
    obtain ⟨K, hrun, hK1, hK0⟩ := new_at
    have hF : FnEff Tryz.prog newN ((evs S0 200).fn newN) := (evs_ok S0_ok 200).fn newN (by kernel_rfl)
    have ok0 : HeapOk w (fun _ => none) M (.tr .leaf) 0 := ⟨fun o => by simp, fun o ob h => (by cases h), fun o o' x x' b h => (by cases h), fun o x b h => (by cases h)⟩
    refine (hF _ _ _ _ _ _ hrun w (fun _ => none) M vals hM ok0 hsz fun j v a hv ha => ?_).mono fun e w' hp => ?_
    · have := hargs j v a hv ha
      cases j with
      | zero => injection ha with ha; subst ha; exact this.flat rfl
      | succ j => simp at ha
    obtain ⟨v, ι', M', he, hr, hk, _, hev, hkept, hback, hlt⟩ := hp
    obtain ⟨b0, hb0, ho0⟩ := hk.objs 0 _ hK0
    obtain ⟨b1, hb1, ho1⟩ := hk.objs 1 _ hK1
    have fresh : ∀ k x b, K k = some x → ι' k = some b → w.heap.size ≤ b := fun k x b h1 h2 => Nat.le_of_not_lt fun hlt => by
      obtain ⟨o, x, h, _⟩ := hev.back b hlt ⟨k, x, h1, h2⟩
      cases h
    have f0 := fresh 0 _ b0 hK0 hb0
    have f1 := fresh 1 _ b1 hK1 hb1
    have hne : b0 ≠ b1 := fun e => by subst e; exact absurd (hk.inj 0 1 _ _ _ hK0 hK1 hb0 hb1) (by omega)
    have same : ∀ b, b < w.heap.size → w'.heap[b]? = w.heap[b]? := fun b hb => hev.same b hb fun ⟨o, x, h, _⟩ => by cases h
    have hkept' : ∀ b, M b → M' b := fun b hb => hkept b hb fun o x h => by cases h
    let J : Nat → Option Nat := fun k => if k = nx + 1 then some b1 else if k = nx then some b0 else ι k
    have J1 : J (nx + 1) = some b1 := if_pos rfl
    have J0 : J nx = some b0 := by show (if nx = nx + 1 then _ else _) = _; rw [if_neg (by omega), if_pos rfl]
    have Jo : ∀ k, k ≠ nx + 1 → k ≠ nx → J k = ι k := fun k h1 h2 => by show (if k = nx + 1 then _ else _) = _; rw [if_neg h1, if_neg h2]
    have old : ∀ k x, H k = some x → k < nx := fun k x hx => by
      obtain ⟨b, hb, _⟩ := hok.objs k x hx
      exact Nat.lt_of_not_le fun hle => by rw [(hok.new k).1 hle] at hb; cases hb
    have hi : ∀ o b, ι o = some b → J o = some b := fun o b hb => by
      have : o < nx := Nat.lt_of_not_le fun hle => by rw [(hok.new o).1 hle] at hb; cases hb
      rw [Jo o (by omega) (by omega)]; exact hb
    have evw : Evo (fun _ => False) M w M' w' := ⟨hev.os, hev.tape, hev.output, hev.size, fun b hb _ => same b hb, fun b hb h => hback b hb h, fun b hb h => h.elim, hev.shape⟩
    have at_ : ∀ k x, updO (updO H nx (some ⟨some 5, 0, [[.wds .leaf 4800]]⟩)) (nx + 1) (some ⟨none, 1, [[.ref nx 1 0 4800]]⟩) k = some x →
        (k = nx + 1 ∧ x = ⟨none, 1, [[.ref nx 1 0 4800]]⟩) ∨ (k = nx ∧ x = ⟨some 5, 0, [[.wds .leaf 4800]]⟩) ∨ (k < nx ∧ H k = some x) := fun k x hx => by
      rw [updO_at] at hx
      split at hx
      · rename_i e; injection hx with hx; exact .inl ⟨e, hx.symm⟩
      · rw [updO_at] at hx
        split at hx
        · rename_i e; injection hx with hx; exact .inr (.inl ⟨e, hx.symm⟩)
        · exact .inr (.inr ⟨old k x hx, hx⟩)
    have blk : ∀ k x b, H k = some x → ι k = some b → b < w.heap.size := fun k x b h1 h2 => hM b (hok.ctl k x b h1 h2)
    refine ⟨v, J, M', he, ?_, ⟨fun k => ?_, fun k ob hkk => ?_, fun k k' x x' b hk1 hk2 hb hb' => ?_, fun k x b hk1 hb => ?_⟩, hi, ⟨hev.os, hev.tape, hev.output, hev.size, fun b hb _ => same b hb, fun b hb hh => ?_, fun b hb h => h.elim, hev.shape⟩, fun b hb _ => hkept' b hb, hback, hlt⟩
    · have hr : Rd w' ι' M' v (.ptr 1 1 0 0) := hr
      cases hr with
      | ptr _ _ _ _ b h hs =>
        rw [hb1] at h; injection h with h; subst h
        exact Rd.ptr (nx + 1) 1 0 0 _ J1 hs
    · by_cases h1 : k = nx + 1
      · subst h1; rw [J1]; simp
      · by_cases h2 : k = nx
        · subst h2; rw [J0]; simp
        · rw [Jo k h1 h2, ← hok.new k]; omega
    · rcases at_ k ob hkk with ⟨rfl, rfl⟩ | ⟨rfl, rfl⟩ | ⟨h1, h2⟩
      · exact ⟨b1, J1, seg_ref ho1 fun c hc => by rw [hb0] at hc; rw [J0, hc]⟩
      · refine ⟨b0, J0, ObjAt.unexp (ob := ⟨some 5, 0, [[.wds .leaf 4800]]⟩) (wds_rd (ι := ι') (M := M') ?_)⟩
        rw [zero_wds]; exact ho0
      · obtain ⟨b, k1, k2⟩ := hok.objs k ob h2
        exact ⟨b, hi k b k1, k2.mono evw hi (same b (blk k ob b h2 k1))⟩
    · have g : ∀ k x, updO (updO H nx (some ⟨some 5, 0, [[.wds .leaf 4800]]⟩)) (nx + 1) (some ⟨none, 1, [[.ref nx 1 0 4800]]⟩) k = some x → J k = some b → (k = nx + 1 ∧ b = b1) ∨ (k = nx ∧ b = b0) ∨ (∃ y, H k = some y ∧ ι k = some b ∧ b < w.heap.size) := fun k x hx hb => by
        rcases at_ k x hx with ⟨rfl, _⟩ | ⟨rfl, _⟩ | ⟨h1, h2⟩
        · rw [J1] at hb; injection hb with hb; exact .inl ⟨rfl, hb.symm⟩
        · rw [J0] at hb; injection hb with hb; exact .inr (.inl ⟨rfl, hb.symm⟩)
        · rw [Jo k (by omega) (by omega)] at hb; exact .inr (.inr ⟨x, h2, hb, blk k x b h2 hb⟩)
      rcases g k x hk1 hb with ⟨e1, e2⟩ | ⟨e1, e2⟩ | ⟨y, h1, h2, h3⟩ <;> rcases g k' x' hk2 hb' with ⟨e1', e2'⟩ | ⟨e1', e2'⟩ | ⟨y', h1', h2', h3'⟩
      · rw [e1, e1']
      · exact absurd (e2'.symm.trans e2) hne
      · omega
      · exact absurd (e2.symm.trans e2') hne
      · rw [e1, e1']
      · omega
      · omega
      · omega
      · exact hok.inj k k' y y' b h1 h1' h2 h2'
    · rcases at_ k x hk1 with ⟨rfl, _⟩ | ⟨rfl, _⟩ | ⟨h1, h2⟩
      · rw [J1] at hb; injection hb with hb; subst hb; exact hk.ctl 1 _ _ hK1 hb1
      · rw [J0] at hb; injection hb with hb; subst hb; exact hk.ctl 0 _ _ hK0 hb0
      · rw [Jo k (by omega) (by omega)] at hb; exact hkept' b (hok.ctl k x b h2 hb)
    · obtain ⟨k, x, hk1, hb'⟩ := hh
      rcases at_ k x hk1 with ⟨rfl, _⟩ | ⟨rfl, _⟩ | ⟨h1, h2⟩
      · rw [J1] at hb'; injection hb' with hb'; omega
      · rw [J0] at hb'; injection hb' with hb'; omega
      · rw [Jo k (by omega) (by omega)] at hb'; exact ⟨k, x, h2, hb'⟩
  · cases hq
end Go.Proofs.YtdapdiaklpcmjaaGreat.Pe
namespace Go.Proofs.YtdapdiaklpcmjaaGreat.Pe
open Go
set_option maxRecDepth 100000
noncomputable def bsL : List (Nat × FnS) := [(newN, .eff newX), (sizeN, .eff sizeX), (loadN, .eff loadX), (storeN, .eff storeX)]
theorem bsL_ok : AllBs Tryz.prog bsL := ⟨⟨new_ok, by kernel_rfl⟩, ⟨size_ok, by kernel_rfl⟩, ⟨load_ok, by kernel_rfl⟩, ⟨store_ok, by kernel_rfl⟩, trivial⟩
noncomputable def S1 : Sys := sysOf (mkTr ttL) (mkTr ezL) (mkTr fnL) (mkTr bsL)
theorem S1_ok : SysOk S1 Tryz.prog := sysOf_ok mixed ttL_ok (by kernel_rfl) ezL_ok (by kernel_rfl) fnL_ok (by kernel_rfl) bsL_ok (by kernel_rfl)
end Go.Proofs.YtdapdiaklpcmjaaGreat.Pe
namespace Go.Proofs.YtdapdiaklpcmjaaGreat.Pe
open Go
set_option maxRecDepth 100000
noncomputable def loadP (ads : List AD) (H : Hp) (nx : Nat) (T : TL) : Option ((RV × Hp × Nat) × TL) := match ads with
  | [.one (.ptr sg 1 0 0), .one (.int .u64 (.ofNat off))] => match segX H sg with
    | some q => some ((.tup [.one (.int .u64 (.ofNat (wordX q.2.2.1 (Nat.div off 8)))), .one (.int .i64 0)], H, nx), T.need [Nat.beq q.2.1 4800, inW off 4800, Nat.blt (wordX q.2.2.1 (Nat.div off 8)) 18446744073709551616])
    | none => none
  | _ => none
theorem loadP_ok : PfOk loadP loadX := by
  intro ads H nx T q T' h
  unfold loadP at h
  split at h
  · rename_i sg off
    split at h
    · rename_i z hz
      simp only [Option.some.injEq, Prod.mk.injEq] at h
      obtain ⟨rfl, rfl⟩ := h
      refine ⟨TL.need_le _ _, fun hT => ?_⟩
      have hc := TL.need_ok hT
      have h1 := hc _ List.mem_cons_self
      have h2 := hc _ (List.mem_cons_of_mem _ List.mem_cons_self)
      have h3 := hc _ (List.mem_cons_of_mem _ (List.mem_cons_of_mem _ List.mem_cons_self))
      show (match segX H sg with | some q => _ | none => none) = _
      rw [hz]
      simp only [h1, h2, h3, br]
    · cases h
  · cases h
noncomputable def storeP (ads : List AD) (H : Hp) (nx : Nat) (T : TL) : Option ((RV × Hp × Nat) × TL) := match ads with
  | [.one (.ptr sg 1 0 0), .one (.int .u64 (.ofNat off)), .one (.int .u64 (.ofNat v))] => match segX H sg with
    | some q => some ((.a (.one (.int .i64 0)), updO H q.1 (some ⟨q.2.2.2, 0, [[.wds (q.2.2.1.set (some v) 30 (Nat.div off 8)) q.2.1]]⟩), nx), T.need [Nat.beq q.2.1 4800, inW off 4800])
    | none => none
  | _ => none
theorem storeP_ok : PfOk storeP storeX := by
  intro ads H nx T q T' h
  unfold storeP at h
  split at h
  · rename_i sg off v
    split at h
    · rename_i z hz
      simp only [Option.some.injEq, Prod.mk.injEq] at h
      obtain ⟨rfl, rfl⟩ := h
      refine ⟨TL.need_le _ _, fun hT => ?_⟩
      have hc := TL.need_ok hT
      have h1 := hc _ List.mem_cons_self
      have h2 := hc _ (List.mem_cons_of_mem _ List.mem_cons_self)
      show (match segX H sg with | some q => _ | none => none) = _
      rw [hz]
      simp only [h1, h2, br]
    · cases h
  · cases h
noncomputable def pbOf : List (Nat × PF) → Nat → Option PF
  | [], _ => none
  | x :: l, f => br (Nat.beq x.1 f) (some x.2) (pbOf l f)
theorem pbOf_mem : ∀ {l : List (Nat × PF)} {f : Nat} {G : PF}, pbOf l f = some G → (f, G) ∈ l
  | [], f, G, h => by cases h
  | (a, b) :: l, f, G, h => by
    unfold pbOf at h
    cases hb : Nat.beq a f with
    | true =>
      have h : br (Nat.beq a f) (some b) (pbOf l f) = some G := h
      rw [hb] at h
      have h : some b = some G := h
      injection h with h
      have e := Nat.eq_of_beq_eq_true hb
      rw [e, h]
      exact List.mem_cons_self
    | false =>
      have h : br (Nat.beq a f) (some b) (pbOf l f) = some G := h
      rw [hb] at h
      exact List.mem_cons_of_mem _ (pbOf_mem h)
noncomputable def S2 : SysP := { S1 with pb := pbOf [(loadN, loadP), (storeN, storeP)] }
theorem S2_sys : S2.toSys = S1 := rfl
theorem S2_ok : SysOk S2.toSys Tryz.prog := S1_ok
theorem S2_pb : PbOk S2 := ⟨fun f G h => by
  have h := pbOf_mem (l := [(loadN, loadP), (storeN, storeP)]) h
  simp only [List.mem_cons, List.not_mem_nil, or_false, Prod.mk.injEq] at h
  rcases h with ⟨rfl, rfl⟩ | ⟨rfl, rfl⟩
  · exact ⟨loadX, by kernel_rfl, loadP_ok⟩
  · exact ⟨storeX, by kernel_rfl, storeP_ok⟩⟩
theorem fn_runAt {P : Program} {S : SysP} (hS : SysOk S.toSys P) (hP : PbOk S) {k f : Nat} (hf : (S.tab f).isSome = true) {ads : List AD} {H : Hp} {nx : Nat} {T T' : TL} {r : RV} {H' : Hp} {nx' : Nat} (h : (evt S k).fn f ads H nx T = some ((r, H', nx'), T')) (hT : T'.Ok) : RunAt P f ads H nx r H' nx' :=
  (evs_ok hS k).fn f hf _ _ _ _ _ _ (((evt_ok hP k).fn _ _ _ _ _ _ _ h).2 hT)
end Go.Proofs.YtdapdiaklpcmjaaGreat.Pe
namespace Go.Proofs.YtdapdiaklpcmjaaGreat.Pe
open Go
set_option maxRecDepth 100000
noncomputable def allB (l : List Bool) : Bool := List.rec (motive := fun _ => Bool) true (fun c _ ih => br c ih false) l
theorem allB_all : ∀ {l : List Bool}, allB l = true → ∀ c ∈ l, c = true
  | [], _, c, hc => by cases hc
  | x :: l, h, c, hc => by
    have h : br x (allB l) false = true := h
    cases x with
    | false => cases h
    | true =>
      rcases List.mem_cons.1 hc with rfl | hc
      · rfl
      · exact allB_all (show allB l = true from h) c hc
noncomputable def outT (x : Option ((RV × Hp × Nat) × TL)) : Option (RV × Option PObj × Option PObj × Nat × Bool × List (AV × AV)) := x.bind fun x => some (x.1.1, x.1.2.1 0, x.1.2.1 1, x.1.2.2, allB x.2.cs, x.2.eqs)
theorem outT_run {S : SysP} (hS : SysOk S.toSys Tryz.prog) (hP : PbOk S) {k f : Nat} (hf : (S.tab f).isSome = true) {ads : List AD} {H : Hp} {nx : Nat} {T : TL} {r : RV} {a b : Option PObj} {m : Nat} {c : Bool} (h : outT ((evt S k).fn f ads H nx T) = some (r, a, b, m, c, [])) (hc : c = true) :
    ∃ K, RunAt Tryz.prog f ads H nx r K m ∧ K 0 = a ∧ K 1 = b := by
  unfold outT at h
  cases hx : (evt S k).fn f ads H nx T with
  | none => rw [hx] at h; cases h
  | some x =>
    obtain ⟨⟨r', K, m'⟩, T'⟩ := x
    rw [hx] at h
    have h : some (r', K 0, K 1, m', allB T'.cs, T'.eqs) = some (r, a, b, m, c, []) := h
    simp only [Option.some.injEq, Prod.mk.injEq] at h
    obtain ⟨rfl, h1, h2, rfl, h4, h5⟩ := h
    exact ⟨K, fn_runAt hS hP hf hx ⟨allB_all (h4.trans hc), fun p hp => by rw [h5] at hp; cases hp⟩, h1, h2⟩
theorem RunAt.same {P : Program} {f : Nat} {ads : List AD} {H H' H'' : Hp} {nx nx' : Nat} {r : RV} (h : RunAt P f ads H nx r H' nx')
    (hs : ∀ k, H'' k = H' k ∨ ∃ e t t' n, H' k = some ⟨e, 0, [[.wds t n]]⟩ ∧ H'' k = some ⟨e, 0, [[.wds t' n]]⟩ ∧ SameW n t t') : RunAt P f ads H nx r H'' nx' := by
  intro w ι M vals hM hok hsz hargs
  refine (h w ι M vals hM hok hsz hargs).mono fun e w' hp => ?_
  obtain ⟨v, ι', M', he, hr, hk, hi, hev, hkept, hback, hlt⟩ := hp
  have fro : ∀ k x, H'' k = some x → ∃ y, H' k = some y := fun k x hx => by
    rcases hs k with e | ⟨e, t, t', n, h1, h2, _⟩
    · exact ⟨x, by rw [← e]; exact hx⟩
    · exact ⟨_, h1⟩
  refine ⟨v, ι', M', he, hr, ⟨hk.new, fun k x hx => ?_, fun k k' x x' b hx hx' hb hb' => ?_, fun k x b hx hb => ?_⟩, hi, ⟨hev.os, hev.tape, hev.output, hev.size, hev.same, fun b hb hh => ?_, fun b hb h => h.elim, hev.shape⟩, hkept, hback, hlt⟩
  · rcases hs k with e | ⟨e, t, t', n, h1, h2, h3⟩
    · exact hk.objs k x (by rw [← e]; exact hx)
    · rw [h2] at hx
      injection hx with hx
      subst hx
      obtain ⟨b, hb, ho⟩ := hk.objs k _ h1
      exact ⟨b, hb, wds_same h3 ho⟩
  · obtain ⟨y, hy⟩ := fro k x hx
    obtain ⟨y', hy'⟩ := fro k' x' hx'
    exact hk.inj k k' y y' b hy hy' hb hb'
  · obtain ⟨y, hy⟩ := fro k x hx
    exact hk.ctl k y b hy hb
  · obtain ⟨k, x, hx, hb'⟩ := hh
    obtain ⟨y, hy⟩ := fro k x hx
    exact hev.back b hb ⟨k, y, hy, hb'⟩
noncomputable def isN {α : Type} (x : Option α) : Bool := Option.rec (motive := fun _ => Bool) true (fun _ => false) x
noncomputable def dropW (t : Tr Nat) (k : Nat) : Tr Nat := br (isN (t.get k)) t (t.set none 30 k)
theorem dropW_get (t : Tr Nat) (k : Nat) (hk : k < 1000000000) (j : Nat) : (dropW t k).get j = if j = k then none else t.get j := by
  unfold dropW
  cases h : t.get k with
  | none =>
    show t.get j = _
    split
    · rename_i e; subst e; exact h
    · rfl
  | some v =>
    show (t.set none 30 k).get j = _
    rw [Tr.get_set _ _ _ _ (by omega)]
noncomputable def setZ (t : Tr Nat) (k v : Nat) : Tr Nat := br (Nat.beq v 0) (dropW t k) (t.set (some v) 30 k)
theorem setZ_same (n : Nat) (t : Tr Nat) (k v : Nat) (hk : k < 1000000000) : SameW n (t.set (some v) 30 k) (setZ t k v) := by
  intro j _
  unfold setZ
  cases hv : Nat.beq v 0 with
  | false => rfl
  | true =>
    have := Nat.eq_of_beq_eq_true hv
    subst this
    show _ = ((dropW t k).get j).getD 0
    rw [dropW_get t k hk, Tr.get_set _ _ _ _ (by omega)]
    split <;> rfl
noncomputable def storeZ (ads : List AD) (H : Hp) (nx : Nat) : Option (RV × Hp × Nat) := match ads with
  | [.one (.ptr sg 1 0 0), .one (.int .u64 (.ofNat off)), .one (.int .u64 (.ofNat v))] => match segX H sg with
    | some q => br (Nat.beq q.2.1 4800) (br (inW off 4800) (some (.a (.one (.int .i64 0)), updO H q.1 (some ⟨q.2.2.2, 0, [[.wds (setZ q.2.2.1 (Nat.div off 8) v) q.2.1]]⟩), nx)) none) none
    | none => none
  | _ => none
theorem storeZ_ok : FnEff Tryz.prog storeN storeZ := by
  rw [FnEff.iff]
  intro ads H nx r H' nx' hq
  unfold storeZ at hq
  split at hq
  · rename_i sg off v
    split at hq
    · rename_i q hs
      obtain ⟨o, n, t, e5⟩ := q
      obtain ⟨h1, hq⟩ := br_some hq
      obtain ⟨h2, hq⟩ := br_some hq
      have hq := Option.some.inj hq
      obtain ⟨q1, q2⟩ := Prod.mk.inj hq
      obtain ⟨q2, q3⟩ := Prod.mk.inj q2
      subst q1; subst q2; subst q3
      have hX : storeX [.one (.ptr sg 1 0 0), .one (.int .u64 (.ofNat off)), .one (.int .u64 (.ofNat v))] H nx = some (.a (.one (.int .i64 0)), updO H o (some ⟨e5, 0, [[.wds (t.set (some v) 30 (Nat.div off 8)) n]]⟩), nx) := by
        show (match segX H sg with | some q => _ | none => none) = _
        rw [hs]
        simp only [h1, h2, br]
      refine (FnEff.iff.1 store_ok _ _ _ _ _ _ hX).same fun k => ?_
      by_cases hk : k = o
      · subst hk
        refine .inr ⟨e5, _, _, n, by rw [updO_at, if_pos rfl], by rw [updO_at, if_pos rfl], setZ_same n t _ v ?_⟩
        obtain ⟨_, hlt⟩ := inW_some h2
        show off / 8 < 1000000000
        omega
      · left
        rw [updO_at, updO_at, if_neg hk, if_neg hk]
    · cases hq
  · cases hq
noncomputable def storeZP (ads : List AD) (H : Hp) (nx : Nat) (T : TL) : Option ((RV × Hp × Nat) × TL) := match ads with
  | [.one (.ptr sg 1 0 0), .one (.int .u64 (.ofNat off)), .one (.int .u64 (.ofNat v))] => match segX H sg with
    | some q => match decT (Nat.beq v 0) T with
      | (b, T1) => some ((.a (.one (.int .i64 0)), updO H q.1 (some ⟨q.2.2.2, 0, [[.wds (br b (dropW q.2.2.1 (Nat.div off 8)) (q.2.2.1.set (some v) 30 (Nat.div off 8))) q.2.1]]⟩), nx), T1.need [Nat.beq q.2.1 4800, inW off 4800])
    | none => none
  | _ => none
theorem storeZP_ok : PfOk storeZP storeZ := by
  intro ads H nx T q T' h
  unfold storeZP at h
  split at h
  · rename_i sg off v
    split at h
    · rename_i z hz
      split at h
      rename_i b T1 hd
      simp only [Option.some.injEq, Prod.mk.injEq] at h
      obtain ⟨rfl, rfl⟩ := h
      refine ⟨(decT_le hd).trans (TL.need_le _ _), fun hT => ?_⟩
      have hc := TL.need_ok hT
      have h1 := hc _ List.mem_cons_self
      have h2 := hc _ (List.mem_cons_of_mem _ List.mem_cons_self)
      have hb := decT_ok hd ((TL.need_le _ _).ok hT)
      show (match segX H sg with | some q => _ | none => none) = _
      rw [hz, hb]
      simp only [h1, h2, br, setZ]
    · cases h
  · cases h
noncomputable def bsLz : List (Nat × FnS) := [(newN, .eff newX), (sizeN, .eff sizeX), (loadN, .eff loadX), (storeN, .eff storeZ)]
theorem bsLz_ok : AllBs Tryz.prog bsLz := ⟨⟨new_ok, by kernel_rfl⟩, ⟨size_ok, by kernel_rfl⟩, ⟨load_ok, by kernel_rfl⟩, ⟨storeZ_ok, by kernel_rfl⟩, trivial⟩
noncomputable def Sz : SysP := { sysOf (mkTr ttL) (mkTr ezL) (mkTr fnL) (mkTr bsLz) with pb := pbOf [(loadN, loadP), (storeN, storeZP)] }
theorem Sz_ok : SysOk Sz.toSys Tryz.prog := sysOf_ok mixed ttL_ok (by kernel_rfl) ezL_ok (by kernel_rfl) fnL_ok (by kernel_rfl) bsLz_ok (by kernel_rfl)
theorem Sz_pb : PbOk Sz := ⟨fun f G h => by
  have h := pbOf_mem (l := [(loadN, loadP), (storeN, storeZP)]) h
  simp only [List.mem_cons, List.not_mem_nil, or_false, Prod.mk.injEq] at h
  rcases h with ⟨rfl, rfl⟩ | ⟨rfl, rfl⟩
  · exact ⟨loadX, by kernel_rfl, loadP_ok⟩
  · exact ⟨storeZ, by kernel_rfl, storeZP_ok⟩⟩
noncomputable def subM (a b : Nat) : Nat := Nat.mod (Nat.add a (Nat.sub 18446744073709551616 (Nat.mod b 18446744073709551616))) 18446744073709551616
theorem subM_eq {a b : Nat} (h : b ≤ a) (ha : a < 18446744073709551616) : subM a b = a - b := by
  show (a + (18446744073709551616 - b % 18446744073709551616)) % 18446744073709551616 = a - b
  omega
noncomputable def sumN (n : Nat) : Nat := Nat.mod (Nat.mul (Nat.xor 7161130718081542961 n) 11400714819323198485) 18446744073709551616
theorem SameW.set {n i : Nat} {t t' : Tr Nat} {x : Option Nat} (h : SameW n t t') (hi : i < 1000000000) : SameW n (t.set x 30 i) (t'.set x 30 i) := fun k hk => by
  rw [Tr.get_set _ _ _ _ (by omega), Tr.get_set _ _ _ _ (by omega)]
  split
  · rfl
  · exact h k hk
noncomputable def fmtR (n a b c : Nat) : Tr Nat := ((((((((Tr.leaf : Tr Nat).set (some 7161130718081542961) 30 0).set (some 1) 30 1).set (some n) 30 2).set (some 3776) 30 4).set (some c) 30 5).set (some a) 30 472).set (some a) 30 b)
noncomputable def fmtT (n : Nat) : Tr Nat := ((((((((Tr.leaf : Tr Nat).set (some 7161130718081542961) 30 0).set (some 1) 30 1).set (some n) 30 2).set (some 3776) 30 4).set (some (sumN n)) 30 5).set (some (Nat.sub n 3776)) 30 472).set (some (Nat.sub n 3776)) 30 (Nat.div (Nat.sub n 8) 8))
noncomputable def fitsB (n : Nat) : Bool := br (Nat.beq (Nat.mod n 16) 0) (br (Nat.ble 3824 n) (Nat.ble n 4800) false) false
abbrev formatN : Nat := 9
end Go.Proofs.YtdapdiaklpcmjaaGreat.Pe
namespace Go.Proofs.YtdapdiaklpcmjaaGreat.Pe
open Go
noncomputable def mkS (l : List (Nat × AV)) (H : Hp) (nx : Nat) : St := ⟨mkTr l, H, nx⟩
noncomputable def smallS (l : List (Nat × AV)) : Bool := l.all fun x => Nat.blt x.1 1000000
theorem smallS_dec {l : List (Nat × AV)} (h : smallS l = true) : l.all (fun x => decide (x.1 < 1000000000)) = true := by
  rw [List.all_eq_true]
  intro x hx
  have : x.1 < 1000000 := blt_lt (List.all_eq_true.1 h x hx)
  rw [decide_eq_true_eq]; omega
theorem less_of {l : List (Nat × AV)} {H : Hp} {nx : Nat} {s : St} (hl : smallS l = true) (h1 : ∀ o, H o = s.H o) (h2 : nx = s.nx) (h3 : l.map (fun p => s.t.get p.1) = l.map (fun p => some p.2)) : Less (mkS l H nx) s := by
  refine ⟨h1, h2, fun i hi => ?_⟩
  rw [St.env_ne _ hi, St.env_ne _ hi]
  cases hg : (mkTr l).get i with
  | none => right; show ((mkTr l).get i).getD .junk = _; rw [hg]; rfl
  | some a =>
    left
    show ((mkTr l).get i).getD .junk = _
    have hm := mkTr_get l (smallS_dec hl) i a hg
    obtain ⟨j, hj, e⟩ := List.getElem_of_mem hm
    have := congrArg (fun m => m[j]?) h3
    simp only [List.getElem?_map, List.getElem?_eq_getElem hj, Option.map_some, e, Option.some.injEq] at this
    rw [hg, this]
noncomputable def outC (l : List Nat) (x : Option ((Ex × St) × TL)) : Option (Ex × List (Option AV) × Hp × Nat × Bool × List (AV × AV)) := x.bind fun x => some (x.1.1, l.map (fun i => x.1.2.t.get i), x.1.2.H, x.1.2.nx, allB x.2.cs, x.2.eqs)
theorem outC_code {P : Program} {S : SysP} (hS : SysOk S.toSys P) (hP : PbOk S) {k nt : Nat} {ro : Option Nat} {c : Code} {s : St} {T : TL} {ex : Ex} {l : List (Nat × AV)} {H : Hp} {nx : Nat} {b : Bool}
    (h : outC (l.map fun p => p.1) ((evt S k).code nt ro c s T) = some (ex, l.map (fun p => some p.2), H, nx, b, [])) (hb : b = true) (hl : smallS l = true) : CodeR P nt ro c s ex (mkS l H nx) := by
  unfold outC at h
  cases hx : (evt S k).code nt ro c s T with
  | none => rw [hx] at h; cases h
  | some x =>
    obtain ⟨⟨ex', s'⟩, T'⟩ := x
    rw [hx] at h
    have h : some (ex', (l.map fun p => p.1).map (fun i => s'.t.get i), s'.H, s'.nx, allB T'.cs, T'.eqs) = some (ex, l.map (fun p => some p.2), H, nx, b, []) := h
    simp only [Option.some.injEq, Prod.mk.injEq] at h
    obtain ⟨rfl, h1, h2, h3, h4, h5⟩ := h
    refine (CodeR.evt hS hP hx ⟨allB_all (h4.trans hb), fun p hp => by rw [h5] at hp; cases hp⟩).post (less_of hl (fun o => by rw [h2]) h3.symm ?_)
    rw [← h1, List.map_map]
    rfl
theorem outC_run {P : Program} {S : SysP} (hS : SysOk S.toSys P) (hP : PbOk S) {k nt : Nat} {ro : Option Nat} {c : Code} {s0 s : St} {T : TL} {ex : Ex} {l : List (Nat × AV)} {H : Hp} {nx : Nat} {b : Bool}
    (h : outC (l.map fun p => p.1) ((evt S k).code nt ro c s0 T) = some (ex, l.map (fun p => some p.2), H, nx, b, [])) (hb : b = true) (hl : smallS l = true) (hs : Less s0 s) : CodeR P nt ro c s ex (mkS l H nx) := (outC_code hS hP h hb hl).pre hs
noncomputable def cA (c : Code) : Code := match c with
  | .seq a _ => a
  | .block _ b => b
  | .loop b => b
  | .cond _ a _ => a
  | c => c
noncomputable def cB (c : Code) : Code := match c with
  | .seq _ b => b
  | .cond _ _ b => b
  | c => c
noncomputable def isSeq (c : Code) : Bool := match c with
  | .seq _ _ => true
  | _ => false
theorem Code.seq_eq {c : Code} (h : isSeq c = true) : c = .seq (cA c) (cB c) := by
  cases c <;> first | rfl | cases h
noncomputable def bodyOf (f : Func) : Code := f.body.getD .skip
end Go.Proofs.YtdapdiaklpcmjaaGreat.Pe
namespace Go.Proofs.YtdapdiaklpcmjaaGreat.Pe
open Go
set_option maxRecDepth 100000
noncomputable def fB : Code := bodyOf Tryz.f9
noncomputable def f0 : Code := cA fB
noncomputable def f1 : Code := cA (cB fB)
noncomputable def f2 : Code := cA (cA (cB (cB fB)))
noncomputable def f3 : Code := cB (cA (cB (cB fB)))
noncomputable def f4 : Code := cB (cB (cB fB))
noncomputable def fL : Code := cA (cA f3)
theorem fB_eq : fB = .seq f0 (.seq f1 (.seq (.seq f2 f3) f4)) := by kernel_rfl
theorem f3_eq : f3 = .block 1 (.loop fL) := by kernel_rfl
noncomputable def HF (e1 e5 : Option Nat) (t : Tr Nat) : Hp := .tr (.node (some ⟨e5, 0, [[.wds t 4800]]⟩) (.node (some ⟨e1, 1, [[.ref 0 1 0 4800]]⟩) .leaf .leaf) (.node (some ⟨none, 1, [[.ptr 1 1 0 0]]⟩) .leaf .leaf))
noncomputable def lA (n : Nat) : List (Nat × AV) := [(1, .v (.one (.int .u64 (.ofNat n)))), (2, .v (.one (.ptr 2 1 0 0))), (4, .v (.one (.int .i64 0)))]
noncomputable def lC (n off : Nat) : List (Nat × AV) := [(1, .v (.one (.int .u64 (.ofNat n)))), (2, .v (.one (.ptr 2 1 0 0))), (4, .v (.one (.int .i64 0))), (5, .v (.one (.int .u64 (.ofNat off))))]
noncomputable def fmtS (t : Tr Nat) (n a b c : Nat) : Tr Nat := (((((((t.set (some 7161130718081542961) 30 0).set (some 1) 30 1).set (some n) 30 2).set (some 3776) 30 4).set (some c) 30 5).set (some a) 30 472).set (some a) 30 b)
section
variable (e1 e5 : Option Nat) (n : Nat) (t : Tr Nat) (off : Nat)
theorem fr0 : outC ((lA n).map fun p => p.1) ((evt S2 40).code 49 none f0 ⟨startS [.one (.ptr 1 1 0 0), .one (.int .u64 (.ofNat n))] 0 .leaf, segW e1 e5 t 4800, 2⟩ ⟨0, [], [], [], []⟩) = some (.normal, (lA n).map (fun p => some p.2), HF e1 e5 t, 3, true, []) := by kernel_rfl
theorem fr1 : outC ((lA n).map fun p => p.1) ((evt S2 40).code 49 none f1 (mkS (lA n) (HF e1 e5 t) 3) ⟨0, [(1, true), (2, true), (3, true)], [], [], []⟩) = some (.normal, (lA n).map (fun p => some p.2), HF e1 e5 t, 3, br (Nat.ble n 4800) (br (Nat.ble 3824 n) (br (Nat.beq (Nat.mod n 16) 0) true false) false) false, []) := by kernel_rfl
theorem fr2 : outC ((lC n 0).map fun p => p.1) ((evt S2 40).code 49 none f2 (mkS (lA n) (HF e1 e5 t) 3) ⟨0, [], [], [], []⟩) = some (.normal, (lC n 0).map (fun p => some p.2), HF e1 e5 t, 3, true, []) := by kernel_rfl
theorem frL : outC ((lC n off).map fun p => p.1) ((evt S2 40).code 49 none fL (mkS (lC n off) (HF e1 e5 t) 3) ⟨0, [(0, true)], [], [], []⟩) = some (.normal, (lC n (Nat.add off 8)).map (fun p => some p.2), HF e1 e5 (t.set (some 0) 30 (Nat.div off 8)), 3, br (Nat.blt (Nat.add off 8) 18446744073709551616) (br (inW off 4800) (br (Nat.blt off 4800) true false) false) false, []) := by kernel_rfl
theorem frX : outC ((lC n off).map fun p => p.1) ((evt S2 40).code 49 none fL (mkS (lC n off) (HF e1 e5 t) 3) ⟨0, [(0, false)], [], [], []⟩) = some (.exit 1, (lC n off).map (fun p => some p.2), HF e1 e5 t, 3, br (not (Nat.blt off 4800)) true false, []) := by kernel_rfl
theorem fr4 : outC [4] ((evt S2 60).code 49 none f4 (mkS (lC n 4800) (HF e1 e5 t) 3) ⟨0, [], [], [], []⟩) = some (.ret, [some (.v (.one (.int .i64 0)))], HF e1 e5 (fmtS t n (Nat.sub n 3776) (Nat.div (Nat.sub n 8) 8) (sumN n)), 3, br (inW (Nat.sub n 8) 4800) (br (Nat.ble 3776 n) (br (Nat.blt n 18446744073709551616) (br (Nat.ble 8 n) (br (Nat.blt n 18446744073709551616) (br (Nat.ble 3776 n) (br (Nat.blt n 18446744073709551616) (br (Nat.blt n 18446744073709551616) true false) false) false) false) false) false) false) false, []) := by kernel_rfl
end
noncomputable def zs : Nat → Tr Nat → Tr Nat
  | 0, t => t
  | k + 1, t => (zs k t).set (some 0) 30 k
theorem zs_get : ∀ (m : Nat) (t : Tr Nat) (k : Nat), m ≤ 1000000 → ((zs m t).get k).getD 0 = if k < m then 0 else (t.get k).getD 0
  | 0, t, k, _ => by rw [if_neg (by omega)]; rfl
  | m + 1, t, k, h => by
    unfold zs
    rw [Tr.get_set _ _ _ _ (by omega)]
    by_cases e : k = m
    · rw [if_pos e, if_pos (by omega)]; rfl
    · rw [if_neg e, zs_get m t k (by omega)]
      by_cases h2 : k < m
      · rw [if_pos h2, if_pos (by omega)]
      · rw [if_neg h2, if_neg (by omega)]
theorem inW_8 {k n : Nat} (h : 8 * k < n) : inW (8 * k) n = true := by
  unfold inW
  have a1 : Nat.mod (8 * k) 8 = 0 := by show (8 * k) % 8 = 0; omega
  have a2 : Nat.blt (8 * k) n = true := Nat.ble_eq_true_of_le (by omega)
  rw [a1, a2]; rfl
theorem f_loop (e1 e5 : Option Nat) (n : Nat) (t : Tr Nat) : ∀ (m k : Nat), k + m = 600 → LoopR Tryz.prog 49 none fL m (mkS (lC n (8 * k)) (HF e1 e5 (zs k t)) 3) (.exit 1) (mkS (lC n 4800) (HF e1 e5 (zs 600 t)) 3)
  | 0, k, h => by
    have hk : k = 600 := by omega
    subst hk
    exact .last _ _ _ (outC_code (l := lC n 4800) S2_ok S2_pb (frX e1 e5 n (zs 600 t) 4800) rfl rfl) (by simp)
  | m + 1, k, h => by
    refine .step _ _ (mkS (lC n (8 * (k + 1))) (HF e1 e5 (zs (k + 1) t)) 3) _ _ ?_ (f_loop e1 e5 n t m (k + 1) (by omega))
    have key := outC_code (l := lC n (Nat.add (8 * k) 8)) S2_ok S2_pb (frL e1 e5 n (zs k t) (8 * k)) (by
      have a2 : Nat.blt (8 * k) 4800 = true := Nat.ble_eq_true_of_le (by omega)
      have a3 : Nat.blt (Nat.add (8 * k) 8) 18446744073709551616 = true := Nat.ble_eq_true_of_le (show 8 * k + 8 + 1 ≤ 18446744073709551616 by omega)
      rw [inW_8 (by omega), a2, a3]; rfl) rfl
    have e : Nat.add (8 * k) 8 = 8 * (k + 1) := by show 8 * k + 8 = _; omega
    have e2 : Nat.div (8 * k) 8 = k := by show 8 * k / 8 = k; omega
    rw [e, e2] at key
    exact key
theorem br2 {a b : Bool} (h : br a b false = true) : a = true ∧ b = true := by cases a <;> cases b <;> first | exact ⟨rfl, rfl⟩ | cases h
theorem fits_some {n : Nat} (h : fitsB n = true) : n % 16 = 0 ∧ 3824 ≤ n ∧ n ≤ 4800 := by
  obtain ⟨c1, h⟩ := br2 h
  obtain ⟨c2, c3⟩ := br2 h
  exact ⟨Nat.eq_of_beq_eq_true c1, Nat.le_of_ble_eq_true c2, Nat.le_of_ble_eq_true c3⟩
theorem f_yes (e1 e5 : Option Nat) (n : Nat) (t : Tr Nat) (hfit : fitsB n = true) : RunAt Tryz.prog formatN [.one (.ptr 1 1 0 0), .one (.int .u64 (.ofNat n))] (segW e1 e5 t 4800) 2 (.a (.one (.int .i64 0))) (HF e1 e5 (fmtS (zs 600 t) n (n - 3776) ((n - 8) / 8) (sumN n))) 3 := by
  obtain ⟨d1, d2, d3⟩ := fits_some hfit
  obtain ⟨c1, h⟩ := br2 hfit
  obtain ⟨c2, c3⟩ := br2 h
  have c4 : Nat.blt n 18446744073709551616 = true := Nat.ble_eq_true_of_le (by omega)
  have c5 : inW (Nat.sub n 8) 4800 = true := by
    rw [show Nat.sub n 8 = 8 * ((n - 8) / 8) by show n - 8 = _; omega]
    exact inW_8 (by omega)
  have c6 : Nat.ble 3776 n = true := Nat.ble_eq_true_of_le (by omega)
  have c7 : Nat.ble 8 n = true := Nat.ble_eq_true_of_le (by omega)
  have k0 := outC_code (l := lA n) S2_ok S2_pb (fr0 e1 e5 n t) rfl rfl
  have k1 := outC_code (l := lA n) S2_ok S2_pb (fr1 e1 e5 n t) (by rw [c1, c2, c3]; rfl) rfl
  have k2 := outC_code (l := lC n 0) S2_ok S2_pb (fr2 e1 e5 n t) rfl rfl
  have k3 : CodeR Tryz.prog 49 none f3 (mkS (lC n 0) (HF e1 e5 t) 3) .normal (mkS (lC n 4800) (HF e1 e5 (zs 600 t)) 3) := by
    rw [f3_eq]
    exact (f_loop e1 e5 n t 600 0 rfl).code.block (id := 1)
  have k4 := outC_code (l := [(4, .v (.one (.int .i64 0)))]) S2_ok S2_pb (fr4 e1 e5 n (zs 600 t)) (by rw [c4, c5, c6, c7]; rfl) rfl
  have hB := k0.seq (k1.seq ((k2.seq k3).seq k4))
  rw [← fB_eq] at hB
  exact fn_run (S := S1) S1_ok (f := formatN) (fd := fdOf Tryz.f9) (ads := [.one (.ptr 1 1 0 0), .one (.int .u64 (.ofNat n))]) (H := segW e1 e5 t 4800) (nx := 2) (by kernel_rfl) ⟨Nat.le_of_ble_eq_true (by kernel_rfl), Nat.le_of_ble_eq_true (by kernel_rfl)⟩ hB (.inr rfl) (by kernel_rfl)
end Go.Proofs.YtdapdiaklpcmjaaGreat.Pe
