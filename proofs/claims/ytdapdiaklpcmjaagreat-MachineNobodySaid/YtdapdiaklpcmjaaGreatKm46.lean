/- A part of the proof of KzA. -/
import Derived.Test.YtdapdiaklpcmjaaGreatKm33
import Derived.Test.YtdapdiaklpcmjaaGreatKm35
import Derived.Test.YtdapdiaklpcmjaaGreatKm36
import Derived.Test.YtdapdiaklpcmjaaGreatKm37
import Derived.Test.YtdapdiaklpcmjaaGreatKm38
import Derived.Test.YtdapdiaklpcmjaaGreatKm39
import Derived.Test.YtdapdiaklpcmjaaGreatKm40
import Derived.Test.YtdapdiaklpcmjaaGreatKm41
import Derived.Test.YtdapdiaklpcmjaaGreatKm42
import Derived.Test.YtdapdiaklpcmjaaGreatKm43
import Derived.Test.YtdapdiaklpcmjaaGreatKm44
import Derived.Test.YtdapdiaklpcmjaaGreatKm45
set_option linter.unusedSimpArgs false
set_option linter.unusedVariables false
set_option linter.unusedSectionVars false
namespace Go.Proofs.YtdapdiaklpcmjaaGreat.Pe
open Go
set_option maxRecDepth 100000
theorem load_all {k : Nat} (h : k < 600) : LoadAt k := by
  rcases Nat.lt_or_ge k 300 with h0_600 | h0_600
  · rcases Nat.lt_or_ge k 150 with h0_300 | h0_300
    · rcases Nat.lt_or_ge k 75 with h0_150 | h0_150
      · rcases Nat.lt_or_ge k 25 with h0_75 | h0_75
        · exact Kl0.at_ (by omega) (by omega)
        · rcases Nat.lt_or_ge k 50 with h25_75 | h25_75
          · exact Kl25.at_ (by omega) (by omega)
          · exact Kl50.at_ (by omega) (by omega)
      · rcases Nat.lt_or_ge k 100 with h75_150 | h75_150
        · exact Kl75.at_ (by omega) (by omega)
        · rcases Nat.lt_or_ge k 125 with h100_150 | h100_150
          · exact Kl100.at_ (by omega) (by omega)
          · exact Kl125.at_ (by omega) (by omega)
    · rcases Nat.lt_or_ge k 225 with h150_300 | h150_300
      · rcases Nat.lt_or_ge k 175 with h150_225 | h150_225
        · exact Kl150.at_ (by omega) (by omega)
        · rcases Nat.lt_or_ge k 200 with h175_225 | h175_225
          · exact Kl175.at_ (by omega) (by omega)
          · exact Kl200.at_ (by omega) (by omega)
      · rcases Nat.lt_or_ge k 250 with h225_300 | h225_300
        · exact Kl225.at_ (by omega) (by omega)
        · rcases Nat.lt_or_ge k 275 with h250_300 | h250_300
          · exact Kl250.at_ (by omega) (by omega)
          · exact Kl275.at_ (by omega) (by omega)
  · rcases Nat.lt_or_ge k 450 with h300_600 | h300_600
    · rcases Nat.lt_or_ge k 375 with h300_450 | h300_450
      · rcases Nat.lt_or_ge k 325 with h300_375 | h300_375
        · exact Kl300.at_ (by omega) (by omega)
        · rcases Nat.lt_or_ge k 350 with h325_375 | h325_375
          · exact Kl325.at_ (by omega) (by omega)
          · exact Kl350.at_ (by omega) (by omega)
      · rcases Nat.lt_or_ge k 400 with h375_450 | h375_450
        · exact Kl375.at_ (by omega) (by omega)
        · rcases Nat.lt_or_ge k 425 with h400_450 | h400_450
          · exact Kl400.at_ (by omega) (by omega)
          · exact Kl425.at_ (by omega) (by omega)
    · rcases Nat.lt_or_ge k 525 with h450_600 | h450_600
      · rcases Nat.lt_or_ge k 475 with h450_525 | h450_525
        · exact Kl450.at_ (by omega) (by omega)
        · rcases Nat.lt_or_ge k 500 with h475_525 | h475_525
          · exact Kl475.at_ (by omega) (by omega)
          · exact Kl500.at_ (by omega) (by omega)
      · rcases Nat.lt_or_ge k 550 with h525_600 | h525_600
        · exact Kl525.at_ (by omega) (by omega)
        · rcases Nat.lt_or_ge k 575 with h550_600 | h550_600
          · exact Kl550.at_ (by omega) (by omega)
          · exact Kl575.at_ (by omega) (by omega)
theorem store_all {k : Nat} (h : k < 600) : StoreAt k := by
  rcases Nat.lt_or_ge k 300 with h0_600 | h0_600
  · rcases Nat.lt_or_ge k 150 with h0_300 | h0_300
    · rcases Nat.lt_or_ge k 75 with h0_150 | h0_150
      · rcases Nat.lt_or_ge k 25 with h0_75 | h0_75
        · exact Ks0.at_ (by omega) (by omega)
        · rcases Nat.lt_or_ge k 50 with h25_75 | h25_75
          · exact Ks25.at_ (by omega) (by omega)
          · exact Ks50.at_ (by omega) (by omega)
      · rcases Nat.lt_or_ge k 100 with h75_150 | h75_150
        · exact Ks75.at_ (by omega) (by omega)
        · rcases Nat.lt_or_ge k 125 with h100_150 | h100_150
          · exact Ks100.at_ (by omega) (by omega)
          · exact Ks125.at_ (by omega) (by omega)
    · rcases Nat.lt_or_ge k 225 with h150_300 | h150_300
      · rcases Nat.lt_or_ge k 175 with h150_225 | h150_225
        · exact Ks150.at_ (by omega) (by omega)
        · rcases Nat.lt_or_ge k 200 with h175_225 | h175_225
          · exact Ks175.at_ (by omega) (by omega)
          · exact Ks200.at_ (by omega) (by omega)
      · rcases Nat.lt_or_ge k 250 with h225_300 | h225_300
        · exact Ks225.at_ (by omega) (by omega)
        · rcases Nat.lt_or_ge k 275 with h250_300 | h250_300
          · exact Ks250.at_ (by omega) (by omega)
          · exact Ks275.at_ (by omega) (by omega)
  · rcases Nat.lt_or_ge k 450 with h300_600 | h300_600
    · rcases Nat.lt_or_ge k 375 with h300_450 | h300_450
      · rcases Nat.lt_or_ge k 325 with h300_375 | h300_375
        · exact Ks300.at_ (by omega) (by omega)
        · rcases Nat.lt_or_ge k 350 with h325_375 | h325_375
          · exact Ks325.at_ (by omega) (by omega)
          · exact Ks350.at_ (by omega) (by omega)
      · rcases Nat.lt_or_ge k 400 with h375_450 | h375_450
        · exact Ks375.at_ (by omega) (by omega)
        · rcases Nat.lt_or_ge k 425 with h400_450 | h400_450
          · exact Ks400.at_ (by omega) (by omega)
          · exact Ks425.at_ (by omega) (by omega)
    · rcases Nat.lt_or_ge k 525 with h450_600 | h450_600
      · rcases Nat.lt_or_ge k 475 with h450_525 | h450_525
        · exact Ks450.at_ (by omega) (by omega)
        · rcases Nat.lt_or_ge k 500 with h475_525 | h475_525
          · exact Ks475.at_ (by omega) (by omega)
          · exact Ks500.at_ (by omega) (by omega)
      · rcases Nat.lt_or_ge k 550 with h525_600 | h525_600
        · exact Ks525.at_ (by omega) (by omega)
        · rcases Nat.lt_or_ge k 575 with h550_600 | h550_600
          · exact Ks550.at_ (by omega) (by omega)
          · exact Ks575.at_ (by omega) (by omega)
noncomputable def segX (H : Hp) (sg : Nat) : Option (Nat × Nat × Tr Nat × Option Nat) := match H sg with
  | some ⟨_, 1, [[.ref o 1 0 n]]⟩ => match H o with
    | some ⟨e, 0, [[.wds t m]]⟩ => br (Nat.beq n m) (some (o, n, t, e)) none
    | _ => none
  | _ => none
theorem segX_some {H : Hp} {sg o n : Nat} {t : Tr Nat} {e : Option Nat} (h : segX H sg = some (o, n, t, e)) : (∃ e1, H sg = some ⟨e1, 1, [[.ref o 1 0 n]]⟩) ∧ H o = some ⟨e, 0, [[.wds t n]]⟩ := by
  unfold segX at h
  split at h
  · rename_i e1 o' n' hsg
    split at h
    · rename_i e' t' m ho
      obtain ⟨h1, h2⟩ := br_some h
      have := Nat.eq_of_beq_eq_true h1
      subst this
      simp only [Option.some.injEq, Prod.mk.injEq] at h2
      obtain ⟨rfl, rfl, rfl, rfl⟩ := h2
      exact ⟨⟨e1, hsg⟩, ho⟩
    · cases h
  · cases h
noncomputable def wordX (t : Tr Nat) (k : Nat) : Nat := Option.rec (motive := fun _ => Nat) 0 (fun v => v) (t.get k)
theorem wordX_eq (t : Tr Nat) (k : Nat) : wordX t k = (t.get k).getD 0 := by unfold wordX; cases t.get k <;> rfl
noncomputable def loadX (ads : List AD) (H : Hp) (nx : Nat) : Option (RV × Hp × Nat) := match ads with
  | [.one (.ptr sg 1 0 0), .one (.int .u64 (.ofNat off))] => match segX H sg with
    | some q => br (Nat.beq q.2.1 4800) (br (inW off 4800) (br (Nat.blt (wordX q.2.2.1 (Nat.div off 8)) 18446744073709551616) (some (.tup [.one (.int .u64 (.ofNat (wordX q.2.2.1 (Nat.div off 8)))), .one (.int .i64 0)], H, nx)) none) none) none
    | none => none
  | _ => none
noncomputable def storeX (ads : List AD) (H : Hp) (nx : Nat) : Option (RV × Hp × Nat) := match ads with
  | [.one (.ptr sg 1 0 0), .one (.int .u64 (.ofNat off)), .one (.int .u64 (.ofNat v))] => match segX H sg with
    | some q => br (Nat.beq q.2.1 4800) (br (inW off 4800) (some (.a (.one (.int .i64 0)), updO H q.1 (some ⟨q.2.2.2, 0, [[.wds (q.2.2.1.set (some v) 30 (Nat.div off 8)) q.2.1]]⟩), nx)) none) none
    | none => none
  | _ => none
theorem inW_some {off n : Nat} (h : inW off n = true) : off % 8 = 0 ∧ off < n := by
  unfold inW at h
  have h : Nat.beq (Nat.mod off 8) 0 = true ∧ Nat.blt off n = true := by simpa using h
  exact ⟨Nat.eq_of_beq_eq_true h.1, Nat.le_of_ble_eq_true h.2⟩
theorem out_some {x : Option (RV × Hp × Nat)} {r : RV} {a b : Option PObj} {m : Nat} (h : out x = some (r, a, b, m)) : ∃ K, x = some (r, K, m) ∧ K 0 = a ∧ K 1 = b := by
  unfold out at h
  cases x with
  | none => cases h
  | some x =>
    obtain ⟨r', K, m'⟩ := x
    have h : some (r', K 0, K 1, m') = some (r, a, b, m) := h
    simp only [Option.some.injEq, Prod.mk.injEq] at h
    obtain ⟨rfl, h1, h2, rfl⟩ := h
    exact ⟨K, rfl, h1, h2⟩
abbrev loadN : Nat := 83
abbrev storeN : Nat := 20
theorem S0_ok : SysOk S0 Tryz.prog := sysOf_ok (bs := []) mixed ttL_ok (by kernel_rfl) ezL_ok (by kernel_rfl) fnL_ok (by kernel_rfl) trivial rfl
theorem HeapOk.cong {w : World} {ι : Nat → Option Nat} {M : Nat → Prop} {H H' : Hp} {nx : Nat} (h : HeapOk w ι M H nx) (e : ∀ k, H' k = H k) : HeapOk w ι M H' nx :=
  ⟨h.new, fun o ob ho => h.objs o ob (by rw [← e]; exact ho), fun o o' x x' b ho ho' => h.inj o o' x x' b (by rw [← e]; exact ho) (by rw [← e]; exact ho'), fun o x b ho => h.ctl o x b (by rw [← e]; exact ho)⟩
theorem load_ok : FnEff Tryz.prog loadN loadX := by
  intro ads H nx r H' nx' hq w ι M vals hM hok hsz hargs
  unfold loadX at hq
  split at hq
  · rename_i sg off
    split at hq
    · rename_i q hs
      obtain ⟨o, n, t, e5⟩ := q
      obtain ⟨h1, hq⟩ := br_some hq
      obtain ⟨h2, hq⟩ := br_some hq
      obtain ⟨h3, hq⟩ := br_some hq
      have h1 : n = 4800 := Nat.eq_of_beq_eq_true h1
      subst h1
      obtain ⟨ha, hb⟩ := inW_some h2
      have h3 : wordX t (off / 8) < 18446744073709551616 := Nat.le_of_ble_eq_true h3
      simp only [Option.some.injEq, Prod.mk.injEq] at hq
      obtain ⟨rfl, rfl, rfl⟩ := hq
      obtain ⟨⟨e1, hsg⟩, ho⟩ := segX_some hs
      obtain ⟨k, rfl⟩ : ∃ k, off = 8 * k := ⟨off / 8, by omega⟩
      have ek : 8 * k / 8 = k := by omega
      have hk6 : k < 600 := by omega
      have hk8 : 8 * k + 8 ≤ 4800 := by omega
      have h9 : 4800 ≤ 1000000000 := Nat.le_of_ble_eq_true rfl
      rw [ek] at h3
      obtain ⟨K, hrun, hK0, hK1⟩ := out_some (load_all hk6 e1 e5 (bOf t 4800))
      rw [wordX_eq] at h3
      rw [wordL_words t h9 hk8 h3] at hrun
      have hF : FnEff Tryz.prog loadN ((evs S0 200).fn loadN) := (evs_ok S0_ok 200).fn loadN (by kernel_rfl)
      have hrows := bOf_rows t h9
      refine (seg_frame hF hrows hrows hsg ho hrun hK1 hK0 rfl (fun x hx => by rcases List.mem_singleton.1 hx with rfl; rfl) hM hok hsz hargs).mono fun e w' hp => ?_
      obtain ⟨v, ι', M', he, hr, hk, hi, hev, hkept, hback, hlt⟩ := hp
      have same : ∀ j, H j = updO H o (some ⟨e5, 0, [[.wds t 4800]]⟩) j := fun j => by
        rw [updO_at]; split
        · rename_i e; subst e; exact ho
        · rfl
      refine ⟨v, ι', M', he, ?_, hk.cong same, hi, ⟨hev.os, hev.tape, hev.output, hev.size, hev.same, fun b hb ⟨j, x, h1, h2⟩ => hev.back b hb ⟨j, x, by rw [← same]; exact h1, h2⟩, hev.keep, hev.shape⟩, hkept, hback, hlt⟩
      have ev : wordX t (Nat.div (8 * k) 8) = (t.get k).getD 0 := by
        rw [wordX_eq]
        show (t.get (8 * k / 8)).getD 0 = _
        rw [ek]
      show RdV w' ι' M' v (.tup [.one (.int .u64 (.ofNat (wordX t (Nat.div (8 * k) 8)))), .one (.int .i64 0)])
      rw [ev]
      exact hr
    · cases hq
  · cases hq
theorem store_ok : FnEff Tryz.prog storeN storeX := by
  intro ads H nx r H' nx' hq w ι M vals hM hok hsz hargs
  unfold storeX at hq
  split at hq
  · rename_i sg off v
    split at hq
    · rename_i q hs
      obtain ⟨o, n, t, e5⟩ := q
      obtain ⟨h1, hq⟩ := br_some hq
      obtain ⟨h2, hq⟩ := br_some hq
      have h1 : n = 4800 := Nat.eq_of_beq_eq_true h1
      subst h1
      obtain ⟨ha, hb⟩ := inW_some h2
      simp only [Option.some.injEq, Prod.mk.injEq] at hq
      obtain ⟨rfl, rfl, rfl⟩ := hq
      obtain ⟨⟨e1, hsg⟩, ho⟩ := segX_some hs
      obtain ⟨k, rfl⟩ : ∃ k, off = 8 * k := ⟨off / 8, by omega⟩
      have ek : Nat.div (8 * k) 8 = k := by show 8 * k / 8 = k; omega
      have hk6 : k < 600 := by omega
      have hk8 : 8 * k + 8 ≤ 4800 := by omega
      have h9 : 4800 ≤ 1000000000 := Nat.le_of_ble_eq_true rfl
      obtain ⟨K, hrun, hK0, hK1⟩ := out_some (store_all hk6 e1 e5 (bOf t 4800) v)
      have hF : FnEff Tryz.prog storeN ((evs S0 200).fn storeN) := (evs_ok S0_ok 200).fn storeN (by kernel_rfl)
      have := seg_frame hF (bOf_rows t h9) (bytesSet_rows t (v := v) h9 hk8) hsg ho hrun hK1 hK0 rfl (fun x hx => by
        rcases List.mem_cons.1 hx with rfl | hx
        · rfl
        · rcases List.mem_singleton.1 hx with rfl; rfl) hM hok hsz hargs
      rw [ek]
      exact this
    · cases hq
  · cases hq
abbrev sizeN : Nat := 36
theorem size_at (e1 e5 : Option Nat) (bt : Tr Nat) : out ((evs S0 200).fn sizeN [.one (.ptr 1 1 0 0)] (seg0 e1 e5 bt 4800) 2) = some (.a (.one (.int .u64 4800)), some ⟨e5, 0, [[.bts bt 4800]]⟩, some ⟨e1, 1, [[.ref 0 1 0 4800]]⟩, 2) := by kernel_rfl
noncomputable def sizeX (ads : List AD) (H : Hp) (nx : Nat) : Option (RV × Hp × Nat) := match ads with
  | [.one (.ptr sg 1 0 0)] => match segX H sg with
    | some q => br (Nat.beq q.2.1 4800) (some (.a (.one (.int .u64 4800)), H, nx)) none
    | none => none
  | _ => none
theorem size_ok : FnEff Tryz.prog sizeN sizeX := by
  intro ads H nx r H' nx' hq w ι M vals hM hok hsz hargs
  unfold sizeX at hq
  split at hq
  · rename_i sg
    split at hq
    · rename_i q hs
      obtain ⟨o, n, t, e5⟩ := q
      obtain ⟨h1, hq⟩ := br_some hq
      have h1 : n = 4800 := Nat.eq_of_beq_eq_true h1
      subst h1
      simp only [Option.some.injEq, Prod.mk.injEq] at hq
      obtain ⟨rfl, rfl, rfl⟩ := hq
      obtain ⟨⟨e1, hsg⟩, ho⟩ := segX_some hs
      have h9 : 4800 ≤ 1000000000 := Nat.le_of_ble_eq_true rfl
      obtain ⟨K, hrun, hK0, hK1⟩ := out_some (size_at e1 e5 (bOf t 4800))
      have hF : FnEff Tryz.prog sizeN ((evs S0 200).fn sizeN) := (evs_ok S0_ok 200).fn sizeN (by kernel_rfl)
      have hrows := bOf_rows t h9
      refine (seg_frame hF hrows hrows hsg ho hrun hK1 hK0 rfl (fun x hx => by cases hx) hM hok hsz hargs).mono fun e w' hp => ?_
      obtain ⟨v, ι', M', he, hr, hk, hi, hev, hkept, hback, hlt⟩ := hp
      have same : ∀ j, H j = updO H o (some ⟨e5, 0, [[.wds t 4800]]⟩) j := fun j => by
        rw [updO_at]; split
        · rename_i e; subst e; exact ho
        · rfl
      exact ⟨v, ι', M', he, hr, hk.cong same, hi, ⟨hev.os, hev.tape, hev.output, hev.size, hev.same, fun b hb ⟨j, x, h1, h2⟩ => hev.back b hb ⟨j, x, by rw [← same]; exact h1, h2⟩, hev.keep, hev.shape⟩, hkept, hback, hlt⟩
    · cases hq
  · cases hq
abbrev newN : Nat := 8
theorem new_at : ∃ K, (evs S0 200).fn newN [.one (.int .u64 4800)] (.tr .leaf) 0 = some (.a (.one (.ptr 1 1 0 0)), K, 2) ∧ K 1 = some ⟨none, 1, [[.ref 0 1 0 4800]]⟩ ∧ K 0 = some ⟨some 5, 1, List.replicate 4800 [.int .u8 0]⟩ := by
  have h : out ((evs S0 200).fn newN [.one (.int .u64 4800)] (.tr .leaf) 0) = some (.a (.one (.ptr 1 1 0 0)), some ⟨some 5, 1, List.replicate 4800 [.int .u8 0]⟩, some ⟨none, 1, [[.ref 0 1 0 4800]]⟩, 2) := by kernel_rfl
  obtain ⟨K, h1, h2, h3⟩ := out_some h
  exact ⟨K, h1, h3, h2⟩
theorem zero_wds (n : Nat) : wdsRows .leaf n = List.replicate n [.int .u8 0] := by
  unfold wdsRows
  apply List.eq_replicate_iff.2
  refine ⟨by simp, fun r hr => ?_⟩
  obtain ⟨i, _, rfl⟩ := List.mem_map.1 hr
  show [byteOf .leaf i] = _
  unfold byteOf
  rw [Tr.get_leaf]
  simp
noncomputable def newX (ads : List AD) (H : Hp) (nx : Nat) : Option (RV × Hp × Nat) := match ads with
  | [.one (.int .u64 (.ofNat n))] => br (Nat.beq n 4800) (some (.a (.one (.ptr (nx + 1) 1 0 0)), updO (updO H nx (some ⟨some 5, 0, [[.wds .leaf 4800]]⟩)) (nx + 1) (some ⟨none, 1, [[.ref nx 1 0 4800]]⟩), nx + 2)) none
  | _ => none
theorem new_ok : FnEff Tryz.prog newN newX := by
  intro ads H nx r H' nx' hq w ι M vals hM hok hsz hargs
  unfold newX at hq
  split at hq
  · rename_i n
    obtain ⟨h1, hq⟩ := br_some hq
    have h1 : n = 4800 := Nat.eq_of_beq_eq_true h1
    subst h1
    have hq := Option.some.inj hq
    obtain ⟨q1, q2⟩ := Prod.mk.inj hq
    obtain ⟨q2, q3⟩ := Prod.mk.inj q2
    subst q1; subst q2; subst q3
    obtain ⟨K, hrun, hK1, hK0⟩ := new_at
    have hF : FnEff Tryz.prog newN ((evs S0 200).fn newN) := (evs_ok S0_ok 200).fn newN (by kernel_rfl)
    have ok0 : HeapOk w (fun _ => none) M (.tr .leaf) 0 := ⟨fun o => by simp, fun o ob h => (by cases h), fun o o' x x' b h => (by cases h), fun o x b h => (by cases h)⟩
    refine (hF _ _ _ _ _ _ hrun w (fun _ => none) M vals hM ok0 hsz fun j v a hv ha => ?_).mono fun e w' hp => ?_
    · have := hargs j v a hv ha
      cases j with
      | zero => injection ha with ha; subst ha; exact this.flat rfl
      | succ j => simp at ha
    obtain ⟨v, ι', M', he, hr, hk, _, hev, hkept, hback, hlt⟩ := hp
    obtain ⟨b0, hb0, ho0⟩ := hk.objs 0 _ hK0
    obtain ⟨b1, hb1, ho1⟩ := hk.objs 1 _ hK1
    have fresh : ∀ k x b, K k = some x → ι' k = some b → w.heap.size ≤ b := fun k x b h1 h2 => Nat.le_of_not_lt fun hlt => by
      obtain ⟨o, x, h, _⟩ := hev.back b hlt ⟨k, x, h1, h2⟩
      cases h
    have f0 := fresh 0 _ b0 hK0 hb0
    have f1 := fresh 1 _ b1 hK1 hb1
    have hne : b0 ≠ b1 := fun e => by subst e; exact absurd (hk.inj 0 1 _ _ _ hK0 hK1 hb0 hb1) (by omega)
    have same : ∀ b, b < w.heap.size → w'.heap[b]? = w.heap[b]? := fun b hb => hev.same b hb fun ⟨o, x, h, _⟩ => by cases h
    have hkept' : ∀ b, M b → M' b := fun b hb => hkept b hb fun o x h => by cases h
    let J : Nat → Option Nat := fun k => if k = nx + 1 then some b1 else if k = nx then some b0 else ι k
    have J1 : J (nx + 1) = some b1 := if_pos rfl
    have J0 : J nx = some b0 := by show (if nx = nx + 1 then _ else _) = _; rw [if_neg (by omega), if_pos rfl]
    have Jo : ∀ k, k ≠ nx + 1 → k ≠ nx → J k = ι k := fun k h1 h2 => by show (if k = nx + 1 then _ else _) = _; rw [if_neg h1, if_neg h2]
    have old : ∀ k x, H k = some x → k < nx := fun k x hx => by
      obtain ⟨b, hb, _⟩ := hok.objs k x hx
      exact Nat.lt_of_not_le fun hle => by rw [(hok.new k).1 hle] at hb; cases hb
    have hi : ∀ o b, ι o = some b → J o = some b := fun o b hb => by
      have : o < nx := Nat.lt_of_not_le fun hle => by rw [(hok.new o).1 hle] at hb; cases hb
      rw [Jo o (by omega) (by omega)]; exact hb
    have evw : Evo (fun _ => False) M w M' w' := ⟨hev.os, hev.tape, hev.output, hev.size, fun b hb _ => same b hb, fun b hb h => hback b hb h, fun b hb h => h.elim, hev.shape⟩
    have at_ : ∀ k x, updO (updO H nx (some ⟨some 5, 0, [[.wds .leaf 4800]]⟩)) (nx + 1) (some ⟨none, 1, [[.ref nx 1 0 4800]]⟩) k = some x →
        (k = nx + 1 ∧ x = ⟨none, 1, [[.ref nx 1 0 4800]]⟩) ∨ (k = nx ∧ x = ⟨some 5, 0, [[.wds .leaf 4800]]⟩) ∨ (k < nx ∧ H k = some x) := fun k x hx => by
      rw [updO_at] at hx
      split at hx
      · rename_i e; injection hx with hx; exact .inl ⟨e, hx.symm⟩
      · rw [updO_at] at hx
        split at hx
        · rename_i e; injection hx with hx; exact .inr (.inl ⟨e, hx.symm⟩)
        · exact .inr (.inr ⟨old k x hx, hx⟩)
    have blk : ∀ k x b, H k = some x → ι k = some b → b < w.heap.size := fun k x b h1 h2 => hM b (hok.ctl k x b h1 h2)
    refine ⟨v, J, M', he, ?_, ⟨fun k => ?_, fun k ob hkk => ?_, fun k k' x x' b hk1 hk2 hb hb' => ?_, fun k x b hk1 hb => ?_⟩, hi, ⟨hev.os, hev.tape, hev.output, hev.size, fun b hb _ => same b hb, fun b hb hh => ?_, fun b hb h => h.elim, hev.shape⟩, fun b hb _ => hkept' b hb, hback, hlt⟩
    · have hr : Rd w' ι' M' v (.ptr 1 1 0 0) := hr
      cases hr with
      | ptr _ _ _ _ b h hs =>
        rw [hb1] at h; injection h with h; subst h
        exact Rd.ptr (nx + 1) 1 0 0 _ J1 hs
    · by_cases h1 : k = nx + 1
      · subst h1; rw [J1]; simp
      · by_cases h2 : k = nx
        · subst h2; rw [J0]; simp
        · rw [Jo k h1 h2, ← hok.new k]; omega
    · rcases at_ k ob hkk with ⟨rfl, rfl⟩ | ⟨rfl, rfl⟩ | ⟨h1, h2⟩
      · exact ⟨b1, J1, seg_ref ho1 fun c hc => by rw [hb0] at hc; rw [J0, hc]⟩
      · refine ⟨b0, J0, ObjAt.unexp (ob := ⟨some 5, 0, [[.wds .leaf 4800]]⟩) (wds_rd (ι := ι') (M := M') ?_)⟩
        rw [zero_wds]; exact ho0
      · obtain ⟨b, k1, k2⟩ := hok.objs k ob h2
        exact ⟨b, hi k b k1, k2.mono evw hi (same b (blk k ob b h2 k1))⟩
    · have g : ∀ k x, updO (updO H nx (some ⟨some 5, 0, [[.wds .leaf 4800]]⟩)) (nx + 1) (some ⟨none, 1, [[.ref nx 1 0 4800]]⟩) k = some x → J k = some b → (k = nx + 1 ∧ b = b1) ∨ (k = nx ∧ b = b0) ∨ (∃ y, H k = some y ∧ ι k = some b ∧ b < w.heap.size) := fun k x hx hb => by
        rcases at_ k x hx with ⟨rfl, _⟩ | ⟨rfl, _⟩ | ⟨h1, h2⟩
        · rw [J1] at hb; injection hb with hb; exact .inl ⟨rfl, hb.symm⟩
        · rw [J0] at hb; injection hb with hb; exact .inr (.inl ⟨rfl, hb.symm⟩)
        · rw [Jo k (by omega) (by omega)] at hb; exact .inr (.inr ⟨x, h2, hb, blk k x b h2 hb⟩)
      rcases g k x hk1 hb with ⟨e1, e2⟩ | ⟨e1, e2⟩ | ⟨y, h1, h2, h3⟩ <;> rcases g k' x' hk2 hb' with ⟨e1', e2'⟩ | ⟨e1', e2'⟩ | ⟨y', h1', h2', h3'⟩
      · rw [e1, e1']
      · exact absurd (e2'.symm.trans e2) hne
      · omega
      · exact absurd (e2.symm.trans e2') hne
      · rw [e1, e1']
      · omega
      · omega
      · omega
      · exact hok.inj k k' y y' b h1 h1' h2 h2'
    · rcases at_ k x hk1 with ⟨rfl, _⟩ | ⟨rfl, _⟩ | ⟨h1, h2⟩
      · rw [J1] at hb; injection hb with hb; subst hb; exact hk.ctl 1 _ _ hK1 hb1
      · rw [J0] at hb; injection hb with hb; subst hb; exact hk.ctl 0 _ _ hK0 hb0
      · rw [Jo k (by omega) (by omega)] at hb; exact hkept' b (hok.ctl k x b h2 hb)
    · obtain ⟨k, x, hk1, hb'⟩ := hh
      rcases at_ k x hk1 with ⟨rfl, _⟩ | ⟨rfl, _⟩ | ⟨h1, h2⟩
      · rw [J1] at hb'; injection hb' with hb'; omega
      · rw [J0] at hb'; injection hb' with hb'; omega
      · rw [Jo k (by omega) (by omega)] at hb'; exact ⟨k, x, h2, hb'⟩
  · cases hq
end Go.Proofs.YtdapdiaklpcmjaaGreat.Pe
namespace Go.Proofs.YtdapdiaklpcmjaaGreat.Pe
open Go
set_option maxRecDepth 100000
noncomputable def bsL : List (Nat × FnS) := [(newN, .eff newX), (sizeN, .eff sizeX), (loadN, .eff loadX), (storeN, .eff storeX)]
theorem bsL_ok : AllBs Tryz.prog bsL := ⟨⟨new_ok, by kernel_rfl⟩, ⟨size_ok, by kernel_rfl⟩, ⟨load_ok, by kernel_rfl⟩, ⟨store_ok, by kernel_rfl⟩, trivial⟩
noncomputable def S1 : Sys := sysOf (mkTr ttL) (mkTr ezL) (mkTr fnL) (mkTr bsL)
theorem S1_ok : SysOk S1 Tryz.prog := sysOf_ok mixed ttL_ok (by kernel_rfl) ezL_ok (by kernel_rfl) fnL_ok (by kernel_rfl) bsL_ok (by kernel_rfl)
end Go.Proofs.YtdapdiaklpcmjaaGreat.Pe
namespace Go.Proofs.YtdapdiaklpcmjaaGreat.Pe
open Go
set_option maxRecDepth 100000
noncomputable def loadP (ads : List AD) (H : Hp) (nx : Nat) (T : TL) : Option ((RV × Hp × Nat) × TL) := match ads with
  | [.one (.ptr sg 1 0 0), .one (.int .u64 (.ofNat off))] => match segX H sg with
    | some q => some ((.tup [.one (.int .u64 (.ofNat (wordX q.2.2.1 (Nat.div off 8)))), .one (.int .i64 0)], H, nx), T.need [Nat.beq q.2.1 4800, inW off 4800, Nat.blt (wordX q.2.2.1 (Nat.div off 8)) 18446744073709551616])
    | none => none
  | _ => none
theorem loadP_ok : PfOk loadP loadX := by
  intro ads H nx T q T' h
  unfold loadP at h
  split at h
  · rename_i sg off
    split at h
    · rename_i z hz
      simp only [Option.some.injEq, Prod.mk.injEq] at h
      obtain ⟨rfl, rfl⟩ := h
      refine ⟨TL.need_le _ _, fun hT => ?_⟩
      have hc := TL.need_ok hT
      have h1 := hc _ List.mem_cons_self
      have h2 := hc _ (List.mem_cons_of_mem _ List.mem_cons_self)
      have h3 := hc _ (List.mem_cons_of_mem _ (List.mem_cons_of_mem _ List.mem_cons_self))
      show (match segX H sg with | some q => _ | none => none) = _
      rw [hz]
      simp only [h1, h2, h3, br]
    · cases h
  · cases h
noncomputable def storeP (ads : List AD) (H : Hp) (nx : Nat) (T : TL) : Option ((RV × Hp × Nat) × TL) := match ads with
  | [.one (.ptr sg 1 0 0), .one (.int .u64 (.ofNat off)), .one (.int .u64 (.ofNat v))] => match segX H sg with
    | some q => some ((.a (.one (.int .i64 0)), updO H q.1 (some ⟨q.2.2.2, 0, [[.wds (q.2.2.1.set (some v) 30 (Nat.div off 8)) q.2.1]]⟩), nx), T.need [Nat.beq q.2.1 4800, inW off 4800])
    | none => none
  | _ => none
theorem storeP_ok : PfOk storeP storeX := by
  intro ads H nx T q T' h
  unfold storeP at h
  split at h
  · rename_i sg off v
    split at h
    · rename_i z hz
      simp only [Option.some.injEq, Prod.mk.injEq] at h
      obtain ⟨rfl, rfl⟩ := h
      refine ⟨TL.need_le _ _, fun hT => ?_⟩
      have hc := TL.need_ok hT
      have h1 := hc _ List.mem_cons_self
      have h2 := hc _ (List.mem_cons_of_mem _ List.mem_cons_self)
      show (match segX H sg with | some q => _ | none => none) = _
      rw [hz]
      simp only [h1, h2, br]
    · cases h
  · cases h
noncomputable def pbOf : List (Nat × PF) → Nat → Option PF
  | [], _ => none
  | x :: l, f => br (Nat.beq x.1 f) (some x.2) (pbOf l f)
theorem pbOf_mem : ∀ {l : List (Nat × PF)} {f : Nat} {G : PF}, pbOf l f = some G → (f, G) ∈ l
  | [], f, G, h => by cases h
  | (a, b) :: l, f, G, h => by
    unfold pbOf at h
    cases hb : Nat.beq a f with
    | true =>
      have h : br (Nat.beq a f) (some b) (pbOf l f) = some G := h
      rw [hb] at h
      have h : some b = some G := h
      injection h with h
      have e := Nat.eq_of_beq_eq_true hb
      rw [e, h]
      exact List.mem_cons_self
    | false =>
      have h : br (Nat.beq a f) (some b) (pbOf l f) = some G := h
      rw [hb] at h
      exact List.mem_cons_of_mem _ (pbOf_mem h)
noncomputable def S2 : SysP := { S1 with pb := pbOf [(loadN, loadP), (storeN, storeP)] }
theorem S2_sys : S2.toSys = S1 := rfl
theorem S2_ok : SysOk S2.toSys Tryz.prog := S1_ok
theorem S2_pb : PbOk S2 := ⟨fun f G h => by
  have h := pbOf_mem (l := [(loadN, loadP), (storeN, storeP)]) h
  simp only [List.mem_cons, List.not_mem_nil, or_false, Prod.mk.injEq] at h
  rcases h with ⟨rfl, rfl⟩ | ⟨rfl, rfl⟩
  · exact ⟨loadX, by kernel_rfl, loadP_ok⟩
  · exact ⟨storeX, by kernel_rfl, storeP_ok⟩⟩
theorem fn_runAt {P : Program} {S : SysP} (hS : SysOk S.toSys P) (hP : PbOk S) {k f : Nat} (hf : (S.tab f).isSome = true) {ads : List AD} {H : Hp} {nx : Nat} {T T' : TL} {r : RV} {H' : Hp} {nx' : Nat} (h : (evt S k).fn f ads H nx T = some ((r, H', nx'), T')) (hT : T'.Ok) : RunAt P f ads H nx r H' nx' :=
  (evs_ok hS k).fn f hf _ _ _ _ _ _ (((evt_ok hP k).fn _ _ _ _ _ _ _ h).2 hT)
end Go.Proofs.YtdapdiaklpcmjaaGreat.Pe
