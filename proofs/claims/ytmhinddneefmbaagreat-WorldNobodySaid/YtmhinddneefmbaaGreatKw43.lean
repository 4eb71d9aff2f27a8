/- A part of the proof of JbH. -/
import Derived.Tactics
import Derived.Tactics2
import Derived.Defers
import Derived.Laws.Pointers
import Derived.Laws.LoneSync
import Derived.RegionTactic
import Derived.RegionCalls
import Derived.WalkKit
import Derived.TacticsInMore
import Derived.RegionIn
import Derived.Laws.Externs
import Derived.Laws.MathBits
import Derived.Laws.Closers25b
import Derived.Laws.BitsAllLaws
import Derived.ChangeAlike
import Derived.Laws.NewBlocks
import Derived.Test.YtmhinddneefmbaaGreatKw41
import Derived.Test.YtmhinddneefmbaaGreatKw42
set_option linter.unusedSimpArgs false
set_option linter.unusedVariables false
set_option linter.unusedSectionVars false
namespace Go.Proofs.YtmhinddneefmbaaGreat.Pe
open Go Go.Proofs
set_option maxRecDepth 100000
abbrev addN : Nat := 38
abbrev ldN : Nat := 47
theorem add_arith {x d s : Int} (hs : s = x + d) (h1 : -9223372036854775808 ≤ s) (h2 : s ≤ 9223372036854775807) (w : World) : (Op.intArith .add .i64 x d).run Tryz.prog w = .ok (.int .i64 s) w := by
  subst hs
  have e : IntKind.i64.wrap (x + d) = x + d := by rw [IntKind.wrap_i64]; omega
  simp [go_sem, e]
theorem int64_add {a : Addr} {w : World} {x d s : Int} (hc : w.cell? a = some (.int .i64 x)) (hz : w.frozen? a = false) (hs : s = x + d) (h1 : -9223372036854775808 ≤ s) (h2 : s ≤ 9223372036854775807) :
    Calls Tryz.prog 38 #[.pointer (some a), .int .i64 d] w fun e w' => e = .returned (.int .i64 s) ∧ w' = w.setCell a (.int .i64 s) := by
  have hadd := run_call_add (P := Tryz.prog) Tryz.func79 (by kernel_rfl) (by kernel_rfl) (by kernel_rfl) .i64 (by kernel_rfl) (y := d) (s := s) hc hz (add_arith hs h1 h2 w)
  go_enter Tryz.func38, Tryz.ntmps38
  go_wp2
  go_ret
  subst hs
  exact ⟨rfl, rfl⟩
theorem callsDIn_fx {ro : Option Nat} {n m : Nat} {P : Program} {f : FuncId} {args : Array Value} {u : FrameMode} {w : World} {R : Ending → FrameMode → World → Prop} (h : CallsDIn Fence.wide m P f args u w R) : CallsDIn (Fx ro) n P f args u w R :=
  ⟨trivial, fun c cs hu _ => let ⟨e, u', w', fr, r, s, x⟩ := h.2 c cs hu (room_wide _); ⟨e, u', w', fr, r, by rw [fenced_fx]; exact s, x⟩⟩
theorem int64_addD {a : Addr} {w : World} {x d s : Int} (hc : w.cell? a = some (.int .i64 x)) (hz : w.frozen? a = false) (hs : s = x + d) (h1 : -9223372036854775808 ≤ s) (h2 : s ≤ 9223372036854775807) (u : FrameMode) :
    CallsDIn Fence.wide 0 Tryz.prog 38 #[.pointer (some a), .int .i64 d] u w fun e u' w' => u' = u ∧ (e = .returned (.int .i64 s) ∧ w' = w.setCell a (.int .i64 s)) := by
  have hadd := run_call_add (P := Tryz.prog) Tryz.func79 (by kernel_rfl) (by kernel_rfl) (by kernel_rfl) .i64 (by kernel_rfl) (y := d) (s := s) hc hz (add_arith hs h1 h2 w)
  refine callsDIn_of_wp (R := fun e w' => e = .returned (.int .i64 s) ∧ w' = w.setCell a (.int .i64 s)) Tryz.func38 rfl trivial (wpIn_wide.2 ?_) rfl
  simp only [Tryz.ntmps38, List.size_toArray, List.length_cons, List.length_nil, Nat.reduceAdd, Nat.reduceSub, Array.replicate_succ,
     Array.replicate_zero, List.push_toArray, List.append_toArray, List.nil_append, List.cons_append]
  go_wp2
  go_ret
  subst hs
  exact ⟨rfl, rfl⟩
theorem int64_load {a : Addr} {w : World} {x : Int} (hc : w.cell? a = some (.int .i64 x)) :
    Calls Tryz.prog 47 #[.pointer (some a)] w fun e w' => e = .returned (.int .i64 x) ∧ w' = w := by
  have hl := run_call_load (P := Tryz.prog) Tryz.func84 (by kernel_rfl) (by kernel_rfl) (by kernel_rfl) .i64 (by kernel_rfl) hc
  go_enter Tryz.func47, Tryz.ntmps47
  go_wp2
  go_ret
  exact ⟨rfl, rfl⟩
noncomputable def sumI (x d : Int) : Option Int := match x, d with
  | .ofNat n, .ofNat m => br (Nat.ble (Nat.add n m) 9223372036854775807) (some (.ofNat (Nat.add n m))) none
  | _, _ => none
theorem sumI_ok {x d s : Int} (h : sumI x d = some s) : s = x + d ∧ -9223372036854775808 ≤ s ∧ s ≤ 9223372036854775807 := by
  unfold sumI at h
  split at h
  · rename_i n m
    obtain ⟨h1, h⟩ := br_some h
    have h1 : n + m ≤ 9223372036854775807 := Nat.le_of_ble_eq_true h1
    injection h with h
    subst h
    have e : (Int.ofNat (Nat.add n m) : Int) = ((n + m : Nat) : Int) := rfl
    rw [e]
    refine ⟨by show ((n + m : Nat) : Int) = (n : Int) + (m : Int); omega, by omega, by omega⟩
  · cases h
noncomputable def addX (ads : List AD) (H : Hp) (nx : Nat) : Option (RV × Hp × Nat) := match ads with
  | [.one (.ptr m sz 0 off), .one (.int .i64 d)] => match H m with
    | some ⟨e, sz2, [row]⟩ => br (Nat.beq sz2 sz) (br (Nat.blt 0 sz) (match row[off]? with
      | some (.int .i64 x) => match sumI x d with
        | some s => some (.a (.one (.int .i64 s)), setD H m e sz row off (.int .i64 s), nx)
        | none => none
      | _ => none) none) none
    | _ => none
  | _ => none
noncomputable def ldX (ads : List AD) (H : Hp) (nx : Nat) : Option (RV × Hp × Nat) := match ads with
  | [.one (.ptr m sz 0 off)] => match H m with
    | some ⟨e, sz2, [row]⟩ => br (Nat.beq sz2 sz) (br (Nat.blt 0 sz) (match row[off]? with
      | some (.int .i64 x) => some (.a (.one (.int .i64 x)), H, nx)
      | _ => none) none) none
    | _ => none
  | _ => none
theorem two_vals {vals : Array Value} (h : vals.size = 2) : ∃ a b, vals = #[a, b] := by
  obtain ⟨l⟩ := vals
  match l, h with
  | [x, y], _ => exact ⟨x, y, rfl⟩
theorem one_val {vals : Array Value} (h : vals.size = 1) : ∃ a, vals = #[a] := by
  obtain ⟨l⟩ := vals
  match l, h with
  | [x], _ => exact ⟨x, rfl⟩
theorem add_ok : FnEff Tryz.prog addN addX := by
  rw [FnEff.iff]
  intro ads H nx r H' nx' hq
  unfold addX at hq
  split at hq
  · rename_i m sz off d
    split at hq
    · rename_i e sz2 row hm
      obtain ⟨e1, hq⟩ := br_some hq
      have e1 := Nat.eq_of_beq_eq_true e1
      subst e1
      obtain ⟨e2, hq⟩ := br_some hq
      have e2 := blt_lt e2
      split at hq
      · rename_i x hx
        split at hq
        · rename_i s hs
          have hq := Option.some.inj hq
          obtain ⟨q1, q2⟩ := Prod.mk.inj hq
          obtain ⟨q2, q3⟩ := Prod.mk.inj q2
          subst q1; subst q2; subst q3
          obtain ⟨s1, s2, s3⟩ := sumI_ok hs
          intro w ι M vals hM hok hsz hargs
          obtain ⟨v0, v1, rfl⟩ := two_vals hsz
          have r0 : Rd w ι M v0 (.ptr m sz2 0 off) := hargs 0 v0 _ rfl rfl
          have r1 : Rd w ι M v1 (.int .i64 d) := hargs 1 v1 _ rfl rfl
          obtain ⟨b, hb, _⟩ := hok.objs _ _ hm
          cases r1
          have ev0 : v0 = .pointer (some ⟨b, off, none⟩) := by
            cases r0 with
            | ptr _ _ _ _ b' h hz => rw [hb] at h; injection h with h; subst h; simp
          subst ev0
          obtain ⟨u0, c0, rd0, f0⟩ := cell_of hok hm (by omega) hb hx
          cases rd0
          refine (int64_add c0 f0 s1 s2 s3).mono fun e w' hp => ?_
          obtain ⟨rfl, rfl⟩ := hp
          obtain ⟨t1, t2, t3, t4, t5, t6⟩ := setCell_eff (v := .int .i64 s) hM hok hm (by omega) hb (List.getElem?_eq_some_iff.1 hx).1 (.int .i64 s)
          exact ⟨_, ι, M, rfl, Rd.int _ _, t1, t2, t3, t4, t5, t6⟩
        · cases hq
      · cases hq
    · cases hq
  · cases hq
theorem ld_ok : FnEff Tryz.prog ldN ldX := by
  rw [FnEff.iff]
  intro ads H nx r H' nx' hq
  unfold ldX at hq
  split at hq
  · rename_i m sz off
    split at hq
    · rename_i e sz2 row hm
      obtain ⟨e1, hq⟩ := br_some hq
      have e1 := Nat.eq_of_beq_eq_true e1
      subst e1
      obtain ⟨e2, hq⟩ := br_some hq
      have e2 := blt_lt e2
      split at hq
      · rename_i x hx
        have hq := Option.some.inj hq
        obtain ⟨q1, q2⟩ := Prod.mk.inj hq
        obtain ⟨q2, q3⟩ := Prod.mk.inj q2
        subst q1; subst q2; subst q3
        intro w ι M vals hM hok hsz hargs
        obtain ⟨v0, rfl⟩ := one_val hsz
        have r0 : Rd w ι M v0 (.ptr m sz2 0 off) := hargs 0 v0 _ rfl rfl
        obtain ⟨b, hb, _⟩ := hok.objs _ _ hm
        have ev0 : v0 = .pointer (some ⟨b, off, none⟩) := by
          cases r0 with
          | ptr _ _ _ _ b' h hz => rw [hb] at h; injection h with h; subst h; simp
        subst ev0
        obtain ⟨u0, c0, rd0, f0⟩ := cell_of hok hm (by omega) hb hx
        cases rd0
        refine (int64_load c0).mono fun e w' hp => ?_
        obtain ⟨rfl, hw⟩ := hp
        subst hw
        obtain ⟨t1, t2, t3, t4, t5, t6⟩ := EffTo.same (w1 := w') hM hok rfl rfl rfl rfl
        exact ⟨_, ι, M, rfl, Rd.int _ _, t1, t2, t3, t4, t5, t6⟩
      · cases hq
    · cases hq
  · cases hq
noncomputable def addG (ads : List AD) (H : Hp) (nx : Nat) : Option (Hp × Nat) := match addX ads H nx with
  | some (_, H', nx') => some (H', nx')
  | none => none
theorem addG_ok : DefOk Tryz.prog addN addG := by
  refine ⟨by kernel_rfl, ?_⟩
  intro ads H nx H' nx' hq w ι M vals hM hok hsz hargs n
  unfold addG at hq
  split at hq
  rotate_left
  · cases hq
  rename_i r0 H0 nx0 hq0
  have hq := Option.some.inj hq
  obtain ⟨q1, q2⟩ := Prod.mk.inj hq
  subst q1; subst q2
  unfold addX at hq0
  split at hq0
  · rename_i m sz off d
    split at hq0
    · rename_i e sz2 row hm
      obtain ⟨e1, hq⟩ := br_some hq0
      have e1 := Nat.eq_of_beq_eq_true e1
      subst e1
      obtain ⟨e2, hq⟩ := br_some hq
      have e2 := blt_lt e2
      split at hq
      · rename_i x hx
        split at hq
        · rename_i s hs
          have hq := Option.some.inj hq
          obtain ⟨q1, q2⟩ := Prod.mk.inj hq
          obtain ⟨q2, q3⟩ := Prod.mk.inj q2
          subst q1; subst q2; subst q3
          obtain ⟨s1, s2, s3⟩ := sumI_ok hs
          obtain ⟨v0, v1, rfl⟩ := two_vals hsz
          have r0 : Rd w ι M v0 (.ptr m sz2 0 off) := hargs 0 v0 _ rfl rfl
          have r1 : Rd w ι M v1 (.int .i64 d) := hargs 1 v1 _ rfl rfl
          obtain ⟨b, hb, _⟩ := hok.objs _ _ hm
          cases r1
          have ev0 : v0 = .pointer (some ⟨b, off, none⟩) := by
            cases r0 with
            | ptr _ _ _ _ b' h hz => rw [hb] at h; injection h with h; subst h; simp
          subst ev0
          obtain ⟨u0, c0, rd0, f0⟩ := cell_of hok hm (by omega) hb hx
          cases rd0
          refine CallsDIn.mono (callsDIn_fx (int64_addD c0 f0 s1 s2 s3 .returning)) ?_
          rintro e u' w' ⟨rfl, rfl, rfl⟩
          exact ⟨rfl, ⟨_, rfl⟩, ι, M, setCell_eff (v := .int .i64 s) hM hok hm (by omega) hb (List.getElem?_eq_some_iff.1 hx).1 (.int .i64 s)⟩
        · cases hq
      · cases hq
    · cases hq0
  · cases hq0
end Go.Proofs.YtmhinddneefmbaaGreat.Pe
namespace Go.Proofs.YtmhinddneefmbaaGreat.Pe
open Go
set_option maxRecDepth 100000
noncomputable def okS (n : Nat) : Bool := br (Nat.beq n 0) false (br (Nat.beq (Nat.mod n 8) 0) (not (Nat.blt 1048576 n)) false)
theorem nw_no1 (n : Nat) : outS ((evt Sx 200).fn newN [.one (.int .u64 (.ofNat n))] (.tr .leaf) 0 ⟨0, [(0, true)], [], [], [], []⟩) = some (.a (.one .nilp), none, none, 0, allB [Nat.beq n 0], []) := by kernel_rfl
theorem nw_no1e (n : Nat) : eqL ((evt Sx 200).fn newN [.one (.int .u64 (.ofNat n))] (.tr .leaf) 0 ⟨0, [(0, true)], [], [], [], []⟩) = eqR ((evt Sx 200).fn newN [.one (.int .u64 (.ofNat n))] (.tr .leaf) 0 ⟨0, [(0, true)], [], [], [], []⟩) := by kernel_rfl
theorem nw_no2 (n : Nat) : outS ((evt Sx 200).fn newN [.one (.int .u64 (.ofNat n))] (.tr .leaf) 0 ⟨0, [(0, false), (1, true)], [], [], [], []⟩) = some (.a (.one .nilp), none, none, 0, allB [not (Nat.beq (Nat.mod n 8) 0), true, not (Nat.beq n 0)], []) := by kernel_rfl
theorem nw_no2e (n : Nat) : eqL ((evt Sx 200).fn newN [.one (.int .u64 (.ofNat n))] (.tr .leaf) 0 ⟨0, [(0, false), (1, true)], [], [], [], []⟩) = eqR ((evt Sx 200).fn newN [.one (.int .u64 (.ofNat n))] (.tr .leaf) 0 ⟨0, [(0, false), (1, true)], [], [], [], []⟩) := by kernel_rfl
theorem nw_no3 (n : Nat) : outS ((evt Sx 200).fn newN [.one (.int .u64 (.ofNat n))] (.tr .leaf) 0 ⟨0, [(0, false), (1, false), (2, true)], [], [], [], []⟩) = some (.a (.one .nilp), none, none, 0, allB [Nat.blt 1048576 n, not (not (Nat.beq (Nat.mod n 8) 0)), true, not (Nat.beq n 0)], []) := by kernel_rfl
theorem nw_no3e (n : Nat) : eqL ((evt Sx 200).fn newN [.one (.int .u64 (.ofNat n))] (.tr .leaf) 0 ⟨0, [(0, false), (1, false), (2, true)], [], [], [], []⟩) = eqR ((evt Sx 200).fn newN [.one (.int .u64 (.ofNat n))] (.tr .leaf) 0 ⟨0, [(0, false), (1, false), (2, true)], [], [], [], []⟩) := by kernel_rfl
noncomputable def newY (ads : List AD) (H : Hp) (nx : Nat) : Option (RV × Hp × Nat) := match ads with
  | [.one (.int .u64 (.ofNat n))] => br (okS n) (some (.a (.one (.ptr (nx + 1) 1 0 0)), updO (updO H nx (some ⟨some 5, 0, [[.wds .leaf n]]⟩)) (nx + 1) (some ⟨none, 1, [[.ref nx 1 0 n]]⟩), nx + 2)) (some (.a (.one .nilp), H, nx))
  | _ => none
theorem newY_ok : FnEff Tryz.prog newN newY := by
  rw [FnEff.iff]
  intro ads H nx r H' nx' hq
  unfold newY at hq
  split at hq
  · rename_i n
    have nh : ∀ p ∈ ([] : List (AV × AV)), p.1 = p.2 := fun p hp => by cases hp
    have hf : (Sx.tab newN).isSome = true := by kernel_rfl
    have nil : (∃ K, RunAt Tryz.prog newN [.one (.int .u64 (.ofNat n))] (.tr .leaf) 0 (.a (.one .nilp)) K 0 ∧ K 0 = none ∧ K 1 = none) → RunAt Tryz.prog newN [.one (.int .u64 (.ofNat n))] H nx (.a (.one .nilp)) H nx := fun ⟨K, h, _, _⟩ =>
      bare_run h (fun a ha => by rcases List.mem_singleton.1 ha with rfl; rfl) rfl H nx
    cases ho : okS n with
    | true =>
      have hq : br (okS n) _ _ = some (r, H', nx') := hq
      rw [ho] at hq
      unfold okS at ho
      cases c1 : Nat.beq n 0 with
      | true => rw [c1] at ho; cases ho
      | false =>
        rw [c1] at ho
        obtain ⟨c2, c3⟩ := br2 (show br (Nat.beq (Nat.mod n 8) 0) (not (Nat.blt 1048576 n)) false = true from ho)
        have c4 : Nat.ble n 1048576 = true := by
          refine tl (Nat.le_of_not_lt fun h => ?_)
          rw [tb h] at c3; cases c3
        have c5 : Nat.blt 0 n = true := tb (Nat.pos_of_ne_zero fun h => by rw [te h] at c1; cases c1)
        refine FnEff.iff.1 new_ok _ _ _ _ _ _ ?_
        show br (Nat.blt 0 n) _ _ = _
        rw [c5, c2, c4]
        exact hq
    | false =>
      have hq : br (okS n) _ _ = some (r, H', nx') := hq
      rw [ho] at hq
      have hq := Option.some.inj hq
      obtain ⟨q1, q2⟩ := Prod.mk.inj hq
      obtain ⟨q2, q3⟩ := Prod.mk.inj q2
      subst q1; subst q2; subst q3
      unfold okS at ho
      cases c1 : Nat.beq n 0 with
      | true => exact nil (outS_run Sx_ok Sx_pb hf (nw_no1 n) (nw_no1e n) (allB_of (cons_ok c1 nil_ok)) nh)
      | false =>
        rw [c1] at ho
        have c1' : (not (Nat.beq n 0)) = true := by rw [c1]; rfl
        cases c2 : Nat.beq (Nat.mod n 8) 0 with
        | false => exact nil (outS_run Sx_ok Sx_pb hf (nw_no2 n) (nw_no2e n) (allB_of (cons_ok (by rw [c2]; rfl) (cons_ok rfl (cons_ok c1' nil_ok)))) nh)
        | true =>
          rw [c2] at ho
          have c3 : Nat.blt 1048576 n = true := by
            have : (not (Nat.blt 1048576 n)) = false := ho
            cases h : Nat.blt 1048576 n with
            | true => rfl
            | false => rw [h] at this; cases this
          exact nil (outS_run Sx_ok Sx_pb hf (nw_no3 n) (nw_no3e n) (allB_of (cons_ok c3 (cons_ok (by rw [c2]; rfl) (cons_ok rfl (cons_ok c1' nil_ok))))) nh)
  · cases hq
noncomputable def newP (ads : List AD) (H : Hp) (nx : Nat) (T : TL) : Option ((RV × Hp × Nat) × TL) := match ads with
  | [.one (.int .u64 (.ofNat n))] => match decT (okS n) T with
    | (b, T1) => some (br b (.a (.one (.ptr (nx + 1) 1 0 0)), updO (updO H nx (some ⟨some 5, 0, [[.wds .leaf n]]⟩)) (nx + 1) (some ⟨none, 1, [[.ref nx 1 0 n]]⟩), nx + 2) (.a (.one .nilp), H, nx), T1)
  | _ => none
theorem newP_ok : PfOk newP newY := by
  intro ads H nx T q T' h
  unfold newP at h
  split at h
  · rename_i n
    split at h
    rename_i b T1 hd
    simp only [Option.some.injEq, Prod.mk.injEq] at h
    obtain ⟨rfl, rfl⟩ := h
    refine ⟨decT_le hd, fun hT => ?_⟩
    have hb := decT_ok hd hT
    unfold newY
    rw [hb]
    simp only [br]
    cases okS n <;> rfl
  · cases h
theorem fmt_nil (n : Nat) : outS ((evt S2 200).fn formatN [.one .nilp, .one (.int .u64 (.ofNat n))] (.tr .leaf) 0 ⟨0, [], [], [], [], []⟩) = some (.a (.one (.int .i64 1)), some ⟨none, 1, [[.nilp]]⟩, none, 1, true, []) := by kernel_rfl
theorem fmt_nile (n : Nat) : eqL ((evt S2 200).fn formatN [.one .nilp, .one (.int .u64 (.ofNat n))] (.tr .leaf) 0 ⟨0, [], [], [], [], []⟩) = eqR ((evt S2 200).fn formatN [.one .nilp, .one (.int .u64 (.ofNat n))] (.tr .leaf) 0 ⟨0, [], [], [], [], []⟩) := by kernel_rfl
noncomputable def formatY (ads : List AD) (H : Hp) (nx : Nat) : Option (RV × Hp × Nat) := match ads with
  | [.one .nilp, .one (.int .u64 (.ofNat n))] => some (.a (.one (.int .i64 1)), H, nx)
  | ads => formatX ads H nx
theorem formatY_ok : FnEff Tryz.prog formatN formatY := by
  rw [FnEff.iff]
  intro ads H nx r H' nx' hq
  unfold formatY at hq
  split at hq
  · rename_i n
    have hq := Option.some.inj hq
    obtain ⟨q1, q2⟩ := Prod.mk.inj hq
    obtain ⟨q2, q3⟩ := Prod.mk.inj q2
    subst q1; subst q2; subst q3
    obtain ⟨K, h, _, _⟩ := outS_run S2_ok S2_pb (by kernel_rfl) (fmt_nil n) (fmt_nile n) rfl (fun p hp => by cases hp)
    exact bare_run h (fun a ha => by
      rcases List.mem_cons.1 ha with rfl | ha
      · rfl
      · rcases List.mem_singleton.1 ha with rfl; rfl) rfl H nx
  · exact FnEff.iff.1 format_ok _ _ _ _ _ _ hq
noncomputable def formatQ (ads : List AD) (H : Hp) (nx : Nat) (T : TL) : Option ((RV × Hp × Nat) × TL) := match ads with
  | [.one .nilp, .one (.int .u64 (.ofNat n))] => some ((.a (.one (.int .i64 1)), H, nx), T)
  | ads => formatP ads H nx T
theorem formatQ_ok : PfOk formatQ formatY := by
  intro ads H nx T q T' h
  unfold formatQ at h
  split at h
  · simp only [Option.some.injEq, Prod.mk.injEq] at h
    obtain ⟨rfl, rfl⟩ := h
    exact ⟨.refl _, fun _ => rfl⟩
  · rename_i hne
    obtain ⟨h1, h2⟩ := formatP_ok _ _ _ _ _ _ h
    refine ⟨h1, fun hT => ?_⟩
    unfold formatY
    split
    · rename_i n; exact absurd rfl (hne n)
    · exact h2 hT
end Go.Proofs.YtmhinddneefmbaaGreat.Pe
namespace Go.Proofs.YtmhinddneefmbaaGreat.Pe
open Go Go.Proofs
set_option maxRecDepth 100000
abbrev wAddN : Nat := 156
theorem word_add {a b : Nat} (ha : a < 18446744073709551616) (hb : b < 18446744073709551616) (w : World) :
    Calls Tryz.prog wAddN #[.int .u64 a, .int .u64 b] w fun e w' => e = .returned (.tuple #[.int .u64 ((if a + b < 18446744073709551616 then a + b else 0 : Nat) : Int), .bool (decide (a + b < 18446744073709551616))]) ∧ w' = w := by
  have hadd : (callFunc 202 #[.int .u64 a, .int .u64 b, .int .u64 0]).run Tryz.prog w = .ok (.value (.tuple #[.int .u64 (((a : Int) + b + 0) % 18446744073709551616), .int .u64 (((a : Int) + b + 0) / 18446744073709551616)])) w := by
    rw [run_callFunc_extern (P := Tryz.prog) (f := 202) (fn := Tryz.f202) Tryz.func202 (by kernel_rfl) (by kernel_rfl) (by kernel_rfl) (e := add64Entry) (by kernel_rfl), run_add64 a b 0 (by omega) (by omega) (by omega) (by omega)]
    rfl
  by_cases h : a + b < 18446744073709551616
  · have e1 : ((a : Int) + b + 0) / 18446744073709551616 = 0 := by omega
    have e2 : ((a : Int) + b + 0) % 18446744073709551616 = a + b := by omega
    rw [e1, e2] at hadd
    rw [if_pos h]
    go_enter Tryz.func156, Tryz.ntmps156
    go_wp2
    go_ret2
    simp [h]
  · have e1 : ((a : Int) + b + 0) / 18446744073709551616 = 1 := by omega
    rw [e1] at hadd
    rw [if_neg h]
    go_enter Tryz.func156, Tryz.ntmps156
    go_wp2
    go_ret2
    simp [h]
noncomputable def wAddX (ads : List AD) (H : Hp) (nx : Nat) : Option (RV × Hp × Nat) := match ads with
  | [.one (.int .u64 (.ofNat a)), .one (.int .u64 (.ofNat b))] => br (Nat.blt a 18446744073709551616) (br (Nat.blt b 18446744073709551616) (br (Nat.blt (Nat.add a b) 18446744073709551616) (some (.tup [.one (.int .u64 (.ofNat (Nat.add a b))), .one (.bool true)], H, nx)) (some (.tup [.one (.int .u64 (.ofNat 0)), .one (.bool false)], H, nx))) none) none
  | _ => none
theorem wAdd_ok : FnEff Tryz.prog wAddN wAddX := by
  rw [FnEff.iff]
  intro ads H nx r H' nx' hq
  unfold wAddX at hq
  split at hq
  · rename_i a b
    obtain ⟨e1, hq⟩ := br_some hq
    obtain ⟨e2, hq⟩ := br_some hq
    have e1 := blt_lt e1
    have e2 := blt_lt e2
    intro w ι M vals hM hok hsz hargs
    obtain ⟨v0, v1, rfl⟩ := two_vals hsz
    have r0 : Rd w ι M v0 (.int .u64 a) := hargs 0 v0 _ rfl rfl
    have r1 : Rd w ι M v1 (.int .u64 b) := hargs 1 v1 _ rfl rfl
    cases r0
    cases r1
    refine (word_add e1 e2 w).mono fun e w' hp => ?_
    obtain ⟨rfl, hw⟩ := hp
    subst hw
    obtain ⟨t1, t2, t3, t4, t5, t6⟩ := EffTo.same (w1 := w') hM hok rfl rfl rfl rfl
    cases hc : Nat.blt (Nat.add a b) 18446744073709551616 with
    | true =>
      rw [hc] at hq
      have hlt : a + b < 18446744073709551616 := blt_lt hc
      have hq := Option.some.inj hq
      obtain ⟨q1, q2⟩ := Prod.mk.inj hq
      obtain ⟨q2, q3⟩ := Prod.mk.inj q2
      subst q1; subst q2; subst q3
      refine ⟨_, ι, M, rfl, ⟨_, rfl, rfl, fun j v x hv hx => ?_⟩, t1, t2, t3, t4, t5, t6⟩
      match j with
      | 0 => simp [hlt] at hv hx; subst hv; subst hx; exact .int _ _
      | 1 => simp [hlt] at hv hx; subst hv; subst hx; exact .bool _
      | j + 2 => simp at hv
    | false =>
      rw [hc] at hq
      have hlt : ¬ a + b < 18446744073709551616 := fun h => by
        have : Nat.blt (Nat.add a b) 18446744073709551616 = true := Nat.ble_eq_true_of_le h
        rw [hc] at this; cases this
      have hq := Option.some.inj hq
      obtain ⟨q1, q2⟩ := Prod.mk.inj hq
      obtain ⟨q2, q3⟩ := Prod.mk.inj q2
      subst q1; subst q2; subst q3
      refine ⟨_, ι, M, rfl, ⟨_, rfl, rfl, fun j v x hv hx => ?_⟩, t1, t2, t3, t4, t5, t6⟩
      match j with
      | 0 => simp [hlt] at hv hx; subst hv; subst hx; exact .int _ _
      | 1 => simp [hlt] at hv hx; subst hv; subst hx; exact .bool _
      | j + 2 => simp at hv
  · cases hq
end Go.Proofs.YtmhinddneefmbaaGreat.Pe
namespace Go.Proofs.YtmhinddneefmbaaGreat.Pe
open Go Go.Proofs
set_option maxRecDepth 100000
theorem on_disable (w : World) : (callFunc 350 #[]).run Tryz.prog w = .ok (.value (.tuple #[])) w := run_call_mark0 Tryz.func350 (by kernel_rfl) (by kernel_rfl) (by kernel_rfl) .disable (by kernel_rfl) w
theorem on_enable (w : World) : (callFunc 352 #[]).run Tryz.prog w = .ok (.value (.tuple #[])) w := run_call_mark0 Tryz.func352 (by kernel_rfl) (by kernel_rfl) (by kernel_rfl) .enable (by kernel_rfl) w
theorem on_acquire (a : Addr) (w : World) : (callFunc 353 #[.pointer (some a)]).run Tryz.prog w = .ok (.value (.tuple #[])) w := run_call_marked Tryz.func353 (by kernel_rfl) (by kernel_rfl) (by kernel_rfl) .acquire (by kernel_rfl) a w
theorem on_releaseMerge (a : Addr) (w : World) : (callFunc 355 #[.pointer (some a)]).run Tryz.prog w = .ok (.value (.tuple #[])) w := run_call_marked Tryz.func355 (by kernel_rfl) (by kernel_rfl) (by kernel_rfl) .releaseMerge (by kernel_rfl) a w
theorem store_deferred (a : Addr) (x : Value) (u : FrameMode) (w : World) (hc : w.cell? a = some x) (hz : w.frozen? a = false) :
    CallsD Tryz.prog 277 #[.pointer (some a), .bool true] u w fun e u' w' => u' = u ∧ (e = .returned (.tuple #[]) ∧ w' = w.drew.setCell a (.int .u32 1)) := by
  have hc' : w.drew.cell? a = some x := by go_simp
  have hz' : w.drew.frozen? a = false := by go_simp
  have hst := run_call_store (P := Tryz.prog) Tryz.func310 (by kernel_rfl) (by kernel_rfl) (by kernel_rfl) (by kernel_rfl) (k := .u32) (y := 1) hc' hz'
  go_enter_d Tryz.func277, Tryz.ntmps277
  go_wp2
  go_region_calls
  all_goals (go_end0; exact ⟨rfl, rfl⟩)
theorem unlock_deferred (a : Addr) (u : FrameMode) (w : World) (hc : w.cell? a = some (.int .i32 1)) (hz : w.frozen? a = false) :
    CallsD Tryz.prog 276 #[.pointer (some a)] u w fun e u' w' => u' = u ∧ (e = .returned (.tuple #[]) ∧ w' = w.setCell a (.int .i32 0)) := by
  have hd := on_disable
  have he := on_enable
  have hr := on_releaseMerge
  have hadd := run_call_add (P := Tryz.prog) Tryz.func356 (by kernel_rfl) (by kernel_rfl) (by kernel_rfl) .i32 (by kernel_rfl) (y := -1) (s := 0) hc hz (by simp [go_sem]; rfl)
  have hcv := run_convert_to_unsafe (P := Tryz.prog) (src := 429) (dst := 433) Tryz.underlying429 Tryz.underlying433 (by kernel_rfl) hc
  go_enter_d Tryz.func276, Tryz.ntmps276
  go_wp2
  go_end0
  go_wp2
  go_end0
  exact ⟨rfl, rfl⟩
theorem lock_free (a : Addr) (w : World) (hc : w.cell? a = some (.int .i32 0)) (hz : w.frozen? a = false) :
    Calls Tryz.prog 275 #[.pointer (some a)] w fun e w' => e = .returned (.tuple #[]) ∧ w' = w.setCell a (.int .i32 1) := by
  have hd := on_disable
  have he := on_enable
  have ha := on_acquire
  have hcas := run_call_cas_hit (P := Tryz.prog) Tryz.func351 (by kernel_rfl) (by kernel_rfl) (by kernel_rfl) .i32 (by kernel_rfl) (y := 1) hc hz
  have hc' : (w.setCell a (.int .i32 1)).cell? a = some (.int .i32 1) := World.cell?_setCell_same w a _ hc
  have hcv := run_convert_to_unsafe (P := Tryz.prog) (src := 429) (dst := 433) Tryz.underlying429 Tryz.underlying433 (by kernel_rfl) hc'
  go_enter Tryz.func275, Tryz.ntmps275
  go_wp2
  first | go_end0 | (simp only [Exit.inBlock, Exit.then]; refine bodyPost_ret (results_none rfl _ _ _) rfl ?_) | refine bodyPost_ret (results_none rfl _ _ _) rfl ?_
  go_wp2
  go_end0
  exact ⟨rfl, rfl⟩
end Go.Proofs.YtmhinddneefmbaaGreat.Pe
