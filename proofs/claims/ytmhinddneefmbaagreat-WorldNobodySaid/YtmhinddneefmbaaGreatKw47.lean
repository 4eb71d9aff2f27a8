/- A part of the proof of JbH. -/
import Derived.Test.YtmhinddneefmbaaGreatRows
import Derived.Test.YtmhinddneefmbaaGreatKw31
import Derived.Test.YtmhinddneefmbaaGreatKw43
import Derived.Test.YtmhinddneefmbaaGreatKw46
set_option linter.unusedSimpArgs false
set_option linter.unusedVariables false
set_option linter.unusedSectionVars false
namespace Go.Proofs.YtmhinddneefmbaaGreat.Pe
open Go
set_option maxRecDepth 100000
noncomputable def bsL5 : List (Nat × FnS) := [(awake21N, .eff awX), (newN, .eff newY), (sizeN, .eff sizeX), (loadN, .eff loadX), (storeN, .eff storeX), (formatN, .eff formatY), (ldN, .eff ldX)]
theorem bsL5_ok : AllBs Tryz.prog bsL5 := ⟨⟨aw21_ok, by kernel_rfl⟩, ⟨newY_ok, by kernel_rfl⟩, ⟨size_ok, by kernel_rfl⟩, ⟨load_ok, by kernel_rfl⟩, ⟨store_ok, by kernel_rfl⟩, ⟨formatY_ok, by kernel_rfl⟩, ⟨ld_ok, by kernel_rfl⟩, trivial⟩
noncomputable def pbL5 : List (Nat × PF) := [(newN, newP), (loadN, loadP), (storeN, storeP), (sizeN, sizeP), (formatN, formatQ)]
noncomputable def S5 : SysP := { sysOf (mkTr ttL) (mkTr ezL) (mkTr fnL) (mkTr bsL5) with pb := pbOf pbL5 }
theorem S5_ok : SysOk S5.toSys Tryz.prog := sysOf_ok mixed ttL_ok (by kernel_rfl) ezL_ok (by kernel_rfl) fnL_ok (by kernel_rfl) bsL5_ok (by kernel_rfl)
theorem S5_pb : PbOk S5 := ⟨fun f G h => by
  have h := pbOf_mem (l := pbL5) h
  simp only [pbL5, List.mem_cons, List.not_mem_nil, or_false, Prod.mk.injEq] at h
  rcases h with ⟨rfl, rfl⟩ | ⟨rfl, rfl⟩ | ⟨rfl, rfl⟩ | ⟨rfl, rfl⟩ | ⟨rfl, rfl⟩
  · exact ⟨newY, by kernel_rfl, newP_ok⟩
  · exact ⟨loadX, by kernel_rfl, loadP_ok⟩
  · exact ⟨storeX, by kernel_rfl, storeP_ok⟩
  · exact ⟨sizeX, by kernel_rfl, sizeP_ok⟩
  · exact ⟨formatY, by kernel_rfl, formatQ_ok⟩⟩
abbrev wnN : Nat := 3
noncomputable abbrev wnR (n m : Nat) (c : Int) (orc : List (Nat × HT)) : Option ((RV × Hp × Nat) × TL) := (evt S5 3000).fn wnN [.one (.int .u64 (.ofNat n)), .one (.int .u64 (.ofNat m)), .one (.int .i64 c)] (.tr .leaf) 0 ⟨0, orc, [], [], [], []⟩
end Go.Proofs.YtmhinddneefmbaaGreat.Pe
namespace Go.Proofs.YtmhinddneefmbaaGreat.Pe
open Go
set_option maxRecDepth 100000
noncomputable def outR (x : Option ((RV × Hp × Nat) × TL)) : Option (RV × Bool) := x.bind fun x => some (x.1.1, allB x.2.cs)
theorem outR_run {P : Program} {S : SysP} (hS : SysOk S.toSys P) (hP : PbOk S) {k f : Nat} (hf : (S.tab f).isSome = true) {ads : List AD} {H : Hp} {nx : Nat} {T : TL} {r : RV} {c : Bool} (h : outR ((evt S k).fn f ads H nx T) = some (r, c)) (hc : c = true) (he : eqL ((evt S k).fn f ads H nx T) = eqR ((evt S k).fn f ads H nx T)) (hh : ((evt S k).fn f ads H nx T).map (fun x => x.2.hs) = some []) :
    ∃ K m, RunAt P f ads H nx r K m := by
  unfold outR at h
  unfold eqL eqR at he
  cases hx : (evt S k).fn f ads H nx T with
  | none => rw [hx] at h; cases h
  | some x =>
    obtain ⟨⟨r', K, m'⟩, T'⟩ := x
    rw [hx] at h he hh
    have h : some (r', allB T'.cs) = some (r, c) := h
    simp only [Option.some.injEq, Prod.mk.injEq] at h
    obtain ⟨rfl, h4⟩ := h
    simp only [Option.map_some, Option.some.injEq] at he hh
    exact ⟨K, m', fn_runAt hS hP hf hx ⟨allB_all (h4.trans hc), map_pairs he, by rw [hh]; intro p hp; cases hp⟩⟩
noncomputable abbrev yes : RV := .a (.one (.bool true))
noncomputable abbrev hsOf (x : Option ((RV × Hp × Nat) × TL)) : Option (List (AV × AV)) := x.map fun x => x.2.hs
theorem wn1 (n m : Nat) (c : Int) : outR (wnR n m c [(0, false), (2, false)]) = some (yes, allB [not (Nat.beq (Nat.mod n 16) 0), true, not (okS m)]) := by kernel_rfl
theorem wn1e (n m : Nat) (c : Int) : eqL (wnR n m c [(0, false), (2, false)]) = eqR (wnR n m c [(0, false), (2, false)]) := by kernel_rfl
theorem wn1h (n m : Nat) (c : Int) : hsOf (wnR n m c [(0, false), (2, false)]) = some [] := by kernel_rfl
theorem wn2 (n m : Nat) (c : Int) : outR (wnR n m c [(0, false), (2, true), (3, false)]) = some (yes, allB [not (Nat.ble 3824 n), Nat.beq (Nat.mod n 16) 0, true, not (okS m)]) := by kernel_rfl
theorem wn2e (n m : Nat) (c : Int) : eqL (wnR n m c [(0, false), (2, true), (3, false)]) = eqR (wnR n m c [(0, false), (2, true), (3, false)]) := by kernel_rfl
theorem wn2h (n m : Nat) (c : Int) : hsOf (wnR n m c [(0, false), (2, true), (3, false)]) = some [] := by kernel_rfl
theorem wn3 (n m : Nat) (c : Int) : outR (wnR n m c [(0, false), (2, true), (3, true), (4, false)]) = some (yes, allB [not (Nat.ble n m), Nat.ble 3824 n, Nat.beq (Nat.mod n 16) 0, true, not (okS m)]) := by kernel_rfl
theorem wn3e (n m : Nat) (c : Int) : eqL (wnR n m c [(0, false), (2, true), (3, true), (4, false)]) = eqR (wnR n m c [(0, false), (2, true), (3, true), (4, false)]) := by kernel_rfl
theorem wn3h (n m : Nat) (c : Int) : hsOf (wnR n m c [(0, false), (2, true), (3, true), (4, false)]) = some [] := by kernel_rfl
theorem wn4 (n m : Nat) (c : Int) : outR (wnR n m c [(0, false), (2, true), (3, true), (4, true), (5, false)]) = some (yes, allB [not (Nat.beq (Nat.mod m 8) 0), true, Nat.ble n m, Nat.ble 3824 n, Nat.beq (Nat.mod n 16) 0, true, not (okS m)]) := by kernel_rfl
theorem wn4e (n m : Nat) (c : Int) : eqL (wnR n m c [(0, false), (2, true), (3, true), (4, true), (5, false)]) = eqR (wnR n m c [(0, false), (2, true), (3, true), (4, true), (5, false)]) := by kernel_rfl
theorem wn4h (n m : Nat) (c : Int) : hsOf (wnR n m c [(0, false), (2, true), (3, true), (4, true), (5, false)]) = some [] := by kernel_rfl
theorem wn5 (n m : Nat) (c : Int) : outR (wnR n m c [(0, false), (2, true), (3, true), (4, true), (5, true), (6, false)]) = some (yes, allB [not (Nat.ble m 1048576), Nat.beq (Nat.mod m 8) 0, true, Nat.ble n m, Nat.ble 3824 n, Nat.beq (Nat.mod n 16) 0, true, not (okS m)]) := by kernel_rfl
theorem wn5e (n m : Nat) (c : Int) : eqL (wnR n m c [(0, false), (2, true), (3, true), (4, true), (5, true), (6, false)]) = eqR (wnR n m c [(0, false), (2, true), (3, true), (4, true), (5, true), (6, false)]) := by kernel_rfl
theorem wn5h (n m : Nat) (c : Int) : hsOf (wnR n m c [(0, false), (2, true), (3, true), (4, true), (5, true), (6, false)]) = some [] := by kernel_rfl
theorem wn6 (n m : Nat) (c : Int) : outR (wnR n m c [(0, true), (1, false), (3, false)]) = some (yes, allB [not (Nat.beq (Nat.mod n 16) 0), true, Nat.beq m m, Nat.beq (Nat.mod m 8) 0, Nat.ble m 1000000000, true, true, not (fitsA m n), okS m]) := by kernel_rfl
theorem wn6e (n m : Nat) (c : Int) : eqL (wnR n m c [(0, true), (1, false), (3, false)]) = eqR (wnR n m c [(0, true), (1, false), (3, false)]) := by kernel_rfl
theorem wn6h (n m : Nat) (c : Int) : hsOf (wnR n m c [(0, true), (1, false), (3, false)]) = some [] := by kernel_rfl
theorem wn7 (n m : Nat) (c : Int) : outR (wnR n m c [(0, true), (1, false), (3, true), (4, false)]) = some (yes, allB [not (Nat.ble 3824 n), Nat.beq (Nat.mod n 16) 0, true, Nat.beq m m, Nat.beq (Nat.mod m 8) 0, Nat.ble m 1000000000, true, true, not (fitsA m n), okS m]) := by kernel_rfl
theorem wn7e (n m : Nat) (c : Int) : eqL (wnR n m c [(0, true), (1, false), (3, true), (4, false)]) = eqR (wnR n m c [(0, true), (1, false), (3, true), (4, false)]) := by kernel_rfl
theorem wn7h (n m : Nat) (c : Int) : hsOf (wnR n m c [(0, true), (1, false), (3, true), (4, false)]) = some [] := by kernel_rfl
theorem wn8 (n m : Nat) (c : Int) : outR (wnR n m c [(0, true), (1, false), (3, true), (4, true), (5, false)]) = some (yes, allB [not (Nat.ble n m), Nat.ble 3824 n, Nat.beq (Nat.mod n 16) 0, true, Nat.beq m m, Nat.beq (Nat.mod m 8) 0, Nat.ble m 1000000000, true, true, not (fitsA m n), okS m]) := by kernel_rfl
theorem wn8e (n m : Nat) (c : Int) : eqL (wnR n m c [(0, true), (1, false), (3, true), (4, true), (5, false)]) = eqR (wnR n m c [(0, true), (1, false), (3, true), (4, true), (5, false)]) := by kernel_rfl
theorem wn8h (n m : Nat) (c : Int) : hsOf (wnR n m c [(0, true), (1, false), (3, true), (4, true), (5, false)]) = some [] := by kernel_rfl
theorem wn9 (n m : Nat) (c : Int) : outR (wnR n m c [(0, true), (1, true), (3, true), (4, true), (5, true), (6, true), (7, true), (31, true), (39, false), (47, false), (55, false), (63, false), (71, false), (79, false), (87, false), (95, false)]) = some (yes, allB [true, not (Nat.beq (wordX (fmtT n) 372) 2), Nat.beq m m, Nat.beq (Nat.mod m 8) 0, Nat.ble m 1000000000, inW 2976 m, Nat.blt (wordX (fmtT n) 372) 18446744073709551616, true, true, true, true, true, not (Nat.beq (wordX (fmtT n) 320) 2), Nat.beq m m, Nat.beq (Nat.mod m 8) 0, Nat.ble m 1000000000, inW 2560 m, Nat.blt (wordX (fmtT n) 320) 18446744073709551616, true, true, true, true, true, not (Nat.beq (wordX (fmtT n) 268) 2), Nat.beq m m, Nat.beq (Nat.mod m 8) 0, Nat.ble m 1000000000, inW 2144 m, Nat.blt (wordX (fmtT n) 268) 18446744073709551616, true, true, true, true, true, not (Nat.beq (wordX (fmtT n) 216) 2), Nat.beq m m, Nat.beq (Nat.mod m 8) 0, Nat.ble m 1000000000, inW 1728 m, Nat.blt (wordX (fmtT n) 216) 18446744073709551616, true, true, true, true, true, not (Nat.beq (wordX (fmtT n) 164) 2), Nat.beq m m, Nat.beq (Nat.mod m 8) 0, Nat.ble m 1000000000, inW 1312 m, Nat.blt (wordX (fmtT n) 164) 18446744073709551616, true, true, true, true, true, not (Nat.beq (wordX (fmtT n) 112) 2), Nat.beq m m, Nat.beq (Nat.mod m 8) 0, Nat.ble m 1000000000, inW 896 m, Nat.blt (wordX (fmtT n) 112) 18446744073709551616, true, true, true, true, true, not (Nat.beq (wordX (fmtT n) 60) 2), Nat.beq m m, Nat.beq (Nat.mod m 8) 0, Nat.ble m 1000000000, inW 480 m, Nat.blt (wordX (fmtT n) 60) 18446744073709551616, true, true, true, true, true, not (Nat.beq (wordX (fmtT n) 8) 2), Nat.beq m m, Nat.beq (Nat.mod m 8) 0, Nat.ble m 1000000000, inW 64 m, Nat.blt (wordX (fmtT n) 8) 18446744073709551616, true, true, true, true, Nat.blt (wordX (fmtT n) 3) 1, Nat.beq m m, Nat.beq (Nat.mod m 8) 0, Nat.ble m 1000000000, inW 24 m, Nat.blt (wordX (fmtT n) 3) 18446744073709551616, Nat.ble m 1048576, Nat.beq (Nat.mod m 8) 0, true, Nat.ble n m, Nat.ble 3824 n, Nat.beq (Nat.mod n 16) 0, true, Nat.beq m m, Nat.beq (Nat.mod m 8) 0, Nat.ble m 1000000000, true, true, fitsA m n, okS m]) := by kernel_rfl
theorem wn9e (n m : Nat) (c : Int) : eqL (wnR n m c [(0, true), (1, true), (3, true), (4, true), (5, true), (6, true), (7, true), (31, true), (39, false), (47, false), (55, false), (63, false), (71, false), (79, false), (87, false), (95, false)]) = eqR (wnR n m c [(0, true), (1, true), (3, true), (4, true), (5, true), (6, true), (7, true), (31, true), (39, false), (47, false), (55, false), (63, false), (71, false), (79, false), (87, false), (95, false)]) := by kernel_rfl
theorem wn9h (n m : Nat) (c : Int) : hsOf (wnR n m c [(0, true), (1, true), (3, true), (4, true), (5, true), (6, true), (7, true), (31, true), (39, false), (47, false), (55, false), (63, false), (71, false), (79, false), (87, false), (95, false)]) = some [] := by kernel_rfl
theorem fmtT_zero {n k : Nat} (h : 3824 ≤ n) (hb : n ≤ 1000000000) (hk : k < 472) (h0 : k ≠ 0) (h1 : k ≠ 1) (h2 : k ≠ 2) (h4 : k ≠ 4) (h5 : k ≠ 5) : wordX (fmtT n) k = 0 := by
  rw [wordX_eq]
  unfold fmtT
  have e8 : Nat.div (Nat.sub n 8) 8 < 1000000000 := by show (n - 8) / 8 < _; omega
  have e9 : k ≠ Nat.div (Nat.sub n 8) 8 := by show k ≠ (n - 8) / 8; omega
  rw [Tr.get_set _ _ _ _ (by omega), if_neg e9, Tr.get_set _ _ _ _ (by omega), if_neg (by omega), Tr.get_set _ _ _ _ (by omega), if_neg h5, Tr.get_set _ _ _ _ (by omega), if_neg h4, Tr.get_set _ _ _ _ (by omega), if_neg h2, Tr.get_set _ _ _ _ (by omega), if_neg h1, Tr.get_set _ _ _ _ (by omega), if_neg h0]
  rfl
theorem okS_true {m : Nat} (h0 : 0 < m) (h1 : m % 8 = 0) (h2 : m ≤ 1048576) : okS m = true := by
  unfold okS
  rw [ne_ (show ¬ m = 0 by omega), te (show Nat.mod m 8 = 0 from h1), nb (show ¬ 1048576 < m by omega)]
  rfl
theorem okS_some {m : Nat} (h : okS m = true) : 0 < m ∧ m % 8 = 0 ∧ m ≤ 1048576 := by
  unfold okS at h
  by_cases h0 : m = 0
  · rw [te h0] at h; cases h
  · rw [ne_ h0] at h
    obtain ⟨c1, c2⟩ := br2 (show br (Nat.beq (Nat.mod m 8) 0) (not (Nat.blt 1048576 m)) false = true from h)
    refine ⟨by omega, Nat.eq_of_beq_eq_true c1, Nat.le_of_not_lt fun h => ?_⟩
    rw [tb h] at c2; cases c2
theorem wn_conds {l : List Bool} (h : ∀ c ∈ l, c = true) : allB l = true := allB_of h
theorem worldNobody_run (n m : Nat) (c : Int) : ∃ H' nx', RunAt Tryz.prog wnN [.one (.int .u64 (.ofNat n)), .one (.int .u64 (.ofNat m)), .one (.int .i64 c)] (.tr .leaf) 0 yes H' nx' := by
  have hf : (S5.tab wnN).isSome = true := by kernel_rfl
  have fl : ∀ {b : Bool}, b = false → (not b) = true := fun h => by rw [h]; rfl
  cases ho : okS m with
  | false =>
    cases c1 : Nat.beq (Nat.mod n 16) 0 with
    | false => exact outR_run S5_ok S5_pb hf (wn1 n m c) (allB_of (cons_ok (fl c1) (cons_ok rfl (cons_ok (fl ho) nil_ok)))) (wn1e n m c) (wn1h n m c)
    | true =>
      cases c2 : Nat.ble 3824 n with
      | false => exact outR_run S5_ok S5_pb hf (wn2 n m c) (allB_of (cons_ok (fl c2) (cons_ok c1 (cons_ok rfl (cons_ok (fl ho) nil_ok))))) (wn2e n m c) (wn2h n m c)
      | true =>
        cases c3 : Nat.ble n m with
        | false => exact outR_run S5_ok S5_pb hf (wn3 n m c) (allB_of (cons_ok (fl c3) (cons_ok c2 (cons_ok c1 (cons_ok rfl (cons_ok (fl ho) nil_ok)))))) (wn3e n m c) (wn3h n m c)
        | true =>
          cases c4 : Nat.beq (Nat.mod m 8) 0 with
          | false => exact outR_run S5_ok S5_pb hf (wn4 n m c) (allB_of (cons_ok (fl c4) (cons_ok rfl (cons_ok c3 (cons_ok c2 (cons_ok c1 (cons_ok rfl (cons_ok (fl ho) nil_ok)))))))) (wn4e n m c) (wn4h n m c)
          | true =>
            cases c5 : Nat.ble m 1048576 with
            | false => exact outR_run S5_ok S5_pb hf (wn5 n m c) (allB_of (cons_ok (fl c5) (cons_ok c4 (cons_ok rfl (cons_ok c3 (cons_ok c2 (cons_ok c1 (cons_ok rfl (cons_ok (fl ho) nil_ok))))))))) (wn5e n m c) (wn5h n m c)
            | true =>
              have a2 := Nat.le_of_ble_eq_true c2
              have a3 := Nat.le_of_ble_eq_true c3
              rw [okS_true (by omega) (Nat.eq_of_beq_eq_true c4) (Nat.le_of_ble_eq_true c5)] at ho
              cases ho
  | true =>
    obtain ⟨b0, b1, b2⟩ := okS_some ho
    have d1 : Nat.beq m m = true := te rfl
    have d2 : Nat.beq (Nat.mod m 8) 0 = true := te b1
    have d3 : Nat.ble m 1000000000 = true := tl (by omega)
    cases hfit : fitsA m n with
    | false =>
      have hfit' := hfit
      unfold fitsA at hfit'
      cases c1 : Nat.beq (Nat.mod n 16) 0 with
      | false => exact outR_run S5_ok S5_pb hf (wn6 n m c) (allB_of (cons_ok (fl c1) (cons_ok rfl (cons_ok d1 (cons_ok d2 (cons_ok d3 (cons_ok rfl (cons_ok rfl (cons_ok (fl hfit) (cons_ok ho nil_ok)))))))))) (wn6e n m c) (wn6h n m c)
      | true =>
        rw [c1] at hfit'
        cases c2 : Nat.ble 3824 n with
        | false => exact outR_run S5_ok S5_pb hf (wn7 n m c) (allB_of (cons_ok (fl c2) (cons_ok c1 (cons_ok rfl (cons_ok d1 (cons_ok d2 (cons_ok d3 (cons_ok rfl (cons_ok rfl (cons_ok (fl hfit) (cons_ok ho nil_ok))))))))))) (wn7e n m c) (wn7h n m c)
        | true =>
          rw [c2] at hfit'
          have c3 : Nat.ble n m = false := hfit'
          exact outR_run S5_ok S5_pb hf (wn8 n m c) (allB_of (cons_ok (fl c3) (cons_ok c2 (cons_ok c1 (cons_ok rfl (cons_ok d1 (cons_ok d2 (cons_ok d3 (cons_ok rfl (cons_ok rfl (cons_ok (fl hfit) (cons_ok ho nil_ok)))))))))))) (wn8e n m c) (wn8h n m c)
    | true =>
      obtain ⟨f1, f2, f3⟩ := fitsA_some hfit
      have w : ∀ k, k < 472 → k ≠ 0 → k ≠ 1 → k ≠ 2 → k ≠ 4 → k ≠ 5 → wordX (fmtT n) k = 0 := fun k a b c d e f => fmtT_zero f2 (by omega) a b c d e f
      have ow : ∀ k, 8 * k < 3824 → inW (8 * k) m = true := fun k h => inW_8 (by omega)
      refine outR_run S5_ok S5_pb hf (wn9 n m c) (allB_of ?_) (wn9e n m c) (wn9h n m c)
      rw [w 3 (by omega) (by omega) (by omega) (by omega) (by omega) (by omega), w 8 (by omega) (by omega) (by omega) (by omega) (by omega) (by omega), w 60 (by omega) (by omega) (by omega) (by omega) (by omega) (by omega), w 112 (by omega) (by omega) (by omega) (by omega) (by omega) (by omega), w 164 (by omega) (by omega) (by omega) (by omega) (by omega) (by omega), w 216 (by omega) (by omega) (by omega) (by omega) (by omega) (by omega), w 268 (by omega) (by omega) (by omega) (by omega) (by omega) (by omega), w 320 (by omega) (by omega) (by omega) (by omega) (by omega) (by omega), w 372 (by omega) (by omega) (by omega) (by omega) (by omega) (by omega), show inW 24 m = true from ow 3 (by omega), show inW 64 m = true from ow 8 (by omega), show inW 480 m = true from ow 60 (by omega), show inW 896 m = true from ow 112 (by omega), show inW 1312 m = true from ow 164 (by omega), show inW 1728 m = true from ow 216 (by omega), show inW 2144 m = true from ow 268 (by omega), show inW 2560 m = true from ow 320 (by omega), show inW 2976 m = true from ow 372 (by omega), d1, d2, d3, tl b2, tl f3, tl f2, te (show Nat.mod n 16 = 0 from f1), hfit, ho]
      exact allB_all rfl
end Go.Proofs.YtmhinddneefmbaaGreat.Pe
namespace Go.Proofs.YtmhinddneefmbaaGreat
namespace Pe
open Go Go.ChangeShapes Go.WideShapes Go.ChangeAt Go.RowKit
theorem nat_of_u64 {x : Int} (h : (Lit.int .u64 x).wf = true) : ∃ n : Nat, x = Int.ofNat n ∧ n < 18446744073709551616 := by
  have h' : 0 ≤ x ∧ x < 18446744073709551616 := by
    have := bounds_u64 h
    omega
  exact ⟨x.toNat, by show x = ((x.toNat : Nat) : Int); omega, by omega⟩
set_option maxRecDepth 100000 in
theorem worldNobody_lifted (os : Os) (started : os.Started) (H : Type) (enc : TypeId × Value → H) :
    ReturnsInHanded {} Tryz.checked os 3 .any (Rows.worldNobodySpec.pre6 enc Tryz.prog Tryz.f3 Rows.worldNobodyRow.domain false) (Rows.worldNobodySpec.post enc Tryz.prog Tryz.f3 false true false false) := by
  refine returnsInHanded_of_change (C := Tryz.checked) own started (by kernel_rfl) Tryz.func3
    (ChangeSpec.witness6 (enc := enc) (C := Tryz.checked) false ⟨#[], #[.int .u64 0, .int .u64 0, .int .i64 0], []⟩ 8 (by kernel_rfl) (by kernel_rfl) (by kernel_rfl) (by kernel_rfl)) ?_
  intro W base args ds gs before hval0 hW hcnd _
  have hval : ∀ (j : Nat) t v, Tryz.f3.params[j]? = some t → args[j]? = some v → Value.okWide Tryz.prog W .any base t v := hval0
  have hW' := hW
  obtain ⟨p, q, hA0, hV, rfl, hfz, hnd⟩ := hW
  have hA : DataW.TrodAll enc Tryz.prog W 0 (fun _ => true) true Tryz.f3.params.toList args.toList ds p := hA0
  rw [Tryz.params3] at hA hval
  obtain ⟨v0, vs0, d0, ds0, p0, q0, hargs, rfl, rfl, h0, r0⟩ := trodAll_cons hA
  obtain ⟨v1, vs1, d1, ds1, p1, q1, rfl, rfl, rfl, h1, r1⟩ := trodAll_cons r0
  obtain ⟨v2, vs2, d2, ds2, p2, q2, rfl, rfl, rfl, h2, r2⟩ := trodAll_cons r1
  obtain ⟨rfl, rfl, rfl⟩ := trodAll_nil r2
  obtain rfl : args = #[v0, v1, v2] := by cases args; simp_all
  obtain ⟨rfl, rfl⟩ := trodVars_none hV
  have k0 := h0
  have k1 := h1
  have k2 := h2
  have lt0 : ∀ x ∈ p0, x.block < W.heap.size := by obtain ⟨m, hm⟩ := k0; exact DataW.trod_lt m _ _ _ hm
  have lt1 : ∀ x ∈ p1, x.block < W.heap.size := by obtain ⟨m, hm⟩ := k1; exact DataW.trod_lt m _ _ _ hm
  have lt2 : ∀ x ∈ p2, x.block < W.heap.size := by obtain ⟨m, hm⟩ := k2; exact DataW.trod_lt m _ _ _ hm
  obtain ⟨x, rfl, rfl, rfl, wx⟩ := open_int Tryz.underlying22 (hval 0 22 v0 rfl rfl) h0
  obtain ⟨y, rfl, rfl, rfl, wy⟩ := open_int Tryz.underlying22 (hval 1 22 v1 rfl rfl) h1
  obtain ⟨z, rfl, rfl, rfl, wz⟩ := open_int Tryz.underlying3 (hval 2 3 v2 rfl rfl) h2
  clear hA0 hval0
  obtain ⟨n, rfl, hn⟩ := nat_of_u64 wx
  obtain ⟨m, rfl, hm⟩ := nat_of_u64 wy
  obtain ⟨H', nx', hrun⟩ := worldNobody_run n m z
  refine (law_run hrun (vals := #[.int .u64 (Int.ofNat n), .int .u64 (Int.ofNat m), .int .i64 z]) rfl (fun j v a hv ha => ?_)).mono fun e W' ⟨he, bel⟩ => ?_
  · match j with
    | 0 => simp at hv ha; subst hv ha; exact Rd.int _ _
    | 1 => simp at hv ha; subst hv ha; exact Rd.int _ _
    | 2 => simp at hv ha; subst hv ha; exact Rd.int _ _
    | j + 3 => simp at hv
  subst he
  exact ⟨_, rfl, _, _, _, [], _, [], hW', trodAll_mk1 (shut_bool Tryz.underlying4 _), (trodAll_cons_mk (Below.trod laidOut (by kernel_rfl) (of_decide_eq_true (by kernel_rfl)) k0 bel lt0) (trodAll_cons_mk (Below.trod laidOut (by kernel_rfl) (of_decide_eq_true (by kernel_rfl)) k1 bel lt1) (trodAll_cons_mk (Below.trod laidOut (by kernel_rfl) (of_decide_eq_true (by kernel_rfl)) k2 bel lt2) trodAll_mk0))), rfl, bel.frame _, fun h => by cases h⟩
end Pe
end Go.Proofs.YtmhinddneefmbaaGreat
