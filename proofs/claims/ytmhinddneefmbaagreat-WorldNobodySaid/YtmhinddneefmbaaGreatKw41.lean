/- A part of the proof of JbH. -/
import Derived.Test.YtmhinddneefmbaaGreatKw40
set_option linter.unusedSimpArgs false
set_option linter.unusedVariables false
set_option linter.unusedSectionVars false
namespace Go.Proofs.YtmhinddneefmbaaGreat.Pe
open Go
set_option maxRecDepth 100000
noncomputable def fB : Code := bodyOf Tryz.f34
noncomputable def f0 : Code := cA fB
noncomputable def f1 : Code := cA (cB fB)
noncomputable def f2 : Code := cA (cA (cB (cB fB)))
noncomputable def f3 : Code := cB (cA (cB (cB fB)))
noncomputable def f4 : Code := cB (cB (cB fB))
noncomputable def fL : Code := cA (cA f3)
theorem fB_eq : fB = .seq f0 (.seq f1 (.seq (.seq f2 f3) f4)) := by kernel_rfl
theorem f3_eq : f3 = .block 1 (.loop fL) := by kernel_rfl
noncomputable def HF (N : Nat) (e1 e5 : Option Nat) (t : Tr Nat) : Hp := .tr (.node (some ⟨e5, 0, [[.wds t N]]⟩) (.node (some ⟨e1, 1, [[.ref 0 1 0 N]]⟩) .leaf .leaf) (.node (some ⟨none, 1, [[.ptr 1 1 0 0]]⟩) .leaf .leaf))
noncomputable def lA (n : Nat) : List (Nat × AV) := [(1, .v (.one (.int .u64 (.ofNat n)))), (2, .v (.one (.ptr 2 1 0 0))), (4, .v (.one (.int .i64 0)))]
noncomputable def lC (n off : Nat) : List (Nat × AV) := [(1, .v (.one (.int .u64 (.ofNat n)))), (2, .v (.one (.ptr 2 1 0 0))), (4, .v (.one (.int .i64 0))), (5, .v (.one (.int .u64 (.ofNat off))))]
noncomputable def fmtS (t : Tr Nat) (n a b c : Nat) : Tr Nat := (((((((t.set (some 7161130718081542961) 30 0).set (some 1) 30 1).set (some n) 30 2).set (some 3776) 30 4).set (some c) 30 5).set (some a) 30 472).set (some a) 30 b)
section
variable (N : Nat) (e1 e5 : Option Nat) (n : Nat) (t : Tr Nat) (off : Nat)
noncomputable def okN (N : Nat) : List Bool := [Nat.beq N N, Nat.beq (Nat.mod N 8) 0, Nat.ble N 1000000000]
theorem okN_ok {N : Nat} (h1 : N % 8 = 0) (h2 : N ≤ 1000000000) : ∀ c ∈ okN N, c = true := fun c hc => by
  simp only [okN, List.mem_cons, List.not_mem_nil, or_false] at hc
  rcases hc with h | h | h <;> subst h
  · exact te rfl
  · exact te h1
  · exact tl h2
theorem fr0 : outC ((lA n).map fun p => p.1) ((evt S2 40).code 49 none f0 ⟨startS [.one (.ptr 1 1 0 0), .one (.int .u64 (.ofNat n))] 0 .leaf, segW e1 e5 t N, 2⟩ ⟨0, [], [], [], [], []⟩) = some (.normal, (lA n).map (fun p => some p.2), HF N e1 e5 t, 3, true, []) := by kernel_rfl
theorem fr1 : outC ((lA n).map fun p => p.1) ((evt S2 40).code 49 none f1 (mkS (lA n) (HF N e1 e5 t) 3) ⟨0, [(1, true), (2, true), (3, true)], [], [], [], []⟩) = some (.normal, (lA n).map (fun p => some p.2), HF N e1 e5 t, 3, allB [Nat.ble n N, Nat.ble 3824 n, Nat.beq (Nat.mod n 16) 0, Nat.beq N N, Nat.ble N 1000000000], []) := by kernel_rfl
theorem fr2 : outC ((lC n 0).map fun p => p.1) ((evt S2 40).code 49 none f2 (mkS (lA n) (HF N e1 e5 t) 3) ⟨0, [], [], [], [], []⟩) = some (.normal, (lC n 0).map (fun p => some p.2), HF N e1 e5 t, 3, true, []) := by kernel_rfl
theorem frL : outC ((lC n off).map fun p => p.1) ((evt S2 40).code 49 none fL (mkS (lC n off) (HF N e1 e5 t) 3) ⟨0, [(0, true)], [], [], [], []⟩) = some (.normal, (lC n (Nat.add off 8)).map (fun p => some p.2), HF N e1 e5 (t.set (some 0) 30 (Nat.div off 8)), 3, allB ([Nat.blt (Nat.add off 8) 18446744073709551616] ++ okN N ++ [inW off N, Nat.blt off N, Nat.beq N N, Nat.ble N 1000000000]), []) := by kernel_rfl
theorem frX : outC ((lC n off).map fun p => p.1) ((evt S2 40).code 49 none fL (mkS (lC n off) (HF N e1 e5 t) 3) ⟨0, [(0, false)], [], [], [], []⟩) = some (.exit 1, (lC n off).map (fun p => some p.2), HF N e1 e5 t, 3, allB [not (Nat.blt off N), Nat.beq N N, Nat.ble N 1000000000], []) := by kernel_rfl
theorem fr4 : outC [4] ((evt S2 60).code 49 none f4 (mkS (lC n N) (HF N e1 e5 t) 3) ⟨0, [], [], [], [], []⟩) = some (.ret, [some (.v (.one (.int .i64 0)))], HF N e1 e5 (fmtS t n (Nat.sub n 3776) (Nat.div (Nat.sub n 8) 8) (sumN n)), 3,
    allB (okN N ++ [inW (Nat.sub n 8) N, Nat.ble 3776 n, Nat.blt n 18446744073709551616, Nat.ble 8 n, Nat.blt n 18446744073709551616] ++ okN N ++ [inW 3776 N, Nat.ble 3776 n, Nat.blt n 18446744073709551616] ++ okN N ++ [inW 40 N, true, Nat.blt n 18446744073709551616] ++ okN N ++ [inW 32 N] ++ okN N ++ [inW 16 N] ++ okN N ++ [inW 8 N] ++ okN N ++ [inW 0 N]), []) := by kernel_rfl
end
noncomputable def zs : Nat → Tr Nat → Tr Nat
  | 0, t => t
  | k + 1, t => (zs k t).set (some 0) 30 k
theorem zs_get : ∀ (m : Nat) (t : Tr Nat) (k : Nat), m ≤ 1000000000 → ((zs m t).get k).getD 0 = if k < m then 0 else (t.get k).getD 0
  | 0, t, k, _ => by rw [if_neg (by omega)]; rfl
  | m + 1, t, k, h => by
    unfold zs
    rw [Tr.get_set _ _ _ _ (by omega)]
    by_cases e : k = m
    · rw [if_pos e, if_pos (by omega)]; rfl
    · rw [if_neg e, zs_get m t k (by omega)]
      by_cases h2 : k < m
      · rw [if_pos h2, if_pos (by omega)]
      · rw [if_neg h2, if_neg (by omega)]
theorem inW_8 {k n : Nat} (h : 8 * k < n) : inW (8 * k) n = true := by
  unfold inW
  have a1 : Nat.mod (8 * k) 8 = 0 := by show (8 * k) % 8 = 0; omega
  have a2 : Nat.blt (8 * k) n = true := Nat.ble_eq_true_of_le (by omega)
  rw [a1, a2]; rfl
theorem app_ok {l m : List Bool} (h : ∀ c ∈ l, c = true) (k : ∀ c ∈ m, c = true) : ∀ c ∈ l ++ m, c = true := fun c hc => by
  rcases List.mem_append.1 hc with h' | h'
  · exact h c h'
  · exact k c h'
theorem nil_ok : ∀ c ∈ ([] : List Bool), c = true := fun c hc => by cases hc
theorem cons_ok {b : Bool} {l : List Bool} (h : b = true) (k : ∀ c ∈ l, c = true) : ∀ c ∈ b :: l, c = true := fun c hc => by
  rcases List.mem_cons.1 hc with rfl | hc
  · exact h
  · exact k c hc
theorem f_loop (N : Nat) (hN : N % 8 = 0) (hB : N ≤ 1000000000) (e1 e5 : Option Nat) (n : Nat) (t : Tr Nat) : ∀ (m k : Nat), k + m = N / 8 → LoopR Tryz.prog 49 none fL m (mkS (lC n (8 * k)) (HF N e1 e5 (zs k t)) 3) (.exit 1) (mkS (lC n N) (HF N e1 e5 (zs (N / 8) t)) 3)
  | 0, k, h => by
    have hk : 8 * k = N := by omega
    have hk2 : k = N / 8 := by omega
    rw [hk, hk2]
    exact .last _ _ _ (outC_code (l := lC n N) S2_ok S2_pb (frX N e1 e5 n (zs (N / 8) t) N) (allB_of (cons_ok (by rw [nb (Nat.lt_irrefl N)]; rfl) (cons_ok (te rfl) (cons_ok (tl hB) nil_ok)))) rfl) (by simp)
  | m + 1, k, h => by
    refine .step _ _ (mkS (lC n (8 * (k + 1))) (HF N e1 e5 (zs (k + 1) t)) 3) _ _ ?_ (f_loop N hN hB e1 e5 n t m (k + 1) (by omega))
    have key := outC_code (l := lC n (Nat.add (8 * k) 8)) S2_ok S2_pb (frL N e1 e5 n (zs k t) (8 * k)) (allB_of (app_ok (app_ok (cons_ok (tb (show 8 * k + 8 < 18446744073709551616 by omega)) nil_ok) (okN_ok hN hB)) (cons_ok (inW_8 (by omega)) (cons_ok (tb (by omega)) (cons_ok (te rfl) (cons_ok (tl hB) nil_ok)))))) rfl
    have e : Nat.add (8 * k) 8 = 8 * (k + 1) := by show 8 * k + 8 = _; omega
    have e2 : Nat.div (8 * k) 8 = k := by show 8 * k / 8 = k; omega
    rw [e, e2] at key
    exact key
theorem br2 {a b : Bool} (h : br a b false = true) : a = true ∧ b = true := by cases a <;> cases b <;> first | exact ⟨rfl, rfl⟩ | cases h
theorem fitsA_some {N n : Nat} (h : fitsA N n = true) : n % 16 = 0 ∧ 3824 ≤ n ∧ n ≤ N := by
  obtain ⟨c1, h⟩ := br2 h
  obtain ⟨c2, c3⟩ := br2 h
  exact ⟨Nat.eq_of_beq_eq_true c1, Nat.le_of_ble_eq_true c2, Nat.le_of_ble_eq_true c3⟩
theorem fits_some {n : Nat} (h : fitsB n = true) : n % 16 = 0 ∧ 3824 ≤ n ∧ n ≤ 4800 := fitsA_some h
theorem f_yes (N : Nat) (hN : N % 8 = 0) (hB : N ≤ 1000000000) (e1 e5 : Option Nat) (n : Nat) (t : Tr Nat) (hfit : fitsA N n = true) : RunAt Tryz.prog formatN [.one (.ptr 1 1 0 0), .one (.int .u64 (.ofNat n))] (segW e1 e5 t N) 2 (.a (.one (.int .i64 0))) (HF N e1 e5 (fmtS (zs (N / 8) t) n (n - 3776) ((n - 8) / 8) (sumN n))) 3 := by
  obtain ⟨d1, d2, d3⟩ := fitsA_some hfit
  have c4 : Nat.blt n 18446744073709551616 = true := tb (by omega)
  have c5 : inW (Nat.sub n 8) N = true := by
    rw [show Nat.sub n 8 = 8 * ((n - 8) / 8) by show n - 8 = _; omega]
    exact inW_8 (by omega)
  have c6 : Nat.ble 3776 n = true := tl (by omega)
  have c7 : Nat.ble 8 n = true := tl (by omega)
  have w : ∀ k, 8 * k < 3824 → inW (8 * k) N = true := fun k h => inW_8 (by omega)
  have k0 := outC_code (l := lA n) S2_ok S2_pb (fr0 N e1 e5 n t) rfl rfl
  have k1 := outC_code (l := lA n) S2_ok S2_pb (fr1 N e1 e5 n t) (allB_of (cons_ok (tl d3) (cons_ok (tl d2) (cons_ok (te d1) (cons_ok (te rfl) (cons_ok (tl hB) nil_ok)))))) rfl
  have k2 := outC_code (l := lC n 0) S2_ok S2_pb (fr2 N e1 e5 n t) rfl rfl
  have k3 : CodeR Tryz.prog 49 none f3 (mkS (lC n 0) (HF N e1 e5 t) 3) .normal (mkS (lC n N) (HF N e1 e5 (zs (N / 8) t)) 3) := by
    rw [f3_eq]
    exact (f_loop N hN hB e1 e5 n t (N / 8) 0 (by omega)).code.block (id := 1)
  have ok := okN_ok hN hB
  have k4 := outC_code (l := [(4, .v (.one (.int .i64 0)))]) S2_ok S2_pb (fr4 N e1 e5 n (zs (N / 8) t)) (allB_of (app_ok (app_ok (app_ok (app_ok (app_ok (app_ok (app_ok (app_ok (app_ok (app_ok (app_ok (app_ok (app_ok ok (cons_ok c5 (cons_ok c6 (cons_ok c4 (cons_ok c7 (cons_ok c4 nil_ok)))))) ok) (cons_ok (w 472 (by omega)) (cons_ok c6 (cons_ok c4 nil_ok)))) ok) (cons_ok (w 5 (by omega)) (cons_ok rfl (cons_ok c4 nil_ok)))) ok) (cons_ok (w 4 (by omega)) nil_ok)) ok) (cons_ok (w 2 (by omega)) nil_ok)) ok) (cons_ok (w 1 (by omega)) nil_ok)) ok) (cons_ok (w 0 (by omega)) nil_ok))) rfl
  have hB := k0.seq (k1.seq ((k2.seq k3).seq k4))
  rw [← fB_eq] at hB
  exact fn_run (S := S1) S1_ok (f := formatN) (fd := fdOf Tryz.f34) (ads := [.one (.ptr 1 1 0 0), .one (.int .u64 (.ofNat n))]) (H := segW e1 e5 t N) (nx := 2) (by kernel_rfl) ⟨Nat.le_of_ble_eq_true (by kernel_rfl), Nat.le_of_ble_eq_true (by kernel_rfl)⟩ hB (.inr rfl) (by kernel_rfl)
end Go.Proofs.YtmhinddneefmbaaGreat.Pe
namespace Go.Proofs.YtmhinddneefmbaaGreat.Pe
open Go
set_option maxRecDepth 100000
noncomputable abbrev fmR (N : Nat) (e1 e5 : Option Nat) (n : Nat) (t : Tr Nat) (orc : List (Nat × HT)) := (evt S2 3000).fn formatN [.one (.ptr 1 1 0 0), .one (.int .u64 (.ofNat n))] (segW e1 e5 t N) 2 ⟨0, orc, [], [], [], []⟩
section
variable (N : Nat) (e1 e5 : Option Nat) (n : Nat) (t : Tr Nat)
theorem fmt_no1 : outS (fmR N e1 e5 n t [(1, false)]) = some (.a (.one (.int .i64 2)), some ⟨e5, 0, [[.wds t N]]⟩, some ⟨e1, 1, [[.ref 0 1 0 N]]⟩, 3, allB [not (Nat.beq (Nat.mod n 16) 0), true, Nat.beq N N, Nat.ble N 1000000000], []) := by kernel_rfl
theorem fmt_no1e : eqL (fmR N e1 e5 n t [(1, false)]) = eqR (fmR N e1 e5 n t [(1, false)]) := by kernel_rfl
theorem fmt_no2 : outS (fmR N e1 e5 n t [(1, true), (2, false)]) = some (.a (.one (.int .i64 2)), some ⟨e5, 0, [[.wds t N]]⟩, some ⟨e1, 1, [[.ref 0 1 0 N]]⟩, 3, allB [not (Nat.ble 3824 n), Nat.beq (Nat.mod n 16) 0, true, Nat.beq N N, Nat.ble N 1000000000], []) := by kernel_rfl
theorem fmt_no2e : eqL (fmR N e1 e5 n t [(1, true), (2, false)]) = eqR (fmR N e1 e5 n t [(1, true), (2, false)]) := by kernel_rfl
theorem fmt_no3 : outS (fmR N e1 e5 n t [(1, true), (2, true), (3, false)]) = some (.a (.one (.int .i64 2)), some ⟨e5, 0, [[.wds t N]]⟩, some ⟨e1, 1, [[.ref 0 1 0 N]]⟩, 3, allB [not (Nat.ble n N), Nat.ble 3824 n, Nat.beq (Nat.mod n 16) 0, true, Nat.beq N N, Nat.ble N 1000000000], []) := by kernel_rfl
theorem fmt_no3e : eqL (fmR N e1 e5 n t [(1, true), (2, true), (3, false)]) = eqR (fmR N e1 e5 n t [(1, true), (2, true), (3, false)]) := by kernel_rfl
end
noncomputable def formatX (ads : List AD) (H : Hp) (nx : Nat) : Option (RV × Hp × Nat) := match ads with
  | [.one (.ptr sg 1 0 0), .one (.int .u64 (.ofNat n))] => match segX H sg with
    | some q => br (Nat.beq (Nat.mod q.2.1 8) 0) (br (Nat.ble q.2.1 1000000000) (br (Nat.blt sg nx) (br (Nat.blt q.1 nx) (br (fitsA q.2.1 n) (some (.a (.one (.int .i64 0)), updO H q.1 (some ⟨q.2.2.2, 0, [[.wds (fmtT n) q.2.1]]⟩), nx)) (some (.a (.one (.int .i64 2)), updO H q.1 (some ⟨q.2.2.2, 0, [[.wds q.2.2.1 q.2.1]]⟩), nx))) none) none) none) none
    | none => none
  | _ => none
theorem format_ok : FnEff Tryz.prog formatN formatX := by
  rw [FnEff.iff]
  intro ads H nx r H' nx' hq
  unfold formatX at hq
  split at hq
  · rename_i sg n
    split at hq
    · rename_i q hs
      obtain ⟨o, N, t, e5⟩ := q
      obtain ⟨h0, hq⟩ := br_some hq
      obtain ⟨h1, hq⟩ := br_some hq
      have h0 : N % 8 = 0 := Nat.eq_of_beq_eq_true h0
      have h1 : N ≤ 1000000000 := Nat.le_of_ble_eq_true h1
      obtain ⟨h2, hq⟩ := br_some hq
      obtain ⟨h3, hq⟩ := br_some hq
      have h2 := blt_lt h2
      have h3 := blt_lt h3
      obtain ⟨⟨e1, hsg⟩, ho⟩ := segX_some hs
      have fin : ∀ {r0 : RV} {t' t'' : Tr Nat}, (∃ K, RunAt Tryz.prog formatN [.one (.ptr 1 1 0 0), .one (.int .u64 (.ofNat n))] (segW e1 e5 t N) 2 r0 K 3 ∧ K 0 = some ⟨e5, 0, [[.wds t' N]]⟩ ∧ K 1 = some ⟨e1, 1, [[.ref 0 1 0 N]]⟩) → SameW N t' t'' → r0.bare = true →
          RunAt Tryz.prog formatN [.one (.ptr sg 1 0 0), .one (.int .u64 (.ofNat n))] H nx r0 (updO H o (some ⟨e5, 0, [[.wds t'' N]]⟩)) nx := fun {r0 t' t''} hK hw hr => by
        obtain ⟨K, hrun, hK0, hK1⟩ := hK
        exact seg_run hrun (by omega) (SameW.refl _ _) hw hK0 hK1 (fun a ha => by rcases List.mem_singleton.1 ha with rfl; rfl) hr hsg ho h2 h3
      have hf : (S2.tab formatN).isSome = true := by kernel_rfl
      cases hfit : fitsA N n with
      | true =>
        have hq : br (fitsA N n) _ _ = some (r, H', nx') := hq
        rw [hfit] at hq
        have hq := Option.some.inj hq
        obtain ⟨q1, q2⟩ := Prod.mk.inj hq
        obtain ⟨q2, q3⟩ := Prod.mk.inj q2
        subst q1; subst q2; subst q3
        have e8 : (n - 8) / 8 < 1000000000 := by have := (fitsA_some hfit).2.2; omega
        refine fin ⟨_, f_yes N h0 h1 e1 e5 n t hfit, rfl, rfl⟩ ?_ rfl
        unfold fmtS fmtT
        refine SameW.set (SameW.set (SameW.set (SameW.set (SameW.set (SameW.set (SameW.set (fun k hk => ?_) ?_) ?_) ?_) ?_) ?_) ?_) e8
        · rw [zs_get (N / 8) t k (by omega), if_pos (by omega)]; rfl
        all_goals omega
      | false =>
        have hq : br (fitsA N n) _ _ = some (r, H', nx') := hq
        rw [hfit] at hq
        have hq := Option.some.inj hq
        obtain ⟨q1, q2⟩ := Prod.mk.inj hq
        obtain ⟨q2, q3⟩ := Prod.mk.inj q2
        subst q1; subst q2; subst q3
        have ok : ∀ {l : List Bool}, (∀ c ∈ l, c = true) → allB (l ++ [true, Nat.beq N N, Nat.ble N 1000000000]) = true := fun h => allB_of (app_ok h (cons_ok rfl (cons_ok (te rfl) (cons_ok (tl h1) nil_ok))))
        unfold fitsA at hfit
        have nh : ∀ p ∈ ([] : List (AV × AV)), p.1 = p.2 := fun p hp => by cases hp
        cases c1 : Nat.beq (Nat.mod n 16) 0 with
        | false => exact fin (outS_run S2_ok S2_pb hf (fmt_no1 N e1 e5 n t) (fmt_no1e N e1 e5 n t) (ok (l := [_]) (cons_ok (by rw [c1]; rfl) nil_ok)) nh) (SameW.refl _ _) rfl
        | true =>
          rw [c1] at hfit
          cases c2 : Nat.ble 3824 n with
          | false => exact fin (outS_run S2_ok S2_pb hf (fmt_no2 N e1 e5 n t) (fmt_no2e N e1 e5 n t) (ok (l := [_, _]) (cons_ok (by rw [c2]; rfl) (cons_ok c1 nil_ok))) nh) (SameW.refl _ _) rfl
          | true =>
            rw [c2] at hfit
            have c3 : Nat.ble n N = false := hfit
            exact fin (outS_run S2_ok S2_pb hf (fmt_no3 N e1 e5 n t) (fmt_no3e N e1 e5 n t) (ok (l := [_, _, _]) (cons_ok (by rw [c3]; rfl) (cons_ok c2 (cons_ok c1 nil_ok)))) nh) (SameW.refl _ _) rfl
    · cases hq
  · cases hq
noncomputable def formatP (ads : List AD) (H : Hp) (nx : Nat) (T : TL) : Option ((RV × Hp × Nat) × TL) := match ads with
  | [.one (.ptr sg 1 0 0), .one (.int .u64 (.ofNat n))] => match segY H sg with
    | some (q, m) => match decT (fitsA q.2.1 n) T with
      | (b, T1) => some (br b (.a (.one (.int .i64 0)), updO H q.1 (some ⟨q.2.2.2, 0, [[.wds (fmtT n) q.2.1]]⟩), nx) (.a (.one (.int .i64 2)), updO H q.1 (some ⟨q.2.2.2, 0, [[.wds q.2.2.1 q.2.1]]⟩), nx), T1.need [Nat.beq q.2.1 m, Nat.beq (Nat.mod q.2.1 8) 0, Nat.ble q.2.1 1000000000, Nat.blt sg nx, Nat.blt q.1 nx])
    | none => none
  | _ => none
theorem formatP_ok : PfOk formatP formatX := by
  intro ads H nx T q T' h
  unfold formatP at h
  split at h
  · rename_i sg n
    split at h
    · rename_i z m hs
      split at h
      rename_i b T1 hd
      simp only [Option.some.injEq, Prod.mk.injEq] at h
      obtain ⟨rfl, rfl⟩ := h
      refine ⟨(decT_le hd).trans (TL.need_le _ _), fun hT => ?_⟩
      have hc := TL.need_ok hT
      simp only [List.mem_cons, List.not_mem_nil, or_false, forall_eq_or_imp, forall_eq] at hc
      obtain ⟨h9, h0, h1, h2, h3⟩ := hc
      have hb := decT_ok hd ((TL.need_le _ _).ok hT)
      show (match segX H sg with | some q => _ | none => none) = _
      rw [segY_X hs h9, hb]
      simp only [h0, h1, h2, h3, br]
      cases fitsA z.2.1 n <;> rfl
    · cases h
  · cases h
end Go.Proofs.YtmhinddneefmbaaGreat.Pe
namespace Go.Proofs.YtmhinddneefmbaaGreat.Pe
open Go
set_option maxRecDepth 100000
noncomputable def bsL3 : List (Nat × FnS) := [(newN, .eff newX), (sizeN, .eff sizeX), (loadN, .eff loadX), (storeN, .eff storeX), (formatN, .eff formatX)]
theorem bsL3_ok : AllBs Tryz.prog bsL3 := ⟨⟨new_ok, by kernel_rfl⟩, ⟨size_ok, by kernel_rfl⟩, ⟨load_ok, by kernel_rfl⟩, ⟨store_ok, by kernel_rfl⟩, ⟨format_ok, by kernel_rfl⟩, trivial⟩
noncomputable def pbL3 : List (Nat × PF) := [(loadN, loadP), (storeN, storeP), (sizeN, sizeP), (formatN, formatP)]
noncomputable def S3 : SysP := { sysOf (mkTr ttL) (mkTr ezL) (mkTr fnL) (mkTr bsL3) with pb := pbOf pbL3 }
theorem S3_ok : SysOk S3.toSys Tryz.prog := sysOf_ok mixed ttL_ok (by kernel_rfl) ezL_ok (by kernel_rfl) fnL_ok (by kernel_rfl) bsL3_ok (by kernel_rfl)
theorem S3_pb : PbOk S3 := ⟨fun f G h => by
  have h := pbOf_mem (l := pbL3) h
  simp only [pbL3, List.mem_cons, List.not_mem_nil, or_false, Prod.mk.injEq] at h
  rcases h with ⟨rfl, rfl⟩ | ⟨rfl, rfl⟩ | ⟨rfl, rfl⟩ | ⟨rfl, rfl⟩
  · exact ⟨loadX, by kernel_rfl, loadP_ok⟩
  · exact ⟨storeX, by kernel_rfl, storeP_ok⟩
  · exact ⟨sizeX, by kernel_rfl, sizeP_ok⟩
  · exact ⟨formatX, by kernel_rfl, formatP_ok⟩⟩
end Go.Proofs.YtmhinddneefmbaaGreat.Pe
namespace Go.Proofs.YtmhinddneefmbaaGreat.Pe
open Go
set_option maxRecDepth 100000
noncomputable def onEq : Option Nat → Option Nat → Bool
  | none, none => true
  | some a, some b => Nat.beq a b
  | _, _ => false
theorem onEq_eq {a b : Option Nat} (h : onEq a b = true) : a = b := by
  cases a <;> cases b <;> first | rfl | cases h | skip
  exact congrArg some (Nat.eq_of_beq_eq_true h)
theorem onEq_refl (a : Option Nat) : onEq a a = true := by
  cases a with
  | none => rfl
  | some a => exact Nat.beq_refl a
noncomputable def trEq : Tr Nat → Tr Nat → Bool
  | .leaf, .leaf => true
  | .node v l r, .node v' l' r' => br (onEq v v') (br (trEq l l') (trEq r r') false) false
  | _, _ => false
theorem trEq_eq : ∀ {t u : Tr Nat}, trEq t u = true → t = u
  | .leaf, .leaf, _ => rfl
  | .node v l r, .node v' l' r', h => by
    unfold trEq at h
    obtain ⟨h1, h⟩ := br2 h
    obtain ⟨h2, h3⟩ := br2 h
    rw [onEq_eq h1, trEq_eq h2, trEq_eq h3]
  | .leaf, .node _ _ _, h => by cases h
  | .node _ _ _, .leaf, h => by cases h
theorem trEq_refl : ∀ (t : Tr Nat), trEq t t = true
  | .leaf => rfl
  | .node v l r => by unfold trEq; rw [onEq_refl, trEq_refl l, trEq_refl r]; rfl
noncomputable def fmtd (t : Tr Nat) : Bool := br (fitsB (wordX t 2)) (trEq t (fmtT (wordX t 2))) false
theorem fmtd_some {t : Tr Nat} (h : fmtd t = true) : fitsB (wordX t 2) = true ∧ t = fmtT (wordX t 2) := by
  obtain ⟨h1, h2⟩ := br2 h
  exact ⟨h1, trEq_eq h2⟩
theorem fmtT_get (n k : Nat) (h : fitsB n = true) : ((fmtT n).get k).getD 0 = if k = (n - 8) / 8 then n - 3776 else if k = 472 then n - 3776 else if k = 5 then sumN n else if k = 4 then 3776 else if k = 2 then n else if k = 1 then 1 else if k = 0 then 7161130718081542961 else 0 := by
  obtain ⟨d1, d2, d3⟩ := fits_some h
  unfold fmtT
  have e8 : Nat.div (Nat.sub n 8) 8 < 1000000000 := by show (n - 8) / 8 < _; omega
  rw [Tr.get_set _ _ _ _ (by omega), Tr.get_set _ _ _ _ (by omega), Tr.get_set _ _ _ _ (by omega), Tr.get_set _ _ _ _ (by omega), Tr.get_set _ _ _ _ (by omega), Tr.get_set _ _ _ _ (by omega), Tr.get_set _ _ _ _ (by omega)]
  rw [show Nat.div (Nat.sub n 8) 8 = (n - 8) / 8 from rfl, show Nat.sub n 3776 = n - 3776 from rfl]
  generalize sumN n = c
  split
  · exact Option.getD_some
  split
  · exact Option.getD_some
  split
  · exact Option.getD_some
  split
  · exact Option.getD_some
  split
  · exact Option.getD_some
  split
  · exact Option.getD_some
  split
  · exact Option.getD_some
  rfl
theorem fmtT_size {n : Nat} (h : fitsB n = true) : wordX (fmtT n) 2 = n := by
  obtain ⟨d1, d2, d3⟩ := fits_some h
  rw [wordX_eq, fmtT_get n 2 h, if_neg (by omega)]
  rfl
theorem fmtd_fmt {n : Nat} (h : fitsB n = true) : fmtd (fmtT n) = true := by
  unfold fmtd
  rw [fmtT_size h, h, trEq_refl]
  rfl
noncomputable def awX (ads : List AD) (H : Hp) (nx : Nat) : Option (RV × Hp × Nat) := match ads with
  | [] => some (.a (.one (.bool true)), H, nx)
  | _ => none
theorem aw_of {f k : Nat} {S : Sys} (hS : SysOk S Tryz.prog) (hf : (S.tab f).isSome = true) (h : ((evs S k).fn f [] (.tr .leaf) 0).map (fun x => x.1) = some (.a (.one (.bool true)))) : FnEff Tryz.prog f awX := by
  rw [FnEff.iff]
  intro ads H nx r H' nx' hq
  unfold awX at hq
  split at hq
  · have hq := Option.some.inj hq
    obtain ⟨q1, q2⟩ := Prod.mk.inj hq
    obtain ⟨q2, q3⟩ := Prod.mk.inj q2
    subst q1; subst q2; subst q3
    cases hx : (evs S k).fn f [] (.tr .leaf) 0 with
    | none => rw [hx] at h; cases h
    | some x =>
      obtain ⟨r', K, m⟩ := x
      rw [hx] at h
      injection h with h
      have h : r' = .a (.one (.bool true)) := h
      subst h
      exact bare_run ((evs_ok hS k).fn f hf _ _ _ _ _ _ hx) (fun a ha => by cases ha) rfl H nx
  · cases hq
def D.inN (N : Nat) : D → Bool
  | .ptr o _ _ _ | .ref o _ _ _ | .refc o _ _ _ _ | .mp o | .yl o => Nat.blt o N
  | d => d.bare
def D.mapO (τ : Nat → Nat) : D → D
  | .ptr o a b c => .ptr (τ o) a b c
  | .ref o a b c => .ref (τ o) a b c
  | .refc o a b c e => .refc (τ o) a b c e
  | .mp o => .mp (τ o)
  | .yl o => .yl (τ o)
  | d => d
def AD.inN (N : Nat) : AD → Bool
  | .one d => d.inN N
  | .many l => l.all (D.inN N)
def AD.mapO (τ : Nat → Nat) : AD → AD
  | .one d => .one (d.mapO τ)
  | .many l => .many (l.map (D.mapO τ))
def RV.inN (N : Nat) : RV → Bool
  | .a x => x.inN N
  | .tup l => l.all (AD.inN N)
def RV.mapO (τ : Nat → Nat) : RV → RV
  | .a x => .a (x.mapO τ)
  | .tup l => .tup (l.map (AD.mapO τ))
section
variable {w w' : World} {ι ι' : Nat → Option Nat} {M M' : Nat → Prop} {b N : Nat} {τ : Nat → Nat}
theorem Rd.mapO {v : Value} {d : D} (hi : ∀ k, k < N → ι' (τ k) = ι k) (h : Rd w ι M v d) (hd : d.inN N = true) : Rd w ι' M' v (d.mapO τ) := by
  cases h with
  | ptr o sz i off b h hz => exact .ptr _ _ _ _ b (by rw [hi o (blt_lt hd)]; exact h) hz
  | ref o sz i n c b h h1 h2 h3 h4 => exact .ref _ _ _ _ c b (by rw [hi o (blt_lt hd)]; exact h) h1 h2 h3 h4
  | refc o sz i n c b h h1 h2 h3 h4 => exact .refc _ _ _ _ _ b (by rw [hi o (blt_lt hd)]; exact h) h1 h2 h3 h4
  | mp o b h => exact .mp _ b (by rw [hi o (blt_lt hd)]; exact h)
  | yl o b h => exact .yl _ b (by rw [hi o (blt_lt hd)]; exact h)
  | int => exact .int _ _
  | bool => exact .bool _
  | str => exact .str _
  | nilp => exact .nilp
  | fn => exact .fn _
  | nilm => exact .nilm
  | nilf => exact .nilf
  | anyb b => exact .anyb b
  | hole v h1 => exact .hole v h1
  | nils => exact .nils
  | nil => cases hd
  | sl => cases hd
  | clo => cases hd
theorem RdL.mapO {vs : List Value} {ds : List D} (hi : ∀ k, k < N → ι' (τ k) = ι k) (h : RdL w ι M vs ds) (hd : ds.all (D.inN N) = true) : RdL w ι' M' vs (ds.map (D.mapO τ)) := by
  refine ⟨by rw [h.1, List.length_map], fun j v d hv hd' => ?_⟩
  rw [List.getElem?_map] at hd'
  cases hj : ds[j]? with
  | none => rw [hj] at hd'; cases hd'
  | some x =>
    rw [hj] at hd'
    injection hd' with hd'
    subst hd'
    exact (h.2 j v x hv hj).mapO hi (List.all_eq_true.1 hd x (List.mem_of_getElem? hj))
theorem RdA.mapO {v : Value} {a : AD} (hi : ∀ k, k < N → ι' (τ k) = ι k) (h : RdA w ι M v a) (hd : a.inN N = true) : RdA w ι' M' v (a.mapO τ) := by
  cases a with
  | one d => exact Rd.mapO hi (show Rd w ι M v d from h) hd
  | many l =>
    obtain ⟨cs, e, hl⟩ := (show ∃ cs, v = .agg cs ∧ RdL w ι M cs.toList l from h)
    exact ⟨cs, e, hl.mapO hi hd⟩
theorem RdV.mapO {v : Value} {r : RV} (hi : ∀ k, k < N → ι' (τ k) = ι k) (h : RdV w ι M v r) (hd : r.inN N = true) : RdV w ι' M' v (r.mapO τ) := by
  cases r with
  | a a => exact RdA.mapO hi (show RdA w ι M v a from h) hd
  | tup l =>
    obtain ⟨vs, e, hl, hr⟩ := (show RdT w ι M v l from h)
    refine ⟨vs, e, by rw [hl, List.length_map], fun j v a hv ha => ?_⟩
    rw [List.getElem?_map] at ha
    cases hj : l[j]? with
    | none => rw [hj] at ha; cases ha
    | some x =>
      rw [hj] at ha
      injection ha with ha
      subst ha
      exact (hr j v x hv hj).mapO hi (List.all_eq_true.1 hd x (List.mem_of_getElem? hj))
end
theorem ConvR.mapO {N : Nat} {τ : Nat → Nat} {r : RV} (h : r.inN N = true) : ConvR N τ r (r.mapO τ) := fun w ι ι' M v hi hr => hr.mapO hi h
theorem ConvO.rows {N : Nat} {τ : Nat → Nat} {e : Option Nat} {sz : Nat} {rows : List (List D)} (h0 : sz ≠ 0) (h : rows.all (fun r => r.all (D.inN N)) = true) : ConvO N τ ⟨e, sz, rows⟩ ⟨e, sz, rows.map fun r => r.map (D.mapO τ)⟩ := by
  intro w ι ι' M b hi ho
  rcases ho with ⟨h1, _⟩ | ⟨T, cs, hT, hb⟩
  · exact absurd h1 h0
  · refine .inr ⟨T, cs, hT, hb.at_, hb.pos, by show (rows.map _).length * sz ≤ _; rw [List.length_map]; exact hb.fit, fun r hr => ?_, fun i j r d hr hd => ?_, hb.one⟩
    · obtain ⟨x, hx, rfl⟩ := List.mem_map.1 hr
      rw [List.length_map]
      exact hb.uni x hx
    · have hr : (rows.map fun r => r.map (D.mapO τ))[i]? = some r := hr
      rw [List.getElem?_map] at hr
      cases hi' : rows[i]? with
      | none => rw [hi'] at hr; cases hr
      | some x =>
        rw [hi'] at hr
        injection hr with hr
        subst hr
        rw [List.getElem?_map] at hd
        cases hj : x[j]? with
        | none => rw [hj] at hd; cases hd
        | some y =>
          rw [hj] at hd
          injection hd with hd
          subst hd
          obtain ⟨v, h1, h2⟩ := hb.rd i j x y hi' hj
          refine ⟨v, h1, h2.mapO hi ?_⟩
          exact List.all_eq_true.1 (List.all_eq_true.1 h x (List.mem_of_getElem? hi')) y (List.mem_of_getElem? hj)
end Go.Proofs.YtmhinddneefmbaaGreat.Pe
