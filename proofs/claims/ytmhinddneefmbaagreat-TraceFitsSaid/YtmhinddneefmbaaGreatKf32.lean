/- A part of the proof of JdH. -/
import Derived.Test.YtmhinddneefmbaaGreatKf31
set_option linter.unusedSimpArgs false
set_option linter.unusedVariables false
set_option linter.unusedSectionVars false
namespace Go.Proofs.YtmhinddneefmbaaGreat.Pe
open Go
set_option maxRecDepth 100000
noncomputable abbrev fmR (N : Nat) (e1 e5 : Option Nat) (n : Nat) (t : Tr Nat) (orc : List (Nat × HT)) := (evt S2 3000).fn formatN [.one (.ptr 1 1 0 0), .one (.int .u64 (.ofNat n))] (segW e1 e5 t N) 2 ⟨0, orc, [], [], [], []⟩
section
variable (N : Nat) (e1 e5 : Option Nat) (n : Nat) (t : Tr Nat)
theorem fmt_no1 : outS (fmR N e1 e5 n t [(1, false)]) = some (.a (.one (.int .i64 2)), some ⟨e5, 0, [[.wds t N]]⟩, some ⟨e1, 1, [[.ref 0 1 0 N]]⟩, 3, allB [not (Nat.beq (Nat.mod n 16) 0), true, Nat.beq N N, Nat.ble N 1000000000], []) := by kernel_rfl
theorem fmt_no1e : eqL (fmR N e1 e5 n t [(1, false)]) = eqR (fmR N e1 e5 n t [(1, false)]) := by kernel_rfl
theorem fmt_no2 : outS (fmR N e1 e5 n t [(1, true), (2, false)]) = some (.a (.one (.int .i64 2)), some ⟨e5, 0, [[.wds t N]]⟩, some ⟨e1, 1, [[.ref 0 1 0 N]]⟩, 3, allB [not (Nat.ble 3824 n), Nat.beq (Nat.mod n 16) 0, true, Nat.beq N N, Nat.ble N 1000000000], []) := by kernel_rfl
theorem fmt_no2e : eqL (fmR N e1 e5 n t [(1, true), (2, false)]) = eqR (fmR N e1 e5 n t [(1, true), (2, false)]) := by kernel_rfl
theorem fmt_no3 : outS (fmR N e1 e5 n t [(1, true), (2, true), (3, false)]) = some (.a (.one (.int .i64 2)), some ⟨e5, 0, [[.wds t N]]⟩, some ⟨e1, 1, [[.ref 0 1 0 N]]⟩, 3, allB [not (Nat.ble n N), Nat.ble 3824 n, Nat.beq (Nat.mod n 16) 0, true, Nat.beq N N, Nat.ble N 1000000000], []) := by kernel_rfl
theorem fmt_no3e : eqL (fmR N e1 e5 n t [(1, true), (2, true), (3, false)]) = eqR (fmR N e1 e5 n t [(1, true), (2, true), (3, false)]) := by kernel_rfl
end
noncomputable def formatX (ads : List AD) (H : Hp) (nx : Nat) : Option (RV × Hp × Nat) := match ads with
  | [.one (.ptr sg 1 0 0), .one (.int .u64 (.ofNat n))] => match segX H sg with
    | some q => br (Nat.beq (Nat.mod q.2.1 8) 0) (br (Nat.ble q.2.1 1000000000) (br (Nat.blt sg nx) (br (Nat.blt q.1 nx) (br (fitsA q.2.1 n) (some (.a (.one (.int .i64 0)), updO H q.1 (some ⟨q.2.2.2, 0, [[.wds (fmtT n) q.2.1]]⟩), nx)) (some (.a (.one (.int .i64 2)), updO H q.1 (some ⟨q.2.2.2, 0, [[.wds q.2.2.1 q.2.1]]⟩), nx))) none) none) none) none
    | none => none
  | _ => none
theorem format_ok : FnEff Tryz.prog formatN formatX := by
  rw [FnEff.iff]
  intro ads H nx r H' nx' hq
  unfold formatX at hq
  split at hq
  · rename_i sg n
    split at hq
    · rename_i q hs
      obtain ⟨o, N, t, e5⟩ := q
      obtain ⟨h0, hq⟩ := br_some hq
      obtain ⟨h1, hq⟩ := br_some hq
      have h0 : N % 8 = 0 := Nat.eq_of_beq_eq_true h0
      have h1 : N ≤ 1000000000 := Nat.le_of_ble_eq_true h1
      obtain ⟨h2, hq⟩ := br_some hq
      obtain ⟨h3, hq⟩ := br_some hq
      have h2 := blt_lt h2
      have h3 := blt_lt h3
      obtain ⟨⟨e1, hsg⟩, ho⟩ := segX_some hs
      have fin : ∀ {r0 : RV} {t' t'' : Tr Nat}, (∃ K, RunAt Tryz.prog formatN [.one (.ptr 1 1 0 0), .one (.int .u64 (.ofNat n))] (segW e1 e5 t N) 2 r0 K 3 ∧ K 0 = some ⟨e5, 0, [[.wds t' N]]⟩ ∧ K 1 = some ⟨e1, 1, [[.ref 0 1 0 N]]⟩) → SameW N t' t'' → r0.bare = true →
          RunAt Tryz.prog formatN [.one (.ptr sg 1 0 0), .one (.int .u64 (.ofNat n))] H nx r0 (updO H o (some ⟨e5, 0, [[.wds t'' N]]⟩)) nx := fun {r0 t' t''} hK hw hr => by
        obtain ⟨K, hrun, hK0, hK1⟩ := hK
        exact seg_run hrun (by omega) (SameW.refl _ _) hw hK0 hK1 (fun a ha => by rcases List.mem_singleton.1 ha with rfl; rfl) hr hsg ho h2 h3
      have hf : (S2.tab formatN).isSome = true := by kernel_rfl
      cases hfit : fitsA N n with
      | true =>
        have hq : br (fitsA N n) _ _ = some (r, H', nx') := hq
        rw [hfit] at hq
        have hq := Option.some.inj hq
        obtain ⟨q1, q2⟩ := Prod.mk.inj hq
        obtain ⟨q2, q3⟩ := Prod.mk.inj q2
        subst q1; subst q2; subst q3
        have e8 : (n - 8) / 8 < 1000000000 := by have := (fitsA_some hfit).2.2; omega
        refine fin ⟨_, f_yes N h0 h1 e1 e5 n t hfit, rfl, rfl⟩ ?_ rfl
        unfold fmtS fmtT
        refine SameW.set (SameW.set (SameW.set (SameW.set (SameW.set (SameW.set (SameW.set (fun k hk => ?_) ?_) ?_) ?_) ?_) ?_) ?_) e8
        · rw [zs_get (N / 8) t k (by omega), if_pos (by omega)]; rfl
        all_goals omega
      | false =>
        have hq : br (fitsA N n) _ _ = some (r, H', nx') := hq
        rw [hfit] at hq
        have hq := Option.some.inj hq
        obtain ⟨q1, q2⟩ := Prod.mk.inj hq
        obtain ⟨q2, q3⟩ := Prod.mk.inj q2
        subst q1; subst q2; subst q3
        have ok : ∀ {l : List Bool}, (∀ c ∈ l, c = true) → allB (l ++ [true, Nat.beq N N, Nat.ble N 1000000000]) = true := fun h => allB_of (app_ok h (cons_ok rfl (cons_ok (te rfl) (cons_ok (tl h1) nil_ok))))
        unfold fitsA at hfit
        have nh : ∀ p ∈ ([] : List (AV × AV)), p.1 = p.2 := fun p hp => by cases hp
        cases c1 : Nat.beq (Nat.mod n 16) 0 with
        | false => exact fin (outS_run S2_ok S2_pb hf (fmt_no1 N e1 e5 n t) (fmt_no1e N e1 e5 n t) (ok (l := [_]) (cons_ok (by rw [c1]; rfl) nil_ok)) nh) (SameW.refl _ _) rfl
        | true =>
          rw [c1] at hfit
          cases c2 : Nat.ble 3824 n with
          | false => exact fin (outS_run S2_ok S2_pb hf (fmt_no2 N e1 e5 n t) (fmt_no2e N e1 e5 n t) (ok (l := [_, _]) (cons_ok (by rw [c2]; rfl) (cons_ok c1 nil_ok))) nh) (SameW.refl _ _) rfl
          | true =>
            rw [c2] at hfit
            have c3 : Nat.ble n N = false := hfit
            exact fin (outS_run S2_ok S2_pb hf (fmt_no3 N e1 e5 n t) (fmt_no3e N e1 e5 n t) (ok (l := [_, _, _]) (cons_ok (by rw [c3]; rfl) (cons_ok c2 (cons_ok c1 nil_ok)))) nh) (SameW.refl _ _) rfl
    · cases hq
  · cases hq
noncomputable def formatP (ads : List AD) (H : Hp) (nx : Nat) (T : TL) : Option ((RV × Hp × Nat) × TL) := match ads with
  | [.one (.ptr sg 1 0 0), .one (.int .u64 (.ofNat n))] => match segY H sg with
    | some (q, m) => match decT (fitsA q.2.1 n) T with
      | (b, T1) => some (br b (.a (.one (.int .i64 0)), updO H q.1 (some ⟨q.2.2.2, 0, [[.wds (fmtT n) q.2.1]]⟩), nx) (.a (.one (.int .i64 2)), updO H q.1 (some ⟨q.2.2.2, 0, [[.wds q.2.2.1 q.2.1]]⟩), nx), T1.need [Nat.beq q.2.1 m, Nat.beq (Nat.mod q.2.1 8) 0, Nat.ble q.2.1 1000000000, Nat.blt sg nx, Nat.blt q.1 nx])
    | none => none
  | _ => none
theorem formatP_ok : PfOk formatP formatX := by
  intro ads H nx T q T' h
  unfold formatP at h
  split at h
  · rename_i sg n
    split at h
    · rename_i z m hs
      split at h
      rename_i b T1 hd
      simp only [Option.some.injEq, Prod.mk.injEq] at h
      obtain ⟨rfl, rfl⟩ := h
      refine ⟨(decT_le hd).trans (TL.need_le _ _), fun hT => ?_⟩
      have hc := TL.need_ok hT
      simp only [List.mem_cons, List.not_mem_nil, or_false, forall_eq_or_imp, forall_eq] at hc
      obtain ⟨h9, h0, h1, h2, h3⟩ := hc
      have hb := decT_ok hd ((TL.need_le _ _).ok hT)
      show (match segX H sg with | some q => _ | none => none) = _
      rw [segY_X hs h9, hb]
      simp only [h0, h1, h2, h3, br]
      cases fitsA z.2.1 n <;> rfl
    · cases h
  · cases h
end Go.Proofs.YtmhinddneefmbaaGreat.Pe
namespace Go.Proofs.YtmhinddneefmbaaGreat.Pe
open Go
set_option maxRecDepth 100000
noncomputable def bsL3 : List (Nat × FnS) := [(newN, .eff newX), (sizeN, .eff sizeX), (loadN, .eff loadX), (storeN, .eff storeX), (formatN, .eff formatX)]
theorem bsL3_ok : AllBs Tryz.prog bsL3 := ⟨⟨new_ok, by kernel_rfl⟩, ⟨size_ok, by kernel_rfl⟩, ⟨load_ok, by kernel_rfl⟩, ⟨store_ok, by kernel_rfl⟩, ⟨format_ok, by kernel_rfl⟩, trivial⟩
noncomputable def pbL3 : List (Nat × PF) := [(loadN, loadP), (storeN, storeP), (sizeN, sizeP), (formatN, formatP)]
noncomputable def S3 : SysP := { sysOf (mkTr ttL) (mkTr ezL) (mkTr fnL) (mkTr bsL3) with pb := pbOf pbL3 }
theorem S3_ok : SysOk S3.toSys Tryz.prog := sysOf_ok mixed ttL_ok (by kernel_rfl) ezL_ok (by kernel_rfl) fnL_ok (by kernel_rfl) bsL3_ok (by kernel_rfl)
theorem S3_pb : PbOk S3 := ⟨fun f G h => by
  have h := pbOf_mem (l := pbL3) h
  simp only [pbL3, List.mem_cons, List.not_mem_nil, or_false, Prod.mk.injEq] at h
  rcases h with ⟨rfl, rfl⟩ | ⟨rfl, rfl⟩ | ⟨rfl, rfl⟩ | ⟨rfl, rfl⟩
  · exact ⟨loadX, by kernel_rfl, loadP_ok⟩
  · exact ⟨storeX, by kernel_rfl, storeP_ok⟩
  · exact ⟨sizeX, by kernel_rfl, sizeP_ok⟩
  · exact ⟨formatX, by kernel_rfl, formatP_ok⟩⟩
end Go.Proofs.YtmhinddneefmbaaGreat.Pe
namespace Go.Proofs.YtmhinddneefmbaaGreat.Pe
open Go
set_option maxRecDepth 100000
noncomputable def onEq : Option Nat → Option Nat → Bool
  | none, none => true
  | some a, some b => Nat.beq a b
  | _, _ => false
theorem onEq_eq {a b : Option Nat} (h : onEq a b = true) : a = b := by
  cases a <;> cases b <;> first | rfl | cases h | skip
  exact congrArg some (Nat.eq_of_beq_eq_true h)
theorem onEq_refl (a : Option Nat) : onEq a a = true := by
  cases a with
  | none => rfl
  | some a => exact Nat.beq_refl a
noncomputable def trEq : Tr Nat → Tr Nat → Bool
  | .leaf, .leaf => true
  | .node v l r, .node v' l' r' => br (onEq v v') (br (trEq l l') (trEq r r') false) false
  | _, _ => false
theorem trEq_eq : ∀ {t u : Tr Nat}, trEq t u = true → t = u
  | .leaf, .leaf, _ => rfl
  | .node v l r, .node v' l' r', h => by
    unfold trEq at h
    obtain ⟨h1, h⟩ := br2 h
    obtain ⟨h2, h3⟩ := br2 h
    rw [onEq_eq h1, trEq_eq h2, trEq_eq h3]
  | .leaf, .node _ _ _, h => by cases h
  | .node _ _ _, .leaf, h => by cases h
theorem trEq_refl : ∀ (t : Tr Nat), trEq t t = true
  | .leaf => rfl
  | .node v l r => by unfold trEq; rw [onEq_refl, trEq_refl l, trEq_refl r]; rfl
noncomputable def fmtd (t : Tr Nat) : Bool := br (fitsB (wordX t 2)) (trEq t (fmtT (wordX t 2))) false
theorem fmtd_some {t : Tr Nat} (h : fmtd t = true) : fitsB (wordX t 2) = true ∧ t = fmtT (wordX t 2) := by
  obtain ⟨h1, h2⟩ := br2 h
  exact ⟨h1, trEq_eq h2⟩
theorem fmtT_get (n k : Nat) (h : fitsB n = true) : ((fmtT n).get k).getD 0 = if k = (n - 8) / 8 then n - 3776 else if k = 472 then n - 3776 else if k = 5 then sumN n else if k = 4 then 3776 else if k = 2 then n else if k = 1 then 1 else if k = 0 then 7161130718081542961 else 0 := by
  obtain ⟨d1, d2, d3⟩ := fits_some h
  unfold fmtT
  have e8 : Nat.div (Nat.sub n 8) 8 < 1000000000 := by show (n - 8) / 8 < _; omega
  rw [Tr.get_set _ _ _ _ (by omega), Tr.get_set _ _ _ _ (by omega), Tr.get_set _ _ _ _ (by omega), Tr.get_set _ _ _ _ (by omega), Tr.get_set _ _ _ _ (by omega), Tr.get_set _ _ _ _ (by omega), Tr.get_set _ _ _ _ (by omega)]
  rw [show Nat.div (Nat.sub n 8) 8 = (n - 8) / 8 from rfl, show Nat.sub n 3776 = n - 3776 from rfl]
  generalize sumN n = c
  split
  · exact Option.getD_some
  split
  · exact Option.getD_some
  split
  · exact Option.getD_some
  split
  · exact Option.getD_some
  split
  · exact Option.getD_some
  split
  · exact Option.getD_some
  split
  · exact Option.getD_some
  rfl
theorem fmtT_size {n : Nat} (h : fitsB n = true) : wordX (fmtT n) 2 = n := by
  obtain ⟨d1, d2, d3⟩ := fits_some h
  rw [wordX_eq, fmtT_get n 2 h, if_neg (by omega)]
  rfl
theorem fmtd_fmt {n : Nat} (h : fitsB n = true) : fmtd (fmtT n) = true := by
  unfold fmtd
  rw [fmtT_size h, h, trEq_refl]
  rfl
noncomputable def awX (ads : List AD) (H : Hp) (nx : Nat) : Option (RV × Hp × Nat) := match ads with
  | [] => some (.a (.one (.bool true)), H, nx)
  | _ => none
theorem aw_of {f k : Nat} {S : Sys} (hS : SysOk S Tryz.prog) (hf : (S.tab f).isSome = true) (h : ((evs S k).fn f [] (.tr .leaf) 0).map (fun x => x.1) = some (.a (.one (.bool true)))) : FnEff Tryz.prog f awX := by
  rw [FnEff.iff]
  intro ads H nx r H' nx' hq
  unfold awX at hq
  split at hq
  · have hq := Option.some.inj hq
    obtain ⟨q1, q2⟩ := Prod.mk.inj hq
    obtain ⟨q2, q3⟩ := Prod.mk.inj q2
    subst q1; subst q2; subst q3
    cases hx : (evs S k).fn f [] (.tr .leaf) 0 with
    | none => rw [hx] at h; cases h
    | some x =>
      obtain ⟨r', K, m⟩ := x
      rw [hx] at h
      injection h with h
      have h : r' = .a (.one (.bool true)) := h
      subst h
      exact bare_run ((evs_ok hS k).fn f hf _ _ _ _ _ _ hx) (fun a ha => by cases ha) rfl H nx
  · cases hq
def D.inN (N : Nat) : D → Bool
  | .ptr o _ _ _ | .ref o _ _ _ | .refc o _ _ _ _ | .mp o | .yl o => Nat.blt o N
  | d => d.bare
def D.mapO (τ : Nat → Nat) : D → D
  | .ptr o a b c => .ptr (τ o) a b c
  | .ref o a b c => .ref (τ o) a b c
  | .refc o a b c e => .refc (τ o) a b c e
  | .mp o => .mp (τ o)
  | .yl o => .yl (τ o)
  | d => d
def AD.inN (N : Nat) : AD → Bool
  | .one d => d.inN N
  | .many l => l.all (D.inN N)
def AD.mapO (τ : Nat → Nat) : AD → AD
  | .one d => .one (d.mapO τ)
  | .many l => .many (l.map (D.mapO τ))
def RV.inN (N : Nat) : RV → Bool
  | .a x => x.inN N
  | .tup l => l.all (AD.inN N)
def RV.mapO (τ : Nat → Nat) : RV → RV
  | .a x => .a (x.mapO τ)
  | .tup l => .tup (l.map (AD.mapO τ))
section
variable {w w' : World} {ι ι' : Nat → Option Nat} {M M' : Nat → Prop} {b N : Nat} {τ : Nat → Nat}
theorem Rd.mapO {v : Value} {d : D} (hi : ∀ k, k < N → ι' (τ k) = ι k) (h : Rd w ι M v d) (hd : d.inN N = true) : Rd w ι' M' v (d.mapO τ) := by
  cases h with
  | ptr o sz i off b h hz => exact .ptr _ _ _ _ b (by rw [hi o (blt_lt hd)]; exact h) hz
  | ref o sz i n c b h h1 h2 h3 h4 => exact .ref _ _ _ _ c b (by rw [hi o (blt_lt hd)]; exact h) h1 h2 h3 h4
  | refc o sz i n c b h h1 h2 h3 h4 => exact .refc _ _ _ _ _ b (by rw [hi o (blt_lt hd)]; exact h) h1 h2 h3 h4
  | mp o b h => exact .mp _ b (by rw [hi o (blt_lt hd)]; exact h)
  | yl o b h => exact .yl _ b (by rw [hi o (blt_lt hd)]; exact h)
  | int => exact .int _ _
  | bool => exact .bool _
  | str => exact .str _
  | nilp => exact .nilp
  | fn => exact .fn _
  | nilm => exact .nilm
  | nilf => exact .nilf
  | anyb b => exact .anyb b
  | hole v h1 => exact .hole v h1
  | nils => exact .nils
  | nil => cases hd
  | sl => cases hd
  | clo => cases hd
theorem RdL.mapO {vs : List Value} {ds : List D} (hi : ∀ k, k < N → ι' (τ k) = ι k) (h : RdL w ι M vs ds) (hd : ds.all (D.inN N) = true) : RdL w ι' M' vs (ds.map (D.mapO τ)) := by
  refine ⟨by rw [h.1, List.length_map], fun j v d hv hd' => ?_⟩
  rw [List.getElem?_map] at hd'
  cases hj : ds[j]? with
  | none => rw [hj] at hd'; cases hd'
  | some x =>
    rw [hj] at hd'
    injection hd' with hd'
    subst hd'
    exact (h.2 j v x hv hj).mapO hi (List.all_eq_true.1 hd x (List.mem_of_getElem? hj))
theorem RdA.mapO {v : Value} {a : AD} (hi : ∀ k, k < N → ι' (τ k) = ι k) (h : RdA w ι M v a) (hd : a.inN N = true) : RdA w ι' M' v (a.mapO τ) := by
  cases a with
  | one d => exact Rd.mapO hi (show Rd w ι M v d from h) hd
  | many l =>
    obtain ⟨cs, e, hl⟩ := (show ∃ cs, v = .agg cs ∧ RdL w ι M cs.toList l from h)
    exact ⟨cs, e, hl.mapO hi hd⟩
theorem RdV.mapO {v : Value} {r : RV} (hi : ∀ k, k < N → ι' (τ k) = ι k) (h : RdV w ι M v r) (hd : r.inN N = true) : RdV w ι' M' v (r.mapO τ) := by
  cases r with
  | a a => exact RdA.mapO hi (show RdA w ι M v a from h) hd
  | tup l =>
    obtain ⟨vs, e, hl, hr⟩ := (show RdT w ι M v l from h)
    refine ⟨vs, e, by rw [hl, List.length_map], fun j v a hv ha => ?_⟩
    rw [List.getElem?_map] at ha
    cases hj : l[j]? with
    | none => rw [hj] at ha; cases ha
    | some x =>
      rw [hj] at ha
      injection ha with ha
      subst ha
      exact (hr j v x hv hj).mapO hi (List.all_eq_true.1 hd x (List.mem_of_getElem? hj))
end
theorem ConvR.mapO {N : Nat} {τ : Nat → Nat} {r : RV} (h : r.inN N = true) : ConvR N τ r (r.mapO τ) := fun w ι ι' M v hi hr => hr.mapO hi h
theorem ConvO.rows {N : Nat} {τ : Nat → Nat} {e : Option Nat} {sz : Nat} {rows : List (List D)} (h0 : sz ≠ 0) (h : rows.all (fun r => r.all (D.inN N)) = true) : ConvO N τ ⟨e, sz, rows⟩ ⟨e, sz, rows.map fun r => r.map (D.mapO τ)⟩ := by
  intro w ι ι' M b hi ho
  rcases ho with ⟨h1, _⟩ | ⟨T, cs, hT, hb⟩
  · exact absurd h1 h0
  · refine .inr ⟨T, cs, hT, hb.at_, hb.pos, by show (rows.map _).length * sz ≤ _; rw [List.length_map]; exact hb.fit, fun r hr => ?_, fun i j r d hr hd => ?_, hb.one⟩
    · obtain ⟨x, hx, rfl⟩ := List.mem_map.1 hr
      rw [List.length_map]
      exact hb.uni x hx
    · have hr : (rows.map fun r => r.map (D.mapO τ))[i]? = some r := hr
      rw [List.getElem?_map] at hr
      cases hi' : rows[i]? with
      | none => rw [hi'] at hr; cases hr
      | some x =>
        rw [hi'] at hr
        injection hr with hr
        subst hr
        rw [List.getElem?_map] at hd
        cases hj : x[j]? with
        | none => rw [hj] at hd; cases hd
        | some y =>
          rw [hj] at hd
          injection hd with hd
          subst hd
          obtain ⟨v, h1, h2⟩ := hb.rd i j x y hi' hj
          refine ⟨v, h1, h2.mapO hi ?_⟩
          exact List.all_eq_true.1 (List.all_eq_true.1 h x (List.mem_of_getElem? hi')) y (List.mem_of_getElem? hj)
end Go.Proofs.YtmhinddneefmbaaGreat.Pe
