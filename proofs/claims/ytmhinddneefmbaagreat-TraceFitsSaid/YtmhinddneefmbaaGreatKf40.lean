/- A part of the proof of JdH. -/
import Derived.Test.YtmhinddneefmbaaGreatKf39
set_option linter.unusedSimpArgs false
set_option linter.unusedVariables false
set_option linter.unusedSectionVars false
namespace Go.Proofs.YtmhinddneefmbaaGreat.Pe
open Go
set_option maxRecDepth 100000
noncomputable def qLn (R : List Rec) : List (Nat × AV) := [(0, .v (.one (qr R.isEmpty R.length))), (4, .v (.one (.bool false))), (5, .v (.one (.mp 2)))]
noncomputable def qEx (R : List Rec) (E : List Ev) (y : Bool) (s : List Nat) : St := mkO (qLn R) (qO R.isEmpty y (R.map Rec.out) (E.map Ev.out) (seenR s)) 3
def prevOf (E : List Ev) (j : Nat) : Option Int := match j with
  | 0 => none
  | j + 1 => (E[j]?).map Ev.at_
section
variable (R : List Rec) (E : List Ev)
theorem qLn_ok : (qLn R).all (fun p => p.2.inP (kp 3 [])) = true ∧ renL 3 [] (qLn R) = qLn R ∧ smallS (qLn R) = true := by
  unfold qLn
  cases R <;> exact ⟨rfl, rfl, rfl⟩
theorem q_exit1 (y : Bool) (j : Nat) (s : List Nat) (hj : ¬ j < br y 0 E.length) : LoopW 3 Tryz.prog 92 none qL1 0 (qHd R E y j s) (.exit 0) (qEx R E y s) := by
  refine .last _ _ _ ?_ (by simp)
  obtain ⟨h1, h2, h3⟩ := qLn_ok R
  exact outP_Q (qx1 R.isEmpty y (R.map Rec.out) (E.map Ev.out) (seenR s) R.length E.length j) (qx1_e R.isEmpty y (R.map Rec.out) (E.map Ev.out) (seenR s) R.length E.length j) (allB_of (cons_ok (by rw [nb hj]; rfl) nil_ok)) no_hs h3 (qO_small _ _ _ _ _) (by omega) h1 h2 (okR R E R.isEmpty y s)
theorem q_loop1 (hb : R.length ≤ 20) (hb2 : E.length ≤ 20) : ∀ (d j : Nat) (s : List Nat), j + d = E.length → match fit1 R (prevOf E j) (E.drop j) s with
    | some s' => ∃ d', LoopW 3 Tryz.prog 92 none qL1 d' (qHd R E false j s) (.exit 0) (qEx R E false s')
    | none => ∃ d', LoopW 3 Tryz.prog 92 none qL1 d' (qHd R E false j s) .ret (mkO qRf [] 3)
  | 0, j, s, h => by
    rw [List.drop_of_length_le (by omega)]
    exact ⟨0, q_exit1 R E false j s (show ¬ j < E.length by omega)⟩
  | d + 1, j, s, h => by
    have hj : j < E.length := by omega
    rw [List.drop_eq_getElem_cons hj]
    show (match (match fitStep R (prevOf E j) E[j] s with | none => none | some s' => fit1 R (some E[j].at_) (E.drop (j + 1)) s') with | some s' => _ | none => _)
    have hst : match fitStep R (prevOf E j) E[j] s with
        | some s' => CodeW 3 Tryz.prog 92 none qL1 (qHd R E false j s) .normal (qHd R E false (j + 1) s')
        | none => CodeW 3 Tryz.prog 92 none qL1 (qHd R E false j s) .ret (mkO qRf [] 3) := by
      cases j with
      | zero => exact q_stepA R E hb hb2 hj s
      | succ j =>
        have : prevOf E (j + 1) = some E[j].at_ := by
          show (E[j]?).map Ev.at_ = _
          rw [List.getElem?_eq_getElem (by omega)]; rfl
        rw [this]
        exact q_stepB R E hb hb2 j hj s
    cases hf : fitStep R (prevOf E j) E[j] s with
    | none =>
      rw [hf] at hst
      exact ⟨0, .last _ _ _ hst (by simp)⟩
    | some s' =>
      rw [hf] at hst
      have ih := q_loop1 hb hb2 d (j + 1) s' (by omega)
      have hp : prevOf E (j + 1) = some E[j].at_ := by
        show (E[j]?).map Ev.at_ = _
        rw [List.getElem?_eq_getElem hj]; rfl
      rw [hp] at ih
      dsimp only
      cases hg : fit1 R (some E[j].at_) (E.drop (j + 1)) s' with
      | none =>
        rw [hg] at ih
        obtain ⟨d', hd⟩ := ih
        exact ⟨d' + 1, .step _ _ _ _ _ hst hd⟩
      | some s2 =>
        rw [hg] at ih
        obtain ⟨d', hd⟩ := ih
        exact ⟨d' + 1, .step _ _ _ _ _ hst hd⟩
noncomputable def qH2 (y : Bool) (s : List Nat) (i : Nat) : St := mkO (qV R.isEmpty R.length i) (qO R.isEmpty y (R.map Rec.out) (E.map Ev.out) (seenR s)) 3
theorem qV_ok (z : Bool) (n i : Nat) : (qV z n i).all (fun p => p.2.inP (kp 3 [])) = true ∧ renL 3 [] (qV z n i) = qV z n i ∧ smallS (qV z n i) = true := by cases z <;> exact ⟨rfl, rfl, rfl⟩
theorem q_loop2 (hb : R.length ≤ 20) (y : Bool) (s : List Nat) : ∀ (d i : Nat), i + d = R.length → match fit2 s i (R.drop i) with
    | true => ∃ d', LoopW 3 Tryz.prog 92 none qL2 d' (qH2 R E y s i) (.exit 2) (mkO qRf [] 3)
    | false => ∃ d', LoopW 3 Tryz.prog 92 none qL2 d' (qH2 R E y s i) .ret (mkO qRf [] 3)
  | 0, i, h => by
    rw [List.drop_of_length_le (by omega)]
    refine ⟨0, .last _ _ _ ?_ (by simp)⟩
    exact outP_Q (qx2 R.isEmpty y (R.map Rec.out) (E.map Ev.out) (seenR s) R.length i) (qx2_e R.isEmpty y (R.map Rec.out) (E.map Ev.out) (seenR s) R.length i) (allB_of (cons_ok (by rw [lenR, nb (by omega)]; rfl) nil_ok)) no_hs rfl rfl (by omega) rfl rfl trivial
  | d + 1, i, h => by
    have hi : i < R.length := by omega
    rw [List.drop_eq_getElem_cons hi]
    have hz : R.isEmpty = false := by cases R with
      | nil => simp at hi
      | cons => rfl
    obtain ⟨r, hr⟩ : ∃ r, r = R[i] := ⟨_, rfl⟩
    rw [← hr]
    have hrow : encR (PObj.row (0 + i) (qrO (R.map Rec.out))) = encR (some (outR' r.c r.k r.n r.a r.f r.i r.v r.to r.nm r.e r.ro r.rv r.b r.en)) := by rw [hr]; exact row_R hi
    have ih := q_loop2 hb y s d (i + 1) (by omega)
    show (match (if r.en ≠ -1 ∧ i ∉ s then false else fit2 s (i + 1) (R.drop (i + 1))) with | true => _ | false => _)
    have base : ∀ c ∈ [true, Nat.blt i R.length, true, Nat.blt i R.length], c = true := cons_ok rfl (cons_ok (tb hi) (cons_ok rfl (cons_ok (tb hi) nil_ok)))
    have hadd : Nat.blt (Nat.add i 1) 9223372036854775808 = true := tb (show i + 1 < _ by omega)
    obtain ⟨v1, v2, v3⟩ := qV_ok false R.length (i + 1)
    have go : CodeW 3 Tryz.prog 92 none qL2 (qH2 R E y s i) .normal (qH2 R E y s (i + 1)) → match fit2 s (i + 1) (R.drop (i + 1)) with
        | true => ∃ d', LoopW 3 Tryz.prog 92 none qL2 d' (qH2 R E y s i) (.exit 2) (mkO qRf [] 3)
        | false => ∃ d', LoopW 3 Tryz.prog 92 none qL2 d' (qH2 R E y s i) .ret (mkO qRf [] 3) := fun hc => by
      cases hg : fit2 s (i + 1) (R.drop (i + 1)) with
      | true =>
        rw [hg] at ih
        obtain ⟨d', hd⟩ := ih
        exact ⟨d' + 1, .step _ _ _ _ _ hc hd⟩
      | false =>
        rw [hg] at ih
        obtain ⟨d', hd⟩ := ih
        exact ⟨d' + 1, .step _ _ _ _ _ hc hd⟩
    by_cases hen : r.en = -1
    · rw [if_neg (fun h => h.1 hen)]
      refine go ?_
      unfold qH2
      rw [hz]
      exact outP_Q (qwo y (R.map Rec.out) (E.map Ev.out) (seenR s) R.length i 0 r.c r.k r.n r.a r.f r.i r.v r.to r.nm r.e r.ro r.rv r.b r.en) (qwo_e y (R.map Rec.out) (E.map Ev.out) (seenR s) R.length i 0 r.c r.k r.n r.a r.f r.i r.v r.to r.nm r.e r.ro r.rv r.b r.en) (allB_of (cons_ok hadd (cons_ok (show (not (r.en != -1)) = true by rw [hen]; rfl) base))) (cons_hs hrow no_hs) v3 (qO_small _ _ _ _ _) (by omega) v1 v2 (okR R E false y s)
    have hen' : (r.en != -1) = true := by simpa using hen
    by_cases hs : i ∈ s
    · rw [if_neg (fun h => h.2 hs)]
      refine go ?_
      obtain ⟨w, hw⟩ := find_in (k := i) (s := s) 0 hs
      unfold qH2
      rw [hz]
      exact outP_Q (qws y (R.map Rec.out) (E.map Ev.out) (seenR s) R.length i w r.c r.k r.n r.a r.f r.i r.v r.to r.nm r.e r.ro r.rv r.b r.en) (qws_e y (R.map Rec.out) (E.map Ev.out) (seenR s) R.length i w r.c r.k r.n r.a r.f r.i r.v r.to r.nm r.e r.ro r.rv r.b r.en) (allB_of (cons_ok hadd (cons_ok rfl (cons_ok rfl (cons_ok (notLoop_seen s) (cons_ok hen' base)))))) (cons_hs (congrArg encF hw) (cons_hs hrow no_hs)) v3 (qO_small _ _ _ _ _) (by omega) v1 v2 (okR R E false y s)
    · rw [if_pos ⟨hen, hs⟩]
      refine ⟨0, .last _ _ _ ?_ (by simp)⟩
      unfold qH2
      rw [hz]
      exact outP_Q (qwn y (R.map Rec.out) (E.map Ev.out) (seenR s) R.length i 0 r.c r.k r.n r.a r.f r.i r.v r.to r.nm r.e r.ro r.rv r.b r.en) (qwn_e y (R.map Rec.out) (E.map Ev.out) (seenR s) R.length i 0 r.c r.k r.n r.a r.f r.i r.v r.to r.nm r.e r.ro r.rv r.b r.en) (allB_of (cons_ok rfl (cons_ok rfl (cons_ok (notLoop_seen s) (cons_ok hen' base))))) (cons_hs (congrArg encF (find_out 0 hs)) (cons_hs hrow no_hs)) rfl rfl (by omega) rfl rfl trivial
theorem qI_ok : OsOk 3 [] (qI R.isEmpty E.isEmpty (R.map Rec.out) (E.map Ev.out)) (qI R.isEmpty E.isEmpty (R.map Rec.out) (E.map Ev.out)) := by
  cases R.isEmpty <;> cases E.isEmpty
  · exact ⟨rfl, by decide, .bare (by decide) (re_allO E), rfl, by decide, .bare (by decide) (rr_allO R), trivial⟩
  · exact ⟨rfl, by decide, .bare (by decide) (rr_allO R), trivial⟩
  · exact ⟨rfl, by decide, .bare (by decide) (re_allO E), trivial⟩
  · exact trivial
abbrev fitsN : Nat := 19
theorem fits_run (hb : R.length ≤ 20) (hb2 : E.length ≤ 20) : ∃ K n1, RunAt Tryz.prog fitsN [.one (qr R.isEmpty R.length), .one (qe E.isEmpty E.length)] (.tr (mkTr (qI R.isEmpty E.isEmpty (R.map Rec.out) (E.map Ev.out)))) 2 (.a (.one (.bool (fitsG R E)))) K n1 ∧ 2 ≤ n1 := by
  have iok : ∀ {n0 : Nat}, n0 = 2 → OsOk n0 [] (qI R.isEmpty E.isEmpty (R.map Rec.out) (E.map Ev.out)) (qI R.isEmpty E.isEmpty (R.map Rec.out) (E.map Ev.out)) := fun {n0} h => by
    subst h
    cases R.isEmpty <;> cases E.isEmpty
    · exact ⟨rfl, by decide, .bare (by decide) (re_allO E), rfl, by decide, .bare (by decide) (rr_allO R), trivial⟩
    · exact ⟨rfl, by decide, .bare (by decide) (rr_allO R), trivial⟩
    · exact ⟨rfl, by decide, .bare (by decide) (re_allO E), trivial⟩
    · exact trivial
  let z := R.isEmpty
  let y := E.isEmpty
  have k0 : CodeW 2 Tryz.prog 92 none q0 ⟨startS [.one (qr R.isEmpty R.length), .one (qe E.isEmpty E.length)] 0 .leaf, .tr (mkTr (qI R.isEmpty E.isEmpty (R.map Rec.out) (E.map Ev.out))), 2⟩ .normal (mkO [(0, .v (.one (qr R.isEmpty R.length))), (1, .v (.one (qe E.isEmpty E.length))), (4, .v (.one (.bool false)))] (qI R.isEmpty E.isEmpty (R.map Rec.out) (E.map Ev.out)) 2) := by
    have := outP_W (n0 := 2) (olds := []) (l := [(0, .v (.one (qr R.isEmpty R.length))), (1, .v (.one (qe E.isEmpty E.length))), (4, .v (.one (.bool false)))]) (o1 := qI R.isEmpty E.isEmpty (R.map Rec.out) (E.map Ev.out)) (o2 := qI R.isEmpty E.isEmpty (R.map Rec.out) (E.map Ev.out)) Sx_ok Sx_pb (qp0 R.isEmpty E.isEmpty (R.map Rec.out) (E.map Ev.out) [] R.length E.length 0) (qp0_e R.isEmpty E.isEmpty (R.map Rec.out) (E.map Ev.out) [] R.length E.length 0) rfl no_hs rfl (by cases R.isEmpty <;> cases E.isEmpty <;> rfl) (by omega) (fun o ho => by cases ho) (by simp) (by cases R.isEmpty <;> cases E.isEmpty <;> rfl) (iok rfl)
    rw [show renL 2 [] [(0, .v (.one (qr R.isEmpty R.length))), (1, .v (.one (qe E.isEmpty E.length))), (4, .v (.one (.bool false)))] = [(0, .v (.one (qr R.isEmpty R.length))), (1, .v (.one (qe E.isEmpty E.length))), (4, .v (.one (.bool false)))] by cases R.isEmpty <;> cases E.isEmpty <;> rfl] at this
    exact this
  have k1 : CodeW 2 Tryz.prog 92 none q1 (mkO [(0, .v (.one (qr R.isEmpty R.length))), (1, .v (.one (qe E.isEmpty E.length))), (4, .v (.one (.bool false)))] (qI R.isEmpty E.isEmpty (R.map Rec.out) (E.map Ev.out)) 2) .normal (mkO [(0, .v (.one (qr R.isEmpty R.length))), (1, .v (.one (qe E.isEmpty E.length))), (4, .v (.one (.bool false))), (5, .v (.one (.mp 2)))] (qO R.isEmpty E.isEmpty (R.map Rec.out) (E.map Ev.out) []) 3) := by
    have := outP_W (n0 := 2) (olds := [2]) (l := [(0, .v (.one (qr R.isEmpty R.length))), (1, .v (.one (qe E.isEmpty E.length))), (4, .v (.one (.bool false))), (5, .v (.one (.mp 2)))]) (o1 := qO R.isEmpty E.isEmpty (R.map Rec.out) (E.map Ev.out) []) (o2 := qO R.isEmpty E.isEmpty (R.map Rec.out) (E.map Ev.out) []) Sx_ok Sx_pb (qp1 R.isEmpty E.isEmpty (R.map Rec.out) (E.map Ev.out) [] R.length E.length 0) (qp1_e R.isEmpty E.isEmpty (R.map Rec.out) (E.map Ev.out) [] R.length E.length 0) rfl no_hs rfl (by cases R.isEmpty <;> cases E.isEmpty <;> rfl) (by omega) (fun o ho => by rcases List.mem_singleton.1 ho with rfl; omega) (by simp) (by cases R.isEmpty <;> cases E.isEmpty <;> rfl) (by
      cases R.isEmpty <;> cases E.isEmpty
      · exact ⟨rfl, by decide, .map rfl rfl, rfl, by decide, .bare (by decide) (re_allO E), rfl, by decide, .bare (by decide) (rr_allO R), trivial⟩
      · exact ⟨rfl, by decide, .map rfl rfl, rfl, by decide, .bare (by decide) (rr_allO R), trivial⟩
      · exact ⟨rfl, by decide, .map rfl rfl, rfl, by decide, .bare (by decide) (re_allO E), trivial⟩
      · exact ⟨rfl, by decide, .map rfl rfl, trivial⟩)
    rw [show renL 2 [2] [(0, .v (.one (qr R.isEmpty R.length))), (1, .v (.one (qe E.isEmpty E.length))), (4, .v (.one (.bool false))), (5, .v (.one (.mp 2)))] = [(0, .v (.one (qr R.isEmpty R.length))), (1, .v (.one (qe E.isEmpty E.length))), (4, .v (.one (.bool false))), (5, .v (.one (.mp 2)))] by cases R.isEmpty <;> cases E.isEmpty <;> rfl] at this
    exact this
  have k01 : CodeR Tryz.prog 92 none (.seq q0 q1) _ .normal _ := (k0.seq k1).R (Nat.le_refl 2) (fun lp h => by cases h)
  have k2 : CodeW 3 Tryz.prog 92 none qa2 (mkO [(0, .v (.one (qr R.isEmpty R.length))), (1, .v (.one (qe E.isEmpty E.length))), (4, .v (.one (.bool false))), (5, .v (.one (.mp 2)))] (qO R.isEmpty E.isEmpty (R.map Rec.out) (E.map Ev.out) []) 3) .normal (qHd R E E.isEmpty 0 []) :=
    outP_Q (qp2 R.isEmpty E.isEmpty (R.map Rec.out) (E.map Ev.out) [] R.length E.length 0) (qp2_e R.isEmpty E.isEmpty (R.map Rec.out) (E.map Ev.out) [] R.length E.length 0) rfl no_hs (qS_in _ _ _ _ _).2.2 (qO_small _ _ _ _ _) (by omega) (qS_in _ _ _ _ _).1 (qS_in _ _ _ _ _).2.1 (okR R E R.isEmpty E.isEmpty [])
  have fin : ∀ (b : Bool) (s4 : St), CodeR Tryz.prog 92 none qB ⟨startS [.one (qr R.isEmpty R.length), .one (qe E.isEmpty E.length)] 0 .leaf, .tr (mkTr (qI R.isEmpty E.isEmpty (R.map Rec.out) (E.map Ev.out))), 2⟩ .ret (mkO [(4, .v (.one (.bool b)))] [] 3) → RunAt Tryz.prog fitsN [.one (qr R.isEmpty R.length), .one (qe E.isEmpty E.length)] (.tr (mkTr (qI R.isEmpty E.isEmpty (R.map Rec.out) (E.map Ev.out)))) 2 (.a (.one (.bool b))) (.tr (mkTr [])) 3 := fun b s4 hB =>
    fn_run (S := Sx.toSys) Sx_ok (f := fitsN) (fd := fdOf Tryz.f19) (ads := [.one (qr R.isEmpty R.length), .one (qe E.isEmpty E.length)]) (by kernel_rfl) ⟨Nat.le_of_ble_eq_true (by kernel_rfl), Nat.le_of_ble_eq_true (by kernel_rfl)⟩ hB (.inr rfl) (by kernel_rfl)
  have hl1 : match fit1 R none E [] with
      | some s' => ∃ d', LoopW 3 Tryz.prog 92 none qL1 d' (qHd R E E.isEmpty 0 []) (.exit 0) (qEx R E E.isEmpty s')
      | none => ∃ d', LoopW 3 Tryz.prog 92 none qL1 d' (qHd R E E.isEmpty 0 []) .ret (mkO qRf [] 3) := by
    cases hE : E with
    | nil => exact ⟨0, q_exit1 R [] true 0 [] (show ¬ 0 < 0 by omega)⟩
    | cons x l =>
      have := q_loop1 R E hb hb2 E.length 0 [] (by omega)
      rw [hE] at this
      exact this
  have tr : ∀ {c : Code} {s4 : St}, CodeW 3 Tryz.prog 92 none c (mkO [(0, .v (.one (qr R.isEmpty R.length))), (1, .v (.one (qe E.isEmpty E.length))), (4, .v (.one (.bool false))), (5, .v (.one (.mp 2)))] (qO R.isEmpty E.isEmpty (R.map Rec.out) (E.map Ev.out) []) 3) .ret s4 → CodeR Tryz.prog 92 none c (mkO [(0, .v (.one (qr R.isEmpty R.length))), (1, .v (.one (qe E.isEmpty E.length))), (4, .v (.one (.bool false))), (5, .v (.one (.mp 2)))] (qO R.isEmpty E.isEmpty (R.map Rec.out) (E.map Ev.out) []) 3) .ret s4 := fun h => h.R (Nat.le_refl 3) (fun lp h => by cases h)
  have join : ∀ {b : Bool}, CodeW 3 Tryz.prog 92 none (.seq (.seq qa2 ql1) (.seq (.seq qb2 ql2) qE)) (mkO [(0, .v (.one (qr R.isEmpty R.length))), (1, .v (.one (qe E.isEmpty E.length))), (4, .v (.one (.bool false))), (5, .v (.one (.mp 2)))] (qO R.isEmpty E.isEmpty (R.map Rec.out) (E.map Ev.out) []) 3) .ret (mkO [(4, .v (.one (.bool b)))] [] 3) → RunAt Tryz.prog fitsN [.one (qr R.isEmpty R.length), .one (qe E.isEmpty E.length)] (.tr (mkTr (qI R.isEmpty E.isEmpty (R.map Rec.out) (E.map Ev.out)))) 2 (.a (.one (.bool b))) (.tr (mkTr [])) 3 := fun {b} h => by
    refine fin b (mkO [] [] 3) ?_
    rw [qB_eq]
    exact ((k0.R (Nat.le_refl 2) (fun lp h => by cases h)).seq ((k1.R (Nat.le_refl 2) (fun lp h => by cases h)).seq (tr h)))
  refine ⟨.tr (mkTr []), 3, ?_, by omega⟩
  unfold fitsG
  cases hf : fit1 R none E [] with
  | none =>
    rw [hf] at hl1
    obtain ⟨d', hd⟩ := hl1
    refine join ?_
    refine CodeW.seq' (k2.seq ?_) (by simp)
    rw [ql1_eq]
    exact hd.code.block (id := 0)
  | some s =>
    rw [hf] at hl1
    obtain ⟨d', hd⟩ := hl1
    have k3 : CodeW 3 Tryz.prog 92 none ql1 (qHd R E E.isEmpty 0 []) .normal (qEx R E E.isEmpty s) := by
      rw [ql1_eq]
      exact hd.code.block (id := 0)
    have k4 : CodeW 3 Tryz.prog 92 none qb2 (qEx R E E.isEmpty s) .normal (qH2 R E E.isEmpty s 0) :=
      outP_Q (qp3 R.isEmpty E.isEmpty (R.map Rec.out) (E.map Ev.out) (seenR s) R.length E.length 0) (qp3_e R.isEmpty E.isEmpty (R.map Rec.out) (E.map Ev.out) (seenR s) R.length E.length 0) rfl no_hs (qV_ok _ _ _).2.2 (qO_small _ _ _ _ _) (by omega) (qV_ok _ _ _).1 (qV_ok _ _ _).2.1 (okR R E R.isEmpty E.isEmpty s)
    have hl2 := q_loop2 R E hb E.isEmpty s R.length 0 (by omega)
    rw [List.drop_zero] at hl2
    dsimp only
    cases hg : fit2 s 0 R with
    | false =>
      rw [hg] at hl2
      obtain ⟨d2, hd2⟩ := hl2
      refine join ((k2.seq k3).seq (CodeW.seq' (k4.seq ?_) (by simp)))
      rw [ql2_eq]
      exact hd2.code.block (id := 2)
    | true =>
      rw [hg] at hl2
      obtain ⟨d2, hd2⟩ := hl2
      have k5 : CodeW 3 Tryz.prog 92 none ql2 (qH2 R E E.isEmpty s 0) .normal (mkO qRf [] 3) := by
        rw [ql2_eq]
        exact hd2.code.block (id := 2)
      have k6 : CodeW 3 Tryz.prog 92 none qE (mkO qRf [] 3) .ret (mkO qRt [] 3) := outP_Q (qpE 0) (qpE_e 0) rfl no_hs rfl rfl (by omega) rfl rfl trivial
      exact join ((k2.seq k3).seq ((k4.seq k5).seq k6))
end
end Go.Proofs.YtmhinddneefmbaaGreat.Pe
