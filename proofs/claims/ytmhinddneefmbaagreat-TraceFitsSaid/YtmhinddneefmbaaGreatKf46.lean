/- A part of the proof of JdH. -/
import Derived.Test.YtmhinddneefmbaaGreatKf44
import Derived.Test.YtmhinddneefmbaaGreatKf45
set_option linter.unusedSimpArgs false
set_option linter.unusedVariables false
set_option linter.unusedSectionVars false
namespace Go.Proofs.YtmhinddneefmbaaGreat.Pe
open Go
set_option maxRecDepth 100000
section
variable (R : List Rec) (E : List Ev)
noncomputable def gMd (s : List Nat) : St := mkO (gSm R.isEmpty (R.map Rec.row) (E.map Ev.row) R.length) (gO R.isEmpty (cntR s R.length)) (gnx R.isEmpty)
noncomputable def gAm (m : Nat) : St := mkO (gSa false (R.map Rec.row) (E.map Ev.row) 0 m m) (gO false (cntR [] m)) 1
theorem g_sm {l : List (Nat × AV)} {z : Bool} {n : Nat} (h : l = gSm z (R.map Rec.row) (E.map Ev.row) n) : l.all (fun p => p.2.inP (kp 0 (gol z))) = true ∧ renL 0 (gol z) l = l ∧ smallS l = true := g_slots R E (o := []) (n := n) (j := 0) (.inr (.inl h))
theorem g_loopA (hb : R.length ≤ 20) : ∀ (d m : Nat), m + d = R.length → 0 < m → LoopW 0 Tryz.prog 120 none gL1 d (gAm R E m) (.exit 0) (mkO (gSm false (R.map Rec.row) (E.map Ev.row) R.length) (gO false (cntR [] R.length)) 1)
  | 0, m, h, _ => by
    have hi : m = R.length := by omega
    subst hi
    obtain ⟨h1, h2, h3⟩ := g_sm R E (z := false) (n := R.length) rfl
    exact .last _ _ _ (outP_G (z := false) (gax false (R.map Rec.row) (E.map Ev.row) (cntR [] R.length) R.length R.length) (gax_e false (R.map Rec.row) (E.map Ev.row) (cntR [] R.length) R.length R.length) (allB_of (cons_ok (by rw [List.length_map, nb (Nat.lt_irrefl _)]; rfl) nil_ok)) no_hs h3 rfl h1 h2 (g_os false (cnt_bare [] R.length)).1) (by simp)
  | d + 1, m, h, h0 => by
    have hi : m < R.length := by omega
    have h1 : (gSa false (R.map Rec.row) (E.map Ev.row) 2 (m + 1) (m + 1)).all (fun p => p.2.inP (kp 0 [2])) = true := by
      simp only [gSa, List.all_cons, List.all_nil, AV.inP, show (AD.one (.sl (R.map Rec.row))).inP (kp 0 [2]) = true from rr_all R, show (AD.one (.sl (E.map Ev.row))).inP (kp 0 [2]) = true from re_all E]
      rfl
    have key := outP_W (n0 := 0) (olds := [2]) (l := gSa false (R.map Rec.row) (E.map Ev.row) 2 (m + 1) (m + 1)) (o1 := [(2, gCo (cntR [] m ++ [[.int .i64 0]]))]) (o2 := [(0, gCo (cntR [] m ++ [[.int .i64 0]]))]) Sx_ok Sx_pb (gas (R.map Rec.row) (E.map Ev.row) (cntR [] m) m m) (gas_e (R.map Rec.row) (E.map Ev.row) (cntR [] m) m m)
      (allB_of (cons_ok (tb (show m + 1 < _ by omega)) (cons_ok rfl (cons_ok rfl (cons_ok rfl (cons_ok rfl (cons_ok rfl (cons_ok rfl (cons_ok (te (by rw [cnt_len])) (cons_ok (tl (show (m + 1) * 9 ≤ _ by omega)) (cons_ok (tb (by rw [List.length_map]; omega)) nil_ok)))))))))))
      no_hs rfl rfl (by omega) (fun o ho => by rcases List.mem_singleton.1 ho with rfl; omega) (by simp) h1 ⟨rfl, by decide, .bare (by decide) (by rw [List.all_append, cnt_bare]; rfl), trivial⟩
    rw [cnt_app] at key
    exact .step _ _ (gAm R E (m + 1)) _ _ key (g_loopA hb d (m + 1) (by omega) (by omega))
theorem g_exitB (j : Nat) (s : List Nat) (hj : ¬ j < E.length) : LoopW 0 Tryz.prog 120 none gL2 0 (gHd R E j s) (.exit 2) (gMd R E s) := by
  obtain ⟨h1, h2, h3⟩ := g_sm R E (z := R.isEmpty) (n := R.length) rfl
  exact .last _ _ _ (outP_G (z := R.isEmpty) (gbx R.isEmpty (R.map Rec.row) (E.map Ev.row) (cntR s R.length) R.length j) (gbx_e R.isEmpty (R.map Rec.row) (E.map Ev.row) (cntR s R.length) R.length j) (allB_of (cons_ok (by rw [List.length_map, nb hj]; rfl) nil_ok)) no_hs h3 (g_os _ (cnt_bare s R.length)).2 h1 h2 (g_os _ (cnt_bare s R.length)).1) (by simp)
theorem g_loopB (hb : R.length ≤ 20) (hb2 : E.length ≤ 20) (hr64 : ∀ x ∈ E, x.rc < 9223372036854775808) : ∀ (d j : Nat) (s : List Nat), j + d = E.length → match fit1 R (prevOf E j) (E.drop j) s with
    | some s' => ∃ d', LoopW 0 Tryz.prog 120 none gL2 d' (gHd R E j s) (.exit 2) (gMd R E s')
    | none => ∃ d', LoopW 0 Tryz.prog 120 none gL2 d' (gHd R E j s) .ret (mkO gRf [] (gnx R.isEmpty))
  | 0, j, s, h => by
    rw [List.drop_of_length_le (by omega)]
    exact ⟨0, g_exitB R E j s (show ¬ j < E.length by omega)⟩
  | d + 1, j, s, h => by
    have hj : j < E.length := by omega
    rw [List.drop_eq_getElem_cons hj]
    show (match (match fitStep R (prevOf E j) E[j] s with | none => none | some s' => fit1 R (some E[j].at_) (E.drop (j + 1)) s') with | some s' => _ | none => _)
    have hst : match fitStep R (prevOf E j) E[j] s with
        | some s' => CodeW 0 Tryz.prog 120 none gL2 (gHd R E j s) .normal (gHd R E (j + 1) s')
        | none => CodeW 0 Tryz.prog 120 none gL2 (gHd R E j s) .ret (mkO gRf [] (gnx R.isEmpty)) := by
      cases j with
      | zero => exact g_stepA R E hb hb2 hr64 hj s
      | succ j =>
        have : prevOf E (j + 1) = some E[j].at_ := by
          show (E[j]?).map Ev.at_ = _
          rw [List.getElem?_eq_getElem (by omega)]; rfl
        rw [this]
        exact g_stepB R E hb hb2 hr64 j hj s
    cases hf : fitStep R (prevOf E j) E[j] s with
    | none =>
      rw [hf] at hst
      exact ⟨0, .last _ _ _ hst (by simp)⟩
    | some s' =>
      rw [hf] at hst
      have ih := g_loopB hb hb2 hr64 d (j + 1) s' (by omega)
      have hp : prevOf E (j + 1) = some E[j].at_ := by
        show (E[j]?).map Ev.at_ = _
        rw [List.getElem?_eq_getElem hj]; rfl
      rw [hp] at ih
      dsimp only
      cases hg : fit1 R (some E[j].at_) (E.drop (j + 1)) s' with
      | none =>
        rw [hg] at ih
        obtain ⟨d', hd⟩ := ih
        exact ⟨d' + 1, .step _ _ _ _ _ hst hd⟩
      | some s2 =>
        rw [hg] at ih
        obtain ⟨d', hd⟩ := ih
        exact ⟨d' + 1, .step _ _ _ _ _ hst hd⟩
noncomputable def gH3 (s : List Nat) (i : Nat) : St := mkO (gSc R.isEmpty (R.map Rec.row) R.length i) (gO R.isEmpty (cntR s R.length)) (gnx R.isEmpty)
theorem g_loopC (hb : R.length ≤ 20) (s : List Nat) : ∀ (d i : Nat), i + d = R.length → match fit2 s i (R.drop i) with
    | true => ∃ d', LoopW 0 Tryz.prog 120 none gL3 d' (gH3 R s i) (.exit 4) (mkO gRf [] (gnx R.isEmpty))
    | false => ∃ d', LoopW 0 Tryz.prog 120 none gL3 d' (gH3 R s i) .ret (mkO gRf [] (gnx R.isEmpty))
  | 0, i, h => by
    rw [List.drop_of_length_le (by omega)]
    refine ⟨0, .last _ _ _ ?_ (by simp)⟩
    exact outP_G (z := R.isEmpty) (gcx R.isEmpty (R.map Rec.row) [] (cntR s R.length) R.length i) (gcx_e R.isEmpty (R.map Rec.row) [] (cntR s R.length) R.length i) (allB_of (cons_ok (by rw [List.length_map, nb (by omega)]; rfl) nil_ok)) no_hs rfl rfl (by cases R.isEmpty <;> rfl) (by cases R.isEmpty <;> rfl) (by cases R.isEmpty <;> trivial)
  | d + 1, i, h => by
    have hi : i < R.length := by omega
    rw [List.drop_eq_getElem_cons hi]
    have hz : R.isEmpty = false := by cases R with
      | nil => simp at hi
      | cons => rfl
    obtain ⟨r, hr⟩ : ∃ r, r = R[i] := ⟨_, rfl⟩
    rw [← hr]
    have hrow : encR ((R.map Rec.row)[i]?) = encR (some (rowR r.c r.k r.n r.a r.f r.i r.v r.to r.nm r.e r.ro r.rv r.b r.en)) := by rw [hr]; exact g_rec R hi
    have hcnt : encR (PObj.row (0 + i) (gCo (cntR s R.length))) = encR (some [.int .i64 (if i ∈ s then 1 else 0)]) := by
      show encR ((cntR s R.length)[0 + i]?) = _
      rw [Nat.zero_add, cnt_at hi]
    have ih := g_loopC hb s d (i + 1) (by omega)
    show (match (if r.en ≠ -1 ∧ i ∉ s then false else fit2 s (i + 1) (R.drop (i + 1))) with | true => _ | false => _)
    have lB : Nat.blt i (R.map Rec.row).length = true := tb (by rw [List.length_map]; exact hi)
    have hadd : Nat.blt (Nat.add i 1) 9223372036854775808 = true := tb (show i + 1 < _ by omega)
    obtain ⟨v1, v2, v3⟩ := g_slots R [] (z := false) (n := R.length) (j := i + 1) (o := []) (l := gSc false (R.map Rec.row) R.length (i + 1)) (.inr (.inr (.inr (.inl rfl))))
    have go : CodeW 0 Tryz.prog 120 none gL3 (gH3 R s i) .normal (gH3 R s (i + 1)) → match fit2 s (i + 1) (R.drop (i + 1)) with
        | true => ∃ d', LoopW 0 Tryz.prog 120 none gL3 d' (gH3 R s i) (.exit 4) (mkO gRf [] (gnx R.isEmpty))
        | false => ∃ d', LoopW 0 Tryz.prog 120 none gL3 d' (gH3 R s i) .ret (mkO gRf [] (gnx R.isEmpty)) := fun hc => by
      cases hg : fit2 s (i + 1) (R.drop (i + 1)) with
      | true =>
        rw [hg] at ih
        obtain ⟨d', hd⟩ := ih
        exact ⟨d' + 1, .step _ _ _ _ _ hc hd⟩
      | false =>
        rw [hg] at ih
        obtain ⟨d', hd⟩ := ih
        exact ⟨d' + 1, .step _ _ _ _ _ hc hd⟩
    have os := g_os false (cnt_bare s R.length)
    by_cases hen : r.en = -1
    · rw [if_neg (fun h => h.1 hen)]
      refine go ?_
      unfold gH3
      rw [hz]
      exact outP_G (z := false) (gco (R.map Rec.row) (cntR s R.length) R.length i r.c r.k r.n r.a r.f r.i r.v r.to r.nm r.e r.ro r.rv r.b r.en) (gco_e (R.map Rec.row) (cntR s R.length) R.length i r.c r.k r.n r.a r.f r.i r.v r.to r.nm r.e r.ro r.rv r.b r.en) (allB_of (cons_ok hadd (cons_ok (show (not (r.en != -1)) = true by rw [hen]; rfl) (cons_ok rfl (cons_ok lB nil_ok))))) (cons_hs hrow (cons_hs hrow no_hs)) v3 os.2 v1 v2 os.1
    have hen' : (r.en != -1) = true := by simpa using hen
    by_cases hs : i ∈ s
    · rw [if_neg (fun h => h.2 hs)]
      rw [if_pos hs] at hcnt
      refine go ?_
      unfold gH3
      rw [hz]
      exact outP_G (z := false) (gcs (R.map Rec.row) (cntR s R.length) R.length i r.c r.k r.n r.a r.f r.i r.v r.to r.nm r.e r.ro r.rv r.b r.en) (gcs_e (R.map Rec.row) (cntR s R.length) R.length i r.c r.k r.n r.a r.f r.i r.v r.to r.nm r.e r.ro r.rv r.b r.en) (allB_of (cons_ok hadd (cons_ok rfl (cons_ok (tb hi) (cons_ok rfl (cons_ok hen' (cons_ok rfl (cons_ok lB nil_ok)))))))) (cons_hs hcnt (cons_hs hrow (cons_hs hrow no_hs))) v3 os.2 v1 v2 os.1
    · rw [if_pos ⟨hen, hs⟩]
      rw [if_neg hs] at hcnt
      refine ⟨0, .last _ _ _ ?_ (by simp)⟩
      unfold gH3
      rw [hz]
      exact outP_G (z := false) (gcn (R.map Rec.row) (cntR s R.length) R.length i r.c r.k r.n r.a r.f r.i r.v r.to r.nm r.e r.ro r.rv r.b r.en) (gcn_e (R.map Rec.row) (cntR s R.length) R.length i r.c r.k r.n r.a r.f r.i r.v r.to r.nm r.e r.ro r.rv r.b r.en) (allB_of (cons_ok rfl (cons_ok (tb hi) (cons_ok rfl (cons_ok hen' (cons_ok rfl (cons_ok lB nil_ok))))))) (cons_hs hcnt (cons_hs hrow (cons_hs hrow no_hs))) rfl rfl rfl rfl trivial
abbrev refFitsN : Nat := 22
theorem gref_run (hb : R.length ≤ 20) (hb2 : E.length ≤ 20) (hr64 : ∀ x ∈ E, x.rc < 9223372036854775808) : ∃ K n1, RunAt Tryz.prog refFitsN [.one (.sl (R.map Rec.row)), .one (.sl (E.map Ev.row))] (.tr .leaf) 0 (.a (.one (.bool (fitsG R E)))) K n1 := by
  have hin : ∀ {l : List (Nat × AV)}, l = [(0, .v (.one (.sl (R.map Rec.row)))), (1, .v (.one (.sl (E.map Ev.row)))), (4, .v (.one (.bool false)))] → l.all (fun p => p.2.inP (kp 0 [])) = true ∧ renL 0 [] l = l := fun {l} h => by
    subst h
    refine ⟨?_, rfl⟩
    simp only [List.all_cons, List.all_nil, AV.inP, show (AD.one (.sl (R.map Rec.row))).inP (kp 0 []) = true from rr_all R, show (AD.one (.sl (E.map Ev.row))).inP (kp 0 []) = true from re_all E]
    rfl
  have k0 : CodeW 0 Tryz.prog 120 none (cA gB) ⟨startS [.one (.sl (R.map Rec.row)), .one (.sl (E.map Ev.row))] 0 .leaf, .tr .leaf, 0⟩ .normal (mkO [(0, .v (.one (.sl (R.map Rec.row)))), (1, .v (.one (.sl (E.map Ev.row)))), (4, .v (.one (.bool false)))] [] 0) :=
    outP_G (z := true) (gp0 (R.map Rec.row) (E.map Ev.row) [] 0 0) (gp0_e (R.map Rec.row) (E.map Ev.row) [] 0 0) rfl no_hs rfl rfl (hin rfl).1 (hin rfl).2 trivial
  obtain ⟨a1, a2, a3⟩ := g_sm R E (z := true) (n := 0) rfl
  have k1 : CodeW 0 Tryz.prog 120 none (cA (cB gB)) _ .normal (mkO (gSm true (R.map Rec.row) (E.map Ev.row) 0) [] 0) :=
    outP_G (z := true) (gp1 (R.map Rec.row) (E.map Ev.row) [] 0 0) (gp1_e (R.map Rec.row) (E.map Ev.row) [] 0 0) rfl no_hs a3 rfl a1 a2 trivial
  obtain ⟨b1, b2, b3⟩ := g_slots R E (z := true) (n := 0) (j := 0) (o := []) (l := gSa true (R.map Rec.row) (E.map Ev.row) 0 0 0) (.inr (.inr (.inl rfl)))
  have k2 : CodeW 0 Tryz.prog 120 none ga _ .normal (mkO (gSa true (R.map Rec.row) (E.map Ev.row) 0 0 0) [] 0) :=
    outP_G (z := true) (gp2 (R.map Rec.row) (E.map Ev.row) [] 0 0) (gp2_e (R.map Rec.row) (E.map Ev.row) [] 0 0) rfl no_hs b3 rfl b1 b2 trivial
  have k3 : CodeW 0 Tryz.prog 120 none gl1 (mkO (gSa true (R.map Rec.row) (E.map Ev.row) 0 0 0) [] 0) .normal (gMd R E []) := by
    rw [gl1_eq]
    refine CodeW.block (id := 0) (ex := .exit 0) ?_
    cases hR : R with
    | nil =>
      obtain ⟨h1, h2, h3⟩ := g_sm [] E (z := true) (n := 0) rfl
      exact (LoopW.last _ _ _ (outP_G (z := true) (gax true [] (E.map Ev.row) [] 0 0) (gax_e true [] (E.map Ev.row) [] 0 0) rfl no_hs h3 rfl h1 h2 trivial) (by simp)).code
    | cons r l =>
      have hlen : 0 < R.length := by rw [hR]; simp
      have h1 : (gSa false (R.map Rec.row) (E.map Ev.row) 1 1 1).all (fun p => p.2.inP (kp 0 [1])) = true := by
        simp only [gSa, List.all_cons, List.all_nil, AV.inP, show (AD.one (.sl (R.map Rec.row))).inP (kp 0 [1]) = true from rr_all R, show (AD.one (.sl (E.map Ev.row))).inP (kp 0 [1]) = true from re_all E]
        rfl
      have s0 := outP_W (n0 := 0) (olds := [1]) (l := gSa false (R.map Rec.row) (E.map Ev.row) 1 1 1) (o1 := [(1, gCo [[.int .i64 0]])]) (o2 := [(0, gCo [[.int .i64 0]])]) Sx_ok Sx_pb (gas0 (R.map Rec.row) (E.map Ev.row) [] 0 0) (gas0_e (R.map Rec.row) (E.map Ev.row) [] 0 0)
        (allB_of (cons_ok rfl (cons_ok (tb (by rw [List.length_map]; exact hlen)) nil_ok))) no_hs rfl rfl (by omega) (fun o ho => by rcases List.mem_singleton.1 ho with rfl; omega) (by simp) h1 ⟨rfl, by decide, .bare (by decide) rfl, trivial⟩
      have hl := g_loopA R E hb (R.length - 1) 1 (by omega) (by omega)
      have hc := (LoopW.step _ _ _ _ _ s0 hl).code
      rw [hR] at hc
      exact hc
  obtain ⟨c1, c2, c3⟩ := g_slots R E (z := R.isEmpty) (n := R.length) (j := 0) (o := []) (l := gS R.isEmpty (R.map Rec.row) (E.map Ev.row) R.length 0) (.inl rfl)
  have os := fun s => g_os R.isEmpty (cnt_bare s R.length)
  have k4 : CodeW 0 Tryz.prog 120 none gb (gMd R E []) .normal (gHd R E 0 []) :=
    outP_G (z := R.isEmpty) (gp3 R.isEmpty (R.map Rec.row) (E.map Ev.row) (cntR [] R.length) R.length 0) (gp3_e R.isEmpty (R.map Rec.row) (E.map Ev.row) (cntR [] R.length) R.length 0) rfl no_hs c3 (os []).2 c1 c2 (os []).1
  have fin : ∀ (b : Bool) , CodeW 0 Tryz.prog 120 none (.seq (.seq gb gl2) (.seq (.seq gc gl3) gE)) (gMd R E []) .ret (mkO [(4, .v (.one (.bool b)))] [] (gnx R.isEmpty)) → ∃ K n1, RunAt Tryz.prog refFitsN [.one (.sl (R.map Rec.row)), .one (.sl (E.map Ev.row))] (.tr .leaf) 0 (.a (.one (.bool b))) K n1 := fun b h => by
    have hB : CodeR Tryz.prog 120 none gB ⟨startS [.one (.sl (R.map Rec.row)), .one (.sl (E.map Ev.row))] 0 .leaf, .tr .leaf, 0⟩ .ret (mkO [(4, .v (.one (.bool b)))] [] (gnx R.isEmpty)) := by
      rw [gB_eq]
      exact (k0.seq (k1.seq ((k2.seq k3).seq h))).R (Nat.le_refl 0) (fun lp h => by cases h)
    exact ⟨.tr (mkTr []), gnx R.isEmpty, fn_run (S := Sx.toSys) Sx_ok (f := refFitsN) (fd := fdOf Tryz.f22) (ads := [.one (.sl (R.map Rec.row)), .one (.sl (E.map Ev.row))]) (by kernel_rfl) ⟨Nat.le_of_ble_eq_true (by kernel_rfl), Nat.le_of_ble_eq_true (by kernel_rfl)⟩ hB (.inr rfl) (by kernel_rfl)⟩
  have hl1 := g_loopB R E hb hb2 hr64 E.length 0 [] (by omega)
  rw [List.drop_zero] at hl1
  unfold fitsG
  cases hf : fit1 R none E [] with
  | none =>
    rw [show prevOf E 0 = none from rfl, hf] at hl1
    obtain ⟨d', hd⟩ := hl1
    refine fin false ?_
    refine CodeW.seq' (k4.seq ?_) (by simp)
    rw [gl2_eq]
    exact hd.code.block (id := 2)
  | some s =>
    rw [show prevOf E 0 = none from rfl, hf] at hl1
    obtain ⟨d', hd⟩ := hl1
    have k5 : CodeW 0 Tryz.prog 120 none gl2 (gHd R E 0 []) .normal (gMd R E s) := by
      rw [gl2_eq]
      exact hd.code.block (id := 2)
    obtain ⟨e1, e2, e3⟩ := g_slots R E (z := R.isEmpty) (n := R.length) (j := 0) (o := []) (l := gSc R.isEmpty (R.map Rec.row) R.length 0) (.inr (.inr (.inr (.inl rfl))))
    have k6 : CodeW 0 Tryz.prog 120 none gc (gMd R E s) .normal (gH3 R s 0) :=
      outP_G (z := R.isEmpty) (gp4 R.isEmpty (R.map Rec.row) (E.map Ev.row) (cntR s R.length) R.length 0) (gp4_e R.isEmpty (R.map Rec.row) (E.map Ev.row) (cntR s R.length) R.length 0) rfl no_hs e3 (os s).2 e1 e2 (os s).1
    have hl2 := g_loopC R hb s R.length 0 (by omega)
    rw [List.drop_zero] at hl2
    dsimp only
    cases hg : fit2 s 0 R with
    | false =>
      rw [hg] at hl2
      obtain ⟨d2, hd2⟩ := hl2
      refine fin false ((k4.seq k5).seq (CodeW.seq' (k6.seq ?_) (by simp)))
      rw [gl3_eq]
      exact hd2.code.block (id := 4)
    | true =>
      rw [hg] at hl2
      obtain ⟨d2, hd2⟩ := hl2
      have k7 : CodeW 0 Tryz.prog 120 none gl3 (gH3 R s 0) .normal (mkO gRf [] (gnx R.isEmpty)) := by
        rw [gl3_eq]
        exact hd2.code.block (id := 4)
      have k8 : CodeW 0 Tryz.prog 120 none gE (mkO gRf [] (gnx R.isEmpty)) .ret (mkO gRt [] (gnx R.isEmpty)) := outP_G (z := R.isEmpty) (gpE R.isEmpty) (gpE_e R.isEmpty) rfl no_hs rfl rfl (by cases R.isEmpty <;> rfl) (by cases R.isEmpty <;> rfl) (by cases R.isEmpty <;> trivial)
      exact fin true ((k4.seq k5).seq ((k6.seq k7).seq k8))
end
end Go.Proofs.YtmhinddneefmbaaGreat.Pe
namespace Go.Proofs.YtmhinddneefmbaaGreat.Pe
open Go
set_option maxRecDepth 100000
abbrev recN : Nat := 20
abbrev evN : Nat := 21
abbrev tfN : Nat := 4
section
variable (Fr Fe Ff Fg : List AD → Hp → Nat → Option (RV × Hp × Nat))
noncomputable def bsL6 : List (Nat × FnS) := [(awake22N, .eff awX), (recN, .eff Fr), (evN, .eff Fe), (fitsN, .eff Ff), (refFitsN, .eff Fg)]
noncomputable def S6 : SysP := { sysOf (mkTr ttL) (mkTr ezL) (mkTr fnL) (mkTr (bsL6 Fr Fe Ff Fg)) with pb := fun _ => none }
theorem S6_ok (hr : FnEff Tryz.prog recN Fr) (he : FnEff Tryz.prog evN Fe) (hf : FnEff Tryz.prog fitsN Ff) (hg : FnEff Tryz.prog refFitsN Fg) : SysOk (S6 Fr Fe Ff Fg).toSys Tryz.prog :=
  sysOf_ok mixed ttL_ok (by kernel_rfl) ezL_ok (by kernel_rfl) fnL_ok (by kernel_rfl) (⟨⟨aw22_ok, by kernel_rfl⟩, ⟨hr, by kernel_rfl⟩, ⟨he, by kernel_rfl⟩, ⟨hf, by kernel_rfl⟩, ⟨hg, by kernel_rfl⟩, trivial⟩ : AllBs Tryz.prog (bsL6 Fr Fe Ff Fg)) (by kernel_rfl)
theorem S6_pb : PbOk (S6 Fr Fe Ff Fg) := ⟨fun f G h => by cases h⟩
noncomputable abbrev tfR (R E : List (List D)) (orc : List (Nat × HT)) : Option ((RV × Hp × Nat) × TL) := (evt (S6 Fr Fe Ff Fg) 200).fn tfN [.one (.sl R), .one (.sl E)] (.tr .leaf) 0 ⟨0, orc, [], [], [], []⟩
end
end Go.Proofs.YtmhinddneefmbaaGreat.Pe
namespace Go.Proofs.YtmhinddneefmbaaGreat.Pe
open Go
set_option maxRecDepth 100000
noncomputable def outT (x : Option ((RV × Hp × Nat) × TL)) : Option (RV × Bool × List (AV × AV)) := x.bind fun x => some (x.1.1, allB x.2.cs, x.2.hs)
theorem outT_run {P : Program} {S : SysP} (hS : SysOk S.toSys P) (hP : PbOk S) {k f : Nat} (hf : (S.tab f).isSome = true) {ads : List AD} {H : Hp} {nx : Nat} {T : TL} {r : RV} {c : Bool} {hs : List (AV × AV)} (h : outT ((evt S k).fn f ads H nx T) = some (r, c, hs)) (hc : c = true) (he : eqL ((evt S k).fn f ads H nx T) = eqR ((evt S k).fn f ads H nx T)) (hh : ∀ p ∈ hs, p.1 = p.2) :
    ∃ K m, RunAt P f ads H nx r K m := by
  unfold outT at h
  unfold eqL eqR at he
  cases hx : (evt S k).fn f ads H nx T with
  | none => rw [hx] at h; cases h
  | some x =>
    obtain ⟨⟨r', K, m'⟩, T'⟩ := x
    rw [hx] at h he
    have h : some (r', allB T'.cs, T'.hs) = some (r, c, hs) := h
    simp only [Option.some.injEq, Prod.mk.injEq] at h
    obtain ⟨rfl, h4, h5⟩ := h
    simp only [Option.map_some, Option.some.injEq] at he
    exact ⟨K, m', fn_runAt hS hP hf hx ⟨allB_all (h4.trans hc), map_pairs he, by rw [h5]; exact hh⟩⟩
section
variable (Fr Fe Ff Fg : List AD → Hp → Nat → Option (RV × Hp × Nat))
theorem tf1 (R E : List (List D)) : outT (tfR Fr Fe Ff Fg R E [(0, true)]) = some (.a (.one (.bool true)), allB [Nat.blt 20 R.length], []) := by kernel_rfl
theorem tf1e (R E : List (List D)) : eqL (tfR Fr Fe Ff Fg R E [(0, true)]) = eqR (tfR Fr Fe Ff Fg R E [(0, true)]) := by kernel_rfl
theorem tf2 (R E : List (List D)) : outT (tfR Fr Fe Ff Fg R E [(0, false), (1, true)]) = some (.a (.one (.bool true)), allB [Nat.blt 20 E.length, not (Nat.blt 20 R.length)], []) := by kernel_rfl
theorem tf2e (R E : List (List D)) : eqL (tfR Fr Fe Ff Fg R E [(0, false), (1, true)]) = eqR (tfR Fr Fe Ff Fg R E [(0, false), (1, true)]) := by kernel_rfl
noncomputable def dR (z : Bool) (n : Nat) : D := br z .nils (.ref 0 15 0 n)
noncomputable def dE (y : Bool) (o m : Nat) : D := br y .nils (.ref o 3 0 m)
noncomputable abbrev tfO (z y b : Bool) (H1 H2 : Hp) (n o m m1 m2 : Nat) : List (Nat × HT) := [(0, false), (1, false), (2, .res recN (.a (.one (dR z n))) H1 m1), (2, .res evN (.a (.one (dE y o m))) H2 m2), (2, .res fitsN (.a (.one (.bool b))) (.tr .leaf) m2), (2, .res refFitsN (.a (.one (.bool b))) (.tr .leaf) m2)]
theorem tf3 (z y b : Bool) (R E : List (List D)) (H1 H2 : Hp) (n o m m1 m2 : Nat) : outT (tfR Fr Fe Ff Fg R E (tfO z y b H1 H2 n o m m1 m2)) = some (.a (.one (.bool true)), allB [not (Nat.blt 20 E.length), not (Nat.blt 20 R.length)],
    [(encQ1 (Fg [.one (.sl R), .one (.sl E)] (.tr .leaf) m2), encQ1 (some (.a (.one (.bool b)), .tr .leaf, m2))), (encQ2 (Fg [.one (.sl R), .one (.sl E)] (.tr .leaf) m2), encQ2 (some (.a (.one (.bool b)), .tr .leaf, m2))),
     (encQ1 (Ff [.one (dR z n), .one (dE y o m)] H2 m2), encQ1 (some (.a (.one (.bool b)), .tr .leaf, m2))), (encQ2 (Ff [.one (dR z n), .one (dE y o m)] H2 m2), encQ2 (some (.a (.one (.bool b)), .tr .leaf, m2))),
     (encQ1 (Fe [.one (.sl E)] H1 m1), encQ1 (some (.a (.one (dE y o m)), H2, m2))), (encQ2 (Fe [.one (.sl E)] H1 m1), encQ2 (some (.a (.one (dE y o m)), H2, m2))),
     (encQ1 (Fr [.one (.sl R)] (.tr .leaf) 0), encQ1 (some (.a (.one (dR z n)), H1, m1))), (encQ2 (Fr [.one (.sl R)] (.tr .leaf) 0), encQ2 (some (.a (.one (dR z n)), H1, m1)))]) := by cases z <;> cases y <;> cases b <;> kernel_rfl
theorem tf3e (z y b : Bool) (R E : List (List D)) (H1 H2 : Hp) (n o m m1 m2 : Nat) : eqL (tfR Fr Fe Ff Fg R E (tfO z y b H1 H2 n o m m1 m2)) = eqR (tfR Fr Fe Ff Fg R E (tfO z y b H1 H2 n o m m1 m2)) := by cases z <;> cases y <;> cases b <;> kernel_rfl
theorem tf_tab : ((S6 Fr Fe Ff Fg).tab tfN).isSome = true := by kernel_rfl
end
theorem BackA.sl {N : Nat} {σ : Nat → Nat} {rows : List (List D)} (h : (rows.all fun r => r.all D.bare) = true) : BackA N σ (.one (.sl rows)) (.one (.sl rows)) := fun w ι ι' M v _ hr => RdA.mapP (p := fun _ => false) (τ := fun k => k) (fun k h => by cases h) hr h
theorem ConvO.bareR {N : Nat} {τ : Nat → Nat} {e : Option Nat} {sz : Nat} {rows : List (List D)} (h0 : sz ≠ 0) (h : (rows.all fun r => r.all D.bare) = true) : ConvO N τ ⟨e, sz, rows⟩ ⟨e, sz, rows⟩ := fun w ι ι' M b _ ho => ConvP.bare (p := fun _ => false) (τ := fun k => k) h0 h w ι ι' M b (fun k h => by cases h) ho
theorem BackO.rows {N : Nat} {σ : Nat → Nat} {e : Option Nat} {sz : Nat} {rows : List (List D)} (h0 : sz ≠ 0) (h : (rows.all fun r => r.all D.bare) = true) : BackO N σ ⟨e, sz, rows⟩ ⟨e, sz, rows⟩ := fun w ι ι' M b _ ho => ConvP.bare (p := fun _ => false) (τ := fun k => k) h0 h w ι ι' M b (fun k h => by cases h) ho
def SlA (ads : List AD) : Prop := ∀ a ∈ ads, ∃ rows : List (List D), a = .one (.sl rows) ∧ (rows.all fun r => r.all D.bare) = true
theorem SlA.back {N : Nat} {σ : Nat → Nat} {ads : List AD} (h : SlA ads) : ∀ (j : Nat) a a0, ads[j]? = some a → ads[j]? = some a0 → BackA N σ a a0 := fun j a a0 h1 h2 => by
  rw [h1] at h2; injection h2 with h2; subst h2
  obtain ⟨rows, rfl, hr⟩ := h a (List.mem_of_getElem? h1)
  exact .sl hr
theorem mk_run {P : Program} {f : Nat} {ads : List AD} {K H : Hp} {n1 nx sz m : Nat} {e : Option Nat} {rows : List (List D)} (hrun : RunAt P f ads (.tr .leaf) 0 (.a (.one (.ref 0 sz 0 m))) K n1) (hn : 1 ≤ n1) (hK : K 0 = some ⟨e, sz, rows⟩) (h0 : sz ≠ 0) (hr : (rows.all fun r => r.all D.bare) = true) (ha : SlA ads) :
    RunAt P f ads H nx (.a (.one (.ref nx sz 0 m))) (updO H nx (some ⟨e, sz, rows⟩)) (nx + 1) := by
  refine ren_frame (d := 1) (σ := fun k => k) hrun (fun k hk => by omega) (by omega) (fun k k' x x' h => by cases h) (fun k x h => by cases h) rfl ha.back (fun j Y h => ?_) (fun w ι ι' M v hi hv => ?_)
  · rw [updO_at] at h
    split at h
    · rename_i e1
      injection h with h; subst h
      exact .inl ⟨0, _, by omega, by subst e1; unfold newNo; rw [if_neg (by omega)]; omega, hK, .bareR h0 hr⟩
    · exact .inr ⟨h, fun k x h => by cases h⟩
  · have hv : Rd w ι M v (.ref 0 sz 0 m) := hv
    cases hv with
    | ref o sz i n c b h h1 h2 h3 h4 =>
      refine Rd.ref _ _ _ _ c b ?_ h1 h2 h3 h4
      have := hi 0 (by omega)
      unfold newNo at this
      rw [if_neg (by omega)] at this
      rw [← h, ← this]
      rfl
theorem no_run {P : Program} {f : Nat} {ads : List AD} {K H : Hp} {n1 nx : Nat} {r : RV} (hrun : RunAt P f ads (.tr .leaf) 0 r K n1) (hb : r.bare = true) (ha : SlA ads) : RunAt P f ads H nx r H nx :=
  ren_frame (d := 0) (σ := fun k => k) hrun (fun k hk => by omega) (by omega) (fun k k' x x' h => by cases h) (fun k x h => by cases h) rfl ha.back (fun j Y h => .inr ⟨h, fun k x h => by cases h⟩) (.bare hb)
theorem fits0 : outT ((evt Sx 60).fn fitsN [.one .nils, .one .nils] (.tr .leaf) 0 ⟨0, [], [], [], [], []⟩) = some (.a (.one (.bool true)), allB [], []) := by kernel_rfl
theorem fits0e : eqL ((evt Sx 60).fn fitsN [.one .nils, .one .nils] (.tr .leaf) 0 ⟨0, [], [], [], [], []⟩) = eqR ((evt Sx 60).fn fitsN [.one .nils, .one .nils] (.tr .leaf) 0 ⟨0, [], [], [], [], []⟩) := by kernel_rfl
section
variable (R : List Rec) (E : List Ev)
theorem qI_mem {k : Nat} {x : PObj} (h : (Hp.tr (mkTr (qI R.isEmpty E.isEmpty (R.map Rec.out) (E.map Ev.out)))) k = some x) : (k = 0 ∧ R.isEmpty = false ∧ x = qrO (R.map Rec.out)) ∨ (k = 1 ∧ E.isEmpty = false ∧ x = qeO (E.map Ev.out)) := by
  have hm := mkTr_get _ (smallO_dec (show smallO (qI R.isEmpty E.isEmpty (R.map Rec.out) (E.map Ev.out)) = true by cases R.isEmpty <;> cases E.isEmpty <;> rfl)) k x h
  revert hm
  cases R.isEmpty <;> cases E.isEmpty <;> intro hm
  · have hm : (k, x) ∈ [(1, qeO (E.map Ev.out)), (0, qrO (R.map Rec.out))] := hm
    simp only [List.mem_cons, Prod.mk.injEq, List.not_mem_nil, or_false] at hm
    rcases hm with ⟨rfl, rfl⟩ | ⟨rfl, rfl⟩
    · exact .inr ⟨rfl, rfl, rfl⟩
    · exact .inl ⟨rfl, rfl, rfl⟩
  · have hm : (k, x) ∈ [(0, qrO (R.map Rec.out))] := hm
    simp only [List.mem_cons, Prod.mk.injEq, List.not_mem_nil, or_false] at hm
    obtain ⟨rfl, rfl⟩ := hm
    exact .inl ⟨rfl, rfl, rfl⟩
  · have hm : (k, x) ∈ [(1, qeO (E.map Ev.out))] := hm
    simp only [List.mem_cons, Prod.mk.injEq, List.not_mem_nil, or_false] at hm
    obtain ⟨rfl, rfl⟩ := hm
    exact .inr ⟨rfl, rfl, rfl⟩
  · cases hm
theorem fits_at (hb : R.length ≤ 20) (hb2 : E.length ≤ 20) {H : Hp} {o nx : Nat} (h0 : 0 < nx) (hR : R.isEmpty = false → H 0 = some (qrO (R.map Rec.out)) ∧ 0 < nx) (hE : E.isEmpty = false → H o = some (qeO (E.map Ev.out)) ∧ o < nx) (hne : R.isEmpty = false → E.isEmpty = false → o ≠ 0) :
    RunAt Tryz.prog fitsN [.one (dR R.isEmpty R.length), .one (dE E.isEmpty o E.length)] H nx (.a (.one (.bool (fitsG R E)))) (.tr .leaf) nx := by
  obtain ⟨K, n1, hrun, hn⟩ := fits_run R E hb hb2
  let σ : Nat → Nat := fun k => if k = 0 then 0 else br E.isEmpty 0 o
  have σ1 : E.isEmpty = false → σ 1 = o := fun h => by show br E.isEmpty 0 o = o; rw [h]; rfl
  have hσ : ∀ k, k < 2 → σ k < nx := fun k hk => by
    show (if k = 0 then 0 else br E.isEmpty 0 o) < nx
    split
    · exact h0
    · cases he : E.isEmpty with
      | true => exact h0
      | false => exact (hE he).2
  refine ren_frame (d := 0) (σ := σ) hrun hσ (by omega) (fun k k' x x' h h' e => ?_) (fun k x h => ?_) rfl (fun j a a0 h1 h2 => ?_) (fun j Y h => by cases h) (.bare rfl)
  · rcases qI_mem R E h with ⟨rfl, a1, _⟩ | ⟨rfl, a1, _⟩ <;> rcases qI_mem R E h' with ⟨rfl, a2, _⟩ | ⟨rfl, a2, _⟩
    · rfl
    · rw [σ1 a2] at e; exact absurd e.symm (hne a1 a2)
    · rw [σ1 a1] at e; exact absurd e (hne a2 a1)
    · rfl
  · rcases qI_mem R E h with ⟨rfl, a1, rfl⟩ | ⟨rfl, a1, rfl⟩
    · exact ⟨by omega, _, (hR a1).1, .rows (by decide) (rr_allO R)⟩
    · exact ⟨by omega, _, (by rw [σ1 a1]; exact (hE a1).1), .rows (by decide) (re_allO E)⟩
  · match j, h1, h2 with
    | 0, h1, h2 =>
      injection h1 with h1; injection h2 with h2; subst h1; subst h2
      cases hz : R.isEmpty with
      | true => exact .bare rfl
      | false =>
        intro w ι ι' M v hi hv
        have hv : Rd w ι M v (.ref 0 15 0 R.length) := hv
        cases hv with
        | ref o sz i n c b h h1 h2 h3 h4 => exact Rd.ref 0 15 0 _ c b (by rw [hi 0 (by omega)]; exact h) h1 h2 h3 h4
    | 1, h1, h2 =>
      injection h1 with h1; injection h2 with h2; subst h1; subst h2
      cases hz : E.isEmpty with
      | true => exact .bare rfl
      | false =>
        intro w ι ι' M v hi hv
        have hv : Rd w ι M v (.ref o 3 0 E.length) := hv
        cases hv with
        | ref o sz i n c b h h1 h2 h3 h4 => exact Rd.ref 1 3 0 _ c b (by rw [hi 1 (by omega), σ1 hz]; exact h) h1 h2 h3 h4
    | j + 2, h1, h2 => simp at h1
end
theorem none_eff {P : Program} {f : Nat} : FnEff P f (fun _ _ _ => none) := FnEff.iff.2 fun ads H nx r H' nx' h => by cases h
theorem traceFits_run (R : List Rec) (E : List Ev) (hr64 : ∀ x ∈ E, x.rc < 9223372036854775808) : ∃ H' nx', RunAt Tryz.prog tfN [.one (.sl (R.map Rec.row)), .one (.sl (E.map Ev.row))] (.tr .leaf) 0 (.a (.one (.bool true))) H' nx' := by
  have lR : (R.map Rec.row).length = R.length := List.length_map _
  have lE : (E.map Ev.row).length = E.length := List.length_map _
  have S0 := S6_ok _ _ _ _ (none_eff (P := Tryz.prog) (f := recN)) (none_eff (f := evN)) (none_eff (f := fitsN)) (none_eff (f := refFitsN))
  by_cases hb : R.length ≤ 20
  rotate_left
  · exact outT_run S0 (S6_pb _ _ _ _) (tf_tab _ _ _ _) (tf1 _ _ _ _ (R.map Rec.row) (E.map Ev.row)) (allB_of (cons_ok (tb (by rw [lR]; omega)) nil_ok)) (tf1e _ _ _ _ _ _) no_hs
  have nR : (not (Nat.blt 20 (R.map Rec.row).length)) = true := by rw [lR, nb (show ¬ 20 < R.length by omega)]; rfl
  by_cases hb2 : E.length ≤ 20
  rotate_left
  · exact outT_run S0 (S6_pb _ _ _ _) (tf_tab _ _ _ _) (tf2 _ _ _ _ (R.map Rec.row) (E.map Ev.row)) (allB_of (cons_ok (tb (by rw [lE]; omega)) (cons_ok nR nil_ok))) (tf2e _ _ _ _ _ _) no_hs
  have nE : (not (Nat.blt 20 (E.map Ev.row).length)) = true := by rw [lE, nb (show ¬ 20 < E.length by omega)]; rfl
  have saR : SlA [.one (.sl (R.map Rec.row))] := fun a ha => by rcases List.mem_singleton.1 ha with rfl; exact ⟨_, rfl, rr_all R⟩
  have saE : SlA [.one (.sl (E.map Ev.row))] := fun a ha => by rcases List.mem_singleton.1 ha with rfl; exact ⟨_, rfl, re_all E⟩
  have saB : SlA [.one (.sl (R.map Rec.row)), .one (.sl (E.map Ev.row))] := fun a ha => by
    rcases List.mem_cons.1 ha with rfl | ha
    · exact ⟨_, rfl, rr_all R⟩
    · rcases List.mem_singleton.1 ha with rfl; exact ⟨_, rfl, re_all E⟩
  have r1 : ∃ H1, RunAt Tryz.prog recN [.one (.sl (R.map Rec.row))] (.tr .leaf) 0 (.a (.one (dR R.isEmpty R.length))) H1 (br R.isEmpty 0 1) ∧ (R.isEmpty = false → H1 0 = some (qrO (R.map Rec.out))) ∧ (R.isEmpty = true → H1 = .tr .leaf) := by
    obtain ⟨K, n1, hrun, hk⟩ := rr_run R hb
    cases R with
    | nil => exact ⟨.tr .leaf, no_run hrun rfl saR, (fun h => by cases h), fun _ => rfl⟩
    | cons r l =>
      obtain ⟨hn, hK⟩ := hk
      exact ⟨updO (.tr .leaf) 0 (some (qrO ((r :: l).map Rec.out))), mk_run (nx := 0) hrun (by omega) hK (by decide) (rr_allO _) saR, (fun _ => by rw [updO_at, if_pos rfl]), fun h => by cases h⟩
  obtain ⟨H1, r1, k1, l1⟩ := r1
  have r2 : ∃ H2, RunAt Tryz.prog evN [.one (.sl (E.map Ev.row))] H1 (br R.isEmpty 0 1) (.a (.one (dE E.isEmpty (br R.isEmpty 0 1) E.length))) H2 (br R.isEmpty 0 1 + br E.isEmpty 0 1) ∧ (R.isEmpty = false → H2 0 = some (qrO (R.map Rec.out))) ∧ (E.isEmpty = false → H2 (br R.isEmpty 0 1) = some (qeO (E.map Ev.out))) ∧ (R.isEmpty = true → E.isEmpty = true → H2 = .tr .leaf) := by
    obtain ⟨K, n1, hrun, hk⟩ := re_run E hb2
    cases E with
    | nil => exact ⟨H1, no_run hrun rfl saE, k1, (fun h => by cases h), fun h _ => l1 h⟩
    | cons r l =>
      obtain ⟨hn, hK⟩ := hk
      refine ⟨updO H1 (br R.isEmpty 0 1) (some (qeO ((r :: l).map Ev.out))), mk_run hrun (by omega) hK (by decide) (re_allO _) saE, (fun h => ?_), (fun _ => by rw [updO_at, if_pos rfl]), fun _ h => by cases h⟩
      rw [updO_at, if_neg (by rw [h]; exact fun e => by cases e)]
      exact k1 h
  obtain ⟨H2, r2, k2, e2, l2⟩ := r2
  have r3 : RunAt Tryz.prog fitsN [.one (dR R.isEmpty R.length), .one (dE E.isEmpty (br R.isEmpty 0 1) E.length)] H2 (br R.isEmpty 0 1 + br E.isEmpty 0 1) (.a (.one (.bool (fitsG R E)))) (.tr .leaf) (br R.isEmpty 0 1 + br E.isEmpty 0 1) := by
    by_cases hz : R.isEmpty = true ∧ E.isEmpty = true
    · obtain ⟨z1, z2⟩ := hz
      rw [l2 z1 z2, z1, z2, show R = [] from List.isEmpty_iff.1 z1, show E = [] from List.isEmpty_iff.1 z2]
      obtain ⟨K, m, hrun⟩ := outT_run Sx_ok Sx_pb (by kernel_rfl) fits0 rfl fits0e no_hs
      exact bare_run hrun (fun a ha => by
        rcases List.mem_cons.1 ha with rfl | ha
        · rfl
        · rcases List.mem_singleton.1 ha with rfl; rfl) rfl (.tr .leaf) 0
    · refine fits_at R E hb hb2 ?_ (fun h => ⟨k2 h, ?_⟩) (fun h => ⟨e2 h, ?_⟩) (fun h _ e => by rw [h] at e; cases e)
      · cases h1 : R.isEmpty <;> cases h2 : E.isEmpty
        · exact Nat.zero_lt_succ _
        · exact Nat.zero_lt_succ _
        · exact Nat.zero_lt_succ _
        · exact absurd ⟨h1, h2⟩ hz
      · rw [h]; show 0 < 1 + _; omega
      · rw [h]; show _ < _ + 1; omega
  have r4 : RunAt Tryz.prog refFitsN [.one (.sl (R.map Rec.row)), .one (.sl (E.map Ev.row))] (.tr .leaf) (br R.isEmpty 0 1 + br E.isEmpty 0 1) (.a (.one (.bool (fitsG R E)))) (.tr .leaf) (br R.isEmpty 0 1 + br E.isEmpty 0 1) := by
    obtain ⟨K, n1, hrun⟩ := gref_run R E hb hb2 hr64
    exact no_run hrun rfl saB
  refine outT_run (S6_ok _ _ _ _ (ptF_ok r1) (ptF_ok r2) (ptF_ok r3) (ptF_ok r4)) (S6_pb _ _ _ _) (tf_tab _ _ _ _) (tf3 _ _ _ _ R.isEmpty E.isEmpty (fitsG R E) (R.map Rec.row) (E.map Ev.row) H1 H2 R.length (br R.isEmpty 0 1) E.length (br R.isEmpty 0 1) (br R.isEmpty 0 1 + br E.isEmpty 0 1)) (allB_of (cons_ok nE (cons_ok nR nil_ok))) (tf3e _ _ _ _ _ _ _ _ _ _ _ _ _ _ _ _) ?_
  rw [ptF_at, ptF_at, ptF_at, ptF_at]
  exact cons_hs rfl (cons_hs rfl (cons_hs rfl (cons_hs rfl (cons_hs rfl (cons_hs rfl (cons_hs rfl (cons_hs rfl no_hs)))))))
end Go.Proofs.YtmhinddneefmbaaGreat.Pe
