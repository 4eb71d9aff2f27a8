/- A part of the proof of JdH. -/
import Derived.Test.YtmhinddneefmbaaGreatKf40
import Derived.Test.YtmhinddneefmbaaGreatKf42
import Derived.Test.YtmhinddneefmbaaGreatKf43
set_option linter.unusedSimpArgs false
set_option linter.unusedVariables false
set_option linter.unusedSectionVars false
namespace Go.Proofs.YtmhinddneefmbaaGreat.Pe
open Go
set_option maxRecDepth 100000
noncomputable def gol (z : Bool) : List Nat := br z [] [0]
theorem outP_G {z : Bool} {k : Nat} {c : Code} {s : St} {T : TL} {ex : Ex} {l : List (Nat × AV)} {o1 : List (Nat × PObj)} {b : Bool} {hs : List (AV × AV)}
    (h : outP (l.map fun p => p.1) (o1.map fun p => p.1) ((evt Sx k).code 120 none c s T) = some (ex, l.map (fun p => some p.2), o1.map (fun p => some p.2), gnx z, b, hs)) (he : eqL ((evt Sx k).code 120 none c s T) = eqR ((evt Sx k).code 120 none c s T)) (hb : b = true) (hh : ∀ p ∈ hs, p.1 = p.2)
    (hl : smallS l = true) (ho : smallO o1 = true) (hin : l.all (fun p => p.2.inP (kp 0 (gol z))) = true) (hren : renL 0 (gol z) l = l) (hos : OsOk 0 (gol z) o1 o1) : CodeW 0 Tryz.prog 120 none c s ex (mkO l o1 (gnx z)) := by
  have := outP_W (n0 := 0) (olds := gol z) (o2 := o1) Sx_ok Sx_pb h he hb hh hl ho (Nat.zero_le _) (fun o ho => by
    cases z with
    | true => cases ho
    | false => rcases List.mem_singleton.1 ho with rfl; exact ⟨Nat.le_refl _, Nat.zero_lt_one⟩) (by cases z <;> simp [gol, br]) hin hos
  rw [hren] at this
  cases z <;> exact this
def cntR (s : List Nat) (n : Nat) : List (List D) := (List.range n).map fun i => [.int .i64 (if i ∈ s then 1 else 0)]
theorem cnt_bare (s : List Nat) (n : Nat) : ((cntR s n).all fun r => r.all D.bare) = true := by
  rw [List.all_eq_true]
  intro r hr
  obtain ⟨x, _, rfl⟩ := List.mem_map.1 hr
  rfl
theorem cnt_len (s : List Nat) (n : Nat) : (cntR s n).length = n := by unfold cntR; rw [List.length_map, List.length_range]
theorem cnt_at {s : List Nat} {n k : Nat} (h : k < n) : (cntR s n)[k]? = some [.int .i64 (if k ∈ s then 1 else 0)] := by
  unfold cntR
  rw [List.getElem?_map, List.getElem?_range h]; rfl
theorem cnt_app (m : Nat) : cntR [] m ++ [[.int .i64 0]] = cntR [] (m + 1) := by
  unfold cntR
  rw [List.range_succ, List.map_append]; rfl
theorem cnt_set {s : List Nat} {n k : Nat} (h : k < n) : (cntR s n).set k [.int .i64 1] = cntR (s ++ [k]) n := by
  refine List.ext_getElem? fun i => ?_
  rw [List.getElem?_set]
  by_cases hi : i < n
  · rw [cnt_at hi, cnt_at hi, cnt_len]
    by_cases e : k = i
    · subst e
      rw [if_pos rfl, if_pos h, if_pos (by simp)]
    · rw [if_neg e]
      have : (i ∈ s ++ [k]) ↔ i ∈ s := by simp only [List.mem_append, List.mem_singleton]; exact ⟨fun h => h.resolve_right fun h => e h.symm, .inl⟩
      simp only [this]
  · rw [List.getElem?_eq_none (by rw [cnt_len]; omega), List.getElem?_eq_none (by rw [cnt_len]; omega)]
    by_cases e : k = i
    · omega
    · rw [if_neg e]
section
variable (R : List Rec) (E : List Ev)
theorem g_slots {l : List (Nat × AV)} {z : Bool} {o : List Nat} {n j : Nat} (h : l = gS z (R.map Rec.row) (E.map Ev.row) n j ∨ l = gSm z (R.map Rec.row) (E.map Ev.row) n ∨ l = gSa z (R.map Rec.row) (E.map Ev.row) 0 n j ∨ l = gSc z (R.map Rec.row) n j ∨ l = gRf ∨ l = gRt) : l.all (fun p => p.2.inP (kp 0 (gol z))) = true ∧ renL 0 (gol z) l = l ∧ smallS l = true := by
  have m1 : ∀ (p : Nat → Bool), (AD.one (.sl (R.map Rec.row))).inP p = true := fun p => rr_all R
  have m2 : ∀ (p : Nat → Bool), (AD.one (.sl (E.map Ev.row))).inP p = true := fun p => re_all E
  rcases h with rfl | rfl | rfl | rfl | rfl | rfl
  · refine ⟨?_, by cases z <;> rfl, by cases z <;> rfl⟩
    simp only [gS, List.all_cons, List.all_nil, AV.inP, m1, m2]
    cases z <;> rfl
  · refine ⟨?_, by cases z <;> rfl, by cases z <;> rfl⟩
    simp only [gSm, List.all_cons, List.all_nil, AV.inP, m1, m2]
    cases z <;> rfl
  · refine ⟨?_, by cases z <;> rfl, by cases z <;> rfl⟩
    simp only [gSa, List.all_cons, List.all_nil, AV.inP, m1, m2]
    cases z <;> rfl
  · refine ⟨?_, by cases z <;> rfl, by cases z <;> rfl⟩
    simp only [gSc, List.all_cons, List.all_nil, AV.inP, m1]
    cases z <;> rfl
  · exact ⟨rfl, rfl, rfl⟩
  · exact ⟨rfl, rfl, rfl⟩
theorem g_os (z : Bool) {C : List (List D)} (hC : (C.all fun r => r.all D.bare) = true) : OsOk 0 (gol z) (gO z C) (gO z C) ∧ smallO (gO z C) = true := by
  cases z
  · exact ⟨⟨rfl, by decide, .bare (by decide) hC, trivial⟩, rfl⟩
  · exact ⟨trivial, rfl⟩
noncomputable def gHd (j : Nat) (s : List Nat) : St := mkO (gS R.isEmpty (R.map Rec.row) (E.map Ev.row) R.length j) (gO R.isEmpty (cntR s R.length)) (gnx R.isEmpty)
theorem g_row {j : Nat} (h : j < E.length) : encR ((E.map Ev.row)[j]?) = encR (some (rowE E[j].rc E[j].dt E[j].at_)) := by rw [re_at h]; rfl
theorem g_rec {j : Nat} (h : j < R.length) : encR ((R.map Rec.row)[j]?) = encR (some (rowR R[j].c R[j].k R[j].n R[j].a R[j].f R[j].i R[j].v R[j].to R[j].nm R[j].e R[j].ro R[j].rv R[j].b R[j].en)) := by rw [rr_at h]; rfl
theorem g_stepA (hb : R.length ≤ 20) (hb2 : E.length ≤ 20) (hr64 : ∀ x ∈ E, x.rc < 9223372036854775808) (hj : 0 < E.length) (s : List Nat) : match fitStep R none E[0] s with
    | some s' => CodeW 0 Tryz.prog 120 none gL2 (gHd R E 0 s) .normal (gHd R E 1 s')
    | none => CodeW 0 Tryz.prog 120 none gL2 (gHd R E 0 s) .ret (mkO gRf [] (gnx R.isEmpty)) := by
  have n1 : ∀ z, (gS z (R.map Rec.row) (E.map Ev.row) R.length 1).all (fun p => p.2.inP (kp 0 (gol z))) = true := fun z => (g_slots R E (o := []) (.inl rfl)).1
  have n2 : ∀ z, renL 0 (gol z) (gS z (R.map Rec.row) (E.map Ev.row) R.length 1) = gS z (R.map Rec.row) (E.map Ev.row) R.length 1 := fun z => (g_slots R E (o := []) (.inl rfl)).2.1
  have n3 : ∀ z, smallS (gS z (R.map Rec.row) (E.map Ev.row) R.length 1) = true := fun z => (g_slots R E (o := []) (n := R.length) (j := 1) (z := z) (.inl rfl)).2.2
  unfold fitStep
  rw [if_neg (show ¬ (match (none : Option Int) with | some p => decide (E[0].at_ < p) | none => false) = true by simp)]
  by_cases h0 : E[0].rc ≤ 0
  · rw [if_pos h0]
    exact outP_G (z := R.isEmpty) (gAs R.isEmpty (R.map Rec.row) (E.map Ev.row) (cntR s R.length) R.length 0 0 E[0].rc E[0].dt E[0].at_ 0 0 0 0 0 0 0 0 0 0 0 ⟨#[]⟩ 0 0 0 0 0) (gAs_e R.isEmpty (R.map Rec.row) (E.map Ev.row) (cntR s R.length) R.length 0 0 E[0].rc E[0].dt E[0].at_ 0 0 0 0 0 0 0 0 0 0 0 ⟨#[]⟩ 0 0 0 0 0) (allB_of (cons_ok rfl (cons_ok (dT h0) (cons_ok rfl (cons_ok (tb (by rw [List.length_map]; exact hj)) nil_ok))))) (cons_hs (g_row E hj) (cons_hs (g_row E hj) no_hs)) (n3 R.isEmpty) (g_os R.isEmpty (cnt_bare s R.length)).2 (n1 R.isEmpty) (n2 R.isEmpty) (g_os R.isEmpty (cnt_bare s R.length)).1
  rw [if_neg h0]
  obtain ⟨k, hrc⟩ : ∃ k : Nat, E[0].rc = Int.ofNat (k + 1) := ⟨E[0].rc.toNat - 1, by show _ = ((E[0].rc.toNat - 1 + 1 : Nat) : Int); omega⟩
  have ek : E[0].rc.toNat - 1 = k := by rw [hrc]; rfl
  rw [ek]
  have hek : encR ((E.map Ev.row)[0]?) = encR (some (rowE (.ofNat (k + 1)) E[0].dt E[0].at_)) := by rw [← hrc]; exact g_row E hj
  have kB : k + 1 < 9223372036854775808 ∨ R.length ≤ k := by omega
  have hkk : k + 1 < 9223372036854775808 := by have := hr64 E[0] (List.getElem_mem hj); rw [hrc] at this; have : ((k + 1 : Nat) : Int) < 9223372036854775808 := this; omega
  by_cases hk : k < R.length
  rotate_left
  · rw [List.getElem?_eq_none (by omega)]
    exact outP_G (z := R.isEmpty) (gAg R.isEmpty (R.map Rec.row) (E.map Ev.row) (cntR s R.length) R.length 0 k 0 E[0].dt E[0].at_ 0 0 0 0 0 0 0 0 0 0 0 ⟨#[]⟩ 0 0 0 0 0) (gAg_e R.isEmpty (R.map Rec.row) (E.map Ev.row) (cntR s R.length) R.length 0 k 0 E[0].dt E[0].at_ 0 0 0 0 0 0 0 0 0 0 0 ⟨#[]⟩ 0 0 0 0 0) (allB_of (cons_ok (tl (by rw [List.length_map]; show R.length ≤ k + 1 - 1; omega)) (cons_ok rfl (cons_ok (tb hkk) (cons_ok rfl (cons_ok rfl (cons_ok rfl (cons_ok (tb (by rw [List.length_map]; exact hj)) nil_ok)))))))) (cons_hs hek (cons_hs hek (cons_hs hek (cons_hs hek no_hs)))) (by rfl) rfl (by cases R.isEmpty <;> rfl) (by cases R.isEmpty <;> rfl) (by cases R.isEmpty <;> trivial)
  rw [List.getElem?_eq_getElem hk]
  have hz : R.isEmpty = false := by cases R with
    | nil => simp at hk
    | cons => rfl
  unfold gHd
  rw [hz]
  obtain ⟨r, hr⟩ : ∃ r, r = R[k] := ⟨_, rfl⟩
  rw [← hr]
  dsimp only
  have hrow : encR ((R.map Rec.row)[Nat.sub (k + 1) 1]?) = encR (some (rowR r.c r.k r.n r.a r.f r.i r.v r.to r.nm r.e r.ro r.rv r.b r.en)) := by rw [hr]; exact g_rec R hk
  have hcnt : encR (PObj.row (0 + Nat.sub (k + 1) 1) (gCo (cntR s R.length))) = encR (some [.int .i64 (if k ∈ s then 1 else 0)]) := by
    show encR ((cntR s R.length)[0 + k]?) = _
    rw [Nat.zero_add, cnt_at hk]
  by_cases hs : k ∈ s
  · rw [if_pos hs] at hcnt ⊢
    exact outP_G (z := false) (gAf (R.map Rec.row) (E.map Ev.row) (cntR s R.length) R.length 0 k 0 E[0].dt E[0].at_ 0 0 0 0 0 0 0 0 0 0 0 ⟨#[]⟩ 0 0 0 0 0) (gAf_e (R.map Rec.row) (E.map Ev.row) (cntR s R.length) R.length 0 k 0 E[0].dt E[0].at_ 0 0 0 0 0 0 0 0 0 0 0 ⟨#[]⟩ 0 0 0 0 0) (allB_of (cons_ok rfl (cons_ok (tb (show k + 1 - 1 < R.length by omega)) (cons_ok rfl (cons_ok (by rw [List.length_map]; rw [nl (show ¬ R.length ≤ Nat.sub (k + 1) 1 from (by show ¬ R.length ≤ k + 1 - 1; omega))]; rfl) (cons_ok rfl (cons_ok (tb hkk) (cons_ok rfl (cons_ok rfl (cons_ok rfl (cons_ok (tb (by rw [List.length_map]; exact hj)) nil_ok))))))))))) (cons_hs hcnt (cons_hs hek (cons_hs hek (cons_hs hek (cons_hs hek no_hs))))) rfl rfl rfl rfl trivial
  rw [if_neg hs] at hcnt ⊢
  by_cases hbg : E[0].at_ < r.b
  · rw [if_pos hbg]
    exact outP_G (z := false) (gAe (R.map Rec.row) (E.map Ev.row) (cntR s R.length) R.length 0 k 0 E[0].dt E[0].at_ 0 0 0 r.c r.k r.n r.a r.f r.i r.v r.to r.nm r.e r.ro r.rv r.b r.en) (gAe_e (R.map Rec.row) (E.map Ev.row) (cntR s R.length) R.length 0 k 0 E[0].dt E[0].at_ 0 0 0 r.c r.k r.n r.a r.f r.i r.v r.to r.nm r.e r.ro r.rv r.b r.en) (allB_of (cons_ok (dT hbg) (cons_ok rfl (cons_ok rfl (cons_ok rfl (cons_ok (tb (show k + 1 - 1 < R.length by omega)) (cons_ok rfl (cons_ok (by rw [List.length_map]; rw [nl (show ¬ R.length ≤ Nat.sub (k + 1) 1 from (by show ¬ R.length ≤ k + 1 - 1; omega))]; rfl) (cons_ok rfl (cons_ok (tb hkk) (cons_ok rfl (cons_ok rfl (cons_ok rfl (cons_ok (tb (by rw [List.length_map]; exact hj)) nil_ok)))))))))))))) (cons_hs hrow (cons_hs hrow (cons_hs hek (cons_hs hek (cons_hs hcnt (cons_hs hek (cons_hs hek (cons_hs hek (cons_hs hek no_hs))))))))) rfl rfl rfl rfl trivial
  rw [if_neg hbg]
  have eM : (cntR s R.length).set (0 + Nat.sub (k + 1) 1) [.int .i64 1] = cntR (s ++ [k]) R.length := by
    rw [Nat.zero_add]; exact cnt_set hk
  have os := g_os false (cnt_bare (s ++ [k]) R.length)
  rw [← eM] at os
  by_cases hen : r.en = -1
  · rw [if_neg (fun h => h.1 hen)]
    have := outP_G (z := false) (gAo (R.map Rec.row) (E.map Ev.row) (cntR s R.length) R.length 0 k 0 E[0].dt E[0].at_ 0 0 0 r.c r.k r.n r.a r.f r.i r.v r.to r.nm r.e r.ro r.rv r.b r.en) (gAo_e (R.map Rec.row) (E.map Ev.row) (cntR s R.length) R.length 0 k 0 E[0].dt E[0].at_ 0 0 0 r.c r.k r.n r.a r.f r.i r.v r.to r.nm r.e r.ro r.rv r.b r.en) (allB_of (cons_ok rfl (cons_ok rfl (cons_ok rfl (cons_ok rfl (cons_ok rfl (cons_ok (tb (show k + 1 - 1 < R.length by omega)) (cons_ok rfl (cons_ok (show (not (r.en != -1)) = true by rw [hen]; rfl) (cons_ok rfl (cons_ok (dF hbg) (cons_ok rfl (cons_ok rfl (cons_ok rfl (cons_ok (tb (show k + 1 - 1 < R.length by omega)) (cons_ok rfl (cons_ok (by rw [List.length_map]; rw [nl (show ¬ R.length ≤ Nat.sub (k + 1) 1 from (by show ¬ R.length ≤ k + 1 - 1; omega))]; rfl) (cons_ok rfl (cons_ok (tb hkk) (cons_ok rfl (cons_ok rfl (cons_ok rfl (cons_ok (tb (by rw [List.length_map]; exact hj)) nil_ok))))))))))))))))))))))) (cons_hs hcnt (cons_hs hrow (cons_hs hrow (cons_hs hrow (cons_hs hrow (cons_hs hek (cons_hs hek (cons_hs hcnt (cons_hs hek (cons_hs hek (cons_hs hek (cons_hs hek no_hs)))))))))))) (n3 false) os.2 (n1 false) (n2 false) os.1
    rw [eM] at this
    exact this
  have hen' : (r.en != -1) = true := by simpa using hen
  by_cases hlt : E[0].at_ > r.en
  · rw [if_pos ⟨hen, hlt⟩]
    exact outP_G (z := false) (gAl (R.map Rec.row) (E.map Ev.row) (cntR s R.length) R.length 0 k 0 E[0].dt E[0].at_ 0 0 0 r.c r.k r.n r.a r.f r.i r.v r.to r.nm r.e r.ro r.rv r.b r.en) (gAl_e (R.map Rec.row) (E.map Ev.row) (cntR s R.length) R.length 0 k 0 E[0].dt E[0].at_ 0 0 0 r.c r.k r.n r.a r.f r.i r.v r.to r.nm r.e r.ro r.rv r.b r.en) (allB_of (cons_ok (dT hlt) (cons_ok rfl (cons_ok rfl (cons_ok hen' (cons_ok rfl (cons_ok (dF hbg) (cons_ok rfl (cons_ok rfl (cons_ok rfl (cons_ok (tb (show k + 1 - 1 < R.length by omega)) (cons_ok rfl (cons_ok (by rw [List.length_map]; rw [nl (show ¬ R.length ≤ Nat.sub (k + 1) 1 from (by show ¬ R.length ≤ k + 1 - 1; omega))]; rfl) (cons_ok rfl (cons_ok (tb hkk) (cons_ok rfl (cons_ok rfl (cons_ok rfl (cons_ok (tb (by rw [List.length_map]; exact hj)) nil_ok))))))))))))))))))) (cons_hs hrow (cons_hs hrow (cons_hs hek (cons_hs hek (cons_hs hrow (cons_hs hrow (cons_hs hrow (cons_hs hrow (cons_hs hek (cons_hs hek (cons_hs hcnt (cons_hs hek (cons_hs hek (cons_hs hek (cons_hs hek no_hs))))))))))))))) rfl rfl rfl rfl trivial
  · rw [if_neg (fun h => hlt h.2)]
    have := outP_G (z := false) (gAi (R.map Rec.row) (E.map Ev.row) (cntR s R.length) R.length 0 k 0 E[0].dt E[0].at_ 0 0 0 r.c r.k r.n r.a r.f r.i r.v r.to r.nm r.e r.ro r.rv r.b r.en) (gAi_e (R.map Rec.row) (E.map Ev.row) (cntR s R.length) R.length 0 k 0 E[0].dt E[0].at_ 0 0 0 r.c r.k r.n r.a r.f r.i r.v r.to r.nm r.e r.ro r.rv r.b r.en) (allB_of (cons_ok rfl (cons_ok rfl (cons_ok rfl (cons_ok rfl (cons_ok rfl (cons_ok (tb (show k + 1 - 1 < R.length by omega)) (cons_ok rfl (cons_ok (dF hlt) (cons_ok rfl (cons_ok rfl (cons_ok hen' (cons_ok rfl (cons_ok (dF hbg) (cons_ok rfl (cons_ok rfl (cons_ok rfl (cons_ok (tb (show k + 1 - 1 < R.length by omega)) (cons_ok rfl (cons_ok (by rw [List.length_map]; rw [nl (show ¬ R.length ≤ Nat.sub (k + 1) 1 from (by show ¬ R.length ≤ k + 1 - 1; omega))]; rfl) (cons_ok rfl (cons_ok (tb hkk) (cons_ok rfl (cons_ok rfl (cons_ok rfl (cons_ok (tb (by rw [List.length_map]; exact hj)) nil_ok)))))))))))))))))))))))))) (cons_hs hcnt (cons_hs hrow (cons_hs hrow (cons_hs hek (cons_hs hek (cons_hs hrow (cons_hs hrow (cons_hs hrow (cons_hs hrow (cons_hs hek (cons_hs hek (cons_hs hcnt (cons_hs hek (cons_hs hek (cons_hs hek (cons_hs hek no_hs)))))))))))))))) (n3 false) os.2 (n1 false) (n2 false) os.1
    rw [eM] at this
    exact this
theorem g_stepB (hb : R.length ≤ 20) (hb2 : E.length ≤ 20) (hr64 : ∀ x ∈ E, x.rc < 9223372036854775808) (j : Nat) (hj : j + 1 < E.length) (s : List Nat) : match fitStep R (some E[j].at_) E[j + 1] s with
    | some s' => CodeW 0 Tryz.prog 120 none gL2 (gHd R E (j + 1) s) .normal (gHd R E (j + 1 + 1) s')
    | none => CodeW 0 Tryz.prog 120 none gL2 (gHd R E (j + 1) s) .ret (mkO gRf [] (gnx R.isEmpty)) := by
  have n1 : ∀ z, (gS z (R.map Rec.row) (E.map Ev.row) R.length (j + 1 + 1)).all (fun p => p.2.inP (kp 0 (gol z))) = true := fun z => (g_slots R E (o := []) (.inl rfl)).1
  have n2 : ∀ z, renL 0 (gol z) (gS z (R.map Rec.row) (E.map Ev.row) R.length (j + 1 + 1)) = gS z (R.map Rec.row) (E.map Ev.row) R.length (j + 1 + 1) := fun z => (g_slots R E (o := []) (.inl rfl)).2.1
  have n3 : ∀ z, smallS (gS z (R.map Rec.row) (E.map Ev.row) R.length (j + 1 + 1)) = true := fun z => (g_slots R E (o := []) (n := R.length) (j := (j + 1 + 1)) (z := z) (.inl rfl)).2.2
  unfold fitStep
  by_cases hv : E[j + 1].at_ < E[j].at_
  · rw [if_pos (show (match some E[j].at_ with | some p => decide (E[j + 1].at_ < p) | none => false) = true from dT hv)]
    exact outP_G (z := R.isEmpty) (gBv R.isEmpty (R.map Rec.row) (E.map Ev.row) (cntR s R.length) R.length j 0 E[j + 1].rc E[j + 1].dt E[j + 1].at_ E[j].rc E[j].dt E[j].at_ 0 0 0 0 0 0 0 0 ⟨#[]⟩ 0 0 0 0 0) (gBv_e R.isEmpty (R.map Rec.row) (E.map Ev.row) (cntR s R.length) R.length j 0 E[j + 1].rc E[j + 1].dt E[j + 1].at_ E[j].rc E[j].dt E[j].at_ 0 0 0 0 0 0 0 0 ⟨#[]⟩ 0 0 0 0 0) (allB_of (cons_ok (dT hv) (cons_ok rfl (cons_ok rfl (cons_ok (tb (show j + 1 < _ by omega)) (cons_ok rfl (cons_ok (tb (by rw [List.length_map]; exact hj)) nil_ok))))))) (cons_hs (g_row E (j := j) (by omega)) (cons_hs (g_row E (j := j) (by omega)) (cons_hs (g_row E hj) (cons_hs (g_row E hj) no_hs)))) (by rfl) rfl (by cases R.isEmpty <;> rfl) (by cases R.isEmpty <;> rfl) (by cases R.isEmpty <;> trivial)
  rw [if_neg (show ¬ (match some E[j].at_ with | some p => decide (E[j + 1].at_ < p) | none => false) = true from by show ¬ decide _ = true; rw [decide_eq_true_eq]; exact hv)]
  by_cases h0 : E[j + 1].rc ≤ 0
  · rw [if_pos h0]
    exact outP_G (z := R.isEmpty) (gBs R.isEmpty (R.map Rec.row) (E.map Ev.row) (cntR s R.length) R.length j 0 E[j + 1].rc E[j + 1].dt E[j + 1].at_ E[j].rc E[j].dt E[j].at_ 0 0 0 0 0 0 0 0 ⟨#[]⟩ 0 0 0 0 0) (gBs_e R.isEmpty (R.map Rec.row) (E.map Ev.row) (cntR s R.length) R.length j 0 E[j + 1].rc E[j + 1].dt E[j + 1].at_ E[j].rc E[j].dt E[j].at_ 0 0 0 0 0 0 0 0 ⟨#[]⟩ 0 0 0 0 0) (allB_of (cons_ok (tb (show j + 1 + 1 < _ by omega)) (cons_ok (dT h0) (cons_ok rfl (cons_ok (dF hv) (cons_ok rfl (cons_ok rfl (cons_ok (tb (show j + 1 < _ by omega)) (cons_ok rfl (cons_ok (tb (by rw [List.length_map]; exact hj)) nil_ok)))))))))) (cons_hs (g_row E hj) (cons_hs (g_row E hj) (cons_hs (g_row E (j := j) (by omega)) (cons_hs (g_row E (j := j) (by omega)) (cons_hs (g_row E hj) (cons_hs (g_row E hj) no_hs)))))) (n3 R.isEmpty) (g_os R.isEmpty (cnt_bare s R.length)).2 (n1 R.isEmpty) (n2 R.isEmpty) (g_os R.isEmpty (cnt_bare s R.length)).1
  rw [if_neg h0]
  obtain ⟨k, hrc⟩ : ∃ k : Nat, E[j + 1].rc = Int.ofNat (k + 1) := ⟨E[j + 1].rc.toNat - 1, by show _ = ((E[j + 1].rc.toNat - 1 + 1 : Nat) : Int); omega⟩
  have ek : E[j + 1].rc.toNat - 1 = k := by rw [hrc]; rfl
  rw [ek]
  have hek : encR ((E.map Ev.row)[(j + 1)]?) = encR (some (rowE (.ofNat (k + 1)) E[j + 1].dt E[j + 1].at_)) := by rw [← hrc]; exact g_row E hj
  have kB : k + 1 < 9223372036854775808 ∨ R.length ≤ k := by omega
  have hkk : k + 1 < 9223372036854775808 := by have := hr64 E[j + 1] (List.getElem_mem hj); rw [hrc] at this; have : ((k + 1 : Nat) : Int) < 9223372036854775808 := this; omega
  by_cases hk : k < R.length
  rotate_left
  · rw [List.getElem?_eq_none (by omega)]
    exact outP_G (z := R.isEmpty) (gBg R.isEmpty (R.map Rec.row) (E.map Ev.row) (cntR s R.length) R.length j k 0 E[j + 1].dt E[j + 1].at_ E[j].rc E[j].dt E[j].at_ 0 0 0 0 0 0 0 0 ⟨#[]⟩ 0 0 0 0 0) (gBg_e R.isEmpty (R.map Rec.row) (E.map Ev.row) (cntR s R.length) R.length j k 0 E[j + 1].dt E[j + 1].at_ E[j].rc E[j].dt E[j].at_ 0 0 0 0 0 0 0 0 ⟨#[]⟩ 0 0 0 0 0) (allB_of (cons_ok (tl (by rw [List.length_map]; show R.length ≤ k + 1 - 1; omega)) (cons_ok rfl (cons_ok (tb hkk) (cons_ok rfl (cons_ok rfl (cons_ok rfl (cons_ok (dF hv) (cons_ok rfl (cons_ok rfl (cons_ok (tb (show j + 1 < _ by omega)) (cons_ok rfl (cons_ok (tb (by rw [List.length_map]; exact hj)) nil_ok))))))))))))) (cons_hs hek (cons_hs hek (cons_hs hek (cons_hs hek (cons_hs (g_row E (j := j) (by omega)) (cons_hs (g_row E (j := j) (by omega)) (cons_hs hek (cons_hs hek no_hs)))))))) (by rfl) rfl (by cases R.isEmpty <;> rfl) (by cases R.isEmpty <;> rfl) (by cases R.isEmpty <;> trivial)
  rw [List.getElem?_eq_getElem hk]
  have hz : R.isEmpty = false := by cases R with
    | nil => simp at hk
    | cons => rfl
  unfold gHd
  rw [hz]
  obtain ⟨r, hr⟩ : ∃ r, r = R[k] := ⟨_, rfl⟩
  rw [← hr]
  dsimp only
  have hrow : encR ((R.map Rec.row)[Nat.sub (k + 1) 1]?) = encR (some (rowR r.c r.k r.n r.a r.f r.i r.v r.to r.nm r.e r.ro r.rv r.b r.en)) := by rw [hr]; exact g_rec R hk
  have hcnt : encR (PObj.row (0 + Nat.sub (k + 1) 1) (gCo (cntR s R.length))) = encR (some [.int .i64 (if k ∈ s then 1 else 0)]) := by
    show encR ((cntR s R.length)[0 + k]?) = _
    rw [Nat.zero_add, cnt_at hk]
  by_cases hs : k ∈ s
  · rw [if_pos hs] at hcnt ⊢
    exact outP_G (z := false) (gBf (R.map Rec.row) (E.map Ev.row) (cntR s R.length) R.length j k 0 E[j + 1].dt E[j + 1].at_ E[j].rc E[j].dt E[j].at_ 0 0 0 0 0 0 0 0 ⟨#[]⟩ 0 0 0 0 0) (gBf_e (R.map Rec.row) (E.map Ev.row) (cntR s R.length) R.length j k 0 E[j + 1].dt E[j + 1].at_ E[j].rc E[j].dt E[j].at_ 0 0 0 0 0 0 0 0 ⟨#[]⟩ 0 0 0 0 0) (allB_of (cons_ok rfl (cons_ok (tb (show k + 1 - 1 < R.length by omega)) (cons_ok rfl (cons_ok (by rw [List.length_map]; rw [nl (show ¬ R.length ≤ Nat.sub (k + 1) 1 from (by show ¬ R.length ≤ k + 1 - 1; omega))]; rfl) (cons_ok rfl (cons_ok (tb hkk) (cons_ok rfl (cons_ok rfl (cons_ok rfl (cons_ok (dF hv) (cons_ok rfl (cons_ok rfl (cons_ok (tb (show j + 1 < _ by omega)) (cons_ok rfl (cons_ok (tb (by rw [List.length_map]; exact hj)) nil_ok)))))))))))))))) (cons_hs hcnt (cons_hs hek (cons_hs hek (cons_hs hek (cons_hs hek (cons_hs (g_row E (j := j) (by omega)) (cons_hs (g_row E (j := j) (by omega)) (cons_hs hek (cons_hs hek no_hs))))))))) rfl rfl rfl rfl trivial
  rw [if_neg hs] at hcnt ⊢
  by_cases hbg : E[j + 1].at_ < r.b
  · rw [if_pos hbg]
    exact outP_G (z := false) (gBe (R.map Rec.row) (E.map Ev.row) (cntR s R.length) R.length j k 0 E[j + 1].dt E[j + 1].at_ E[j].rc E[j].dt E[j].at_ r.c r.k r.n r.a r.f r.i r.v r.to r.nm r.e r.ro r.rv r.b r.en) (gBe_e (R.map Rec.row) (E.map Ev.row) (cntR s R.length) R.length j k 0 E[j + 1].dt E[j + 1].at_ E[j].rc E[j].dt E[j].at_ r.c r.k r.n r.a r.f r.i r.v r.to r.nm r.e r.ro r.rv r.b r.en) (allB_of (cons_ok (dT hbg) (cons_ok rfl (cons_ok rfl (cons_ok rfl (cons_ok (tb (show k + 1 - 1 < R.length by omega)) (cons_ok rfl (cons_ok (by rw [List.length_map]; rw [nl (show ¬ R.length ≤ Nat.sub (k + 1) 1 from (by show ¬ R.length ≤ k + 1 - 1; omega))]; rfl) (cons_ok rfl (cons_ok (tb hkk) (cons_ok rfl (cons_ok rfl (cons_ok rfl (cons_ok (dF hv) (cons_ok rfl (cons_ok rfl (cons_ok (tb (show j + 1 < _ by omega)) (cons_ok rfl (cons_ok (tb (by rw [List.length_map]; exact hj)) nil_ok))))))))))))))))))) (cons_hs hrow (cons_hs hrow (cons_hs hek (cons_hs hek (cons_hs hcnt (cons_hs hek (cons_hs hek (cons_hs hek (cons_hs hek (cons_hs (g_row E (j := j) (by omega)) (cons_hs (g_row E (j := j) (by omega)) (cons_hs hek (cons_hs hek no_hs))))))))))))) rfl rfl rfl rfl trivial
  rw [if_neg hbg]
  have eM : (cntR s R.length).set (0 + Nat.sub (k + 1) 1) [.int .i64 1] = cntR (s ++ [k]) R.length := by
    rw [Nat.zero_add]; exact cnt_set hk
  have os := g_os false (cnt_bare (s ++ [k]) R.length)
  rw [← eM] at os
  by_cases hen : r.en = -1
  · rw [if_neg (fun h => h.1 hen)]
    have := outP_G (z := false) (gBo (R.map Rec.row) (E.map Ev.row) (cntR s R.length) R.length j k 0 E[j + 1].dt E[j + 1].at_ E[j].rc E[j].dt E[j].at_ r.c r.k r.n r.a r.f r.i r.v r.to r.nm r.e r.ro r.rv r.b r.en) (gBo_e (R.map Rec.row) (E.map Ev.row) (cntR s R.length) R.length j k 0 E[j + 1].dt E[j + 1].at_ E[j].rc E[j].dt E[j].at_ r.c r.k r.n r.a r.f r.i r.v r.to r.nm r.e r.ro r.rv r.b r.en) (allB_of (cons_ok (tb (show j + 1 + 1 < _ by omega)) (cons_ok rfl (cons_ok rfl (cons_ok rfl (cons_ok rfl (cons_ok (tb (show k + 1 - 1 < R.length by omega)) (cons_ok rfl (cons_ok (show (not (r.en != -1)) = true by rw [hen]; rfl) (cons_ok rfl (cons_ok (dF hbg) (cons_ok rfl (cons_ok rfl (cons_ok rfl (cons_ok (tb (show k + 1 - 1 < R.length by omega)) (cons_ok rfl (cons_ok (by rw [List.length_map]; rw [nl (show ¬ R.length ≤ Nat.sub (k + 1) 1 from (by show ¬ R.length ≤ k + 1 - 1; omega))]; rfl) (cons_ok rfl (cons_ok (tb hkk) (cons_ok rfl (cons_ok rfl (cons_ok rfl (cons_ok (dF hv) (cons_ok rfl (cons_ok rfl (cons_ok (tb (show j + 1 < _ by omega)) (cons_ok rfl (cons_ok (tb (by rw [List.length_map]; exact hj)) nil_ok)))))))))))))))))))))))))))) (cons_hs hcnt (cons_hs hrow (cons_hs hrow (cons_hs hrow (cons_hs hrow (cons_hs hek (cons_hs hek (cons_hs hcnt (cons_hs hek (cons_hs hek (cons_hs hek (cons_hs hek (cons_hs (g_row E (j := j) (by omega)) (cons_hs (g_row E (j := j) (by omega)) (cons_hs hek (cons_hs hek no_hs)))))))))))))))) (n3 false) os.2 (n1 false) (n2 false) os.1
    rw [eM] at this
    exact this
  have hen' : (r.en != -1) = true := by simpa using hen
  by_cases hlt : E[j + 1].at_ > r.en
  · rw [if_pos ⟨hen, hlt⟩]
    exact outP_G (z := false) (gBl (R.map Rec.row) (E.map Ev.row) (cntR s R.length) R.length j k 0 E[j + 1].dt E[j + 1].at_ E[j].rc E[j].dt E[j].at_ r.c r.k r.n r.a r.f r.i r.v r.to r.nm r.e r.ro r.rv r.b r.en) (gBl_e (R.map Rec.row) (E.map Ev.row) (cntR s R.length) R.length j k 0 E[j + 1].dt E[j + 1].at_ E[j].rc E[j].dt E[j].at_ r.c r.k r.n r.a r.f r.i r.v r.to r.nm r.e r.ro r.rv r.b r.en) (allB_of (cons_ok (dT hlt) (cons_ok rfl (cons_ok rfl (cons_ok hen' (cons_ok rfl (cons_ok (dF hbg) (cons_ok rfl (cons_ok rfl (cons_ok rfl (cons_ok (tb (show k + 1 - 1 < R.length by omega)) (cons_ok rfl (cons_ok (by rw [List.length_map]; rw [nl (show ¬ R.length ≤ Nat.sub (k + 1) 1 from (by show ¬ R.length ≤ k + 1 - 1; omega))]; rfl) (cons_ok rfl (cons_ok (tb hkk) (cons_ok rfl (cons_ok rfl (cons_ok rfl (cons_ok (dF hv) (cons_ok rfl (cons_ok rfl (cons_ok (tb (show j + 1 < _ by omega)) (cons_ok rfl (cons_ok (tb (by rw [List.length_map]; exact hj)) nil_ok)))))))))))))))))))))))) (cons_hs hrow (cons_hs hrow (cons_hs hek (cons_hs hek (cons_hs hrow (cons_hs hrow (cons_hs hrow (cons_hs hrow (cons_hs hek (cons_hs hek (cons_hs hcnt (cons_hs hek (cons_hs hek (cons_hs hek (cons_hs hek (cons_hs (g_row E (j := j) (by omega)) (cons_hs (g_row E (j := j) (by omega)) (cons_hs hek (cons_hs hek no_hs))))))))))))))))))) rfl rfl rfl rfl trivial
  · rw [if_neg (fun h => hlt h.2)]
    have := outP_G (z := false) (gBi (R.map Rec.row) (E.map Ev.row) (cntR s R.length) R.length j k 0 E[j + 1].dt E[j + 1].at_ E[j].rc E[j].dt E[j].at_ r.c r.k r.n r.a r.f r.i r.v r.to r.nm r.e r.ro r.rv r.b r.en) (gBi_e (R.map Rec.row) (E.map Ev.row) (cntR s R.length) R.length j k 0 E[j + 1].dt E[j + 1].at_ E[j].rc E[j].dt E[j].at_ r.c r.k r.n r.a r.f r.i r.v r.to r.nm r.e r.ro r.rv r.b r.en) (allB_of (cons_ok (tb (show j + 1 + 1 < _ by omega)) (cons_ok rfl (cons_ok rfl (cons_ok rfl (cons_ok rfl (cons_ok (tb (show k + 1 - 1 < R.length by omega)) (cons_ok rfl (cons_ok (dF hlt) (cons_ok rfl (cons_ok rfl (cons_ok hen' (cons_ok rfl (cons_ok (dF hbg) (cons_ok rfl (cons_ok rfl (cons_ok rfl (cons_ok (tb (show k + 1 - 1 < R.length by omega)) (cons_ok rfl (cons_ok (by rw [List.length_map]; rw [nl (show ¬ R.length ≤ Nat.sub (k + 1) 1 from (by show ¬ R.length ≤ k + 1 - 1; omega))]; rfl) (cons_ok rfl (cons_ok (tb hkk) (cons_ok rfl (cons_ok rfl (cons_ok rfl (cons_ok (dF hv) (cons_ok rfl (cons_ok rfl (cons_ok (tb (show j + 1 < _ by omega)) (cons_ok rfl (cons_ok (tb (by rw [List.length_map]; exact hj)) nil_ok))))))))))))))))))))))))))))))) (cons_hs hcnt (cons_hs hrow (cons_hs hrow (cons_hs hek (cons_hs hek (cons_hs hrow (cons_hs hrow (cons_hs hrow (cons_hs hrow (cons_hs hek (cons_hs hek (cons_hs hcnt (cons_hs hek (cons_hs hek (cons_hs hek (cons_hs hek (cons_hs (g_row E (j := j) (by omega)) (cons_hs (g_row E (j := j) (by omega)) (cons_hs hek (cons_hs hek no_hs)))))))))))))))))))) (n3 false) os.2 (n1 false) (n2 false) os.1
    rw [eM] at this
    exact this
end
end Go.Proofs.YtmhinddneefmbaaGreat.Pe
