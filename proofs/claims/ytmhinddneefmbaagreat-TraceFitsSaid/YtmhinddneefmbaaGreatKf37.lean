/- A part of the proof of JdH. -/
import Derived.Test.YtmhinddneefmbaaGreatKf31
import Derived.Test.YtmhinddneefmbaaGreatKf36
set_option linter.unusedSimpArgs false
set_option linter.unusedVariables false
set_option linter.unusedSectionVars false
namespace Go.Proofs.YtmhinddneefmbaaGreat.Pe
open Go
set_option maxRecDepth 100000
structure Rec where
  c : Int
  k : Int
  n : Nat
  a : Nat
  f : Nat
  i : Nat
  v : Nat
  to : Int
  nm : ByteArray
  e : Int
  ro : Nat
  rv : Nat
  b : Int
  en : Int
structure Ev where
  rc : Int
  dt : Int
  at_ : Int
def Rec.row (r : Rec) : List D := rowR r.c r.k r.n r.a r.f r.i r.v r.to r.nm r.e r.ro r.rv r.b r.en
def Rec.out (r : Rec) : List D := outR' r.c r.k r.n r.a r.f r.i r.v r.to r.nm r.e r.ro r.rv r.b r.en
def Ev.row (r : Ev) : List D := rowE r.rc r.dt r.at_
def Ev.out (r : Ev) : List D := rowE r.rc r.dt r.at_
theorem rr_all (l : List Rec) : ((l.map Rec.row).all fun r => r.all D.bare) = true := by
  rw [List.all_eq_true]
  intro r hr
  obtain ⟨x, _, rfl⟩ := List.mem_map.1 hr
  rfl
theorem rr_allO (l : List Rec) : ((l.map Rec.out).all fun r => r.all D.bare) = true := by
  rw [List.all_eq_true]
  intro r hr
  obtain ⟨x, _, rfl⟩ := List.mem_map.1 hr
  rfl
theorem rr_at {l : List Rec} {i : Nat} (h : i < l.length) : (l.map Rec.row)[i]? = some (Rec.row l[i]) := by
  rw [List.getElem?_map, List.getElem?_eq_getElem h]; rfl
theorem rr_loop (l : List Rec) (hb : l.length ≤ 20) : ∀ (d i : Nat), i + d = l.length → 0 < i → LoopW 0 Tryz.prog 41 none rrL d (mkO (rrS (l.map Rec.row) 0 i i) [(0, rrO ((l.take i).map Rec.out))] 1) (.exit 0) (mkO (rrS (l.map Rec.row) 0 l.length l.length) [(0, rrO (l.map Rec.out))] 1)
  | 0, i, h, _ => by
    have hi : i = l.length := by omega
    subst hi
    rw [List.take_length]
    refine .last _ _ _ (outP_W (n0 := 0) (olds := [0]) (l := rrS (l.map Rec.row) 0 l.length l.length) (o1 := [(0, rrO (l.map Rec.out))]) (o2 := [(0, rrO (l.map Rec.out))]) Sx_ok Sx_pb (rr_x _ _ _ _) (rr_xe _ _ _ _) (allB_of (cons_ok (by rw [List.length_map, nb (Nat.lt_irrefl _)]; rfl) nil_ok)) (fun p hp => by cases hp) rfl rfl (by omega) (fun o ho => by rcases List.mem_singleton.1 ho with rfl; omega) (by simp) ?_ ⟨rfl, by decide, .bare (by decide) (rr_allO l), trivial⟩) (by simp)
    simp only [rrS, List.all_cons, List.all_nil, AV.inP, AD.inP, D.inP, D.in1, D.bare, rr_all, kp]
    rfl
  | d + 1, i, h, h0 => by
    have hi : i < l.length := by omega
    have key := outP_W (n0 := 0) (olds := [2]) (l := rrS (l.map Rec.row) 2 (i + 1) (i + 1)) (o1 := [(2, rrO ((l.take i).map Rec.out ++ [Rec.out l[i]]))]) (o2 := [(0, rrO ((l.take i).map Rec.out ++ [Rec.out l[i]]))]) Sx_ok Sx_pb (rr_s (l.map Rec.row) ((l.take i).map Rec.out) i i l[i].c l[i].k l[i].n l[i].a l[i].f l[i].i l[i].v l[i].to l[i].nm l[i].e l[i].ro l[i].rv l[i].b l[i].en) (rr_se (l.map Rec.row) ((l.take i).map Rec.out) i i l[i].c l[i].k l[i].n l[i].a l[i].f l[i].i l[i].v l[i].to l[i].nm l[i].e l[i].ro l[i].rv l[i].b l[i].en)
      (allB_of (cons_ok (tb (show i + 1 < _ by omega)) (cons_ok rfl (cons_ok rfl (cons_ok rfl (cons_ok rfl (cons_ok rfl (cons_ok rfl (cons_ok (te (by rw [List.length_map, List.length_take]; omega)) (cons_ok (tl (show (i + 1) * 129 ≤ _ by omega)) (cons_ok rfl (cons_ok rfl (cons_ok rfl (cons_ok rfl (cons_ok rfl (cons_ok (tb (by rw [List.length_map]; omega)) nil_ok))))))))))))))))
      (fun p hp => by
        have : p = (encR ((l.map Rec.row)[i]?), encR (some (Rec.row l[i]))) := by
          simp only [List.mem_cons, List.not_mem_nil, or_false] at hp
          rcases hp with h | h | h | h | h | h | h | h | h | h <;> exact h
        subst this
        exact congrArg encR (rr_at hi)) rfl rfl (by omega) (fun o ho => by rcases List.mem_singleton.1 ho with rfl; omega) (by simp) (by
        simp only [rrS, List.all_cons, List.all_nil, AV.inP, AD.inP, D.inP, D.in1, D.bare, rr_all, kp]
        rfl) ⟨rfl, by decide, .bare (by decide) (by rw [List.all_append, rr_allO]; rfl), trivial⟩
    refine .step _ _ (mkO (rrS (l.map Rec.row) 0 (i + 1) (i + 1)) [(0, rrO ((l.take (i + 1)).map Rec.out))] 1) _ _ ?_ (rr_loop l hb d (i + 1) (by omega) (by omega))
    rw [List.take_add_one, List.getElem?_eq_getElem hi, List.map_append]
    exact key
theorem rr_run (l : List Rec) (hb : l.length ≤ 20) : ∃ K n1, RunAt Tryz.prog 20 [.one (.sl (l.map Rec.row))] (.tr .leaf) 0 (.a (.one (match l with | [] => .nils | _ :: _ => .ref 0 15 0 l.length))) K n1 ∧ (match l with | [] => n1 = 0 | _ :: _ => n1 = 1 ∧ K 0 = some (rrO (l.map Rec.out))) := by
  have nh : ∀ p ∈ ([] : List (AV × AV)), p.1 = p.2 := fun p hp => by cases hp
  have al : ∀ (m : List (Nat × AV)), m = rrN (l.map Rec.row) ∨ m = [(0, .v (.one (.sl (l.map Rec.row)))), (2, .v (.one .nils))] ∨ m = [(0, .v (.one (.sl (l.map Rec.row)))), (2, .v (.one .nils)), (3, .v (.one .nils))] → m.all (fun p => p.2.inP (kp 0 [])) = true := fun m h => by
    rcases h with rfl | rfl | rfl
    · simp only [rrN, List.all_cons, List.all_nil, AV.inP, AD.inP, D.inP, D.in1, D.bare, rr_all, kp]; rfl
    · simp only [List.all_cons, List.all_nil, AV.inP, AD.inP, D.inP, D.in1, D.bare, rr_all, kp]; rfl
    · simp only [List.all_cons, List.all_nil, AV.inP, AD.inP, D.inP, D.in1, D.bare, rr_all, kp]; rfl
  have k0 := outP_W (n0 := 0) (olds := []) (l := [(0, .v (.one (.sl (l.map Rec.row)))), (2, .v (.one .nils))]) (o1 := []) (o2 := []) Sx_ok Sx_pb (rr_p0 (l.map Rec.row)) (rr_p0e _) rfl nh rfl rfl (by omega) (fun o ho => by cases ho) (by simp) (al _ (.inr (.inl rfl))) trivial
  have k1 := outP_W (n0 := 0) (olds := []) (l := [(0, .v (.one (.sl (l.map Rec.row)))), (2, .v (.one .nils)), (3, .v (.one .nils))]) (o1 := []) (o2 := []) Sx_ok Sx_pb (rr_p1 (l.map Rec.row)) (rr_p1e _) rfl nh rfl rfl (by omega) (fun o ho => by cases ho) (by simp) (al _ (.inr (.inr rfl))) trivial
  have k2 := outP_W (n0 := 0) (olds := []) (l := rrN (l.map Rec.row)) (o1 := []) (o2 := []) Sx_ok Sx_pb (rr_p2 (l.map Rec.row)) (rr_p2e _) rfl nh rfl rfl (by omega) (fun o ho => by cases ho) (by simp) (al _ (.inl rfl)) trivial
  have fin : ∀ {s3 s4 : St}, LoopW 0 Tryz.prog 41 none rrL l.length (mkO (rrN (l.map Rec.row)) [] 0) (.exit 0) s3 → CodeW 0 Tryz.prog 41 none rrE s3 .ret s4 → CodeR Tryz.prog 41 none rrB ⟨startS [.one (.sl (l.map Rec.row))] 0 .leaf, .tr .leaf, 0⟩ .ret s4 := fun {s3 s4} h3 h4 => by
    have k3 : CodeW 0 Tryz.prog 41 none rr3 (mkO (rrN (l.map Rec.row)) [] 0) .normal s3 := by
      rw [rr3_eq]
      exact h3.code.block (id := 0)
    rw [rrB_eq]
    exact (k0.seq (k1.seq ((k2.seq k3).seq h4))).R (Nat.le_refl 0) (fun lp h => by cases h)
  have hn : (fdOf Tryz.f20).nt = 41 := by kernel_rfl
  cases l with
  | nil =>
    have x0 := outP_W (n0 := 0) (olds := []) (l := rrN []) (o1 := []) (o2 := []) Sx_ok Sx_pb (rr_x0 []) (rr_x0e _) rfl nh rfl rfl (by omega) (fun o ho => by cases ho) (by simp) (al _ (.inl rfl)) trivial
    have f0 := outP_W (n0 := 0) (olds := []) (l := [(2, .v (.one .nils))]) (o1 := []) (o2 := []) Sx_ok Sx_pb (rr_f0 []) (rr_f0e _) rfl nh rfl rfl (by omega) (fun o ho => by cases ho) (by simp) rfl trivial
    have hB := fin (.last _ _ _ x0 (by simp)) f0
    exact ⟨.tr (mkTr []), 0, fn_run (S := Sx.toSys) Sx_ok (f := 20) (fd := fdOf Tryz.f20) (ads := [.one (.sl [])]) (H := .tr .leaf) (nx := 0) (by kernel_rfl) ⟨Nat.le_of_ble_eq_true (by kernel_rfl), Nat.le_of_ble_eq_true (by kernel_rfl)⟩ hB (.inr rfl) (by kernel_rfl), rfl⟩
  | cons r l' =>
    generalize hl : r :: l' = l at *
    have hlen : 0 < l.length := by rw [← hl]; simp
    have e0 : l[0]'hlen = r := by subst hl; rfl
    have s0 := outP_W (n0 := 0) (olds := [1]) (l := rrS (l.map Rec.row) 1 1 1) (o1 := [(1, rrO [Rec.out r])]) (o2 := [(0, rrO [Rec.out r])]) Sx_ok Sx_pb (rr_s0 (l.map Rec.row) r.c r.k r.n r.a r.f r.i r.v r.to r.nm r.e r.ro r.rv r.b r.en) (rr_s0e (l.map Rec.row) r.c r.k r.n r.a r.f r.i r.v r.to r.nm r.e r.ro r.rv r.b r.en)
      (allB_of (cons_ok rfl (cons_ok rfl (cons_ok rfl (cons_ok rfl (cons_ok rfl (cons_ok rfl (cons_ok (tb (by rw [List.length_map]; omega)) nil_ok))))))))
      (fun p hp => by
        have : p = (encR ((l.map Rec.row)[0]?), encR (some (Rec.row r))) := by
          simp only [List.mem_cons, List.not_mem_nil, or_false] at hp
          rcases hp with h | h | h | h | h | h | h | h | h | h <;> exact h
        subst this
        have := rr_at hlen
        rw [e0] at this
        exact congrArg encR this) rfl rfl (by omega) (fun o ho => by rcases List.mem_singleton.1 ho with rfl; omega) (by simp) (by
        simp only [rrS, List.all_cons, List.all_nil, AV.inP, AD.inP, D.inP, D.in1, D.bare, rr_all, kp]
        rfl) ⟨rfl, by decide, .bare (by decide) rfl, trivial⟩
    have hl1 := rr_loop l hb (l.length - 1) 1 (by omega) (by omega)
    have e1 : l.take 1 = [r] := by subst hl; rfl
    rw [e1] at hl1
    have hlp : LoopW 0 Tryz.prog 41 none rrL (l.length - 1 + 1) (mkO (rrN (l.map Rec.row)) [] 0) (.exit 0) _ := .step _ _ _ _ _ s0 hl1
    rw [show l.length - 1 + 1 = l.length by omega] at hlp
    have f1 := outP_W (n0 := 0) (olds := [0]) (l := [(2, .v (.one (.ref 0 15 0 l.length)))]) (o1 := [(0, rrO (l.map Rec.out))]) (o2 := [(0, rrO (l.map Rec.out))]) Sx_ok Sx_pb (rr_f (l.map Rec.row) (l.map Rec.out) l.length l.length) (rr_fe _ _ _ _) rfl nh rfl rfl (by omega) (fun o ho => by rcases List.mem_singleton.1 ho with rfl; omega) (by simp) rfl ⟨rfl, by decide, .bare (by decide) (rr_allO l), trivial⟩
    have hB := fin hlp f1
    subst hl
    exact ⟨.tr (mkTr [(0, rrO ((r :: l').map Rec.out))]), 1, fn_run (S := Sx.toSys) Sx_ok (f := 20) (fd := fdOf Tryz.f20) (ads := [.one (.sl ((r :: l').map Rec.row))]) (H := .tr .leaf) (nx := 0) (by kernel_rfl) ⟨Nat.le_of_ble_eq_true (by kernel_rfl), Nat.le_of_ble_eq_true (by kernel_rfl)⟩ hB (.inr rfl) (by kernel_rfl), rfl, rfl⟩
theorem re_all (l : List Ev) : ((l.map Ev.row).all fun r => r.all D.bare) = true := by
  rw [List.all_eq_true]
  intro r hr
  obtain ⟨x, _, rfl⟩ := List.mem_map.1 hr
  rfl
theorem re_allO (l : List Ev) : ((l.map Ev.out).all fun r => r.all D.bare) = true := by
  rw [List.all_eq_true]
  intro r hr
  obtain ⟨x, _, rfl⟩ := List.mem_map.1 hr
  rfl
theorem re_at {l : List Ev} {i : Nat} (h : i < l.length) : (l.map Ev.row)[i]? = some (Ev.row l[i]) := by
  rw [List.getElem?_map, List.getElem?_eq_getElem h]; rfl
theorem re_loop (l : List Ev) (hb : l.length ≤ 20) : ∀ (d i : Nat), i + d = l.length → 0 < i → LoopW 0 Tryz.prog 31 none reL d (mkO (reS (l.map Ev.row) 0 i i) [(0, reO ((l.take i).map Ev.out))] 1) (.exit 0) (mkO (reS (l.map Ev.row) 0 l.length l.length) [(0, reO (l.map Ev.out))] 1)
  | 0, i, h, _ => by
    have hi : i = l.length := by omega
    subst hi
    rw [List.take_length]
    refine .last _ _ _ (outP_W (n0 := 0) (olds := [0]) (l := reS (l.map Ev.row) 0 l.length l.length) (o1 := [(0, reO (l.map Ev.out))]) (o2 := [(0, reO (l.map Ev.out))]) Sx_ok Sx_pb (re_x _ _ _ _) (re_xe _ _ _ _) (allB_of (cons_ok (by rw [List.length_map, nb (Nat.lt_irrefl _)]; rfl) nil_ok)) (fun p hp => by cases hp) rfl rfl (by omega) (fun o ho => by rcases List.mem_singleton.1 ho with rfl; omega) (by simp) ?_ ⟨rfl, by decide, .bare (by decide) (re_allO l), trivial⟩) (by simp)
    simp only [reS, List.all_cons, List.all_nil, AV.inP, AD.inP, D.inP, D.in1, D.bare, re_all, kp]
    rfl
  | d + 1, i, h, h0 => by
    have hi : i < l.length := by omega
    have key := outP_W (n0 := 0) (olds := [2]) (l := reS (l.map Ev.row) 2 (i + 1) (i + 1)) (o1 := [(2, reO ((l.take i).map Ev.out ++ [Ev.out l[i]]))]) (o2 := [(0, reO ((l.take i).map Ev.out ++ [Ev.out l[i]]))]) Sx_ok Sx_pb (re_s (l.map Ev.row) ((l.take i).map Ev.out) i i l[i].rc l[i].dt l[i].at_) (re_se (l.map Ev.row) ((l.take i).map Ev.out) i i l[i].rc l[i].dt l[i].at_)
      (allB_of (cons_ok (tb (show i + 1 < _ by omega)) (cons_ok rfl (cons_ok rfl (cons_ok rfl (cons_ok rfl (cons_ok rfl (cons_ok rfl (cons_ok (te (by rw [List.length_map, List.length_take]; omega)) (cons_ok (tl (show (i + 1) * 25 ≤ _ by omega)) (cons_ok rfl (cons_ok rfl (cons_ok rfl (cons_ok rfl (cons_ok rfl (cons_ok (tb (by rw [List.length_map]; omega)) nil_ok))))))))))))))))
      (fun p hp => by
        have : p = (encR ((l.map Ev.row)[i]?), encR (some (Ev.row l[i]))) := by
          simp only [List.mem_cons, List.not_mem_nil, or_false] at hp
          rcases hp with h | h | h | h | h | h <;> exact h
        subst this
        exact congrArg encR (re_at hi)) rfl rfl (by omega) (fun o ho => by rcases List.mem_singleton.1 ho with rfl; omega) (by simp) (by
        simp only [reS, List.all_cons, List.all_nil, AV.inP, AD.inP, D.inP, D.in1, D.bare, re_all, kp]
        rfl) ⟨rfl, by decide, .bare (by decide) (by rw [List.all_append, re_allO]; rfl), trivial⟩
    refine .step _ _ (mkO (reS (l.map Ev.row) 0 (i + 1) (i + 1)) [(0, reO ((l.take (i + 1)).map Ev.out))] 1) _ _ ?_ (re_loop l hb d (i + 1) (by omega) (by omega))
    rw [List.take_add_one, List.getElem?_eq_getElem hi, List.map_append]
    exact key
theorem re_run (l : List Ev) (hb : l.length ≤ 20) : ∃ K n1, RunAt Tryz.prog 21 [.one (.sl (l.map Ev.row))] (.tr .leaf) 0 (.a (.one (match l with | [] => .nils | _ :: _ => .ref 0 3 0 l.length))) K n1 ∧ (match l with | [] => n1 = 0 | _ :: _ => n1 = 1 ∧ K 0 = some (reO (l.map Ev.out))) := by
  have nh : ∀ p ∈ ([] : List (AV × AV)), p.1 = p.2 := fun p hp => by cases hp
  have al : ∀ (m : List (Nat × AV)), m = reN (l.map Ev.row) ∨ m = [(0, .v (.one (.sl (l.map Ev.row)))), (2, .v (.one .nils))] ∨ m = [(0, .v (.one (.sl (l.map Ev.row)))), (2, .v (.one .nils)), (3, .v (.one .nils))] → m.all (fun p => p.2.inP (kp 0 [])) = true := fun m h => by
    rcases h with rfl | rfl | rfl
    · simp only [reN, List.all_cons, List.all_nil, AV.inP, AD.inP, D.inP, D.in1, D.bare, re_all, kp]; rfl
    · simp only [List.all_cons, List.all_nil, AV.inP, AD.inP, D.inP, D.in1, D.bare, re_all, kp]; rfl
    · simp only [List.all_cons, List.all_nil, AV.inP, AD.inP, D.inP, D.in1, D.bare, re_all, kp]; rfl
  have k0 := outP_W (n0 := 0) (olds := []) (l := [(0, .v (.one (.sl (l.map Ev.row)))), (2, .v (.one .nils))]) (o1 := []) (o2 := []) Sx_ok Sx_pb (re_p0 (l.map Ev.row)) (re_p0e _) rfl nh rfl rfl (by omega) (fun o ho => by cases ho) (by simp) (al _ (.inr (.inl rfl))) trivial
  have k1 := outP_W (n0 := 0) (olds := []) (l := [(0, .v (.one (.sl (l.map Ev.row)))), (2, .v (.one .nils)), (3, .v (.one .nils))]) (o1 := []) (o2 := []) Sx_ok Sx_pb (re_p1 (l.map Ev.row)) (re_p1e _) rfl nh rfl rfl (by omega) (fun o ho => by cases ho) (by simp) (al _ (.inr (.inr rfl))) trivial
  have k2 := outP_W (n0 := 0) (olds := []) (l := reN (l.map Ev.row)) (o1 := []) (o2 := []) Sx_ok Sx_pb (re_p2 (l.map Ev.row)) (re_p2e _) rfl nh rfl rfl (by omega) (fun o ho => by cases ho) (by simp) (al _ (.inl rfl)) trivial
  have fin : ∀ {s3 s4 : St}, LoopW 0 Tryz.prog 31 none reL l.length (mkO (reN (l.map Ev.row)) [] 0) (.exit 0) s3 → CodeW 0 Tryz.prog 31 none reE s3 .ret s4 → CodeR Tryz.prog 31 none reB ⟨startS [.one (.sl (l.map Ev.row))] 0 .leaf, .tr .leaf, 0⟩ .ret s4 := fun {s3 s4} h3 h4 => by
    have k3 : CodeW 0 Tryz.prog 31 none re3 (mkO (reN (l.map Ev.row)) [] 0) .normal s3 := by
      rw [re3_eq]
      exact h3.code.block (id := 0)
    rw [reB_eq]
    exact (k0.seq (k1.seq ((k2.seq k3).seq h4))).R (Nat.le_refl 0) (fun lp h => by cases h)
  have hn : (fdOf Tryz.f21).nt = 31 := by kernel_rfl
  cases l with
  | nil =>
    have x0 := outP_W (n0 := 0) (olds := []) (l := reN []) (o1 := []) (o2 := []) Sx_ok Sx_pb (re_x0 []) (re_x0e _) rfl nh rfl rfl (by omega) (fun o ho => by cases ho) (by simp) (al _ (.inl rfl)) trivial
    have f0 := outP_W (n0 := 0) (olds := []) (l := [(2, .v (.one .nils))]) (o1 := []) (o2 := []) Sx_ok Sx_pb (re_f0 []) (re_f0e _) rfl nh rfl rfl (by omega) (fun o ho => by cases ho) (by simp) rfl trivial
    have hB := fin (.last _ _ _ x0 (by simp)) f0
    exact ⟨.tr (mkTr []), 0, fn_run (S := Sx.toSys) Sx_ok (f := 21) (fd := fdOf Tryz.f21) (ads := [.one (.sl [])]) (H := .tr .leaf) (nx := 0) (by kernel_rfl) ⟨Nat.le_of_ble_eq_true (by kernel_rfl), Nat.le_of_ble_eq_true (by kernel_rfl)⟩ hB (.inr rfl) (by kernel_rfl), rfl⟩
  | cons r l' =>
    generalize hl : r :: l' = l at *
    have hlen : 0 < l.length := by rw [← hl]; simp
    have e0 : l[0]'hlen = r := by subst hl; rfl
    have s0 := outP_W (n0 := 0) (olds := [1]) (l := reS (l.map Ev.row) 1 1 1) (o1 := [(1, reO [Ev.out r])]) (o2 := [(0, reO [Ev.out r])]) Sx_ok Sx_pb (re_s0 (l.map Ev.row) r.rc r.dt r.at_) (re_s0e (l.map Ev.row) r.rc r.dt r.at_)
      (allB_of (cons_ok rfl (cons_ok rfl (cons_ok rfl (cons_ok rfl (cons_ok rfl (cons_ok rfl (cons_ok (tb (by rw [List.length_map]; omega)) nil_ok))))))))
      (fun p hp => by
        have : p = (encR ((l.map Ev.row)[0]?), encR (some (Ev.row r))) := by
          simp only [List.mem_cons, List.not_mem_nil, or_false] at hp
          rcases hp with h | h | h | h | h | h <;> exact h
        subst this
        have := re_at hlen
        rw [e0] at this
        exact congrArg encR this) rfl rfl (by omega) (fun o ho => by rcases List.mem_singleton.1 ho with rfl; omega) (by simp) (by
        simp only [reS, List.all_cons, List.all_nil, AV.inP, AD.inP, D.inP, D.in1, D.bare, re_all, kp]
        rfl) ⟨rfl, by decide, .bare (by decide) rfl, trivial⟩
    have hl1 := re_loop l hb (l.length - 1) 1 (by omega) (by omega)
    have e1 : l.take 1 = [r] := by subst hl; rfl
    rw [e1] at hl1
    have hlp : LoopW 0 Tryz.prog 31 none reL (l.length - 1 + 1) (mkO (reN (l.map Ev.row)) [] 0) (.exit 0) _ := .step _ _ _ _ _ s0 hl1
    rw [show l.length - 1 + 1 = l.length by omega] at hlp
    have f1 := outP_W (n0 := 0) (olds := [0]) (l := [(2, .v (.one (.ref 0 3 0 l.length)))]) (o1 := [(0, reO (l.map Ev.out))]) (o2 := [(0, reO (l.map Ev.out))]) Sx_ok Sx_pb (re_f (l.map Ev.row) (l.map Ev.out) l.length l.length) (re_fe _ _ _ _) rfl nh rfl rfl (by omega) (fun o ho => by rcases List.mem_singleton.1 ho with rfl; omega) (by simp) rfl ⟨rfl, by decide, .bare (by decide) (re_allO l), trivial⟩
    have hB := fin hlp f1
    subst hl
    exact ⟨.tr (mkTr [(0, reO ((r :: l').map Ev.out))]), 1, fn_run (S := Sx.toSys) Sx_ok (f := 21) (fd := fdOf Tryz.f21) (ads := [.one (.sl ((r :: l').map Ev.row))]) (H := .tr .leaf) (nx := 0) (by kernel_rfl) ⟨Nat.le_of_ble_eq_true (by kernel_rfl), Nat.le_of_ble_eq_true (by kernel_rfl)⟩ hB (.inr rfl) (by kernel_rfl), rfl, rfl⟩
end Go.Proofs.YtmhinddneefmbaaGreat.Pe
