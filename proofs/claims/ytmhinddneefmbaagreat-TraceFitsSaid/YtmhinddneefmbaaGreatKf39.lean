/- A part of the proof of JdH. -/
import Derived.Test.YtmhinddneefmbaaGreatKf38
set_option linter.unusedSimpArgs false
set_option linter.unusedVariables false
set_option linter.unusedSectionVars false
namespace Go.Proofs.YtmhinddneefmbaaGreat.Pe
open Go
set_option maxRecDepth 100000
noncomputable abbrev qp0_R (z y : Bool) (R E M : List (List D)) (n m j : Nat) := (evt Sx 60).code 92 none q0 (⟨startS [.one (qr z n), .one (qe y m)] 0 .leaf, .tr (mkTr (qI z y R E)), 2⟩) ⟨0, [], [], [], [], []⟩
theorem qp0 (z y : Bool) (R E M : List (List D)) (n m j : Nat) : outP (([(0, .v (.one (qr z n))), (1, .v (.one (qe y m))), (4, .v (.one (.bool false)))] : List (Nat × AV)).map fun p => p.1) ((qI z y R E).map fun p => p.1) (qp0_R z y R E M n m j) = some (.normal, ([(0, .v (.one (qr z n))), (1, .v (.one (qe y m))), (4, .v (.one (.bool false)))] : List (Nat × AV)).map (fun p => some p.2), (qI z y R E).map (fun p => some p.2), 2, allB [], []) := by cases z <;> cases y <;> kernel_rfl
theorem qp0_e (z y : Bool) (R E M : List (List D)) (n m j : Nat) : eqL (qp0_R z y R E M n m j) = eqR (qp0_R z y R E M n m j) := by cases z <;> cases y <;> kernel_rfl
noncomputable abbrev qp1_R (z y : Bool) (R E M : List (List D)) (n m j : Nat) := (evt Sx 60).code 92 none q1 (mkO ([(0, .v (.one (qr z n))), (1, .v (.one (qe y m))), (4, .v (.one (.bool false)))] : List (Nat × AV)) (qI z y R E) 2) ⟨0, [], [], [], [], []⟩
theorem qp1 (z y : Bool) (R E M : List (List D)) (n m j : Nat) : outP (([(0, .v (.one (qr z n))), (1, .v (.one (qe y m))), (4, .v (.one (.bool false))), (5, .v (.one (.mp 2)))] : List (Nat × AV)).map fun p => p.1) ((qO z y R E []).map fun p => p.1) (qp1_R z y R E M n m j) = some (.normal, ([(0, .v (.one (qr z n))), (1, .v (.one (qe y m))), (4, .v (.one (.bool false))), (5, .v (.one (.mp 2)))] : List (Nat × AV)).map (fun p => some p.2), (qO z y R E []).map (fun p => some p.2), 3, allB [], []) := by cases z <;> cases y <;> kernel_rfl
theorem qp1_e (z y : Bool) (R E M : List (List D)) (n m j : Nat) : eqL (qp1_R z y R E M n m j) = eqR (qp1_R z y R E M n m j) := by cases z <;> cases y <;> kernel_rfl
noncomputable abbrev qp2_R (z y : Bool) (R E M : List (List D)) (n m j : Nat) := (evt Sx 60).code 92 none qa2 (mkO ([(0, .v (.one (qr z n))), (1, .v (.one (qe y m))), (4, .v (.one (.bool false))), (5, .v (.one (.mp 2)))] : List (Nat × AV)) (qO z y R E []) 3) ⟨0, [], [], [], [], []⟩
theorem qp2 (z y : Bool) (R E M : List (List D)) (n m j : Nat) : outP ((qS z y n m 0).map fun p => p.1) ((qO z y R E []).map fun p => p.1) (qp2_R z y R E M n m j) = some (.normal, (qS z y n m 0).map (fun p => some p.2), (qO z y R E []).map (fun p => some p.2), 3, allB [], []) := by cases z <;> cases y <;> kernel_rfl
theorem qp2_e (z y : Bool) (R E M : List (List D)) (n m j : Nat) : eqL (qp2_R z y R E M n m j) = eqR (qp2_R z y R E M n m j) := by cases z <;> cases y <;> kernel_rfl
noncomputable abbrev qx1_R (z y : Bool) (R E M : List (List D)) (n m j : Nat) := qR z y R E M n m j [(0, false)]
theorem qx1 (z y : Bool) (R E M : List (List D)) (n m j : Nat) : outP (([(0, .v (.one (qr z n))), (4, .v (.one (.bool false))), (5, .v (.one (.mp 2)))] : List (Nat × AV)).map fun p => p.1) ((qO z y R E M).map fun p => p.1) (qx1_R z y R E M n m j) = some (.exit 0, ([(0, .v (.one (qr z n))), (4, .v (.one (.bool false))), (5, .v (.one (.mp 2)))] : List (Nat × AV)).map (fun p => some p.2), (qO z y R E M).map (fun p => some p.2), 3, allB [not (Nat.blt j (br y 0 m))], []) := by cases z <;> cases y <;> kernel_rfl
theorem qx1_e (z y : Bool) (R E M : List (List D)) (n m j : Nat) : eqL (qx1_R z y R E M n m j) = eqR (qx1_R z y R E M n m j) := by cases z <;> cases y <;> kernel_rfl
noncomputable abbrev qp3_R (z y : Bool) (R E M : List (List D)) (n m j : Nat) := (evt Sx 60).code 92 none qb2 (mkO ([(0, .v (.one (qr z n))), (4, .v (.one (.bool false))), (5, .v (.one (.mp 2)))] : List (Nat × AV)) (qO z y R E M) 3) ⟨0, [], [], [], [], []⟩
theorem qp3 (z y : Bool) (R E M : List (List D)) (n m j : Nat) : outP ((qV z n 0).map fun p => p.1) ((qO z y R E M).map fun p => p.1) (qp3_R z y R E M n m j) = some (.normal, (qV z n 0).map (fun p => some p.2), (qO z y R E M).map (fun p => some p.2), 3, allB [], []) := by cases z <;> cases y <;> kernel_rfl
theorem qp3_e (z y : Bool) (R E M : List (List D)) (n m j : Nat) : eqL (qp3_R z y R E M n m j) = eqR (qp3_R z y R E M n m j) := by cases z <;> cases y <;> kernel_rfl
noncomputable abbrev qx2_R (z y : Bool) (R E M : List (List D)) (n i : Nat) := qW z y R E M n i [(0, false)]
theorem qx2 (z y : Bool) (R E M : List (List D)) (n i : Nat) : outP (qRf.map fun p => p.1) (([] : List (Nat × PObj)).map fun p => p.1) (qx2_R z y R E M n i) = some (.exit 2, qRf.map (fun p => some p.2), ([] : List (Nat × PObj)).map (fun p => some p.2), 3, allB [not (Nat.blt i (br z 0 n))], []) := by cases z <;> cases y <;> kernel_rfl
theorem qx2_e (z y : Bool) (R E M : List (List D)) (n i : Nat) : eqL (qx2_R z y R E M n i) = eqR (qx2_R z y R E M n i) := by cases z <;> cases y <;> kernel_rfl
noncomputable abbrev qwo_R (y : Bool) (R E M : List (List D)) (n i w : Nat) (c k0 : Int) (n1 a f i2 v : Nat) (to : Int) (nm : ByteArray) (e : Int) (ro rv : Nat) (b en : Int) := qW false y R E M n i [(0, true), (1, .row 81 (outR' c k0 n1 a f i2 v to nm e ro rv b en)), (1, .i false)]
theorem qwo (y : Bool) (R E M : List (List D)) (n i w : Nat) (c k0 : Int) (n1 a f i2 v : Nat) (to : Int) (nm : ByteArray) (e : Int) (ro rv : Nat) (b en : Int) : outP ((qV false n (i + 1)).map fun p => p.1) ((qO false y R E M).map fun p => p.1) (qwo_R y R E M n i w c k0 n1 a f i2 v to nm e ro rv b en) = some (.normal, (qV false n (i + 1)).map (fun p => some p.2), (qO false y R E M).map (fun p => some p.2), 4, allB [Nat.blt (Nat.add i 1) 9223372036854775808, not (en != (-1 : Int)), true, Nat.blt i n, true, Nat.blt i n], [(encR (PObj.row (0 + i) (qrO R)), encR (some (outR' c k0 n1 a f i2 v to nm e ro rv b en)))]) := by cases y <;> kernel_rfl
theorem qwo_e (y : Bool) (R E M : List (List D)) (n i w : Nat) (c k0 : Int) (n1 a f i2 v : Nat) (to : Int) (nm : ByteArray) (e : Int) (ro rv : Nat) (b en : Int) : eqL (qwo_R y R E M n i w c k0 n1 a f i2 v to nm e ro rv b en) = eqR (qwo_R y R E M n i w c k0 n1 a f i2 v to nm e ro rv b en) := by cases y <;> kernel_rfl
noncomputable abbrev qws_R (y : Bool) (R E M : List (List D)) (n i w : Nat) (c k0 : Int) (n1 a f i2 v : Nat) (to : Int) (nm : ByteArray) (e : Int) (ro rv : Nat) (b en : Int) := qW false y R E M n i [(0, true), (1, .row 81 (outR' c k0 n1 a f i2 v to nm e ro rv b en)), (1, .i true), (2, .fnd 88 (some (w, .bool true)))]
theorem qws (y : Bool) (R E M : List (List D)) (n i w : Nat) (c k0 : Int) (n1 a f i2 v : Nat) (to : Int) (nm : ByteArray) (e : Int) (ro rv : Nat) (b en : Int) : outP ((qV false n (i + 1)).map fun p => p.1) ((qO false y R E M).map fun p => p.1) (qws_R y R E M n i w c k0 n1 a f i2 v to nm e ro rv b en) = some (.normal, (qV false n (i + 1)).map (fun p => some p.2), (qO false y R E M).map (fun p => some p.2), 4, allB [Nat.blt (Nat.add i 1) 9223372036854775808, true, true, notLoop M, (en != (-1 : Int)), true, Nat.blt i n, true, Nat.blt i n], [(encF (mapFind (.int .i64 (.ofNat i)) M 0), encF (some (some (w, .bool true)))), (encR (PObj.row (0 + i) (qrO R)), encR (some (outR' c k0 n1 a f i2 v to nm e ro rv b en)))]) := by cases y <;> kernel_rfl
theorem qws_e (y : Bool) (R E M : List (List D)) (n i w : Nat) (c k0 : Int) (n1 a f i2 v : Nat) (to : Int) (nm : ByteArray) (e : Int) (ro rv : Nat) (b en : Int) : eqL (qws_R y R E M n i w c k0 n1 a f i2 v to nm e ro rv b en) = eqR (qws_R y R E M n i w c k0 n1 a f i2 v to nm e ro rv b en) := by cases y <;> kernel_rfl
noncomputable abbrev qwn_R (y : Bool) (R E M : List (List D)) (n i w : Nat) (c k0 : Int) (n1 a f i2 v : Nat) (to : Int) (nm : ByteArray) (e : Int) (ro rv : Nat) (b en : Int) := qW false y R E M n i [(0, true), (1, .row 81 (outR' c k0 n1 a f i2 v to nm e ro rv b en)), (1, .i true), (2, .fnd 88 none)]
theorem qwn (y : Bool) (R E M : List (List D)) (n i w : Nat) (c k0 : Int) (n1 a f i2 v : Nat) (to : Int) (nm : ByteArray) (e : Int) (ro rv : Nat) (b en : Int) : outP (qRf.map fun p => p.1) (([] : List (Nat × PObj)).map fun p => p.1) (qwn_R y R E M n i w c k0 n1 a f i2 v to nm e ro rv b en) = some (.ret, qRf.map (fun p => some p.2), ([] : List (Nat × PObj)).map (fun p => some p.2), 4, allB [true, true, notLoop M, (en != (-1 : Int)), true, Nat.blt i n, true, Nat.blt i n], [(encF (mapFind (.int .i64 (.ofNat i)) M 0), encF (some none)), (encR (PObj.row (0 + i) (qrO R)), encR (some (outR' c k0 n1 a f i2 v to nm e ro rv b en)))]) := by cases y <;> kernel_rfl
theorem qwn_e (y : Bool) (R E M : List (List D)) (n i w : Nat) (c k0 : Int) (n1 a f i2 v : Nat) (to : Int) (nm : ByteArray) (e : Int) (ro rv : Nat) (b en : Int) : eqL (qwn_R y R E M n i w c k0 n1 a f i2 v to nm e ro rv b en) = eqR (qwn_R y R E M n i w c k0 n1 a f i2 v to nm e ro rv b en) := by cases y <;> kernel_rfl
noncomputable def qRt : List (Nat × AV) := [(4, .v (.one (.bool true)))]
noncomputable abbrev qpE_R (n : Nat) := (evt Sx 60).code 92 none qE (mkO qRf [] 3) ⟨0, [], [], [], [], []⟩
theorem qpE (n : Nat) : outP (qRt.map fun p => p.1) (([] : List (Nat × PObj)).map fun p => p.1) (qpE_R n) = some (.ret, qRt.map (fun p => some p.2), ([] : List (Nat × PObj)).map (fun p => some p.2), 3, allB [], []) := by kernel_rfl
theorem qpE_e (n : Nat) : eqL (qpE_R n) = eqR (qpE_R n) := by kernel_rfl
end Go.Proofs.YtmhinddneefmbaaGreat.Pe
namespace Go.Proofs.YtmhinddneefmbaaGreat.Pe
open Go
set_option maxRecDepth 100000
def seenR (s : List Nat) : List (List D) := s.map fun k => [.int .i64 (.ofNat k), .bool true]
theorem notLoop_seen (s : List Nat) : notLoop (seenR s) = true := by
  cases s with
  | nil => rfl
  | cons k s => cases s <;> rfl
theorem seen_bare (s : List Nat) : ((seenR s).all fun r => r.all D.bare) = true := by
  rw [List.all_eq_true]
  intro r hr
  obtain ⟨x, _, rfl⟩ := List.mem_map.1 hr
  rfl
theorem keyEq_nat (a b : Nat) : keyEq (.int .i64 (.ofNat a)) (.int .i64 (.ofNat b)) = some (decide (a = b)) := by
  show (if IntKind.i64 = IntKind.i64 then some ((Int.ofNat a) == (Int.ofNat b)) else none) = _
  rw [if_pos rfl]
  by_cases h : a = b
  · subst h; simp
  · have : ¬ (Int.ofNat a) = (Int.ofNat b) := fun e => h (Int.ofNat.inj e)
    simp only [h, decide_false, Option.some.injEq, beq_eq_false_iff_ne, ne_eq]
    exact this
theorem find_in {k : Nat} : ∀ {s : List Nat} (i : Nat), k ∈ s → ∃ w, mapFind (.int .i64 (.ofNat k)) (seenR s) i = some (some (w, .bool true))
  | [], i, h => by cases h
  | x :: s, i, h => by
    show ∃ w, (match keyEq (.int .i64 (.ofNat k)) (.int .i64 (.ofNat x)) with | some true => some (some (i, D.bool true)) | some false => mapFind _ (seenR s) (i + 1) | none => none) = some (some (w, D.bool true))
    rw [keyEq_nat]
    by_cases e : k = x
    · rw [decide_eq_true e]; exact ⟨i, rfl⟩
    · rw [decide_eq_false e]
      exact find_in (i + 1) ((List.mem_cons.1 h).resolve_left e)
theorem find_out {k : Nat} : ∀ {s : List Nat} (i : Nat), k ∉ s → mapFind (.int .i64 (.ofNat k)) (seenR s) i = some none
  | [], i, h => rfl
  | x :: s, i, h => by
    show (match keyEq (.int .i64 (.ofNat k)) (.int .i64 (.ofNat x)) with | some true => some (some (i, D.bool true)) | some false => mapFind _ (seenR s) (i + 1) | none => none) = _
    rw [keyEq_nat, decide_eq_false (fun e => h (by rw [e]; exact List.mem_cons_self))]
    exact find_out (i + 1) fun hm => h (List.mem_cons_of_mem _ hm)
def fitStep (R : List Rec) (p : Option Int) (x : Ev) (s : List Nat) : Option (List Nat) :=
  if (match p with | some p => decide (x.at_ < p) | none => false) = true then none
  else if x.rc ≤ 0 then some s
  else match R[x.rc.toNat - 1]? with
    | none => none
    | some r => if x.rc.toNat - 1 ∈ s then none else if x.at_ < r.b then none else if r.en ≠ -1 ∧ x.at_ > r.en then none else some (s ++ [x.rc.toNat - 1])
def fit1 (R : List Rec) : Option Int → List Ev → List Nat → Option (List Nat)
  | _, [], s => some s
  | p, x :: l, s => match fitStep R p x s with
    | none => none
    | some s' => fit1 R (some x.at_) l s'
def fit2 (s : List Nat) : Nat → List Rec → Bool
  | _, [] => true
  | i, r :: l => if r.en ≠ -1 ∧ i ∉ s then false else fit2 s (i + 1) l
def fitsG (R : List Rec) (E : List Ev) : Bool := match fit1 R none E [] with
  | none => false
  | some s => fit2 s 0 R
theorem qO_ok (z y : Bool) {R E M : List (List D)} (hR : (R.all fun r => r.all D.bare) = true) (hE : (E.all fun r => r.all D.bare) = true) (hN : notLoop M = true) (hM : (M.all fun r => r.all D.bare) = true) : OsOk 3 [] (qO z y R E M) (qO z y R E M) := by
  cases z <;> cases y
  · exact ⟨rfl, by decide, .map hN hM, rfl, by decide, .bare (by decide) hE, rfl, by decide, .bare (by decide) hR, trivial⟩
  · exact ⟨rfl, by decide, .map hN hM, rfl, by decide, .bare (by decide) hR, trivial⟩
  · exact ⟨rfl, by decide, .map hN hM, rfl, by decide, .bare (by decide) hE, trivial⟩
  · exact ⟨rfl, by decide, .map hN hM, trivial⟩
theorem outP_Q {k : Nat} {c : Code} {s : St} {T : TL} {ex : Ex} {l : List (Nat × AV)} {o1 : List (Nat × PObj)} {nx : Nat} {b : Bool} {hs : List (AV × AV)}
    (h : outP (l.map fun p => p.1) (o1.map fun p => p.1) ((evt Sx k).code 92 none c s T) = some (ex, l.map (fun p => some p.2), o1.map (fun p => some p.2), nx, b, hs)) (he : eqL ((evt Sx k).code 92 none c s T) = eqR ((evt Sx k).code 92 none c s T)) (hb : b = true) (hh : ∀ p ∈ hs, p.1 = p.2)
    (hl : smallS l = true) (ho : smallO o1 = true) (hle : 3 ≤ nx) (hin : l.all (fun p => p.2.inP (kp 3 [])) = true) (hren : renL 3 [] l = l) (hos : OsOk 3 [] o1 o1) : CodeW 3 Tryz.prog 92 none c s ex (mkO l o1 3) := by
  have := outP_W (n0 := 3) (olds := []) (o2 := o1) Sx_ok Sx_pb h he hb hh hl ho hle (fun o ho => by cases ho) (by simp) hin hos
  rw [hren] at this
  exact this
theorem no_hs : ∀ p ∈ ([] : List (AV × AV)), p.1 = p.2 := fun p hp => by cases hp
theorem cons_hs {a b : AV} {l : List (AV × AV)} (h : a = b) (k : ∀ p ∈ l, p.1 = p.2) : ∀ p ∈ (a, b) :: l, p.1 = p.2 := fun p hp => by
  rcases List.mem_cons.1 hp with rfl | hp
  · exact h
  · exact k p hp
theorem row_E {E : List Ev} {j : Nat} (h : j < E.length) : encR (PObj.row (0 + j) (qeO (E.map Ev.out))) = encR (some (rowE E[j].rc E[j].dt E[j].at_)) := by
  show encR ((E.map Ev.out)[0 + j]?) = _
  rw [Nat.zero_add, List.getElem?_map, List.getElem?_eq_getElem h]; rfl
theorem row_R {R : List Rec} {j : Nat} (h : j < R.length) : encR (PObj.row (0 + j) (qrO (R.map Rec.out))) = encR (some (outR' R[j].c R[j].k R[j].n R[j].a R[j].f R[j].i R[j].v R[j].to R[j].nm R[j].e R[j].ro R[j].rv R[j].b R[j].en)) := by
  show encR ((R.map Rec.out)[0 + j]?) = _
  rw [Nat.zero_add, List.getElem?_map, List.getElem?_eq_getElem h]; rfl
noncomputable def qHd (R : List Rec) (E : List Ev) (y : Bool) (j : Nat) (s : List Nat) : St := mkO (qS R.isEmpty y R.length E.length j) (qO R.isEmpty y (R.map Rec.out) (E.map Ev.out) (seenR s)) 3
theorem dT {p : Prop} [Decidable p] (h : p) : decide p = true := decide_eq_true h
theorem dF {p : Prop} [Decidable p] (h : ¬ p) : (not (decide p)) = true := by rw [decide_eq_false h]; rfl
theorem lenR {R : List Rec} : br R.isEmpty 0 R.length = R.length := by cases R <;> rfl
section
variable (R : List Rec) (E : List Ev)
theorem okR (z y : Bool) (s : List Nat) : OsOk 3 [] (qO z y (R.map Rec.out) (E.map Ev.out) (seenR s)) (qO z y (R.map Rec.out) (E.map Ev.out) (seenR s)) := qO_ok z y (rr_allO R) (re_allO E) (notLoop_seen s) (seen_bare s)
theorem qS_in (z y : Bool) (n m j : Nat) : (qS z y n m j).all (fun p => p.2.inP (kp 3 [])) = true ∧ renL 3 [] (qS z y n m j) = qS z y n m j ∧ smallS (qS z y n m j) = true := by cases z <;> cases y <;> exact ⟨rfl, rfl, rfl⟩
theorem qO_small (z y : Bool) (R E M : List (List D)) : smallO (qO z y R E M) = true := by cases z <;> cases y <;> rfl
theorem q_stepA (hb : R.length ≤ 20) (hb2 : E.length ≤ 20) (hj : 0 < E.length) (s : List Nat) : match fitStep R none E[0] s with
    | some s' => CodeW 3 Tryz.prog 92 none qL1 (qHd R E false 0 s) .normal (qHd R E false 1 s')
    | none => CodeW 3 Tryz.prog 92 none qL1 (qHd R E false 0 s) .ret (mkO qRf [] 3) := by
  have nrm : ∀ (z : Bool) (s' : List Nat), (qS z false R.length E.length 1).all (fun p => p.2.inP (kp 3 [])) = true ∧ renL 3 [] (qS z false R.length E.length 1) = qS z false R.length E.length 1 ∧ smallS (qS z false R.length E.length 1) = true ∧ smallO (qO z false (R.map Rec.out) (E.map Ev.out) (seenR s')) = true ∧ OsOk 3 [] (qO z false (R.map Rec.out) (E.map Ev.out) (seenR s')) (qO z false (R.map Rec.out) (E.map Ev.out) (seenR s')) := fun z s' => ⟨(qS_in z false _ _ _).1, (qS_in z false _ _ _).2.1, (qS_in z false _ _ _).2.2, qO_small z false _ _ _, okR R E z false s'⟩
  unfold fitStep
  rw [if_neg (show ¬ (match (none : Option Int) with | some p => decide (E[0].at_ < p) | none => false) = true by simp)]
  by_cases h0 : E[0].rc ≤ 0
  · rw [if_pos h0]
    obtain ⟨n1, n2, n3, n4, n5⟩ := nrm R.isEmpty s
    exact outP_Q (qAs R.isEmpty (R.map Rec.out) (E.map Ev.out) (seenR s) R.length E.length 0 0 0 E[0].rc E[0].dt E[0].at_ 0 0 0 0 0 0 0 0 0 0 0 ⟨#[]⟩ 0 0 0 0 0) (qAs_e R.isEmpty (R.map Rec.out) (E.map Ev.out) (seenR s) R.length E.length 0 0 0 E[0].rc E[0].dt E[0].at_ 0 0 0 0 0 0 0 0 0 0 0 ⟨#[]⟩ 0 0 0 0 0) (allB_of (cons_ok rfl (cons_ok (dT h0) (cons_ok rfl (cons_ok (tb hj) (cons_ok rfl (cons_ok (tb hj) nil_ok))))))) (cons_hs (row_E hj) no_hs) n3 n4 (by omega) n1 n2 n5
  rw [if_neg h0]
  obtain ⟨k, hrc⟩ : ∃ k : Nat, E[0].rc = Int.ofNat (k + 1) := ⟨E[0].rc.toNat - 1, by show _ = ((E[0].rc.toNat - 1 + 1 : Nat) : Int); omega⟩
  have ek : E[0].rc.toNat - 1 = k := by rw [hrc]; rfl
  rw [ek]
  by_cases hk : k < R.length
  rotate_left
  · rw [List.getElem?_eq_none (by omega)]
    exact outP_Q (qAg R.isEmpty (R.map Rec.out) (E.map Ev.out) (seenR s) R.length E.length 0 0 0 E[0].rc E[0].dt E[0].at_ 0 0 0 0 0 0 0 0 0 0 0 ⟨#[]⟩ 0 0 0 0 0) (qAg_e R.isEmpty (R.map Rec.out) (E.map Ev.out) (seenR s) R.length E.length 0 0 0 E[0].rc E[0].dt E[0].at_ 0 0 0 0 0 0 0 0 0 0 0 ⟨#[]⟩ 0 0 0 0 0) (allB_of (cons_ok (dT (by rw [hrc, lenR]; show ((k + 1 : Nat) : Int) > (R.length : Int); omega)) (cons_ok (dF h0) (cons_ok rfl (cons_ok (tb hj) (cons_ok rfl (cons_ok (tb hj) nil_ok))))))) (cons_hs (row_E hj) no_hs) rfl rfl (by omega) rfl rfl trivial
  rw [List.getElem?_eq_getElem hk]
  have hz : R.isEmpty = false := by cases R with
    | nil => simp at hk
    | cons => rfl
  have k1 : Nat.blt (k + 1) 9223372036854775808 = true := tb (by omega)
  have up : ∀ c ∈ (not (decide ((Int.ofNat (k + 1)) > (Int.ofNat R.length)))) :: true :: true :: Nat.blt 0 E.length :: true :: Nat.blt 0 E.length :: [], c = true := cons_ok (dF (by show ¬ ((k + 1 : Nat) : Int) > (R.length : Int); omega)) (cons_ok rfl (cons_ok rfl (cons_ok (tb hj) (cons_ok rfl (cons_ok (tb hj) nil_ok)))))
  unfold qHd
  rw [hz]
  obtain ⟨r, hr⟩ : ∃ r, r = R[k] := ⟨_, rfl⟩
  rw [← hr]
  dsimp only
  have hrow : encR (PObj.row (0 + Nat.sub (k + 1) 1) (qrO (R.map Rec.out))) = encR (some (outR' r.c r.k r.n r.a r.f r.i r.v r.to r.nm r.e r.ro r.rv r.b r.en)) := by rw [hr]; exact row_R hk
  by_cases hs : k ∈ s
  · rw [if_pos hs]
    obtain ⟨w, hw⟩ := find_in (k := k) (s := s) 0 hs
    exact outP_Q (qAf (R.map Rec.out) (E.map Ev.out) (seenR s) R.length E.length 0 w k 0 E[0].dt E[0].at_ 0 0 0 0 0 0 0 0 0 0 0 ⟨#[]⟩ 0 0 0 0 0) (qAf_e (R.map Rec.out) (E.map Ev.out) (seenR s) R.length E.length 0 w k 0 E[0].dt E[0].at_ 0 0 0 0 0 0 0 0 0 0 0 ⟨#[]⟩ 0 0 0 0 0) (allB_of (cons_ok rfl (cons_ok rfl (cons_ok (notLoop_seen s) (cons_ok rfl (cons_ok k1 up)))))) (cons_hs (congrArg encF hw) (cons_hs (by rw [← hrc]; exact row_E hj) no_hs)) rfl rfl (by omega) rfl rfl trivial
  rw [if_neg hs]
  have hno := find_out (k := k) (s := s) 0 hs
  have tail : ∀ c ∈ true :: Nat.blt (Nat.sub (k + 1) 1) R.length :: true :: true :: Nat.blt (k + 1) 9223372036854775808 :: true :: true :: notLoop (seenR s) :: true :: Nat.blt (k + 1) 9223372036854775808 :: (not (decide ((Int.ofNat (k + 1)) > (Int.ofNat R.length)))) :: true :: true :: Nat.blt 0 E.length :: true :: Nat.blt 0 E.length :: [], c = true := cons_ok rfl (cons_ok (tb (show k + 1 - 1 < R.length by omega)) (cons_ok rfl (cons_ok rfl (cons_ok k1 (cons_ok rfl (cons_ok rfl (cons_ok (notLoop_seen s) (cons_ok rfl (cons_ok k1 up)))))))))
  by_cases hbg : E[0].at_ < r.b
  · rw [if_pos hbg]
    exact outP_Q (qAe (R.map Rec.out) (E.map Ev.out) (seenR s) R.length E.length 0 0 k 0 E[0].dt E[0].at_ 0 0 0 r.c r.k r.n r.a r.f r.i r.v r.to r.nm r.e r.ro r.rv r.b r.en) (qAe_e (R.map Rec.out) (E.map Ev.out) (seenR s) R.length E.length 0 0 k 0 E[0].dt E[0].at_ 0 0 0 r.c r.k r.n r.a r.f r.i r.v r.to r.nm r.e r.ro r.rv r.b r.en) (allB_of (cons_ok (dT hbg) tail)) (cons_hs hrow (cons_hs (congrArg encF hno) (cons_hs (by rw [← hrc]; exact row_E hj) no_hs))) rfl rfl (by omega) rfl rfl trivial
  rw [if_neg hbg]
  obtain ⟨n1, n2, n3, n4, n5⟩ := nrm false (s ++ [k])
  have eM : seenR s ++ [[.int .i64 (.ofNat (Nat.sub (k + 1) 1)), .bool true]] = seenR (s ++ [k]) := by unfold seenR; rw [List.map_append]; rfl
  have n4' : smallO (qO false false (R.map Rec.out) (E.map Ev.out) (seenR s ++ [[.int .i64 (.ofNat (Nat.sub (k + 1) 1)), .bool true]])) = true := by rw [eM]; exact n4
  have n5' : OsOk 3 [] (qO false false (R.map Rec.out) (E.map Ev.out) (seenR s ++ [[.int .i64 (.ofNat (Nat.sub (k + 1) 1)), .bool true]])) (qO false false (R.map Rec.out) (E.map Ev.out) (seenR s ++ [[.int .i64 (.ofNat (Nat.sub (k + 1) 1)), .bool true]])) := by rw [eM]; exact n5
  by_cases hen : r.en = -1
  · rw [if_neg (fun h => h.1 hen)]
    have := outP_Q (qAo (R.map Rec.out) (E.map Ev.out) (seenR s) R.length E.length 0 0 k 0 E[0].dt E[0].at_ 0 0 0 r.c r.k r.n r.a r.f r.i r.v r.to r.nm r.e r.ro r.rv r.b r.en) (qAo_e (R.map Rec.out) (E.map Ev.out) (seenR s) R.length E.length 0 0 k 0 E[0].dt E[0].at_ 0 0 0 r.c r.k r.n r.a r.f r.i r.v r.to r.nm r.e r.ro r.rv r.b r.en) (allB_of (cons_ok rfl (cons_ok rfl (cons_ok rfl (cons_ok (notLoop_seen s) (cons_ok rfl (cons_ok k1 (cons_ok (show (not (r.en != -1)) = true by rw [hen]; rfl) (cons_ok (dF hbg) tail))))))))) (cons_hs (congrArg encF hno) (cons_hs hrow (cons_hs (congrArg encF hno) (cons_hs (by rw [← hrc]; exact row_E hj) no_hs)))) n3 n4' (by omega) n1 n2 n5'
    rw [eM] at this
    exact this
  have hen' : (r.en != -1) = true := by simpa using hen
  by_cases hlt : E[0].at_ > r.en
  · rw [if_pos ⟨hen, hlt⟩]
    exact outP_Q (qAl (R.map Rec.out) (E.map Ev.out) (seenR s) R.length E.length 0 0 k 0 E[0].dt E[0].at_ 0 0 0 r.c r.k r.n r.a r.f r.i r.v r.to r.nm r.e r.ro r.rv r.b r.en) (qAl_e (R.map Rec.out) (E.map Ev.out) (seenR s) R.length E.length 0 0 k 0 E[0].dt E[0].at_ 0 0 0 r.c r.k r.n r.a r.f r.i r.v r.to r.nm r.e r.ro r.rv r.b r.en) (allB_of (cons_ok (dT hlt) (cons_ok hen' (cons_ok (dF hbg) tail)))) (cons_hs hrow (cons_hs (congrArg encF hno) (cons_hs (by rw [← hrc]; exact row_E hj) no_hs))) rfl rfl (by omega) rfl rfl trivial
  · rw [if_neg (fun h => hlt h.2)]
    have := outP_Q (qAi (R.map Rec.out) (E.map Ev.out) (seenR s) R.length E.length 0 0 k 0 E[0].dt E[0].at_ 0 0 0 r.c r.k r.n r.a r.f r.i r.v r.to r.nm r.e r.ro r.rv r.b r.en) (qAi_e (R.map Rec.out) (E.map Ev.out) (seenR s) R.length E.length 0 0 k 0 E[0].dt E[0].at_ 0 0 0 r.c r.k r.n r.a r.f r.i r.v r.to r.nm r.e r.ro r.rv r.b r.en) (allB_of (cons_ok rfl (cons_ok rfl (cons_ok rfl (cons_ok (notLoop_seen s) (cons_ok rfl (cons_ok k1 (cons_ok (dF hlt) (cons_ok hen' (cons_ok (dF hbg) tail)))))))))) (cons_hs (congrArg encF hno) (cons_hs hrow (cons_hs (congrArg encF hno) (cons_hs (by rw [← hrc]; exact row_E hj) no_hs)))) n3 n4' (by omega) n1 n2 n5'
    rw [eM] at this
    exact this
theorem q_stepB (hb : R.length ≤ 20) (hb2 : E.length ≤ 20) (j : Nat) (hj : j + 1 < E.length) (s : List Nat) : match fitStep R (some E[j].at_) E[j + 1] s with
    | some s' => CodeW 3 Tryz.prog 92 none qL1 (qHd R E false (j + 1) s) .normal (qHd R E false (j + 1 + 1) s')
    | none => CodeW 3 Tryz.prog 92 none qL1 (qHd R E false (j + 1) s) .ret (mkO qRf [] 3) := by
  have nrm : ∀ (z : Bool) (s' : List Nat), (qS z false R.length E.length (j + 1 + 1)).all (fun p => p.2.inP (kp 3 [])) = true ∧ renL 3 [] (qS z false R.length E.length (j + 1 + 1)) = qS z false R.length E.length (j + 1 + 1) ∧ smallS (qS z false R.length E.length (j + 1 + 1)) = true ∧ smallO (qO z false (R.map Rec.out) (E.map Ev.out) (seenR s')) = true ∧ OsOk 3 [] (qO z false (R.map Rec.out) (E.map Ev.out) (seenR s')) (qO z false (R.map Rec.out) (E.map Ev.out) (seenR s')) := fun z s' => ⟨(qS_in z false _ _ _).1, (qS_in z false _ _ _).2.1, (qS_in z false _ _ _).2.2, qO_small z false _ _ _, okR R E z false s'⟩
  unfold fitStep
  by_cases hv : E[j + 1].at_ < E[j].at_
  · rw [if_pos (show (match some E[j].at_ with | some p => decide (E[j + 1].at_ < p) | none => false) = true from dT hv)]
    exact outP_Q (qBv R.isEmpty (R.map Rec.out) (E.map Ev.out) (seenR s) R.length E.length j 0 0 E[j + 1].rc E[j + 1].dt E[j + 1].at_ E[j].rc E[j].dt E[j].at_ 0 0 0 0 0 0 0 0 ⟨#[]⟩ 0 0 0 0 0) (qBv_e R.isEmpty (R.map Rec.out) (E.map Ev.out) (seenR s) R.length E.length j 0 0 E[j + 1].rc E[j + 1].dt E[j + 1].at_ E[j].rc E[j].dt E[j].at_ 0 0 0 0 0 0 0 0 ⟨#[]⟩ 0 0 0 0 0) (allB_of (cons_ok (dT hv) (cons_ok rfl (cons_ok (tb (show Nat.sub (j + 1) 1 < E.length by show j + 1 - 1 < _; omega)) (cons_ok rfl (cons_ok rfl (cons_ok (tb (show j + 1 < _ by omega)) (cons_ok rfl (cons_ok (tb (show j + 1 < E.length from hj)) (cons_ok rfl (cons_ok (tb (show j + 1 < E.length from hj)) nil_ok))))))))))) (cons_hs (row_E (j := j) (by omega)) (cons_hs (row_E hj) no_hs)) rfl rfl (by omega) rfl rfl trivial
  rw [if_neg (show ¬ (match some E[j].at_ with | some p => decide (E[j + 1].at_ < p) | none => false) = true from by show ¬ decide _ = true; rw [decide_eq_true_eq]; exact hv)]
  by_cases h0 : E[j + 1].rc ≤ 0
  · rw [if_pos h0]
    obtain ⟨n1, n2, n3, n4, n5⟩ := nrm R.isEmpty s
    exact outP_Q (qBs R.isEmpty (R.map Rec.out) (E.map Ev.out) (seenR s) R.length E.length j 0 0 E[j + 1].rc E[j + 1].dt E[j + 1].at_ E[j].rc E[j].dt E[j].at_ 0 0 0 0 0 0 0 0 ⟨#[]⟩ 0 0 0 0 0) (qBs_e R.isEmpty (R.map Rec.out) (E.map Ev.out) (seenR s) R.length E.length j 0 0 E[j + 1].rc E[j + 1].dt E[j + 1].at_ E[j].rc E[j].dt E[j].at_ 0 0 0 0 0 0 0 0 ⟨#[]⟩ 0 0 0 0 0) (allB_of (cons_ok (tb (show j + 1 + 1 < _ by omega)) (cons_ok (dT h0) (cons_ok (dF hv) (cons_ok rfl (cons_ok (tb (show Nat.sub (j + 1) 1 < E.length by show j + 1 - 1 < _; omega)) (cons_ok rfl (cons_ok rfl (cons_ok (tb (show j + 1 < _ by omega)) (cons_ok rfl (cons_ok (tb (show j + 1 < E.length from hj)) (cons_ok rfl (cons_ok (tb (show j + 1 < E.length from hj)) nil_ok))))))))))))) (cons_hs (row_E (j := j) (by omega)) (cons_hs (row_E hj) no_hs)) n3 n4 (by omega) n1 n2 n5
  rw [if_neg h0]
  obtain ⟨k, hrc⟩ : ∃ k : Nat, E[j + 1].rc = Int.ofNat (k + 1) := ⟨E[j + 1].rc.toNat - 1, by show _ = ((E[j + 1].rc.toNat - 1 + 1 : Nat) : Int); omega⟩
  have ek : E[j + 1].rc.toNat - 1 = k := by rw [hrc]; rfl
  rw [ek]
  by_cases hk : k < R.length
  rotate_left
  · rw [List.getElem?_eq_none (by omega)]
    exact outP_Q (qBg R.isEmpty (R.map Rec.out) (E.map Ev.out) (seenR s) R.length E.length j 0 0 E[j + 1].rc E[j + 1].dt E[j + 1].at_ E[j].rc E[j].dt E[j].at_ 0 0 0 0 0 0 0 0 ⟨#[]⟩ 0 0 0 0 0) (qBg_e R.isEmpty (R.map Rec.out) (E.map Ev.out) (seenR s) R.length E.length j 0 0 E[j + 1].rc E[j + 1].dt E[j + 1].at_ E[j].rc E[j].dt E[j].at_ 0 0 0 0 0 0 0 0 ⟨#[]⟩ 0 0 0 0 0) (allB_of (cons_ok (dT (by rw [hrc, lenR]; show ((k + 1 : Nat) : Int) > (R.length : Int); omega)) (cons_ok (dF h0) (cons_ok (dF hv) (cons_ok rfl (cons_ok (tb (show Nat.sub (j + 1) 1 < E.length by show j + 1 - 1 < _; omega)) (cons_ok rfl (cons_ok rfl (cons_ok (tb (show j + 1 < _ by omega)) (cons_ok rfl (cons_ok (tb (show j + 1 < E.length from hj)) (cons_ok rfl (cons_ok (tb (show j + 1 < E.length from hj)) nil_ok))))))))))))) (cons_hs (row_E (j := j) (by omega)) (cons_hs (row_E hj) no_hs)) rfl rfl (by omega) rfl rfl trivial
  rw [List.getElem?_eq_getElem hk]
  have hz : R.isEmpty = false := by cases R with
    | nil => simp at hk
    | cons => rfl
  have k1 : Nat.blt (k + 1) 9223372036854775808 = true := tb (by omega)
  have up : ∀ c ∈ (not (decide ((Int.ofNat (k + 1)) > (Int.ofNat R.length)))) :: true :: (not (decide (E[j + 1].at_ < E[j].at_))) :: true :: Nat.blt (Nat.sub (j + 1) 1) E.length :: true :: true :: Nat.blt (j + 1) 9223372036854775808 :: true :: Nat.blt (j + 1) E.length :: true :: Nat.blt (j + 1) E.length :: [], c = true := cons_ok (dF (by show ¬ ((k + 1 : Nat) : Int) > (R.length : Int); omega)) (cons_ok rfl (cons_ok (dF hv) (cons_ok rfl (cons_ok (tb (show Nat.sub (j + 1) 1 < E.length by show j + 1 - 1 < _; omega)) (cons_ok rfl (cons_ok rfl (cons_ok (tb (show j + 1 < _ by omega)) (cons_ok rfl (cons_ok (tb (show j + 1 < E.length from hj)) (cons_ok rfl (cons_ok (tb (show j + 1 < E.length from hj)) nil_ok)))))))))))
  unfold qHd
  rw [hz]
  obtain ⟨r, hr⟩ : ∃ r, r = R[k] := ⟨_, rfl⟩
  rw [← hr]
  dsimp only
  have hrow : encR (PObj.row (0 + Nat.sub (k + 1) 1) (qrO (R.map Rec.out))) = encR (some (outR' r.c r.k r.n r.a r.f r.i r.v r.to r.nm r.e r.ro r.rv r.b r.en)) := by rw [hr]; exact row_R hk
  by_cases hs : k ∈ s
  · rw [if_pos hs]
    obtain ⟨w, hw⟩ := find_in (k := k) (s := s) 0 hs
    exact outP_Q (qBf (R.map Rec.out) (E.map Ev.out) (seenR s) R.length E.length j w k 0 E[j + 1].dt E[j + 1].at_ E[j].rc E[j].dt E[j].at_ 0 0 0 0 0 0 0 0 ⟨#[]⟩ 0 0 0 0 0) (qBf_e (R.map Rec.out) (E.map Ev.out) (seenR s) R.length E.length j w k 0 E[j + 1].dt E[j + 1].at_ E[j].rc E[j].dt E[j].at_ 0 0 0 0 0 0 0 0 ⟨#[]⟩ 0 0 0 0 0) (allB_of (cons_ok rfl (cons_ok rfl (cons_ok (notLoop_seen s) (cons_ok rfl (cons_ok k1 up)))))) (cons_hs (congrArg encF hw) (cons_hs (row_E (j := j) (by omega)) (cons_hs (by rw [← hrc]; exact row_E hj) no_hs))) rfl rfl (by omega) rfl rfl trivial
  rw [if_neg hs]
  have hno := find_out (k := k) (s := s) 0 hs
  have tail : ∀ c ∈ true :: Nat.blt (Nat.sub (k + 1) 1) R.length :: true :: true :: Nat.blt (k + 1) 9223372036854775808 :: true :: true :: notLoop (seenR s) :: true :: Nat.blt (k + 1) 9223372036854775808 :: (not (decide ((Int.ofNat (k + 1)) > (Int.ofNat R.length)))) :: true :: (not (decide (E[j + 1].at_ < E[j].at_))) :: true :: Nat.blt (Nat.sub (j + 1) 1) E.length :: true :: true :: Nat.blt (j + 1) 9223372036854775808 :: true :: Nat.blt (j + 1) E.length :: true :: Nat.blt (j + 1) E.length :: [], c = true := cons_ok rfl (cons_ok (tb (show k + 1 - 1 < R.length by omega)) (cons_ok rfl (cons_ok rfl (cons_ok k1 (cons_ok rfl (cons_ok rfl (cons_ok (notLoop_seen s) (cons_ok rfl (cons_ok k1 up)))))))))
  by_cases hbg : E[j + 1].at_ < r.b
  · rw [if_pos hbg]
    exact outP_Q (qBe (R.map Rec.out) (E.map Ev.out) (seenR s) R.length E.length j 0 k 0 E[j + 1].dt E[j + 1].at_ E[j].rc E[j].dt E[j].at_ r.c r.k r.n r.a r.f r.i r.v r.to r.nm r.e r.ro r.rv r.b r.en) (qBe_e (R.map Rec.out) (E.map Ev.out) (seenR s) R.length E.length j 0 k 0 E[j + 1].dt E[j + 1].at_ E[j].rc E[j].dt E[j].at_ r.c r.k r.n r.a r.f r.i r.v r.to r.nm r.e r.ro r.rv r.b r.en) (allB_of (cons_ok (dT hbg) tail)) (cons_hs hrow (cons_hs (congrArg encF hno) (cons_hs (row_E (j := j) (by omega)) (cons_hs (by rw [← hrc]; exact row_E hj) no_hs)))) rfl rfl (by omega) rfl rfl trivial
  rw [if_neg hbg]
  obtain ⟨n1, n2, n3, n4, n5⟩ := nrm false (s ++ [k])
  have eM : seenR s ++ [[.int .i64 (.ofNat (Nat.sub (k + 1) 1)), .bool true]] = seenR (s ++ [k]) := by unfold seenR; rw [List.map_append]; rfl
  have n4' : smallO (qO false false (R.map Rec.out) (E.map Ev.out) (seenR s ++ [[.int .i64 (.ofNat (Nat.sub (k + 1) 1)), .bool true]])) = true := by rw [eM]; exact n4
  have n5' : OsOk 3 [] (qO false false (R.map Rec.out) (E.map Ev.out) (seenR s ++ [[.int .i64 (.ofNat (Nat.sub (k + 1) 1)), .bool true]])) (qO false false (R.map Rec.out) (E.map Ev.out) (seenR s ++ [[.int .i64 (.ofNat (Nat.sub (k + 1) 1)), .bool true]])) := by rw [eM]; exact n5
  by_cases hen : r.en = -1
  · rw [if_neg (fun h => h.1 hen)]
    have := outP_Q (qBo (R.map Rec.out) (E.map Ev.out) (seenR s) R.length E.length j 0 k 0 E[j + 1].dt E[j + 1].at_ E[j].rc E[j].dt E[j].at_ r.c r.k r.n r.a r.f r.i r.v r.to r.nm r.e r.ro r.rv r.b r.en) (qBo_e (R.map Rec.out) (E.map Ev.out) (seenR s) R.length E.length j 0 k 0 E[j + 1].dt E[j + 1].at_ E[j].rc E[j].dt E[j].at_ r.c r.k r.n r.a r.f r.i r.v r.to r.nm r.e r.ro r.rv r.b r.en) (allB_of (cons_ok (tb (show j + 1 + 1 < _ by omega)) (cons_ok rfl (cons_ok rfl (cons_ok (notLoop_seen s) (cons_ok rfl (cons_ok k1 (cons_ok (show (not (r.en != -1)) = true by rw [hen]; rfl) (cons_ok (dF hbg) tail))))))))) (cons_hs (congrArg encF hno) (cons_hs hrow (cons_hs (congrArg encF hno) (cons_hs (row_E (j := j) (by omega)) (cons_hs (by rw [← hrc]; exact row_E hj) no_hs))))) n3 n4' (by omega) n1 n2 n5'
    rw [eM] at this
    exact this
  have hen' : (r.en != -1) = true := by simpa using hen
  by_cases hlt : E[j + 1].at_ > r.en
  · rw [if_pos ⟨hen, hlt⟩]
    exact outP_Q (qBl (R.map Rec.out) (E.map Ev.out) (seenR s) R.length E.length j 0 k 0 E[j + 1].dt E[j + 1].at_ E[j].rc E[j].dt E[j].at_ r.c r.k r.n r.a r.f r.i r.v r.to r.nm r.e r.ro r.rv r.b r.en) (qBl_e (R.map Rec.out) (E.map Ev.out) (seenR s) R.length E.length j 0 k 0 E[j + 1].dt E[j + 1].at_ E[j].rc E[j].dt E[j].at_ r.c r.k r.n r.a r.f r.i r.v r.to r.nm r.e r.ro r.rv r.b r.en) (allB_of (cons_ok (dT hlt) (cons_ok hen' (cons_ok (dF hbg) tail)))) (cons_hs hrow (cons_hs (congrArg encF hno) (cons_hs (row_E (j := j) (by omega)) (cons_hs (by rw [← hrc]; exact row_E hj) no_hs)))) rfl rfl (by omega) rfl rfl trivial
  · rw [if_neg (fun h => hlt h.2)]
    have := outP_Q (qBi (R.map Rec.out) (E.map Ev.out) (seenR s) R.length E.length j 0 k 0 E[j + 1].dt E[j + 1].at_ E[j].rc E[j].dt E[j].at_ r.c r.k r.n r.a r.f r.i r.v r.to r.nm r.e r.ro r.rv r.b r.en) (qBi_e (R.map Rec.out) (E.map Ev.out) (seenR s) R.length E.length j 0 k 0 E[j + 1].dt E[j + 1].at_ E[j].rc E[j].dt E[j].at_ r.c r.k r.n r.a r.f r.i r.v r.to r.nm r.e r.ro r.rv r.b r.en) (allB_of (cons_ok (tb (show j + 1 + 1 < _ by omega)) (cons_ok rfl (cons_ok rfl (cons_ok (notLoop_seen s) (cons_ok rfl (cons_ok k1 (cons_ok (dF hlt) (cons_ok hen' (cons_ok (dF hbg) tail)))))))))) (cons_hs (congrArg encF hno) (cons_hs hrow (cons_hs (congrArg encF hno) (cons_hs (row_E (j := j) (by omega)) (cons_hs (by rw [← hrc]; exact row_E hj) no_hs))))) n3 n4' (by omega) n1 n2 n5'
    rw [eM] at this
    exact this
end
end Go.Proofs.YtmhinddneefmbaaGreat.Pe
