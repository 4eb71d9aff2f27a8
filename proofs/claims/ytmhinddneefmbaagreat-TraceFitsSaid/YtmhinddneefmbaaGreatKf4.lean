/- A part of the proof of JdH. -/
import Derived.Test.YtmhinddneefmbaaGreatKf3
set_option linter.unusedSimpArgs false
set_option linter.unusedVariables false
set_option linter.unusedSectionVars false
namespace Go.Proofs.YtmhinddneefmbaaGreat.Pe
open Go
def Gens (E : Env) (U : Nat → Prop) : Prop := ∀ s, AVG U (E s)
def Q.Gen {α : Type} (U : Nat → Prop) : Q α → (α → Prop) → Prop
  | .ret a, R => R a
  | .fail, _ => True
  | .ask _ k, R => ∀ v, AVG U v → (k v).Gen U R
  | .set _ v k, R => AVG U v ∧ k.Gen U R
section
variable {α γ : Type} {U : Nat → Prop}
theorem Q.Gen.run {q : Q α} {R : α → Prop} {E E' : Env} {a : α} (h : q.Gen U R) (hE : Gens E U) (hq : q.run E = some (a, E')) : Gens E' U ∧ R a := by
  induction q generalizing E with
  | ret b => obtain ⟨rfl, rfl⟩ := ret_run hq; exact ⟨hE, h⟩
  | fail => cases hq
  | ask s k ih => exact ih _ (h _ (hE s)) hE hq
  | set s v k ih =>
    refine ih h.2 (fun t => ?_) hq
    unfold upd
    split
    · exact h.1
    · exact hE t
theorem Q.Gen.mono {q : Q α} {R S : α → Prop} (h : q.Gen U R) (hr : ∀ a, R a → S a) : q.Gen U S := by
  induction q with
  | ret b => exact hr _ h
  | fail => trivial
  | ask s k ih => exact fun v hv => ih v (h v hv)
  | set s v k ih => exact ⟨h.1, ih h.2⟩
theorem Q.Gen.bind {q : Q α} {f : α → Q γ} {R : α → Prop} {S : γ → Prop} (h : q.Gen U R) (hf : ∀ a, R a → (f a).Gen U S) : (q.bind f).Gen U S := by
  induction q with
  | ret b => exact hf _ h
  | fail => trivial
  | ask s k ih => exact fun v hv => ih v (h v hv)
  | set s v k ih => exact ⟨h.1, ih h.2⟩
theorem ofOpt_gen (o : Option α) : (ofOpt o).Gen U (fun _ => True) := by cases o <;> trivial
theorem noref {E : Env} {d g : Nat} (h : Gens E U) (hg : ¬ U g) : NoRef E d g := by
  intro s
  have := h s
  cases hE : E s <;> simp only [hE, AVG] at this ⊢ <;> (rintro ⟨_, rfl⟩; exact hg this)
def PlG (U : Nat → Prop) : Pl → Prop
  | .loc _ g _ | .oloc _ g _ _ => U g
  | _ => True
theorem data_gen (t : Nat) : (data t).Gen U (fun _ => True) := by
  intro v hv
  cases v with
  | v a => trivial
  | own g e sz rows => exact ⟨trivial, trivial⟩
  | vw s g =>
    intro u hu
    cases u with
    | own g' e sz rows =>
      show (if g = g' then _ else _ : Q AD).Gen U _
      split
      · exact ⟨trivial, trivial, trivial⟩
      · trivial
    | _ => trivial
  | _ => trivial
theorem opd_gen (x : Operand) : (opd x).Gen U (fun _ => True) := by
  cases x with
  | tmp t => exact data_gen t
  | const v => simp only [opd]; split <;> trivial
  | _ => trivial
theorem opds_gen (l : List Operand) : (opds l).Gen U (fun _ => True) := by
  induction l with
  | nil => trivial
  | cons x l ih => exact (opd_gen x).bind fun _ _ => ih.bind fun _ _ => trivial
theorem parts_gen (l : List (Nat × Operand)) : (parts l).Gen U (fun _ => True) := by
  induction l with
  | nil => trivial
  | cons x l ih => obtain ⟨i, x⟩ := x; exact (opd_gen x).bind fun _ _ => ih.bind fun _ _ => trivial
theorem addr_gen (x : Operand) : (addr x).Gen U (PlG U) := by
  cases x with
  | tmp t =>
    intro v hv
    cases v with
    | v a => cases a with
      | one d => cases d <;> trivial
      | many => trivial
    | loc s g off =>
      intro u hu
      cases u with
      | box g' xs => show (if g = g' then _ else _ : Q Pl).Gen U _; split <;> first | exact hv | trivial
      | _ => trivial
    | oloc s g i off =>
      intro u hu
      cases u with
      | own g' e sz rows => show (if g = g' then _ else _ : Q Pl).Gen U _; split <;> first | exact hv | trivial
      | _ => trivial
    | box g xs => exact hv
    | _ => trivial
  | _ => trivial
theorem rdPl_gen (n : Nat) (p : Pl) : (rdPl n p).Gen U (fun _ => True) := by
  cases p with
  | loc s g off =>
    intro v hv
    cases v with
    | box g' xs => show (if g = g' then _ else _ : Q (List D)).Gen U _; split <;> first | exact ofOpt_gen _ | trivial
    | _ => trivial
  | oloc s g i off =>
    intro v hv
    cases v with
    | own g' e sz rows => show (if g = g' then _ else _ : Q (List D)).Gen U _; split <;> first | exact (ofOpt_gen _).bind fun _ _ => ofOpt_gen _ | trivial
    | _ => trivial
  | imm rows i off => exact (ofOpt_gen _).bind fun _ _ => ofOpt_gen _
  | obj o sz i off =>
    intro v hv
    cases v with
    | heap H nx =>
      refine (ofOpt_gen _).bind fun ob _ => ?_
      show (if ob.esz = sz then _ else _ : Q (List D)).Gen U _
      split <;> first | exact (ofOpt_gen _).bind fun _ _ => ofOpt_gen _ | trivial
    | _ => trivial
theorem wrPl_gen (vs : List D) (p : Pl) (hp : PlG U p) : (wrPl vs p).Gen U (fun _ => True) := by
  cases p with
  | loc s g off =>
    intro v hv
    cases v with
    | box g' xs => show (if _ then _ else _ : Q Unit).Gen U _; split <;> first | exact ⟨hp, trivial⟩ | trivial
    | _ => trivial
  | oloc s g i off =>
    intro v hv
    cases v with
    | own g' e sz rows =>
      show (if g = g' then _ else _ : Q Unit).Gen U _
      split
      · refine (ofOpt_gen _).bind fun r _ => ?_
        split <;> first | exact ⟨hp, trivial⟩ | trivial
      · trivial
    | _ => trivial
  | imm rows i off => trivial
  | obj o sz i off =>
    intro v hv
    cases v with
    | heap H nx =>
      refine (ofOpt_gen _).bind fun ob _ => ?_
      split
      · refine (ofOpt_gen _).bind fun r _ => ?_
        split
        · exact (ofOpt_gen _).bind fun ob' _ => ⟨trivial, trivial⟩
        · trivial
      · trivial
    | _ => trivial
theorem pl_avg {p : Pl} (h : PlG U p) : AVG U p.av := by cases p <;> first | exact h | trivial
theorem pl_shift {p : Pl} {n : Nat} (h : PlG U p) : PlG U (p.shift n) := by cases p <;> first | exact h | trivial
theorem mv_gen (C : Ctx) {g d ty : Nat} {asg : Bool} (hg : U g) (x : Operand) : (mv C g d ty asg x).Gen U (fun _ => True) := by
  cases x with
  | tmp t =>
    intro v hv
    cases v with
    | own g' e sz rows =>
      cases asg
      · exact ⟨hv, trivial⟩
      · exact ⟨trivial, hg, trivial⟩
    | vw s g' =>
      cases asg
      · exact ⟨hv, trivial⟩
      · intro u hu
        cases u with
        | own g2 e sz rows => show (if _ then _ else _ : Q Unit).Gen U _; split <;> first | exact ⟨trivial, hg, trivial⟩ | trivial
        | _ => trivial
    | junk => trivial
    | heap => trivial
    | _ => exact ⟨hv, trivial⟩
  | const v =>
    show (mvC C g d ty asg v).Gen U _
    unfold mvC
    split
    · split
      · split
        · exact ⟨trivial, trivial⟩
        · split
          · exact ⟨hg, trivial⟩
          · exact ⟨trivial, trivial⟩
      · trivial
    · exact (ofOpt_gen _).bind fun _ _ => ⟨trivial, trivial⟩
  | func f => exact ⟨trivial, trivial⟩
  | global => trivial
theorem dstQ_gen (C : Ctx) (o : Oper) {k : Nat → Q Unit} (h : ∀ d, (k d).Gen U (fun _ => True)) : (dstQ o k C).Gen U (fun _ => True) := by
  unfold dstQ
  split
  · split
    · exact h _
    · trivial
  · trivial
theorem setv_gen (d : Nat) {v : AV} (h : AVG U v) : (Q.set d v (.ret ()) : Q Unit).Gen U (fun _ => True) := ⟨h, trivial⟩
theorem rowsOf_gen (a : AD) : (rowsOf a).Gen U (fun _ => True) := by
  unfold rowsOf
  split
  · trivial
  · intro v hv
    cases v with
    | heap H nx =>
      refine (ofOpt_gen _).bind fun ob _ => ?_
      split <;> trivial
    | _ => trivial
  · trivial
theorem optInt_gen (x : Option Operand) : (optInt x).Gen U (fun _ => True) := by
  cases x with
  | none => trivial
  | some x => exact (opd_gen x).bind fun _ _ => (ofOpt_gen _).bind fun _ _ => trivial
theorem lenQ_gen (x : Operand) : (lenQ x).Gen U (fun _ => True) := by
  cases x with
  | tmp t =>
    intro v hv
    cases v with
    | v a => cases a with
      | one d => cases d <;> trivial
      | many => trivial
    | vw s g =>
      intro u hu
      cases u with
      | own g' e sz rows => show (if _ then _ else _ : Q Nat).Gen U _; split <;> trivial
      | _ => trivial
    | _ => trivial
  | _ => trivial
theorem setRV_gen (d : Nat) (r : RV) : (setRV d r).Gen U (fun _ => True) := by cases r <;> exact ⟨trivial, trivial⟩
theorem enterQ_gen (C : Ctx) (d f : Nat) (ads : List AD) : (enterQ C d f ads).Gen U (fun _ => True) := by
  unfold enterQ
  split
  · trivial
  · exact (ofOpt_gen _).bind fun r _ => setRV_gen d r
  · intro v hv
    cases v with
    | heap H nx => exact (ofOpt_gen _).bind fun r _ => ⟨trivial, setRV_gen d _⟩
    | _ => trivial
  · trivial
  · trivial
  · intro v hv
    cases v with
    | heap H nx => exact (ofOpt_gen _).bind fun r _ => setRV_gen d _
    | _ => trivial
theorem mm_gen (d : Nat) (f : D → D → Option D) (l : List Operand) : (mmQ d f l).Gen U (fun _ => True) := by
  unfold mmQ
  split
  · exact (opd_gen _).bind fun _ _ => (opd_gen _).bind fun _ _ => (ofOpt_gen _).bind fun _ _ => (ofOpt_gen _).bind fun _ _ => (ofOpt_gen _).bind fun _ _ => setv_gen d trivial
  · trivial
theorem semOp0_gen (C : Ctx) {i : Nat} (hg : U (i + 1)) (o : Oper) : (semOp0 C i o).Gen U (fun _ => True) := by
  unfold semOp0
  split
  case h_1 => exact dstQ_gen C o fun d => mv_gen C hg _
  case h_2 => exact dstQ_gen C o fun d => mv_gen C hg _
  case h_3 => exact dstQ_gen C o fun d => (opd_gen _).bind fun _ _ => (ofOpt_gen _).bind fun _ _ => (opd_gen _).bind fun _ _ => setv_gen d trivial
  case h_4 => exact dstQ_gen C o fun d => by split <;> first | trivial | exact setv_gen d hg
  case h_5 => exact dstQ_gen C o fun d => (opd_gen _).bind fun a _ => by split <;> first | trivial | exact setv_gen d hg
  case h_6 =>
    refine dstQ_gen C o fun d => (parts_gen _).bind fun ps _ => ?_
    split <;> first | trivial | exact (ofOpt_gen _).bind fun _ _ => setv_gen d trivial
  case h_7 =>
    refine dstQ_gen C o fun d => (parts_gen _).bind fun ps _ => ?_
    split
    · split <;> first | trivial | exact (ofOpt_gen _).bind fun _ _ => setv_gen d hg
    · trivial
  case h_8 =>
    refine dstQ_gen C o fun d => (addr_gen _).bind fun p _ => (rdPl_gen _ _).bind fun cs _ => ?_
    split
    · exact setv_gen d trivial
    · split <;> first | trivial | exact setv_gen d trivial
  case h_9 =>
    split
    · refine (opd_gen _).bind fun a _ => (addr_gen _).bind fun p hp => ?_
      split <;> first | trivial | exact wrPl_gen _ _ hp
    · trivial
  case h_10 => exact dstQ_gen C o fun d => (addr_gen _).bind fun p hp => setv_gen d (pl_avg hp)
  case h_11 => exact dstQ_gen C o fun d => (opd_gen _).bind fun _ _ => (opd_gen _).bind fun _ _ => (ofOpt_gen _).bind fun _ _ => (ofOpt_gen _).bind fun _ _ => (ofOpt_gen _).bind fun _ _ => setv_gen d trivial
  case h_12 => exact dstQ_gen C o fun d => (opd_gen _).bind fun _ _ => (ofOpt_gen _).bind fun _ _ => (ofOpt_gen _).bind fun _ _ => setv_gen d trivial
  case h_13 =>
    refine dstQ_gen C o fun d => (opd_gen _).bind fun _ _ => (ofOpt_gen _).bind fun _ _ => ?_
    split <;> first | trivial | exact setv_gen d trivial
  case h_14 =>
    refine dstQ_gen C o fun d => ?_
    unfold fieldAddrQ
    split
    · split
      · split
        · exact (addr_gen _).bind fun p hp => setv_gen d (pl_avg (pl_shift hp))
        · trivial
      · trivial
    · trivial
  case h_15 =>
    refine dstQ_gen C o fun d => ?_
    unfold indexAddrQ
    refine (opd_gen _).bind fun n _ => (ofOpt_gen _).bind fun n _ => ?_
    split
    · split
      · exact (addr_gen _).bind fun p hp => setv_gen d (pl_avg (pl_shift hp))
      · trivial
    · split
      · intro v hv
        cases v with
        | own g e sz rows => show (if _ then _ else _ : Q Unit).Gen U _; split <;> first | exact setv_gen d hv | trivial
        | vw s g =>
          intro u hu
          cases u with
          | own g' e sz rows => show (if _ then _ else _ : Q Unit).Gen U _; split <;> first | exact setv_gen d hv | trivial
          | _ => trivial
        | v a => cases a with
          | one x => cases x with
            | sl rows =>
              show (if _ then _ else _ : Q Unit).Gen U _
              split
              · refine (ofOpt_gen _).bind fun r _ => ?_
                split <;> first | exact setv_gen d trivial | trivial
              · trivial
            | ref o sz i n => show (if _ then _ else _ : Q Unit).Gen U _; split <;> first | exact setv_gen d trivial | trivial
            | _ => trivial
          | many => trivial
        | _ => trivial
      · trivial
    · trivial
  case h_16 =>
    refine dstQ_gen C o fun d => ?_
    unfold extractQ
    split
    · intro v hv
      cases v with
      | tup l => exact (ofOpt_gen _).bind fun _ _ => setv_gen d trivial
      | _ => trivial
    · trivial
  case h_17 =>
    split
    · refine dstQ_gen C o fun d => ?_
      unfold sliceQ
      refine (opd_gen _).bind fun a _ => (optInt_gen _).bind fun l _ => (optInt_gen _).bind fun h _ => ?_
      split
      · exact (ofOpt_gen _).bind fun _ _ => setv_gen d trivial
      · exact (ofOpt_gen _).bind fun _ _ => setv_gen d trivial
      · split
        · split <;> exact setv_gen d trivial
        · trivial
      · split <;> first | exact setv_gen d trivial | trivial
      · split
        · split <;> exact setv_gen d trivial
        · trivial
      · trivial
    · trivial
  case h_18 =>
    refine dstQ_gen C o fun d => (opd_gen _).bind fun _ _ => (opd_gen _).bind fun _ _ => (ofOpt_gen _).bind fun _ _ => (ofOpt_gen _).bind fun _ _ => ?_
    split
    · split <;> first | exact setv_gen d hg | trivial
    · trivial
  case h_19 =>
    split
    · refine dstQ_gen C o fun d => ?_
      split
      · split
        · exact (lenQ_gen _).bind fun _ _ => setv_gen d trivial
        · refine (opd_gen _).bind fun a _ => ?_
          split <;> first | exact setv_gen d trivial | trivial
        · trivial
      · trivial
    · refine dstQ_gen C o fun d => ?_
      split
      · split
        · unfold appendQ
          refine (opd_gen _).bind fun b _ => (rowsOf_gen _).bind fun ys _ => ?_
          split
          · split
            · split
              · intro v hv
                cases v with
                | own g e sz rows => show (if _ then _ else _ : Q Unit).Gen U _; split <;> first | exact ⟨trivial, hg, trivial⟩ | trivial
                | vw s g =>
                  intro u hu
                  cases u with
                  | own g' e sz rows => show (if _ then _ else _ : Q Unit).Gen U _; split <;> first | exact ⟨trivial, hg, trivial⟩ | trivial
                  | _ => trivial
                | _ => trivial
              · split <;> first | exact setv_gen d hg | trivial
              · trivial
            · trivial
          · trivial
        · trivial
      · trivial
    · exact dstQ_gen C o fun d => mm_gen d _ _
    · exact dstQ_gen C o fun d => mm_gen d _ _
    · refine dstQ_gen C o fun d => ?_
      unfold callQ
      refine (opds_gen _).bind fun ads _ => ?_
      split
      · exact (ofOpt_gen _).bind fun r _ => ⟨hg, trivial⟩
      · intro v hv
        cases v with
        | heap H nx => exact (ofOpt_gen _).bind fun r _ => setRV_gen d _
        | _ => trivial
      · exact enterQ_gen C d _ ads
    · trivial
  case h_20 => trivial
theorem pubQ_gen (d : Nat) : (pubQ d).Gen U (fun _ => True) := by
  intro v hv
  cases v with
  | own g e sz rows =>
    show (if rows = [] then _ else _ : Q Unit).Gen U _
    split
    · trivial
    · intro u _
      cases u with
      | heap H nx => exact ⟨trivial, trivial, trivial⟩
      | _ => trivial
  | vw s g =>
    intro u _
    cases u with
    | own g' e sz rows =>
      show (if rows = [] then _ else _ : Q Unit).Gen U _
      split
      · trivial
      · split
        · intro u _
          cases u with
          | heap H nx => exact ⟨trivial, trivial, trivial, trivial⟩
          | _ => trivial
        · trivial
    | _ => trivial
  | box g xs =>
    intro u _
    cases u with
    | heap H nx => exact ⟨trivial, trivial, trivial⟩
    | _ => trivial
  | _ => trivial
theorem appendNilQ_gen (C : Ctx) {g : Nat} (hg : U g) (d t : Nat) (y : Operand) : (appendNilQ C g d t y).Gen U (fun _ => True) := by
  unfold appendNilQ
  refine (opd_gen _).bind fun b _ => (rowsOf_gen _).bind fun ys _ => ?_
  split
  · split
    · split
      · exact ⟨hg, trivial⟩
      · split
        · exact ⟨trivial, trivial⟩
        · trivial
    · trivial
  · trivial
theorem appendRefQ_gen (C : Ctx) (d t : Nat) (x y : Operand) : (appendRefQ C d t x y).Gen U (fun _ => True) := by
  unfold appendRefQ
  refine (opd_gen _).bind fun b _ => (rowsOf_gen _).bind fun ys _ => ?_
  split
  · split
    · refine (opd_gen _).bind fun a _ => ?_
      split
      · split
        · exact ⟨trivial, trivial⟩
        · intro u _
          cases u with
          | heap H nx =>
            refine (ofOpt_gen _).bind fun ob _ => ?_
            split <;> first | trivial | exact ⟨trivial, trivial, trivial⟩
          | _ => trivial
      · trivial
    · trivial
  · trivial
theorem copyQ_gen (C : Ctx) (d t : Nat) (x y : Operand) : (copyQ C d t x y).Gen U (fun _ => True) := by
  unfold copyQ
  refine (opd_gen _).bind fun b _ => (rowsOf_gen _).bind fun ys _ => ?_
  split
  · split
    · refine (opd_gen _).bind fun a _ => ?_
      split
      · exact setv_gen d trivial
      · intro u _
        cases u with
        | heap H nx =>
          refine (ofOpt_gen _).bind fun ob _ => ?_
          split <;> first | trivial | exact ⟨trivial, trivial, trivial⟩
        | _ => trivial
      · trivial
    · trivial
  · trivial
theorem eqZQ_gen (k : Option EK) (d : Nat) (op : BinOp) (x y : Operand) : (eqZQ k d op x y).Gen U (fun _ => True) := by
  unfold eqZQ
  refine (opd_gen _).bind fun a _ => (opd_gen _).bind fun b _ => (ofOpt_gen _).bind fun r _ => ?_
  split <;> first | exact setv_gen d trivial | trivial
theorem eqQ_gen (n d : Nat) (op : BinOp) (x y : Operand) : (eqQ n d op x y).Gen U (fun _ => True) := by
  unfold eqQ
  refine (opd_gen _).bind fun a _ => (opd_gen _).bind fun b _ => (ofOpt_gen _).bind fun r _ => ?_
  split <;> first | exact setv_gen d trivial | trivial
theorem callVQ_gen (C : Ctx) (d t : Nat) (l : List Operand) : (callVQ C d t l).Gen U (fun _ => True) := by
  unfold callVQ
  refine (data_gen _).bind fun a _ => (opds_gen _).bind fun ads _ => ?_
  split <;> first | exact enterQ_gen C d _ _ | trivial
theorem mapRows_gen (o : Nat) : (mapRows o).Gen U (fun _ => True) := by
  intro v _
  cases v with
  | heap H nx =>
    refine (ofOpt_gen _).bind fun ob _ => ?_
    split <;> trivial
  | _ => trivial
theorem lookupQ_gen (C : Ctx) (d t : Nat) (x y : Operand) (b : Bool) : (lookupQ C d t x y b).Gen U (fun _ => True) := by
  unfold lookupQ
  refine (opd_gen _).bind fun a _ => (opd_gen _).bind fun ads _ => ?_
  split
  · split
    · refine (mapRows_gen _).bind fun r _ => (ofOpt_gen _).bind fun f _ => ?_
      split <;> exact setRV_gen d _
    · trivial
  · trivial
theorem updateQ_gen (C : Ctx) (t : Nat) (x y z : Operand) : (updateQ C t x y z).Gen U (fun _ => True) := by
  unfold updateQ
  refine (opd_gen _).bind fun a _ => (opd_gen _).bind fun ads _ => (opd_gen _).bind fun ads _ => ?_
  split
  · split
    · exact (mapRows_gen _).bind fun r _ => (ofOpt_gen _).bind fun f _ => ⟨trivial, trivial⟩
    · trivial
  · trivial
theorem deleteQ_gen (C : Ctx) (t : Nat) (x y : Operand) : (deleteQ C t x y).Gen U (fun _ => True) := by
  unfold deleteQ
  refine (opd_gen _).bind fun a _ => (opd_gen _).bind fun ads _ => ?_
  split
  · split
    · exact (mapRows_gen _).bind fun r _ => (ofOpt_gen _).bind fun f _ => ⟨trivial, trivial⟩
    · trivial
  · trivial
theorem bytesQ_gen (C : Ctx) (d t : Nat) (x : Operand) : (bytesQ C d t x).Gen U (fun _ => True) := by
  unfold bytesQ
  refine (opd_gen _).bind fun a _ => ?_
  split
  · split
    · exact setv_gen d trivial
    · trivial
  · trivial
theorem strQ_gen (C : Ctx) (d t : Nat) (x : Operand) : (strQ C d t x).Gen U (fun _ => True) := by
  unfold strQ
  refine (opd_gen _).bind fun a _ => (rowsOf_gen _).bind fun ys _ => ?_
  split
  · split
    · split
      · exact (ofOpt_gen _).bind fun xs _ => setv_gen d trivial
      · trivial
    · trivial
  · trivial
theorem strAtQ_gen (C : Ctx) (d t : Nat) (x y : Operand) : (strAtQ C d t x y).Gen U (fun _ => True) := by
  unfold strAtQ
  refine (opd_gen _).bind fun a _ => (opd_gen _).bind fun n _ => (ofOpt_gen _).bind fun n _ => ?_
  split
  · split
    · refine (ofOpt_gen _).bind fun r _ => ?_
      split <;> first | exact setv_gen d trivial | trivial
    · trivial
  · split
    · exact (ofOpt_gen _).bind fun b _ => setv_gen d trivial
    · trivial
  · trivial
theorem nilQ_gen (d : Nat) (op : BinOp) (x : Operand) : (nilQ d op x).Gen U (fun _ => True) := by
  unfold nilQ
  refine (ofOpt_gen _).bind fun r _ => (opd_gen _).bind fun a _ => ?_
  split <;> first | exact setv_gen d trivial | trivial
theorem capQ_gen (d : Nat) (x : Operand) : (capQ d x).Gen U (fun _ => True) := by
  unfold capQ
  refine (opd_gen _).bind fun a _ => ?_
  split <;> first | exact setv_gen d trivial | trivial
theorem clearQ_gen (x : Operand) : (clearQ x).Gen U (fun _ => True) := by
  unfold clearQ
  refine (opd_gen _).bind fun a _ => ?_
  split <;> trivial
theorem trimQ_gen (x o n sz : Nat) : (trimQ x o n sz).Gen U (fun _ => True) := by
  intro u _
  cases u with
  | heap H nx =>
    refine (ofOpt_gen _).bind fun ob _ => ?_
    split <;> first | trivial | exact ⟨trivial, trivial, trivial⟩
  | _ => trivial
theorem appendZQ_gen (C : Ctx) (d t o sz i n c : Nat) (y : Operand) : (appendZQ C d t o sz i n c y).Gen U (fun _ => True) := by
  unfold appendZQ
  refine (opd_gen _).bind fun b _ => (ofOpt_gen _).bind fun k _ => ?_
  split
  · intro u _
    cases u with
    | heap H nx =>
      refine (ofOpt_gen _).bind fun ob _ => ?_
      split <;> first | trivial | exact ⟨trivial, trivial, trivial⟩
    | _ => trivial
  · trivial
theorem semOp1_gen (C : Ctx) {i : Nat} (hg : U (i + 1)) (o : Oper) : (semOp1 C i o).Gen U (fun _ => True) := by
  have h0 := semOp0_gen (U := U) C hg o
  unfold semOp1
  split
  · split
    · exact dstQ_gen C o fun d => bytesQ_gen C d _ _
    · split
      · exact dstQ_gen C o fun d => strQ_gen C d _ _
      · exact h0
  · exact dstQ_gen C o fun d => strAtQ_gen C d _ _ _
  · split
    · exact dstQ_gen C o fun d => eqZQ_gen _ d _ _ _
    split
    · exact dstQ_gen C o fun d => eqQ_gen _ d _ _ _
    · split
      · exact dstQ_gen C o fun d => nilQ_gen d _ _
      · exact h0
  · split
    · refine dstQ_gen C o fun d => ?_
      split
      · split <;> first | exact copyQ_gen C d _ _ _ | trivial
      · trivial
    · refine dstQ_gen C o fun d => ?_
      split
      · split
        · refine (opd_gen _).bind fun a _ => ?_
          split
          · exact (mapRows_gen _).bind fun r _ => setv_gen d trivial
          · trivial
        · exact h0
      · trivial
    · refine dstQ_gen C o fun d => ?_
      split
      · split <;> first | exact capQ_gen d _ | trivial
      · trivial
    · split
      · split
        · split <;> first | exact clearQ_gen _ | trivial
        · trivial
      · trivial
    · split
      · split <;> first | exact deleteQ_gen C _ _ _ | trivial
      · trivial
    · refine dstQ_gen C o fun d => ?_
      split
      · intro v hv
        cases v with
        | v a => cases a with
          | one x => cases x with
            | ref o' sz i n => show (if _ then _ else _ : Q Unit).Gen U _; split <;> first | exact appendRefQ_gen C d _ _ _ | trivial
            | nils => show (if _ then _ else _ : Q Unit).Gen U _; split <;> first | exact appendNilQ_gen C hg d _ _ | trivial
            | refc o' sz i n c =>
              show (if _ then _ else _ : Q Unit).Gen U _
              split
              · split
                · exact (trimQ_gen _ _ _ _).bind fun _ _ => appendRefQ_gen C d _ _ _
                · trivial
              · split
                · exact appendZQ_gen C d _ _ _ _ _ _ _
                · trivial
            | _ => exact h0
          | many => exact h0
        | _ => exact h0
      · exact h0
    · exact dstQ_gen C o fun d => callVQ_gen C d _ _
    · exact h0
  · refine dstQ_gen C o fun d => ?_
    split
    · exact (opds_gen _).bind fun ads _ => (ofOpt_gen _).bind fun ds _ => setv_gen d trivial
    · trivial
  · split
    · refine dstQ_gen C o fun d => ?_
      split
      · intro v _
        cases v with
        | heap H nx => exact ⟨trivial, trivial, trivial⟩
        | _ => trivial
      · trivial
    · trivial
  · exact dstQ_gen C o fun d => lookupQ_gen C d _ _ _ _
  · split
    · exact updateQ_gen C _ _ _ _
    · trivial
  · split
    · exact updateQ_gen C _ _ _ _
    · trivial
  · exact h0
theorem uniQ_gen (d : Nat) : (uniQ d).Gen U (fun _ => True) := by
  intro v hv
  cases v with
  | own g e sz rows => cases rows <;> first | exact ⟨trivial, trivial⟩ | trivial
  | _ => trivial
theorem preQ_gen (C : Ctx) (o : Op) : (preQ C o).Gen U (fun _ => True) := by
  unfold preQ
  split
  · split
    · exact pubQ_gen _
    · trivial
  · trivial
theorem semOp_gen (C : Ctx) {i : Nat} (hg : U (i + 1)) (o : Oper) : (semOp C i o).Gen U (fun _ => True) := by
  unfold semOp
  refine (preQ_gen C o.op).bind fun _ _ => ?_
  refine (semOp1_gen C hg o).bind fun _ _ => ?_
  split
  · split
    · refine (pubQ_gen _).bind fun _ _ => ?_
      split
      · exact uniQ_gen _
      · trivial
    · trivial
  · trivial
end
end Go.Proofs.YtmhinddneefmbaaGreat.Pe
