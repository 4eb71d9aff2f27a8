/- A part of the proof of PmD. -/
import Derived.Test.YtdapdiaklpcmjaaGreatCb2
set_option linter.unusedSimpArgs false
set_option linter.unusedVariables false
set_option linter.unusedSectionVars false
namespace Go.Proofs.YtdapdiaklpcmjaaGreat.Pe
open Go
def Gens (E : Env) (U : Nat → Prop) : Prop := ∀ s, AVG U (E s)
def Q.Gen {α : Type} (U : Nat → Prop) : Q α → (α → Prop) → Prop
  | .ret a, R => R a
  | .fail, _ => True
  | .ask _ k, R => ∀ v, AVG U v → (k v).Gen U R
  | .set _ v k, R => AVG U v ∧ k.Gen U R
section
variable {α γ : Type} {U : Nat → Prop}
theorem Q.Gen.run {q : Q α} {R : α → Prop} {E E' : Env} {a : α} (h : q.Gen U R) (hE : Gens E U) (hq : q.run E = some (a, E')) : Gens E' U ∧ R a := by
  induction q generalizing E with
  | ret b => obtain ⟨rfl, rfl⟩ := ret_run hq; exact ⟨hE, h⟩
  | fail => cases hq
  | ask s k ih => exact ih _ (h _ (hE s)) hE hq
  | set s v k ih =>
    refine ih h.2 (fun t => ?_) hq
    unfold upd
    split
    · exact h.1
    · exact hE t
theorem Q.Gen.mono {q : Q α} {R S : α → Prop} (h : q.Gen U R) (hr : ∀ a, R a → S a) : q.Gen U S := by
  induction q with
  | ret b => exact hr _ h
  | fail => trivial
  | ask s k ih => exact fun v hv => ih v (h v hv)
  | set s v k ih => exact ⟨h.1, ih h.2⟩
theorem Q.Gen.bind {q : Q α} {f : α → Q γ} {R : α → Prop} {S : γ → Prop} (h : q.Gen U R) (hf : ∀ a, R a → (f a).Gen U S) : (q.bind f).Gen U S := by
  induction q with
  | ret b => exact hf _ h
  | fail => trivial
  | ask s k ih => exact fun v hv => ih v (h v hv)
  | set s v k ih => exact ⟨h.1, ih h.2⟩
theorem ofOpt_gen (o : Option α) : (ofOpt o).Gen U (fun _ => True) := by cases o <;> trivial
theorem noref {E : Env} {d g : Nat} (h : Gens E U) (hg : ¬ U g) : NoRef E d g := by
  intro s
  have := h s
  cases hE : E s <;> simp only [hE, AVG] at this ⊢ <;> (rintro ⟨_, rfl⟩; exact hg this)
def PlG (U : Nat → Prop) : Pl → Prop
  | .loc _ g _ | .oloc _ g _ _ => U g
  | _ => True
theorem data_gen (t : Nat) : (data t).Gen U (fun _ => True) := by
  intro v hv
  cases v with
  | v a => trivial
  | own g e sz rows => exact ⟨trivial, trivial⟩
  | vw s g =>
    intro u hu
    cases u with
    | own g' e sz rows =>
      show (if g = g' then _ else _ : Q AD).Gen U _
      split
      · exact ⟨trivial, trivial, trivial⟩
      · trivial
    | _ => trivial
  | _ => trivial
theorem opd_gen (x : Operand) : (opd x).Gen U (fun _ => True) := by
  cases x with
  | tmp t => exact data_gen t
  | const v => simp only [opd]; split <;> trivial
  | _ => trivial
theorem opds_gen (l : List Operand) : (opds l).Gen U (fun _ => True) := by
  induction l with
  | nil => trivial
  | cons x l ih => exact (opd_gen x).bind fun _ _ => ih.bind fun _ _ => trivial
theorem parts_gen (l : List (Nat × Operand)) : (parts l).Gen U (fun _ => True) := by
  induction l with
  | nil => trivial
  | cons x l ih => obtain ⟨i, x⟩ := x; exact (opd_gen x).bind fun _ _ => ih.bind fun _ _ => trivial
theorem addr_gen (x : Operand) : (addr x).Gen U (PlG U) := by
  cases x with
  | tmp t =>
    intro v hv
    cases v with
    | v a => cases a with
      | one d => cases d <;> trivial
      | many => trivial
    | loc s g off =>
      intro u hu
      cases u with
      | box g' xs => show (if g = g' then _ else _ : Q Pl).Gen U _; split <;> first | exact hv | trivial
      | _ => trivial
    | oloc s g i off =>
      intro u hu
      cases u with
      | own g' e sz rows => show (if g = g' then _ else _ : Q Pl).Gen U _; split <;> first | exact hv | trivial
      | _ => trivial
    | box g xs => exact hv
    | _ => trivial
  | _ => trivial
theorem rdPl_gen (n : Nat) (p : Pl) : (rdPl n p).Gen U (fun _ => True) := by
  cases p with
  | loc s g off =>
    intro v hv
    cases v with
    | box g' xs => show (if g = g' then _ else _ : Q (List D)).Gen U _; split <;> first | exact ofOpt_gen _ | trivial
    | _ => trivial
  | oloc s g i off =>
    intro v hv
    cases v with
    | own g' e sz rows => show (if g = g' then _ else _ : Q (List D)).Gen U _; split <;> first | exact (ofOpt_gen _).bind fun _ _ => ofOpt_gen _ | trivial
    | _ => trivial
  | imm rows i off => exact (ofOpt_gen _).bind fun _ _ => ofOpt_gen _
  | obj o sz i off =>
    intro v hv
    cases v with
    | heap H nx =>
      refine (ofOpt_gen _).bind fun ob _ => ?_
      show (if ob.esz = sz then _ else _ : Q (List D)).Gen U _
      split <;> first | exact (ofOpt_gen _).bind fun _ _ => ofOpt_gen _ | trivial
    | _ => trivial
theorem wrPl_gen (vs : List D) (p : Pl) (hp : PlG U p) : (wrPl vs p).Gen U (fun _ => True) := by
  cases p with
  | loc s g off =>
    intro v hv
    cases v with
    | box g' xs => show (if _ then _ else _ : Q Unit).Gen U _; split <;> first | exact ⟨hp, trivial⟩ | trivial
    | _ => trivial
  | oloc s g i off =>
    intro v hv
    cases v with
    | own g' e sz rows =>
      show (if g = g' then _ else _ : Q Unit).Gen U _
      split
      · refine (ofOpt_gen _).bind fun r _ => ?_
        split <;> first | exact ⟨hp, trivial⟩ | trivial
      · trivial
    | _ => trivial
  | imm rows i off => trivial
  | obj o sz i off =>
    intro v hv
    cases v with
    | heap H nx =>
      refine (ofOpt_gen _).bind fun ob _ => ?_
      split
      · refine (ofOpt_gen _).bind fun r _ => ?_
        split
        · exact (ofOpt_gen _).bind fun ob' _ => ⟨trivial, trivial⟩
        · trivial
      · trivial
    | _ => trivial
theorem pl_avg {p : Pl} (h : PlG U p) : AVG U p.av := by cases p <;> first | exact h | trivial
theorem pl_shift {p : Pl} {n : Nat} (h : PlG U p) : PlG U (p.shift n) := by cases p <;> first | exact h | trivial
theorem mv_gen (C : Ctx) {g d ty : Nat} {asg : Bool} (hg : U g) (x : Operand) : (mv C g d ty asg x).Gen U (fun _ => True) := by
  cases x with
  | tmp t =>
    intro v hv
    cases v with
    | own g' e sz rows =>
      cases asg
      · exact ⟨hv, trivial⟩
      · exact ⟨trivial, hg, trivial⟩
    | vw s g' =>
      cases asg
      · exact ⟨hv, trivial⟩
      · intro u hu
        cases u with
        | own g2 e sz rows => show (if _ then _ else _ : Q Unit).Gen U _; split <;> first | exact ⟨trivial, hg, trivial⟩ | trivial
        | _ => trivial
    | junk => trivial
    | heap => trivial
    | _ => exact ⟨hv, trivial⟩
  | const v =>
    show (mvC C g d ty asg v).Gen U _
    unfold mvC
    split
    · split
      · split
        · exact ⟨trivial, trivial⟩
        · split
          · exact ⟨hg, trivial⟩
          · exact ⟨trivial, trivial⟩
      · trivial
    · exact (ofOpt_gen _).bind fun _ _ => ⟨trivial, trivial⟩
  | func f => exact ⟨trivial, trivial⟩
  | global => trivial
theorem dstQ_gen (C : Ctx) (o : Oper) {k : Nat → Q Unit} (h : ∀ d, (k d).Gen U (fun _ => True)) : (dstQ o k C).Gen U (fun _ => True) := by
  unfold dstQ
  split
  · split
    · exact h _
    · trivial
  · trivial
theorem setv_gen (d : Nat) {v : AV} (h : AVG U v) : (Q.set d v (.ret ()) : Q Unit).Gen U (fun _ => True) := ⟨h, trivial⟩
theorem rowsOf_gen (a : AD) : (rowsOf a).Gen U (fun _ => True) := by
  unfold rowsOf
  split
  · trivial
  · intro v hv
    cases v with
    | heap H nx =>
      refine (ofOpt_gen _).bind fun ob _ => ?_
      split <;> trivial
    | _ => trivial
  · trivial
theorem optInt_gen (x : Option Operand) : (optInt x).Gen U (fun _ => True) := by
  cases x with
  | none => trivial
  | some x => exact (opd_gen x).bind fun _ _ => (ofOpt_gen _).bind fun _ _ => trivial
theorem lenQ_gen (x : Operand) : (lenQ x).Gen U (fun _ => True) := by
  cases x with
  | tmp t =>
    intro v hv
    cases v with
    | v a => cases a with
      | one d => cases d <;> trivial
      | many => trivial
    | vw s g =>
      intro u hu
      cases u with
      | own g' e sz rows => show (if _ then _ else _ : Q Nat).Gen U _; split <;> trivial
      | _ => trivial
    | _ => trivial
  | _ => trivial
theorem setRV_gen (d : Nat) (r : RV) : (setRV d r).Gen U (fun _ => True) := by cases r <;> exact ⟨trivial, trivial⟩
theorem enterQ_gen (C : Ctx) (d f : Nat) (ads : List AD) : (enterQ C d f ads).Gen U (fun _ => True) := by
  unfold enterQ
  split
  · trivial
  · exact (ofOpt_gen _).bind fun r _ => setRV_gen d r
  · intro v hv
    cases v with
    | heap H nx => exact (ofOpt_gen _).bind fun r _ => ⟨trivial, setRV_gen d _⟩
    | _ => trivial
  · trivial
  · trivial
  · intro v hv
    cases v with
    | heap H nx => exact (ofOpt_gen _).bind fun r _ => setRV_gen d _
    | _ => trivial
theorem mm_gen (d : Nat) (f : D → D → Option D) (l : List Operand) : (mmQ d f l).Gen U (fun _ => True) := by
  unfold mmQ
  split
  · exact (opd_gen _).bind fun _ _ => (opd_gen _).bind fun _ _ => (ofOpt_gen _).bind fun _ _ => (ofOpt_gen _).bind fun _ _ => (ofOpt_gen _).bind fun _ _ => setv_gen d trivial
  · trivial
theorem semOp0_gen (C : Ctx) {i : Nat} (hg : U (i + 1)) (o : Oper) : (semOp0 C i o).Gen U (fun _ => True) := by
  unfold semOp0
  split
  case h_1 => exact dstQ_gen C o fun d => mv_gen C hg _
  case h_2 => exact dstQ_gen C o fun d => mv_gen C hg _
  case h_3 => exact dstQ_gen C o fun d => (opd_gen _).bind fun _ _ => (ofOpt_gen _).bind fun _ _ => (opd_gen _).bind fun _ _ => setv_gen d trivial
  case h_4 => exact dstQ_gen C o fun d => by split <;> first | trivial | exact setv_gen d hg
  case h_5 => exact dstQ_gen C o fun d => (opd_gen _).bind fun a _ => by split <;> first | trivial | exact setv_gen d hg
  case h_6 =>
    refine dstQ_gen C o fun d => (parts_gen _).bind fun ps _ => ?_
    split <;> first | trivial | exact (ofOpt_gen _).bind fun _ _ => setv_gen d trivial
  case h_7 =>
    refine dstQ_gen C o fun d => (parts_gen _).bind fun ps _ => ?_
    split
    · split <;> first | trivial | exact (ofOpt_gen _).bind fun _ _ => setv_gen d hg
    · trivial
  case h_8 =>
    refine dstQ_gen C o fun d => (addr_gen _).bind fun p _ => (rdPl_gen _ _).bind fun cs _ => ?_
    split
    · exact setv_gen d trivial
    · split <;> first | trivial | exact setv_gen d trivial
  case h_9 =>
    split
    · refine (opd_gen _).bind fun a _ => (addr_gen _).bind fun p hp => ?_
      split <;> first | trivial | exact wrPl_gen _ _ hp
    · trivial
  case h_10 => exact dstQ_gen C o fun d => (addr_gen _).bind fun p hp => setv_gen d (pl_avg hp)
  case h_11 => exact dstQ_gen C o fun d => (opd_gen _).bind fun _ _ => (opd_gen _).bind fun _ _ => (ofOpt_gen _).bind fun _ _ => (ofOpt_gen _).bind fun _ _ => (ofOpt_gen _).bind fun _ _ => setv_gen d trivial
  case h_12 => exact dstQ_gen C o fun d => (opd_gen _).bind fun _ _ => (ofOpt_gen _).bind fun _ _ => (ofOpt_gen _).bind fun _ _ => setv_gen d trivial
  case h_13 =>
    refine dstQ_gen C o fun d => (opd_gen _).bind fun _ _ => (ofOpt_gen _).bind fun _ _ => ?_
    split <;> first | trivial | exact setv_gen d trivial
  case h_14 =>
    refine dstQ_gen C o fun d => ?_
    unfold fieldAddrQ
    split
    · split
      · split
        · exact (addr_gen _).bind fun p hp => setv_gen d (pl_avg (pl_shift hp))
        · trivial
      · trivial
    · trivial
  case h_15 =>
    refine dstQ_gen C o fun d => ?_
    unfold indexAddrQ
    refine (opd_gen _).bind fun n _ => (ofOpt_gen _).bind fun n _ => ?_
    split
    · split
      · exact (addr_gen _).bind fun p hp => setv_gen d (pl_avg (pl_shift hp))
      · trivial
    · split
      · intro v hv
        cases v with
        | own g e sz rows => show (if _ then _ else _ : Q Unit).Gen U _; split <;> first | exact setv_gen d hv | trivial
        | vw s g =>
          intro u hu
          cases u with
          | own g' e sz rows => show (if _ then _ else _ : Q Unit).Gen U _; split <;> first | exact setv_gen d hv | trivial
          | _ => trivial
        | v a => cases a with
          | one x => cases x with
            | sl rows =>
              show (if _ then _ else _ : Q Unit).Gen U _
              split
              · refine (ofOpt_gen _).bind fun r _ => ?_
                split <;> first | exact setv_gen d trivial | trivial
              · trivial
            | ref o sz i n => show (if _ then _ else _ : Q Unit).Gen U _; split <;> first | exact setv_gen d trivial | trivial
            | _ => trivial
          | many => trivial
        | _ => trivial
      · trivial
    · trivial
  case h_16 =>
    refine dstQ_gen C o fun d => ?_
    unfold extractQ
    split
    · intro v hv
      cases v with
      | tup l => exact (ofOpt_gen _).bind fun _ _ => setv_gen d trivial
      | _ => trivial
    · trivial
  case h_17 =>
    split
    · refine dstQ_gen C o fun d => ?_
      unfold sliceQ
      refine (opd_gen _).bind fun a _ => (optInt_gen _).bind fun l _ => (optInt_gen _).bind fun h _ => ?_
      split
      · exact (ofOpt_gen _).bind fun _ _ => setv_gen d trivial
      · exact (ofOpt_gen _).bind fun _ _ => setv_gen d trivial
      · split
        · split <;> exact setv_gen d trivial
        · trivial
      · split <;> first | exact setv_gen d trivial | trivial
      · split
        · split <;> exact setv_gen d trivial
        · trivial
      · trivial
    · trivial
  case h_18 =>
    refine dstQ_gen C o fun d => (opd_gen _).bind fun _ _ => (opd_gen _).bind fun _ _ => (ofOpt_gen _).bind fun _ _ => (ofOpt_gen _).bind fun _ _ => ?_
    split
    · split <;> first | exact setv_gen d hg | trivial
    · trivial
  case h_19 =>
    split
    · refine dstQ_gen C o fun d => ?_
      split
      · split
        · exact (lenQ_gen _).bind fun _ _ => setv_gen d trivial
        · refine (opd_gen _).bind fun a _ => ?_
          split <;> first | exact setv_gen d trivial | trivial
        · trivial
      · trivial
    · refine dstQ_gen C o fun d => ?_
      split
      · split
        · unfold appendQ
          refine (opd_gen _).bind fun b _ => (rowsOf_gen _).bind fun ys _ => ?_
          split
          · split
            · split
              · intro v hv
                cases v with
                | own g e sz rows => show (if _ then _ else _ : Q Unit).Gen U _; split <;> first | exact ⟨trivial, hg, trivial⟩ | trivial
                | vw s g =>
                  intro u hu
                  cases u with
                  | own g' e sz rows => show (if _ then _ else _ : Q Unit).Gen U _; split <;> first | exact ⟨trivial, hg, trivial⟩ | trivial
                  | _ => trivial
                | _ => trivial
              · split <;> first | exact setv_gen d hg | trivial
              · trivial
            · trivial
          · trivial
        · trivial
      · trivial
    · exact dstQ_gen C o fun d => mm_gen d _ _
    · exact dstQ_gen C o fun d => mm_gen d _ _
    · refine dstQ_gen C o fun d => ?_
      unfold callQ
      refine (opds_gen _).bind fun ads _ => ?_
      split
      · exact (ofOpt_gen _).bind fun r _ => ⟨hg, trivial⟩
      · intro v hv
        cases v with
        | heap H nx => exact (ofOpt_gen _).bind fun r _ => setRV_gen d _
        | _ => trivial
      · exact enterQ_gen C d _ ads
    · trivial
  case h_20 => trivial
theorem pubQ_gen (d : Nat) : (pubQ d).Gen U (fun _ => True) := by
  intro v hv
  cases v with
  | own g e sz rows =>
    show (if rows = [] then _ else _ : Q Unit).Gen U _
    split
    · trivial
    · intro u _
      cases u with
      | heap H nx => exact ⟨trivial, trivial, trivial⟩
      | _ => trivial
  | vw s g =>
    intro u _
    cases u with
    | own g' e sz rows =>
      show (if rows = [] then _ else _ : Q Unit).Gen U _
      split
      · trivial
      · split
        · intro u _
          cases u with
          | heap H nx => exact ⟨trivial, trivial, trivial, trivial⟩
          | _ => trivial
        · trivial
    | _ => trivial
  | box g xs =>
    intro u _
    cases u with
    | heap H nx => exact ⟨trivial, trivial, trivial⟩
    | _ => trivial
  | _ => trivial
theorem appendNilQ_gen (C : Ctx) {g : Nat} (hg : U g) (d t : Nat) (y : Operand) : (appendNilQ C g d t y).Gen U (fun _ => True) := by
  unfold appendNilQ
  refine (opd_gen _).bind fun b _ => (rowsOf_gen _).bind fun ys _ => ?_
  split
  · split
    · split
      · exact ⟨hg, trivial⟩
      · trivial
    · trivial
  · trivial
theorem appendRefQ_gen (C : Ctx) (d t : Nat) (x y : Operand) : (appendRefQ C d t x y).Gen U (fun _ => True) := by
  unfold appendRefQ
  refine (opd_gen _).bind fun b _ => (rowsOf_gen _).bind fun ys _ => ?_
  split
  · split
    · refine (opd_gen _).bind fun a _ => ?_
      split
      · intro u _
        cases u with
        | heap H nx =>
          refine (ofOpt_gen _).bind fun ob _ => ?_
          split <;> first | trivial | exact ⟨trivial, trivial, trivial⟩
        | _ => trivial
      · trivial
    · trivial
  · trivial
theorem copyQ_gen (C : Ctx) (d t : Nat) (x y : Operand) : (copyQ C d t x y).Gen U (fun _ => True) := by
  unfold copyQ
  refine (opd_gen _).bind fun b _ => (rowsOf_gen _).bind fun ys _ => ?_
  split
  · split
    · refine (opd_gen _).bind fun a _ => ?_
      split
      · exact setv_gen d trivial
      · intro u _
        cases u with
        | heap H nx =>
          refine (ofOpt_gen _).bind fun ob _ => ?_
          split <;> first | trivial | exact ⟨trivial, trivial, trivial⟩
        | _ => trivial
      · trivial
    · trivial
  · trivial
theorem eqZQ_gen (k : Option EK) (d : Nat) (op : BinOp) (x y : Operand) : (eqZQ k d op x y).Gen U (fun _ => True) := by
  unfold eqZQ
  refine (opd_gen _).bind fun a _ => (opd_gen _).bind fun b _ => (ofOpt_gen _).bind fun r _ => ?_
  split <;> first | exact setv_gen d trivial | trivial
theorem eqQ_gen (n d : Nat) (op : BinOp) (x y : Operand) : (eqQ n d op x y).Gen U (fun _ => True) := by
  unfold eqQ
  refine (opd_gen _).bind fun a _ => (opd_gen _).bind fun b _ => (ofOpt_gen _).bind fun r _ => ?_
  split <;> first | exact setv_gen d trivial | trivial
theorem callVQ_gen (C : Ctx) (d t : Nat) (l : List Operand) : (callVQ C d t l).Gen U (fun _ => True) := by
  unfold callVQ
  refine (data_gen _).bind fun a _ => (opds_gen _).bind fun ads _ => ?_
  split <;> first | exact enterQ_gen C d _ _ | trivial
theorem mapRows_gen (o : Nat) : (mapRows o).Gen U (fun _ => True) := by
  intro v _
  cases v with
  | heap H nx =>
    refine (ofOpt_gen _).bind fun ob _ => ?_
    split <;> trivial
  | _ => trivial
theorem lookupQ_gen (C : Ctx) (d t : Nat) (x y : Operand) (b : Bool) : (lookupQ C d t x y b).Gen U (fun _ => True) := by
  unfold lookupQ
  refine (opd_gen _).bind fun a _ => (opd_gen _).bind fun ads _ => ?_
  split
  · split
    · refine (mapRows_gen _).bind fun r _ => (ofOpt_gen _).bind fun f _ => ?_
      split <;> exact setRV_gen d _
    · trivial
  · trivial
theorem updateQ_gen (C : Ctx) (t : Nat) (x y z : Operand) : (updateQ C t x y z).Gen U (fun _ => True) := by
  unfold updateQ
  refine (opd_gen _).bind fun a _ => (opd_gen _).bind fun ads _ => (opd_gen _).bind fun ads _ => ?_
  split
  · split
    · exact (mapRows_gen _).bind fun r _ => (ofOpt_gen _).bind fun f _ => ⟨trivial, trivial⟩
    · trivial
  · trivial
theorem deleteQ_gen (C : Ctx) (t : Nat) (x y : Operand) : (deleteQ C t x y).Gen U (fun _ => True) := by
  unfold deleteQ
  refine (opd_gen _).bind fun a _ => (opd_gen _).bind fun ads _ => ?_
  split
  · split
    · exact (mapRows_gen _).bind fun r _ => (ofOpt_gen _).bind fun f _ => ⟨trivial, trivial⟩
    · trivial
  · trivial
theorem bytesQ_gen (C : Ctx) (d t : Nat) (x : Operand) : (bytesQ C d t x).Gen U (fun _ => True) := by
  unfold bytesQ
  refine (opd_gen _).bind fun a _ => ?_
  split
  · split
    · exact setv_gen d trivial
    · trivial
  · trivial
theorem strQ_gen (C : Ctx) (d t : Nat) (x : Operand) : (strQ C d t x).Gen U (fun _ => True) := by
  unfold strQ
  refine (opd_gen _).bind fun a _ => (rowsOf_gen _).bind fun ys _ => ?_
  split
  · split
    · split
      · exact (ofOpt_gen _).bind fun xs _ => setv_gen d trivial
      · trivial
    · trivial
  · trivial
theorem strAtQ_gen (C : Ctx) (d t : Nat) (x y : Operand) : (strAtQ C d t x y).Gen U (fun _ => True) := by
  unfold strAtQ
  refine (opd_gen _).bind fun a _ => (opd_gen _).bind fun n _ => (ofOpt_gen _).bind fun n _ => ?_
  split
  · split
    · refine (ofOpt_gen _).bind fun r _ => ?_
      split <;> first | exact setv_gen d trivial | trivial
    · trivial
  · split
    · exact (ofOpt_gen _).bind fun b _ => setv_gen d trivial
    · trivial
  · trivial
theorem nilQ_gen (d : Nat) (op : BinOp) (x : Operand) : (nilQ d op x).Gen U (fun _ => True) := by
  unfold nilQ
  refine (ofOpt_gen _).bind fun r _ => (opd_gen _).bind fun a _ => ?_
  split <;> first | exact setv_gen d trivial | trivial
theorem capQ_gen (d : Nat) (x : Operand) : (capQ d x).Gen U (fun _ => True) := by
  unfold capQ
  refine (opd_gen _).bind fun a _ => ?_
  split <;> first | exact setv_gen d trivial | trivial
theorem clearQ_gen (x : Operand) : (clearQ x).Gen U (fun _ => True) := by
  unfold clearQ
  refine (opd_gen _).bind fun a _ => ?_
  split <;> trivial
theorem trimQ_gen (x o n sz : Nat) : (trimQ x o n sz).Gen U (fun _ => True) := by
  intro u _
  cases u with
  | heap H nx =>
    refine (ofOpt_gen _).bind fun ob _ => ?_
    split <;> first | trivial | exact ⟨trivial, trivial, trivial⟩
  | _ => trivial
theorem appendZQ_gen (C : Ctx) (d t o sz i n c : Nat) (y : Operand) : (appendZQ C d t o sz i n c y).Gen U (fun _ => True) := by
  unfold appendZQ
  refine (opd_gen _).bind fun b _ => (ofOpt_gen _).bind fun k _ => ?_
  split
  · intro u _
    cases u with
    | heap H nx =>
      refine (ofOpt_gen _).bind fun ob _ => ?_
      split <;> first | trivial | exact ⟨trivial, trivial, trivial⟩
    | _ => trivial
  · trivial
theorem semOp1_gen (C : Ctx) {i : Nat} (hg : U (i + 1)) (o : Oper) : (semOp1 C i o).Gen U (fun _ => True) := by
  have h0 := semOp0_gen (U := U) C hg o
  unfold semOp1
  split
  · split
    · exact dstQ_gen C o fun d => bytesQ_gen C d _ _
    · split
      · exact dstQ_gen C o fun d => strQ_gen C d _ _
      · exact h0
  · exact dstQ_gen C o fun d => strAtQ_gen C d _ _ _
  · split
    · exact dstQ_gen C o fun d => eqZQ_gen _ d _ _ _
    split
    · exact dstQ_gen C o fun d => eqQ_gen _ d _ _ _
    · split
      · exact dstQ_gen C o fun d => nilQ_gen d _ _
      · exact h0
  · split
    · refine dstQ_gen C o fun d => ?_
      split
      · split <;> first | exact copyQ_gen C d _ _ _ | trivial
      · trivial
    · refine dstQ_gen C o fun d => ?_
      split
      · split
        · refine (opd_gen _).bind fun a _ => ?_
          split
          · exact (mapRows_gen _).bind fun r _ => setv_gen d trivial
          · trivial
        · exact h0
      · trivial
    · refine dstQ_gen C o fun d => ?_
      split
      · split <;> first | exact capQ_gen d _ | trivial
      · trivial
    · split
      · split
        · split <;> first | exact clearQ_gen _ | trivial
        · trivial
      · trivial
    · split
      · split <;> first | exact deleteQ_gen C _ _ _ | trivial
      · trivial
    · refine dstQ_gen C o fun d => ?_
      split
      · intro v hv
        cases v with
        | v a => cases a with
          | one x => cases x with
            | ref o' sz i n => show (if _ then _ else _ : Q Unit).Gen U _; split <;> first | exact appendRefQ_gen C d _ _ _ | trivial
            | nils => show (if _ then _ else _ : Q Unit).Gen U _; split <;> first | exact appendNilQ_gen C hg d _ _ | trivial
            | refc o' sz i n c =>
              show (if _ then _ else _ : Q Unit).Gen U _
              split
              · split
                · exact (trimQ_gen _ _ _ _).bind fun _ _ => appendRefQ_gen C d _ _ _
                · trivial
              · split
                · exact appendZQ_gen C d _ _ _ _ _ _ _
                · trivial
            | _ => exact h0
          | many => exact h0
        | _ => exact h0
      · exact h0
    · exact dstQ_gen C o fun d => callVQ_gen C d _ _
    · exact h0
  · refine dstQ_gen C o fun d => ?_
    split
    · exact (opds_gen _).bind fun ads _ => (ofOpt_gen _).bind fun ds _ => setv_gen d trivial
    · trivial
  · split
    · refine dstQ_gen C o fun d => ?_
      split
      · intro v _
        cases v with
        | heap H nx => exact ⟨trivial, trivial, trivial⟩
        | _ => trivial
      · trivial
    · trivial
  · exact dstQ_gen C o fun d => lookupQ_gen C d _ _ _ _
  · split
    · exact updateQ_gen C _ _ _ _
    · trivial
  · exact h0
theorem uniQ_gen (d : Nat) : (uniQ d).Gen U (fun _ => True) := by
  intro v hv
  cases v with
  | own g e sz rows => cases rows <;> first | exact ⟨trivial, trivial⟩ | trivial
  | _ => trivial
theorem preQ_gen (C : Ctx) (o : Op) : (preQ C o).Gen U (fun _ => True) := by
  unfold preQ
  split
  · split
    · exact pubQ_gen _
    · trivial
  · trivial
theorem semOp_gen (C : Ctx) {i : Nat} (hg : U (i + 1)) (o : Oper) : (semOp C i o).Gen U (fun _ => True) := by
  unfold semOp
  refine (preQ_gen C o.op).bind fun _ _ => ?_
  refine (semOp1_gen C hg o).bind fun _ _ => ?_
  split
  · split
    · refine (pubQ_gen _).bind fun _ _ => ?_
      split
      · exact uniQ_gen _
      · trivial
    · trivial
  · trivial
end
end Go.Proofs.YtdapdiaklpcmjaaGreat.Pe
namespace Go.Proofs.YtdapdiaklpcmjaaGreat.Pe
open Go
theorem dstQ_some {C : Ctx} {o : Oper} {k : Nat → Q Unit} {E E1 : Env} (h : (dstQ o k C).run E = some ((), E1)) : ∃ d, o.dst = some d ∧ d < C.nt ∧ (k d).run E = some ((), E1) := by
  unfold dstQ at h
  split at h
  · rename_i d hd
    split at h
    · exact ⟨d, hd, by assumption, h⟩
    · cases h
  · cases h
theorem set_run {d : Nat} {v : AV} {E E1 : Env} (h : (Q.set d v (.ret ()) : Q Unit).run E = some ((), E1)) : E1 = upd E d v := by
  simp only [Q.run, Option.some.injEq, Prod.mk.injEq, true_and] at h; exact h.symm
section
variable {P : Program} {C : Ctx} {E E1 : Env} {a : Act} {w : World} {ι β : Nat → Option Nat} {M : Nat → Prop} {K : Act → World → Prop} {Qx : Exit → Act → World → Prop} {o : Oper} {d : Nat} {U : Nat → Prop} {γ : Nat}
def Then (C : Ctx) (E1 : Env) (M : Nat → Prop) (w : World) (ι : Nat → Option Nat) (K : Act → World → Prop) : Prop :=
  ∀ a' w' ι' β' M', Sim C E1 a' w' ι' β' M' → Evo C.X M w M' w' → (∀ o b, ι o = some b → ι' o = some b) → K a' w'
theorem wp_value {v : Value} {w' : World} (hr : (execOp a.eval o).run P w = .ok (.value v) w') (h : K (a.put o.dst v) w') : o.wp P a w K Qx := by
  unfold Oper.wp; rw [hr]; exact h
theorem Then.of {M1 : Nat → Prop} (h : Then C E1 M w ι K) (he : Evo C.X M w M1 w) : Then C E1 M1 w ι K := fun a' w' ι' β' M' s e i => h a' w' ι' β' M' s (he.trans e) i
theorem put_data (h : Sim C E a w ι β M) (hd : d < C.nt) (hdst : o.dst = some d) {v : Value} {x : AD} (hv : RdA w ι M v x) (hr : (execOp a.eval o).run P w = .ok (.value v) w)
    (hE : E1 = upd E d (.v x)) (hK : Then C E1 M w ι K) : o.wp P a w K Qx := by
  subst hE
  refine wp_value hr ?_
  rw [hdst]
  exact hK _ _ _ _ _ (h.put_v hd hv) (Evo.refl _ _) (fun _ _ h => h)
theorem put_place (h : Sim C E a w ι β M) (hd : d < C.nt) (hdst : o.dst = some d) {v : Value} {p : Pl} (hv : PlHolds w ι β M E v p) (hr : (execOp a.eval o).run P w = .ok (.value v) w)
    (hE : E1 = upd E d p.av) (hK : Then C E1 M w ι K) : o.wp P a w K Qx := by
  subst hE
  refine wp_value hr ?_
  rw [hdst]
  exact hK _ _ _ _ _ (h.put_pl hd hv) (Evo.refl _ _) (fun _ _ h => h)
theorem put_new (h : Sim C E a w ι β M) (hd : d < C.nt) (hdst : o.dst = some d) (hg : Gens E U) (hU : ¬ U γ) {cs : Array Value} {T : TypeId} {v : Value} {av : AV}
    (hav : match av with | .box g _ => g = γ | .own g _ _ _ => g = γ | _ => False)
    (hv : ∀ M', Evo C.X M w M' (w.alloc (.cells cs T)) → (w.alloc (.cells cs T)).heap[w.heap.size]? = some (.cells cs T (0, 0)) → Holds (w.alloc (.cells cs T)) ι (fun s => if s = d then some w.heap.size else β s) M' (fun s => if s = d then v else valOf a s) (upd E d av) d av)
    (hr : (execOp a.eval o).run P w = .ok (.value v) (w.alloc (.cells cs T)))
    (hE : E1 = upd E d av) (hK : Then C E1 M w ι K) : o.wp P a w K Qx := by
  subst hE
  refine wp_value hr ?_
  rw [hdst]
  let M' : Nat → Prop := fun b => M b ∨ b = w.heap.size
  have hev : Evo C.X M w M' (w.alloc (.cells cs T)) := ⟨rfl, rfl, rfl, by simp, fun b hb _ => Go.RowKit.Below.heap_alloc w _ b hb, fun b hb hm => by
    rcases hm with hm | hm
    · exact hm
    · omega, fun b hb _ => Go.RowKit.Below.heap_alloc w _ b hb, .of fun b hb => Go.RowKit.Below.heap_alloc w _ b hb⟩
  have hs : Sim C E a (w.alloc (.cells cs T)) ι β M' := h.world hev (fun b hb => .inl hb) (fun b hb => by
      rcases hb with hb | hb
      · have := h.lt b hb; simp; omega
      · simp; omega) (fun s b hs => Go.RowKit.Below.heap_alloc w _ b (h.lt b (h.ctlB s b hs))) (fun o x b hl hi => Go.RowKit.Below.heap_alloc w _ b (h.lt b (h.ctlO o x b hl hi)))
  refine hK _ _ _ _ _ (hs.claim' (a' := a.put (some d) v) (bo := some w.heap.size) (h.ne_gs hd) (by rw [size_put]; exact h.size) (by rw [defers_put]; exact h.defs) (fun s hs' => by rw [valOf_put (by rw [h.size]; exact hd), if_neg hs']) hav (noref hg hU)
    (fun b hb => by injection hb with hb; exact .inr hb.symm) (fun b hb hx => by injection hb with hb; subst hb; exact absurd (h.xlt _ hx) (Nat.lt_irrefl _)) (fun b s hb hs' => by injection hb with hb; subst hb; have := h.lt _ (h.ctlB s _ hs'); omega)
    (fun b o x hb hl hi => by injection hb with hb; subst hb; have := h.lt _ (h.ctlO o x _ hl hi); omega) ?_) hev (fun _ _ h => h)
  have := hv M' hev (heap_alloc_new w _)
  have he : valOf (a.put (some d) v) = fun s => if s = d then v else valOf a s := by funext s; rw [valOf_put (by rw [h.size]; exact hd)]
  rw [he]; exact this
theorem alloc_blk {T : TypeId} {cs : List Value} {ds : List D} {M' : Nat → Prop} (hds : ds ≠ []) (hr : RdL w ι M cs ds) (he : Evo C.X M w M' (w.alloc (.cells cs.toArray T))) :
    Blk (w.alloc (.cells cs.toArray T)) ι M' w.heap.size T cs.toArray ds.length [ds] := by
  refine ⟨heap_alloc_new w _, ?_, by simp [hr.1], by simp, ?_, hr.one'⟩
  · exact List.length_pos_iff.2 hds
  · intro i j r x hi hj
    cases i with
    | zero =>
      simp at hi; subst hi
      have hj' : j < cs.length := by have := (List.getElem?_eq_some_iff.1 hj).1; rw [hr.1]; exact this
      refine ⟨cs[j], by simp [hj'], ?_⟩
      exact (hr.2 j _ x (List.getElem?_eq_getElem hj') hj).mono he.same he.back (fun _ _ h => h) he.shape
    | succ i => simp at hi
theorem op_alloc {t : TypeId} (ho : o.op = .alloc t) (h : Sim C E a w ι β M) (hd : d < C.nt) (hdst : o.dst = some d) (hg : Gens E U) (hU : ¬ U γ) (ht : TyOk P t (C.tt t)) (hz : (C.tt t).zero ≠ [])
    (hE : E1 = upd E d (.box γ (C.tt t).zero)) (hK : Then C E1 M w ι K) : o.wp P a w K Qx := by
  obtain ⟨i, z, hi, _, hz0, hzc⟩ := info_of ht
  have hcs : z.cells = ((C.tt t).zero.map D.zv).toArray := by rw [← hzc]
  refine put_new (cs := ((C.tt t).zero.map D.zv).toArray) (T := t) (v := .pointer (some ⟨w.heap.size, 0, none⟩)) h hd hdst hg hU rfl (fun M' he _ => ?_) ?_ hE hK
  · exact ⟨w.heap.size, _, t, by simp, by simp, alloc_blk hz (zv_rdl ht.isz w ι M) he⟩
  · simp [execOp, ho, Instr.alloc, run_zeroValue' hi hz0, newVar, newRow, hcs]
theorem op_box {t : TypeId} {x : Operand} (ho : o.op = .box t x) (h : Sim C E a w ι β M) (hd : d < C.nt) (hdst : o.dst = some d) (hg : Gens E U) (hU : ¬ U γ) {y : AD} (hy : RdA w ι M (a.eval x) y) (hz : y.cells ≠ [])
    (hE : E1 = upd E d (.box γ y.cells)) (hK : Then C E1 M w ι K) : o.wp P a w K Qx := by
  have hc := hy.cells
  have hcs : (a.eval x).cells = ((a.eval x).cells.toList).toArray := by simp
  refine put_new (cs := ((a.eval x).cells.toList).toArray) (T := t) (v := .pointer (some ⟨w.heap.size, 0, none⟩)) h hd hdst hg hU rfl (fun M' he _ => ?_) ?_ hE hK
  · exact ⟨w.heap.size, _, t, by simp, by simp, alloc_blk hz hc he⟩
  · simp [execOp, ho, Instr.box, newVar, newRow]
theorem op_load {t : TypeId} {x : Operand} (ho : o.op = .load t x) (h : Sim C E a w ι β M) (hd : d < C.nt) (hdst : o.dst = some d) (ht : C.tt t = dflt ∨ TyOk P t (C.tt t)) (hq : (loadQ C d t x).run E = some ((), E1)) (hK : Then C E1 M w ι K) : o.wp P a w K Qx := by
  unfold loadQ at hq
  obtain ⟨p, E2, h1, hq2⟩ := Q.run_bind_some hq
  obtain ⟨rfl, hp, _⟩ := addr_sound h h1
  obtain ⟨cs, E3, h2, hq3⟩ := Q.run_bind_some hq2
  obtain ⟨rfl, hl, ad, hv, hc⟩ := rdPl_sound h hp h2
  rcases ht with ht | ht
  · rw [ht] at hq3 hl
    have : cs = [] := List.eq_nil_of_length_eq_zero hl
    subst this
    cases hq3
  · obtain ⟨r1, r2⟩ := run_loadAt ht hc hl
    split at hq3
    · rename_i hag
      obtain ⟨v, hr, hrd⟩ := r1 hag
      exact put_data h hd hdst hrd (by simp [execOp, ho, hv, hr]) (set_run hq3) hK
    · rename_i hag
      split at hq3
      · rename_i c
        obtain ⟨v, hr, hrd⟩ := r2 (by simpa using hag) c rfl
        exact put_data h hd hdst hrd (by simp [execOp, ho, hv, hr]) (set_run hq3) hK
      · cases hq3
theorem op_store {t : TypeId} {x y : Operand} (ho : o.op = .store t x y) (h : Sim C E a w ι β M) (hdst : o.dst = none) (ht : C.tt t = dflt ∨ TyOk P t (C.tt t)) (hq : (storeQ C t x y).run E = some ((), E1)) (hK : Then C E1 M w ι K) : o.wp P a w K Qx := by
  unfold storeQ at hq
  obtain ⟨y', E2, h1, hq2⟩ := Q.run_bind_some hq
  obtain ⟨β1, M1, s1, e1, r1⟩ := opd_sound h h1
  obtain ⟨p, E3, h2, hq3⟩ := Q.run_bind_some hq2
  obtain ⟨rfl, hp, _⟩ := addr_sound s1 h2
  split at hq3
  · rename_i hl
    obtain ⟨hl, hpos⟩ := hl
    rcases ht with ht | ht
    · rw [ht] at hpos; simp [dflt] at hpos
    · obtain ⟨b, off, cs, T, hv, hb, hfit, hev, hs⟩ := wrPl_sound s1 hp r1.cells hq3
      have hr := run_storeAt (P := P) ht hb (v := a.eval y) rfl (by rw [r1.cells.1]; exact hl) hfit r1.cells.one'
      unfold Oper.wp
      have : (execOp a.eval o).run P w = .ok .skip (rowSet w b cs off (a.eval y).cells.toList) := by simp [execOp, ho, hv, hr]
      rw [this]
      show K (a.put o.dst undef) _
      rw [hdst]
      exact hK _ _ _ _ _ hs (e1.trans hev) (fun _ _ h => h)
  · cases hq3
theorem op_pick {c x y : Operand} (ho : o.op = .pick c x y) (h : Sim C E a w ι β M) (hd : d < C.nt) (hdst : o.dst = some d)
    (hq : ((opd c).bind fun c => (ofOpt c.bool?).bind fun b => (opd (if b then x else y)).bind fun a => .set d (.v a) (.ret ())).run E = some ((), E1)) (hK : Then C E1 M w ι K) : o.wp P a w K Qx := by
  obtain ⟨c', E2, h1, hq2⟩ := Q.run_bind_some hq
  obtain ⟨β1, M1, s1, e1, r1⟩ := opd_sound h h1
  obtain ⟨b, E3, h2, hq3⟩ := Q.run_bind_some hq2
  obtain ⟨hb, rfl⟩ := ofOpt_run h2
  obtain ⟨z, E4, h3, hq4⟩ := Q.run_bind_some hq3
  obtain ⟨β2, M2, s2, e2, r2⟩ := opd_sound s1 h3
  have hcb : a.eval c = .bool b := by
    cases c' with
    | one x => cases x <;> first | (simp [AD.bool?] at hb; done) | skip
               simp only [AD.bool?, Option.some.injEq] at hb
               subst hb
               have r1' : Rd w ι M1 (a.eval c) (.bool _) := r1
               generalize a.eval c = u at r1'
               cases r1'; rfl
    | many => simp [AD.bool?] at hb
  refine put_data s2 hd hdst r2 ?_ (set_run hq4) ((hK.of e1).of e2)
  simp [execOp, ho, hcb, asBool]
  cases b <;> simp
theorem op_nilCheck {x : Operand} (ho : o.op = .nilCheck x) (h : Sim C E a w ι β M) (hd : d < C.nt) (hdst : o.dst = some d) (hq : ((addr x).bind fun p => .set d p.av (.ret ())).run E = some ((), E1)) (hK : Then C E1 M w ι K)
    : o.wp P a w K Qx := by
  obtain ⟨p, E2, h1, hq2⟩ := Q.run_bind_some hq
  obtain ⟨rfl, hp, ad, hv⟩ := addr_sound h h1
  refine put_place h hd hdst hp ?_ (set_run hq2) hK
  simp [execOp, ho, hv]
theorem int_rd {v : Value} {k : IntKind} {n : Int} (h : RdA w ι M v (.one (.int k n))) : v = .int k n := by
  have h' : Rd w ι M v (.int k n) := h
  cases h'; rfl
theorem AD.int_some {x : AD} {n : IntKind × Int} (h : x.int? = some n) : x = .one (.int n.1 n.2) := by
  cases x with
  | one d => cases d <;> first | (simp [AD.int?] at h; done) | (simp only [AD.int?, Option.some.injEq] at h; subst h; rfl)
  | many => simp [AD.int?] at h
theorem AD.d_some {x : AD} {y : D} (h : x.d? = some y) : x = .one y := by
  cases x with
  | one d => simp only [AD.d?, Option.some.injEq] at h; rw [h]
  | many => simp [AD.d?] at h
theorem shift_eq (op : BinOp) (k yk : IntKind) (x y : Int) {r : D} (h : shD op k x y = some r) (w : World) : ∃ v, (Op.shift op k x yk y).run P w = .ok v w ∧ Rd w ι M v r := by
  unfold shD at h
  unfold Op.shift
  split at h
  · split at h
    · cases h
    · injection h with h; subst h
      rename_i hy
      exact ⟨_, by simp [hy], .int _ _⟩
  · split at h
    · cases h
    · injection h with h; subst h
      rename_i hy
      exact ⟨_, by simp [hy], .int _ _⟩
  · cases h
theorem int_eq (op : BinOp) (t : TypeId) (k : IntKind) (x y : Int) {r : D} (h : intD op k x y = some r) (w : World) : ∃ v, (binOp op t (.int k x) (.int k y)).run P w = .ok v w ∧ Rd w ι M v r := by
  cases op <;> simp only [intD] at h
  case add => injection h with h; subst h; exact ⟨.int k (k.wrap (x + y)), by simp [binOp_add, Op.intArith], .int _ _⟩
  case sub => injection h with h; subst h; exact ⟨.int k (k.wrap (x - y)), by simp [binOp_sub, Op.intArith], .int _ _⟩
  case mul => injection h with h; subst h; exact ⟨.int k (k.wrap (x * y)), by simp [binOp_mul, Op.intArith], .int _ _⟩
  case quo =>
    split at h
    · cases h
    · rename_i hy
      injection h with h; subst h
      exact ⟨.int k (k.wrap (x.tdiv y)), by simp [binOp_quo, Op.intDiv, hy], .int _ _⟩
  case rem =>
    split at h
    · cases h
    · rename_i hy
      injection h with h; subst h
      exact ⟨.int k (x.tmod y), by simp [binOp_rem, Op.intDiv, hy], .int _ _⟩
  case and => injection h with h; subst h; exact ⟨.int k (bits .and k x y), by simp [binOp_and, intBits_and], .int _ _⟩
  case or => injection h with h; subst h; exact ⟨.int k (bits .or k x y), by simp [binOp_or, intBits_or], .int _ _⟩
  case xor => injection h with h; subst h; exact ⟨.int k (bits .xor k x y), by simp [binOp_xor, intBits_xor], .int _ _⟩
  case andNot => injection h with h; subst h; exact ⟨.int k (bits .andNot k x y), by simp [binOp_andNot, intBits_andNot], .int _ _⟩
  case eql => injection h with h; subst h; exact ⟨.bool (x == y), by simp [binOp_eql], .bool _⟩
  case neq => injection h with h; subst h; exact ⟨.bool (x != y), by simp [binOp_neq], .bool _⟩
  case lss => injection h with h; subst h; exact ⟨.bool (decide (x < y)), by simp [binOp_lss], .bool _⟩
  case leq => injection h with h; subst h; exact ⟨.bool (decide (x ≤ y)), by simp [binOp_leq], .bool _⟩
  case gtr => injection h with h; subst h; exact ⟨.bool (decide (x > y)), by simp [binOp_gtr], .bool _⟩
  case geq => injection h with h; subst h; exact ⟨.bool (decide (x ≥ y)), by simp [binOp_geq], .bool _⟩
  all_goals cases h
theorem str_eq (op : BinOp) (t : TypeId) (x y : ByteArray) {r : D} (h : strD op x y = some r) (w : World) : ∃ v, (binOp op t (.string x) (.string y)).run P w = .ok v w ∧ Rd w ι M v r := by
  unfold strD at h
  split at h <;> first | (cases h; done) | (injection h with h; subst h; exact ⟨_, by simp [binOp, Op.stringOp], .bool _⟩)
theorem bin_sound {op : BinOp} {t : TypeId} {x y r : D} {u v : Value} (hx : Rd w ι M u x) (hy : Rd w ι M v y) (h : binD op x y = some r) :
    ∃ z, (binOp op t u v).run P w = .ok z w ∧ Rd w ι M z r ∧ ∀ p q, eqGuard op t p q u v = pure () := by
  unfold binD at h
  split at h
  · cases hx; cases hy
    split at h
    · obtain ⟨z, h1, h2⟩ := shift_eq (ι := ι) (M := M) (P := P) _ _ _ _ _ h w
      exact ⟨z, by rw [binOp_shl]; exact h1, h2, fun p q => by simp [eqGuard_at_int]⟩
    · obtain ⟨z, h1, h2⟩ := shift_eq (ι := ι) (M := M) (P := P) _ _ _ _ _ h w
      exact ⟨z, by rw [binOp_shr]; exact h1, h2, fun p q => by simp [eqGuard_at_int]⟩
    · split at h
      · rename_i hk
        subst hk
        obtain ⟨z, h1, h2⟩ := int_eq (ι := ι) (M := M) (P := P) op t _ _ _ h w
        exact ⟨z, h1, h2, fun p q => by simp [eqGuard_at_int]⟩
      · cases h
  · cases hx; cases hy
    obtain ⟨z, h1, h2⟩ := str_eq (ι := ι) (M := M) (P := P) op t _ _ h w
    exact ⟨z, h1, h2, fun p q => by simp [eqGuard_at_string]⟩
  · cases h
theorem op_bin {op : BinOp} {t u : TypeId} {x y : Operand} (ho : o.op = .binOp op t x y u) (h : Sim C E a w ι β M) (hd : d < C.nt) (hdst : o.dst = some d)
    (hq : ((opd x).bind fun a => (opd y).bind fun b => (ofOpt a.d?).bind fun a => (ofOpt b.d?).bind fun b => (ofOpt (binD op a b)).bind fun r => .set d (.v (.one r)) (.ret ())).run E = some ((), E1)) (hK : Then C E1 M w ι K) : o.wp P a w K Qx := by
  obtain ⟨x', E2, h1, hq2⟩ := Q.run_bind_some hq
  obtain ⟨β1, M1, s1, e1, r1⟩ := opd_sound h h1
  obtain ⟨y', E3, h2, hq3⟩ := Q.run_bind_some hq2
  obtain ⟨β2, M2, s2, e2, r2⟩ := opd_sound s1 h2
  obtain ⟨x2, E4, h3, hq4⟩ := Q.run_bind_some hq3
  obtain ⟨hx, rfl⟩ := ofOpt_run h3
  obtain ⟨y2, E5, h4, hq5⟩ := Q.run_bind_some hq4
  obtain ⟨hy, rfl⟩ := ofOpt_run h4
  obtain ⟨r, E6, h5, hq6⟩ := Q.run_bind_some hq5
  obtain ⟨hb, rfl⟩ := ofOpt_run h5
  rw [AD.d_some hx] at r1
  rw [AD.d_some hy] at r2
  have r1' : Rd w ι M2 (a.eval x) x2 := Rd.mono r1 e2.same e2.back (fun _ _ h => h) e2.shape
  obtain ⟨z, f1, f2, f3⟩ := bin_sound (P := P) (t := t) r1' r2 hb
  exact put_data s2 hd hdst (x := .one r) f2 (by simp [execOp, ho, f3, f1]) (set_run hq6) ((hK.of e1).of e2)
theorem op_un {op : UnOp} {t : TypeId} {x : Operand} (ho : o.op = .unOp op t x) (h : Sim C E a w ι β M) (hd : d < C.nt) (hdst : o.dst = some d)
    (hq : ((opd x).bind fun a => (ofOpt a.d?).bind fun a => (ofOpt (unD op a)).bind fun r => .set d (.v (.one r)) (.ret ())).run E = some ((), E1)) (hK : Then C E1 M w ι K) : o.wp P a w K Qx := by
  obtain ⟨x', E2, h1, hq2⟩ := Q.run_bind_some hq
  obtain ⟨β1, M1, s1, e1, r1⟩ := opd_sound h h1
  obtain ⟨x2, E4, h3, hq4⟩ := Q.run_bind_some hq2
  obtain ⟨hx, rfl⟩ := ofOpt_run h3
  obtain ⟨r, E6, h5, hq6⟩ := Q.run_bind_some hq4
  obtain ⟨hb, rfl⟩ := ofOpt_run h5
  rw [AD.d_some hx] at r1
  have r1' : Rd w ι M1 (a.eval x) x2 := r1
  have : ∃ z, (Op.unary op (a.eval x)).run P w = .ok z w ∧ Rd w ι M1 z r := by
    generalize a.eval x = u at r1'
    unfold unD at hb
    split at hb
    · injection hb with hb; subst hb; cases r1'; exact ⟨_, by simp [Op.unary], .bool _⟩
    · injection hb with hb; subst hb; cases r1'; exact ⟨_, by simp [Op.unary, Op.intArith], .int _ _⟩
    · cases hb
  obtain ⟨z, f1, f2⟩ := this
  exact put_data s1 hd hdst (x := .one r) f2 (by simp [execOp, ho, f1]) (set_run hq6) (hK.of e1)
theorem op_extract {x : Operand} {ix : Nat} (ho : o.op = .extract x ix) (h : Sim C E a w ι β M) (hd : d < C.nt) (hdst : o.dst = some d)
    (hq : (extractQ d ix x).run E = some ((), E1)) (hK : Then C E1 M w ι K) : o.wp P a w K Qx := by
  cases x with
  | tmp t =>
    have hh := h.hold t
    simp only [extractQ, Q.run] at hq
    cases hE : E t with
    | tup l =>
      rw [hE] at hq hh
      obtain ⟨y, E2, h1, hq2⟩ := Q.run_bind_some hq
      obtain ⟨hl, rfl⟩ := ofOpt_run h1
      obtain ⟨vs, hv, hsz, hr⟩ := hh
      have hlt : ix < vs.size := by rw [hsz]; exact (List.getElem?_eq_some_iff.1 hl).1
      refine put_data h hd hdst (hr ix vs[ix] y (by simp [hlt]) hl) ?_ (set_run hq2) hK
      have hv' : a.eval (.tmp t) = .tuple vs := hv
      simp [execOp, ho, hv', Instr.extract, hlt]
    | _ => rw [hE] at hq; cases hq
  | _ => cases hq
end
end Go.Proofs.YtdapdiaklpcmjaaGreat.Pe
