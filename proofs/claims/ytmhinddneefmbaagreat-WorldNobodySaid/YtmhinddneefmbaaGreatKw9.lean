/- A part of the proof of JbH. -/
import Derived.Laws.StructEq
import Derived.Laws.Pointers
import Derived.ChangeKeysEq
import Derived.Test.YtmhinddneefmbaaGreatKw5
set_option linter.unusedSimpArgs false
set_option linter.unusedVariables false
set_option linter.unusedSectionVars false
namespace Go.Proofs.YtmhinddneefmbaaGreat.Pe
open Go
def flatF (k : TypeId → Option (List D)) : Nat → List Field → Option (List D)
  | _, [] => some []
  | off, f :: fs => if f.name ≠ "_" ∧ f.offset = off then (k f.type).bind fun z => (flatF k (off + z.length) fs).map (z ++ ·) else none
def flatK (P : Program) : Nat → TypeId → Option (List D)
  | 0, _ => none
  | d + 1, t => match P.underlying t with
    | some (.int k) => some [.int k 0]
    | some .bool => some [.bool false]
    | some .string => some [.str ⟨#[]⟩]
    | some (.struct fs) => if P.stoodInHeld t then none else (flatF (flatK P d) 0 fs.toList).bind fun z => if (P.info? t).map (·.size) = some z.length then some z else none
    | some (.array n e) => (flatK P d e).bind fun z => if P.cellsOf e = z.length ∧ (P.info? e).isSome = true ∧ (P.info? t).map (·.size) = some (n * z.length) then some (List.replicate n z).flatten else none
    | _ => none
def aggT (P : Program) (t : TypeId) : Bool := match P.underlying t with
  | some (.struct _) | some (.array _ _) => true
  | _ => false
def valT (ag : Bool) (l : List D) : Value := if ag then .agg (l.map D.zv).toArray else match l with
  | [d] => d.zv
  | _ => undef
section
variable {P : Program} {w : World} {ι : Nat → Option Nat} {M : Nat → Prop}
theorem all2_len {α γ : Type} {f : α → γ → Bool} : ∀ {l : List α} {m : List γ}, allW f l m = true → l.length = m.length
  | [], [], _ => rfl
  | x :: l, y :: m, h => by
    simp only [allW, Bool.and_eq_true] at h
    simp [all2_len h.2]
  | [], _ :: _, h => by cases h
  | _ :: _, [], h => by cases h
theorem allW_app {α γ : Type} {f : α → γ → Bool} : ∀ (l l' : List α) (m : List γ), allW f (l ++ l') m = true → allW f l (m.take l.length) = true ∧ allW f l' (m.drop l.length) = true
  | [], l', m, h => ⟨rfl, h⟩
  | x :: l, l', y :: m, h => by
    simp only [List.cons_append, allW, Bool.and_eq_true] at h
    obtain ⟨h1, h2⟩ := allW_app l l' m h.2
    simp only [List.length_cons, List.take_succ_cons, List.drop_succ_cons, allW, Bool.and_eq_true]
    exact ⟨⟨h.1, h1⟩, h2⟩
  | _ :: _, _, [], h => by cases h
theorem allW_split {α γ : Type} {f : α → γ → Bool} : ∀ (n : Nat) (l : List α) (m : List γ), l.length = m.length → allW f l m = (allW f (l.take n) (m.take n) && allW f (l.drop n) (m.drop n))
  | 0, l, m, _ => by simp [allW]
  | n + 1, [], [], _ => rfl
  | n + 1, x :: l, y :: m, h => by
    simp only [List.take_succ_cons, List.drop_succ_cons, allW]
    rw [allW_split n l m (by simpa using h), Bool.and_assoc]
  | n + 1, [], y :: m, h => by simp at h
  | n + 1, x :: l, [], h => by simp at h
theorem flatK_size : ∀ (d : Nat) (t : TypeId) (z : List D), flatK P d t = some z → (isAgg t).run P w = .ok (aggT P t) w ∧ (aggT P t = true → (sizeOf t).run P w = .ok z.length w) ∧ (aggT P t = false → z.length = 1)
  | 0, t, z, h => by cases h
  | d + 1, t, z, h => by
    unfold flatK at h
    unfold aggT
    have sz : ∀ n, (P.info? t).map (·.size) = some n → (sizeOf t).run P w = .ok n w := fun n hn => by
      cases hi : P.info? t with
      | none => rw [hi] at hn; cases hn
      | some i =>
        rw [hi] at hn
        simp only [Option.map_some, Option.some.injEq] at hn
        rw [run_sizeOf' hi, hn]
    split at h
    · rename_i k hu
      simp only [Option.some.injEq] at h; subst h
      rw [hu]; exact ⟨by simp [isAgg, run_underlying hu], by simp, by simp⟩
    · rename_i hu
      simp only [Option.some.injEq] at h; subst h
      rw [hu]; exact ⟨by simp [isAgg, run_underlying hu], by simp, by simp⟩
    · rename_i hu
      simp only [Option.some.injEq] at h; subst h
      rw [hu]; exact ⟨by simp [isAgg, run_underlying hu], by simp, by simp⟩
    · rename_i fs hu
      rw [hu]
      split at h
      · cases h
      · cases hz : flatF (flatK P d) 0 fs.toList with
        | none => rw [hz] at h; cases h
        | some z' =>
          rw [hz] at h
          simp only [Option.bind_some] at h
          split at h
          · rename_i hs
            injection h with h; subst h
            exact ⟨by simp [isAgg, run_underlying hu], fun _ => sz _ hs, by simp⟩
          · cases h
    · rename_i n e hu
      rw [hu]
      cases hz : flatK P d e with
      | none => rw [hz] at h; cases h
      | some z' =>
        rw [hz] at h
        simp only [Option.bind_some] at h
        split at h
        · rename_i hs
          injection h with h; subst h
          exact ⟨by simp [isAgg, run_underlying hu], fun _ => by rw [sz _ hs.2.2]; simp, by simp⟩
        · cases h
    · cases h
theorem part_val {d : Nat} {t : TypeId} {z L : List D} {off : Nat} (hz : flatK P d t = some z) (hl : off + z.length ≤ L.length) : (part t (L.map D.zv).toArray off).run P w = .ok (valT (aggT P t) ((L.drop off).take z.length)) w := by
  obtain ⟨h1, h2, h3⟩ := flatK_size (w := w) d t z hz
  unfold part
  cases ha : aggT P t with
  | true =>
    rw [ha] at h1 h2
    simp only [Sem.run_bind, h1, Result.andThen_ok, if_true, h2 rfl, Sem.run_pure, valT]
    congr 2
    simp
  | false =>
    rw [ha] at h1 h3
    have hz1 := h3 rfl
    have hlt : off < L.length := by omega
    simp only [Sem.run_bind, h1, Result.andThen_ok, Bool.false_eq_true, if_false, valT, hz1]
    have hd : (L.drop off).take 1 = [L[off]] := by rw [List.drop_eq_getElem_cons hlt]; rfl
    rw [hd]
    have : (L.map D.zv).toArray[off]? = some (D.zv L[off]) := by simp [hlt]
    rw [this]; rfl
theorem fields_eq {d dd : Nat} (ih : ∀ t z, flatK P d t = some z → ∀ (w : World) lx ly, allW kindOk z lx = true → allW kindOk z ly = true → (Op.equalIn dd t (valT (aggT P t) lx) (valT (aggT P t) ly)).run P w = .ok (allW eqK lx ly) w) : ∀ (fs : List Field) (off : Nat) (z : List D) (LX LY : List D) (w : World), flatF (flatK P d) off fs = some z →
    LX.length = LY.length → off + z.length = LX.length → allW kindOk z (LX.drop off) = true → allW kindOk z (LY.drop off) = true →
    (Op.eqFields dd (LX.map D.zv).toArray (LY.map D.zv).toArray fs).run P w = .ok (allW eqK (LX.drop off) (LY.drop off)) w
  | [], off, z, LX, LY, w, hz, hl, hs, hx, hy => by
    simp only [flatF, Option.some.injEq] at hz
    subst hz
    simp only [List.length_nil, Nat.add_zero] at hs
    rw [List.drop_eq_nil_of_le (by omega), List.drop_eq_nil_of_le (by omega)]
    rfl
  | f :: fs, off, z, LX, LY, w, hz, hl, hs, hx, hy => by
    simp only [flatF] at hz
    split at hz
    · rename_i hf
      obtain ⟨hn, ho⟩ := hf
      cases h1 : flatK P d f.type with
      | none => rw [h1] at hz; cases hz
      | some z1 =>
        rw [h1] at hz
        simp only [Option.bind_some] at hz
        cases h2 : flatF (flatK P d) (off + z1.length) fs with
        | none => rw [h2] at hz; cases hz
        | some z2 =>
          rw [h2] at hz
          simp only [Option.map_some, Option.some.injEq] at hz
          subst hz
          simp only [List.length_append] at hs
          obtain ⟨x1, x2⟩ := allW_app _ _ _ hx
          obtain ⟨y1, y2⟩ := allW_app _ _ _ hy
          rw [List.drop_drop] at x2 y2
          have hp1 := part_val (w := w) (off := off) (L := LX) h1 (by omega)
          have hp2 := part_val (w := w) (off := off) (L := LY) h1 (by omega)
          have he := ih f.type z1 h1 w _ _ x1 y1
          have hr := fields_eq ih fs (off + z1.length) z2 LX LY w h2 hl (by omega) x2 y2
          have hlen : (LX.drop off).length = (LY.drop off).length := by simp [hl]
          rw [allW_split z1.length _ _ hlen, List.drop_drop, List.drop_drop]
          simp only [Op.eqFields, hn, ne_eq, not_false_eq_true, if_true, Sem.run_bind, ho, hp1, hp2, Result.andThen_ok, he]
          cases allW eqK ((LX.drop off).take z1.length) ((LY.drop off).take z1.length) with
          | false => rfl
          | true => simp only [Bool.not_true, Bool.false_eq_true, if_false, hr, Bool.true_and]
    · cases hz
theorem items_eq {d dd : Nat} {e : TypeId} {z : List D} (hz : flatK P d e = some z) (hc : P.cellsOf e = z.length) (ih : ∀ (w : World) lx ly, allW kindOk z lx = true → allW kindOk z ly = true → (Op.equalIn dd e (valT (aggT P e) lx) (valT (aggT P e) ly)).run P w = .ok (allW eqK lx ly) w) : ∀ (m k : Nat) (LX LY : List D) (w : World),
    LX.length = LY.length → (k + m) * z.length = LX.length → allW kindOk (List.replicate m z).flatten (LX.drop (k * z.length)) = true → allW kindOk (List.replicate m z).flatten (LY.drop (k * z.length)) = true →
    (Op.eqItems dd e (P.cellsOf e) (LX.map D.zv).toArray (LY.map D.zv).toArray (List.range' k m)).run P w = .ok (allW eqK (LX.drop (k * z.length)) (LY.drop (k * z.length))) w
  | 0, k, LX, LY, w, hl, hs, hx, hy => by
    simp only [Nat.add_zero] at hs
    rw [List.drop_eq_nil_of_le (by omega), List.drop_eq_nil_of_le (by omega)]
    rfl
  | m + 1, k, LX, LY, w, hl, hs, hx, hy => by
    simp only [List.replicate_succ, List.flatten_cons] at hx hy
    obtain ⟨x1, x2⟩ := allW_app _ _ _ hx
    obtain ⟨y1, y2⟩ := allW_app _ _ _ hy
    rw [List.drop_drop] at x2 y2
    have hk : k * z.length + z.length = (k + 1) * z.length := by rw [Nat.add_mul, Nat.one_mul]
    rw [hk] at x2 y2
    have hle : k * z.length + z.length ≤ LX.length := by
      rw [hk, ← hs]; exact Nat.mul_le_mul_right _ (by omega)
    have hp1 := part_val (w := w) (off := k * z.length) (L := LX) hz hle
    have hp2 := part_val (w := w) (off := k * z.length) (L := LY) hz (by omega)
    have he := ih w _ _ x1 y1
    have hr := items_eq hz hc ih m (k + 1) LX LY w hl (by rw [← hs]; congr 1; omega) x2 y2
    have hlen : (LX.drop (k * z.length)).length = (LY.drop (k * z.length)).length := by simp [hl]
    rw [allW_split z.length _ _ hlen, List.drop_drop, List.drop_drop, hk]
    rw [hc] at hr ⊢
    simp only [List.range'_succ, Op.eqItems, Sem.run_bind, hp1, hp2, Result.andThen_ok, he]
    cases allW eqK ((LX.drop (k * z.length)).take z.length) ((LY.drop (k * z.length)).take z.length) with
    | false => rfl
    | true => simp only [Bool.not_true, Bool.false_eq_true, if_false, hr, Bool.true_and]
theorem equal_flat : ∀ (d dd : Nat) (t : TypeId) (z : List D), flatK P d t = some z → ∀ (w : World) (lx ly : List D), allW kindOk z lx = true → allW kindOk z ly = true →
    (Op.equalIn (d + dd) t (valT (aggT P t) lx) (valT (aggT P t) ly)).run P w = .ok (allW eqK lx ly) w
  | 0, dd, t, z, h, w, lx, ly, hx, hy => by cases h
  | d + 1, dd, t, z, h, w, lx, ly, hx, hy => by
    have hlx := all2_len hx
    have hly := all2_len hy
    have ih := equal_flat d dd
    rw [show d + 1 + dd = (d + dd) + 1 by omega]
    unfold flatK at h
    split at h
    · rename_i k hu
      simp only [Option.some.injEq] at h; subst h
      match lx, ly, hx, hy with
      | [a], [b], hx, hy =>
        simp only [allW, Bool.and_true] at hx hy
        cases a <;> first | (cases hx; done) | skip
        cases b <;> first | (cases hy; done) | skip
        rename_i k1 a k2 b
        simp only [kindOk, decide_eq_true_eq] at hx hy
        subst hx; subst hy
        simp only [aggT, hu, valT, Bool.false_eq_true, if_false, D.zv, allW, eqK, Bool.and_true]
        exact run_equalIn_int w (d + dd) t k k a b hu
      | [], _, hx, _ => cases hx
      | _ :: _ :: _, _, hx, _ => simp [allW] at hx
      | [_], [], _, hy => cases hy
      | [_], _ :: _ :: _, _, hy => simp [allW] at hy
    · rename_i hu
      simp only [Option.some.injEq] at h; subst h
      match lx, ly, hx, hy with
      | [a], [b], hx, hy =>
        simp only [allW, Bool.and_true] at hx hy
        cases a <;> first | (cases hx; done) | skip
        cases b <;> first | (cases hy; done) | skip
        simp only [aggT, hu, valT, Bool.false_eq_true, if_false, D.zv, allW, eqK, Bool.and_true]
        exact run_equalIn_bool' w (d + dd) t _ _ hu
      | [], _, hx, _ => cases hx
      | _ :: _ :: _, _, hx, _ => simp [allW] at hx
      | [_], [], _, hy => cases hy
      | [_], _ :: _ :: _, _, hy => simp [allW] at hy
    · rename_i hu
      simp only [Option.some.injEq] at h; subst h
      match lx, ly, hx, hy with
      | [a], [b], hx, hy =>
        simp only [allW, Bool.and_true] at hx hy
        cases a <;> first | (cases hx; done) | skip
        cases b <;> first | (cases hy; done) | skip
        simp only [aggT, hu, valT, Bool.false_eq_true, if_false, D.zv, allW, eqK, Bool.and_true]
        exact run_equalIn_string w (d + dd) t _ _ hu
      | [], _, hx, _ => cases hx
      | _ :: _ :: _, _, hx, _ => simp [allW] at hx
      | [_], [], _, hy => cases hy
      | [_], _ :: _ :: _, _, hy => simp [allW] at hy
    · rename_i fs hu
      split at h
      · cases h
      · rename_i hsh
        cases hz : flatF (flatK P d) 0 fs.toList with
        | none => rw [hz] at h; cases h
        | some z' =>
          rw [hz] at h
          simp only [Option.bind_some] at h
          split at h
          · injection h with h; subst h
            have hfs : P.fieldsOf t = fs := by simp [Program.fieldsOf, hu]
            have hu' : P.underlying t = some (.struct (P.fieldsOf t)) := by rw [hfs]; exact hu
            have hag : aggT P t = true := by simp [aggT, hu]
            rw [hag]
            simp only [valT, if_true]
            rw [run_equalIn_agg w (d + dd) t _ _ hu' (by simpa using hsh), hfs]
            have := fields_eq (P := P) (d := d) (dd := d + dd) ih fs.toList 0 z' lx ly w hz (by omega) (by omega) (by simpa using hx) (by simpa using hy)
            simpa using this
          · cases h
    · rename_i n e hu
      cases hz : flatK P d e with
      | none => rw [hz] at h; cases h
      | some z' =>
        rw [hz] at h
        simp only [Option.bind_some] at h
        split at h
        · rename_i hs
          injection h with h; subst h
          obtain ⟨i, hi⟩ := Option.isSome_iff_exists.1 hs.2.1
          have hag : aggT P t = true := by simp [aggT, hu]
          rw [hag]
          simp only [valT, if_true]
          rw [run_equalIn_array w (d + dd) _ _ hu hi, List.range_eq_range']
          have hlen : (List.replicate n z').flatten.length = n * z'.length := by simp
          have := items_eq (P := P) (d := d) (dd := d + dd) hz hs.1 (fun w lx ly h1 h2 => ih e z' hz w lx ly h1 h2) n 0 lx ly w (by omega) (by simp; omega) (by simpa using hx) (by simpa using hy)
          simpa using this
        · cases h
    · cases h
theorem kind_val {z d : D} {v : Value} (hk : kindOk z d = true) (hr : Rd w ι M v d) : v = d.zv := by
  cases d <;> cases z <;> simp [kindOk] at hk <;> cases hr <;> rfl
theorem kinds_val : ∀ {z l : List D} {vs : List Value}, allW kindOk z l = true → RdL w ι M vs l → vs = l.map D.zv
  | [], [], vs, _, h => by simpa using List.eq_nil_of_length_eq_zero h.1
  | z :: zs, d :: l, [], _, h => by simp [RdL] at h
  | z :: zs, d :: l, v :: vs, hk, h => by
    simp only [allW, Bool.and_eq_true] at hk
    have e1 := kind_val hk.1 (h.2 0 v d rfl rfl)
    have e2 : vs = l.map D.zv := kinds_val hk.2 ⟨by simpa using h.1, fun j v d hv hd => h.2 (j + 1) v d (by simpa using hv) (by simpa using hd)⟩
    rw [List.map_cons, e1, e2]
  | [], _ :: _, vs, hk, _ => by cases hk
  | _ :: _, [], vs, hk, _ => by cases hk
def EqZOk (P : Program) (t : Nat) (z : EK) : Prop :=
  ∀ (w : World) (ι : Nat → Option Nat) (M : Nat → Prop) u v x y r, RdA w ι M u x → RdA w ι M v y → eqZ z x y = some r →
    (binOp .eql t u v).run P w = .ok (.bool r) w ∧ (binOp .neq t u v).run P w = .ok (.bool !r) w ∧ ∀ op p q, (eqGuard op t p q u v).run P w = .ok () w
theorem eqz_agg {t : Nat} {z : List D} (hz : flatK P 10 t = some z) (ha : aggT P t = true) (hg : P.eqGuardType P.depth t = false) : EqZOk P t (.agg z) := by
  intro w ι M u v x y r hx hy hr
  unfold eqZ at hr
  split at hr
  · rename_i z' l m he
    injection he with he; subst he
    split at hr
    · rename_i hk
      simp only [Bool.and_eq_true] at hk
      injection hr with hr; subst hr
      obtain ⟨cu, rfl, hcu⟩ := hx
      obtain ⟨cv, rfl, hcv⟩ := hy
      have eu : cu = (l.map D.zv).toArray := by have e := kinds_val hk.1 hcu; rw [← e]
      have ev : cv = (m.map D.zv).toArray := by have e := kinds_val hk.2 hcv; rw [← e]
      have h := equal_flat (P := P) 10 9990 t z hz w l m hk.1 hk.2
      rw [ha] at h
      simp only [valT, if_true] at h
      rw [eu, ev]
      refine ⟨?_, ?_, fun op a b => run_eqGuard_agg w op t a b _ _ hg⟩
      · rw [run_eql_struct, h]; rfl
      · rw [run_neq_struct, h]; rfl
    · cases hr
  all_goals first | (rename_i he; cases he; done) | (rename_i he _ _; cases he; done) | cases hr
theorem eqz_bool {t : Nat} (hu : P.underlying t = some .bool) : EqZOk P t .bool := by
  intro w ι M u v x y r hx hy hr
  unfold eqZ at hr
  split at hr
  case h_2 =>
    rename_i a b he
    injection hr with hr; subst hr
    have h1 : Rd w ι M u (.bool a) := hx
    have h2 : Rd w ι M v (.bool b) := hy
    cases h1; cases h2
    have h := run_equalIn_bool' (P := P) w 9999 t a b hu
    refine ⟨?_, ?_, fun op p q => ?_⟩
    · simp only [binOp]; simp [Op.equal, Op.maxDepth, h]
    · simp only [binOp]; simp [Op.equal, Op.maxDepth, h]
    · cases op <;> simp [eqGuard]
  all_goals first | (rename_i he; cases he; done) | (rename_i he _ _; cases he; done) | cases hr
theorem eqz_ptr {t e : Nat} (hu : P.underlying t = some (.pointer e)) : EqZOk P t .ptr := by
  intro w ι M u v x y r hx hy hr
  have hut : P.underlying t = some (.pointer (P.pointee t)) := by simp [Program.pointee, hu]
  have key : ∀ p, u = .pointer p → v = .pointer none → r = p.isNone → (binOp .eql t u v).run P w = .ok (.bool r) w ∧ (binOp .neq t u v).run P w = .ok (.bool !r) w ∧ ∀ op p q, (eqGuard op t p q u v).run P w = .ok () w := by
    rintro p rfl rfl rfl
    refine ⟨run_eql_pointer_nil w t p hut, run_neq_pointer_nil w t p hut, fun op a b => ?_⟩
    cases op <;> simp [eqGuard]
  unfold eqZ at hr
  split at hr
  case h_3 =>
    injection hr with hr
    have h1 : Rd w ι M u .nilp := hx
    have h2 : Rd w ι M v .nilp := hy
    cases h1; cases h2
    exact key none rfl rfl hr.symm
  case h_4 =>
    injection hr with hr
    rename_i o sz i off he
    have h1 : Rd w ι M u (.ptr o sz i off) := hx
    have h2 : Rd w ι M v .nilp := hy
    cases h1; cases h2
    exact key _ rfl rfl hr.symm
  all_goals first | (rename_i he; cases he; done) | (rename_i he _ _; cases he; done) | cases hr
theorem eqz_fn {t : Nat} {a b : Array TypeId} {c : Bool} (hu : P.underlying t = some (.func a b c)) : EqZOk P t .fn := by
  intro w ι M u v x y r hx hy hr
  have none_ : (Op.equalIn (9999 + 1) t .nilFunc .nilFunc).run P w = .ok true w := by
    generalize 9999 = n
    simp [Op.equalIn, run_underlying hu]
  have some_ : ∀ f g h, (Op.equalIn (9999 + 1) t (.func f g h) .nilFunc).run P w = .ok false w := fun f g h => by
    generalize 9999 = n
    simp [Op.equalIn, run_underlying hu]
  have fin : v = .nilFunc → (u = .nilFunc ∧ r = true ∨ ∃ f g h, u = .func f g h ∧ r = false) → (binOp .eql t u v).run P w = .ok (.bool r) w ∧ (binOp .neq t u v).run P w = .ok (.bool !r) w ∧ ∀ op p q, (eqGuard op t p q u v).run P w = .ok () w := by
    rintro rfl (⟨rfl, rfl⟩ | ⟨f, g, h, rfl, rfl⟩)
    · refine ⟨?_, ?_, fun op p q => ?_⟩
      · simp only [binOp]; simp [Op.equal, Op.maxDepth, none_]
      · simp only [binOp]; simp [Op.equal, Op.maxDepth, none_]
      · cases op <;> simp [eqGuard]
    · refine ⟨?_, ?_, fun op p q => ?_⟩
      · simp only [binOp]; simp [Op.equal, Op.maxDepth, some_]
      · simp only [binOp]; simp [Op.equal, Op.maxDepth, some_]
      · cases op <;> simp [eqGuard]
  unfold eqZ at hr
  split at hr
  case h_5 =>
    injection hr with hr
    have h1 : Rd w ι M u .nilf := hx
    have h2 : Rd w ι M v .nilf := hy
    cases h1; cases h2
    exact fin rfl (.inl ⟨rfl, hr.symm⟩)
  case h_6 =>
    injection hr with hr
    rename_i f he
    have h1 : Rd w ι M u (.fn f) := hx
    have h2 : Rd w ι M v .nilf := hy
    cases h1; cases h2
    exact fin rfl (.inr ⟨_, _, _, rfl, hr.symm⟩)
  case h_7 =>
    injection hr with hr
    rename_i f cs he
    have h1 : Rd w ι M u (.clo f cs) := hx
    have h2 : Rd w ι M v .nilf := hy
    cases h1; cases h2
    exact fin rfl (.inr ⟨_, _, _, rfl, hr.symm⟩)
  all_goals first | (rename_i he; cases he; done) | (rename_i he _ _; cases he; done) | cases hr
end
end Go.Proofs.YtmhinddneefmbaaGreat.Pe
