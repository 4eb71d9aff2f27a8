/- A part of the proof of JdH. -/
import Derived.Laws.StructEq
import Derived.Laws.Pointers
import Derived.ChangeKeysEq
import Derived.Test.YtmhinddneefmbaaGreatKf3
import Derived.Test.YtmhinddneefmbaaGreatKf5
set_option linter.unusedSimpArgs false
set_option linter.unusedVariables false
set_option linter.unusedSectionVars false
namespace Go.Proofs.YtmhinddneefmbaaGreat.Pe
open Go
def flatF (k : TypeId → Option (List D)) : Nat → List Field → Option (List D)
  | _, [] => some []
  | off, f :: fs => if f.name ≠ "_" ∧ f.offset = off then (k f.type).bind fun z => (flatF k (off + z.length) fs).map (z ++ ·) else none
def flatK (P : Program) : Nat → TypeId → Option (List D)
  | 0, _ => none
  | d + 1, t => match P.underlying t with
    | some (.int k) => some [.int k 0]
    | some .bool => some [.bool false]
    | some .string => some [.str ⟨#[]⟩]
    | some (.struct fs) => if P.stoodInHeld t then none else (flatF (flatK P d) 0 fs.toList).bind fun z => if (P.info? t).map (·.size) = some z.length then some z else none
    | some (.array n e) => (flatK P d e).bind fun z => if P.cellsOf e = z.length ∧ (P.info? e).isSome = true ∧ (P.info? t).map (·.size) = some (n * z.length) then some (List.replicate n z).flatten else none
    | _ => none
def aggT (P : Program) (t : TypeId) : Bool := match P.underlying t with
  | some (.struct _) | some (.array _ _) => true
  | _ => false
def valT (ag : Bool) (l : List D) : Value := if ag then .agg (l.map D.zv).toArray else match l with
  | [d] => d.zv
  | _ => undef
section
variable {P : Program} {w : World} {ι : Nat → Option Nat} {M : Nat → Prop}
theorem all2_len {α γ : Type} {f : α → γ → Bool} : ∀ {l : List α} {m : List γ}, allW f l m = true → l.length = m.length
  | [], [], _ => rfl
  | x :: l, y :: m, h => by
    simp only [allW, Bool.and_eq_true] at h
    simp [all2_len h.2]
  | [], _ :: _, h => by cases h
  | _ :: _, [], h => by cases h
theorem allW_app {α γ : Type} {f : α → γ → Bool} : ∀ (l l' : List α) (m : List γ), allW f (l ++ l') m = true → allW f l (m.take l.length) = true ∧ allW f l' (m.drop l.length) = true
  | [], l', m, h => ⟨rfl, h⟩
  | x :: l, l', y :: m, h => by
    simp only [List.cons_append, allW, Bool.and_eq_true] at h
    obtain ⟨h1, h2⟩ := allW_app l l' m h.2
    simp only [List.length_cons, List.take_succ_cons, List.drop_succ_cons, allW, Bool.and_eq_true]
    exact ⟨⟨h.1, h1⟩, h2⟩
  | _ :: _, _, [], h => by cases h
theorem allW_split {α γ : Type} {f : α → γ → Bool} : ∀ (n : Nat) (l : List α) (m : List γ), l.length = m.length → allW f l m = (allW f (l.take n) (m.take n) && allW f (l.drop n) (m.drop n))
  | 0, l, m, _ => by simp [allW]
  | n + 1, [], [], _ => rfl
  | n + 1, x :: l, y :: m, h => by
    simp only [List.take_succ_cons, List.drop_succ_cons, allW]
    rw [allW_split n l m (by simpa using h), Bool.and_assoc]
  | n + 1, [], y :: m, h => by simp at h
  | n + 1, x :: l, [], h => by simp at h
theorem flatK_size : ∀ (d : Nat) (t : TypeId) (z : List D), flatK P d t = some z → (isAgg t).run P w = .ok (aggT P t) w ∧ (aggT P t = true → (sizeOf t).run P w = .ok z.length w) ∧ (aggT P t = false → z.length = 1)
  | 0, t, z, h => by cases h
  | d + 1, t, z, h => by
    unfold flatK at h
    unfold aggT
    have sz : ∀ n, (P.info? t).map (·.size) = some n → (sizeOf t).run P w = .ok n w := fun n hn => by
      cases hi : P.info? t with
      | none => rw [hi] at hn; cases hn
      | some i =>
        rw [hi] at hn
        simp only [Option.map_some, Option.some.injEq] at hn
        rw [run_sizeOf' hi, hn]
    split at h
    · rename_i k hu
      simp only [Option.some.injEq] at h; subst h
      rw [hu]; exact ⟨by simp [isAgg, run_underlying hu], by simp, by simp⟩
    · rename_i hu
      simp only [Option.some.injEq] at h; subst h
      rw [hu]; exact ⟨by simp [isAgg, run_underlying hu], by simp, by simp⟩
    · rename_i hu
      simp only [Option.some.injEq] at h; subst h
      rw [hu]; exact ⟨by simp [isAgg, run_underlying hu], by simp, by simp⟩
    · rename_i fs hu
      rw [hu]
      split at h
      · cases h
      · cases hz : flatF (flatK P d) 0 fs.toList with
        | none => rw [hz] at h; cases h
        | some z' =>
          rw [hz] at h
          simp only [Option.bind_some] at h
          split at h
          · rename_i hs
            injection h with h; subst h
            exact ⟨by simp [isAgg, run_underlying hu], fun _ => sz _ hs, by simp⟩
          · cases h
    · rename_i n e hu
      rw [hu]
      cases hz : flatK P d e with
      | none => rw [hz] at h; cases h
      | some z' =>
        rw [hz] at h
        simp only [Option.bind_some] at h
        split at h
        · rename_i hs
          injection h with h; subst h
          exact ⟨by simp [isAgg, run_underlying hu], fun _ => by rw [sz _ hs.2.2]; simp, by simp⟩
        · cases h
    · cases h
theorem part_val {d : Nat} {t : TypeId} {z L : List D} {off : Nat} (hz : flatK P d t = some z) (hl : off + z.length ≤ L.length) : (part t (L.map D.zv).toArray off).run P w = .ok (valT (aggT P t) ((L.drop off).take z.length)) w := by
  obtain ⟨h1, h2, h3⟩ := flatK_size (w := w) d t z hz
  unfold part
  cases ha : aggT P t with
  | true =>
    rw [ha] at h1 h2
    simp only [Sem.run_bind, h1, Result.andThen_ok, if_true, h2 rfl, Sem.run_pure, valT]
    congr 2
    simp
  | false =>
    rw [ha] at h1 h3
    have hz1 := h3 rfl
    have hlt : off < L.length := by omega
    simp only [Sem.run_bind, h1, Result.andThen_ok, Bool.false_eq_true, if_false, valT, hz1]
    have hd : (L.drop off).take 1 = [L[off]] := by rw [List.drop_eq_getElem_cons hlt]; rfl
    rw [hd]
    have : (L.map D.zv).toArray[off]? = some (D.zv L[off]) := by simp [hlt]
    rw [this]; rfl
theorem fields_eq {d dd : Nat} (ih : ∀ t z, flatK P d t = some z → ∀ (w : World) lx ly, allW kindOk z lx = true → allW kindOk z ly = true → (Op.equalIn dd t (valT (aggT P t) lx) (valT (aggT P t) ly)).run P w = .ok (allW eqK lx ly) w) : ∀ (fs : List Field) (off : Nat) (z : List D) (LX LY : List D) (w : World), flatF (flatK P d) off fs = some z →
    LX.length = LY.length → off + z.length = LX.length → allW kindOk z (LX.drop off) = true → allW kindOk z (LY.drop off) = true →
    (Op.eqFields dd (LX.map D.zv).toArray (LY.map D.zv).toArray fs).run P w = .ok (allW eqK (LX.drop off) (LY.drop off)) w
  | [], off, z, LX, LY, w, hz, hl, hs, hx, hy => by
    simp only [flatF, Option.some.injEq] at hz
    subst hz
    simp only [List.length_nil, Nat.add_zero] at hs
    rw [List.drop_eq_nil_of_le (by omega), List.drop_eq_nil_of_le (by omega)]
    rfl
  | f :: fs, off, z, LX, LY, w, hz, hl, hs, hx, hy => by
    simp only [flatF] at hz
    split at hz
    · rename_i hf
      obtain ⟨hn, ho⟩ := hf
      cases h1 : flatK P d f.type with
      | none => rw [h1] at hz; cases hz
      | some z1 =>
        rw [h1] at hz
        simp only [Option.bind_some] at hz
        cases h2 : flatF (flatK P d) (off + z1.length) fs with
        | none => rw [h2] at hz; cases hz
        | some z2 =>
          rw [h2] at hz
          simp only [Option.map_some, Option.some.injEq] at hz
          subst hz
          simp only [List.length_append] at hs
          obtain ⟨x1, x2⟩ := allW_app _ _ _ hx
          obtain ⟨y1, y2⟩ := allW_app _ _ _ hy
          rw [List.drop_drop] at x2 y2
          have hp1 := part_val (w := w) (off := off) (L := LX) h1 (by omega)
          have hp2 := part_val (w := w) (off := off) (L := LY) h1 (by omega)
          have he := ih f.type z1 h1 w _ _ x1 y1
          have hr := fields_eq ih fs (off + z1.length) z2 LX LY w h2 hl (by omega) x2 y2
          have hlen : (LX.drop off).length = (LY.drop off).length := by simp [hl]
          rw [allW_split z1.length _ _ hlen, List.drop_drop, List.drop_drop]
          simp only [Op.eqFields, hn, ne_eq, not_false_eq_true, if_true, Sem.run_bind, ho, hp1, hp2, Result.andThen_ok, he]
          cases allW eqK ((LX.drop off).take z1.length) ((LY.drop off).take z1.length) with
          | false => rfl
          | true => simp only [Bool.not_true, Bool.false_eq_true, if_false, hr, Bool.true_and]
    · cases hz
theorem items_eq {d dd : Nat} {e : TypeId} {z : List D} (hz : flatK P d e = some z) (hc : P.cellsOf e = z.length) (ih : ∀ (w : World) lx ly, allW kindOk z lx = true → allW kindOk z ly = true → (Op.equalIn dd e (valT (aggT P e) lx) (valT (aggT P e) ly)).run P w = .ok (allW eqK lx ly) w) : ∀ (m k : Nat) (LX LY : List D) (w : World),
    LX.length = LY.length → (k + m) * z.length = LX.length → allW kindOk (List.replicate m z).flatten (LX.drop (k * z.length)) = true → allW kindOk (List.replicate m z).flatten (LY.drop (k * z.length)) = true →
    (Op.eqItems dd e (P.cellsOf e) (LX.map D.zv).toArray (LY.map D.zv).toArray (List.range' k m)).run P w = .ok (allW eqK (LX.drop (k * z.length)) (LY.drop (k * z.length))) w
  | 0, k, LX, LY, w, hl, hs, hx, hy => by
    simp only [Nat.add_zero] at hs
    rw [List.drop_eq_nil_of_le (by omega), List.drop_eq_nil_of_le (by omega)]
    rfl
  | m + 1, k, LX, LY, w, hl, hs, hx, hy => by
    simp only [List.replicate_succ, List.flatten_cons] at hx hy
    obtain ⟨x1, x2⟩ := allW_app _ _ _ hx
    obtain ⟨y1, y2⟩ := allW_app _ _ _ hy
    rw [List.drop_drop] at x2 y2
    have hk : k * z.length + z.length = (k + 1) * z.length := by rw [Nat.add_mul, Nat.one_mul]
    rw [hk] at x2 y2
    have hle : k * z.length + z.length ≤ LX.length := by
      rw [hk, ← hs]; exact Nat.mul_le_mul_right _ (by omega)
    have hp1 := part_val (w := w) (off := k * z.length) (L := LX) hz hle
    have hp2 := part_val (w := w) (off := k * z.length) (L := LY) hz (by omega)
    have he := ih w _ _ x1 y1
    have hr := items_eq hz hc ih m (k + 1) LX LY w hl (by rw [← hs]; congr 1; omega) x2 y2
    have hlen : (LX.drop (k * z.length)).length = (LY.drop (k * z.length)).length := by simp [hl]
    rw [allW_split z.length _ _ hlen, List.drop_drop, List.drop_drop, hk]
    rw [hc] at hr ⊢
    simp only [List.range'_succ, Op.eqItems, Sem.run_bind, hp1, hp2, Result.andThen_ok, he]
    cases allW eqK ((LX.drop (k * z.length)).take z.length) ((LY.drop (k * z.length)).take z.length) with
    | false => rfl
    | true => simp only [Bool.not_true, Bool.false_eq_true, if_false, hr, Bool.true_and]
theorem equal_flat : ∀ (d dd : Nat) (t : TypeId) (z : List D), flatK P d t = some z → ∀ (w : World) (lx ly : List D), allW kindOk z lx = true → allW kindOk z ly = true →
    (Op.equalIn (d + dd) t (valT (aggT P t) lx) (valT (aggT P t) ly)).run P w = .ok (allW eqK lx ly) w
  | 0, dd, t, z, h, w, lx, ly, hx, hy => by cases h
  | d + 1, dd, t, z, h, w, lx, ly, hx, hy => by
    have hlx := all2_len hx
    have hly := all2_len hy
    have ih := equal_flat d dd
    rw [show d + 1 + dd = (d + dd) + 1 by omega]
    unfold flatK at h
    split at h
    · rename_i k hu
      simp only [Option.some.injEq] at h; subst h
      match lx, ly, hx, hy with
      | [a], [b], hx, hy =>
        simp only [allW, Bool.and_true] at hx hy
        cases a <;> first | (cases hx; done) | skip
        cases b <;> first | (cases hy; done) | skip
        rename_i k1 a k2 b
        simp only [kindOk, decide_eq_true_eq] at hx hy
        subst hx; subst hy
        simp only [aggT, hu, valT, Bool.false_eq_true, if_false, D.zv, allW, eqK, Bool.and_true]
        exact run_equalIn_int w (d + dd) t k k a b hu
      | [], _, hx, _ => cases hx
      | _ :: _ :: _, _, hx, _ => simp [allW] at hx
      | [_], [], _, hy => cases hy
      | [_], _ :: _ :: _, _, hy => simp [allW] at hy
    · rename_i hu
      simp only [Option.some.injEq] at h; subst h
      match lx, ly, hx, hy with
      | [a], [b], hx, hy =>
        simp only [allW, Bool.and_true] at hx hy
        cases a <;> first | (cases hx; done) | skip
        cases b <;> first | (cases hy; done) | skip
        simp only [aggT, hu, valT, Bool.false_eq_true, if_false, D.zv, allW, eqK, Bool.and_true]
        exact run_equalIn_bool' w (d + dd) t _ _ hu
      | [], _, hx, _ => cases hx
      | _ :: _ :: _, _, hx, _ => simp [allW] at hx
      | [_], [], _, hy => cases hy
      | [_], _ :: _ :: _, _, hy => simp [allW] at hy
    · rename_i hu
      simp only [Option.some.injEq] at h; subst h
      match lx, ly, hx, hy with
      | [a], [b], hx, hy =>
        simp only [allW, Bool.and_true] at hx hy
        cases a <;> first | (cases hx; done) | skip
        cases b <;> first | (cases hy; done) | skip
        simp only [aggT, hu, valT, Bool.false_eq_true, if_false, D.zv, allW, eqK, Bool.and_true]
        exact run_equalIn_string w (d + dd) t _ _ hu
      | [], _, hx, _ => cases hx
      | _ :: _ :: _, _, hx, _ => simp [allW] at hx
      | [_], [], _, hy => cases hy
      | [_], _ :: _ :: _, _, hy => simp [allW] at hy
    · rename_i fs hu
      split at h
      · cases h
      · rename_i hsh
        cases hz : flatF (flatK P d) 0 fs.toList with
        | none => rw [hz] at h; cases h
        | some z' =>
          rw [hz] at h
          simp only [Option.bind_some] at h
          split at h
          · injection h with h; subst h
            have hfs : P.fieldsOf t = fs := by simp [Program.fieldsOf, hu]
            have hu' : P.underlying t = some (.struct (P.fieldsOf t)) := by rw [hfs]; exact hu
            have hag : aggT P t = true := by simp [aggT, hu]
            rw [hag]
            simp only [valT, if_true]
            rw [run_equalIn_agg w (d + dd) t _ _ hu' (by simpa using hsh), hfs]
            have := fields_eq (P := P) (d := d) (dd := d + dd) ih fs.toList 0 z' lx ly w hz (by omega) (by omega) (by simpa using hx) (by simpa using hy)
            simpa using this
          · cases h
    · rename_i n e hu
      cases hz : flatK P d e with
      | none => rw [hz] at h; cases h
      | some z' =>
        rw [hz] at h
        simp only [Option.bind_some] at h
        split at h
        · rename_i hs
          injection h with h; subst h
          obtain ⟨i, hi⟩ := Option.isSome_iff_exists.1 hs.2.1
          have hag : aggT P t = true := by simp [aggT, hu]
          rw [hag]
          simp only [valT, if_true]
          rw [run_equalIn_array w (d + dd) _ _ hu hi, List.range_eq_range']
          have hlen : (List.replicate n z').flatten.length = n * z'.length := by simp
          have := items_eq (P := P) (d := d) (dd := d + dd) hz hs.1 (fun w lx ly h1 h2 => ih e z' hz w lx ly h1 h2) n 0 lx ly w (by omega) (by simp; omega) (by simpa using hx) (by simpa using hy)
          simpa using this
        · cases h
    · cases h
theorem kind_val {z d : D} {v : Value} (hk : kindOk z d = true) (hr : Rd w ι M v d) : v = d.zv := by
  cases d <;> cases z <;> simp [kindOk] at hk <;> cases hr <;> rfl
theorem kinds_val : ∀ {z l : List D} {vs : List Value}, allW kindOk z l = true → RdL w ι M vs l → vs = l.map D.zv
  | [], [], vs, _, h => by simpa using List.eq_nil_of_length_eq_zero h.1
  | z :: zs, d :: l, [], _, h => by simp [RdL] at h
  | z :: zs, d :: l, v :: vs, hk, h => by
    simp only [allW, Bool.and_eq_true] at hk
    have e1 := kind_val hk.1 (h.2 0 v d rfl rfl)
    have e2 : vs = l.map D.zv := kinds_val hk.2 ⟨by simpa using h.1, fun j v d hv hd => h.2 (j + 1) v d (by simpa using hv) (by simpa using hd)⟩
    rw [List.map_cons, e1, e2]
  | [], _ :: _, vs, hk, _ => by cases hk
  | _ :: _, [], vs, hk, _ => by cases hk
def EqZOk (P : Program) (t : Nat) (z : EK) : Prop :=
  ∀ (w : World) (ι : Nat → Option Nat) (M : Nat → Prop) u v x y r, RdA w ι M u x → RdA w ι M v y → eqZ z x y = some r →
    (binOp .eql t u v).run P w = .ok (.bool r) w ∧ (binOp .neq t u v).run P w = .ok (.bool !r) w ∧ ∀ op p q, (eqGuard op t p q u v).run P w = .ok () w
theorem eqz_agg {t : Nat} {z : List D} (hz : flatK P 10 t = some z) (ha : aggT P t = true) (hg : P.eqGuardType P.depth t = false) : EqZOk P t (.agg z) := by
  intro w ι M u v x y r hx hy hr
  unfold eqZ at hr
  split at hr
  · rename_i z' l m he
    injection he with he; subst he
    split at hr
    · rename_i hk
      simp only [Bool.and_eq_true] at hk
      injection hr with hr; subst hr
      obtain ⟨cu, rfl, hcu⟩ := hx
      obtain ⟨cv, rfl, hcv⟩ := hy
      have eu : cu = (l.map D.zv).toArray := by have e := kinds_val hk.1 hcu; rw [← e]
      have ev : cv = (m.map D.zv).toArray := by have e := kinds_val hk.2 hcv; rw [← e]
      have h := equal_flat (P := P) 10 9990 t z hz w l m hk.1 hk.2
      rw [ha] at h
      simp only [valT, if_true] at h
      rw [eu, ev]
      refine ⟨?_, ?_, fun op a b => run_eqGuard_agg w op t a b _ _ hg⟩
      · rw [run_eql_struct, h]; rfl
      · rw [run_neq_struct, h]; rfl
    · cases hr
  all_goals first | (rename_i he; cases he; done) | (rename_i he _ _; cases he; done) | cases hr
theorem eqz_bool {t : Nat} (hu : P.underlying t = some .bool) : EqZOk P t .bool := by
  intro w ι M u v x y r hx hy hr
  unfold eqZ at hr
  split at hr
  case h_2 =>
    rename_i a b he
    injection hr with hr; subst hr
    have h1 : Rd w ι M u (.bool a) := hx
    have h2 : Rd w ι M v (.bool b) := hy
    cases h1; cases h2
    have h := run_equalIn_bool' (P := P) w 9999 t a b hu
    refine ⟨?_, ?_, fun op p q => ?_⟩
    · simp only [binOp]; simp [Op.equal, Op.maxDepth, h]
    · simp only [binOp]; simp [Op.equal, Op.maxDepth, h]
    · cases op <;> simp [eqGuard]
  all_goals first | (rename_i he; cases he; done) | (rename_i he _ _; cases he; done) | cases hr
theorem eqz_ptr {t e : Nat} (hu : P.underlying t = some (.pointer e)) : EqZOk P t .ptr := by
  intro w ι M u v x y r hx hy hr
  have hut : P.underlying t = some (.pointer (P.pointee t)) := by simp [Program.pointee, hu]
  have key : ∀ p, u = .pointer p → v = .pointer none → r = p.isNone → (binOp .eql t u v).run P w = .ok (.bool r) w ∧ (binOp .neq t u v).run P w = .ok (.bool !r) w ∧ ∀ op p q, (eqGuard op t p q u v).run P w = .ok () w := by
    rintro p rfl rfl rfl
    refine ⟨run_eql_pointer_nil w t p hut, run_neq_pointer_nil w t p hut, fun op a b => ?_⟩
    cases op <;> simp [eqGuard]
  unfold eqZ at hr
  split at hr
  case h_3 =>
    injection hr with hr
    have h1 : Rd w ι M u .nilp := hx
    have h2 : Rd w ι M v .nilp := hy
    cases h1; cases h2
    exact key none rfl rfl hr.symm
  case h_4 =>
    injection hr with hr
    rename_i o sz i off he
    have h1 : Rd w ι M u (.ptr o sz i off) := hx
    have h2 : Rd w ι M v .nilp := hy
    cases h1; cases h2
    exact key _ rfl rfl hr.symm
  all_goals first | (rename_i he; cases he; done) | (rename_i he _ _; cases he; done) | cases hr
theorem eqz_fn {t : Nat} {a b : Array TypeId} {c : Bool} (hu : P.underlying t = some (.func a b c)) : EqZOk P t .fn := by
  intro w ι M u v x y r hx hy hr
  have none_ : (Op.equalIn (9999 + 1) t .nilFunc .nilFunc).run P w = .ok true w := by
    generalize 9999 = n
    simp [Op.equalIn, run_underlying hu]
  have some_ : ∀ f g h, (Op.equalIn (9999 + 1) t (.func f g h) .nilFunc).run P w = .ok false w := fun f g h => by
    generalize 9999 = n
    simp [Op.equalIn, run_underlying hu]
  have fin : v = .nilFunc → (u = .nilFunc ∧ r = true ∨ ∃ f g h, u = .func f g h ∧ r = false) → (binOp .eql t u v).run P w = .ok (.bool r) w ∧ (binOp .neq t u v).run P w = .ok (.bool !r) w ∧ ∀ op p q, (eqGuard op t p q u v).run P w = .ok () w := by
    rintro rfl (⟨rfl, rfl⟩ | ⟨f, g, h, rfl, rfl⟩)
    · refine ⟨?_, ?_, fun op p q => ?_⟩
      · simp only [binOp]; simp [Op.equal, Op.maxDepth, none_]
      · simp only [binOp]; simp [Op.equal, Op.maxDepth, none_]
      · cases op <;> simp [eqGuard]
    · refine ⟨?_, ?_, fun op p q => ?_⟩
      · simp only [binOp]; simp [Op.equal, Op.maxDepth, some_]
      · simp only [binOp]; simp [Op.equal, Op.maxDepth, some_]
      · cases op <;> simp [eqGuard]
  unfold eqZ at hr
  split at hr
  case h_5 =>
    injection hr with hr
    have h1 : Rd w ι M u .nilf := hx
    have h2 : Rd w ι M v .nilf := hy
    cases h1; cases h2
    exact fin rfl (.inl ⟨rfl, hr.symm⟩)
  case h_6 =>
    injection hr with hr
    rename_i f he
    have h1 : Rd w ι M u (.fn f) := hx
    have h2 : Rd w ι M v .nilf := hy
    cases h1; cases h2
    exact fin rfl (.inr ⟨_, _, _, rfl, hr.symm⟩)
  case h_7 =>
    injection hr with hr
    rename_i f cs he
    have h1 : Rd w ι M u (.clo f cs) := hx
    have h2 : Rd w ι M v .nilf := hy
    cases h1; cases h2
    exact fin rfl (.inr ⟨_, _, _, rfl, hr.symm⟩)
  all_goals first | (rename_i he; cases he; done) | (rename_i he _ _; cases he; done) | cases hr
end
end Go.Proofs.YtmhinddneefmbaaGreat.Pe
namespace Go.Proofs.YtmhinddneefmbaaGreat.Pe
open Go
structure Ext0 (w w' : World) : Prop where
  os : w'.os = w.os
  tape : w'.tape = w.tape
  output : w'.output = w.output
  size : w.heap.size ≤ w'.heap.size
  same : ∀ b, b < w.heap.size → w'.heap[b]? = w.heap[b]?
def FnPure (P : Program) (f : Nat) (F : List AD → Option RV) : Prop :=
  ∀ ads r, F ads = some r → ∀ (w : World) (ι : Nat → Option Nat) (M : Nat → Prop) (vals : Array Value), (∀ b, M b → b < w.heap.size) → (∃ nx, ∀ o, nx ≤ o ↔ ι o = none) → vals.size = ads.length →
    (∀ (j : Nat) v a, vals[j]? = some v → ads[j]? = some a → RdA w ι M v a) →
    Calls P f vals w fun e w' => ∃ v, e = .returned v ∧ RdV w' ι M v r ∧ Ext0 w w'
def FnNew (P : Program) (f : Nat) (F : List AD → Option (Nat × Nat × List (List D))) : Prop :=
  ∀ ads r, F ads = some r → ∀ (w : World) (ι : Nat → Option Nat) (M : Nat → Prop) (vals : Array Value), (∀ b, M b → b < w.heap.size) → (∃ nx, ∀ o, nx ≤ o ↔ ι o = none) → vals.size = ads.length →
    (∀ (j : Nat) v a, vals[j]? = some v → ads[j]? = some a → RdA w ι M v a) →
    Calls P f vals w fun e w' => ∃ v, e = .returned v ∧ Ext0 w w' ∧ 0 < r.2.1 ∧ ((v = .slice none 0 0 ∧ r.2.2 = []) ∨
      ∃ b cs cap, w.heap.size ≤ b ∧ v = .slice (some ⟨b, 0, none⟩) r.2.2.length cap ∧ r.2.2.length ≤ cap ∧ cap ≤ maxLen ∧ cs.size = cap * r.2.1 ∧ Blk w' ι (fun x => M x ∨ x = b) b r.1 cs r.2.1 r.2.2)
structure HeapOk (w : World) (ι : Nat → Option Nat) (M : Nat → Prop) (H : Hp) (nx : Nat) : Prop where
  new : ∀ o, nx ≤ o ↔ ι o = none
  objs : ∀ o ob, H o = some ob → ∃ b, ι o = some b ∧ ObjAt w ι M b ob
  inj : ∀ o o' x x' b, H o = some x → H o' = some x' → ι o = some b → ι o' = some b → o = o'
  ctl : ∀ o x b, H o = some x → ι o = some b → M b
def FnExt (P : Program) (f : Nat) (F : List AD → Hp → Nat → Option RV) : Prop :=
  ∀ ads H nx r, F ads H nx = some r → ∀ (w : World) (ι : Nat → Option Nat) (M : Nat → Prop) (vals : Array Value), HeapOk w ι M H nx → vals.size = ads.length →
    (∀ (j : Nat) v a, vals[j]? = some v → ads[j]? = some a → RdA w ι M v a) →
    ∃ v, (callFunc f vals).run P w = .ok (.value v) w ∧ RdV w ι M v r
def FnEff (P : Program) (f : Nat) (F : List AD → Hp → Nat → Option (RV × Hp × Nat)) : Prop :=
  ∀ ads H nx r H' nx', F ads H nx = some (r, H', nx') → ∀ (w : World) (ι : Nat → Option Nat) (M : Nat → Prop) (vals : Array Value), (∀ b, M b → b < w.heap.size) → HeapOk w ι M H nx → vals.size = ads.length →
    (∀ (j : Nat) v a, vals[j]? = some v → ads[j]? = some a → RdA w ι M v a) →
    Calls P f vals w fun e w' => ∃ v ι' M', e = .returned v ∧ RdV w' ι' M' v r ∧ HeapOk w' ι' M' H' nx' ∧ (∀ o b, ι o = some b → ι' o = some b) ∧ Evo (fun _ => False) (fun b => ∃ o x, H o = some x ∧ ι o = some b) w (fun b => ∃ o x, H' o = some x ∧ ι' o = some b) w' ∧
      (∀ b, M b → (∀ o x, H o = some x → ι o ≠ some b) → M' b) ∧ (∀ b, b < w.heap.size → M' b → M b) ∧ (∀ b, M' b → b < w'.heap.size)
structure EffTo (w : World) (ι : Nat → Option Nat) (M : Nat → Prop) (H : Hp) (w' : World) (ι' : Nat → Option Nat) (M' : Nat → Prop) (H' : Hp) (nx' : Nat) : Prop where
  ok : HeapOk w' ι' M' H' nx'
  ext : ∀ o b, ι o = some b → ι' o = some b
  evo : Evo (fun _ => False) (fun b => ∃ o x, H o = some x ∧ ι o = some b) w (fun b => ∃ o x, H' o = some x ∧ ι' o = some b) w'
  kept : ∀ b, M b → (∀ o x, H o = some x → ι o ≠ some b) → M' b
  back : ∀ b, b < w.heap.size → M' b → M b
  lt : ∀ b, M' b → b < w'.heap.size
def YldOk (P : Program) (F : Nat → List AD → Hp → Nat → Option (Bool × Hp × Nat)) : Prop :=
  ∀ lp ads H nx r H' nx', F lp ads H nx = some (r, H', nx') → ∀ (w : World) (ι : Nat → Option Nat) (M : Nat → Prop) (vals : Array Value), (∀ b, M b → b < w.heap.size) → HeapOk w ι M H nx → vals.size = ads.length →
    (∀ (j : Nat) v a, vals[j]? = some v → ads[j]? = some a → RdA w ι M v a) →
    ∃ l fn tmps assign body, ι lp = some l ∧ (Instr.yield l vals).run P w = .ok (.round l fn tmps assign body) w ∧
      ∀ n, RoundIn Fence.wide n P l fn tmps assign body w fun e w' => ∃ ι' M', e = .returned (.bool r) ∧ EffTo w ι M H w' ι' M' H' nx'
def FnRd (P : Program) (f : Nat) (F : List AD → Hp → Nat → Option RV) : Prop := FnEff P f fun ads H nx => (F ads H nx).map fun r => (r, H, nx)
def calleeOk (P : Program) (f : Nat) : Bool := match P.funcs[f]? with
  | some fn => fn.name != "runtime.NumGoroutine" && fn.body.isSome
  | none => false
def EqOk (P : Program) (t n : Nat) : Prop :=
  ∀ (w : World) (ι : Nat → Option Nat) (M : Nat → Prop) u v x y r, RdA w ι M u x → RdA w ι M v y → fitEq n x y = true → eqAD x y = some r →
    (binOp .eql t u v).run P w = .ok (.bool r) w ∧ (binOp .neq t u v).run P w = .ok (.bool !r) w ∧ ∀ op p q, (eqGuard op t p q u v).run P w = .ok () w
structure Ctx.Ok (C : Ctx) (P : Program) : Prop where
  tt : ∀ t, C.tt t = dflt ∨ TyOk P t (C.tt t)
  pure : ∀ f F, C.fns f = .pure F → FnPure P f F ∧ calleeOk P f = true
  eff : ∀ f F, C.fns f = .eff F → FnEff P f F ∧ calleeOk P f = true
  eqs : ∀ t, C.eqs t = true → EqOk P t (C.tt t).eqn
  new : ∀ f F, C.fns f = .new F → FnNew P f F ∧ calleeOk P f = true
  ext : ∀ f F, C.fns f = .ext F → FnExt P f F
  rd : ∀ f F, C.fns f = .rd F → FnRd P f F ∧ calleeOk P f = true
  yld : YldOk P C.yld
  eqz : ∀ t k, C.eqz t = some k → EqZOk P t k
section
variable {P : Program} {C : Ctx} {E E1 : Env} {a : Act} {w : World} {ι β : Nat → Option Nat} {M : Nat → Prop} {K : Act → World → Prop} {Qx : Exit → Act → World → Prop} {o : Oper} {d : Nat} {U : Nat → Prop} {γ : Nat}
theorem lenQ_sound {x : Operand} {n : Nat} (h : Sim C E a w ι β M) (hq : (lenQ x).run E = some (n, E1)) : E1 = E ∧ ∃ A c, a.eval x = .slice A n c := by
  cases x with
  | tmp t =>
    have hh := h.hold t
    simp only [lenQ, Q.run] at hq
    have own : ∀ s g e sz rows, E s = .own g e sz rows → ∃ A c, valOf a s = .slice A rows.length c := fun s g e sz rows hE => by
      have hh := h.hold s
      rw [hE] at hh
      obtain ⟨_, hh⟩ := hh
      rcases hh with ⟨h1, h2, _⟩ | ⟨b, cs, cap, _, h2, _⟩
      · subst h2; exact ⟨none, 0, h1⟩
      · exact ⟨_, _, h2⟩
    cases hE : E t with
    | own g e sz rows =>
      rw [hE] at hq
      obtain ⟨rfl, rfl⟩ := ret_run hq
      obtain ⟨A, c, hv⟩ := own t g e sz rows hE
      exact ⟨rfl, A, c, hv⟩
    | vw s g =>
      rw [hE] at hq hh
      simp only [Q.run] at hq
      cases hS : E s with
      | own g' e sz rows =>
        rw [hS] at hq
        simp only at hq
        split at hq
        · rename_i hg; subst hg
          obtain ⟨rfl, rfl⟩ := ret_run hq
          obtain ⟨A, c, hv⟩ := own s g e sz rows hS
          exact ⟨rfl, A, c, (hh e sz rows hS).trans hv⟩
        · cases hq
      | _ => rw [hS] at hq; cases hq
    | v y =>
      rw [hE] at hq hh
      cases y with
      | one dd =>
        have hr : Rd w ι M (valOf a t) dd := hh
        cases dd with
        | sl rows =>
          obtain ⟨rfl, rfl⟩ := ret_run hq
          rcases hr.imm with ⟨A, c, h1, h2⟩ | ⟨ad, c, sz, h1, _⟩
          · subst h2; exact ⟨rfl, A, c, h1⟩
          · exact ⟨rfl, _, c, h1⟩
        | ref ob sz i n' =>
          obtain ⟨rfl, rfl⟩ := ret_run hq
          refine ⟨rfl, ?_⟩
          show ∃ A c, valOf a t = _
          generalize valOf a t = u at hr
          cases hr with
          | ref _ _ _ _ c b hb _ _ _ _ => exact ⟨_, _, rfl⟩
        | nils =>
          obtain ⟨rfl, rfl⟩ := ret_run hq
          refine ⟨rfl, ?_⟩
          show ∃ A c, valOf a t = _
          generalize valOf a t = u at hr
          cases hr with
          | nils => exact ⟨_, _, rfl⟩
        | refc ob sz i n' cc =>
          obtain ⟨rfl, rfl⟩ := ret_run hq
          refine ⟨rfl, ?_⟩
          show ∃ A c, valOf a t = _
          generalize valOf a t = u at hr
          cases hr with
          | refc _ _ _ _ _ b hb _ _ _ _ => exact ⟨_, _, rfl⟩
        | _ => cases hq
      | many => cases hq
    | _ => rw [hE] at hq; cases hq
  | _ => cases hq
theorem tk_of {t : Nat} {k : TK} (ht : C.tt t = dflt ∨ TyOk P t (C.tt t)) (hk : (C.tt t).k = k) (hne : k ≠ .ot) : TkOk P t k := by
  rcases ht with ht | ht
  · rw [ht] at hk; exact absurd hk.symm hne
  · have := ht.und; rw [hk] at this; exact this
theorem op_convert {s t : TypeId} {x : Operand} (ho : o.op = .convert s t x) (hC : C.Ok P) (h : Sim C E a w ι β M) (hd : d < C.nt) (hdst : o.dst = some d)
    (hq : ((opd x).bind fun a => (ofOpt a.int?).bind fun n => match (C.tt s).k, (C.tt t).k with
      | .int _, .int k => .set d (.v (.one (.int k (k.wrap n.2)))) (.ret ())
      | _, _ => .fail : Q Unit).run E = some ((), E1)) (hK : Then C E1 M w ι K) : o.wp P a w K Qx := by
  obtain ⟨x', E2, h1, hq2⟩ := Q.run_bind_some hq
  obtain ⟨β1, M1, s1, e1, r1⟩ := opd_sound h h1
  obtain ⟨n, E4, h3, hq4⟩ := Q.run_bind_some hq2
  obtain ⟨hx, rfl⟩ := ofOpt_run h3
  rw [AD.int_some hx] at r1
  have hv := int_rd r1
  split at hq4
  · rename_i k' k hk' hk
    have hu : P.underlying t = some (.int k) := tk_of (hC.tt t) hk (by simp)
    have hds : P.underlying s = some (.int k') := tk_of (hC.tt s) hk' (by simp)
    refine put_data s1 hd hdst (x := .one (.int k (k.wrap n.2))) (v := .int k (k.wrap n.2)) (.int _ _) ?_ (set_run hq4) (hK.of e1)
    simp [execOp, ho, hv, convert, run_underlying hds, run_underlying hu, Conv.intToInt]
  · cases hq4
theorem run_call_builtin {c : Call} {b : Builtin} (ho : o.op = .call c) (hc : c.callee = .builtin b) : (execOp a.eval o) = builtin b c.argTypes o.type (c.args.map fun | .const _ => true | _ => false) (c.args.map a.eval) := by
  simp [execOp, ho, resolve, hc, invoke]
  rfl
theorem op_mm {c : Call} {b : Builtin} {f : D → D → Option D} (ho : o.op = .call c) (hc : c.callee = .builtin b) (h : Sim C E a w ι β M) (hd : d < C.nt) (hdst : o.dst = some d)
    (hf : ∀ (u v : Value) (x y r : D) (M : Nat → Prop), Rd w ι M u x → Rd w ι M v y → f x y = some r → ∃ z, (builtin b c.argTypes o.type (c.args.map fun | .const _ => true | _ => false) #[u, v]).run P w = .ok (.value z) w ∧ Rd w ι M z r)
    (hq : (mmQ d f c.args.toList).run E = some ((), E1)) (hK : Then C E1 M w ι K) : o.wp P a w K Qx := by
  have hrun := run_call_builtin (a := a) ho hc
  unfold mmQ at hq
  split at hq
  · rename_i x y hxy
    have ha : c.args.map a.eval = #[a.eval x, a.eval y] := by
      have : c.args = #[x, y] := by rw [← Array.toArray_toList (xs := c.args), hxy]
      rw [this]; simp
    obtain ⟨x', E2, h1, hq2⟩ := Q.run_bind_some hq
    obtain ⟨β1, M1, s1, e1, r1⟩ := opd_sound h h1
    obtain ⟨y', E3, h2, hq3⟩ := Q.run_bind_some hq2
    obtain ⟨β2, M2, s2, e2, r2⟩ := opd_sound s1 h2
    obtain ⟨x2, E4, h3, hq4⟩ := Q.run_bind_some hq3
    obtain ⟨hx, rfl⟩ := ofOpt_run h3
    obtain ⟨y2, E5, h4, hq5⟩ := Q.run_bind_some hq4
    obtain ⟨hy, rfl⟩ := ofOpt_run h4
    obtain ⟨r, E6, h5, hq6⟩ := Q.run_bind_some hq5
    obtain ⟨hb, rfl⟩ := ofOpt_run h5
    rw [AD.d_some hx] at r1
    rw [AD.d_some hy] at r2
    have r1' : Rd w ι M2 (a.eval x) x2 := Rd.mono r1 e2.same e2.back (fun _ _ h => h) e2.shape
    obtain ⟨z, f1, f2⟩ := hf _ _ _ _ _ M2 r1' r2 hb
    exact put_data s2 hd hdst (x := .one r) f2 (by rw [hrun, ha]; exact f1) (set_run hq6) ((hK.of e1).of e2)
  · cases hq
theorem args1 {c : Call} {x : Operand} {t : TypeId} (ha : c.args.toList = [x]) (ht : c.argTypes.toList = [t]) : c.args = #[x] ∧ c.argTypes = #[t] := by
  constructor
  · rw [← Array.toArray_toList (xs := c.args), ha]
  · rw [← Array.toArray_toList (xs := c.argTypes), ht]
theorem args2 {c : Call} {x y : Operand} {t u : TypeId} (ha : c.args.toList = [x, y]) (ht : c.argTypes.toList = [t, u]) : c.args = #[x, y] ∧ c.argTypes = #[t, u] := by
  constructor
  · rw [← Array.toArray_toList (xs := c.args), ha]
  · rw [← Array.toArray_toList (xs := c.argTypes), ht]
theorem op_len {c : Call} (ho : o.op = .call c) (hc : c.callee = .builtin .len) (hC : C.Ok P) (h : Sim C E a w ι β M) (hd : d < C.nt) (hdst : o.dst = some d)
    (hq : (match c.args.toList, c.argTypes.toList with
        | [x], [t] => (match (C.tt t).k with
          | .sl .. => (lenQ x).bind fun n => .set d (.v (.one (.int .i64 n))) (.ret ())
          | .str => (opd x).bind fun a => (match a with | .one (.str s) => .set d (.v (.one (.int .i64 s.size))) (.ret ()) | _ => .fail)
          | _ => .fail)
        | _, _ => .fail : Q Unit).run E = some ((), E1)) (hK : Then C E1 M w ι K) : o.wp P a w K Qx := by
  have hrun := run_call_builtin (a := a) ho hc
  split at hq
  · rename_i x t hx ht
    obtain ⟨e1, e2⟩ := args1 hx ht
    rw [e1, e2] at hrun
    split at hq
    · rename_i hk
      have hu := (sl_some (tk_of (hC.tt t) hk (by simp))).1
      obtain ⟨n, E2, h1, hq2⟩ := Q.run_bind_some hq
      obtain ⟨rfl, hv⟩ := lenQ_sound h h1
      obtain ⟨A, cc, hv⟩ := hv
      exact put_data h hd hdst (x := .one (.int .i64 n)) (v := .int .i64 n) (.int _ _) (by rw [hrun]; simp [builtin, Builtin.len_, hv, run_underlying hu, goInt]) (set_run hq2) hK
    · rename_i hk
      have hu : P.underlying t = some .string := tk_of (hC.tt t) hk (by simp)
      obtain ⟨y, E2, h1, hq2⟩ := Q.run_bind_some hq
      obtain ⟨β1, M1, s1, e1', r1⟩ := opd_sound h h1
      split at hq2
      · rename_i s
        have hr : Rd w ι M1 (a.eval x) (.str s) := r1
        have hv : a.eval x = .string s := by generalize a.eval x = u at hr; cases hr; rfl
        exact put_data s1 hd hdst (x := .one (.int .i64 s.size)) (v := .int .i64 s.size) (.int _ _) (by rw [hrun]; simp [builtin, Builtin.len_, hv, run_underlying hu, goInt]) (set_run hq2) (hK.of e1')
      · cases hq2
    · cases hq
  · cases hq
end
end Go.Proofs.YtmhinddneefmbaaGreat.Pe
