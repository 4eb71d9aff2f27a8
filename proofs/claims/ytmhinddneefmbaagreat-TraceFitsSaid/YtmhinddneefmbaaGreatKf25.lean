/- A part of the proof of JdH. -/
import Derived.Test.YtmhinddneefmbaaGreatKf22
set_option linter.unusedSimpArgs false
set_option linter.unusedVariables false
set_option linter.unusedSectionVars false
namespace Go.Proofs.YtmhinddneefmbaaGreat.Pe
open Go
inductive HT where
  | b (x : Bool)
  | i (x : Bool)
  | row (d : Nat) (r : List D)
  | len (d k : Nat)
  | fnd (d : Nat) (x : Option (Nat × D))
  | res (d : Nat) (r : RV) (H : Hp) (nx : Nat)
instance : Coe Bool HT := ⟨.b⟩
structure TL where
  n : Nat
  orc : List (Nat × HT)
  cs : List Bool
  eqs : List (AV × AV)
  lg : List Bool
  hs : List (AV × AV)
structure TL.Ok (T : TL) : Prop where
  cs : ∀ c ∈ T.cs, c = true
  eqs : ∀ p ∈ T.eqs, p.1 = p.2
  hs : ∀ p ∈ T.hs, p.1 = p.2
structure TL.Le (T T' : TL) : Prop where
  cs : ∀ c ∈ T.cs, c ∈ T'.cs
  eqs : ∀ p ∈ T.eqs, p ∈ T'.eqs
  hs : ∀ p ∈ T.hs, p ∈ T'.hs
theorem TL.Le.refl (T : TL) : T.Le T := ⟨fun _ h => h, fun _ h => h, fun _ h => h⟩
theorem TL.Le.trans {T T' T'' : TL} (h : T.Le T') (k : T'.Le T'') : T.Le T'' := ⟨fun c hc => k.cs c (h.cs c hc), fun p hp => k.eqs p (h.eqs p hp), fun p hp => k.hs p (h.hs p hp)⟩
theorem TL.Le.ok {T T' : TL} (h : T.Le T') (k : T'.Ok) : T.Ok := ⟨fun c hc => k.cs c (h.cs c hc), fun p hp => k.eqs p (h.eqs p hp), fun p hp => k.hs p (h.hs p hp)⟩
noncomputable def litT (b : Bool) (T : TL) : Bool × TL := Bool.rec (motive := fun _ => Bool × TL) (false, ⟨Nat.succ T.n, T.orc, T.cs, T.eqs, false :: T.lg, T.hs⟩) (true, ⟨Nat.succ T.n, T.orc, T.cs, T.eqs, true :: T.lg, T.hs⟩) b
noncomputable def HT.dec : HT → Option Bool
  | .b x => some x
  | .i x => some x
  | _ => none
noncomputable def TL.hd (T : TL) : Option HT := match T.orc with
  | [] => none
  | p :: _ => br (Nat.beq p.1 T.n) (some p.2) none
noncomputable def TL.tl (T : TL) : TL := ⟨T.n, T.orc.tail, T.cs, T.eqs, T.lg, T.hs⟩
noncomputable def decT (b : Bool) (T : TL) : Bool × TL := match T.hd with
  | none => litT b T
  | some h => match h.dec with
    | none => litT b T
    | some x => (x, ⟨Nat.succ T.n, T.orc.tail, br x b (not b) :: T.cs, T.eqs, x :: T.lg, T.hs⟩)
theorem litT_eq (b : Bool) (T : TL) : litT b T = (b, ⟨Nat.succ T.n, T.orc, T.cs, T.eqs, b :: T.lg, T.hs⟩) := by cases b <;> rfl
theorem decT_le {b x : Bool} {T T' : TL} (h : decT b T = (x, T')) : T.Le T' := by
  have lit : litT b T = (x, T') → T.Le T' := fun h => by
    rw [litT_eq] at h
    simp only [Prod.mk.injEq] at h; obtain ⟨rfl, rfl⟩ := h
    exact ⟨fun _ h => h, fun _ h => h, fun _ h => h⟩
  unfold decT at h
  split at h
  · exact lit h
  · split at h
    · exact lit h
    · simp only [Prod.mk.injEq] at h; obtain ⟨rfl, rfl⟩ := h
      exact ⟨fun _ h => List.mem_cons_of_mem _ h, fun _ h => h, fun _ h => h⟩
theorem decT_ok {b x : Bool} {T T' : TL} (h : decT b T = (x, T')) (hT : T'.Ok) : x = b := by
  have lit : litT b T = (x, T') → x = b := fun h => by
    rw [litT_eq] at h
    simp only [Prod.mk.injEq] at h; exact h.1.symm
  unfold decT at h
  split at h
  · exact lit h
  · split at h
    · exact lit h
    · rename_i y _
      simp only [Prod.mk.injEq] at h; obtain ⟨rfl, rfl⟩ := h
      have := hT.cs _ List.mem_cons_self
      cases y <;> cases b <;> first | rfl | cases this
noncomputable def TL.need (l : List Bool) (T : TL) : TL := ⟨T.n, T.orc, l ++ T.cs, T.eqs, T.lg, T.hs⟩
theorem TL.need_le (l : List Bool) (T : TL) : T.Le (T.need l) := ⟨fun _ h => List.mem_append_right _ h, fun _ h => h, fun _ h => h⟩
theorem TL.need_ok {l : List Bool} {T : TL} (h : (T.need l).Ok) : ∀ c ∈ l, c = true := fun c hc => h.cs c (List.mem_append_left _ hc)
noncomputable def TL.same (l : List (AV × AV)) (T : TL) : TL := ⟨T.n, T.orc, T.cs, T.eqs, T.lg, l ++ T.hs⟩
theorem TL.same_le (l : List (AV × AV)) (T : TL) : T.Le (T.same l) := ⟨fun _ h => h, fun _ h => h, fun _ h => List.mem_append_right _ h⟩
theorem TL.same_ok {l : List (AV × AV)} {T : TL} (h : (T.same l).Ok) : ∀ p ∈ l, p.1 = p.2 := fun c hc => h.hs c (List.mem_append_left _ hc)
theorem TL.tl_le (T : TL) : T.Le T.tl := ⟨fun _ h => h, fun _ h => h, fun _ h => h⟩
noncomputable def encR : Option (List D) → AV
  | some r => .v (.many r)
  | none => .junk
theorem encR_some {x : Option (List D)} {r : List D} (h : encR x = encR (some r)) : x = some r := by
  cases x with
  | none => cases h
  | some y => injection h with h; injection h with h; rw [h]
noncomputable def encF : Option (Option (Nat × D)) → AV
  | some (some x) => .imm [[x.2]] x.1 0
  | some none => .tup []
  | none => .junk
theorem encF_some {x : Option (Option (Nat × D))} {y : Option (Nat × D)} (h : encF x = encF (some y)) : x = some y := by
  cases y with
  | none => cases x with
    | none => cases h
    | some x => cases x with
      | none => rfl
      | some x => cases h
  | some y => cases x with
    | none => cases h
    | some x => cases x with
      | none => cases h
      | some x =>
        obtain ⟨a, b⟩ := x
        obtain ⟨c, d⟩ := y
        have h : AV.imm [[b]] a 0 = AV.imm [[d]] c 0 := h
        simp only [AV.imm.injEq, List.cons.injEq, and_true] at h
        obtain ⟨rfl, rfl⟩ := h
        rfl
noncomputable def encV : RV → AV
  | .a a => .v a
  | .tup l => .tup l
noncomputable def encQ1 (x : Option (RV × Hp × Nat)) : AV := match x with
  | some q => encV q.1
  | none => .junk
noncomputable def encQ2 (x : Option (RV × Hp × Nat)) : AV := match x with
  | some q => .heap q.2.1 q.2.2
  | none => .junk
theorem encQ_some {x : Option (RV × Hp × Nat)} {q : RV × Hp × Nat} (h : encQ1 x = encQ1 (some q)) (k : encQ2 x = encQ2 (some q)) : x = some q := by
  cases x with
  | none => cases k
  | some p =>
    obtain ⟨r, H, n⟩ := p
    obtain ⟨r', H', n'⟩ := q
    have k : AV.heap H n = AV.heap H' n' := k
    injection k with k1 k2
    subst k1; subst k2
    have h : encV r = encV r' := h
    cases r <;> cases r' <;> first | (injection h with h; subst h; rfl) | cases h
inductive IR where
  | num (k : IntKind) (n : Nat) (cs : List Bool)
  | boo (b : Bool)
  | no
noncomputable def isU : IntKind → Bool
  | .u64 | .u32 | .u8 | .u16 => true
  | _ => false
noncomputable def limU : IntKind → Nat
  | .u64 => 18446744073709551616
  | .u32 => 4294967296
  | .u16 => 65536
  | .u8 => 256
  | .i64 => 9223372036854775808
  | .i32 => 2147483648
  | .i16 => 32768
  | _ => 128
noncomputable def wrapN (k : IntKind) (n : Nat) (cs : List Bool) : IR := br (isU k) (.num k (Nat.mod n (limU k)) cs) (.num k n (Nat.blt n (limU k) :: cs))
noncomputable def bothN (k : IntKind) (a b : Nat) : List Bool := [Nat.blt a (limU k), Nat.blt b (limU k)]
noncomputable def binI (op : BinOp) (k k' : IntKind) (a b : Nat) : IR := match op with
  | .add => br (decide (k = k')) (.num k (Nat.add a b) [Nat.blt (Nat.add a b) (limU k)]) .no
  | .sub => br (decide (k = k')) (br (isU k) (.num k (Nat.sub a b) [Nat.ble b a, Nat.blt a (limU k)]) .no) .no
  | .mul => br (decide (k = k')) (wrapN k (Nat.mul a b) []) .no
  | .quo => br (decide (k = k')) (.num k (Nat.div a b) [Nat.blt 0 b, Nat.blt a (limU k)]) .no
  | .rem => br (decide (k = k')) (.num k (Nat.mod a b) [Nat.blt 0 b]) .no
  | .and => br (decide (k = k')) (br (isU k) (.num k (Nat.land a b) (bothN k a b)) .no) .no
  | .or => br (decide (k = k')) (br (isU k) (.num k (Nat.lor a b) (bothN k a b)) .no) .no
  | .xor => br (decide (k = k')) (br (isU k) (.num k (Nat.xor a b) (bothN k a b)) .no) .no
  | .andNot => br (decide (k = k')) (br (isU k) (.num k (Nat.xor a (Nat.land a b)) (bothN k a b)) .no) .no
  | .shl => wrapN k (Nat.mul a (Nat.pow 2 (Nat.min b k.bits))) []
  | .shr => .num k (Nat.div a (Nat.pow 2 (Nat.min b k.bits))) []
  | .eql => br (decide (k = k')) (.boo (Nat.beq a b)) .no
  | .neq => br (decide (k = k')) (.boo (not (Nat.beq a b))) .no
  | .lss => br (decide (k = k')) (.boo (Nat.blt a b)) .no
  | .leq => br (decide (k = k')) (.boo (Nat.ble a b)) .no
  | .gtr => br (decide (k = k')) (.boo (Nat.blt b a)) .no
  | .geq => br (decide (k = k')) (.boo (Nat.ble b a)) .no
noncomputable def IR.D : IR → Option D
  | .num k n _ => some (.int k (.ofNat n))
  | .boo b => some (.bool b)
  | .no => none
noncomputable def IR.cs : IR → List Bool
  | .num _ _ cs => cs
  | _ => []
theorem blt_lt {a b : Nat} (h : Nat.blt a b = true) : a < b := Nat.le_of_ble_eq_true h
theorem wrap_u {k : IntKind} (h : isU k = true) (n : Int) : k.wrap n = n % (limU k : Nat) := by
  cases k <;> first | cases h; done | (simp [IntKind.wrap, IntKind.bits, IntKind.signed, limU])
theorem wrap_i {k : IntKind} {n : Nat} (h : n < limU k) : k.wrap (n : Int) = n := by
  cases hk : isU k with
  | true => rw [wrap_u hk]; exact Int.emod_eq_of_lt (by omega) (by omega)
  | false =>
    cases k <;> first | cases hk; done | skip
    all_goals
      simp only [limU] at h
      simp only [IntKind.wrap, IntKind.bits, IntKind.signed, Bool.true_and, Nat.reduceSub]
    · have h1 : (n : Int) % 2 ^ 8 = n := by omega
      exact (if_neg fun h2 => by have h3 : (n : Int) % 2 ^ 8 ≥ 2 ^ 7 := of_decide_eq_true h2; omega).trans h1
    · have h1 : (n : Int) % 2 ^ 16 = n := by omega
      exact (if_neg fun h2 => by have h3 : (n : Int) % 2 ^ 16 ≥ 2 ^ 15 := of_decide_eq_true h2; omega).trans h1
    · have h1 : (n : Int) % 2 ^ 32 = n := by omega
      exact (if_neg fun h2 => by have h3 : (n : Int) % 2 ^ 32 ≥ 2 ^ 31 := of_decide_eq_true h2; omega).trans h1
    · have h1 : (n : Int) % 2 ^ 64 = n := by omega
      exact (if_neg fun h2 => by have h3 : (n : Int) % 2 ^ 64 ≥ 2 ^ 63 := of_decide_eq_true h2; omega).trans h1
theorem wrapN_ok {k : IntKind} {n : Nat} {cs : List Bool} (h : ∀ c ∈ (wrapN k n cs).cs, c = true) : (wrapN k n cs).D = some (.int k (k.wrap (n : Int))) := by
  unfold wrapN at *
  cases hk : isU k with
  | true =>
    rw [hk] at h
    show some (D.int k (Int.ofNat (n % limU k))) = _
    rw [wrap_u hk]; rfl
  | false =>
    rw [hk] at h
    have : n < limU k := blt_lt (h _ List.mem_cons_self)
    show some (D.int k (n : Int)) = _
    rw [wrap_i this]
theorem bits_u {op : BinOp} {k : IntKind} {a b : Nat} (hk : isU k = true) (ha : a < limU k) (hb : b < limU k) :
    bits op k (a : Int) (b : Int) = ((match op with | .and => Nat.land a b | .or => Nat.lor a b | .xor => Nat.xor a b | _ => Nat.xor a (Nat.land a b) : Nat) : Int) := by
  unfold bits
  have key : ∀ m, m < limU k → k.wrap ((m : Nat) : Int) = m := fun m hm => wrap_i hm
  have hl : limU k = 2 ^ k.bits := by cases k <;> first | cases hk; done | rfl
  have hA : (BitVec.ofInt k.bits (a : Int)).toNat = a := by rw [BitVec.toNat_ofInt]; rw [hl] at ha; rw [Int.emod_eq_of_lt (by omega) (by exact_mod_cast ha)]; rfl
  have hB : (BitVec.ofInt k.bits (b : Int)).toNat = b := by rw [BitVec.toNat_ofInt]; rw [hl] at hb; rw [Int.emod_eq_of_lt (by omega) (by exact_mod_cast hb)]; rfl
  have hx : ∀ v : BitVec k.bits, k.wrap (v.toNat : Int) = v.toNat := fun v => key _ (by rw [hl]; exact v.isLt)
  simp only
  rw [hx]
  congr 1
  have e : BitVec.ofInt k.bits (a : Int) &&& ~~~ BitVec.ofInt k.bits (b : Int) = BitVec.ofInt k.bits (a : Int) ^^^ (BitVec.ofInt k.bits (a : Int) &&& BitVec.ofInt k.bits (b : Int)) := by
    ext i hi
    simp only [BitVec.getElem_and, BitVec.getElem_not, BitVec.getElem_xor]
    generalize (BitVec.ofInt k.bits (a : Int))[i] = p
    generalize (BitVec.ofInt k.bits (b : Int))[i] = q
    cases p <;> cases q <;> rfl
  cases op <;> simp only [e, BitVec.toNat_and, BitVec.toNat_or, BitVec.toNat_xor, hA, hB] <;> rfl
theorem binI_ok {op : BinOp} {k k' : IntKind} {a b : Nat} {r : D} (h : (binI op k k' a b).D = some r) (hc : ∀ c ∈ (binI op k k' a b).cs, c = true) : binD op (.int k (.ofNat a)) (.int k' (.ofNat b)) = some r := by
  have e1 : ∀ n : Nat, Int.ofNat n = (n : Int) := fun _ => rfl
  have kk : ∀ {x : IR}, (br (decide (k = k')) x .no).D = some r → k = k' := fun {x} h => by
    by_cases e : k = k'
    · exact e
    · rw [decide_eq_false e] at h; cases h
  unfold binI at h hc
  cases op <;> simp only at h hc <;> try (cases h; done)
  all_goals first
    | (have hkk := kk h; subst hkk
       simp only [decide_true] at h hc
       simp only [binD, if_true, intD, e1])
    | simp only [binD, e1]
  all_goals try simp only [br] at h hc
  · have h1 : a + b < limU k := blt_lt (hc _ List.mem_cons_self)
    have h : some (D.int k (Int.ofNat (a + b))) = some r := h
    rw [← h, ← Int.natCast_add, wrap_i h1]
    rfl
  · cases hk : isU k with
    | false => rw [hk] at h; cases h
    | true =>
      rw [hk] at h hc
      have h1 : b ≤ a := Nat.le_of_ble_eq_true (hc _ List.mem_cons_self)
      have h2 : a < limU k := blt_lt (hc _ (List.mem_cons_of_mem _ List.mem_cons_self))
      have h : some (D.int k (Int.ofNat (a - b))) = some r := h
      rw [← h, ← Int.ofNat_sub h1, wrap_i (by omega)]
      rfl
  · rw [wrapN_ok hc] at h; rw [← h]; rfl
  · have h1 : 0 < b := blt_lt (hc _ List.mem_cons_self)
    have h2 : a < limU k := blt_lt (hc _ (List.mem_cons_of_mem _ List.mem_cons_self))
    rw [if_neg (by omega)]
    have h : some (D.int k (Int.ofNat (a / b))) = some r := h
    rw [← h]
    have : ((a : Int).tdiv (b : Int)) = ((a / b : Nat) : Int) := by rw [Int.ofNat_tdiv]
    rw [this, wrap_i (Nat.lt_of_le_of_lt (Nat.div_le_self a b) h2)]
    rfl
  · have h1 : 0 < b := blt_lt (hc _ List.mem_cons_self)
    rw [if_neg (by omega)]
    have h : some (D.int k (Int.ofNat (a % b))) = some r := h
    rw [← h]
    rfl
  all_goals try
    (cases hk : isU k with
      | false => rw [hk] at h; cases h
      | true =>
        rw [hk] at h hc
        have h1 : a < limU k := blt_lt (hc _ List.mem_cons_self)
        have h2 : b < limU k := blt_lt (hc _ (List.mem_cons_of_mem _ List.mem_cons_self))
        injection h with h
        rw [← h, bits_u hk h1 h2]
        rfl)
  · rw [wrapN_ok hc] at h
    rw [← h]
    unfold shD
    simp only
    rw [if_neg (by omega)]
    congr 2
  · injection h with h
    rw [← h]
    have := shr_nat k k' a b
    simpa only [binD, e1] using this
  all_goals (injection h with h; rw [← h])
  · rw [beq_int]
  · rw [beq_int]; rfl
  · rw [blt_int]
  · rw [ble_int]
  · rw [blt_int]
  · rw [ble_int]
end Go.Proofs.YtmhinddneefmbaaGreat.Pe
