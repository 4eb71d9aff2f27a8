/- A part of the proof of KzA. -/
import Derived.Test.YtdapdiaklpcmjaaGreatKm28
import Derived.Test.YtdapdiaklpcmjaaGreatKm34
set_option linter.unusedSimpArgs false
set_option linter.unusedVariables false
set_option linter.unusedSectionVars false
namespace Go.Proofs.YtdapdiaklpcmjaaGreat.Pe
open Go
noncomputable def S0 : Sys := sysOf (mkTr ttL) (mkTr ezL) (mkTr fnL) .leaf
noncomputable def out (r : Option (RV × Hp × Nat)) : Option (RV × Option PObj × Option PObj × Nat) := r.bind fun x => some (x.1, x.2.1 0, x.2.1 1, x.2.2)
noncomputable def byt (bt : Tr Nat) (i : Nat) : Nat := Option.rec (motive := fun _ => Nat) 0 (fun n => n) (bt.get i)
noncomputable def stepL (v : Int) (c : Nat) : Int := bits .or .u64 (IntKind.u64.wrap (v * 2 ^ (min (8 : Int).toNat IntKind.u64.bits))) (IntKind.u64.wrap (.ofNat c))
noncomputable def wordL (bt : Tr Nat) (off : Nat) : Int := stepL (stepL (stepL (stepL (stepL (stepL (stepL (stepL 0 (byt bt (off + 7))) (byt bt (off + 6))) (byt bt (off + 5))) (byt bt (off + 4))) (byt bt (off + 3))) (byt bt (off + 2))) (byt bt (off + 1))) (byt bt off)
def LoadAt (k : Nat) : Prop := ∀ (e1 e5 : Option Nat) (bt : Tr Nat), out ((evs S0 200).fn 83 [.one (.ptr 1 1 0 0), .one (.int .u64 (.ofNat (8 * k)))] (seg0 e1 e5 bt 4800) 2) =
  some (.tup [.one (.int .u64 (wordL bt (8 * k))), .one (.int .i64 0)], some ⟨e5, 0, [[.bts bt 4800]]⟩, some ⟨e1, 1, [[.ref 0 1 0 4800]]⟩, 5)
noncomputable def sbyte (v i : Nat) : Nat := Nat.mod (Nat.div v (Nat.pow 2 (Nat.min (8 * i) 64))) 256
noncomputable def bytesSet (bt : Tr Nat) (off v : Nat) : Tr Nat := (((((((bt.set (some (sbyte v 0)) 30 off).set (some (sbyte v 1)) 30 (off + 1)).set (some (sbyte v 2)) 30 (off + 2)).set (some (sbyte v 3)) 30 (off + 3)).set (some (sbyte v 4)) 30 (off + 4)).set (some (sbyte v 5)) 30 (off + 5)).set (some (sbyte v 6)) 30 (off + 6)).set (some (sbyte v 7)) 30 (off + 7)
def StoreAt (k : Nat) : Prop := ∀ (e1 e5 : Option Nat) (bt : Tr Nat) (v : Nat), out ((evs S0 200).fn 20 [.one (.ptr 1 1 0 0), .one (.int .u64 (.ofNat (8 * k))), .one (.int .u64 (.ofNat v))] (seg0 e1 e5 bt 4800) 2) =
  some (.a (.one (.int .i64 0)), some ⟨e5, 0, [[.bts (bytesSet bt (8 * k) v) 4800]]⟩, some ⟨e1, 1, [[.ref 0 1 0 4800]]⟩, 3)
def Run (P : Nat → Prop) (a : Nat) : Nat → Prop
  | 0 => True
  | n + 1 => P a ∧ Run P (a + 1) n
theorem Run.at_ {P : Nat → Prop} : ∀ {n a k : Nat}, Run P a n → a ≤ k → k < a + n → P k
  | 0, a, k, _, h1, h2 => by omega
  | n + 1, a, k, h, h1, h2 => by
    by_cases e : k = a
    · subst e; exact h.1
    · exact h.2.at_ (by omega) (by omega)
end Go.Proofs.YtdapdiaklpcmjaaGreat.Pe
namespace Go.Proofs.YtdapdiaklpcmjaaGreat.Pe
open Go
theorem toNat_u64 (n : Nat) (h : n < 18446744073709551616) : (BitVec.ofInt 64 (n : Int)).toNat = n := by
  rw [BitVec.toNat_ofInt]
  have : ((n : Int) % ((2 ^ 64 : Nat) : Int)) = n := by omega
  rw [this]
  rfl
theorem stepL_nat (v c : Nat) (hv : v < 72057594037927936) (hc : c < 256) : stepL (v : Int) c = ((v * 256 + c : Nat) : Int) := by
  unfold stepL
  have e1 : (v : Int) * 2 ^ (min (8 : Int).toNat IntKind.u64.bits) = ((v * 256 : Nat) : Int) := by
    have : (2 : Int) ^ (min (8 : Int).toNat IntKind.u64.bits) = 256 := by decide
    rw [this]; omega
  have l1 : Nat.blt (v * 256) (limK .u64) = true := Nat.ble_eq_true_of_le (show v * 256 + 1 ≤ 18446744073709551616 by omega)
  have l2 : Nat.blt c (limK .u64) = true := Nat.ble_eq_true_of_le (show c + 1 ≤ 18446744073709551616 by omega)
  rw [e1, limK_wrap l1, show (Int.ofNat c) = (c : Int) from rfl, limK_wrap l2]
  show IntKind.u64.wrap (((BitVec.ofInt 64 ((v * 256 : Nat) : Int)) ||| (BitVec.ofInt 64 (c : Int))).toNat : Int) = _
  rw [BitVec.toNat_or, toNat_u64 _ (by omega), toNat_u64 _ (by omega)]
  have e2 : v * 256 ||| c = v * 256 + c := by
    have := Nat.two_pow_add_eq_or_of_lt (i := 8) (b := c) (by omega) v
    rw [Nat.mul_comm v 256]
    exact this.symm
  rw [e2]
  exact limK_wrap (Nat.ble_eq_true_of_le (show v * 256 + c + 1 ≤ 18446744073709551616 by omega))
theorem byt_bOf (t : Tr Nat) {n k j : Nat} (hn : n ≤ 1000000000) (hk : 8 * k + 8 ≤ n) (hj : j < 8) : byt (bOf t n) (8 * k + j) = (t.get k).getD 0 / 256 ^ j % 256 := by
  unfold byt
  rw [bOf_get t n hn _ (by omega)]
  have e1 : (8 * k + j) / 8 = k := by omega
  have e2 : (8 * k + j) % 8 = j := by omega
  show (t.get ((8 * k + j) / 8)).getD 0 / 256 ^ ((8 * k + j) % 8) % 256 = _
  rw [e1, e2]
theorem wordL_words (t : Tr Nat) {n k : Nat} (hn : n ≤ 1000000000) (hk : 8 * k + 8 ≤ n) (hw : (t.get k).getD 0 < 18446744073709551616) : wordL (bOf t n) (8 * k) = (((t.get k).getD 0 : Nat) : Int) := by
  unfold wordL
  have h0 := byt_bOf t hn hk (j := 0) (by omega)
  rw [Nat.add_zero] at h0
  rw [byt_bOf t hn hk (j := 7) (by omega), byt_bOf t hn hk (j := 6) (by omega), byt_bOf t hn hk (j := 5) (by omega), byt_bOf t hn hk (j := 4) (by omega), byt_bOf t hn hk (j := 3) (by omega), byt_bOf t hn hk (j := 2) (by omega), byt_bOf t hn hk (j := 1) (by omega), h0]
  generalize (t.get k).getD 0 = w at hw
  have d : ∀ j, w / 256 ^ (j + 1) = w / 256 ^ j / 256 := fun j => by rw [Nat.pow_succ, Nat.div_div_eq_div_mul]
  have d1 := d 0
  have d2 := d 1
  have d3 := d 2
  have d4 := d 3
  have d5 := d 4
  have d6 := d 5
  have d7 := d 6
  have z : w / 256 ^ 0 = w := by simp
  generalize w / 256 ^ 7 = x7 at *
  generalize w / 256 ^ 6 = x6 at *
  generalize w / 256 ^ 5 = x5 at *
  generalize w / 256 ^ 4 = x4 at *
  generalize w / 256 ^ 3 = x3 at *
  generalize w / 256 ^ 2 = x2 at *
  generalize hx1 : w / 256 ^ 1 = x1 at *
  have y0 : w / 256 ^ 0 = w := z
  rw [y0] at d1 ⊢
  have e0 : stepL 0 (x7 % 256) = ((x7 % 256 : Nat) : Int) := by
    have := stepL_nat 0 (x7 % 256) (by omega) (by omega)
    simpa using this
  have b7 : x7 < 72057594037927936 := by omega
  have b6 : x6 < 72057594037927936 := by omega
  have b5 : x5 < 72057594037927936 := by omega
  have b4 : x4 < 72057594037927936 := by omega
  have b3 : x3 < 72057594037927936 := by omega
  have b2 : x2 < 72057594037927936 := by omega
  have b1 : x1 < 72057594037927936 := by omega
  have s : ∀ (v c : Nat), v < 72057594037927936 → c < 256 → stepL (v : Int) c = ((v * 256 + c : Nat) : Int) := stepL_nat
  have f7 : x7 % 256 = x7 := by omega
  have q : ∀ a b : Nat, a = b / 256 → a * 256 + b % 256 = b := fun a b h => by rw [h, Nat.mul_comm]; exact Nat.div_add_mod b 256
  rw [e0, f7, s x7 (x6 % 256) b7 (Nat.mod_lt _ (by decide))]
  have f6 : x7 * 256 + x6 % 256 = x6 := q x7 x6 d7
  rw [f6, s x6 (x5 % 256) b6 (Nat.mod_lt _ (by decide))]
  have f5 : x6 * 256 + x5 % 256 = x5 := q x6 x5 d6
  rw [f5, s x5 (x4 % 256) b5 (Nat.mod_lt _ (by decide))]
  have f4 : x5 * 256 + x4 % 256 = x4 := q x5 x4 d5
  rw [f4, s x4 (x3 % 256) b4 (Nat.mod_lt _ (by decide))]
  have f3 : x4 * 256 + x3 % 256 = x3 := q x4 x3 d4
  rw [f3, s x3 (x2 % 256) b3 (Nat.mod_lt _ (by decide))]
  have f2 : x3 * 256 + x2 % 256 = x2 := q x3 x2 d3
  rw [f2, s x2 (x1 % 256) b2 (Nat.mod_lt _ (by decide))]
  have f1 : x2 * 256 + x1 % 256 = x1 := q x2 x1 d2
  rw [f1, s x1 (w % 256) b1 (Nat.mod_lt _ (by decide))]
  have f0 : x1 * 256 + w % 256 = w := q x1 w d1
  rw [f0]
theorem sbyte_eq (v : Nat) : sbyte v 0 = v / 256 ^ 0 % 256 ∧ sbyte v 1 = v / 256 ^ 1 % 256 ∧ sbyte v 2 = v / 256 ^ 2 % 256 ∧ sbyte v 3 = v / 256 ^ 3 % 256 ∧ sbyte v 4 = v / 256 ^ 4 % 256 ∧ sbyte v 5 = v / 256 ^ 5 % 256 ∧ sbyte v 6 = v / 256 ^ 6 % 256 ∧ sbyte v 7 = v / 256 ^ 7 % 256 :=
  ⟨rfl, rfl, rfl, rfl, rfl, rfl, rfl, rfl⟩
theorem bytesSet_rows (t : Tr Nat) {n k v : Nat} (hn : n ≤ 1000000000) (hk : 8 * k + 8 ≤ n) : btsRows (bytesSet (bOf t n) (8 * k) v) n = wdsRows (t.set (some v) 30 k) n := by
  unfold btsRows wdsRows
  apply List.map_congr_left
  intro i hi
  have hi : i < n := List.mem_range.1 hi
  unfold byteB byteOf bytesSet
  obtain ⟨s0, s1, s2, s3, s4, s5, s6, s7⟩ := sbyte_eq v
  simp only [Tr.get_set _ 30 _ (8 * k) (by omega), Tr.get_set _ 30 _ (8 * k + 1) (by omega), Tr.get_set _ 30 _ (8 * k + 2) (by omega), Tr.get_set _ 30 _ (8 * k + 3) (by omega), Tr.get_set _ 30 _ (8 * k + 4) (by omega), Tr.get_set _ 30 _ (8 * k + 5) (by omega), Tr.get_set _ 30 _ (8 * k + 6) (by omega), Tr.get_set _ 30 _ (8 * k + 7) (by omega), Tr.get_set _ 30 _ k (by omega), bOf_get t n hn i hi]
  by_cases e : i / 8 = k
  · rw [if_pos e]
    have hj : i % 8 = 0 ∨ i % 8 = 1 ∨ i % 8 = 2 ∨ i % 8 = 3 ∨ i % 8 = 4 ∨ i % 8 = 5 ∨ i % 8 = 6 ∨ i % 8 = 7 := by omega
    rcases hj with h | h | h | h | h | h | h | h
    · rw [if_neg (show ¬ i = 8 * k + 7 by omega), if_neg (show ¬ i = 8 * k + 6 by omega), if_neg (show ¬ i = 8 * k + 5 by omega), if_neg (show ¬ i = 8 * k + 4 by omega), if_neg (show ¬ i = 8 * k + 3 by omega), if_neg (show ¬ i = 8 * k + 2 by omega), if_neg (show ¬ i = 8 * k + 1 by omega), if_pos (show i = 8 * k by omega), h, s0]; rfl
    · rw [if_neg (show ¬ i = 8 * k + 7 by omega), if_neg (show ¬ i = 8 * k + 6 by omega), if_neg (show ¬ i = 8 * k + 5 by omega), if_neg (show ¬ i = 8 * k + 4 by omega), if_neg (show ¬ i = 8 * k + 3 by omega), if_neg (show ¬ i = 8 * k + 2 by omega), if_pos (show i = 8 * k + 1 by omega), h, s1]; rfl
    · rw [if_neg (show ¬ i = 8 * k + 7 by omega), if_neg (show ¬ i = 8 * k + 6 by omega), if_neg (show ¬ i = 8 * k + 5 by omega), if_neg (show ¬ i = 8 * k + 4 by omega), if_neg (show ¬ i = 8 * k + 3 by omega), if_pos (show i = 8 * k + 2 by omega), h, s2]; rfl
    · rw [if_neg (show ¬ i = 8 * k + 7 by omega), if_neg (show ¬ i = 8 * k + 6 by omega), if_neg (show ¬ i = 8 * k + 5 by omega), if_neg (show ¬ i = 8 * k + 4 by omega), if_pos (show i = 8 * k + 3 by omega), h, s3]; rfl
    · rw [if_neg (show ¬ i = 8 * k + 7 by omega), if_neg (show ¬ i = 8 * k + 6 by omega), if_neg (show ¬ i = 8 * k + 5 by omega), if_pos (show i = 8 * k + 4 by omega), h, s4]; rfl
    · rw [if_neg (show ¬ i = 8 * k + 7 by omega), if_neg (show ¬ i = 8 * k + 6 by omega), if_pos (show i = 8 * k + 5 by omega), h, s5]; rfl
    · rw [if_neg (show ¬ i = 8 * k + 7 by omega), if_pos (show i = 8 * k + 6 by omega), h, s6]; rfl
    · rw [if_pos (show i = 8 * k + 7 by omega), h, s7]; rfl
  · rw [if_neg e, if_neg (show ¬ i = 8 * k + 7 by omega), if_neg (show ¬ i = 8 * k + 6 by omega), if_neg (show ¬ i = 8 * k + 5 by omega), if_neg (show ¬ i = 8 * k + 4 by omega), if_neg (show ¬ i = 8 * k + 3 by omega), if_neg (show ¬ i = 8 * k + 2 by omega), if_neg (show ¬ i = 8 * k + 1 by omega), if_neg (show ¬ i = 8 * k by omega)]; rfl
end Go.Proofs.YtdapdiaklpcmjaaGreat.Pe
