/- A part of the proof of PmD. -/
import Derived.ProofKit
import Derived.Below
import Derived.ChangeOld
import Derived.Deep.Slices
import Derived.Test.YtdapdiaklpcmjaaGreatProg
import Derived.ShutString
import Derived.OpenShut
import Derived.Test.YtdapdiaklpcmjaaGreatCb1
import Derived.Test.YtdapdiaklpcmjaaGreatCb17
import Derived.Test.YtdapdiaklpcmjaaGreatCb18
set_option linter.unusedSimpArgs false
set_option linter.unusedVariables false
set_option linter.unusedSectionVars false
namespace Go.Proofs.YtdapdiaklpcmjaaGreat.Pe
open Go
noncomputable def S0 : Sys := sysOf (mkTr ttL) (mkTr ezL) (mkTr fnL) .leaf
noncomputable def out (r : Option (RV × Hp × Nat)) : Option (RV × Option PObj × Option PObj × Nat) := r.bind fun x => some (x.1, x.2.1 0, x.2.1 1, x.2.2)
noncomputable def byt (bt : Tr Nat) (i : Nat) : Nat := Option.rec (motive := fun _ => Nat) 0 (fun n => n) (bt.get i)
noncomputable def stepL (v : Int) (c : Nat) : Int := bits .or .u64 (IntKind.u64.wrap (v * 2 ^ (min (8 : Int).toNat IntKind.u64.bits))) (IntKind.u64.wrap (.ofNat c))
noncomputable def wordL (bt : Tr Nat) (off : Nat) : Int := stepL (stepL (stepL (stepL (stepL (stepL (stepL (stepL 0 (byt bt (off + 7))) (byt bt (off + 6))) (byt bt (off + 5))) (byt bt (off + 4))) (byt bt (off + 3))) (byt bt (off + 2))) (byt bt (off + 1))) (byt bt off)
def LoadAt (k : Nat) : Prop := ∀ (e1 e5 : Option Nat) (bt : Tr Nat), out ((evs S0 200).fn 83 [.one (.ptr 1 1 0 0), .one (.int .u64 (.ofNat (8 * k)))] (seg0 e1 e5 bt 4800) 2) =
  some (.tup [.one (.int .u64 (wordL bt (8 * k))), .one (.int .i64 0)], some ⟨e5, 0, [[.bts bt 4800]]⟩, some ⟨e1, 1, [[.ref 0 1 0 4800]]⟩, 5)
noncomputable def sbyte (v i : Nat) : Nat := Nat.mod (Nat.div v (Nat.pow 2 (Nat.min (8 * i) 64))) 256
noncomputable def bytesSet (bt : Tr Nat) (off v : Nat) : Tr Nat := (((((((bt.set (some (sbyte v 0)) 30 off).set (some (sbyte v 1)) 30 (off + 1)).set (some (sbyte v 2)) 30 (off + 2)).set (some (sbyte v 3)) 30 (off + 3)).set (some (sbyte v 4)) 30 (off + 4)).set (some (sbyte v 5)) 30 (off + 5)).set (some (sbyte v 6)) 30 (off + 6)).set (some (sbyte v 7)) 30 (off + 7)
def StoreAt (k : Nat) : Prop := ∀ (e1 e5 : Option Nat) (bt : Tr Nat) (v : Nat), out ((evs S0 200).fn 20 [.one (.ptr 1 1 0 0), .one (.int .u64 (.ofNat (8 * k))), .one (.int .u64 (.ofNat v))] (seg0 e1 e5 bt 4800) 2) =
  some (.a (.one (.int .i64 0)), some ⟨e5, 0, [[.bts (bytesSet bt (8 * k) v) 4800]]⟩, some ⟨e1, 1, [[.ref 0 1 0 4800]]⟩, 3)
def Run (P : Nat → Prop) (a : Nat) : Nat → Prop
  | 0 => True
  | n + 1 => P a ∧ Run P (a + 1) n
theorem Run.at_ {P : Nat → Prop} : ∀ {n a k : Nat}, Run P a n → a ≤ k → k < a + n → P k
  | 0, a, k, _, h1, h2 => by omega
  | n + 1, a, k, h, h1, h2 => by
    by_cases e : k = a
    · subst e; exact h.1
    · exact h.2.at_ (by omega) (by omega)
end Go.Proofs.YtdapdiaklpcmjaaGreat.Pe
namespace Go.Proofs.YtdapdiaklpcmjaaGreat.Pe
open Go
theorem toNat_u64 (n : Nat) (h : n < 18446744073709551616) : (BitVec.ofInt 64 (n : Int)).toNat = n := by
  rw [BitVec.toNat_ofInt]
  have : ((n : Int) % ((2 ^ 64 : Nat) : Int)) = n := by omega
  rw [this]
  rfl
theorem stepL_nat (v c : Nat) (hv : v < 72057594037927936) (hc : c < 256) : stepL (v : Int) c = ((v * 256 + c : Nat) : Int) := by
  unfold stepL
  have e1 : (v : Int) * 2 ^ (min (8 : Int).toNat IntKind.u64.bits) = ((v * 256 : Nat) : Int) := by
    have : (2 : Int) ^ (min (8 : Int).toNat IntKind.u64.bits) = 256 := by decide
    rw [this]; omega
  have l1 : Nat.blt (v * 256) (limK .u64) = true := Nat.ble_eq_true_of_le (show v * 256 + 1 ≤ 18446744073709551616 by omega)
  have l2 : Nat.blt c (limK .u64) = true := Nat.ble_eq_true_of_le (show c + 1 ≤ 18446744073709551616 by omega)
  rw [e1, limK_wrap l1, show (Int.ofNat c) = (c : Int) from rfl, limK_wrap l2]
  show IntKind.u64.wrap (((BitVec.ofInt 64 ((v * 256 : Nat) : Int)) ||| (BitVec.ofInt 64 (c : Int))).toNat : Int) = _
  rw [BitVec.toNat_or, toNat_u64 _ (by omega), toNat_u64 _ (by omega)]
  have e2 : v * 256 ||| c = v * 256 + c := by
    have := Nat.two_pow_add_eq_or_of_lt (i := 8) (b := c) (by omega) v
    rw [Nat.mul_comm v 256]
    exact this.symm
  rw [e2]
  exact limK_wrap (Nat.ble_eq_true_of_le (show v * 256 + c + 1 ≤ 18446744073709551616 by omega))
theorem byt_bOf (t : Tr Nat) {n k j : Nat} (hn : n ≤ 1000000000) (hk : 8 * k + 8 ≤ n) (hj : j < 8) : byt (bOf t n) (8 * k + j) = (t.get k).getD 0 / 256 ^ j % 256 := by
  unfold byt
  rw [bOf_get t n hn _ (by omega)]
  have e1 : (8 * k + j) / 8 = k := by omega
  have e2 : (8 * k + j) % 8 = j := by omega
  show (t.get ((8 * k + j) / 8)).getD 0 / 256 ^ ((8 * k + j) % 8) % 256 = _
  rw [e1, e2]
theorem wordL_words (t : Tr Nat) {n k : Nat} (hn : n ≤ 1000000000) (hk : 8 * k + 8 ≤ n) (hw : (t.get k).getD 0 < 18446744073709551616) : wordL (bOf t n) (8 * k) = (((t.get k).getD 0 : Nat) : Int) := by
  unfold wordL
  have h0 := byt_bOf t hn hk (j := 0) (by omega)
  rw [Nat.add_zero] at h0
  rw [byt_bOf t hn hk (j := 7) (by omega), byt_bOf t hn hk (j := 6) (by omega), byt_bOf t hn hk (j := 5) (by omega), byt_bOf t hn hk (j := 4) (by omega), byt_bOf t hn hk (j := 3) (by omega), byt_bOf t hn hk (j := 2) (by omega), byt_bOf t hn hk (j := 1) (by omega), h0]
  generalize (t.get k).getD 0 = w at hw
  have d : ∀ j, w / 256 ^ (j + 1) = w / 256 ^ j / 256 := fun j => by rw [Nat.pow_succ, Nat.div_div_eq_div_mul]
  have d1 := d 0
  have d2 := d 1
  have d3 := d 2
  have d4 := d 3
  have d5 := d 4
  have d6 := d 5
  have d7 := d 6
  have z : w / 256 ^ 0 = w := by simp
  generalize w / 256 ^ 7 = x7 at *
  generalize w / 256 ^ 6 = x6 at *
  generalize w / 256 ^ 5 = x5 at *
  generalize w / 256 ^ 4 = x4 at *
  generalize w / 256 ^ 3 = x3 at *
  generalize w / 256 ^ 2 = x2 at *
  generalize hx1 : w / 256 ^ 1 = x1 at *
  have y0 : w / 256 ^ 0 = w := z
  rw [y0] at d1 ⊢
  have e0 : stepL 0 (x7 % 256) = ((x7 % 256 : Nat) : Int) := by
    have := stepL_nat 0 (x7 % 256) (by omega) (by omega)
    simpa using this
  have b7 : x7 < 72057594037927936 := by omega
  have b6 : x6 < 72057594037927936 := by omega
  have b5 : x5 < 72057594037927936 := by omega
  have b4 : x4 < 72057594037927936 := by omega
  have b3 : x3 < 72057594037927936 := by omega
  have b2 : x2 < 72057594037927936 := by omega
  have b1 : x1 < 72057594037927936 := by omega
  have s : ∀ (v c : Nat), v < 72057594037927936 → c < 256 → stepL (v : Int) c = ((v * 256 + c : Nat) : Int) := stepL_nat
  have f7 : x7 % 256 = x7 := by omega
  have q : ∀ a b : Nat, a = b / 256 → a * 256 + b % 256 = b := fun a b h => by rw [h, Nat.mul_comm]; exact Nat.div_add_mod b 256
  rw [e0, f7, s x7 (x6 % 256) b7 (Nat.mod_lt _ (by decide))]
  have f6 : x7 * 256 + x6 % 256 = x6 := q x7 x6 d7
  rw [f6, s x6 (x5 % 256) b6 (Nat.mod_lt _ (by decide))]
  have f5 : x6 * 256 + x5 % 256 = x5 := q x6 x5 d6
  rw [f5, s x5 (x4 % 256) b5 (Nat.mod_lt _ (by decide))]
  have f4 : x5 * 256 + x4 % 256 = x4 := q x5 x4 d5
  rw [f4, s x4 (x3 % 256) b4 (Nat.mod_lt _ (by decide))]
  have f3 : x4 * 256 + x3 % 256 = x3 := q x4 x3 d4
  rw [f3, s x3 (x2 % 256) b3 (Nat.mod_lt _ (by decide))]
  have f2 : x3 * 256 + x2 % 256 = x2 := q x3 x2 d3
  rw [f2, s x2 (x1 % 256) b2 (Nat.mod_lt _ (by decide))]
  have f1 : x2 * 256 + x1 % 256 = x1 := q x2 x1 d2
  rw [f1, s x1 (w % 256) b1 (Nat.mod_lt _ (by decide))]
  have f0 : x1 * 256 + w % 256 = w := q x1 w d1
  rw [f0]
theorem sbyte_eq (v : Nat) : sbyte v 0 = v / 256 ^ 0 % 256 ∧ sbyte v 1 = v / 256 ^ 1 % 256 ∧ sbyte v 2 = v / 256 ^ 2 % 256 ∧ sbyte v 3 = v / 256 ^ 3 % 256 ∧ sbyte v 4 = v / 256 ^ 4 % 256 ∧ sbyte v 5 = v / 256 ^ 5 % 256 ∧ sbyte v 6 = v / 256 ^ 6 % 256 ∧ sbyte v 7 = v / 256 ^ 7 % 256 :=
  ⟨rfl, rfl, rfl, rfl, rfl, rfl, rfl, rfl⟩
theorem bytesSet_rows (t : Tr Nat) {n k v : Nat} (hn : n ≤ 1000000000) (hk : 8 * k + 8 ≤ n) : btsRows (bytesSet (bOf t n) (8 * k) v) n = wdsRows (t.set (some v) 30 k) n := by
  unfold btsRows wdsRows
  apply List.map_congr_left
  intro i hi
  have hi : i < n := List.mem_range.1 hi
  unfold byteB byteOf bytesSet
  obtain ⟨s0, s1, s2, s3, s4, s5, s6, s7⟩ := sbyte_eq v
  simp only [Tr.get_set _ 30 _ (8 * k) (by omega), Tr.get_set _ 30 _ (8 * k + 1) (by omega), Tr.get_set _ 30 _ (8 * k + 2) (by omega), Tr.get_set _ 30 _ (8 * k + 3) (by omega), Tr.get_set _ 30 _ (8 * k + 4) (by omega), Tr.get_set _ 30 _ (8 * k + 5) (by omega), Tr.get_set _ 30 _ (8 * k + 6) (by omega), Tr.get_set _ 30 _ (8 * k + 7) (by omega), Tr.get_set _ 30 _ k (by omega), bOf_get t n hn i hi]
  by_cases e : i / 8 = k
  · rw [if_pos e]
    have hj : i % 8 = 0 ∨ i % 8 = 1 ∨ i % 8 = 2 ∨ i % 8 = 3 ∨ i % 8 = 4 ∨ i % 8 = 5 ∨ i % 8 = 6 ∨ i % 8 = 7 := by omega
    rcases hj with h | h | h | h | h | h | h | h
    · rw [if_neg (show ¬ i = 8 * k + 7 by omega), if_neg (show ¬ i = 8 * k + 6 by omega), if_neg (show ¬ i = 8 * k + 5 by omega), if_neg (show ¬ i = 8 * k + 4 by omega), if_neg (show ¬ i = 8 * k + 3 by omega), if_neg (show ¬ i = 8 * k + 2 by omega), if_neg (show ¬ i = 8 * k + 1 by omega), if_pos (show i = 8 * k by omega), h, s0]; rfl
    · rw [if_neg (show ¬ i = 8 * k + 7 by omega), if_neg (show ¬ i = 8 * k + 6 by omega), if_neg (show ¬ i = 8 * k + 5 by omega), if_neg (show ¬ i = 8 * k + 4 by omega), if_neg (show ¬ i = 8 * k + 3 by omega), if_neg (show ¬ i = 8 * k + 2 by omega), if_pos (show i = 8 * k + 1 by omega), h, s1]; rfl
    · rw [if_neg (show ¬ i = 8 * k + 7 by omega), if_neg (show ¬ i = 8 * k + 6 by omega), if_neg (show ¬ i = 8 * k + 5 by omega), if_neg (show ¬ i = 8 * k + 4 by omega), if_neg (show ¬ i = 8 * k + 3 by omega), if_pos (show i = 8 * k + 2 by omega), h, s2]; rfl
    · rw [if_neg (show ¬ i = 8 * k + 7 by omega), if_neg (show ¬ i = 8 * k + 6 by omega), if_neg (show ¬ i = 8 * k + 5 by omega), if_neg (show ¬ i = 8 * k + 4 by omega), if_pos (show i = 8 * k + 3 by omega), h, s3]; rfl
    · rw [if_neg (show ¬ i = 8 * k + 7 by omega), if_neg (show ¬ i = 8 * k + 6 by omega), if_neg (show ¬ i = 8 * k + 5 by omega), if_pos (show i = 8 * k + 4 by omega), h, s4]; rfl
    · rw [if_neg (show ¬ i = 8 * k + 7 by omega), if_neg (show ¬ i = 8 * k + 6 by omega), if_pos (show i = 8 * k + 5 by omega), h, s5]; rfl
    · rw [if_neg (show ¬ i = 8 * k + 7 by omega), if_pos (show i = 8 * k + 6 by omega), h, s6]; rfl
    · rw [if_pos (show i = 8 * k + 7 by omega), h, s7]; rfl
  · rw [if_neg e, if_neg (show ¬ i = 8 * k + 7 by omega), if_neg (show ¬ i = 8 * k + 6 by omega), if_neg (show ¬ i = 8 * k + 5 by omega), if_neg (show ¬ i = 8 * k + 4 by omega), if_neg (show ¬ i = 8 * k + 3 by omega), if_neg (show ¬ i = 8 * k + 2 by omega), if_neg (show ¬ i = 8 * k + 1 by omega), if_neg (show ¬ i = 8 * k by omega)]; rfl
end Go.Proofs.YtdapdiaklpcmjaaGreat.Pe
namespace Go.Proofs.YtdapdiaklpcmjaaGreat.Pe
open Go Go.ChangeShapes Go.Deep
def tiles (P : Program) : Nat → List Field → Nat → Bool
  | off, [], n => off == n
  | off, f :: fs, n => f.offset == off && tiles P (off + P.cellsOf f.type) fs n
def plainT (P : Program) : Nat → TypeId → Bool
  | 0, _ => false
  | d + 1, t => match P.underlying t with
    | some .bool => true
    | some (.int _) => true
    | some .string => true
    | some (.slice e) => decide (0 < P.cellsOf e) && plainT P d e
    | some (.struct fs) => tiles P 0 fs.toList (P.cellsOf t) && fs.toList.all fun f => plainT P d f.type
    | _ => false
def okD (P : Program) : Nat → TypeId → List D → Prop
  | 0, _, _ => False
  | d + 1, t, ds => match P.underlying t with
    | some .bool => ∃ b, ds = [.bool b]
    | some (.int k) => ∃ x, ds = [.int k x] ∧ (Lit.int k x).wf = true
    | some .string => ∃ s : ByteArray, ds = [.str s] ∧ s.size ≤ maxLen
    | some (.slice e) => ∃ rows, ds = [.sl rows] ∧ rows.length ≤ maxLen ∧ ∀ r ∈ rows, okD P d e r
    | some (.struct fs) => ds.length = P.cellsOf t ∧ ∀ f ∈ fs.toList, okD P d f.type ((ds.drop f.offset).take (P.cellsOf f.type))
    | _ => False
section
variable {P : Program} {w : World} {ι : Nat → Option Nat} {M : Nat → Prop}
theorem RdL.nil' : RdL w ι M [] [] := ⟨rfl, fun j v d h => by simp at h⟩
theorem RdL.one {v : Value} {d : D} (h : Rd w ι M v d) : RdL w ι M [v] [d] := ⟨rfl, fun j v' d' h1 h2 => by
  cases j with
  | zero => simp at h1 h2; subst h1; subst h2; exact h
  | succ j => simp at h1⟩
theorem RdL.app {l1 l2 : List Value} {m1 m2 : List D} (h1 : RdL w ι M l1 m1) (h2 : RdL w ι M l2 m2) : RdL w ι M (l1 ++ l2) (m1 ++ m2) := by
  refine ⟨by rw [List.length_append, List.length_append, h1.1, h2.1], fun j v d hv hd => ?_⟩
  by_cases hj : j < l1.length
  · rw [List.getElem?_append_left hj] at hv
    rw [List.getElem?_append_left (h1.1 ▸ hj)] at hd
    exact h1.2 j v d hv hd
  · rw [List.getElem?_append_right (by omega)] at hv
    rw [List.getElem?_append_right (by have := h1.1; omega), ← h1.1] at hd
    exact h2.2 _ v d hv hd
theorem tiles_le {fs : List Field} {off n : Nat} (h : tiles P off fs n = true) : off ≤ n := by
  induction fs generalizing off with
  | nil => simp [tiles] at h; omega
  | cons f fs ih => simp only [tiles, Bool.and_eq_true] at h; have := ih h.2; omega
theorem tile_reads {d : Nat} {cs : List Value} : ∀ (fs : List Field) (off : Nat), tiles P off fs cs.length = true → (∀ f ∈ fs, ∃ ds, RdL w ι M ((cs.drop f.offset).take (P.cellsOf f.type)) ds ∧ okD P d f.type ds) →
    ∃ ds, RdL w ι M (cs.drop off) ds ∧ ∀ f ∈ fs, off ≤ f.offset ∧ okD P d f.type ((ds.drop (f.offset - off)).take (P.cellsOf f.type)) := by
  intro fs
  induction fs with
  | nil =>
    intro off h _
    simp only [tiles, beq_iff_eq] at h
    exact ⟨[], by rw [h, List.drop_length]; exact RdL.nil', fun f hf => by simp at hf⟩
  | cons f fs ih =>
    intro off h hr
    simp only [tiles, Bool.and_eq_true, beq_iff_eq] at h
    obtain ⟨h1, h2⟩ := h
    have hle := tiles_le h2
    obtain ⟨d1, r1, k1⟩ := hr f (by simp)
    obtain ⟨d2, r2, k2⟩ := ih (off + P.cellsOf f.type) h2 (fun g hg => hr g (by simp [hg]))
    have hl1 : d1.length = P.cellsOf f.type := by
      have := r1.1
      rw [List.length_take, List.length_drop, h1] at this
      omega
    refine ⟨d1 ++ d2, ?_, fun g hg => ?_⟩
    · have e : cs.drop off = (cs.drop off).take (P.cellsOf f.type) ++ cs.drop (off + P.cellsOf f.type) := by
        rw [← List.drop_drop, List.take_append_drop]
      rw [e]
      rw [h1] at r1
      exact r1.app r2
    · rcases List.mem_cons.1 hg with rfl | hg
      · refine ⟨by omega, ?_⟩
        rw [h1, Nat.sub_self, List.drop_zero, ← hl1, List.take_left']
        · exact k1
        · rfl
      · obtain ⟨g1, g2⟩ := k2 g hg
        refine ⟨by omega, ?_⟩
        rw [List.drop_append, List.drop_eq_nil_of_le (by omega), List.nil_append, hl1]
        rw [show g.offset - off - P.cellsOf f.type = g.offset - (off + P.cellsOf f.type) by omega]
        exact g2
theorem plain_reads {H : Type} {enc : TypeId × Value → H} {base : Nat} {spare : Nat → Bool} {held : Bool} (hM : ∀ b, ¬ M b) : ∀ (d : Nat) (t : TypeId) (fuel : Nat) (cs : List Value) (x : DataW H × List MemPlace), plainT P d t = true → DataW.trod enc P w base spare held fuel t cs = some x → ∃ ds, RdL w ι M cs ds ∧ okD P d t ds := by
  intro d
  induction d with
  | zero => intro t fuel cs x h; simp [plainT] at h
  | succ d ih =>
    intro t fuel cs x h hx
    unfold plainT at h
    unfold okD
    split at h
    · rename_i hu
      obtain ⟨b, rfl, _⟩ := DataW.trod_bool hu hx
      exact ⟨[.bool b], .one (.bool b), b, rfl⟩
    · rename_i k hu
      obtain ⟨n, rfl, _, hw⟩ := DataW.trod_int hu hx
      exact ⟨[.int k n], .one (.int k n), n, rfl, hw⟩
    · rename_i hu
      obtain ⟨s, rfl, _, hs⟩ := DataW.trod_string hu hx
      exact ⟨[.str s], .one (.str s), s, rfl, hs⟩
    · rename_i e hu
      simp only [Bool.and_eq_true, decide_eq_true_eq] at h
      obtain ⟨he, hp⟩ := h
      rcases open_slice hu hx with ⟨rfl, _⟩ | ⟨a, len, cap, m, n, Dd, Pl, rfl, hb, hl, hc, hm, _, hel⟩
      · exact ⟨[.sl []], .one (.nil _ _), [], rfl, by simp, by simp⟩
      have hlm : len ≤ m := by rw [hm]; split <;> omega
      have hall : ∀ i, i < len → ∃ p : List Value × List D, w.cells? base (a.add (i * P.cellsOf e)) (P.cellsOf e) = some p.1 ∧ RdL w ι M p.1 p.2 ∧ okD P d e p.2 := fun i hi => by
        obtain ⟨cs', h1, h2⟩ := hel i (by omega)
        obtain ⟨ds, h3, h4⟩ := ih e n cs' _ hp h2
        exact ⟨(cs', ds), h1, h3, h4⟩
      obtain ⟨f, hf⟩ := choose_lt (α := List Value × List D) hall
      refine ⟨[.sl ((List.range len).map fun i => (f i).2)], .one ?_, _, rfl, by rw [List.length_map, List.length_range]; omega, fun r hr => ?_⟩
      · by_cases h0 : len = 0
        · subst h0; exact .nil _ _
        have hcell : ∀ i j, i < len → j < P.cellsOf e → w.cell? (a.add (i * P.cellsOf e + j)) = some ((f i).1.getD j undef) := fun i j hi hj => by
          obtain ⟨_, h1, h2⟩ := World.cells?_some (hf i hi).1
          have h3 := h2 j hj
          rw [add_add] at h3
          rw [h3, List.getD_eq_getElem?_getD, List.getElem?_eq_getElem (by omega)]
          rfl
        refine .sl a len cap (P.cellsOf e) _ (fun i j => (f i).1.getD j undef) (by simp) (by omega) hl he (fun r hr => ?_) ?_ (hM _) hcell (fun i j r dd hr hd => ?_)
        · obtain ⟨i, hi, rfl⟩ := List.mem_map.1 hr
          have hi := List.mem_range.1 hi
          rw [← (hf i hi).2.1.1, (World.cells?_some (hf i hi).1).2.1]
        · have := World.cell?_spot (hcell 0 0 (by omega) he)
          simpa [Addr.add] using this
        · have hi : i < len := by
            have := (List.getElem?_eq_some_iff.1 hr).1
            simpa using this
          simp only [List.getElem?_map, List.getElem?_range hi, Option.map_some, Option.some.injEq] at hr
          subst hr
          obtain ⟨hj, _⟩ := List.getElem?_eq_some_iff.1 hd
          have hj' : j < (f i).1.length := by rw [(hf i hi).2.1.1]; exact hj
          refine (hf i hi).2.1.2 j _ _ ?_ hd
          rw [List.getD_eq_getElem?_getD, List.getElem?_eq_getElem hj']
          rfl
      · obtain ⟨i, hi, rfl⟩ := List.mem_map.1 hr
        exact (hf i (List.mem_range.1 hi)).2.2
    · rename_i fs hu
      simp only [Bool.and_eq_true] at h
      obtain ⟨ht, hall⟩ := h
      obtain ⟨xs, n, _, _, hl, hxl, hg⟩ := DataW.trod_struct hu hx
      obtain ⟨ds, h1, h2⟩ := tile_reads (P := P) (w := w) (ι := ι) (M := M) (d := d) (cs := cs) fs.toList 0 (by rw [hl]; exact ht) (fun f hf => by
        obtain ⟨i, hi, rfl⟩ := List.getElem_of_mem hf
        have hi' : i < fs.size := by simpa using hi
        have e := hg i fs[i] (Array.getElem?_eq_getElem hi')
        rw [List.getElem?_eq_getElem (by omega)] at e
        rw [Array.getElem_toList]
        refine ih _ n _ _ ?_ e
        rw [List.all_eq_true] at hall
        exact hall _ (by simp))
      rw [List.drop_zero] at h1
      exact ⟨ds, h1, by rw [← h1.1, hl], fun f hf => by simpa using (h2 f hf).2⟩
    · cases h
end
end Go.Proofs.YtdapdiaklpcmjaaGreat.Pe
namespace Go.Proofs.YtdapdiaklpcmjaaGreat.Pe
open Go Go.ChangeShapes Go.WideShapes Go.ChangeAt Go.RowKit
theorem own : ownKnob Tryz.prog.godebug = none := by kernel_rfl
theorem laidOut : laidOutB Tryz.prog = true := by kernel_rfl
def RdIn (P : Program) (W : World) (d : Nat) (t : TypeId) (v : Value) (a : AD) : Prop := RdA W (fun _ => none) (fun _ => False) v a ∧ okD P d t a.cells
theorem law_run {P : Program} {f : Nat} {ads : List AD} {H' : Hp} {nx' : Nat} (hr : RunAt P f ads (.tr .leaf) 0 (.a (.one (.bool true))) H' nx') {vals : Array Value} {w : World} (hl : vals.size = ads.length)
    (h : ∀ (j : Nat) v x, vals[j]? = some v → ads[j]? = some x → RdA w (fun _ => none) (fun _ => False) v x) : Calls P f vals w fun e w' => e = .returned (.bool true) ∧ Below w.heap.size w w' := by
  refine (hr w (fun _ => none) (fun _ => False) vals (fun b h => h.elim) ⟨fun o => (by simp), fun o ob h => (by cases h), fun o o' x x' b h => (by cases h), fun o x b h => (by cases h)⟩ hl h).mono ?_
  rintro e w' ⟨v, ι', M', rfl, hv, _, _, he, _⟩
  have hv : Rd w' ι' M' v (.bool true) := hv
  cases hv
  refine ⟨rfl, he.os, he.tape, he.output, he.size, fun k hk => he.same k hk fun hx => ?_⟩
  obtain ⟨o, x, h1, _⟩ := hx
  cases h1
section
variable {H : Type} {enc : TypeId × Value → H} {P : Program} {W : World} {base b0 : Nat} {spare : Nat → Bool} {held : Bool} {t : TypeId} {v : Value} {x : DataW H} {p : List MemPlace} {r : Reach}
theorem arg_one (n : Nat) (hp : plainT P n t = true) (hv : v.cells = #[v]) (h : DataW.Trod enc P W base spare held t v x p) : ∃ d, RdIn P W n t v (.one d) := by
  obtain ⟨fuel, hf⟩ := h
  obtain ⟨ds, h1, h2⟩ := plain_reads (w := W) (ι := fun _ => none) (M := fun _ => False) (fun _ h => h) n t fuel _ _ hp hf
  rw [hv] at h1
  have hl := h1.1
  match ds, hl with
  | [d], _ => exact ⟨d, h1.2 0 v d rfl rfl, h2⟩
theorem arg_many (n : Nat) (hp : plainT P n t = true) {cs : Array Value} (hv : v = .agg cs) (h : DataW.Trod enc P W base spare held t v x p) : ∃ ds, RdIn P W n t v (.many ds) := by
  obtain ⟨fuel, hf⟩ := h
  obtain ⟨ds, h1, h2⟩ := plain_reads (w := W) (ι := fun _ => none) (M := fun _ => False) (fun _ h => h) n t fuel _ _ hp hf
  subst hv
  exact ⟨ds, ⟨cs, rfl, h1⟩, h2⟩
theorem arg_sl (n : Nat) {e : TypeId} (hu : P.underlying t = some (.slice e)) (hp : plainT P (n + 1) t = true) (hv : Value.okWide P W r b0 t v) (h : DataW.Trod enc P W base spare held t v x p) :
    ∃ rows, RdIn P W (n + 1) t v (.one (.sl rows)) ∧ rows.length ≤ maxLen ∧ ∀ q ∈ rows, okD P n e q := by
  obtain ⟨a, len, cap, rfl⟩ := okWide_slice hu hv
  obtain ⟨d, h1, h2⟩ := arg_one (n + 1) hp rfl h
  have h2' := h2
  unfold okD at h2
  rw [hu] at h2
  obtain ⟨rows, e1, e2, e3⟩ := h2
  simp only [AD.cells, List.cons.injEq, and_true] at e1
  subst e1
  exact ⟨rows, ⟨h1, h2'⟩, e2, e3⟩
theorem arg_st (n : Nat) {fs : Array Field} (hu : P.underlying t = some (.struct fs)) (hp : plainT P n t = true) (hv : Value.okWide P W r b0 t v) (h : DataW.Trod enc P W base spare held t v x p) :
    ∃ ds, RdIn P W n t v (.many ds) ∧ okD P n t ds := by
  obtain ⟨cs, rfl, _⟩ := okWide_struct hu hv
  obtain ⟨ds, h1⟩ := arg_many n hp rfl h
  exact ⟨ds, h1, h1.2⟩
end
end Go.Proofs.YtdapdiaklpcmjaaGreat.Pe
