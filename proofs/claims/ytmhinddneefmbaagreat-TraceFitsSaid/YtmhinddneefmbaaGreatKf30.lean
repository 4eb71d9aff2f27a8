/- A part of the proof of JdH. -/
import Derived.Test.YtmhinddneefmbaaGreatKf22
import Derived.Test.YtmhinddneefmbaaGreatKf24
import Derived.Test.YtmhinddneefmbaaGreatKf29
set_option linter.unusedSimpArgs false
set_option linter.unusedVariables false
set_option linter.unusedSectionVars false
namespace Go.Proofs.YtmhinddneefmbaaGreat.Pe
open Go
set_option maxRecDepth 100000
noncomputable def Sx : SysP := { sysOf (mkTr ttL) (mkTr ezL) (mkTr fnL) .leaf with pb := fun _ => none }
theorem Sx_ok : SysOk Sx.toSys Tryz.prog := sysOf_ok (bs := []) mixed ttL_ok (by kernel_rfl) ezL_ok (by kernel_rfl) fnL_ok (by kernel_rfl) trivial rfl
theorem Sx_pb : PbOk Sx := ⟨fun f G h => (by cases h)⟩
abbrev loadN : Nat := 182
abbrev storeN : Nat := 74
abbrev sizeN : Nat := 73
abbrev newN : Nat := 33
noncomputable def stp (v c : Nat) : Nat := Nat.lor (Nat.mod (Nat.mul v 256) 18446744073709551616) c
noncomputable def shc (v : Nat) : Bool := Nat.blt (Nat.mod (Nat.mul v 256) 18446744073709551616) 18446744073709551616
theorem stp_eq {v c : Nat} (hv : v < 72057594037927936) (hc : c < 256) : stp v c = v * 256 + c := by
  have e : (v * 256) % 18446744073709551616 = v * 256 := Nat.mod_eq_of_lt (by omega)
  show (v * 256) % 18446744073709551616 ||| c = _
  rw [e, Nat.mul_comm v 256]
  exact (Nat.two_pow_add_eq_or_of_lt (i := 8) (b := c) (by omega) v).symm
theorem shc_true (v : Nat) : shc v = true := Nat.ble_eq_true_of_le (Nat.mod_lt _ (by decide))
noncomputable def byw (w j : Nat) : Nat := w / 256 ^ j % 256
noncomputable def wordB (b0 b1 b2 b3 b4 b5 b6 b7 : Nat) : Nat := stp (stp (stp (stp (stp (stp (stp (stp 0 b7) b6) b5) b4) b3) b2) b1) b0
theorem wordB_eq {w : Nat} (hw : w < 18446744073709551616) : wordB (byw w 0) (byw w 1) (byw w 2) (byw w 3) (byw w 4) (byw w 5) (byw w 6) (byw w 7) = w := by
  unfold wordB byw
  have d : ∀ j, w / 256 ^ (j + 1) = w / 256 ^ j / 256 := fun j => by rw [Nat.pow_succ, Nat.div_div_eq_div_mul]
  have d1 := d 0
  have d2 := d 1
  have d3 := d 2
  have d4 := d 3
  have d5 := d 4
  have d6 := d 5
  have d7 := d 6
  have y0 : w / 256 ^ 0 = w := by simp
  generalize w / 256 ^ 7 = x7 at *
  generalize w / 256 ^ 6 = x6 at *
  generalize w / 256 ^ 5 = x5 at *
  generalize w / 256 ^ 4 = x4 at *
  generalize w / 256 ^ 3 = x3 at *
  generalize w / 256 ^ 2 = x2 at *
  generalize w / 256 ^ 1 = x1 at *
  rw [y0] at d1 ⊢
  have b7 : x7 < 256 := by omega
  have q : ∀ a b : Nat, a = b / 256 → a * 256 + b % 256 = b := fun a b h => by rw [h, Nat.mul_comm]; exact Nat.div_add_mod b 256
  have s : ∀ a b : Nat, a = b / 256 → b < 18446744073709551616 → stp a (b % 256) = b := fun a b h hb => by
    rw [stp_eq (by omega) (Nat.mod_lt _ (by decide))]; exact q a b h
  rw [Nat.mod_eq_of_lt b7, show stp 0 x7 = x7 by rw [stp_eq (by decide) b7]; omega]
  rw [s x7 x6 d7 (by omega), s x6 x5 d6 (by omega), s x5 x4 d5 (by omega), s x4 x3 d4 (by omega), s x3 x2 d3 (by omega), s x2 x1 d2 (by omega), s x1 w d1 hw]
noncomputable def sbyte (v i : Nat) : Nat := Nat.mod (Nat.div v (Nat.pow 2 (Nat.min (8 * i) 64))) 256
noncomputable def ldR (e1 e5 : Option Nat) (bt : Tr Nat) (n off b0 b1 b2 b3 b4 b5 b6 b7 : Nat) := (evt Sx 200).fn loadN [.one (.ptr 1 1 0 0), .one (.int .u64 (.ofNat off))] (seg0 e1 e5 bt n) 2 ⟨0, [(0, true), (2, true), (3, .len 20 8), (4, .row 16 [.int .u8 (.ofNat b7)]), (5, .row 16 [.int .u8 (.ofNat b6)]), (6, .row 16 [.int .u8 (.ofNat b5)]), (7, .row 16 [.int .u8 (.ofNat b4)]), (8, .row 16 [.int .u8 (.ofNat b3)]), (9, .row 16 [.int .u8 (.ofNat b2)]), (10, .row 16 [.int .u8 (.ofNat b1)]), (11, .row 16 [.int .u8 (.ofNat b0)])], [], [], [], []⟩
theorem ld_at (e1 e5 : Option Nat) (bt : Tr Nat) (n off b0 b1 b2 b3 b4 b5 b6 b7 : Nat) : outS (ldR e1 e5 bt n off b0 b1 b2 b3 b4 b5 b6 b7) = some (.tup [.one (.int .u64 (.ofNat (wordB b0 b1 b2 b3 b4 b5 b6 b7))), .one (.int .i64 0)], some ⟨e5, 0, [[.bts bt n]]⟩, some ⟨e1, 1, [[.ref 0 1 0 n]]⟩, 5,
    allB [shc (stp (stp (stp (stp (stp (stp (stp 0 b7) b6) b5) b4) b3) b2) b1), Nat.blt b0 18446744073709551616, Nat.blt b0 18446744073709551616, shc (stp (stp (stp (stp (stp (stp 0 b7) b6) b5) b4) b3) b2), Nat.blt b1 18446744073709551616, Nat.blt b1 18446744073709551616, shc (stp (stp (stp (stp (stp 0 b7) b6) b5) b4) b3), Nat.blt b2 18446744073709551616, Nat.blt b2 18446744073709551616, shc (stp (stp (stp (stp 0 b7) b6) b5) b4), Nat.blt b3 18446744073709551616, Nat.blt b3 18446744073709551616, shc (stp (stp (stp 0 b7) b6) b5), Nat.blt b4 18446744073709551616, Nat.blt b4 18446744073709551616, shc (stp (stp 0 b7) b6), Nat.blt b5 18446744073709551616, Nat.blt b5 18446744073709551616, shc (stp 0 b7), Nat.blt b6 18446744073709551616, Nat.blt b6 18446744073709551616, Nat.blt b7 18446744073709551616, Nat.blt b7 18446744073709551616, Nat.blt off (Nat.add off 8), Nat.ble (Nat.add off 8) n, Nat.beq (Nat.sub (Nat.add off 8) off) 8, Nat.blt (Nat.add off 8) 18446744073709551616, Nat.blt off n, Nat.blt n 18446744073709551616, Nat.beq (Nat.mod off 8) 0],
    [(encR (PObj.row (0 + off + 0) ⟨e5, 0, [[.bts bt n]]⟩), encR (some [.int .u8 (.ofNat b0)])), (encR (PObj.row (0 + off + 1) ⟨e5, 0, [[.bts bt n]]⟩), encR (some [.int .u8 (.ofNat b1)])), (encR (PObj.row (0 + off + 2) ⟨e5, 0, [[.bts bt n]]⟩), encR (some [.int .u8 (.ofNat b2)])), (encR (PObj.row (0 + off + 3) ⟨e5, 0, [[.bts bt n]]⟩), encR (some [.int .u8 (.ofNat b3)])), (encR (PObj.row (0 + off + 4) ⟨e5, 0, [[.bts bt n]]⟩), encR (some [.int .u8 (.ofNat b4)])), (encR (PObj.row (0 + off + 5) ⟨e5, 0, [[.bts bt n]]⟩), encR (some [.int .u8 (.ofNat b5)])), (encR (PObj.row (0 + off + 6) ⟨e5, 0, [[.bts bt n]]⟩), encR (some [.int .u8 (.ofNat b6)])), (encR (PObj.row (0 + off + 7) ⟨e5, 0, [[.bts bt n]]⟩), encR (some [.int .u8 (.ofNat b7)]))]) := by kernel_rfl
theorem ld_eqs (e1 e5 : Option Nat) (bt : Tr Nat) (n off b0 b1 b2 b3 b4 b5 b6 b7 : Nat) : eqL (ldR e1 e5 bt n off b0 b1 b2 b3 b4 b5 b6 b7) = eqR (ldR e1 e5 bt n off b0 b1 b2 b3 b4 b5 b6 b7) := by kernel_rfl
noncomputable def bsT (bt : Tr Nat) (off v : Nat) : Nat → Tr Nat
  | 0 => bt
  | j + 1 => (bsT bt off v j).set (some (sbyte v j)) 30 (0 + (off + j))
noncomputable def stR (e1 e5 : Option Nat) (bt : Tr Nat) (n off v : Nat) := (evt Sx 200).fn storeN [.one (.ptr 1 1 0 0), .one (.int .u64 (.ofNat off)), .one (.int .u64 (.ofNat v))] (seg0 e1 e5 bt n) 2 ⟨0, [(0, true), (2, true), (4, .row 0 [byteB (bsT bt off v 0) (0 + (off + 0))]), (5, .row 0 [byteB (bsT bt off v 1) (0 + (off + 1))]), (6, .row 0 [byteB (bsT bt off v 2) (0 + (off + 2))]), (7, .row 0 [byteB (bsT bt off v 3) (0 + (off + 3))]), (8, .row 0 [byteB (bsT bt off v 4) (0 + (off + 4))]), (9, .row 0 [byteB (bsT bt off v 5) (0 + (off + 5))]), (10, .row 0 [byteB (bsT bt off v 6) (0 + (off + 6))]), (11, .row 0 [byteB (bsT bt off v 7) (0 + (off + 7))])], [], [], [], []⟩
theorem st_at (e1 e5 : Option Nat) (bt : Tr Nat) (n off v : Nat) : outS (stR e1 e5 bt n off v) = some (.a (.one (.int .i64 0)), some ⟨e5, 0, [[.bts (bsT bt off v 8) n]]⟩, some ⟨e1, 1, [[.ref 0 1 0 n]]⟩, 3,
    allB [Nat.blt (0 + (off + 7)) 1000000000, Nat.blt (off + 7) n, Nat.blt (off + 7) 18446744073709551616, Nat.blt (0 + (off + 6)) 1000000000, Nat.blt (off + 6) n, Nat.blt (off + 6) 18446744073709551616, Nat.blt (0 + (off + 5)) 1000000000, Nat.blt (off + 5) n, Nat.blt (off + 5) 18446744073709551616, Nat.blt (0 + (off + 4)) 1000000000, Nat.blt (off + 4) n, Nat.blt (off + 4) 18446744073709551616, Nat.blt (0 + (off + 3)) 1000000000, Nat.blt (off + 3) n, Nat.blt (off + 3) 18446744073709551616, Nat.blt (0 + (off + 2)) 1000000000, Nat.blt (off + 2) n, Nat.blt (off + 2) 18446744073709551616, Nat.blt (0 + (off + 1)) 1000000000, Nat.blt (off + 1) n, Nat.blt (off + 1) 18446744073709551616, Nat.blt (0 + (off + 0)) 1000000000, Nat.blt (off + 0) n, Nat.blt (off + 0) 18446744073709551616, Nat.blt off n, Nat.blt n 18446744073709551616, Nat.beq (Nat.mod off 8) 0],
    [(encR (PObj.row (0 + (off + 7)) ⟨e5, 0, [[.bts (bsT bt off v 7) n]]⟩), encR (some [byteB (bsT bt off v 7) (0 + (off + 7))])), (encR (PObj.row (0 + (off + 6)) ⟨e5, 0, [[.bts (bsT bt off v 6) n]]⟩), encR (some [byteB (bsT bt off v 6) (0 + (off + 6))])), (encR (PObj.row (0 + (off + 5)) ⟨e5, 0, [[.bts (bsT bt off v 5) n]]⟩), encR (some [byteB (bsT bt off v 5) (0 + (off + 5))])), (encR (PObj.row (0 + (off + 4)) ⟨e5, 0, [[.bts (bsT bt off v 4) n]]⟩), encR (some [byteB (bsT bt off v 4) (0 + (off + 4))])), (encR (PObj.row (0 + (off + 3)) ⟨e5, 0, [[.bts (bsT bt off v 3) n]]⟩), encR (some [byteB (bsT bt off v 3) (0 + (off + 3))])), (encR (PObj.row (0 + (off + 2)) ⟨e5, 0, [[.bts (bsT bt off v 2) n]]⟩), encR (some [byteB (bsT bt off v 2) (0 + (off + 2))])), (encR (PObj.row (0 + (off + 1)) ⟨e5, 0, [[.bts (bsT bt off v 1) n]]⟩), encR (some [byteB (bsT bt off v 1) (0 + (off + 1))])), (encR (PObj.row (0 + (off + 0)) ⟨e5, 0, [[.bts (bsT bt off v 0) n]]⟩), encR (some [byteB (bsT bt off v 0) (0 + (off + 0))]))]) := by kernel_rfl
theorem st_eqs (e1 e5 : Option Nat) (bt : Tr Nat) (n off v : Nat) : eqL (stR e1 e5 bt n off v) = eqR (stR e1 e5 bt n off v) := by kernel_rfl
noncomputable def segX (H : Hp) (sg : Nat) : Option (Nat × Nat × Tr Nat × Option Nat) := match H sg with
  | some ⟨_, 1, [[.ref o 1 0 n]]⟩ => match H o with
    | some ⟨e, 0, [[.wds t m]]⟩ => br (Nat.beq n m) (some (o, n, t, e)) none
    | _ => none
  | _ => none
theorem segX_some {H : Hp} {sg o n : Nat} {t : Tr Nat} {e : Option Nat} (h : segX H sg = some (o, n, t, e)) : (∃ e1, H sg = some ⟨e1, 1, [[.ref o 1 0 n]]⟩) ∧ H o = some ⟨e, 0, [[.wds t n]]⟩ := by
  unfold segX at h
  split at h
  · rename_i e1 o' n' hsg
    split at h
    · rename_i e' t' m ho
      obtain ⟨h1, h2⟩ := br_some h
      have := Nat.eq_of_beq_eq_true h1
      subst this
      simp only [Option.some.injEq, Prod.mk.injEq] at h2
      obtain ⟨rfl, rfl, rfl, rfl⟩ := h2
      exact ⟨⟨e1, hsg⟩, ho⟩
    · cases h
  · cases h
noncomputable def wordX (t : Tr Nat) (k : Nat) : Nat := Option.rec (motive := fun _ => Nat) 0 (fun v => v) (t.get k)
theorem wordX_eq (t : Tr Nat) (k : Nat) : wordX t k = (t.get k).getD 0 := by unfold wordX; cases t.get k <;> rfl
theorem inW_some {off n : Nat} (h : inW off n = true) : off % 8 = 0 ∧ off < n := by
  unfold inW at h
  have h : Nat.beq (Nat.mod off 8) 0 = true ∧ Nat.blt off n = true := by simpa using h
  exact ⟨Nat.eq_of_beq_eq_true h.1, Nat.le_of_ble_eq_true h.2⟩
theorem row_bts {e : Option Nat} {bt : Tr Nat} {n i : Nat} (h : i < n) : encR (PObj.row i ⟨e, 0, [[.bts bt n]]⟩) = encR (some [byteB bt i]) := by
  have : Nat.blt i n = true := Nat.ble_eq_true_of_le h
  show encR (Bool.rec (motive := fun _ => Option (List D)) none (some [byteB bt i]) (Nat.blt i n)) = _
  rw [this]
theorem byteB_bOf (t : Tr Nat) {n k j : Nat} (hn : n ≤ 1000000000) (hk : 8 * k + 8 ≤ n) (hj : j < 8) : byteB (bOf t n) (0 + 8 * k + j) = .int .u8 (.ofNat (byw ((t.get k).getD 0) j)) := by
  unfold byteB byw
  rw [bOf_get t n hn _ (by omega)]
  have e1 : (0 + 8 * k + j) / 8 = k := by omega
  have e2 : (0 + 8 * k + j) % 8 = j := by omega
  rw [e1, e2]
theorem tb {a b : Nat} (h : a < b) : Nat.blt a b = true := Nat.ble_eq_true_of_le h
theorem te {a b : Nat} (h : a = b) : Nat.beq a b = true := by subst h; exact Nat.beq_refl a
theorem tl {a b : Nat} (h : a ≤ b) : Nat.ble a b = true := Nat.ble_eq_true_of_le h
noncomputable def loadX (ads : List AD) (H : Hp) (nx : Nat) : Option (RV × Hp × Nat) := match ads with
  | [.one (.ptr sg 1 0 0), .one (.int .u64 (.ofNat off))] => match segX H sg with
    | some q => br (Nat.beq (Nat.mod q.2.1 8) 0) (br (Nat.ble q.2.1 1000000000) (br (inW off q.2.1) (br (Nat.blt (wordX q.2.2.1 (Nat.div off 8)) 18446744073709551616) (some (.tup [.one (.int .u64 (.ofNat (wordX q.2.2.1 (Nat.div off 8)))), .one (.int .i64 0)], H, nx)) none) none) none) none
    | none => none
  | _ => none
noncomputable def storeX (ads : List AD) (H : Hp) (nx : Nat) : Option (RV × Hp × Nat) := match ads with
  | [.one (.ptr sg 1 0 0), .one (.int .u64 (.ofNat off)), .one (.int .u64 (.ofNat v))] => match segX H sg with
    | some q => br (Nat.beq (Nat.mod q.2.1 8) 0) (br (Nat.ble q.2.1 1000000000) (br (inW off q.2.1) (some (.a (.one (.int .i64 0)), updO H q.1 (some ⟨q.2.2.2, 0, [[.wds (q.2.2.1.set (some v) 30 (Nat.div off 8)) q.2.1]]⟩), nx)) none) none) none
    | none => none
  | _ => none
theorem HeapOk.cong {w : World} {ι : Nat → Option Nat} {M : Nat → Prop} {H H' : Hp} {nx : Nat} (h : HeapOk w ι M H nx) (e : ∀ k, H' k = H k) : HeapOk w ι M H' nx :=
  ⟨h.new, fun o ob ho => h.objs o ob (by rw [← e]; exact ho), fun o o' x x' b ho ho' => h.inj o o' x x' b (by rw [← e]; exact ho) (by rw [← e]; exact ho'), fun o x b ho => h.ctl o x b (by rw [← e]; exact ho)⟩
theorem load_ok : FnEff Tryz.prog loadN loadX := by
  intro ads H nx r H' nx' hq w ι M vals hM hok hsz hargs
  unfold loadX at hq
  split at hq
  · rename_i sg off
    split at hq
    · rename_i q hs
      obtain ⟨o, n, t, e5⟩ := q
      obtain ⟨h0, hq⟩ := br_some hq
      obtain ⟨h1, hq⟩ := br_some hq
      obtain ⟨h2, hq⟩ := br_some hq
      obtain ⟨h3, hq⟩ := br_some hq
      have h0 : n % 8 = 0 := Nat.eq_of_beq_eq_true h0
      have h9 : n ≤ 1000000000 := Nat.le_of_ble_eq_true h1
      obtain ⟨ha, hb⟩ := inW_some h2
      have h3 : wordX t (off / 8) < 18446744073709551616 := Nat.le_of_ble_eq_true h3
      simp only [Option.some.injEq, Prod.mk.injEq] at hq
      obtain ⟨rfl, rfl, rfl⟩ := hq
      obtain ⟨⟨e1, hsg⟩, ho⟩ := segX_some hs
      obtain ⟨k, rfl⟩ : ∃ k, off = 8 * k := ⟨off / 8, by omega⟩
      have ek : 8 * k / 8 = k := by omega
      have hb : 8 * k < n := hb
      have hk8 : 8 * k + 8 ≤ n := by omega
      rw [ek, wordX_eq] at h3
      have bl : ∀ j, byw ((t.get k).getD 0) j < 256 := fun j => Nat.mod_lt _ (by decide)
      have b0 := bl 0
      have b1 := bl 1
      have b2 := bl 2
      have b3 := bl 3
      have b4 := bl 4
      have b5 := bl 5
      have b6 := bl 6
      have b7 := bl 7
      obtain ⟨K, hrun, hK0, hK1⟩ := outS_run Sx_ok Sx_pb (by kernel_rfl) (ld_at e1 e5 (bOf t n) n (8 * k) _ _ _ _ _ _ _ _) (ld_eqs e1 e5 (bOf t n) n (8 * k) (byw ((t.get k).getD 0) 0) (byw ((t.get k).getD 0) 1) (byw ((t.get k).getD 0) 2) (byw ((t.get k).getD 0) 3) (byw ((t.get k).getD 0) 4) (byw ((t.get k).getD 0) 5) (byw ((t.get k).getD 0) 6) (byw ((t.get k).getD 0) 7)) (allB_of fun c hc => by
        simp only [List.mem_cons, List.not_mem_nil, or_false] at hc
        rcases hc with h | h | h | h | h | h | h | h | h | h | h | h | h | h | h | h | h | h | h | h | h | h | h | h | h | h | h | h | h | h <;> subst h <;> first | exact shc_true _ | exact tb (by omega) | skip
        · exact tb (show 8 * k < 8 * k + 8 by omega)
        · exact te (show 8 * k + 8 - 8 * k = 8 by omega)
        · exact tb (show 8 * k + 8 < _ by omega)
        · exact te ha) (fun p hp => by
        simp only [List.mem_cons, List.not_mem_nil, or_false] at hp
        rcases hp with h | h | h | h | h | h | h | h <;> subst h <;> (refine (row_bts (by omega)).trans ?_; rw [byteB_bOf t h9 hk8 (by decide)]))
      rw [wordB_eq h3] at hrun
      have hrows := bOf_rows t h9
      refine (seg_frame (ptF_ok hrun) hrows hrows hsg ho (ptF_at _ _ _ _) hK1 hK0 rfl (fun x hx => by rcases List.mem_singleton.1 hx with rfl; rfl) hM hok hsz hargs).mono fun e w' hp => ?_
      obtain ⟨v, ι', M', he, hr, hk, hi, hev, hkept, hback, hlt⟩ := hp
      have same : ∀ j, H j = updO H o (some ⟨e5, 0, [[.wds t n]]⟩) j := fun j => by
        rw [updO_at]; split
        · rename_i e; subst e; exact ho
        · rfl
      refine ⟨v, ι', M', he, ?_, hk.cong same, hi, ⟨hev.os, hev.tape, hev.output, hev.size, hev.same, fun b hb ⟨j, x, h1, h2⟩ => hev.back b hb ⟨j, x, by rw [← same]; exact h1, h2⟩, hev.keep, hev.shape⟩, hkept, hback, hlt⟩
      have ev : wordX t (Nat.div (8 * k) 8) = (t.get k).getD 0 := by
        rw [wordX_eq]
        show (t.get (8 * k / 8)).getD 0 = _
        rw [ek]
      show RdV w' ι' M' v (.tup [.one (.int .u64 (.ofNat (wordX t (Nat.div (8 * k) 8)))), .one (.int .i64 0)])
      rw [ev]
      exact hr
    · cases hq
  · cases hq
theorem sbyte_eq (v : Nat) : sbyte v 0 = v / 256 ^ 0 % 256 ∧ sbyte v 1 = v / 256 ^ 1 % 256 ∧ sbyte v 2 = v / 256 ^ 2 % 256 ∧ sbyte v 3 = v / 256 ^ 3 % 256 ∧ sbyte v 4 = v / 256 ^ 4 % 256 ∧ sbyte v 5 = v / 256 ^ 5 % 256 ∧ sbyte v 6 = v / 256 ^ 6 % 256 ∧ sbyte v 7 = v / 256 ^ 7 % 256 :=
  ⟨rfl, rfl, rfl, rfl, rfl, rfl, rfl, rfl⟩
theorem bytesSet_rows (t : Tr Nat) {n k v : Nat} (hn : n ≤ 1000000000) (hk : 8 * k + 8 ≤ n) : btsRows (bsT (bOf t n) (8 * k) v 8) n = wdsRows (t.set (some v) 30 k) n := by
  unfold btsRows wdsRows
  apply List.map_congr_left
  intro i hi
  have hi : i < n := List.mem_range.1 hi
  unfold byteB byteOf
  simp only [bsT]
  obtain ⟨s0, s1, s2, s3, s4, s5, s6, s7⟩ := sbyte_eq v
  simp only [Tr.get_set _ 30 _ (0 + (8 * k + 0)) (by omega), Tr.get_set _ 30 _ (0 + (8 * k + 1)) (by omega), Tr.get_set _ 30 _ (0 + (8 * k + 2)) (by omega), Tr.get_set _ 30 _ (0 + (8 * k + 3)) (by omega), Tr.get_set _ 30 _ (0 + (8 * k + 4)) (by omega), Tr.get_set _ 30 _ (0 + (8 * k + 5)) (by omega), Tr.get_set _ 30 _ (0 + (8 * k + 6)) (by omega), Tr.get_set _ 30 _ (0 + (8 * k + 7)) (by omega), Tr.get_set _ 30 _ k (by omega), bOf_get t n hn i hi]
  by_cases e : i / 8 = k
  · rw [if_pos e]
    have hj : i % 8 = 0 ∨ i % 8 = 1 ∨ i % 8 = 2 ∨ i % 8 = 3 ∨ i % 8 = 4 ∨ i % 8 = 5 ∨ i % 8 = 6 ∨ i % 8 = 7 := by omega
    rcases hj with h | h | h | h | h | h | h | h
    · rw [if_neg (show ¬ i = 0 + (8 * k + 7) by omega), if_neg (show ¬ i = 0 + (8 * k + 6) by omega), if_neg (show ¬ i = 0 + (8 * k + 5) by omega), if_neg (show ¬ i = 0 + (8 * k + 4) by omega), if_neg (show ¬ i = 0 + (8 * k + 3) by omega), if_neg (show ¬ i = 0 + (8 * k + 2) by omega), if_neg (show ¬ i = 0 + (8 * k + 1) by omega), if_pos (show i = 0 + (8 * k + 0) by omega), h, s0]; rfl
    · rw [if_neg (show ¬ i = 0 + (8 * k + 7) by omega), if_neg (show ¬ i = 0 + (8 * k + 6) by omega), if_neg (show ¬ i = 0 + (8 * k + 5) by omega), if_neg (show ¬ i = 0 + (8 * k + 4) by omega), if_neg (show ¬ i = 0 + (8 * k + 3) by omega), if_neg (show ¬ i = 0 + (8 * k + 2) by omega), if_pos (show i = 0 + (8 * k + 1) by omega), h, s1]; rfl
    · rw [if_neg (show ¬ i = 0 + (8 * k + 7) by omega), if_neg (show ¬ i = 0 + (8 * k + 6) by omega), if_neg (show ¬ i = 0 + (8 * k + 5) by omega), if_neg (show ¬ i = 0 + (8 * k + 4) by omega), if_neg (show ¬ i = 0 + (8 * k + 3) by omega), if_pos (show i = 0 + (8 * k + 2) by omega), h, s2]; rfl
    · rw [if_neg (show ¬ i = 0 + (8 * k + 7) by omega), if_neg (show ¬ i = 0 + (8 * k + 6) by omega), if_neg (show ¬ i = 0 + (8 * k + 5) by omega), if_neg (show ¬ i = 0 + (8 * k + 4) by omega), if_pos (show i = 0 + (8 * k + 3) by omega), h, s3]; rfl
    · rw [if_neg (show ¬ i = 0 + (8 * k + 7) by omega), if_neg (show ¬ i = 0 + (8 * k + 6) by omega), if_neg (show ¬ i = 0 + (8 * k + 5) by omega), if_pos (show i = 0 + (8 * k + 4) by omega), h, s4]; rfl
    · rw [if_neg (show ¬ i = 0 + (8 * k + 7) by omega), if_neg (show ¬ i = 0 + (8 * k + 6) by omega), if_pos (show i = 0 + (8 * k + 5) by omega), h, s5]; rfl
    · rw [if_neg (show ¬ i = 0 + (8 * k + 7) by omega), if_pos (show i = 0 + (8 * k + 6) by omega), h, s6]; rfl
    · rw [if_pos (show i = 0 + (8 * k + 7) by omega), h, s7]; rfl
  · rw [if_neg e, if_neg (show ¬ i = 0 + (8 * k + 7) by omega), if_neg (show ¬ i = 0 + (8 * k + 6) by omega), if_neg (show ¬ i = 0 + (8 * k + 5) by omega), if_neg (show ¬ i = 0 + (8 * k + 4) by omega), if_neg (show ¬ i = 0 + (8 * k + 3) by omega), if_neg (show ¬ i = 0 + (8 * k + 2) by omega), if_neg (show ¬ i = 0 + (8 * k + 1) by omega), if_neg (show ¬ i = 0 + (8 * k + 0) by omega)]; rfl
theorem store_ok : FnEff Tryz.prog storeN storeX := by
  intro ads H nx r H' nx' hq w ι M vals hM hok hsz hargs
  unfold storeX at hq
  split at hq
  · rename_i sg off v
    split at hq
    · rename_i q hs
      obtain ⟨o, n, t, e5⟩ := q
      obtain ⟨h0, hq⟩ := br_some hq
      obtain ⟨h1, hq⟩ := br_some hq
      obtain ⟨h2, hq⟩ := br_some hq
      have h0 : n % 8 = 0 := Nat.eq_of_beq_eq_true h0
      have h9 : n ≤ 1000000000 := Nat.le_of_ble_eq_true h1
      obtain ⟨ha, hb⟩ := inW_some h2
      simp only [Option.some.injEq, Prod.mk.injEq] at hq
      obtain ⟨rfl, rfl, rfl⟩ := hq
      obtain ⟨⟨e1, hsg⟩, ho⟩ := segX_some hs
      obtain ⟨k, rfl⟩ : ∃ k, off = 8 * k := ⟨off / 8, by omega⟩
      have ek : Nat.div (8 * k) 8 = k := by show 8 * k / 8 = k; omega
      have hb : 8 * k < n := hb
      have hk8 : 8 * k + 8 ≤ n := by omega
      obtain ⟨K, hrun, hK0, hK1⟩ := outS_run Sx_ok Sx_pb (by kernel_rfl) (st_at e1 e5 (bOf t n) n (8 * k) v) (st_eqs e1 e5 (bOf t n) n (8 * k) v) (allB_of fun c hc => by
        simp only [List.mem_cons, List.not_mem_nil, or_false] at hc
        rcases hc with h | h | h | h | h | h | h | h | h | h | h | h | h | h | h | h | h | h | h | h | h | h | h | h | h | h | h <;> subst h <;> first | exact tb (by omega) | exact te ha) (fun p hp => by
        simp only [List.mem_cons, List.not_mem_nil, or_false] at hp
        rcases hp with h | h | h | h | h | h | h | h <;> subst h <;> exact row_bts (by omega))
      have := seg_frame (ptF_ok hrun) (bOf_rows t h9) (bytesSet_rows t (v := v) h9 hk8) hsg ho (ptF_at _ _ _ _) hK1 hK0 rfl (fun x hx => by
        rcases List.mem_cons.1 hx with rfl | hx
        · rfl
        · rcases List.mem_singleton.1 hx with rfl; rfl) hM hok hsz hargs
      rw [ek]
      exact this
    · cases hq
  · cases hq
theorem size_at (e1 e5 : Option Nat) (bt : Tr Nat) (n : Nat) : outS ((evt Sx 200).fn sizeN [.one (.ptr 1 1 0 0)] (seg0 e1 e5 bt n) 2 ⟨0, [], [], [], [], []⟩) = some (.a (.one (.int .u64 (.ofNat n))), some ⟨e5, 0, [[.bts bt n]]⟩, some ⟨e1, 1, [[.ref 0 1 0 n]]⟩, 2, allB [Nat.blt n 18446744073709551616], []) := by kernel_rfl
theorem size_eqs (e1 e5 : Option Nat) (bt : Tr Nat) (n : Nat) : eqL ((evt Sx 200).fn sizeN [.one (.ptr 1 1 0 0)] (seg0 e1 e5 bt n) 2 ⟨0, [], [], [], [], []⟩) = eqR ((evt Sx 200).fn sizeN [.one (.ptr 1 1 0 0)] (seg0 e1 e5 bt n) 2 ⟨0, [], [], [], [], []⟩) := by kernel_rfl
noncomputable def sizeX (ads : List AD) (H : Hp) (nx : Nat) : Option (RV × Hp × Nat) := match ads with
  | [.one (.ptr sg 1 0 0)] => match segX H sg with
    | some q => br (Nat.ble q.2.1 1000000000) (some (.a (.one (.int .u64 (.ofNat q.2.1))), H, nx)) none
    | none => none
  | _ => none
theorem size_ok : FnEff Tryz.prog sizeN sizeX := by
  intro ads H nx r H' nx' hq w ι M vals hM hok hsz hargs
  unfold sizeX at hq
  split at hq
  · rename_i sg
    split at hq
    · rename_i q hs
      obtain ⟨o, n, t, e5⟩ := q
      obtain ⟨h1, hq⟩ := br_some hq
      have h9 : n ≤ 1000000000 := Nat.le_of_ble_eq_true h1
      simp only [Option.some.injEq, Prod.mk.injEq] at hq
      obtain ⟨rfl, rfl, rfl⟩ := hq
      obtain ⟨⟨e1, hsg⟩, ho⟩ := segX_some hs
      obtain ⟨K, hrun, hK0, hK1⟩ := outS_run Sx_ok Sx_pb (by kernel_rfl) (size_at e1 e5 (bOf t n) n) (size_eqs e1 e5 (bOf t n) n) (allB_of fun c hc => by
        rcases List.mem_singleton.1 hc with rfl
        exact tb (by omega)) (fun p hp => by cases hp)
      have hrows := bOf_rows t h9
      refine (seg_frame (ptF_ok hrun) hrows hrows hsg ho (ptF_at _ _ _ _) hK1 hK0 rfl (fun x hx => by cases hx) hM hok hsz hargs).mono fun e w' hp => ?_
      obtain ⟨v, ι', M', he, hr, hk, hi, hev, hkept, hback, hlt⟩ := hp
      have same : ∀ j, H j = updO H o (some ⟨e5, 0, [[.wds t n]]⟩) j := fun j => by
        rw [updO_at]; split
        · rename_i e; subst e; exact ho
        · rfl
      exact ⟨v, ι', M', he, hr, hk.cong same, hi, ⟨hev.os, hev.tape, hev.output, hev.size, hev.same, fun b hb ⟨j, x, h1, h2⟩ => hev.back b hb ⟨j, x, by rw [← same]; exact h1, h2⟩, hev.keep, hev.shape⟩, hkept, hback, hlt⟩
    · cases hq
  · cases hq
end Go.Proofs.YtmhinddneefmbaaGreat.Pe
