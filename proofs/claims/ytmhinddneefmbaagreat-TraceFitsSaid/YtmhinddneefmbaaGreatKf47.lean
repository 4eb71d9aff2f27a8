/- A part of the proof of JdH. -/
import Derived.Test.YtmhinddneefmbaaGreatRows
import Derived.Test.YtmhinddneefmbaaGreatKf23
import Derived.Test.YtmhinddneefmbaaGreatKf46
set_option linter.unusedSimpArgs false
set_option linter.unusedVariables false
set_option linter.unusedSectionVars false
namespace Go.Proofs.YtmhinddneefmbaaGreat
namespace Pe
open Go Go.ChangeShapes Go.WideShapes Go.ChangeAt Go.RowKit
section
variable {P : Program} {n : Nat} {t : TypeId} {ds : List D}
theorem okD_i64 (hu : P.underlying t = some (.int .i64)) (h : okD P (n + 1) t ds) : ∃ x, ds = [.int .i64 x] ∧ -9223372036854775808 ≤ x ∧ x < 9223372036854775808 := by
  unfold okD at h; rw [hu] at h
  obtain ⟨x, e, w⟩ := h
  have := bounds_i64 w
  exact ⟨x, e, by omega, by omega⟩
theorem okD_u64 (hu : P.underlying t = some (.int .u64)) (h : okD P (n + 1) t ds) : ∃ x : Nat, ds = [.int .u64 (.ofNat x)] := by
  unfold okD at h; rw [hu] at h
  obtain ⟨x, e, w⟩ := h
  have := bounds_u64 w
  exact ⟨x.toNat, by rw [e, show Int.ofNat x.toNat = x from Int.toNat_of_nonneg (by omega)]⟩
theorem okD_st' {fs : Array Field} (hu : P.underlying t = some (.struct fs)) (h : okD P (n + 1) t ds) : ds.length = P.cellsOf t ∧ ∀ f ∈ fs.toList, okD P n f.type ((ds.drop f.offset).take (P.cellsOf f.type)) := by
  unfold okD at h; rw [hu] at h; exact h
theorem okD_str' (hu : P.underlying t = some .string) (h : okD P (n + 1) t ds) : ∃ x : ByteArray, ds = [.str x] ∧ x.size ≤ maxLen := by
  unfold okD at h; rw [hu] at h; exact h
end
theorem len8' {l : List D} (h : l.length = 8) : ∃ a b c d e f g i, l = [a, b, c, d, e, f, g, i] := by
  match l, h with
  | [a, b, c, d, e, f, g, i], _ => exact ⟨a, b, c, d, e, f, g, i, rfl⟩
theorem len3' {l : List D} (h : l.length = 3) : ∃ a b c, l = [a, b, c] := by
  match l, h with
  | [a, b, c], _ => exact ⟨a, b, c, rfl⟩
theorem len14' {l : List D} (h : l.length = 14) : ∃ a b c d e f g i j k m n o p, l = [a, b, c, d, e, f, g, i, j, k, m, n, o, p] := by
  match l, h with
  | [a, b, c, d, e, f, g, i, j, k, m, n, o, p], _ => exact ⟨a, b, c, d, e, f, g, i, j, k, m, n, o, p, rfl⟩
section
attribute [local irreducible] okD
theorem op_in {ds : List D} (h : okD Tryz.prog 3 29 ds) : ∃ (k : Int) (n a f i v : Nat) (to : Int) (nm : ByteArray), ds = [.int .i64 k, .int .u64 (.ofNat n), .int .u64 (.ofNat a), .int .u64 (.ofNat f), .int .u64 (.ofNat i), .int .u64 (.ofNat v), .int .i64 to, .str nm] := by
  obtain ⟨hl, hf⟩ := okD_st' Tryz.underlying29 h
  rw [show Tryz.prog.cellsOf 29 = 8 by kernel_rfl] at hl
  simp only [List.mem_cons, List.not_mem_nil, or_false, forall_eq_or_imp, forall_eq] at hf
  obtain ⟨f0, f1, f2, f3, f4, f5, f6, f7⟩ := hf
  obtain ⟨d0, d1, d2, d3, d4, d5, d6, d7, rfl⟩ := len8' hl
  rw [show Tryz.prog.cellsOf 3 = 1 by kernel_rfl] at f0 f6
  rw [show Tryz.prog.cellsOf 22 = 1 by kernel_rfl] at f1 f2 f3 f4 f5
  rw [show Tryz.prog.cellsOf 9 = 1 by kernel_rfl] at f7
  obtain ⟨x0, e0, w0⟩ := okD_i64 Tryz.underlying3 f0
  obtain ⟨x1, e1⟩ := okD_u64 Tryz.underlying22 f1
  obtain ⟨x2, e2⟩ := okD_u64 Tryz.underlying22 f2
  obtain ⟨x3, e3⟩ := okD_u64 Tryz.underlying22 f3
  obtain ⟨x4, e4⟩ := okD_u64 Tryz.underlying22 f4
  obtain ⟨x5, e5⟩ := okD_u64 Tryz.underlying22 f5
  obtain ⟨x6, e6, w6⟩ := okD_i64 Tryz.underlying3 f6
  obtain ⟨x7, e7, w7⟩ := okD_str' Tryz.underlying9 f7
  simp only [List.drop_zero, List.drop_succ_cons, List.take_succ_cons, List.take_zero, List.cons.injEq, and_true] at e0 e1 e2 e3 e4 e5 e6 e7
  subst e0 e1 e2 e3 e4 e5 e6 e7
  exact ⟨x0, x1, x2, x3, x4, x5, x6, x7, rfl⟩
theorem res_in {ds : List D} (h : okD Tryz.prog 3 58 ds) : ∃ (e : Int) (ro rv : Nat), ds = [.int .i64 e, .int .u64 (.ofNat ro), .int .u64 (.ofNat rv)] := by
  obtain ⟨hl, hf⟩ := okD_st' Tryz.underlying58 h
  rw [show Tryz.prog.cellsOf 58 = 3 by kernel_rfl] at hl
  simp only [List.mem_cons, List.not_mem_nil, or_false, forall_eq_or_imp, forall_eq] at hf
  obtain ⟨f0, f1, f2⟩ := hf
  obtain ⟨d0, d1, d2, rfl⟩ := len3' hl
  rw [show Tryz.prog.cellsOf 26 = 1 by kernel_rfl] at f0
  rw [show Tryz.prog.cellsOf 22 = 1 by kernel_rfl] at f1 f2
  obtain ⟨x0, e0, w0⟩ := okD_i64 Tryz.underlying26 f0
  obtain ⟨x1, e1⟩ := okD_u64 Tryz.underlying22 f1
  obtain ⟨x2, e2⟩ := okD_u64 Tryz.underlying22 f2
  simp only [List.drop_zero, List.drop_succ_cons, List.take_succ_cons, List.take_zero, List.cons.injEq, and_true] at e0 e1 e2
  subst e0 e1 e2
  exact ⟨x0, x1, x2, rfl⟩
theorem ev_in {ds : List D} (h : okD Tryz.prog 4 119 ds) : ∃ x : Ev, ds = x.row ∧ x.rc < 9223372036854775808 := by
  obtain ⟨hl, hf⟩ := okD_st' Tryz.underlying119 h
  rw [show Tryz.prog.cellsOf 119 = 3 by kernel_rfl] at hl
  simp only [List.mem_cons, List.not_mem_nil, or_false, forall_eq_or_imp, forall_eq] at hf
  obtain ⟨f0, f1, f2⟩ := hf
  obtain ⟨d0, d1, d2, rfl⟩ := len3' hl
  rw [show Tryz.prog.cellsOf 3 = 1 by kernel_rfl] at f0 f1 f2
  obtain ⟨x0, e0, w0⟩ := okD_i64 Tryz.underlying3 f0
  obtain ⟨x1, e1, w1⟩ := okD_i64 Tryz.underlying3 f1
  obtain ⟨x2, e2, w2⟩ := okD_i64 Tryz.underlying3 f2
  simp only [List.drop_zero, List.drop_succ_cons, List.take_succ_cons, List.take_zero, List.cons.injEq, and_true] at e0 e1 e2
  subst e0 e1 e2
  exact ⟨⟨x0, x1, x2⟩, rfl, w0.2⟩
theorem rec_in {ds : List D} (h : okD Tryz.prog 4 60 ds) : ∃ x : Rec, ds = x.row := by
  obtain ⟨hl, hf⟩ := okD_st' Tryz.underlying60 h
  rw [show Tryz.prog.cellsOf 60 = 14 by kernel_rfl] at hl
  simp only [List.mem_cons, List.not_mem_nil, or_false, forall_eq_or_imp, forall_eq] at hf
  obtain ⟨f0, f1, f2, f3, f4⟩ := hf
  obtain ⟨d0, d1, d2, d3, d4, d5, d6, d7, d8, d9, d10, d11, d12, d13, rfl⟩ := len14' hl
  rw [show Tryz.prog.cellsOf 3 = 1 by kernel_rfl] at f0 f3 f4
  rw [show Tryz.prog.cellsOf 29 = 8 by kernel_rfl] at f1
  rw [show Tryz.prog.cellsOf 58 = 3 by kernel_rfl] at f2
  obtain ⟨x0, e0, w0⟩ := okD_i64 Tryz.underlying3 f0
  obtain ⟨k, n, a, f, i, v, to, nm, e1⟩ := op_in f1
  obtain ⟨e, ro, rv, e2⟩ := res_in f2
  obtain ⟨x3, e3, w3⟩ := okD_i64 Tryz.underlying3 f3
  obtain ⟨x4, e4, w4⟩ := okD_i64 Tryz.underlying3 f4
  simp only [List.drop_zero, List.drop_succ_cons, List.take_succ_cons, List.take_zero, List.cons.injEq, and_true] at e0 e1 e2 e3 e4
  obtain ⟨rfl, rfl, rfl, rfl, rfl, rfl, rfl, rfl⟩ := e1
  obtain ⟨rfl, rfl, rfl⟩ := e2
  subst e0 e3 e4
  exact ⟨⟨x0, k, n, a, f, i, v, to, nm, e, ro, rv, x3, x4⟩, rfl⟩
theorem recs_in : ∀ {rows : List (List D)}, (∀ q ∈ rows, okD Tryz.prog 4 60 q) → ∃ l : List Rec, rows = l.map Rec.row
  | [], _ => ⟨[], rfl⟩
  | q :: rows, h => by
    obtain ⟨x, hx⟩ := rec_in (h q List.mem_cons_self)
    obtain ⟨l, hl⟩ := recs_in (rows := rows) fun q hq => h q (List.mem_cons_of_mem _ hq)
    exact ⟨x :: l, by rw [hx, hl]; rfl⟩
theorem evs_in : ∀ {rows : List (List D)}, (∀ q ∈ rows, okD Tryz.prog 4 119 q) → ∃ l : List Ev, rows = l.map Ev.row ∧ ∀ x ∈ l, x.rc < 9223372036854775808
  | [], _ => ⟨[], rfl, fun x h => by cases h⟩
  | q :: rows, h => by
    obtain ⟨x, hx, hx2⟩ := ev_in (h q List.mem_cons_self)
    obtain ⟨l, hl, hl2⟩ := evs_in (rows := rows) fun q hq => h q (List.mem_cons_of_mem _ hq)
    refine ⟨x :: l, by rw [hx, hl]; rfl, fun y hy => ?_⟩
    rcases List.mem_cons.1 hy with rfl | hy
    · exact hx2
    · exact hl2 y hy
end
set_option maxRecDepth 100000 in
theorem traceFits_lifted (os : Os) (started : os.Started) (H : Type) (enc : TypeId × Value → H) :
    ReturnsInHanded {} Tryz.checked os 4 .any (Rows.traceFitsSpec.pre6 enc Tryz.prog Tryz.f4 Rows.traceFitsRow.domain false) (Rows.traceFitsSpec.post enc Tryz.prog Tryz.f4 false true false false) := by
  refine returnsInHanded_of_change (C := Tryz.checked) own started (by kernel_rfl) Tryz.func4
    (ChangeSpec.witness6 (enc := enc) (C := Tryz.checked) false ⟨#[], #[.slice none 0 0, .slice none 0 0], []⟩ 8 (by kernel_rfl) (by kernel_rfl) (by kernel_rfl) (by kernel_rfl)) ?_
  intro W base args ds gs before hval0 hW hcnd _
  have hval : ∀ (j : Nat) t v, Tryz.f4.params[j]? = some t → args[j]? = some v → Value.okWide Tryz.prog W .any base t v := hval0
  have hW' := hW
  obtain ⟨p, q, hA0, hV, rfl, hfz, hnd⟩ := hW
  have hA : DataW.TrodAll enc Tryz.prog W 0 (fun _ => true) true Tryz.f4.params.toList args.toList ds p := hA0
  rw [Tryz.params4] at hA hval
  obtain ⟨v0, vs0, d0, ds0, p0, q0, hargs, rfl, rfl, h0, r0⟩ := trodAll_cons hA
  obtain ⟨v1, vs1, d1, ds1, p1, q1, rfl, rfl, rfl, h1, r1⟩ := trodAll_cons r0
  obtain ⟨rfl, rfl, rfl⟩ := trodAll_nil r1
  obtain rfl : args = #[v0, v1] := by cases args; simp_all
  obtain ⟨rfl, rfl⟩ := trodVars_none hV
  have k0 := h0
  have k1 := h1
  have lt0 : ∀ x ∈ p0, x.block < W.heap.size := by obtain ⟨m, hm⟩ := k0; exact DataW.trod_lt m _ _ _ hm
  have lt1 : ∀ x ∈ p1, x.block < W.heap.size := by obtain ⟨m, hm⟩ := k1; exact DataW.trod_lt m _ _ _ hm
  obtain ⟨rows, ⟨rd0, _⟩, _, hr0⟩ := arg_sl 4 Tryz.underlying40 (by kernel_rfl) (hval 0 40 v0 rfl rfl) h0
  obtain ⟨rows1, ⟨rd1, _⟩, _, hr1⟩ := arg_sl 4 Tryz.underlying41 (by kernel_rfl) (hval 1 41 v1 rfl rfl) h1
  obtain ⟨R, rfl⟩ := recs_in hr0
  obtain ⟨E, rfl, hE⟩ := evs_in hr1
  clear hA0 hval0
  obtain ⟨H', nx', hrun⟩ := traceFits_run R E hE
  refine (law_run hrun (vals := #[v0, v1]) rfl (fun j v a hv ha => ?_)).mono fun e W' ⟨he, bel⟩ => ?_
  · match j with
    | 0 => simp at hv ha; subst hv ha; exact rd0
    | 1 => simp at hv ha; subst hv ha; exact rd1
    | j + 2 => simp at hv
  subst he
  exact ⟨_, rfl, _, _, _, [], _, [], hW', trodAll_mk1 (shut_bool Tryz.underlying4 _), (trodAll_cons_mk (Below.trod laidOut (by kernel_rfl) (of_decide_eq_true (by kernel_rfl)) k0 bel lt0) (trodAll_cons_mk (Below.trod laidOut (by kernel_rfl) (of_decide_eq_true (by kernel_rfl)) k1 bel lt1) trodAll_mk0)), rfl, bel.frame _, fun h => by cases h⟩
end Pe
end Go.Proofs.YtmhinddneefmbaaGreat
