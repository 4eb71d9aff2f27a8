/- A part of the proof of KzA. -/
import Derived.Test.YtdapdiaklpcmjaaGreatRows
import Derived.Test.YtdapdiaklpcmjaaGreatKm29
import Derived.Test.YtdapdiaklpcmjaaGreatKm50
set_option linter.unusedSimpArgs false
set_option linter.unusedVariables false
set_option linter.unusedSectionVars false
namespace Go.Proofs.YtdapdiaklpcmjaaGreat.Pe
open Go Go.Proofs Go.RowKit
set_option maxRecDepth 100000
theorem cells_kept {W w : World} {cs : Array Value} {T : TypeId} (hg : (W.alloc (.cells cs T)).grownBy w none) (j : Nat) (v : Value) (h : cs[j]? = some v) : w.cell? ⟨W.heap.size, j, none⟩ = some v := by
  have h1 : (W.alloc (.cells cs T)).heap[W.heap.size]? = some (.cells cs T (0, 0)) := (MapKept.heap_alloc W _).1
  have h2 := (hg.block W.heap.size (by simp) (by simp)).trans h1
  simp [World.cell?, h2, h]
set_option maxHeartbeats 4000000 in
theorem mn_negP (w : World) (c : Int) (h0 : c < 0) (k n a1 a2 a3 a4 a5 : Int) (s : ByteArray) (x : Int) (hx : 0 < x) (hl : -32768 ≤ x) (hr : x ≤ 32767) : Calls Tryz.prog 4 #[.int .i64 c, .agg #[.int .i64 k, .int .u64 n, .int .u64 a1, .int .u64 a2, .int .u64 a3, .int .u64 a4, .int .i64 a5, .string s], .int .i16 x] w fun e w' => e = .returned (.bool true) ∧ w.grownBy w' none := by
  have hg0 := World.grownBy_alloc w (.cells #[.int .i64 k, .int .u64 n, .int .u64 a1, .int .u64 a2, .int .u64 a3, .int .u64 a4, .int .i64 a5, .string s] 42) none
  go_enter Tryz.func4, Tryz.ntmps4
  go_wp2_with (first
    | (go_at_call 14; refine (awake20_run _).mono ?_; rintro e wa ⟨rfl, hga⟩)
    | (go_at_call 8; refine (seg_new _).mono ?_; rintro e wb ⟨b, i, rfl, hgb, ι, M, hk, hM, hv⟩)
    | (go_at_call 9; refine (seg_format hk hM hv hgb).mono ?_; rintro e wc ⟨rfl, hgc⟩; have hG := hga.andThen hgc (fun j hj => by cases hj); have c0 := cells_kept hG 0 _ rfl; have c1 := cells_kept hG 1 _ rfl; have c2 := cells_kept hG 2 _ rfl; have c3 := cells_kept hG 3 _ rfl; have c4 := cells_kept hG 4 _ rfl; have c5 := cells_kept hG 5 _ rfl; have c6 := cells_kept hG 6 _ rfl; have c7 := cells_kept hG 7 _ rfl))
  refine (mnew_nil wc c k n a1 a2 a3 a4 a5 s).mono ?_
  rintro e wd ⟨rfl, hgd⟩
  have hGd := hG.andThen hgd (fun j hj => by cases hj)
  clear hk hM hv hG hgc c0 c1 c2 c3 c4 c5 c6 c7
  have c0 := cells_kept hGd 0 _ rfl; have c1 := cells_kept hGd 1 _ rfl; have c2 := cells_kept hGd 2 _ rfl; have c3 := cells_kept hGd 3 _ rfl; have c4 := cells_kept hGd 4 _ rfl; have c5 := cells_kept hGd 5 _ rfl; have c6 := cells_kept hGd 6 _ rfl; have c7 := cells_kept hGd 7 _ rfl
  go_wp2_with (go_at_call 15; refine (mnew_out wd _ c (by omega) k n a1 a2 a3 a4 a5 s).mono ?_; rintro e we ⟨rfl, hge⟩)
  have hGe := hGd.andThen hge (fun j hj => by cases hj)
  refine (run_pos we x (by omega)).mono ?_
  rintro e wf ⟨rfl, hgf⟩
  have hGf := hGe.andThen hgf (fun j hj => by cases hj)
  go_wp2_with (go_at_call 17; refine (res_nil wf).mono ?_; rintro e wg ⟨rfl, hgg⟩)
  have hGg := hGf.andThen hgg (fun j hj => by cases hj)
  refine (step_nil _).mono ?_
  rintro e wh ⟨rfl, hgh⟩
  have d0 := cells_kept hgh 0 _ rfl; have d1 := cells_kept hgh 1 _ rfl; have d2 := cells_kept hgh 2 _ rfl
  go_wp2_with (go_at_call 19; refine (has_nil _).mono ?_; rintro e wi ⟨rfl, rfl⟩)
  go_ret
  exact ⟨rfl, ((hg0.andThen hGg (fun j hj => by cases hj)).andThen (World.grownBy_alloc wg _ none) (fun j hj => by cases hj)).andThen hgh (fun j hj => by cases hj)⟩
set_option maxHeartbeats 4000000 in
theorem mn_negN (w : World) (c : Int) (h0 : c < 0) (k n a1 a2 a3 a4 a5 : Int) (s : ByteArray) (x : Int) (hx : ¬ 0 < x) (hl : -32768 ≤ x) (hr : x ≤ 32767) : Calls Tryz.prog 4 #[.int .i64 c, .agg #[.int .i64 k, .int .u64 n, .int .u64 a1, .int .u64 a2, .int .u64 a3, .int .u64 a4, .int .i64 a5, .string s], .int .i16 x] w fun e w' => e = .returned (.bool true) ∧ w.grownBy w' none := by
  have hg0 := World.grownBy_alloc w (.cells #[.int .i64 k, .int .u64 n, .int .u64 a1, .int .u64 a2, .int .u64 a3, .int .u64 a4, .int .i64 a5, .string s] 42) none
  go_enter Tryz.func4, Tryz.ntmps4
  go_wp2_with (first
    | (go_at_call 14; refine (awake20_run _).mono ?_; rintro e wa ⟨rfl, hga⟩)
    | (go_at_call 8; refine (seg_new _).mono ?_; rintro e wb ⟨b, i, rfl, hgb, ι, M, hk, hM, hv⟩)
    | (go_at_call 9; refine (seg_format hk hM hv hgb).mono ?_; rintro e wc ⟨rfl, hgc⟩; have hG := hga.andThen hgc (fun j hj => by cases hj); have c0 := cells_kept hG 0 _ rfl; have c1 := cells_kept hG 1 _ rfl; have c2 := cells_kept hG 2 _ rfl; have c3 := cells_kept hG 3 _ rfl; have c4 := cells_kept hG 4 _ rfl; have c5 := cells_kept hG 5 _ rfl; have c6 := cells_kept hG 6 _ rfl; have c7 := cells_kept hG 7 _ rfl))
  refine (mnew_nil wc c k n a1 a2 a3 a4 a5 s).mono ?_
  rintro e wd ⟨rfl, hgd⟩
  have hGd := hG.andThen hgd (fun j hj => by cases hj)
  clear hk hM hv hG hgc c0 c1 c2 c3 c4 c5 c6 c7
  have c0 := cells_kept hGd 0 _ rfl; have c1 := cells_kept hGd 1 _ rfl; have c2 := cells_kept hGd 2 _ rfl; have c3 := cells_kept hGd 3 _ rfl; have c4 := cells_kept hGd 4 _ rfl; have c5 := cells_kept hGd 5 _ rfl; have c6 := cells_kept hGd 6 _ rfl; have c7 := cells_kept hGd 7 _ rfl
  go_wp2_with (go_at_call 15; refine (mnew_out wd _ c (by omega) k n a1 a2 a3 a4 a5 s).mono ?_; rintro e we ⟨rfl, hge⟩)
  have hGe := hGd.andThen hge (fun j hj => by cases hj)
  refine (run_neg we x (by omega)).mono ?_
  rintro e wf ⟨rfl, hgf⟩
  have hGf := hGe.andThen hgf (fun j hj => by cases hj)
  go_wp2_with (go_at_call 17; refine (res_nil wf).mono ?_; rintro e wg ⟨rfl, hgg⟩)
  have hGg := hGf.andThen hgg (fun j hj => by cases hj)
  refine (step_nil _).mono ?_
  rintro e wh ⟨rfl, hgh⟩
  have d0 := cells_kept hgh 0 _ rfl; have d1 := cells_kept hgh 1 _ rfl; have d2 := cells_kept hgh 2 _ rfl
  go_wp2_with (go_at_call 19; refine (has_nil _).mono ?_; rintro e wi ⟨rfl, rfl⟩)
  go_ret
  exact ⟨rfl, ((hg0.andThen hGg (fun j hj => by cases hj)).andThen (World.grownBy_alloc wg _ none) (fun j hj => by cases hj)).andThen hgh (fun j hj => by cases hj)⟩
set_option maxHeartbeats 4000000 in
theorem mn_bigP (w : World) (c : Int) (h0 : ¬ c < 0) (h8 : 8 ≤ c) (k n a1 a2 a3 a4 a5 : Int) (s : ByteArray) (x : Int) (hx : 0 < x) (hl : -32768 ≤ x) (hr : x ≤ 32767) : Calls Tryz.prog 4 #[.int .i64 c, .agg #[.int .i64 k, .int .u64 n, .int .u64 a1, .int .u64 a2, .int .u64 a3, .int .u64 a4, .int .i64 a5, .string s], .int .i16 x] w fun e w' => e = .returned (.bool true) ∧ w.grownBy w' none := by
  have hg0 := World.grownBy_alloc w (.cells #[.int .i64 k, .int .u64 n, .int .u64 a1, .int .u64 a2, .int .u64 a3, .int .u64 a4, .int .i64 a5, .string s] 42) none
  go_enter Tryz.func4, Tryz.ntmps4
  go_wp2_with (first
    | (go_at_call 14; refine (awake20_run _).mono ?_; rintro e wa ⟨rfl, hga⟩)
    | (go_at_call 8; refine (seg_new _).mono ?_; rintro e wb ⟨b, i, rfl, hgb, ι, M, hk, hM, hv⟩)
    | (go_at_call 9; refine (seg_format hk hM hv hgb).mono ?_; rintro e wc ⟨rfl, hgc⟩; have hG := hga.andThen hgc (fun j hj => by cases hj); have c0 := cells_kept hG 0 _ rfl; have c1 := cells_kept hG 1 _ rfl; have c2 := cells_kept hG 2 _ rfl; have c3 := cells_kept hG 3 _ rfl; have c4 := cells_kept hG 4 _ rfl; have c5 := cells_kept hG 5 _ rfl; have c6 := cells_kept hG 6 _ rfl; have c7 := cells_kept hG 7 _ rfl))
  refine (mnew_nil wc c k n a1 a2 a3 a4 a5 s).mono ?_
  rintro e wd ⟨rfl, hgd⟩
  have hGd := hG.andThen hgd (fun j hj => by cases hj)
  clear hk hM hv hG hgc c0 c1 c2 c3 c4 c5 c6 c7
  have c0 := cells_kept hGd 0 _ rfl; have c1 := cells_kept hGd 1 _ rfl; have c2 := cells_kept hGd 2 _ rfl; have c3 := cells_kept hGd 3 _ rfl; have c4 := cells_kept hGd 4 _ rfl; have c5 := cells_kept hGd 5 _ rfl; have c6 := cells_kept hGd 6 _ rfl; have c7 := cells_kept hGd 7 _ rfl
  go_wp2_with (go_at_call 15; refine (mnew_out wd _ c (by omega) k n a1 a2 a3 a4 a5 s).mono ?_; rintro e we ⟨rfl, hge⟩)
  have hGe := hGd.andThen hge (fun j hj => by cases hj)
  refine (run_pos we x (by omega)).mono ?_
  rintro e wf ⟨rfl, hgf⟩
  have hGf := hGe.andThen hgf (fun j hj => by cases hj)
  go_wp2_with (go_at_call 17; refine (res_nil wf).mono ?_; rintro e wg ⟨rfl, hgg⟩)
  have hGg := hGf.andThen hgg (fun j hj => by cases hj)
  refine (step_nil _).mono ?_
  rintro e wh ⟨rfl, hgh⟩
  have d0 := cells_kept hgh 0 _ rfl; have d1 := cells_kept hgh 1 _ rfl; have d2 := cells_kept hgh 2 _ rfl
  go_wp2_with (go_at_call 19; refine (has_nil _).mono ?_; rintro e wi ⟨rfl, rfl⟩)
  go_ret
  exact ⟨rfl, ((hg0.andThen hGg (fun j hj => by cases hj)).andThen (World.grownBy_alloc wg _ none) (fun j hj => by cases hj)).andThen hgh (fun j hj => by cases hj)⟩
set_option maxHeartbeats 4000000 in
theorem mn_bigN (w : World) (c : Int) (h0 : ¬ c < 0) (h8 : 8 ≤ c) (k n a1 a2 a3 a4 a5 : Int) (s : ByteArray) (x : Int) (hx : ¬ 0 < x) (hl : -32768 ≤ x) (hr : x ≤ 32767) : Calls Tryz.prog 4 #[.int .i64 c, .agg #[.int .i64 k, .int .u64 n, .int .u64 a1, .int .u64 a2, .int .u64 a3, .int .u64 a4, .int .i64 a5, .string s], .int .i16 x] w fun e w' => e = .returned (.bool true) ∧ w.grownBy w' none := by
  have hg0 := World.grownBy_alloc w (.cells #[.int .i64 k, .int .u64 n, .int .u64 a1, .int .u64 a2, .int .u64 a3, .int .u64 a4, .int .i64 a5, .string s] 42) none
  go_enter Tryz.func4, Tryz.ntmps4
  go_wp2_with (first
    | (go_at_call 14; refine (awake20_run _).mono ?_; rintro e wa ⟨rfl, hga⟩)
    | (go_at_call 8; refine (seg_new _).mono ?_; rintro e wb ⟨b, i, rfl, hgb, ι, M, hk, hM, hv⟩)
    | (go_at_call 9; refine (seg_format hk hM hv hgb).mono ?_; rintro e wc ⟨rfl, hgc⟩; have hG := hga.andThen hgc (fun j hj => by cases hj); have c0 := cells_kept hG 0 _ rfl; have c1 := cells_kept hG 1 _ rfl; have c2 := cells_kept hG 2 _ rfl; have c3 := cells_kept hG 3 _ rfl; have c4 := cells_kept hG 4 _ rfl; have c5 := cells_kept hG 5 _ rfl; have c6 := cells_kept hG 6 _ rfl; have c7 := cells_kept hG 7 _ rfl))
  refine (mnew_nil wc c k n a1 a2 a3 a4 a5 s).mono ?_
  rintro e wd ⟨rfl, hgd⟩
  have hGd := hG.andThen hgd (fun j hj => by cases hj)
  clear hk hM hv hG hgc c0 c1 c2 c3 c4 c5 c6 c7
  have c0 := cells_kept hGd 0 _ rfl; have c1 := cells_kept hGd 1 _ rfl; have c2 := cells_kept hGd 2 _ rfl; have c3 := cells_kept hGd 3 _ rfl; have c4 := cells_kept hGd 4 _ rfl; have c5 := cells_kept hGd 5 _ rfl; have c6 := cells_kept hGd 6 _ rfl; have c7 := cells_kept hGd 7 _ rfl
  go_wp2_with (go_at_call 15; refine (mnew_out wd _ c (by omega) k n a1 a2 a3 a4 a5 s).mono ?_; rintro e we ⟨rfl, hge⟩)
  have hGe := hGd.andThen hge (fun j hj => by cases hj)
  refine (run_neg we x (by omega)).mono ?_
  rintro e wf ⟨rfl, hgf⟩
  have hGf := hGe.andThen hgf (fun j hj => by cases hj)
  go_wp2_with (go_at_call 17; refine (res_nil wf).mono ?_; rintro e wg ⟨rfl, hgg⟩)
  have hGg := hGf.andThen hgg (fun j hj => by cases hj)
  refine (step_nil _).mono ?_
  rintro e wh ⟨rfl, hgh⟩
  have d0 := cells_kept hgh 0 _ rfl; have d1 := cells_kept hgh 1 _ rfl; have d2 := cells_kept hgh 2 _ rfl
  go_wp2_with (go_at_call 19; refine (has_nil _).mono ?_; rintro e wi ⟨rfl, rfl⟩)
  go_ret
  exact ⟨rfl, ((hg0.andThen hGg (fun j hj => by cases hj)).andThen (World.grownBy_alloc wg _ none) (fun j hj => by cases hj)).andThen hgh (fun j hj => by cases hj)⟩
set_option maxHeartbeats 4000000 in
theorem mn_inP (w : World) (c : Int) (h0 : ¬ c < 0) (h8 : ¬ 8 ≤ c) (k n a1 a2 a3 a4 a5 : Int) (s : ByteArray) (x : Int) (hx : 0 < x) (hl : -32768 ≤ x) (hr : x ≤ 32767) : Calls Tryz.prog 4 #[.int .i64 c, .agg #[.int .i64 k, .int .u64 n, .int .u64 a1, .int .u64 a2, .int .u64 a3, .int .u64 a4, .int .i64 a5, .string s], .int .i16 x] w fun e w' => e = .returned (.bool true) ∧ w.grownBy w' none := by
  have hg0 := World.grownBy_alloc w (.cells #[.int .i64 k, .int .u64 n, .int .u64 a1, .int .u64 a2, .int .u64 a3, .int .u64 a4, .int .i64 a5, .string s] 42) none
  go_enter Tryz.func4, Tryz.ntmps4
  go_wp2_with (first
    | (go_at_call 14; refine (awake20_run _).mono ?_; rintro e wa ⟨rfl, hga⟩)
    | (go_at_call 8; refine (seg_new _).mono ?_; rintro e wb ⟨b, i, rfl, hgb, ι, M, hk, hM, hv⟩)
    | (go_at_call 9; refine (seg_format hk hM hv hgb).mono ?_; rintro e wc ⟨rfl, hgc⟩; have hG := hga.andThen hgc (fun j hj => by cases hj); have c0 := cells_kept hG 0 _ rfl; have c1 := cells_kept hG 1 _ rfl; have c2 := cells_kept hG 2 _ rfl; have c3 := cells_kept hG 3 _ rfl; have c4 := cells_kept hG 4 _ rfl; have c5 := cells_kept hG 5 _ rfl; have c6 := cells_kept hG 6 _ rfl; have c7 := cells_kept hG 7 _ rfl))
  refine (mnew_nil wc c k n a1 a2 a3 a4 a5 s).mono ?_
  rintro e wd ⟨rfl, hgd⟩
  have hGd := hG.andThen hgd (fun j hj => by cases hj)
  clear hk hM hv hG hgc c0 c1 c2 c3 c4 c5 c6 c7
  have c0 := cells_kept hGd 0 _ rfl; have c1 := cells_kept hGd 1 _ rfl; have c2 := cells_kept hGd 2 _ rfl; have c3 := cells_kept hGd 3 _ rfl; have c4 := cells_kept hGd 4 _ rfl; have c5 := cells_kept hGd 5 _ rfl; have c6 := cells_kept hGd 6 _ rfl; have c7 := cells_kept hGd 7 _ rfl
  go_wp2_with (go_at_call 15; refine (mnew_in wd _ c (by omega) (by omega) k n a1 a2 a3 a4 a5 s).mono ?_; rintro e we ⟨⟨b', rfl⟩, hge⟩)
  have hGe := hGd.andThen hge (fun j hj => by cases hj)
  refine (run_pos we x (by omega)).mono ?_
  rintro e wf ⟨rfl, hgf⟩
  have hGf := hGe.andThen hgf (fun j hj => by cases hj)
  go_wp2_with (go_at_call 17; refine (res_nil wf).mono ?_; rintro e wg ⟨rfl, hgg⟩)
  have hGg := hGf.andThen hgg (fun j hj => by cases hj)
  refine (step_nil _).mono ?_
  rintro e wh ⟨rfl, hgh⟩
  have d0 := cells_kept hgh 0 _ rfl; have d1 := cells_kept hgh 1 _ rfl; have d2 := cells_kept hgh 2 _ rfl
  go_wp2_with (go_at_call 19; refine (has_nil _).mono ?_; rintro e wi ⟨rfl, rfl⟩)
  go_ret
  refine ⟨?_, ((hg0.andThen hGg (fun j hj => by cases hj)).andThen (World.grownBy_alloc wg _ none) (fun j hj => by cases hj)).andThen hgh (fun j hj => by cases hj)⟩
  show Ending.returned (Value.bool (!decide (c < 0) && !decide (8 ≤ c))) = _
  rw [decide_eq_false (show ¬ c < 0 by omega), decide_eq_false (show ¬ 8 ≤ c by omega)]
  rfl
set_option maxHeartbeats 4000000 in
theorem mn_inN (w : World) (c : Int) (h0 : ¬ c < 0) (h8 : ¬ 8 ≤ c) (k n a1 a2 a3 a4 a5 : Int) (s : ByteArray) (x : Int) (hx : ¬ 0 < x) (hl : -32768 ≤ x) (hr : x ≤ 32767) : Calls Tryz.prog 4 #[.int .i64 c, .agg #[.int .i64 k, .int .u64 n, .int .u64 a1, .int .u64 a2, .int .u64 a3, .int .u64 a4, .int .i64 a5, .string s], .int .i16 x] w fun e w' => e = .returned (.bool true) ∧ w.grownBy w' none := by
  have hg0 := World.grownBy_alloc w (.cells #[.int .i64 k, .int .u64 n, .int .u64 a1, .int .u64 a2, .int .u64 a3, .int .u64 a4, .int .i64 a5, .string s] 42) none
  go_enter Tryz.func4, Tryz.ntmps4
  go_wp2_with (first
    | (go_at_call 14; refine (awake20_run _).mono ?_; rintro e wa ⟨rfl, hga⟩)
    | (go_at_call 8; refine (seg_new _).mono ?_; rintro e wb ⟨b, i, rfl, hgb, ι, M, hk, hM, hv⟩)
    | (go_at_call 9; refine (seg_format hk hM hv hgb).mono ?_; rintro e wc ⟨rfl, hgc⟩; have hG := hga.andThen hgc (fun j hj => by cases hj); have c0 := cells_kept hG 0 _ rfl; have c1 := cells_kept hG 1 _ rfl; have c2 := cells_kept hG 2 _ rfl; have c3 := cells_kept hG 3 _ rfl; have c4 := cells_kept hG 4 _ rfl; have c5 := cells_kept hG 5 _ rfl; have c6 := cells_kept hG 6 _ rfl; have c7 := cells_kept hG 7 _ rfl))
  refine (mnew_nil wc c k n a1 a2 a3 a4 a5 s).mono ?_
  rintro e wd ⟨rfl, hgd⟩
  have hGd := hG.andThen hgd (fun j hj => by cases hj)
  clear hk hM hv hG hgc c0 c1 c2 c3 c4 c5 c6 c7
  have c0 := cells_kept hGd 0 _ rfl; have c1 := cells_kept hGd 1 _ rfl; have c2 := cells_kept hGd 2 _ rfl; have c3 := cells_kept hGd 3 _ rfl; have c4 := cells_kept hGd 4 _ rfl; have c5 := cells_kept hGd 5 _ rfl; have c6 := cells_kept hGd 6 _ rfl; have c7 := cells_kept hGd 7 _ rfl
  go_wp2_with (go_at_call 15; refine (mnew_in wd _ c (by omega) (by omega) k n a1 a2 a3 a4 a5 s).mono ?_; rintro e we ⟨⟨b', rfl⟩, hge⟩)
  have hGe := hGd.andThen hge (fun j hj => by cases hj)
  refine (run_neg we x (by omega)).mono ?_
  rintro e wf ⟨rfl, hgf⟩
  have hGf := hGe.andThen hgf (fun j hj => by cases hj)
  go_wp2_with (go_at_call 17; refine (res_nil wf).mono ?_; rintro e wg ⟨rfl, hgg⟩)
  have hGg := hGf.andThen hgg (fun j hj => by cases hj)
  refine (step_nil _).mono ?_
  rintro e wh ⟨rfl, hgh⟩
  have d0 := cells_kept hgh 0 _ rfl; have d1 := cells_kept hgh 1 _ rfl; have d2 := cells_kept hgh 2 _ rfl
  go_wp2_with (go_at_call 19; refine (has_nil _).mono ?_; rintro e wi ⟨rfl, rfl⟩)
  go_ret
  refine ⟨?_, ((hg0.andThen hGg (fun j hj => by cases hj)).andThen (World.grownBy_alloc wg _ none) (fun j hj => by cases hj)).andThen hgh (fun j hj => by cases hj)⟩
  show Ending.returned (Value.bool (!decide (c < 0) && !decide (8 ≤ c))) = _
  rw [decide_eq_false (show ¬ c < 0 by omega), decide_eq_false (show ¬ 8 ≤ c by omega)]
  rfl
theorem machineNobody_calls (w : World) (c k n a1 a2 a3 a4 a5 : Int) (s : ByteArray) (x : Int) (hl : -32768 ≤ x) (hr : x ≤ 32767) : Calls Tryz.prog 4 #[.int .i64 c, .agg #[.int .i64 k, .int .u64 n, .int .u64 a1, .int .u64 a2, .int .u64 a3, .int .u64 a4, .int .i64 a5, .string s], .int .i16 x] w fun e w' => e = .returned (.bool true) ∧ w.grownBy w' none := by
  by_cases hx : 0 < x
  · by_cases h0 : c < 0
    · exact mn_negP w c h0 k n a1 a2 a3 a4 a5 s x hx hl hr
    · by_cases h8 : 8 ≤ c
      · exact mn_bigP w c h0 h8 k n a1 a2 a3 a4 a5 s x hx hl hr
      · exact mn_inP w c h0 h8 k n a1 a2 a3 a4 a5 s x hx hl hr
  · by_cases h0 : c < 0
    · exact mn_negN w c h0 k n a1 a2 a3 a4 a5 s x hx hl hr
    · by_cases h8 : 8 ≤ c
      · exact mn_bigN w c h0 h8 k n a1 a2 a3 a4 a5 s x hx hl hr
      · exact mn_inN w c h0 h8 k n a1 a2 a3 a4 a5 s x hx hl hr
end Go.Proofs.YtdapdiaklpcmjaaGreat.Pe
namespace Go.Proofs.YtdapdiaklpcmjaaGreat
namespace Pe
open Go Go.ChangeShapes Go.WideShapes Go.ChangeAt Go.RowKit
section
variable {P : Program} {n : Nat} {t : TypeId} {ds : List D}
theorem okD_int {k : IntKind} (hu : P.underlying t = some (.int k)) (h : okD P (n + 1) t ds) : ∃ x, ds = [.int k x] ∧ (Lit.int k x).wf = true := by
  unfold okD at h; rw [hu] at h; exact h
theorem okD_str (hu : P.underlying t = some .string) (h : okD P (n + 1) t ds) : ∃ x : ByteArray, ds = [.str x] ∧ x.size ≤ maxLen := by
  unfold okD at h; rw [hu] at h; exact h
theorem okD_st {fs : Array Field} (hu : P.underlying t = some (.struct fs)) (h : okD P (n + 1) t ds) : ds.length = P.cellsOf t ∧ ∀ f ∈ fs.toList, okD P n f.type ((ds.drop f.offset).take (P.cellsOf f.type)) := by
  unfold okD at h; rw [hu] at h; exact h
end
theorem len8 {l : List D} (h : l.length = 8) : ∃ a b c d e f g i, l = [a, b, c, d, e, f, g, i] := by
  match l, h with
  | [a, b, c, d, e, f, g, i], _ => exact ⟨a, b, c, d, e, f, g, i, rfl⟩
section
attribute [local irreducible] okD
theorem op_of {ds : List D} (h : okD Tryz.prog 2 42 ds) : ∃ (x0 x1 x2 x3 x4 x5 x6 : Int) (x7 : ByteArray), ds = [.int .i64 x0, .int .u64 x1, .int .u64 x2, .int .u64 x3, .int .u64 x4, .int .u64 x5, .int .i64 x6, .str x7] := by
  obtain ⟨hl, hf⟩ := okD_st Tryz.underlying42 h
  rw [show Tryz.prog.cellsOf 42 = 8 by kernel_rfl] at hl
  simp only [List.mem_cons, List.not_mem_nil, or_false, forall_eq_or_imp, forall_eq] at hf
  obtain ⟨f0, f1, f2, f3, f4, f5, f6, f7⟩ := hf
  obtain ⟨d0, d1, d2, d3, d4, d5, d6, d7, rfl⟩ := len8 hl
  rw [show Tryz.prog.cellsOf 3 = 1 by kernel_rfl] at f0 f6
  rw [show Tryz.prog.cellsOf 22 = 1 by kernel_rfl] at f1 f2 f3 f4 f5
  rw [show Tryz.prog.cellsOf 9 = 1 by kernel_rfl] at f7
  obtain ⟨x0, e0, w0⟩ := okD_int Tryz.underlying3 f0
  obtain ⟨x1, e1, w1⟩ := okD_int Tryz.underlying22 f1
  obtain ⟨x2, e2, w2⟩ := okD_int Tryz.underlying22 f2
  obtain ⟨x3, e3, w3⟩ := okD_int Tryz.underlying22 f3
  obtain ⟨x4, e4, w4⟩ := okD_int Tryz.underlying22 f4
  obtain ⟨x5, e5, w5⟩ := okD_int Tryz.underlying22 f5
  obtain ⟨x6, e6, w6⟩ := okD_int Tryz.underlying3 f6
  obtain ⟨x7, e7, w7⟩ := okD_str Tryz.underlying9 f7
  simp only [List.drop_zero, List.drop_succ_cons, List.take_succ_cons, List.take_zero, List.cons.injEq, and_true] at e0 e1 e2 e3 e4 e5 e6 e7
  subst e0 e1 e2 e3 e4 e5 e6 e7
  exact ⟨x0, x1, x2, x3, x4, x5, x6, x7, rfl⟩
end
theorem op_value {w : World} {cs : Array Value} {x0 x1 x2 x3 x4 x5 x6 : Int} {x7 : ByteArray} (h : RdL w (fun _ => none) (fun _ => False) cs.toList [.int .i64 x0, .int .u64 x1, .int .u64 x2, .int .u64 x3, .int .u64 x4, .int .u64 x5, .int .i64 x6, .str x7]) :
    cs = #[.int .i64 x0, .int .u64 x1, .int .u64 x2, .int .u64 x3, .int .u64 x4, .int .u64 x5, .int .i64 x6, .string x7] := by
  obtain ⟨l⟩ := cs
  have hl := h.1
  have r0 := h.2 0
  have r1 := h.2 1
  have r2 := h.2 2
  have r3 := h.2 3
  have r4 := h.2 4
  have r5 := h.2 5
  have r6 := h.2 6
  have r7 := h.2 7
  match l, hl with
  | [a, b, c, d, e, f, g, i], _ =>
    have q0 := r0 a _ rfl rfl
    have q1 := r1 b _ rfl rfl
    have q2 := r2 c _ rfl rfl
    have q3 := r3 d _ rfl rfl
    have q4 := r4 e _ rfl rfl
    have q5 := r5 f _ rfl rfl
    have q6 := r6 g _ rfl rfl
    have q7 := r7 i _ rfl rfl
    cases q0; cases q1; cases q2; cases q3; cases q4; cases q5; cases q6; cases q7
    rfl
set_option maxRecDepth 100000 in
theorem machineNobody_lifted (os : Os) (started : os.Started) (H : Type) (enc : TypeId × Value → H) :
    ReturnsInHanded {} Tryz.checked os 4 .any (Rows.machineNobodySpec.pre6 enc Tryz.prog Tryz.f4 Rows.machineNobodyRow.domain false) (Rows.machineNobodySpec.post enc Tryz.prog Tryz.f4 false true false false) := by
  refine returnsInHanded_of_change (C := Tryz.checked) own started (by kernel_rfl) Tryz.func4
    (ChangeSpec.witness6 (enc := enc) (C := Tryz.checked) false ⟨#[], #[.int .i64 0, .agg #[.int .i64 0, .int .u64 0, .int .u64 0, .int .u64 0, .int .u64 0, .int .u64 0, .int .i64 0, .string ⟨#[]⟩], .int .i16 0], []⟩ 8 (by kernel_rfl) (by kernel_rfl) (by kernel_rfl) (by kernel_rfl)) ?_
  intro W base args ds gs before hval0 hW hcnd _
  have hval : ∀ (j : Nat) t v, Tryz.f4.params[j]? = some t → args[j]? = some v → Value.okWide Tryz.prog W .any base t v := hval0
  have hW' := hW
  obtain ⟨p, q, hA0, hV, rfl, hfz, hnd⟩ := hW
  have hA : DataW.TrodAll enc Tryz.prog W 0 (fun _ => true) true Tryz.f4.params.toList args.toList ds p := hA0
  rw [Tryz.params4] at hA hval
  obtain ⟨v0, vs0, d0, ds0, p0, q0, hargs, rfl, rfl, h0, r0⟩ := trodAll_cons hA
  obtain ⟨v1, vs1, d1, ds1, p1, q1, rfl, rfl, rfl, h1, r1⟩ := trodAll_cons r0
  obtain ⟨v2, vs2, d2, ds2, p2, q2, rfl, rfl, rfl, h2, r2⟩ := trodAll_cons r1
  obtain ⟨rfl, rfl, rfl⟩ := trodAll_nil r2
  obtain rfl : args = #[v0, v1, v2] := by cases args; simp_all
  obtain ⟨rfl, rfl⟩ := trodVars_none hV
  have k0 := h0
  have k1 := h1
  have k2 := h2
  have lt0 : ∀ x ∈ p0, x.block < W.heap.size := by obtain ⟨m, hm⟩ := k0; exact DataW.trod_lt m _ _ _ hm
  have lt1 : ∀ x ∈ p1, x.block < W.heap.size := by obtain ⟨m, hm⟩ := k1; exact DataW.trod_lt m _ _ _ hm
  have lt2 : ∀ x ∈ p2, x.block < W.heap.size := by obtain ⟨m, hm⟩ := k2; exact DataW.trod_lt m _ _ _ hm
  obtain ⟨x, rfl, rfl, rfl, wx⟩ := open_int Tryz.underlying3 (hval 0 3 v0 rfl rfl) h0
  obtain ⟨y, rfl, rfl, rfl, wy⟩ := open_int Tryz.underlying43 (hval 2 43 v2 rfl rfl) h2
  obtain ⟨dl, ⟨⟨cs, rfl, hrl⟩, _⟩, hok⟩ := arg_st 2 Tryz.underlying42 (by kernel_rfl) (hval 1 42 v1 rfl rfl) h1
  obtain ⟨x0, x1, x2, x3, x4, x5, x6, x7, rfl⟩ := op_of hok
  have hcs := op_value hrl
  subst hcs
  clear hA0 hval0
  obtain ⟨l1, l2⟩ := bounds_i16 wy
  refine (machineNobody_calls W x x0 x1 x2 x3 x4 x5 x6 x7 y l1 l2).mono fun e W' ⟨he, hg⟩ => ?_
  have bel : Below W.heap.size W W' := ⟨hg.os, hg.tape, hg.output, hg.size, fun k hk => hg.block k hk (by simp)⟩
  subst he
  exact ⟨_, rfl, _, _, _, [], _, [], hW', trodAll_mk1 (shut_bool Tryz.underlying4 _), (trodAll_cons_mk (Below.trod laidOut (by kernel_rfl) (of_decide_eq_true (by kernel_rfl)) k0 bel lt0) (trodAll_cons_mk (Below.trod laidOut (by kernel_rfl) (of_decide_eq_true (by kernel_rfl)) k1 bel lt1) (trodAll_cons_mk (Below.trod laidOut (by kernel_rfl) (of_decide_eq_true (by kernel_rfl)) k2 bel lt2) trodAll_mk0))), rfl, bel.frame _, fun h => by cases h⟩
end Pe
end Go.Proofs.YtdapdiaklpcmjaaGreat
