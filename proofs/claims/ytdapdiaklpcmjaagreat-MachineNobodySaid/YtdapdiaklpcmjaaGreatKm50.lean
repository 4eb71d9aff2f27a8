/- A part of the proof of KzA. -/
import Derived.WalkKit
import Derived.Laws.NewBlocks
import Derived.Test.YtdapdiaklpcmjaaGreatKm49
set_option linter.unusedSimpArgs false
set_option linter.unusedVariables false
set_option linter.unusedSectionVars false
namespace Go.Proofs.YtdapdiaklpcmjaaGreat.Pe
open Go
set_option maxRecDepth 100000
abbrev awake20N : Nat := 14
theorem aw20 : ((evs Sm.toSys 8000).fn awake20N [] (.tr .leaf) 0).map (fun x => x.1) = some (.a (.one (.bool true))) := by kernel_rfl
theorem lone_run {f : Nat} {ads : List AD} {K : Hp} {m : Nat} {r : RV} (h : RunAt Tryz.prog f ads (.tr .leaf) 0 r K m) {vals : Array Value} {w : World} (hl : vals.size = ads.length) (ha : ∀ (j : Nat) v x, vals[j]? = some v → ads[j]? = some x → RdA w (fun _ => none) (fun _ => False) v x) :
    Calls Tryz.prog f vals w fun e w' => ∃ v ι M, e = .returned v ∧ RdV w' ι M v r ∧ HeapOk w' ι M K m ∧ w.grownBy w' none ∧ (∀ b, M b → w.heap.size ≤ b ∧ b < w'.heap.size) := by
  refine (h w (fun _ => none) (fun _ => False) vals (fun b h => h.elim) ⟨fun o => (by simp), fun o ob h => (by cases h), fun o o' x x' b h => (by cases h), fun o x b h => (by cases h)⟩ hl ha).mono fun e w' hp => ?_
  obtain ⟨v, ι', M', rfl, hv, hk, _, he, _, hback, hlt⟩ := hp
  exact ⟨v, ι', M', rfl, hv, hk, ⟨he.os, he.tape, he.output, he.size, fun k hk _ => he.same k hk fun hx => by
    obtain ⟨o, x, h1, _⟩ := hx
    cases h1⟩, fun b hb => ⟨Nat.le_of_not_lt fun h => hback b h hb, hlt b hb⟩⟩
theorem awake20_run (w : World) : Calls Tryz.prog awake20N #[] w fun e w' => e = .returned (.bool true) ∧ w.grownBy w' none := by
  cases hx : (evs Sm.toSys 8000).fn awake20N [] (.tr .leaf) 0 with
  | none => have := aw20; rw [hx] at this; cases this
  | some x =>
    obtain ⟨r, K, m⟩ := x
    have hr := aw20
    rw [hx] at hr
    injection hr with hr
    have hr : r = .a (.one (.bool true)) := hr
    subst hr
    refine (lone_run ((evs_ok Sm_ok 8000).fn awake20N (by kernel_rfl) _ _ _ _ _ _ hx) (vals := #[]) rfl (fun j v a hv => by simp at hv)).mono fun e w' hp => ?_
    obtain ⟨v, ι, M, rfl, hv, _, hg, _⟩ := hp
    have hv : Rd w' ι M v (.bool true) := hv
    cases hv
    exact ⟨rfl, hg⟩
def SegAt (w0 w : World) (v : Value) : Prop := ∃ ι M H m t, HeapOk w ι M H m ∧ (∀ b, M b → w0.heap.size ≤ b ∧ b < w.heap.size) ∧ Rd w ι M v (.ptr 1 1 0 0) ∧ H = segW none (some 5) t 4800 ∧ m = 2
theorem new_out : newX [.one (.int .u64 (.ofNat 4800))] (.tr .leaf) 0 = some (.a (.one (.ptr 1 1 0 0)), updO (updO (.tr .leaf) 0 (some ⟨some 5, 0, [[.wds .leaf 4800]]⟩)) 1 (some ⟨none, 1, [[.ref 0 1 0 4800]]⟩), 2) := by kernel_rfl
theorem seg_new (w : World) : Calls Tryz.prog newN #[.int .u64 4800] w fun e w' => ∃ b i, e = .returned (.pointer (some ⟨b, i, none⟩)) ∧ w.grownBy w' none ∧ ∃ ι M, HeapOk w' ι M (updO (updO (.tr .leaf) 0 (some ⟨some 5, 0, [[.wds .leaf 4800]]⟩)) 1 (some ⟨none, 1, [[.ref 0 1 0 4800]]⟩)) 2 ∧ (∀ b, M b → w.heap.size ≤ b ∧ b < w'.heap.size) ∧ Rd w' ι M (.pointer (some ⟨b, i, none⟩)) (.ptr 1 1 0 0) := by
  refine (lone_run (FnEff.iff.1 new_ok _ _ _ _ _ _ new_out) (vals := #[.int .u64 4800]) rfl (fun j v a hv ha => ?_)).mono fun e w' hp => ?_
  · match j with
    | 0 => simp at hv ha; subst hv ha; exact Rd.int _ _
    | j + 1 => simp at hv
  · obtain ⟨v, ι, M, rfl, hv, hk, hg, hM⟩ := hp
    have hv : Rd w' ι M v (.ptr 1 1 0 0) := hv
    have hv' := hv
    cases hv with
    | ptr _ _ _ _ b h hs => exact ⟨b, _, rfl, hg, ι, M, hk, hM, hv'⟩
theorem fmt_out : (formatX [.one (.ptr 1 1 0 0), .one (.int .u64 (.ofNat 4480))] (updO (updO (.tr .leaf) 0 (some ⟨some 5, 0, [[.wds .leaf 4800]]⟩)) 1 (some ⟨none, 1, [[.ref 0 1 0 4800]]⟩)) 2).map (fun x => x.1) = some (.a (.one (.int .i64 0))) := by kernel_rfl
theorem seg_format {w0 w : World} {v : Value} {ι : Nat → Option Nat} {M : Nat → Prop} (hk : HeapOk w ι M (updO (updO (.tr .leaf) 0 (some ⟨some 5, 0, [[.wds .leaf 4800]]⟩)) 1 (some ⟨none, 1, [[.ref 0 1 0 4800]]⟩)) 2) (hM : ∀ b, M b → w0.heap.size ≤ b ∧ b < w.heap.size) (hv : Rd w ι M v (.ptr 1 1 0 0)) (hg : w0.grownBy w none) :
    Calls Tryz.prog formatN #[v, .int .u64 4480] w fun e w' => e = .returned (.int .i64 0) ∧ w0.grownBy w' none := by
  cases hx : formatX [.one (.ptr 1 1 0 0), .one (.int .u64 (.ofNat 4480))] (updO (updO (.tr .leaf) 0 (some ⟨some 5, 0, [[.wds .leaf 4800]]⟩)) 1 (some ⟨none, 1, [[.ref 0 1 0 4800]]⟩)) 2 with
  | none => have := fmt_out; rw [hx] at this; cases this
  | some x =>
    obtain ⟨r, K, m⟩ := x
    have hr := fmt_out
    rw [hx] at hr
    injection hr with hr
    have hr : r = .a (.one (.int .i64 0)) := hr
    subst hr
    refine (FnEff.iff.1 format_ok _ _ _ _ _ _ hx w ι M #[v, .int .u64 4480] (fun b h => (hM b h).2) hk rfl (fun j u a hu ha => ?_)).mono fun e w' hp => ?_
    · match j with
      | 0 => simp at hu ha; subst hu ha; exact hv
      | 1 => simp at hu ha; subst hu ha; exact Rd.int _ _
      | j + 2 => simp at hu
    · obtain ⟨u, ι', M', rfl, hu, _, _, he, _⟩ := hp
      have hu : Rd w' ι' M' u (.int .i64 0) := hu
      cases hu
      refine ⟨rfl, he.os.trans hg.os, he.tape.trans hg.tape, he.output.trans hg.output, Nat.le_trans hg.size he.size, fun k hk' hne => ?_⟩
      have h1 : k < w.heap.size := Nat.lt_of_lt_of_le hk' hg.size
      rw [he.same k h1 (fun ⟨o, x, h2, h3⟩ => by
        have := (hM k (hk.ctl o x k h2 h3)).1
        omega)]
      exact hg.block k hk' hne
end Go.Proofs.YtdapdiaklpcmjaaGreat.Pe
namespace Go.Proofs.YtdapdiaklpcmjaaGreat.Pe
open Go Go.Proofs Go.RowKit
set_option maxRecDepth 100000
def opV (k n a1 a2 a3 a4 a5 : Int) (s : ByteArray) : Value := .agg #[.int .i64 k, .int .u64 n, .int .u64 a1, .int .u64 a2, .int .u64 a3, .int .u64 a4, .int .i64 a5, .string s]
set_option maxHeartbeats 4000000 in
theorem mnew_nil (w : World) (c : Int) (k n a1 a2 a3 a4 a5 : Int) (s : ByteArray) : Calls Tryz.prog 15 #[.pointer none, .int .i64 c, .agg #[.int .i64 k, .int .u64 n, .int .u64 a1, .int .u64 a2, .int .u64 a3, .int .u64 a4, .int .i64 a5, .string s]] w fun e w' => e = .returned (.pointer none) ∧ w.grownBy w' none := by
  go_enter Tryz.func15, Tryz.ntmps15
  go_wp2
  go_ret
  exact ⟨rfl, World.grownBy_alloc w _ none⟩
set_option maxHeartbeats 4000000 in
theorem mnew_out (w : World) (a : Addr) (c : Int) (hc : c < 0 ∨ 8 ≤ c) (k n a1 a2 a3 a4 a5 : Int) (s : ByteArray) : Calls Tryz.prog 15 #[.pointer (some a), .int .i64 c, .agg #[.int .i64 k, .int .u64 n, .int .u64 a1, .int .u64 a2, .int .u64 a3, .int .u64 a4, .int .i64 a5, .string s]] w fun e w' => e = .returned (.pointer none) ∧ w.grownBy w' none := by
  by_cases h0 : c < 0
  · go_enter Tryz.func15, Tryz.ntmps15
    go_wp2
    go_ret
    exact ⟨rfl, World.grownBy_alloc w _ none⟩
  · have h8 : 8 ≤ c := hc.resolve_left h0
    go_enter Tryz.func15, Tryz.ntmps15
    go_wp2
    go_ret
    exact ⟨rfl, World.grownBy_alloc w _ none⟩
set_option maxHeartbeats 4000000 in
theorem mnew_in (w : World) (a : Addr) (c : Int) (h0 : ¬ c < 0) (h8 : ¬ 8 ≤ c) (k n a1 a2 a3 a4 a5 : Int) (s : ByteArray) : Calls Tryz.prog 15 #[.pointer (some a), .int .i64 c, .agg #[.int .i64 k, .int .u64 n, .int .u64 a1, .int .u64 a2, .int .u64 a3, .int .u64 a4, .int .i64 a5, .string s]] w fun e w' => (∃ b, e = .returned (.pointer (some b))) ∧ w.grownBy w' none := by
  go_enter Tryz.func15, Tryz.ntmps15
  go_wp2
  go_ret
  exact ⟨⟨_, rfl⟩, (World.grownBy_alloc w _ none).andThen (World.grownBy_alloc _ _ none) (fun j hj => by cases hj)⟩
theorem many3 {w : World} {ι : Nat → Option Nat} {M : Nat → Prop} {v : Value} {a b c : D} (h : RdA w ι M v (.many [a, b, c])) : ∃ x y z, v = .agg #[x, y, z] ∧ Rd w ι M x a ∧ Rd w ι M y b ∧ Rd w ι M z c := by
  obtain ⟨cs, rfl, hl⟩ := (show ∃ cs, v = .agg cs ∧ RdL w ι M cs.toList [a, b, c] from h)
  obtain ⟨l⟩ := cs
  match l, hl with
  | [x, y, z], hl => exact ⟨x, y, z, rfl, hl.2 0 x a rfl rfl, hl.2 1 y b rfl rfl, hl.2 2 z c rfl rfl⟩
  | [], hl => cases hl.1
  | [_], hl => cases hl.1
  | [_, _], hl => cases hl.1
  | _ :: _ :: _ :: _ :: _, hl => have := hl.1; simp at this
theorem step_out : ((evs Sm.toSys 100).fn 18 [.one .nilp] (.tr .leaf) 0).map (fun x => x.1) = some (.a (.many [.bool false, .bool true, .int .i64 0])) := by kernel_rfl
theorem step_nil (w : World) : Calls Tryz.prog 18 #[.pointer none] w fun e w' => e = .returned (.agg #[.bool false, .bool true, .int .i64 0]) ∧ w.grownBy w' none := by
  cases hx : (evs Sm.toSys 100).fn 18 [.one .nilp] (.tr .leaf) 0 with
  | none => have := step_out; rw [hx] at this; cases this
  | some x =>
    obtain ⟨r, K, m⟩ := x
    have hr := step_out
    rw [hx] at hr
    injection hr with hr
    have hr : r = .a (.many [.bool false, .bool true, .int .i64 0]) := hr
    subst hr
    refine (lone_run ((evs_ok Sm_ok 100).fn 18 (by kernel_rfl) _ _ _ _ _ _ hx) (vals := #[.pointer none]) rfl (fun j v a hv ha => ?_)).mono fun e w' hp => ?_
    · match j with
      | 0 => simp at hv ha; subst hv ha; exact Rd.nilp
      | j + 1 => simp at hv
    · obtain ⟨v, ι, M, rfl, hv, _, hg, _⟩ := hp
      obtain ⟨x, y, z, rfl, h1, h2, h3⟩ := many3 (show RdA w' ι M v (.many [.bool false, .bool true, .int .i64 0]) from hv)
      cases h1; cases h2; cases h3
      exact ⟨rfl, hg⟩
theorem res_out : ((evs Sm.toSys 100).fn 17 [.one .nilp] (.tr .leaf) 0).map (fun x => x.1) = some (.tup [.many [.int .i64 0, .int .u64 0, .int .u64 0], .one (.bool false)]) := by kernel_rfl
theorem res_nil (w : World) : Calls Tryz.prog 17 #[.pointer none] w fun e w' => e = .returned (.tuple #[.agg #[.int .i64 0, .int .u64 0, .int .u64 0], .bool false]) ∧ w.grownBy w' none := by
  cases hx : (evs Sm.toSys 100).fn 17 [.one .nilp] (.tr .leaf) 0 with
  | none => have := res_out; rw [hx] at this; cases this
  | some x =>
    obtain ⟨r, K, m⟩ := x
    have hr := res_out
    rw [hx] at hr
    injection hr with hr
    have hr : r = .tup [.many [.int .i64 0, .int .u64 0, .int .u64 0], .one (.bool false)] := hr
    subst hr
    refine (lone_run ((evs_ok Sm_ok 100).fn 17 (by kernel_rfl) _ _ _ _ _ _ hx) (vals := #[.pointer none]) rfl (fun j v a hv ha => ?_)).mono fun e w' hp => ?_
    · match j with
      | 0 => simp at hv ha; subst hv ha; exact Rd.nilp
      | j + 1 => simp at hv
    · obtain ⟨v, ι, M, rfl, hv, _, hg, _⟩ := hp
      obtain ⟨vs, rfl, hl, hr⟩ := (show RdT w' ι M v [.many [.int .i64 0, .int .u64 0, .int .u64 0], .one (.bool false)] from hv)
      obtain ⟨l⟩ := vs
      match l, hl with
      | [p, q], _ =>
        obtain ⟨x, y, z, rfl, h1, h2, h3⟩ := many3 (hr 0 p _ rfl rfl)
        have h4 : Rd w' ι M q (.bool false) := hr 1 q _ rfl rfl
        cases h1; cases h2; cases h3; cases h4
        exact ⟨rfl, hg⟩
theorem has_nil (w : World) : Calls Tryz.prog 19 #[.pointer none] w fun e w' => e = .returned (.bool false) ∧ w' = w := by
  go_enter Tryz.func19, Tryz.ntmps19
  go_wp2
  go_ret
  exact ⟨rfl, rfl⟩
set_option maxHeartbeats 4000000 in
theorem run_pos (w : World) (x : Int) (hx : 0 < x) : Calls Tryz.prog 16 #[.pointer none, .int .i64 x] w fun e w' => e = .returned (.int .i64 1) ∧ w.grownBy w' none := by
  have hx0 : 0 ≤ x := by omega
  go_enter Tryz.func16, Tryz.ntmps16
  go_wp2_with (go_at_call 18; refine (step_nil _).mono ?_; rintro e w' ⟨rfl, hg⟩)
  go_loopw [9] (fun v wr => v = .int .i64 0 ∧ w.grownBy wr none) (fun _ _ => 0)
  case atStart => exact ⟨rfl, ⟨rfl, rfl, rfl, Nat.le_refl _, fun _ _ _ => rfl⟩⟩
  case round =>
    obtain ⟨rfl, hgr⟩ := hrel
    go_wp2_with (go_at_call 18; refine (step_nil _).mono ?_; rintro e w' ⟨rfl, hg⟩)
    go_ret
    exact ⟨rfl, (hgr.andThen hg (fun j hj => by cases hj)).andThen (World.grownBy_alloc _ _ none) (fun j hj => by cases hj)⟩
set_option maxHeartbeats 4000000 in
theorem run_neg (w : World) (x : Int) (hx : ¬ 0 < x) : Calls Tryz.prog 16 #[.pointer none, .int .i64 x] w fun e w' => e = .returned (.int .i64 0) ∧ w.grownBy w' none := by
  by_cases h0 : 0 ≤ x
  · obtain rfl : x = 0 := by omega
    go_enter Tryz.func16, Tryz.ntmps16
    go_wp2_with (go_at_call 18; refine (step_nil _).mono ?_; rintro e w' ⟨rfl, hg⟩)
    go_loopw [9] (fun v wr => v = .int .i64 0 ∧ wr = w) (fun _ _ => 0)
    case atStart => exact ⟨rfl, rfl⟩
    case round =>
      obtain ⟨rfl, rfl⟩ := hrel
      go_wp2_with (go_at_call 18; refine (step_nil _).mono ?_; rintro e w' ⟨rfl, hg⟩)
      go_ret
      exact ⟨rfl, ⟨rfl, rfl, rfl, Nat.le_refl _, fun _ _ _ => rfl⟩⟩
  · go_enter Tryz.func16, Tryz.ntmps16
    go_wp2_with (go_at_call 18; refine (step_nil _).mono ?_; rintro e w' ⟨rfl, hg⟩)
    go_loopw [9] (fun v wr => v = .int .i64 0 ∧ wr = w) (fun _ _ => 0)
    case atStart => exact ⟨rfl, rfl⟩
    case round =>
      obtain ⟨rfl, rfl⟩ := hrel
      go_wp2_with (go_at_call 18; refine (step_nil _).mono ?_; rintro e w' ⟨rfl, hg⟩)
      go_ret
      exact ⟨rfl, ⟨rfl, rfl, rfl, Nat.le_refl _, fun _ _ _ => rfl⟩⟩
end Go.Proofs.YtdapdiaklpcmjaaGreat.Pe
