/- A part of the proof of KzA. -/
import Derived.Tactics
import Derived.Tactics2
import Derived.Defers
import Derived.Laws.Pointers
import Derived.Laws.LoneSync
import Derived.RegionTactic
import Derived.RegionCalls
import Derived.ChangeAlike
import Derived.Laws.NewBlocks
import Derived.WalkKit
import Derived.Test.YtdapdiaklpcmjaaGreatKm47
set_option linter.unusedSimpArgs false
set_option linter.unusedVariables false
set_option linter.unusedSectionVars false
namespace Go.Proofs.YtdapdiaklpcmjaaGreat.Pe
open Go
set_option maxRecDepth 100000
noncomputable def bsL3 : List (Nat × FnS) := [(newN, .eff newX), (sizeN, .eff sizeX), (loadN, .eff loadX), (storeN, .eff storeX), (formatN, .eff formatX)]
theorem bsL3_ok : AllBs Tryz.prog bsL3 := ⟨⟨new_ok, by kernel_rfl⟩, ⟨size_ok, by kernel_rfl⟩, ⟨load_ok, by kernel_rfl⟩, ⟨store_ok, by kernel_rfl⟩, ⟨format_ok, by kernel_rfl⟩, trivial⟩
noncomputable def pbL3 : List (Nat × PF) := [(loadN, loadP), (storeN, storeP), (formatN, formatP)]
noncomputable def S3 : SysP := { sysOf (mkTr ttL) (mkTr ezL) (mkTr fnL) (mkTr bsL3) with pb := pbOf pbL3 }
theorem S3_ok : SysOk S3.toSys Tryz.prog := sysOf_ok mixed ttL_ok (by kernel_rfl) ezL_ok (by kernel_rfl) fnL_ok (by kernel_rfl) bsL3_ok (by kernel_rfl)
theorem S3_pb : PbOk S3 := ⟨fun f G h => by
  have h := pbOf_mem (l := pbL3) h
  simp only [pbL3, List.mem_cons, List.not_mem_nil, or_false, Prod.mk.injEq] at h
  rcases h with ⟨rfl, rfl⟩ | ⟨rfl, rfl⟩ | ⟨rfl, rfl⟩
  · exact ⟨loadX, by kernel_rfl, loadP_ok⟩
  · exact ⟨storeX, by kernel_rfl, storeP_ok⟩
  · exact ⟨formatX, by kernel_rfl, formatP_ok⟩⟩
end Go.Proofs.YtdapdiaklpcmjaaGreat.Pe
namespace Go.Proofs.YtdapdiaklpcmjaaGreat.Pe
open Go
set_option maxRecDepth 100000
noncomputable def onEq : Option Nat → Option Nat → Bool
  | none, none => true
  | some a, some b => Nat.beq a b
  | _, _ => false
theorem onEq_eq {a b : Option Nat} (h : onEq a b = true) : a = b := by
  cases a <;> cases b <;> first | rfl | cases h | skip
  exact congrArg some (Nat.eq_of_beq_eq_true h)
theorem onEq_refl (a : Option Nat) : onEq a a = true := by
  cases a with
  | none => rfl
  | some a => exact Nat.beq_refl a
noncomputable def trEq : Tr Nat → Tr Nat → Bool
  | .leaf, .leaf => true
  | .node v l r, .node v' l' r' => br (onEq v v') (br (trEq l l') (trEq r r') false) false
  | _, _ => false
theorem trEq_eq : ∀ {t u : Tr Nat}, trEq t u = true → t = u
  | .leaf, .leaf, _ => rfl
  | .node v l r, .node v' l' r', h => by
    unfold trEq at h
    obtain ⟨h1, h⟩ := br2 h
    obtain ⟨h2, h3⟩ := br2 h
    rw [onEq_eq h1, trEq_eq h2, trEq_eq h3]
  | .leaf, .node _ _ _, h => by cases h
  | .node _ _ _, .leaf, h => by cases h
theorem trEq_refl : ∀ (t : Tr Nat), trEq t t = true
  | .leaf => rfl
  | .node v l r => by unfold trEq; rw [onEq_refl, trEq_refl l, trEq_refl r]; rfl
noncomputable def fmtd (t : Tr Nat) : Bool := br (fitsB (wordX t 2)) (trEq t (fmtT (wordX t 2))) false
theorem fmtd_some {t : Tr Nat} (h : fmtd t = true) : fitsB (wordX t 2) = true ∧ t = fmtT (wordX t 2) := by
  obtain ⟨h1, h2⟩ := br2 h
  exact ⟨h1, trEq_eq h2⟩
theorem fmtT_get (n k : Nat) (h : fitsB n = true) : ((fmtT n).get k).getD 0 = if k = (n - 8) / 8 then n - 3776 else if k = 472 then n - 3776 else if k = 5 then sumN n else if k = 4 then 3776 else if k = 2 then n else if k = 1 then 1 else if k = 0 then 7161130718081542961 else 0 := by
  obtain ⟨d1, d2, d3⟩ := fits_some h
  unfold fmtT
  have e8 : Nat.div (Nat.sub n 8) 8 < 1000000000 := by show (n - 8) / 8 < _; omega
  rw [Tr.get_set _ _ _ _ (by omega), Tr.get_set _ _ _ _ (by omega), Tr.get_set _ _ _ _ (by omega), Tr.get_set _ _ _ _ (by omega), Tr.get_set _ _ _ _ (by omega), Tr.get_set _ _ _ _ (by omega), Tr.get_set _ _ _ _ (by omega)]
  rw [show Nat.div (Nat.sub n 8) 8 = (n - 8) / 8 from rfl, show Nat.sub n 3776 = n - 3776 from rfl]
  generalize sumN n = c
  split
  · exact Option.getD_some
  split
  · exact Option.getD_some
  split
  · exact Option.getD_some
  split
  · exact Option.getD_some
  split
  · exact Option.getD_some
  split
  · exact Option.getD_some
  split
  · exact Option.getD_some
  rfl
theorem fmtT_size {n : Nat} (h : fitsB n = true) : wordX (fmtT n) 2 = n := by
  obtain ⟨d1, d2, d3⟩ := fits_some h
  rw [wordX_eq, fmtT_get n 2 h, if_neg (by omega)]
  rfl
theorem fmtd_fmt {n : Nat} (h : fitsB n = true) : fmtd (fmtT n) = true := by
  unfold fmtd
  rw [fmtT_size h, h, trEq_refl]
  rfl
noncomputable def awX (ads : List AD) (H : Hp) (nx : Nat) : Option (RV × Hp × Nat) := match ads with
  | [] => some (.a (.one (.bool true)), H, nx)
  | _ => none
theorem aw_of {f k : Nat} {S : Sys} (hS : SysOk S Tryz.prog) (hf : (S.tab f).isSome = true) (h : ((evs S k).fn f [] (.tr .leaf) 0).map (fun x => x.1) = some (.a (.one (.bool true)))) : FnEff Tryz.prog f awX := by
  rw [FnEff.iff]
  intro ads H nx r H' nx' hq
  unfold awX at hq
  split at hq
  · have hq := Option.some.inj hq
    obtain ⟨q1, q2⟩ := Prod.mk.inj hq
    obtain ⟨q2, q3⟩ := Prod.mk.inj q2
    subst q1; subst q2; subst q3
    cases hx : (evs S k).fn f [] (.tr .leaf) 0 with
    | none => rw [hx] at h; cases h
    | some x =>
      obtain ⟨r', K, m⟩ := x
      rw [hx] at h
      injection h with h
      have h : r' = .a (.one (.bool true)) := h
      subst h
      exact bare_run ((evs_ok hS k).fn f hf _ _ _ _ _ _ hx) (fun a ha => by cases ha) rfl H nx
  · cases hq
def D.inN (N : Nat) : D → Bool
  | .ptr o _ _ _ | .ref o _ _ _ | .refc o _ _ _ _ | .mp o | .yl o => Nat.blt o N
  | d => d.bare
def D.mapO (τ : Nat → Nat) : D → D
  | .ptr o a b c => .ptr (τ o) a b c
  | .ref o a b c => .ref (τ o) a b c
  | .refc o a b c e => .refc (τ o) a b c e
  | .mp o => .mp (τ o)
  | .yl o => .yl (τ o)
  | d => d
def AD.inN (N : Nat) : AD → Bool
  | .one d => d.inN N
  | .many l => l.all (D.inN N)
def AD.mapO (τ : Nat → Nat) : AD → AD
  | .one d => .one (d.mapO τ)
  | .many l => .many (l.map (D.mapO τ))
def RV.inN (N : Nat) : RV → Bool
  | .a x => x.inN N
  | .tup l => l.all (AD.inN N)
def RV.mapO (τ : Nat → Nat) : RV → RV
  | .a x => .a (x.mapO τ)
  | .tup l => .tup (l.map (AD.mapO τ))
section
variable {w w' : World} {ι ι' : Nat → Option Nat} {M M' : Nat → Prop} {b N : Nat} {τ : Nat → Nat}
theorem Rd.mapO {v : Value} {d : D} (hi : ∀ k, k < N → ι' (τ k) = ι k) (h : Rd w ι M v d) (hd : d.inN N = true) : Rd w ι' M' v (d.mapO τ) := by
  cases h with
  | ptr o sz i off b h hz => exact .ptr _ _ _ _ b (by rw [hi o (blt_lt hd)]; exact h) hz
  | ref o sz i n c b h h1 h2 h3 h4 => exact .ref _ _ _ _ c b (by rw [hi o (blt_lt hd)]; exact h) h1 h2 h3 h4
  | refc o sz i n c b h h1 h2 h3 h4 => exact .refc _ _ _ _ _ b (by rw [hi o (blt_lt hd)]; exact h) h1 h2 h3 h4
  | mp o b h => exact .mp _ b (by rw [hi o (blt_lt hd)]; exact h)
  | yl o b h => exact .yl _ b (by rw [hi o (blt_lt hd)]; exact h)
  | int => exact .int _ _
  | bool => exact .bool _
  | str => exact .str _
  | nilp => exact .nilp
  | fn => exact .fn _
  | nilm => exact .nilm
  | nilf => exact .nilf
  | anyb b => exact .anyb b
  | hole v h1 => exact .hole v h1
  | nils => exact .nils
  | nil => cases hd
  | sl => cases hd
  | clo => cases hd
theorem RdL.mapO {vs : List Value} {ds : List D} (hi : ∀ k, k < N → ι' (τ k) = ι k) (h : RdL w ι M vs ds) (hd : ds.all (D.inN N) = true) : RdL w ι' M' vs (ds.map (D.mapO τ)) := by
  refine ⟨by rw [h.1, List.length_map], fun j v d hv hd' => ?_⟩
  rw [List.getElem?_map] at hd'
  cases hj : ds[j]? with
  | none => rw [hj] at hd'; cases hd'
  | some x =>
    rw [hj] at hd'
    injection hd' with hd'
    subst hd'
    exact (h.2 j v x hv hj).mapO hi (List.all_eq_true.1 hd x (List.mem_of_getElem? hj))
theorem RdA.mapO {v : Value} {a : AD} (hi : ∀ k, k < N → ι' (τ k) = ι k) (h : RdA w ι M v a) (hd : a.inN N = true) : RdA w ι' M' v (a.mapO τ) := by
  cases a with
  | one d => exact Rd.mapO hi (show Rd w ι M v d from h) hd
  | many l =>
    obtain ⟨cs, e, hl⟩ := (show ∃ cs, v = .agg cs ∧ RdL w ι M cs.toList l from h)
    exact ⟨cs, e, hl.mapO hi hd⟩
theorem RdV.mapO {v : Value} {r : RV} (hi : ∀ k, k < N → ι' (τ k) = ι k) (h : RdV w ι M v r) (hd : r.inN N = true) : RdV w ι' M' v (r.mapO τ) := by
  cases r with
  | a a => exact RdA.mapO hi (show RdA w ι M v a from h) hd
  | tup l =>
    obtain ⟨vs, e, hl, hr⟩ := (show RdT w ι M v l from h)
    refine ⟨vs, e, by rw [hl, List.length_map], fun j v a hv ha => ?_⟩
    rw [List.getElem?_map] at ha
    cases hj : l[j]? with
    | none => rw [hj] at ha; cases ha
    | some x =>
      rw [hj] at ha
      injection ha with ha
      subst ha
      exact (hr j v x hv hj).mapO hi (List.all_eq_true.1 hd x (List.mem_of_getElem? hj))
end
theorem ConvR.mapO {N : Nat} {τ : Nat → Nat} {r : RV} (h : r.inN N = true) : ConvR N τ r (r.mapO τ) := fun w ι ι' M v hi hr => hr.mapO hi h
theorem ConvO.rows {N : Nat} {τ : Nat → Nat} {e : Option Nat} {sz : Nat} {rows : List (List D)} (h0 : sz ≠ 0) (h : rows.all (fun r => r.all (D.inN N)) = true) : ConvO N τ ⟨e, sz, rows⟩ ⟨e, sz, rows.map fun r => r.map (D.mapO τ)⟩ := by
  intro w ι ι' M b hi ho
  rcases ho with ⟨h1, _⟩ | ⟨T, cs, hT, hb⟩
  · exact absurd h1 h0
  · refine .inr ⟨T, cs, hT, hb.at_, hb.pos, by show (rows.map _).length * sz ≤ _; rw [List.length_map]; exact hb.fit, fun r hr => ?_, fun i j r d hr hd => ?_, hb.one⟩
    · obtain ⟨x, hx, rfl⟩ := List.mem_map.1 hr
      rw [List.length_map]
      exact hb.uni x hx
    · have hr : (rows.map fun r => r.map (D.mapO τ))[i]? = some r := hr
      rw [List.getElem?_map] at hr
      cases hi' : rows[i]? with
      | none => rw [hi'] at hr; cases hr
      | some x =>
        rw [hi'] at hr
        injection hr with hr
        subst hr
        rw [List.getElem?_map] at hd
        cases hj : x[j]? with
        | none => rw [hj] at hd; cases hd
        | some y =>
          rw [hj] at hd
          injection hd with hd
          subst hd
          obtain ⟨v, h1, h2⟩ := hb.rd i j x y hi' hj
          refine ⟨v, h1, h2.mapO hi ?_⟩
          exact List.all_eq_true.1 (List.all_eq_true.1 h x (List.mem_of_getElem? hi')) y (List.mem_of_getElem? hj)
end Go.Proofs.YtdapdiaklpcmjaaGreat.Pe
namespace Go.Proofs.YtdapdiaklpcmjaaGreat.Pe
open Go Go.Proofs
set_option maxRecDepth 100000
theorem on_disable (w : World) : (callFunc 235 #[]).run Tryz.prog w = .ok (.value (.tuple #[])) w := run_call_mark0 Tryz.func235 (by kernel_rfl) (by kernel_rfl) (by kernel_rfl) .disable (by kernel_rfl) w
theorem on_enable (w : World) : (callFunc 237 #[]).run Tryz.prog w = .ok (.value (.tuple #[])) w := run_call_mark0 Tryz.func237 (by kernel_rfl) (by kernel_rfl) (by kernel_rfl) .enable (by kernel_rfl) w
theorem on_acquire (a : Addr) (w : World) : (callFunc 238 #[.pointer (some a)]).run Tryz.prog w = .ok (.value (.tuple #[])) w := run_call_marked Tryz.func238 (by kernel_rfl) (by kernel_rfl) (by kernel_rfl) .acquire (by kernel_rfl) a w
theorem on_releaseMerge (a : Addr) (w : World) : (callFunc 240 #[.pointer (some a)]).run Tryz.prog w = .ok (.value (.tuple #[])) w := run_call_marked Tryz.func240 (by kernel_rfl) (by kernel_rfl) (by kernel_rfl) .releaseMerge (by kernel_rfl) a w
theorem store_deferred (a : Addr) (x : Value) (u : FrameMode) (w : World) (hc : w.cell? a = some x) (hz : w.frozen? a = false) :
    CallsD Tryz.prog 163 #[.pointer (some a), .bool true] u w fun e u' w' => u' = u ∧ (e = .returned (.tuple #[]) ∧ w' = w.drew.setCell a (.int .u32 1)) := by
  have hc' : w.drew.cell? a = some x := by go_simp
  have hz' : w.drew.frozen? a = false := by go_simp
  have hst := run_call_store (P := Tryz.prog) Tryz.func198 (by kernel_rfl) (by kernel_rfl) (by kernel_rfl) (by kernel_rfl) (k := .u32) (y := 1) hc' hz'
  go_enter_d Tryz.func163, Tryz.ntmps163
  go_wp2
  go_region_calls
  all_goals (go_end0; exact ⟨rfl, rfl⟩)
theorem unlock_deferred (a : Addr) (u : FrameMode) (w : World) (hc : w.cell? a = some (.int .i32 1)) (hz : w.frozen? a = false) :
    CallsD Tryz.prog 162 #[.pointer (some a)] u w fun e u' w' => u' = u ∧ (e = .returned (.tuple #[]) ∧ w' = w.setCell a (.int .i32 0)) := by
  have hd := on_disable
  have he := on_enable
  have hr := on_releaseMerge
  have hadd := run_call_add (P := Tryz.prog) Tryz.func241 (by kernel_rfl) (by kernel_rfl) (by kernel_rfl) .i32 (by kernel_rfl) (y := -1) (s := 0) hc hz (by simp [go_sem]; rfl)
  have hcv := run_convert_to_unsafe (P := Tryz.prog) (src := 298) (dst := 302) Tryz.underlying298 Tryz.underlying302 (by kernel_rfl) hc
  go_enter_d Tryz.func162, Tryz.ntmps162
  go_wp2
  go_end0
  go_wp2
  go_end0
  exact ⟨rfl, rfl⟩
theorem lock_free (a : Addr) (w : World) (hc : w.cell? a = some (.int .i32 0)) (hz : w.frozen? a = false) :
    Calls Tryz.prog 161 #[.pointer (some a)] w fun e w' => e = .returned (.tuple #[]) ∧ w' = w.setCell a (.int .i32 1) := by
  have hd := on_disable
  have he := on_enable
  have ha := on_acquire
  have hcas := run_call_cas_hit (P := Tryz.prog) Tryz.func236 (by kernel_rfl) (by kernel_rfl) (by kernel_rfl) .i32 (by kernel_rfl) (y := 1) hc hz
  have hc' : (w.setCell a (.int .i32 1)).cell? a = some (.int .i32 1) := World.cell?_setCell_same w a _ hc
  have hcv := run_convert_to_unsafe (P := Tryz.prog) (src := 298) (dst := 302) Tryz.underlying298 Tryz.underlying302 (by kernel_rfl) hc'
  go_enter Tryz.func161, Tryz.ntmps161
  go_wp2
  first | go_end0 | (simp only [Exit.inBlock, Exit.then]; refine bodyPost_ret (results_none rfl _ _ _) rfl ?_) | refine bodyPost_ret (results_none rfl _ _ _) rfl ?_
  go_wp2
  go_end0
  exact ⟨rfl, rfl⟩
end Go.Proofs.YtdapdiaklpcmjaaGreat.Pe
namespace Go.Proofs.YtdapdiaklpcmjaaGreat.Pe
open Go Go.Proofs
set_option maxRecDepth 100000
abbrev prepN : Nat := 102
section
variable {b off : Nat} {vm : Value} {w : World} {Post : World → Prop}
set_option maxHeartbeats 1600000 in
theorem slow_run (h0 : w.cell? ⟨b, off, none⟩ = some (.int .u32 0)) (h1 : w.cell? ⟨b, off + 1, none⟩ = some (.int .i32 0)) (f0 : w.frozen? ⟨b, off, none⟩ = false) (f1 : w.frozen? ⟨b, off + 1, none⟩ = false)
    (hcall : Calls Tryz.prog 102 #[vm] (w.setCell ⟨b, off + 1, none⟩ (.int .i32 1)) fun e w' => e = .returned (.tuple #[]) ∧ Post w')
    (hP : ∀ w', Post w' → (∃ x, w'.cell? ⟨b, off, none⟩ = some x) ∧ w'.cell? ⟨b, off + 1, none⟩ = some (.int .i32 1) ∧ w'.frozen? ⟨b, off, none⟩ = false ∧ w'.frozen? ⟨b, off + 1, none⟩ = false) :
    Calls Tryz.prog 132 #[.pointer (some ⟨b, off, none⟩), .func (.func 102) #[vm] #[]] w fun e w' => e = .returned (.tuple #[]) ∧
      ∃ w2, Post w2 ∧ w' = (w2.drew.setCell ⟨b, off, none⟩ (.int .u32 1)).setCell ⟨b, off + 1, none⟩ (.int .i32 0) := by
  have hl := run_call_load (P := Tryz.prog) Tryz.func160 (by kernel_rfl) (by kernel_rfl) (by kernel_rfl) .u32 (by kernel_rfl) (w := w.setCell ⟨b, off + 1, none⟩ (.int .i32 1)) (a := ⟨b, off, none⟩) (x := 0) ((World.cell?_setCell_other _ ⟨b, off + 1, none⟩ ⟨b, off, none⟩ _ (by simp)).trans h0)
  have hnot : ∀ (x : Bool) (w : World), (Op.unary .not (.bool x)).run Tryz.prog w = .ok (.bool (!x)) w := fun _ _ => rfl
  go_enter_defers Tryz.func132, Tryz.ntmps132
  go_wp2_with (first
    | (go_at_call 161; refine (lock_free ⟨b, off + 1, none⟩ _ h1 f1).mono ?_; rintro e w' ⟨rfl, rfl⟩)
    | (go_at_call 102; refine hcall.mono ?_; rintro e w' ⟨rfl, hw⟩)
    | go_in)
  obtain ⟨⟨x0, p0⟩, p1, z0, z1⟩ := hP _ hw
  refine leaves_cons (f := 163) (args := #[.pointer (some ⟨b, off, none⟩), .bool true]) (by simp) (by simp [go_sem]) ?_
  refine (store_deferred ⟨b, off, none⟩ x0 .returning _ p0 z0).mono ?_
  rintro e u' w'' ⟨rfl, rfl, rfl⟩
  refine leaves_cons (f := 162) (args := #[.pointer (some ⟨b, off + 1, none⟩)]) (by simp [settle]) (by simp [go_sem]) ?_
  refine (unlock_deferred ⟨b, off + 1, none⟩ _ _ ?_ (by simp [z1])).mono ?_
  · exact (World.cell?_setCell_other _ ⟨b, off, none⟩ ⟨b, off + 1, none⟩ _ (by simp)).trans (by rw [World.cell?_drew]; exact p1)
  rintro e u' w'' ⟨rfl, rfl, rfl⟩
  exact ⟨_, results_none rfl _ _ _, rfl, _, hw, rfl⟩
theorem once_run (h0 : w.cell? ⟨b, off, none⟩ = some (.int .u32 0)) (h1 : w.cell? ⟨b, off + 1, none⟩ = some (.int .i32 0)) (f0 : w.frozen? ⟨b, off, none⟩ = false) (f1 : w.frozen? ⟨b, off + 1, none⟩ = false)
    (hcall : Calls Tryz.prog 102 #[vm] (w.setCell ⟨b, off + 1, none⟩ (.int .i32 1)) fun e w' => e = .returned (.tuple #[]) ∧ Post w')
    (hP : ∀ w', Post w' → (∃ x, w'.cell? ⟨b, off, none⟩ = some x) ∧ w'.cell? ⟨b, off + 1, none⟩ = some (.int .i32 1) ∧ w'.frozen? ⟨b, off, none⟩ = false ∧ w'.frozen? ⟨b, off + 1, none⟩ = false) :
    Calls Tryz.prog 101 #[.pointer (some ⟨b, off, none⟩), .func (.func 102) #[vm] #[]] w fun e w' => e = .returned (.tuple #[]) ∧
      ∃ w2, Post w2 ∧ w' = (w2.drew.setCell ⟨b, off, none⟩ (.int .u32 1)).setCell ⟨b, off + 1, none⟩ (.int .i32 0) := by
  have hl := run_call_load (P := Tryz.prog) Tryz.func160 (by kernel_rfl) (by kernel_rfl) (by kernel_rfl) .u32 (by kernel_rfl) h0
  have hnot : ∀ (x : Bool) (w : World), (Op.unary .not (.bool x)).run Tryz.prog w = .ok (.bool (!x)) w := fun _ _ => rfl
  go_enter Tryz.func101, Tryz.ntmps101
  go_wp2_with (first
    | (go_at_call 132; refine (slow_run h0 h1 f0 f1 hcall hP).mono ?_; rintro e w' ⟨rfl, hw⟩)
    | go_in)
  go_end0
  exact ⟨rfl, hw⟩
end
end Go.Proofs.YtdapdiaklpcmjaaGreat.Pe
namespace Go.Proofs.YtdapdiaklpcmjaaGreat.Pe
open Go
set_option maxRecDepth 100000
theorem rowSet_setCell {w : World} {b : Nat} {cs : Array Value} {T : TypeId} {o : Nat} {v : Value} (h : w.heap[b]? = some (.cells cs T (0, 0))) (ho : o < cs.size) : rowSet w b cs o [v] = w.setCell ⟨b, o, none⟩ v := by
  have e : (cs.toList.take o ++ [v] ++ cs.toList.drop (o + [v].length)).toArray = cs.setIfInBounds o v := by
    apply Array.ext'
    rw [Array.toList_setIfInBounds, List.set_eq_take_append_cons_drop, if_pos (by simpa using ho)]
    simp
  unfold rowSet World.setRow World.setCell
  rw [e]
  congr 1
  apply Array.ext_getElem?
  intro k
  rw [Array.getElem?_modify, Array.getElem?_modify]
  split
  · rename_i hk
    subst hk
    rw [h]
    rfl
  · rfl
section
variable {w w1 w2 : World} {ι ι1 ι2 : Nat → Option Nat} {M M1 M2 : Nat → Prop} {H H1 H2 : Hp} {nx nx1 nx2 : Nat}
theorem EffTo.trans (hM : ∀ b, M b → b < w.heap.size) (h : EffTo w ι M H w1 ι1 M1 H1 nx1) (k : EffTo w1 ι1 M1 H1 w2 ι2 M2 H2 nx2) : EffTo w ι M H w2 ι2 M2 H2 nx2 :=
  ⟨k.ok, fun o b hb => k.ext o b (h.ext o b hb), h.evo.trans k.evo, fun b hb hn => k.kept b (h.kept b hb hn) fun o x ho hi => by
    obtain ⟨o', x', h1, h2⟩ := h.evo.back b (hM b hb) ⟨o, x, ho, hi⟩
    exact hn o' x' h1 h2, fun b hb hm => h.back b hb (k.back b (Nat.lt_of_lt_of_le hb h.evo.size) hm), k.lt⟩
theorem EffTo.same (hM : ∀ b, M b → b < w.heap.size) (hok : HeapOk w ι M H nx) (ho : w1.os = w.os) (ht : w1.tape = w.tape) (hp : w1.output = w.output) (hh : w1.heap = w.heap) : EffTo w ι M H w1 ι M H nx := by
  have ev : ∀ (M : Nat → Prop), Evo (fun _ => False) M w M w1 := fun M => ⟨ho, ht, hp, by rw [hh]; exact Nat.le_refl _, fun _ _ _ => by rw [hh], fun _ _ h => h, fun _ _ h => h.elim, .of fun b _ => by rw [hh]⟩
  refine ⟨⟨hok.new, fun o ob h => ?_, hok.inj, hok.ctl⟩, fun _ _ h => h, ev _, fun _ h _ => h, fun _ _ h => h, fun b h => by rw [hh]; exact hM b h⟩
  obtain ⟨b, h1, h2⟩ := hok.objs o ob h
  exact ⟨b, h1, h2.mono (ev M) (fun _ _ h => h) (by rw [hh])⟩
theorem setCell_eff {m sz b j : Nat} {e : Option Nat} {row : List D} {v : Value} {d : D} (hM : ∀ b, M b → b < w.heap.size) (hok : HeapOk w ι M H nx) (hm : H m = some ⟨e, sz, [row]⟩) (hsz : sz ≠ 0) (hb : ι m = some b) (hj : j < row.length) (hd : Rd w ι M v d) :
    EffTo w ι M H (w.setCell ⟨b, j, none⟩ v) ι M (updO H m (some ⟨e, sz, [splice row j [d]]⟩)) nx := by
  obtain ⟨b', hb', ho⟩ := hok.objs _ _ hm
  rw [hb] at hb'
  injection hb' with hb'
  subst hb'
  have hMb : M b := hok.ctl _ _ _ hm hb
  rcases ho with ⟨h0, _⟩ | ⟨T, cs, hT, hB⟩
  · exact absurd h0 hsz
  have hat : w.heap[b]? = some (.cells cs T (0, 0)) := hB.at_
  have hu : RdL w ι M [v] [d] := ⟨rfl, fun k v' d' hv hd' => by
    cases k with
    | zero => simp at hv hd'; subst hv hd'; exact hd
    | succ k => simp at hv⟩
  obtain ⟨f1, f2, f3⟩ := hB.store hMb (i := 0) (off := j) (r := row) rfl (vs := [d]) (by simp; omega) hu
  simp only [Nat.zero_mul, Nat.zero_add] at f1 f2 f3
  have hjc : j < cs.size := by simp at f1; omega
  have hsh := rowSet_shape hat j [v] f1
  rw [rowSet_setCell hat hjc] at f3 hsh
  have same : ∀ k, k ≠ b → (w.setCell ⟨b, j, none⟩ v).heap[k]? = w.heap[k]? := fun k hk => by rw [← rowSet_setCell hat hjc]; exact setRow_other w b k _ hk
  have sz' : (w.setCell ⟨b, j, none⟩ v).heap.size = w.heap.size := by simp [World.setCell]
  have ev : Evo (fun _ => False) M w M (w.setCell ⟨b, j, none⟩ v) := ⟨rfl, rfl, rfl, Nat.le_of_eq sz'.symm, fun k _ hk => same k (fun h => by subst h; exact hk hMb), fun _ _ h => h, fun _ _ h => h.elim, hsh⟩
  have fro : ∀ k x, updO H m (some ⟨e, sz, [splice row j [d]]⟩) k = some x → ∃ y, H k = some y := fun k x hk => by
    rw [updO_at] at hk
    split at hk
    · rename_i e; subst e; exact ⟨_, hm⟩
    · exact ⟨x, hk⟩
  refine ⟨⟨hok.new, fun o x hx => ?_, fun o o' x x' c h1 h2 => ?_, fun o x c h1 => ?_⟩, fun _ _ h => h, ⟨rfl, rfl, rfl, Nat.le_of_eq sz'.symm, fun k _ hk => same k (fun h => by subst h; exact hk ⟨m, _, hm, hb⟩), fun c _ hc => ?_, fun _ _ h => h.elim, hsh⟩, fun _ h _ => h, fun _ _ h => h, fun c h => by rw [sz']; exact hM c h⟩
  · rw [updO_at] at hx
    split at hx
    · rename_i e'; subst e'
      injection hx with hx; subst hx
      exact ⟨b, hb, .inr ⟨T, _, hT, by simpa using f3⟩⟩
    · rename_i hne
      obtain ⟨c, h1, h2⟩ := hok.objs o x hx
      exact ⟨c, h1, h2.mono ev (fun _ _ h => h) (same c (fun h => by subst h; exact hne (hok.inj _ _ _ _ _ hx hm h1 hb)))⟩
  · obtain ⟨y, hy⟩ := fro o x h1
    obtain ⟨y', hy'⟩ := fro o' x' h2
    exact hok.inj o o' y y' c hy hy'
  · obtain ⟨y, hy⟩ := fro o x h1
    exact hok.ctl o y c hy
  · obtain ⟨o, x, h1, h2⟩ := hc
    obtain ⟨y, hy⟩ := fro o x h1
    exact ⟨o, y, hy, h2⟩
theorem cell_of {m sz b j : Nat} {e : Option Nat} {row : List D} {d : D} (hok : HeapOk w ι M H nx) (hm : H m = some ⟨e, sz, [row]⟩) (hsz : sz ≠ 0) (hb : ι m = some b) (hd : row[j]? = some d) : ∃ v, w.cell? ⟨b, j, none⟩ = some v ∧ Rd w ι M v d ∧ w.frozen? ⟨b, j, none⟩ = false := by
  obtain ⟨b', hb', ho⟩ := hok.objs _ _ hm
  rw [hb] at hb'
  injection hb' with hb'
  subst hb'
  rcases ho with ⟨h0, _⟩ | ⟨T, cs, hT, hB⟩
  · exact absurd h0 hsz
  have hat : w.heap[b]? = some (.cells cs T (0, 0)) := hB.at_
  obtain ⟨v, h1, h2⟩ := hB.rd 0 j row d rfl hd
  simp only [Nat.zero_mul, Nat.zero_add] at h1
  exact ⟨v, by simp [World.cell?, hat, h1], h2, by simp [World.frozen?, hat]⟩
noncomputable def setD (H : Hp) (m : Nat) (e : Option Nat) (sz : Nat) (row : List D) (j : Nat) (d : D) : Hp := updO H m (some ⟨e, sz, [splice row j [d]]⟩)
theorem once_eff {m sz off : Nat} {e e2 : Option Nat} {row row2 : List D} {d2 : D} {v0 vm : Value} (hM : ∀ b, M b → b < w.heap.size) (hok : HeapOk w ι M H nx) (hsz : sz ≠ 0) (hm : H m = some ⟨e, sz, [row]⟩)
    (r0 : row[off]? = some (.int .u32 0)) (r1 : row[off + 1]? = some (.int .i32 0)) (hv0 : Rd w ι M v0 (.ptr m sz 0 off)) (hvm : Rd w ι M vm (.ptr m sz 0 0))
    (hrun : RunAt Tryz.prog prepN [.one (.ptr m sz 0 0)] (setD H m e sz row (off + 1) (.int .i32 1)) nx (.tup []) H2 nx2) (hm2 : H2 m = some ⟨e2, sz, [row2]⟩) (q0 : row2[off]? = some d2) (q1 : row2[off + 1]? = some (.int .i32 1)) :
    Calls Tryz.prog 101 #[v0, .func (.func 102) #[vm] #[]] w fun e' w' => e' = .returned (.tuple #[]) ∧ ∃ ι' M', EffTo w ι M H w' ι' M' (setD (setD H2 m e2 sz row2 off (.int .u32 1)) m e2 sz (splice row2 off [.int .u32 1]) (off + 1) (.int .i32 0)) nx2 := by
  obtain ⟨b, hb, _⟩ := hok.objs _ _ hm
  have ev0 : v0 = .pointer (some ⟨b, off, none⟩) := by
    cases hv0 with
    | ptr _ _ _ _ b' h hz => rw [hb] at h; injection h with h; subst h; simp
  subst ev0
  have hlt : ∀ (row : List D) (j : Nat) (d : D), row[j]? = some d → j < row.length := fun row j d h => (List.getElem?_eq_some_iff.1 h).1
  obtain ⟨u0, c0, rd0, f0⟩ := cell_of hok hm hsz hb r0
  obtain ⟨u1, c1, rd1, f1⟩ := cell_of hok hm hsz hb r1
  cases rd0
  cases rd1
  have e1 := setCell_eff (v := .int .i32 1) hM hok hm hsz hb (hlt _ _ _ r1) (.int .i32 1)
  have hM1 : ∀ c, M c → c < (w.setCell ⟨b, off + 1, none⟩ (.int .i32 1)).heap.size := e1.lt
  have hvm1 : Rd (w.setCell ⟨b, off + 1, none⟩ (.int .i32 1)) ι M vm (.ptr m sz 0 0) := by
    cases hvm with
    | ptr _ _ _ _ b' h hz => exact .ptr _ _ _ _ b' h hz
  have hcall := hrun (w.setCell ⟨b, off + 1, none⟩ (.int .i32 1)) ι M #[vm] hM1 e1.ok rfl (fun j v a hv ha => by
    match j with
    | 0 => simp at hv ha; subst hv ha; exact hvm1
    | j + 1 => simp at hv)
  refine (once_run (Post := fun w' => ∃ ι' M', EffTo (w.setCell ⟨b, off + 1, none⟩ (.int .i32 1)) ι M (setD H m e sz row (off + 1) (.int .i32 1)) w' ι' M' H2 nx2) c0 c1 f0 f1 (hcall.mono fun e' w' hp => ?_) (fun w' hp => ?_)).mono fun e' w' hp => ?_
  · obtain ⟨v, ι', M', rfl, hv, h1, h2, h3, h4, h5, h6⟩ := hp
    obtain ⟨vs, rfl, hl, _⟩ := (show RdT w' ι' M' v [] from hv)
    have : vs = #[] := Array.eq_empty_of_size_eq_zero hl
    subst this
    exact ⟨rfl, ι', M', ⟨h1, h2, h3, h4, h5, h6⟩⟩
  · obtain ⟨ι', M', he⟩ := hp
    have hb' : ι' m = some b := he.ext _ _ hb
    obtain ⟨z0, k0, _, g0⟩ := cell_of he.ok hm2 hsz hb' q0
    obtain ⟨z1, k1, rd1, g1⟩ := cell_of he.ok hm2 hsz hb' q1
    cases rd1
    exact ⟨⟨z0, k0⟩, k1, g0, g1⟩
  · obtain ⟨rfl, w2, ⟨ι', M', he⟩, rfl⟩ := hp
    refine ⟨rfl, ι', M', ?_⟩
    have hb' : ι' m = some b := he.ext _ _ hb
    have t1 := e1.trans hM he
    have d1 : EffTo w2 ι' M' H2 w2.drew ι' M' H2 nx2 := .same he.lt he.ok rfl rfl rfl rfl
    have t2 := t1.trans hM d1
    have s1 := setCell_eff (v := .int .u32 1) d1.lt d1.ok hm2 hsz hb' (hlt _ _ _ q0) (.int .u32 1)
    have t3 := t2.trans hM s1
    have hm3 : setD H2 m e2 sz row2 off (.int .u32 1) m = some ⟨e2, sz, [splice row2 off [.int .u32 1]]⟩ := by unfold setD; rw [updO_at, if_pos rfl]
    have s2 := setCell_eff (v := .int .i32 0) (j := off + 1) s1.lt s1.ok hm3 hsz hb' (by rw [splice_length _ _ _ (by have := hlt _ _ _ q0; simp; omega)]; exact hlt _ _ _ q1) (.int .i32 0)
    exact t3.trans hM s2
end
end Go.Proofs.YtdapdiaklpcmjaaGreat.Pe
