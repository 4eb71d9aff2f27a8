/- A part of the proof of KvA. -/
import Derived.WalkKit
import Derived.Maps.RangeRun
import Derived.Test.YtdapdiaklpcmjaaGreatCb31
set_option linter.unusedSimpArgs false
set_option linter.unusedVariables false
set_option linter.unusedSectionVars false
namespace Go.Proofs.YtdapdiaklpcmjaaGreat.Pe
open Go
set_option maxRecDepth 100000
abbrev lookN : Nat := 6
noncomputable def rowV (n : Nat) : List D := [.int .u64 (.ofNat 3776), .int .u64 (.ofNat (Nat.sub n 3776)), .bool false, .int .i64 (.ofNat 0), .int .u64 (.ofNat 0), .nils]
noncomputable def viewR (n o : Nat) : RV := .tup [.many [.int .u64 (.ofNat n), .ref o 6 0 1, .nils, .nils], .one (.int .i64 (.ofNat 0))]
noncomputable def objV (n : Nat) : PObj := ⟨some 69, 6, [rowV n]⟩
noncomputable def outK (x : Option (RV × Hp × Nat)) : Option (RV × Option PObj × Option PObj × Option PObj × Nat) := x.bind fun x => some (x.1, x.2.1 0, x.2.1 1, x.2.1 208, x.2.2)
def LookAt (n : Nat) : Prop := ∀ (e1 e5 : Option Nat), outK ((evs S3.toSys 2000).fn lookN [.one (.ptr 1 1 0 0)] (segW e1 e5 (fmtT n) 4800) 2) = some (viewR n 208, some ⟨e5, 0, [[.wds (fmtT n) 4800]]⟩, some ⟨e1, 1, [[.ref 0 1 0 4800]]⟩, some (objV n), 278)
end Go.Proofs.YtdapdiaklpcmjaaGreat.Pe
namespace Go.Proofs.YtdapdiaklpcmjaaGreat.Pe
open Go Go.Proofs Go.RowKit
set_option maxRecDepth 100000
section
variable {P : Program} (w : World) {ops : Array Oper} {rest : List Oper} {o : Oper} {a : Act} {Q : Exit → Act → World → Prop}
theorem wpList_range0 (hg : o.guard = none) (m : Operand) (t : TypeId) (hop : o.op = Op.range t m) (k e : TypeId) (ht : P.underlying t = some (.map k e)) (b : Nat) (es : Array MapEntry) (clock : Nat)
    (hm : a.eval m = .map (some b)) (hb : w.heap[b]? = some (.map es clock)) (hK : wpList P ops Q rest (a.put o.dst (.pointer (some ⟨w.heap.size, 0, none⟩))) (w.alloc (.mapIter (some b) clock #[] clock))) : wpList P ops Q (o :: rest) a w := by
  refine wpList_plain hg fun K' hK' => ?_
  have hrun := run_range_map w t k e b es clock ht hb
  unfold Oper.wp
  simp [execOp, hop, hm, hrun, Result.andThen]
  exact hK' _ _ hK
theorem wpList_next0 (hg : o.guard = none) (it : Operand) (hop : o.op = Op.next it false) (b r since c0 clock : Nat) (hit : a.eval it = .pointer (some ⟨r, 0, none⟩)) (hr : w.heap[r]? = some (.mapIter (some b) since #[] c0)) (hb : w.heap[b]? = some (.map #[] clock)) (hsc : since ≤ c0)
    (hK : wpList P ops Q rest (a.put o.dst (.tuple #[.bool false])) w) : wpList P ops Q (o :: rest) a w := by
  refine wpList_plain hg fun K' hK' => ?_
  unfold Oper.wp
  rcases run_next_at (P := P) w o.type r b since c0 #[] #[] clock hr hb (fun x hx => by simp at hx) hsc with ⟨_, hrun⟩ | ⟨e, he, _⟩
  · simp [execOp, hop, hit, hrun, Result.andThen]
    exact hK' _ _ hK
  · simp [leftOf] at he
end
abbrev entriesN : Nat := 33
abbrev sortN : Nat := 28
theorem sort_run : ((evs S3.toSys 100).fn sortN [.one .nils, .one (.fn 62)] (.tr .leaf) 0).map (fun x => x.1) = some (.tup []) := by kernel_rfl
theorem sort_nil (w : World) : Calls Tryz.prog sortN #[.slice none 0 0, .func (.func 62) #[] #[]] w fun e w' => e = .returned (.tuple #[]) ∧ w.grownBy w' none := by
  cases hx : (evs S3.toSys 100).fn sortN [.one .nils, .one (.fn 62)] (.tr .leaf) 0 with
  | none => have := sort_run; rw [hx] at this; cases this
  | some x =>
    obtain ⟨r, K, m⟩ := x
    have hr := sort_run
    rw [hx] at hr
    injection hr with hr
    have hr : r = .tup [] := hr
    subst hr
    refine ((evs_ok S3_ok 100).fn sortN (by kernel_rfl) _ _ _ _ _ _ hx w (fun _ => none) (fun _ => False) #[.slice none 0 0, .func (.func 62) #[] #[]] (fun b h => h.elim) ⟨fun o => (by simp), fun o ob h => (by cases h), fun o o' x x' b h => (by cases h), fun o x b h => (by cases h)⟩ rfl (fun j v a hv ha => ?_)).mono fun e w' hp => ?_
    · match j with
      | 0 => simp at hv ha; subst hv ha; exact Rd.nils
      | 1 => simp at hv ha; subst hv ha; exact Rd.fn _
      | j + 2 => simp at hv
    · obtain ⟨v, ι', M', rfl, hv, _, _, he, _⟩ := hp
      obtain ⟨vs, rfl, hl, _⟩ := (show RdT w' ι' M' v [] from hv)
      have : vs = #[] := Array.eq_empty_of_size_eq_zero hl
      subst this
      refine ⟨rfl, he.os, he.tape, he.output, he.size, fun k hk _ => he.same k hk fun hx => ?_⟩
      obtain ⟨o, x, h1, _⟩ := hx
      cases h1
set_option maxHeartbeats 4000000 in
theorem entries_empty {w : World} {b bm clock : Nat} (hc : w.cell? ⟨b, 3, none⟩ = some (.map (some bm))) (hb : w.heap[bm]? = some (.map #[] clock)) : Calls Tryz.prog entriesN #[.pointer (some ⟨b, 0, none⟩)] w fun e w' => e = .returned (.slice none 0 0) ∧ w.grownBy w' none := by
  have hbm : bm < w.heap.size := (Array.getElem?_eq_some_iff.1 hb).1
  have hg : w.grownBy (w.alloc (.mapIter (some bm) clock #[] clock)) none := World.grownBy_alloc w _ none
  have hr1 : (w.alloc (.mapIter (some bm) clock #[] clock)).heap[w.heap.size]? = some (.mapIter (some bm) clock #[] clock) := (MapKept.heap_alloc w _).1
  have hb1 : (w.alloc (.mapIter (some bm) clock #[] clock)).heap[bm]? = some (.map #[] clock) := ((MapKept.heap_alloc w _).2 bm hbm).trans hb
  go_enter Tryz.func33, Tryz.ntmps33
  go_wp2_with (first
    | (at_range; refine wpList_range0 _ rfl _ 87 rfl _ _ Tryz.underlying87 bm #[] clock rfl hb ?_)
    | go_in)
  go_frame
  go_loopw [3] (fun v wr => v = .slice none 0 0 ∧ wr = w.alloc (.mapIter (some bm) clock #[] clock)) (fun _ _ => 0)
  case atStart => exact ⟨rfl, rfl⟩
  case round =>
    obtain ⟨rfl, rfl⟩ := hrel
    have hsort := sort_nil (w.alloc (.mapIter (some bm) clock #[] clock))
    change Calls Tryz.prog 28 _ _ _ at hsort
    go_wp2_with (first
      | (at_next; refine wpList_next0 _ rfl _ rfl bm w.heap.size clock clock clock rfl hr1 hb1 (Nat.le_refl _) ?_)
      | (go_at_call 28; refine hsort.mono ?_; rintro e w' ⟨rfl, hg2⟩)
      | go_in)
    go_ret
    exact ⟨rfl, hg.andThen hg2 (fun j hj => by cases hj)⟩
noncomputable def entriesX (ads : List AD) (H : Hp) (nx : Nat) : Option (RV × Hp × Nat) := match ads with
  | [.one (.ptr s 12 0 0)] => match H s with
    | some ⟨_, 12, [_ :: _ :: _ :: .mp m :: _]⟩ => match H m with
      | some ⟨_, 0, []⟩ => some (.a (.one .nils), H, nx)
      | _ => none
    | _ => none
  | _ => none
theorem ObjAt.map0 {w : World} {ι : Nat → Option Nat} {M : Nat → Prop} {b : Nat} {e : Option Nat} (h : ObjAt w ι M b ⟨e, 0, []⟩) : ∃ clock, w.heap[b]? = some (.map #[] clock) := by
  rcases h with ⟨_, ⟨_, es, clock, hm⟩ | ⟨nt, env, ps, assign, body, busy, jump, hr, _⟩ | ⟨t, n, T, cs, hr, _⟩ | ⟨t, n, T, cs, hr, _⟩⟩ | ⟨T, cs, _, hb⟩
  · have : es = #[] := Array.eq_empty_of_size_eq_zero hm.len
    subst this
    exact ⟨clock, hm.at_⟩
  · cases hr
  · cases hr
  · cases hr
  · exact absurd hb.pos (Nat.lt_irrefl 0)
theorem entries_ok : FnEff Tryz.prog entriesN entriesX := by
  rw [FnEff.iff]
  intro ads H nx r H' nx' hq
  unfold entriesX at hq
  split at hq
  · rename_i s
    split at hq
    · rename_i e d0 d1 d2 m ds hs
      split at hq
      · rename_i em hmm
        have hq := Option.some.inj hq
        obtain ⟨q1, q2⟩ := Prod.mk.inj hq
        obtain ⟨q2, q3⟩ := Prod.mk.inj q2
        subst q1; subst q2; subst q3
        intro w ι M vals hM hok hsz hargs
        obtain ⟨b, hb, ho⟩ := hok.objs _ _ hs
        obtain ⟨bm, hbm, hom⟩ := hok.objs _ _ hmm
        obtain ⟨clock, hmap⟩ := hom.map0
        rcases ho with ⟨h0, _⟩ | ⟨T, cs, hT, hB⟩
        · cases h0
        obtain ⟨v, hv, hrd⟩ := hB.rd 0 3 _ _ rfl rfl
        have hv : cs[3]? = some v := by simpa using hv
        have hv' : v = .map (some bm) := by
          cases hrd with
          | mp _ b' h => rw [hbm] at h; injection h with h; rw [h]
        subst hv'
        obtain ⟨v0, rfl⟩ : ∃ v0, vals = #[v0] := by
          have : vals.size = 1 := hsz
          obtain ⟨l⟩ := vals
          match l, this with
          | [x], _ => exact ⟨x, rfl⟩
        have h0 : Rd w ι M v0 (.ptr s 12 0 0) := hargs 0 v0 _ rfl rfl
        have hv0 : v0 = .pointer (some ⟨b, 0, none⟩) := by
          cases h0 with
          | ptr _ _ _ _ b' h hz => rw [hb] at h; injection h with h; rw [h]
        subst hv0
        have hat : w.heap[b]? = some (.cells cs T (0, 0)) := hB.at_
        have hcell : w.cell? ⟨b, 3, none⟩ = some (.map (some bm)) := by simp [World.cell?, hat, hv]
        refine (entries_empty hcell hmap).mono fun e' w' hp => ?_
        obtain ⟨rfl, hg⟩ := hp
        have same : ∀ k, k < w.heap.size → w'.heap[k]? = w.heap[k]? := fun k hk => hg.block k hk (by simp)
        have ev : Evo (fun _ => False) M w M w' := ⟨hg.os, hg.tape, hg.output, hg.size, fun k hk _ => same k hk, fun _ _ h => h, fun _ _ h => h.elim, .of same⟩
        refine ⟨_, ι, M, rfl, Rd.nils, ⟨hok.new, fun k x hk => ?_, hok.inj, hok.ctl⟩, fun _ _ h => h, ⟨hg.os, hg.tape, hg.output, hg.size, fun k hk _ => same k hk, fun _ _ h => h, fun _ _ h => h.elim, .of same⟩, fun _ h _ => h, fun _ _ h => h, fun b h => Nat.lt_of_lt_of_le (hM b h) hg.size⟩
        obtain ⟨b', h1, h2⟩ := hok.objs k x hk
        exact ⟨b', h1, h2.mono ev (fun _ _ h => h) (same b' (hM b' (hok.ctl k x b' hk h1)))⟩
      · cases hq
    · cases hq
  · cases hq
noncomputable def F33 (ads : List AD) (H : Hp) (nx : Nat) : Option (RV × Hp × Nat) := match entriesX ads H nx with
  | some z => some z
  | none => (evs S3.toSys 200).fn entriesN ads H nx
theorem F33_ok : FnEff Tryz.prog entriesN F33 := by
  rw [FnEff.iff]
  intro ads H nx r H' nx' hq
  unfold F33 at hq
  split at hq
  · rename_i z hz
    injection hq with hq
    subst hq
    exact FnEff.iff.1 entries_ok _ _ _ _ _ _ hz
  · exact (evs_ok S3_ok 200).fn entriesN (by kernel_rfl) _ _ _ _ _ _ hq
end Go.Proofs.YtdapdiaklpcmjaaGreat.Pe
namespace Go.Proofs.YtdapdiaklpcmjaaGreat.Pe
open Go
set_option maxRecDepth 100000
theorem seg_run1 {P : Program} {f : Nat} {K' H : Hp} {sg o n n1 nx j0 d : Nat} {e1 e5 : Option Nat} {t : Tr Nat} {r : RV} {x : PObj} (hrun : RunAt P f [.one (.ptr 1 1 0 0)] (segW e1 e5 t n) 2 r K' n1) (hn1 : 2 + d = n1) (hj : 2 ≤ j0) (hjd : j0 < 2 + d)
    (hK0 : K' 0 = some ⟨e5, 0, [[.wds t n]]⟩) (hK1 : K' 1 = some ⟨e1, 1, [[.ref 0 1 0 n]]⟩) (hKj : K' j0 = some x) {y : PObj} (hxy : ConvO (2 + d) (newNo (fun k => if k = 0 then o else sg) 2 nx) x y) {r' : RV} (hr : ConvR (2 + d) (newNo (fun k => if k = 0 then o else sg) 2 nx) r r')
    (hsg : H sg = some ⟨e1, 1, [[.ref o 1 0 n]]⟩) (ho : H o = some ⟨e5, 0, [[.wds t n]]⟩) (hso : sg < nx) (hoo : o < nx) : RunAt P f [.one (.ptr sg 1 0 0)] H nx r' (updO H (nx + (j0 - 2)) (some y)) (nx + d) := by
  have hne : o ≠ sg := fun e => by subst e; rw [hsg] at ho; cases ho
  refine ren_frame (d := d) (σ := fun k => if k = 0 then o else sg) hrun (fun k hk => ?_) (by omega) (fun k k' x x' h h' e => ?_) (fun k x h => ?_) rfl (fun j a a0 h1 h2 => ?_) (fun j Y h => ?_) hr
  · show (if k = 0 then o else sg) < nx
    split <;> assumption
  · rcases segW_some h with ⟨rfl, _⟩ | ⟨rfl, _⟩ <;> rcases segW_some h' with ⟨rfl, _⟩ | ⟨rfl, _⟩
    · rfl
    · exact absurd e hne
    · exact absurd e.symm hne
    · rfl
  · rcases segW_some h with ⟨rfl, rfl⟩ | ⟨rfl, rfl⟩
    · exact ⟨by omega, _, ho, fun w ι ι' M b hi h => wds_same (.refl _ _) h⟩
    · exact ⟨by omega, _, hsg, fun w ι ι' M b hi h => seg_ref h fun c hc => by rw [hi 0 (by omega)]; exact hc⟩
  · cases j with
    | zero =>
      injection h1 with h1; injection h2 with h2; subst h1; subst h2
      intro w ι ι' M v hi hv
      have hv : Rd w ι M v (.ptr sg 1 0 0) := hv
      cases hv with
      | ptr _ _ _ _ b h hs => exact Rd.ptr 1 1 0 0 _ (by rw [hi 1 (by omega)]; exact h) hs
    | succ j => simp at h1
  · rw [updO_at] at h
    split at h
    · rename_i e; subst e
      injection h with h; subst h
      exact .inl ⟨j0, _, by omega, by unfold newNo; rw [if_neg (by omega)], hKj, hxy⟩
    · by_cases hjo : j = o
      · subst hjo
        rw [ho] at h; injection h with h; subst h
        exact .inl ⟨0, _, by omega, by unfold newNo; rw [if_pos (by omega)]; rfl, hK0, fun w ι ι' M b hi h => wds_same (.refl _ _) h⟩
      · by_cases hjs : j = sg
        · subst hjs
          rw [hsg] at h; injection h with h; subst h
          refine .inl ⟨1, _, by omega, by unfold newNo; rw [if_pos (by omega)]; rfl, hK1, fun w ι ι' M b hi h => seg_ref h fun c hc => ?_⟩
          have := hi 0 (by omega)
          unfold newNo at this
          rw [if_pos (by omega)] at this
          rw [← hc]; exact this
        · refine .inr ⟨h, fun k x hk => ?_⟩
          rcases segW_some hk with ⟨rfl, _⟩ | ⟨rfl, _⟩
          · exact fun e => hjo e.symm
          · exact fun e => hjs e.symm
noncomputable def lookX (ads : List AD) (H : Hp) (nx : Nat) : Option (RV × Hp × Nat) := match ads with
  | [.one (.ptr sg 1 0 0)] => match segX H sg with
    | some q => br (Nat.beq q.2.1 4800) (br (Nat.blt sg nx) (br (Nat.blt q.1 nx) (br (fmtd q.2.2.1) (some (viewR (wordX q.2.2.1 2) (Nat.add nx 206), updO H (Nat.add nx 206) (some (objV (wordX q.2.2.1 2))), Nat.add nx 276)) none) none) none) none
    | none => none
  | _ => none
noncomputable def F18 (ads : List AD) (H : Hp) (nx : Nat) : Option (RV × Hp × Nat) := match lookX ads H nx with
  | some z => some z
  | none => (evs S3.toSys 2000).fn lookN ads H nx
noncomputable def G18 (ads : List AD) (H : Hp) (nx : Nat) (T : TL) : Option ((RV × Hp × Nat) × TL) := match ads with
  | [.one (.ptr sg 1 0 0)] => match segX H sg with
    | some q => br (Nat.beq q.2.1 4800) (br (Nat.blt sg nx) (br (Nat.blt q.1 nx)
        (br (decT (fmtd q.2.2.1) T).1 (some ((viewR (wordX q.2.2.1 2) (Nat.add nx 206), updO H (Nat.add nx 206) (some (objV (wordX q.2.2.1 2))), Nat.add nx 276), (decT (fmtd q.2.2.1) T).2)) ((evt S3 2000).fn lookN [.one (.ptr sg 1 0 0)] H nx (decT (fmtd q.2.2.1) T).2)) none) none) none
    | none => none
  | [.one .nilp] => (evt S3 2000).fn lookN [.one .nilp] H nx T
  | _ => none
noncomputable def bsLk : List (Nat × FnS) := (lookN, .eff F18) :: bsL3
noncomputable def Sk : SysP := { sysOf (mkTr ttL) (mkTr ezL) (mkTr fnL) (mkTr bsLk) with pb := S3.pb }
abbrev awake16N : Nat := 5
noncomputable def bsL5 : List (Nat × FnS) := (awake16N, .eff awX) :: (entriesN, .eff F33) :: bsLk
noncomputable def pbL5 : List (Nat × PF) := (lookN, G18) :: pbL3
noncomputable def S5 : SysP := { sysOf (mkTr ttL) (mkTr ezL) (mkTr fnL) (mkTr bsL5) with pb := pbOf pbL5 }
end Go.Proofs.YtdapdiaklpcmjaaGreat.Pe
