/- A part of the proof of PpD. -/
import Derived.OwnWalk
import Derived.Test.YtapdaefpkddioaaGreatCe43
import Derived.Test.YtapdaefpkddioaaGreatCe44
import Derived.Test.YtapdaefpkddioaaGreatCe45
import Derived.Test.YtapdaefpkddioaaGreatCe46
import Derived.Test.YtapdaefpkddioaaGreatCe39
set_option linter.unusedSimpArgs false
set_option linter.unusedVariables false
set_option linter.unusedSectionVars false
namespace Go.Proofs.YtapdaefpkddioaaGreat.Pe
open Go Go.RowKit
set_option maxHeartbeats 4000000
theorem infoI : (Tryz.prog.info? 3).map (fun i => (i.zero, i.size, i.bytes)) = some (some (.int .i64 0), 1, 8) := by kernel_rfl
theorem liveV_snoc {L : List Bool} {k : Nat} : liveV L (k + 1) = liveV L k ++ (if L[k]?.getD false then [(k : Int)] else []) := rfl
set_option maxRecDepth 100000 in
theorem live_walk {w : World} {b : Nat} {l0 l1 l2 l3 l4 l5 l6 l7 : Bool} (h0 : w.cell? ⟨b, 4, none⟩ = some (.bool l0)) (h1 : w.cell? ⟨b, 5, none⟩ = some (.bool l1)) (h2 : w.cell? ⟨b, 6, none⟩ = some (.bool l2)) (h3 : w.cell? ⟨b, 7, none⟩ = some (.bool l3))
  (h4 : w.cell? ⟨b, 8, none⟩ = some (.bool l4)) (h5 : w.cell? ⟨b, 9, none⟩ = some (.bool l5)) (h6 : w.cell? ⟨b, 10, none⟩ = some (.bool l6)) (h7 : w.cell? ⟨b, 11, none⟩ = some (.bool l7)) :
  Calls Tryz.prog 17 #[.pointer (some ⟨b, 0, none⟩)] w fun e w' => ∃ v, e = .returned v ∧ Below w.heap.size w w' ∧
   w'.ownsRow w.heap.size 3 1 v (liveV [l0, l1, l2, l3, l4, l5, l6, l7] 8).length ((liveV [l0, l1, l2, l3, l4, l5, l6, l7] 8).map (Value.int .i64)) := by
 obtain ⟨i0, hi, hz0, hz1, hz2⟩ := info_parts infoI
 have hx : ∀ (k : Nat) (W : World), k < 8 → (Instr.index 34 (.agg #[.bool l0, .bool l1, .bool l2, .bool l3, .bool l4, .bool l5, .bool l6, .bool l7]) (.int .i64 k)).run Tryz.prog W = .ok (.bool ([l0, l1, l2, l3, l4, l5, l6, l7][k]?.getD false)) W := by
  intro k W hk
  rcases (show k = 0 ∨ k = 1 ∨ k = 2 ∨ k = 3 ∨ k = 4 ∨ k = 5 ∨ k = 6 ∨ k = 7 from by omega) with rfl | rfl | rfl | rfl | rfl | rfl | rfl | rfl <;> kernel_rfl
 generalize hL : [l0, l1, l2, l3, l4, l5, l6, l7] = L at hx ⊢
 go_enter Tryz.func17, Tryz.ntmps17
 go_wp2
 clear h0 h1 h2 h3 h4 h5 h6 h7
 generalize hA : Value.agg #[.bool l0, .bool l1, .bool l2, .bool l3, .bool l4, .bool l5, .bool l6, .bool l7] = A at hx ⊢
 clear hL hA
 go_loopw [3, 12] (fun v i wr => ∃ k : Nat, k ≤ 8 ∧ i = .int .i64 k ∧ wr.ownsRow w.heap.size 3 1 v (liveV L k).length ((liveV L k).map (Value.int .i64)) ∧ Below w.heap.size w wr) (fun _ i _ => 8 - (intOf i).toNat)
 case atStart => exact ⟨0, by omega, rfl, World.ownsRow_nil _ _ _ _, Below.refl _ _⟩
 case round =>
  obtain ⟨k, hk, rfl, hown, hb⟩ := hrel
  have hsize := hb.size
  have hlen := liveV_len L k
  by_cases h8 : k = 8
  ·subst h8
   have HO : Hid (wr.ownsRow w.heap.size 3 1 u3 (liveV L 8).length ((liveV L 8).map (Value.int .i64))) := hown
   have HB : Hid (Below w.heap.size w wr) := hb
   clear hown hb hx
   go_wp2
   go_ret
   refine ⟨u3, ?_, HB.out, HO.out⟩
   rfl
  ·have hxk := fun W => hx k W (by omega)
   clear hx
   have hkb : (k : Int) < 8 := by omega
   cases hv : L[k]?.getD false with
   | true =>
    rw [hv] at hxk
    have hst : liveV L (k + 1) = liveV L k ++ [(k : Int)] := by rw [liveV_snoc, hv]; rfl
    go_wp2_with (first
     | (at_builtin; refine wpList_append_own_at _ rfl _ _ 59 rfl w.heap.size 3 i0 (.int .i64 0) 1 8 Tryz.underlying59 hi hz0 hz1 hz2 rfl (by decide) _ _ _ rfl (hown.alloc _) ⟨wr.heap.size, 0, none⟩ 1 1 [.int .i64 k] rfl rfl ?c1 ?c2 ?c3 ?c4 ?c5 ?_)
     | go_in)
    case c1 =>
     intro j u hj
     match j, hj with
     | 0, hj => simp at hj; subst hj; simp [Addr.add]
     | j + 1, hj => simp at hj
    case c2 => intro u hu; simp at hu; subst hu; rfl
    case c3 => unfold maxLen; omega
    case c4 => omega
    case c5 => first | omega | (simp; omega)
    ·intro v' w4 hown' hgrow _ hloc
     have hrow3 := hown.alloc (.cells #[.int .i64 k] 3)
     have HB4 : Hid (Below w.heap.size w w4) := (hb.alloc hsize (.cells #[.int .i64 k] 3)).grown hgrow (by simp; omega) (fun q hq => (hrow3.lt q hq).1)
     have HO4 : Hid (w4.ownsRow w.heap.size 3 1 v' (liveV L (k + 1)).length ((liveV L (k + 1)).map (Value.int .i64))) := by
      show w4.ownsRow _ _ _ _ _ _
      rw [hst, List.map_append, List.length_append]; exact hown'
     clear hown' hgrow hloc hown hrow3 hb hxk
     go_wp2
     go_roundw
     case rel => exact ⟨k + 1, by omega, by simp, HO4.out, HB4.out⟩
     case measure => simp [intOf]; omega
   | false =>
    rw [hv] at hxk
    have hst : liveV L (k + 1) = liveV L k := by rw [liveV_snoc, hv]; simp
    have HO : Hid (wr.ownsRow w.heap.size 3 1 u3 (liveV L (k + 1)).length ((liveV L (k + 1)).map (Value.int .i64))) := by
     show wr.ownsRow _ _ _ _ _ _
     rw [hst]; exact hown
    have HB : Hid (Below w.heap.size w wr) := hb
    clear hown hb
    go_wp2
    go_roundw
    case rel => exact ⟨k + 1, by omega, by simp, HO.out, HB.out⟩
    case measure => simp [intOf]; omega
theorem rowI_rd {w : World} {ι : Nat → Option Nat} {M : Nat → Prop} {xs : List Int} {base : Nat} {v : Value} (h : w.ownsRow base 3 1 v xs.length (xs.map (Value.int .i64))) (hM : ∀ b, M b → b < base) : Rd w ι M v (.sl (rowsI xs)) := by
 rcases h.2 with ⟨rfl, h0⟩ | ⟨g, cap, cur, rfl, hg, hh, hn, hc, hs, ht⟩
 ·have : xs = [] := List.eq_nil_of_length_eq_zero h0
  subst this
  exact .nil _ _
 ·by_cases hxs : xs.length = 0
  ·have : xs = [] := List.eq_nil_of_length_eq_zero hxs
   subst this
   exact .nil _ _
  ·refine .sl _ _ _ 1 (rowsI xs) (fun i _ => .int .i64 (xs[i]?.getD 0)) (rowsI_len xs) (by omega) hn (by decide) (by simp [rowsI]) rfl (fun hm => by have := hM _ hm; simp only at this; omega) (fun i j hi hj => ?_) (fun i j r d hr hd => ?_)
   ·have hj0 : j = 0 := by omega
    subst hj0
    rw [addr_add rfl, show 0 + (i * 1 + 0) = i by omega]
    have h1 : cur[i]? = some (Value.int .i64 (xs[i]?.getD 0)) := by
     have h2 : (cur.toList.take (xs.length * 1))[i]? = some (Value.int .i64 xs[i]) := by rw [ht]; simp [hi]
     rw [List.getElem?_take_of_lt (by omega), Array.getElem?_toList] at h2
     rw [h2, List.getElem?_eq_getElem hi]; rfl
    simp [World.cell?, hh, h1]
   ·have hi : i < xs.length := by
     have := (List.getElem?_eq_some_iff.1 hr).1
     rw [rowsI_len] at this; exact this
    rw [rowsI_get' xs i hi] at hr
    injection hr with hr
    subst hr
    cases j with
    | zero => simp at hd; subst hd; rw [List.getElem?_eq_getElem hi]; exact .int _ _
    | succ j => simp at hd
open Classical in
noncomputable def liveMF : List AD → Hp → Nat → Option (RV × Hp × Nat) := fun l H nx =>
 if h : ∃ x : Nat × List Bool, l = [.one (.ptr x.1 12 0 0)] ∧ (∃ a f bd mp, x.2.length = 8 ∧ H x.1 = topO a f bd mp x.2) then
  some (.a (.one (.sl (rowsI (liveV (Classical.choose h).2 8)))), H, nx) else none
theorem liveMF_eq {S nx : Nat} {H : Hp} {a f bd mp : D} {live : List Bool} (h8 : live.length = 8) (hS : H S = topO a f bd mp live) :
  liveMF [.one (.ptr S 12 0 0)] H nx = some (.a (.one (.sl (rowsI (liveV live 8)))), H, nx) := by
 have hx : ∃ x : Nat × List Bool, [AD.one (.ptr S 12 0 0)] = [.one (.ptr x.1 12 0 0)] ∧ (∃ a f bd mp, x.2.length = 8 ∧ H x.1 = topO a f bd mp x.2) := ⟨(S, live), rfl, a, f, bd, mp, h8, hS⟩
 unfold liveMF
 rw [dif_pos hx]
 have sp := Classical.choose_spec hx
 generalize Classical.choose hx = x at sp ⊢
 obtain ⟨h1, a', f', bd', mp', h8', h2⟩ := sp
 simp only [List.cons.injEq, AD.one.injEq, D.ptr.injEq, true_and, and_true] at h1
 rw [← h1, hS] at h2
 simp only [topO, topR, Option.some.injEq, PObj.mk.injEq, List.cons.injEq, true_and, and_true] at h2
 have hr : rowsO live = rowsO x.2 := h2.2.2.2.2
 have : live = x.2 := by
  unfold rowsO at hr
  exact (List.map_inj_right (fun p q e => by simpa using e)).1 hr
 rw [← this]
theorem len8b {l : List Bool} (h : l.length = 8) : ∃ a b c d e f g i, l = [a, b, c, d, e, f, g, i] := by
 match l, h with
 | [a, b, c, d, e, f, g, i], _ => exact ⟨a, b, c, d, e, f, g, i, rfl⟩
theorem liveM_ok : FnEff Tryz.prog 17 liveMF := by
 intro l0 H nx r H' nx' hF w ι M vals hlt hok hsz hvals
 unfold liveMF at hF
 split at hF
 case isFalse => cases hF
 rename_i hx
 have sp := Classical.choose_spec hx
 generalize Classical.choose hx = x at sp hF
 obtain ⟨S, live⟩ := x
 obtain ⟨rfl, a, f, bd, mp, h8, hS⟩ := sp
 simp only at hS h8
 simp only [Option.some.injEq, Prod.mk.injEq] at hF
 obtain ⟨rfl, rfl, rfl⟩ := hF
 have hv2 : vals.size = 1 := hsz
 obtain ⟨v0, rfl⟩ : ∃ v0, vals = #[v0] := by
  obtain ⟨l⟩ := vals
  match l, hv2 with
  | [v0], _ => exact ⟨v0, rfl⟩
 have r0 : Rd w ι M v0 (.ptr S 12 0 0) := hvals 0 v0 _ rfl rfl
 have hp0 : ∃ b, ι S = some b ∧ v0 = .pointer (some ⟨b, 0, none⟩) := by
  cases r0 with
  | ptr _ _ _ _ b h hsz => exact ⟨b, h, by simp⟩
 obtain ⟨b, hb, rfl⟩ := hp0
 obtain ⟨b', hb', ob⟩ := hok.objs S _ hS
 rw [hb] at hb'
 injection hb' with hb'
 subst hb'
 obtain ⟨T, cs, _, bk⟩ := ob.blk (show 0 < 12 by omega)
 have cell : ∀ j x, (topR a f bd mp live)[j]? = some (.bool x) → w.cell? ⟨b, j, none⟩ = some (.bool x) := by
  intro j x hj
  obtain ⟨u, hu1, hu2⟩ := bk.rd 0 j (topR a f bd mp live) (.bool x) rfl hj
  have : u = .bool x := by cases hu2; rfl
  subst this
  simp only [Nat.zero_mul, Nat.zero_add] at hu1
  simp [World.cell?, bk.at_, hu1]
 obtain ⟨l0, l1, l2, l3, l4, l5, l6, l7, rfl⟩ := len8b h8
 refine (live_walk (cell 4 l0 rfl) (cell 5 l1 rfl) (cell 6 l2 rfl) (cell 7 l3 rfl) (cell 8 l4 rfl) (cell 9 l5 rfl) (cell 10 l6 rfl) (cell 11 l7 rfl)).mono ?_
 rintro e w' ⟨v, rfl, hbl, hrow⟩
 have hs : ∀ k, k < w.heap.size → w'.heap[k]? = w.heap[k]? := hbl.block
 have hev : ∀ X : Nat → Prop, Evo X M w M w' := fun X => ⟨hbl.os, hbl.tape, hbl.output, hbl.size, fun k hk _ => hs k hk, fun _ _ h => h, fun k hk _ => hs k hk, .of hs⟩
 refine ⟨_, ι, M, rfl, rowI_rd hrow hlt, ⟨hok.new, fun o ob ho => ?_, hok.inj, hok.ctl⟩, fun _ _ h => h, ?_, fun b hb _ => hb, fun _ _ h => h, fun b hb => Nat.lt_of_lt_of_le (hlt b hb) hbl.size⟩
 ·obtain ⟨bo, h1, h2⟩ := hok.objs o ob ho
  exact ⟨bo, h1, h2.mono (hev (fun _ => False)) (fun _ _ h => h) (hs bo (hlt bo (hok.ctl o ob bo ho h1)))⟩
 ·exact ⟨hbl.os, hbl.tape, hbl.output, hbl.size, fun k hk _ => hs k hk, fun _ _ h => h, fun k hk _ => hs k hk, .of hs⟩
noncomputable def Cx1018 : (Nat → Prop) → Ctx := fun X => { nt := 9, tt := tt, fns := ofList [], keep := keep18, X := X, eqs := fun t => t == 25 || t == 46 }
noncomputable def sizeT : List AD → Hp → Nat → Option (RV × Hp × Nat) := semT Tryz.f18 Cx1018 Tryz.f18.results
theorem size_ok : FnEff Tryz.prog 18 sizeT := semT_ok mixed Tryz.func18 rfl (fun X => ok_of (l := []) tt_ok trivial eqsOk) (fun _ => rfl) (fun _ => rfl) (by decide) rfl
theorem size_run {K : Nat} {s : St} {S B M : Nat} {ml : List Mb} {H : Hp} {nx : Nat} (h : Ms K s S B M ml H nx) : sizeT [.one (.ptr S 12 0 0)] H nx = some (.a (.one (.int .u64 s.h.fin)), H, nx) := by
 have h8 := h.wk.lv8
 have hlo := rowsO_len s.live
 have hS := h.hs.top
 unfold sizeT
 rw [Tryz.results18]
 refine semT_eq rfl (by simp [Tryz.ntmps18]) fun X R hR => ?_
 unfold Cx1018 at hR ⊢
 (repeat ((try simp only [cZ]); with_reducible refine cg fun K hK => ?_; simp only [go_sem]; (repeat refine ck ?_); (try simp (disch := omega) only [wZ]); refine hK _ ?_; clear hK K))
 (((try simp only [cZ]); refine cl_cond (b := false) rfl (fun h => nomatch h) (fun _ => ?_)))
 (repeat ((try simp only [cZ]); with_reducible refine cg fun K hK => ?_; simp only [go_sem, hS, hlo, h8]; (repeat refine ck ?_); (try simp (disch := omega) only [wZ]); refine hK _ ?_; clear hK K))
 (((try simp only [cZ]); (try simp only [cl_ret]); refine hR _ _ (.inr rfl) ?_; (simp only [go_sem])))
end Go.Proofs.YtapdaefpkddioaaGreat.Pe
namespace Go.Proofs.YtapdaefpkddioaaGreat.Pe
open Go
set_option maxHeartbeats 4000000
noncomputable def Cx1010 : (Nat → Prop) → Ctx := fun X => { nt := 93, tt := tt, fns := ofList [(15, .eff blocksT), (23, .pure blocksRF), (16, .eff entriesMF), (24, .pure entF), (18, .eff sizeT), (17, .eff liveMF), (26, .pure liveF), (25, .pure intsF), (27, .pure madeF)], keep := keep10, X := X, eqs := fun t => t == 25 || t == 46 }
noncomputable def sameT : List AD → Hp → Nat → Option (RV × Hp × Nat) := semT Tryz.f10 Cx1010 Tryz.f10.results
theorem same_ok : FnEff Tryz.prog 10 sameT := semT_ok mixed Tryz.func10 rfl (fun X => ok_of (l := [(15, .eff blocksT), (23, .pure blocksRF), (16, .eff entriesMF), (24, .pure entF), (18, .eff sizeT), (17, .eff liveMF), (26, .pure liveF), (25, .pure intsF), (27, .pure madeF)]) tt_ok ⟨blocksT_ok, by kernel_rfl, blocksR_ok, by kernel_rfl, entriesM_ok, by kernel_rfl, ent_ok, by kernel_rfl, size_ok, by kernel_rfl, liveM_ok, by kernel_rfl, live_ok, by kernel_rfl, ints_ok, by kernel_rfl, made_ok, by kernel_rfl, trivial⟩ eqsOk) (fun _ => rfl) (fun _ => rfl) (by decide) rfl
theorem valB_sm' {s : St} (w : s.Wk) (b : Bk) : Sm (valB s b) := by
 unfold valB Sm
 split
 ·exact dataV_len w _
 ·simp
theorem same_run {K : Nat} {s : St} {S B M : Nat} {ml : List Mb} {H : Hp} {nx : Nat} (h : Ms K s S B M ml H nx) : sameT [.one (.ptr S 12 0 0), .many s.c] H nx = some (.a (.one (.bool true)), H, nx) := by
 have h8 := h.wk.lv8
 have h8' := h.wk.sh.ls8
 have hb := blocks_run h
 have hbr := blocksRF_eq h.wk
 have he := entriesMF_eq (nx := nx) h8 h.hs.top h.mp (by have := h.nm.le; omega) h.nameU h.nm.nn
 have her := entF_eq h.wk
 have hs := size_run h
 have hl := liveMF_eq (nx := nx) h8 h.hs.top
 have hlr := liveF_eq h.wk.sh
 have hsm : Sm (liveV s.live 8) := by have := liveV_len s.live 8; unfold Sm; omega
 have hi := intsF_eq hsm hsm
 have hvl : (viewV s).length ≤ 22000 := by unfold viewV; rw [List.length_map]; exact h.wk.hi.len
 have hvs : ∀ x ∈ viewV s, Sm x.v := by
  intro x hx
  obtain ⟨b, _, rfl⟩ := List.mem_map.1 hx
  exact valB_sm' h.wk b
 have hel : (entV s.names).length ≤ 1000 := by rw [entV_len]; have := h.nm.le; omega
 unfold sameT
 rw [Tryz.results10]
 refine semT_eq rfl (by simp [Tryz.ntmps10]) fun X R hR => ?_
 unfold Cx1010 at hR ⊢
 simp only [St.c, stc] at hbr her hlr
 simp only [St.c, stc]
 generalize viewV s = bv at *
 generalize entV s.names = en at *
 generalize liveV s.live 8 = lv at *
 simp only [decide_true] at hi
 (repeat ((try simp only [cZ]); with_reducible refine cg fun K hK => ?_; simp only [go_sem, h8, h8', hb, hbr, he, her, hs, hl, hlr, hi, bne_self_eq_false]; (repeat refine ck ?_); (try simp (disch := omega) only [wZ]); refine hK _ ?_; clear hK K))
 (((try simp only [cZ]); refine cl_cond (b := false) rfl (fun h => nomatch h) (fun _ => ?_)))
 (repeat ((try simp only [cZ]); with_reducible refine cg fun K hK => ?_; simp only [go_sem]; (repeat refine ck ?_); (try simp (disch := omega) only [wZ]); refine hK _ ?_; clear hK K))
 (((try simp only [cZ]); refine cl_block fun K hK1 R hR1 X hX1 => ?_))
 refine cl_loop (fun E n => ∃ i : Nat, i ≤ bv.length ∧ n = bv.length - i ∧ E = mk [(1000000, .heap H nx), (9, .v (.one (.int .i64 i))), (5, .v (.one (.sl (rowsVb bv)))), (6, .v (.one (.sl (rowsVb bv)))), (7, .v (.one (.sl (rowsE en)))), (8, .v (.one (.sl (rowsE en))))]) bv.length ⟨0, by omega, by omega, rfl⟩ ?_
 ·rintro E n ⟨i, hi', rfl, rfl⟩ J hJ R2 hR2 X2 hX2
  (repeat ((try simp only [cZ]); with_reducible refine cg fun K hK => ?_; simp only [go_sem]; (repeat refine ck ?_); (try simp (disch := omega) only [wZ]); refine hK _ ?_; clear hK K))
  (((try simp only [cZ]); refine cl_cond rfl (fun hc => ?_) (fun hc => ?_)))
  ·simp only [decide_eq_true_eq, Int.ofNat_lt] at hc
   have hmd := madeF_eq (hvs _ (List.getElem_mem hc))
   generalize hx : bv[i] = x at *
   simp only [Vb.c] at hmd
   (((try simp only [cZ]); refine cl_block fun K hK3 R hR3 X hX3 => ?_))
   (repeat ((try simp only [cZ]); with_reducible refine cg fun K hK => ?_; simp only [go_sem, hc, hx, Vb.c, hmd]; (repeat refine ck ?_); (try simp (disch := omega) only [wZ]); refine hK _ ?_; clear hK K))
   (((try simp only [cZ]); refine cl_cond (b := false) rfl (fun h => nomatch h) (fun _ => ?_)))
   ((try simp only [cZ, cl_exit, cl_nil]))
   refine hK3 _ ?_
   (repeat ((try simp only [cZ]); with_reducible refine cg fun K hK => ?_; simp only [go_sem, wrapi64 (n := (i : Int) + 1) (by omega) (by omega)]; (repeat refine ck ?_); (try simp (disch := omega) only [wZ]); refine hK _ ?_; clear hK K))
   ((try simp only [cZ, cl_exit, cl_nil]))
   exact hJ _ (bv.length - (i + 1)) (by omega) ⟨i + 1, by omega, rfl, rfl⟩
  ·simp only [decide_eq_false_iff_not, Int.ofNat_lt] at hc
   ((try simp only [cZ, cl_exit, cl_nil]))
   refine hX2 0 _ (hK1 _ ?_)
   (repeat ((try simp only [cZ]); with_reducible refine cg fun K hK => ?_; simp only [go_sem]; (repeat refine ck ?_); (try simp (disch := omega) only [wZ]); refine hK _ ?_; clear hK K))
   (((try simp only [cZ]); refine cl_block fun K hL1 R hS1 X hY1 => ?_))
   refine cl_loop (fun E n => ∃ i : Nat, i ≤ en.length ∧ n = en.length - i ∧ E = mk [(1000000, .heap H nx), (10, .v (.one (.int .i64 i))), (7, .v (.one (.sl (rowsE en)))), (8, .v (.one (.sl (rowsE en))))]) en.length ⟨0, by omega, by omega, rfl⟩ ?_
   rintro E n ⟨k, hk, rfl, rfl⟩ J' hJ' R3 hR3' X3 hX3'
   (repeat ((try simp only [cZ]); with_reducible refine cg fun K hK => ?_; simp only [go_sem]; (repeat refine ck ?_); (try simp (disch := omega) only [wZ]); refine hK _ ?_; clear hK K))
   (((try simp only [cZ]); refine cl_cond rfl (fun hd => ?_) (fun hd => ?_)))
   ·simp only [decide_eq_true_eq, Int.ofNat_lt] at hd
    generalize hy : en[k] = y at *
    (((try simp only [cZ]); refine cl_block fun K hL3 R hS3 X hY3 => ?_))
    (repeat ((try simp only [cZ]); with_reducible refine cg fun K hK => ?_; simp only [go_sem, hd, hy, En.c, strD, bne_self_eq_false, beq_self_eq_true]; (repeat refine ck ?_); (try simp (disch := omega) only [wZ]); refine hK _ ?_; clear hK K))
    (((try simp only [cZ]); refine cl_cond (b := false) rfl (fun h => nomatch h) (fun _ => ?_)))
    ((try simp only [cZ, cl_exit, cl_nil]))
    refine hL3 _ ?_
    (repeat ((try simp only [cZ]); with_reducible refine cg fun K hK => ?_; simp only [go_sem, wrapi64 (n := (k : Int) + 1) (by omega) (by omega)]; (repeat refine ck ?_); (try simp (disch := omega) only [wZ]); refine hK _ ?_; clear hK K))
    ((try simp only [cZ, cl_exit, cl_nil]))
    exact hJ' _ (en.length - (k + 1)) (by omega) ⟨k + 1, by omega, rfl, rfl⟩
   ·((try simp only [cZ, cl_exit, cl_nil]))
    refine hX3' 2 _ (hL1 _ ?_)
    (repeat ((try simp only [cZ]); with_reducible refine cg fun K hK => ?_; simp only [go_sem]; (repeat refine ck ?_); (try simp (disch := omega) only [wZ]); refine hK _ ?_; clear hK K))
    (((try simp only [cZ]); (try simp only [cl_ret]); refine hR _ _ (.inr rfl) ?_; (simp only [go_sem])))
end Go.Proofs.YtapdaefpkddioaaGreat.Pe
