/- A part of the proof of PmD. -/
import Derived.Test.YtapdaefpkddioaaGreatCb25
set_option linter.unusedSimpArgs false
set_option linter.unusedVariables false
set_option linter.unusedSectionVars false
namespace Go.Proofs.YtapdaefpkddioaaGreat.Pe
open Go
set_option maxHeartbeats 2000000
theorem dr18 (ls : List (List Int)) (W E : D) (live : List Bool) (h : ls.length = 8) (h2 : live.length = 8) : List.drop 18 (rowsL ls ++ W :: E :: rowsO live) = [] := by
  apply List.drop_of_length_le
  simp [rowsL_len, rowsO_len, h, h2]
attribute [go_sem] dr18
theorem freeHV_fin (h : Hpp) (p : Int) : (freeHV h p).1.fin = h.fin := by
  unfold freeHV
  split
  · rfl
  · split <;> rfl
theorem freedV_wk {s : St} (w : s.Wk) (off : Int) : (freedV s off).Wk where
  hi := freeHV_inv w.hi off
  lv8 := w.lv8
  fin1 := by show (freeHV s.h off).1.fin ≤ _; rw [freeHV_fin]; exact w.fin1
  all0 := w.all0
  all1 := w.all1
  dl := Nat.le_trans (dropV_len s.data off) w.dl
  ds := fun x hx => w.ds x (List.mem_filter.1 hx).1
  nl := w.nl
def freedAll (s : St) (l : List Int) : St := l.foldl (fun s x => freedV s (x + 32)) s
theorem freedAll_wk : ∀ (l : List Int) {s : St}, s.Wk → (freedAll s l).Wk
  | [], _, w => w
  | x :: l, _, w => freedAll_wk l (freedV_wk w (x + 32))
theorem freedAll_take (s : St) (l : List Int) (i : Nat) (h : i < l.length) : freedAll s (l.take (i + 1)) = freedV (freedAll s (l.take i)) (l[i] + 32) := by
  rw [take_one l i h]; unfold freedAll; rw [List.foldl_append]; rfl
def killV (s : St) (c : Int) : St :=
  if c < 0 ∨ 7 < c then s else
  let t := freedAll s (s.h.ls[c.toNat]?.getD [])
  { t with live := t.live.set c.toNat false }
noncomputable def killF : List AD → Option RV := byEnc encSI (fun x => x.1.1.Wk) fun x => .a (.many (killV x.1.1 x.2).c)
theorem killF_eq {s : St} {c : Int} (hs : s.Wk) : killF [.many s.c, .one (.int .i64 c)] = some (.a (.many (killV s c).c)) := byEnc_eq (x := (⟨s, hs.sh⟩, c)) encSI_inj hs
theorem Hpp.Inv.list_off {h : Hpp} (v : h.Inv) {k : Nat} (hk : k < h.ls.length) {x : Int} (hx : x ∈ h.ls[k]) : 0 ≤ x ∧ x ≤ h.fin := by
  obtain ⟨b, hb, _, _, rfl⟩ := ((v.own k hk).mem x).1 hx
  have m := v.mem hb
  have := (v.bs b hb).size0
  omega
theorem kill_ok : FnPure Tryz.prog 14 killF := by
  (refine fn_pure' (f := 14) mixed Tryz.func14 rfl (fun X => { nt := 36, tt := tt, fns := ofList ([(46, .pure freedF)]), keep := keep14, X := X }) (fun X => ok_of tt_ok (⟨freed_ok, by kernel_rfl, trivial⟩) (noEqs _)) (fun _ => rfl) (fun _ => rfl) (by decide) Tryz.results14 killF ?_)
  intro l r hq
  obtain ⟨⟨⟨s, hsh⟩, c⟩, rfl, hs, hr⟩ := byEnc_some hq
  clear hq
  simp only at hs hr
  have h1 := hs.sh.ls8
  have h2 := hs.lv8
  unfold killV at hr
  refine ⟨by simp [encSI, Tryz.ntmps14], fun X nx R hR => ?_⟩
  simp only [encSI, St.c, stc]
  (repeat ((try simp only [cl_seq, cl_skip]); with_reducible refine cg fun K hK => ?_; (simp (maxSteps := 1000000) only [go_sem]); (repeat refine ck ?_); (try simp (disch := omega) only [wrap64, wrapi64]); refine hK _ ?_; clear hK K))
  by_cases hbad : c < 0 ∨ 7 < c
  · rw [if_pos hbad] at hr
    (((try simp only [cl_seq, cl_skip]); refine cl_reg_b (g := ?g112) (t := ?t112) (L := ?L112) ((decide (c < 0) || decide (7 < c))) (fun K hK => ?h1112) ?h2112; case' h1112 => (simp (maxSteps := 1000000) only [go_sem]); (repeat refine ck ?_); (repeat' (((refine ite_split (fun hb => ?_) (fun hb => ?_) <;> ((try (simp (maxSteps := 1000000) only [go_sem, hb])); (repeat refine ck ?_)))))); all_goals (first | ((try simp (disch := omega) only [wrap64, wrapi64]); refine hK _ ?_; clear hK K; first | rfl | grind | skip) | skip)))
    all_goals try (simp only [*, Bool.false_or, Bool.true_or]; done)
    (((try simp only [cl_seq, cl_skip]); refine cl_cond rfl (fun hc => ?_) (fun hc => ?_)))
    · (repeat ((try simp only [cl_seq, cl_skip]); with_reducible refine cg fun K hK => ?_; (simp (maxSteps := 1000000) only [go_sem, h1, h2]); (repeat refine ck ?_); (try simp (disch := omega) only [wrap64, wrapi64]); refine hK _ ?_; clear hK K))
      (((try simp only [cl_seq, cl_skip]); (try simp only [cl_ret]); refine hR _ _ (.inr rfl) ?_; (simp (maxSteps := 1000000) only [go_sem, h1, h2])))
      rw [hr]; rfl
    · exact absurd hc (by simp; omega)
  · rw [if_neg hbad] at hr
    have hk : c.toNat < 8 := by omega
    have hk' : c.toNat < s.live.length := by omega
    have hk2 : c.toNat < s.h.ls.length := by omega
    rw [List.getElem?_eq_getElem hk2, Option.getD_some] at hr
    have hll := hs.hi.lsm _ (List.getElem_mem hk2)
    have hoff : ∀ x ∈ s.h.ls[c.toNat], _ := fun x hx => hs.hi.list_off hk2 hx
    have f1 := hs.fin1
    generalize hL : s.h.ls[c.toNat] = L at *
    (repeat ((try simp only [cl_seq, cl_skip]); with_reducible refine cg fun K hK => ?_; (simp (maxSteps := 1000000) only [go_sem, show ¬ c < 0 by omega, show ¬ 7 < c by omega]); (repeat refine ck ?_); (try simp (disch := omega) only [wrap64, wrapi64]); refine hK _ ?_; clear hK K))
    (((try simp only [cl_seq, cl_skip]); refine cl_cond (b := false) rfl (fun h => nomatch h) (fun _ => ?_)))
    (repeat ((try simp only [cl_seq, cl_skip]); with_reducible refine cg fun K hK => ?_; (simp (maxSteps := 1000000) only [go_sem, h1, h2, hk, hk2, hL, show 0 ≤ c by omega, show c < 8 by omega]); (repeat refine ck ?_); (try simp (disch := omega) only [wrap64, wrapi64]); refine hK _ ?_; clear hK K))
    (((try simp only [cl_seq, cl_skip]); refine cl_block fun K hK1 R hR1 X hX1 => ?_))
    refine cl_loop (fun E n => ∃ (i : Nat) (t : St), i ≤ L.length ∧ n = L.length - i ∧ t = freedAll s (L.take i) ∧ E = mk [(1000000, .heap (fun _ => none) nx), (6, .v (.one (.int .i64 i))), (1, .v (.one (.int .i64 c))), (2, .box 0 t.c), (4, .box 0 [D.int IntKind.u64 0, D.int IntKind.u64 0, D.sl [], D.sl [], D.sl [], D.sl [], D.sl [], D.sl [], D.sl [], D.sl [], D.sl [], D.sl [], D.sl [], D.bool false, D.bool false, D.bool false, D.bool false, D.bool false, D.bool false, D.bool false, D.bool false]), (5, .v (.one (.sl (rowsN L))))]) L.length ⟨0, s, by omega, by omega, rfl, ?_⟩ ?_
    · rfl
    rintro E n ⟨i, t, hi, rfl, ht, rfl⟩ J hJ R2 hR2 X2 hX2
    have hw : t.Wk := by rw [ht]; exact freedAll_wk _ hs
    have t1 := hw.sh.ls8
    have t2 := hw.lv8
    (repeat ((try simp only [cl_seq, cl_skip]); with_reducible refine cg fun K hK => ?_; (simp (maxSteps := 1000000) only [go_sem]); (repeat refine ck ?_); (try simp (disch := omega) only [wrap64, wrapi64]); refine hK _ ?_; clear hK K))
    (((try simp only [cl_seq, cl_skip]); refine cl_cond rfl (fun hc => ?_) (fun hc => ?_)))
    · simp only [decide_eq_true_eq, Int.ofNat_lt] at hc
      have ho := hoff _ (List.getElem_mem hc)
      have hfe := freedF_eq (off := L[i] + 32) hw
      have hst := freedAll_take s L i hc
      rw [← ht] at hst
      have hf8 : (freedV t (L[i] + 32)).h.ls.length = 8 := (freeHV_inv hw.hi _).eight
      have hfl : (freedV t (L[i] + 32)).live.length = 8 := t2
      generalize freedV t (L[i] + 32) = t' at *
      simp only [St.c, stc] at hfe
      (((try simp only [cl_seq, cl_skip]); refine cl_block fun K hK3 R hR3 X hX3 => ?_))
      simp only [St.c, stc]
      (repeat ((try simp only [cl_seq, cl_skip]); with_reducible refine cg fun K hK => ?_; (simp (maxSteps := 1000000) only [go_sem, t1, t2, hc, hfe, hf8, hfl, wrap64 (n := L[i] + 32) (by omega) (by omega)]); (repeat refine ck ?_); (try simp (disch := omega) only [wrap64, wrapi64]); refine hK _ ?_; clear hK K))
      ((try simp only [cl_seq, cl_skip, cl_exit, cl_nil]))
      refine hK3 _ ?_
      (repeat ((try simp only [cl_seq, cl_skip]); with_reducible refine cg fun K hK => ?_; (simp (maxSteps := 1000000) only [go_sem, wrapi64 (n := (i : Int) + 1) (by omega) (by omega)]); (repeat refine ck ?_); (try simp (disch := omega) only [wrap64, wrapi64]); refine hK _ ?_; clear hK K))
      ((try simp only [cl_seq, cl_skip, cl_exit, cl_nil]))
      refine hJ _ (L.length - (i + 1)) (by omega) ⟨i + 1, t', by omega, rfl, hst.symm, ?_⟩
      rfl
    · simp only [decide_eq_false_iff_not, Int.ofNat_lt] at hc
      have hil : i = L.length := by omega
      subst hil
      rw [List.take_length] at ht
      have hk3 : c.toNat < t.live.length := by omega
      ((try simp only [cl_seq, cl_skip, cl_exit, cl_nil]))
      refine hX2 0 _ (hK1 _ ?_)
      simp only [St.c, stc]
      (repeat ((try simp only [cl_seq, cl_skip]); with_reducible refine cg fun K hK => ?_; (simp (maxSteps := 1000000) only [go_sem, t1, t2, hk, hk3, show 0 ≤ c by omega, show c < 8 by omega]); (repeat refine ck ?_); (try simp (disch := omega) only [wrap64, wrapi64]); refine hK _ ?_; clear hK K))
      (((try simp only [cl_seq, cl_skip]); (try simp only [cl_ret]); refine hR _ _ (.inr rfl) ?_; (simp (maxSteps := 1000000) only [go_sem, t1, t2])))
      rw [hr, ← ht]; rfl
structure Cl where
  cl : Int
  op : Opn
  at_ : Int
  kill : Bool
def Cl.c (x : Cl) : List D := .int .i64 x.cl :: (x.op.c ++ [.int .u8 x.at_, .bool x.kill])
theorem Cl.c_inj {a b : Cl} (h : a.c = b.c) : a = b := by
  obtain ⟨a1, a2, a3, a4⟩ := a
  obtain ⟨b1, b2, b3, b4⟩ := b
  simp only [Cl.c, List.cons.injEq, D.int.injEq, true_and] at h
  obtain ⟨h1, h2⟩ := h
  obtain ⟨h3, h4⟩ := List.append_inj h2 (by simp [Opn.c])
  simp only [List.cons.injEq, D.int.injEq, D.bool.injEq, true_and, and_true] at h4
  rw [h1, Opn.c_inj h3, h4.1, h4.2]
def resolveV (s : St) (x : Cl) : Opn := if x.op.off < 16 then { x.op with off := paylV s.h.bl x.at_ + x.op.off } else x.op
def encSC (x : Sst × Cl) : List AD := [.many x.1.1.c, .many x.2.c]
theorem encSC_inj (x y : Sst × Cl) (h : encSC x = encSC y) : x = y := by
  obtain ⟨a, b⟩ := x; obtain ⟨c, d⟩ := y
  simp only [encSC, List.cons.injEq, AD.many.injEq, true_and, and_true] at h
  rw [Sst.c_inj h.1, Cl.c_inj h.2]
structure Cl.ok (x : Cl) : Prop where
  op : x.op.ok
  a0 : 0 ≤ x.at_
  a1 : x.at_ < 256
noncomputable def resolveF : List AD → Option RV := byEnc encSC (fun x => x.1.1.Wk ∧ x.2.ok) fun x => .a (.many (resolveV x.1.1 x.2).c)
theorem resolveF_eq {s : St} {x : Cl} (hs : s.Wk) (hx : x.ok) : resolveF [.many s.c, .many x.c] = some (.a (.many (resolveV s x).c)) := byEnc_eq (x := (⟨s, hs.sh⟩, x)) encSC_inj ⟨hs, hx⟩
theorem payl_range {h : Hpp} (v : h.Inv) (n : Int) : 0 ≤ paylV h.bl n ∧ paylV h.bl n ≤ h.fin + 32 := by
  unfold paylV
  have f0 := v.fin0
  rw [List.getD_eq_getElem?_getD]
  cases hg : (payls h.bl)[n.toNat % (payls h.bl).length]? with
  | none => simp; omega
  | some x =>
    have hx := List.mem_of_getElem? hg
    simp only [payls, List.mem_map, List.mem_filter] at hx
    obtain ⟨b, ⟨hb, _⟩, rfl⟩ := hx
    have m := v.mem hb
    have := (v.bs b hb).size0
    simp only [Option.getD_some]
    omega
theorem resolve_ok : FnPure Tryz.prog 12 resolveF := by
  (refine fn_pure' (f := 12) mixed Tryz.func12 rfl (fun X => { nt := 22, tt := tt, fns := ofList ([(44, .pure paylF)]), keep := keep12, X := X }) (fun X => ok_of tt_ok (⟨payl_ok, by kernel_rfl, trivial⟩) (noEqs _)) (fun _ => rfl) (fun _ => rfl) (by decide) Tryz.results12 resolveF ?_)
  intro l r hq
  obtain ⟨⟨⟨s, hsh⟩, x⟩, rfl, ⟨hs, hx⟩, hr⟩ := byEnc_some hq
  clear hq
  simp only at hs hr hx
  have h1 := hs.sh.ls8
  have h2 := hs.lv8
  have f1 := hs.fin1
  obtain ⟨xo, xa0, xa1⟩ := hx
  have hpe := paylF_eq (p := x.at_) hs.hi.ok xa0 (by omega)
  have hpr := payl_range hs.hi x.at_
  obtain ⟨o0, o1⟩ := xo.off
  unfold resolveV at hr
  rw [Hpp.c] at hpe
  generalize paylV s.h.bl x.at_ = pv at *
  obtain ⟨cl, ⟨kind, n, a, off, ix, v, to_, name⟩, at_, kill⟩ := x
  simp only at *
  refine ⟨by simp [encSC, Tryz.ntmps12], fun X nx R hR => ?_⟩
  simp only [encSC, St.c, stc, Cl.c, Opn.c]
  (repeat ((try simp only [cl_seq, cl_skip]); with_reducible refine cg fun K hK => ?_; (simp (maxSteps := 1000000) only [go_sem, h1, h2]); (repeat refine ck ?_); (try simp (disch := omega) only [wrap64, wrapi64]); refine hK _ ?_; clear hK K))
  (((try simp only [cl_seq, cl_skip]); refine cl_cond rfl (fun hc => ?_) (fun hc => ?_)))
  · simp only [decide_eq_true_eq] at hc
    rw [if_pos hc] at hr
    (repeat ((try simp only [cl_seq, cl_skip]); with_reducible refine cg fun K hK => ?_; (simp (maxSteps := 1000000) only [go_sem, h1, h2, hpe, wrapi64 (n := at_) (by omega) (by omega), wrap64 (n := pv + off) (by omega) (by omega)]); (repeat refine ck ?_); (try simp (disch := omega) only [wrap64, wrapi64]); refine hK _ ?_; clear hK K))
    (((try simp only [cl_seq, cl_skip]); (try simp only [cl_ret]); refine hR _ _ (.inr rfl) ?_; (simp (maxSteps := 1000000) only [go_sem])))
    rw [hr]; rfl
  · simp only [decide_eq_false_iff_not] at hc
    rw [if_neg hc] at hr
    (repeat ((try simp only [cl_seq, cl_skip]); with_reducible refine cg fun K hK => ?_; (simp (maxSteps := 1000000) only [go_sem]); (repeat refine ck ?_); (try simp (disch := omega) only [wrap64, wrapi64]); refine hK _ ?_; clear hK K))
    (((try simp only [cl_seq, cl_skip]); (try simp only [cl_ret]); refine hR _ _ (.inr rfl) ?_; (simp (maxSteps := 1000000) only [go_sem])))
    rw [hr]; rfl
end Go.Proofs.YtapdaefpkddioaaGreat.Pe
