/- A part of the proof of PmD. -/
import Derived.Test.YtapdaefpkddioaaGreatCb25
import Derived.Test.YtapdaefpkddioaaGreatCb27
set_option linter.unusedSimpArgs false
set_option linter.unusedVariables false
set_option linter.unusedSectionVars false
namespace Go.Proofs.YtapdaefpkddioaaGreat.Pe
open Go
set_option maxHeartbeats 2000000
def nameV (s : St) (op : Opn) : St × Int × Int × Int :=
  if packV op.name then
    let i := namedV s.names op.name 0
    if op.kind ≠ 8 then
      if i < 0 then (s, 6, 0, 0) else
      let off := (s.names[i.toNat]?.map (·.off)).getD 0
      if op.kind = 9 then (s, 0, off, 0)
      else (freedV { s with names := s.names.take i.toNat ++ s.names.drop (i.toNat + 1) } off, 0, 0, 0)
    else if 0 ≤ i then (s, 7, 0, 0)
    else if 16 ≤ s.names.length then (s, 9, 0, 0)
    else
      let t := takeSV s 0 op.n 16
      if t.2.1 = 0 then ({ t.1 with names := t.1.names ++ [⟨op.name, t.2.2⟩] }, 0, t.2.2, 0) else (t.1, t.2.1, t.2.2, 0)
  else (s, 8, 0, 0)
def encSO (x : Sst × Opn) : List AD := [.many x.1.1.c, .many x.2.c]
theorem encSO_inj (x y : Sst × Opn) (h : encSO x = encSO y) : x = y := by
  obtain ⟨a, b⟩ := x; obtain ⟨c, d⟩ := y
  simp only [encSO, List.cons.injEq, AD.many.injEq, true_and, and_true] at h
  rw [Sst.c_inj h.1, Opn.c_inj h.2]
noncomputable def nameF : List AD → Option RV := byEnc encSO (fun x => x.1.1.Wk ∧ x.2.ok ∧ x.2.name.size < 100000000) fun x => opRV (nameV x.1.1 x.2)
theorem nameF_eq {s : St} {op : Opn} (hs : s.Wk) (ho : op.ok) (hn : op.name.size < 100000000) : nameF [.many s.c, .many op.c] = some (opRV (nameV s op)) := byEnc_eq (x := (⟨s, hs.sh⟩, op)) encSO_inj ⟨hs, ho, hn⟩
theorem named_range {l : List En} {name : ByteArray} {off : Int} : namedV l name off = -1 ∨ ∃ i : Nat, namedV l name off = i ∧ ∃ h : i < l.length, nameP name off l[i] = true := by
  unfold namedV
  cases h : l.findIdx? (nameP name off) with
  | none => exact .inl rfl
  | some i =>
    obtain ⟨hi, hp, _⟩ := List.findIdx?_eq_some_iff_getElem.1 h
    exact .inr ⟨i, rfl, hi, hp⟩
theorem name_ok : FnPure Tryz.prog 56 nameF := by
  (refine fn_pure' (f := 56) mixed Tryz.func56 rfl (fun X => { nt := 110, tt := tt, fns := ofList ([(83, .pure packF), (53, .pure toldF), (84, .pure namedF), (46, .pure freedF), (54, .pure takeSF)]), keep := keep56, X := X }) (fun X => ok_of tt_ok (⟨pack_ok, by kernel_rfl, told_ok, by kernel_rfl, named_ok, by kernel_rfl, freed_ok, by kernel_rfl, takeS_ok, by kernel_rfl, trivial⟩) (noEqs _)) (fun _ => rfl) (fun _ => rfl) (by decide) Tryz.results56 nameF ?_)
  intro l r hq
  obtain ⟨⟨⟨s, hsh⟩, op⟩, rfl, ⟨hs, hop, hnm⟩, hr⟩ := byEnc_some hq
  clear hq
  simp only at hs hr hop hnm
  have h1 := hs.sh.ls8
  have h2 := hs.lv8
  have hnl := hs.nl
  have hpe := packF_eq hnm
  have hte : ∀ e, _ := fun e => toldF_eq (e := e) hs.sh
  have hne := namedF_eq (name := op.name) (off := 0) hs
  have hke := takeSF_eq (o := 0) (n := op.n) (a := 16) hs (by omega) (by omega) hop.n (by decide)
  have hk8 : (takeSV s 0 op.n 16).1.h.ls.length = 8 ∧ (takeSV s 0 op.n 16).1.live.length = 8 ∧ (takeSV s 0 op.n 16).1.names = s.names := by
    unfold takeSV
    simp only
    split
    · exact ⟨(takeV_inv hs.hi (by omega) (by omega) hop.n).eight, h2, rfl⟩
    · exact ⟨h1, h2, rfl⟩
  have hnr := named_range (l := s.names) (name := op.name) (off := 0)
  unfold nameV at hr
  generalize takeSV s 0 op.n 16 = tk at *
  generalize packV op.name = pv at *
  generalize packW op.name = pw at *
  generalize namedV s.names op.name 0 = nv at *
  obtain ⟨t, te, toff⟩ := tk
  obtain ⟨hk1, hk2, hk3⟩ := hk8
  obtain ⟨kind, n, a, off, ix, v, to_, name⟩ := op
  simp only [Opn.c] at *
  refine ⟨by simp [encSO, Tryz.ntmps56], fun X nx R hR => ?_⟩
  simp only [St.c, stc, stRV, resC] at hte hne hke
  simp only [encSO, St.c, stc, Opn.c]
  cases pv with
  | false =>
    simp only [Bool.false_eq_true, ↓reduceIte] at hr
    (repeat ((try simp only [cl_seq, cl_skip]); with_reducible refine cg fun K hK => ?_; (simp (maxSteps := 1000000) only [go_sem, h1, h2, hpe]); (repeat refine ck ?_); (try simp (disch := omega) only [wrap64, wrapi64]); refine hK _ ?_; clear hK K))
    (((try simp only [cl_seq, cl_skip]); refine cl_cond (b := true) rfl (fun _ => ?_) (fun h => nomatch h)))
    (repeat ((try simp only [cl_seq, cl_skip]); with_reducible refine cg fun K hK => ?_; (simp (maxSteps := 1000000) only [go_sem, h1, h2, hte]); (repeat refine ck ?_); (try simp (disch := omega) only [wrap64, wrapi64]); refine hK _ ?_; clear hK K))
    (((try simp only [cl_seq, cl_skip]); (try simp only [cl_ret]); refine hR _ _ (.inr rfl) ?_; (simp (maxSteps := 1000000) only [go_sem, h1, h2])))
    rw [hr]; rfl
  | true =>
    simp only [↓reduceIte] at hr
    (repeat ((try simp only [cl_seq, cl_skip]); with_reducible refine cg fun K hK => ?_; (simp (maxSteps := 1000000) only [go_sem, h1, h2, hpe]); (repeat refine ck ?_); (try simp (disch := omega) only [wrap64, wrapi64]); refine hK _ ?_; clear hK K))
    (((try simp only [cl_seq, cl_skip]); refine cl_cond (b := false) rfl (fun h => nomatch h) (fun _ => ?_)))
    (repeat ((try simp only [cl_seq, cl_skip]); with_reducible refine cg fun K hK => ?_; (simp (maxSteps := 1000000) only [go_sem, h1, h2, hne]); (repeat refine ck ?_); (try simp (disch := omega) only [wrap64, wrapi64]); refine hK _ ?_; clear hK K))
    by_cases k8 : kind = 8
    · subst k8
      simp only [not_true_eq_false, ne_eq, ↓reduceIte] at hr
      (((try simp only [cl_seq, cl_skip]); refine cl_cond (b := false) rfl (fun h => nomatch h) (fun _ => ?_)))
      (repeat ((try simp only [cl_seq, cl_skip]); with_reducible refine cg fun K hK => ?_; (simp (maxSteps := 1000000) only [go_sem]); (repeat refine ck ?_); (try simp (disch := omega) only [wrap64, wrapi64]); refine hK _ ?_; clear hK K))
      rcases hnr with hnv | ⟨i, hnv, hi, _⟩
      · subst hnv
        rw [if_neg (by omega)] at hr
        (((try simp only [cl_seq, cl_skip]); refine cl_cond (b := false) rfl (fun h => nomatch h) (fun _ => ?_)))
        (repeat ((try simp only [cl_seq, cl_skip]); with_reducible refine cg fun K hK => ?_; (simp (maxSteps := 1000000) only [go_sem, h1, h2]); (repeat refine ck ?_); (try simp (disch := omega) only [wrap64, wrapi64]); refine hK _ ?_; clear hK K))
        (((try simp only [cl_seq, cl_skip]); refine cl_cond rfl (fun h16 => ?_) (fun h16 => ?_)))
        · simp only [ge_iff_le, decide_eq_true_eq] at h16
          rw [if_pos (by omega)] at hr
          (repeat ((try simp only [cl_seq, cl_skip]); with_reducible refine cg fun K hK => ?_; (simp (maxSteps := 1000000) only [go_sem, h1, h2, hte]); (repeat refine ck ?_); (try simp (disch := omega) only [wrap64, wrapi64]); refine hK _ ?_; clear hK K))
          (((try simp only [cl_seq, cl_skip]); (try simp only [cl_ret]); refine hR _ _ (.inr rfl) ?_; (simp (maxSteps := 1000000) only [go_sem, h1, h2])))
          rw [hr]; rfl
        · simp only [ge_iff_le, decide_eq_false_iff_not] at h16
          rw [if_neg (by omega)] at hr
          (repeat ((try simp only [cl_seq, cl_skip]); with_reducible refine cg fun K hK => ?_; (simp (maxSteps := 1000000) only [go_sem, h1, h2, hke, hk1, hk2]); (repeat refine ck ?_); (try simp (disch := omega) only [wrap64, wrapi64]); refine hK _ ?_; clear hK K))
          (((try simp only [cl_seq, cl_skip]); refine cl_cond rfl (fun hc => ?_) (fun hc => ?_)))
          · simp only [beq_iff_eq] at hc
            subst hc
            simp only [↓reduceIte] at hr
            have htn : t.names.length ≤ 1000 := by rw [hk3]; exact hnl
            (repeat ((try simp only [cl_seq, cl_skip]); with_reducible refine cg fun K hK => ?_; (simp (maxSteps := 1000000) only [go_sem, hk1, hk2]); (repeat refine ck ?_); (try simp (disch := omega) only [wrap64, wrapi64]); refine hK _ ?_; clear hK K))
            (((try simp only [cl_seq, cl_skip]); (try simp only [cl_ret]); refine hR _ _ (.inr rfl) ?_; (simp (maxSteps := 1000000) only [go_sem, hk1, hk2])))
            rw [hr]; rfl
          · simp only [beq_eq_false_iff_ne, ne_eq] at hc
            rw [if_neg hc] at hr
            (repeat ((try simp only [cl_seq, cl_skip]); with_reducible refine cg fun K hK => ?_; (simp (maxSteps := 1000000) only [go_sem, hk1, hk2]); (repeat refine ck ?_); (try simp (disch := omega) only [wrap64, wrapi64]); refine hK _ ?_; clear hK K))
            (((try simp only [cl_seq, cl_skip]); (try simp only [cl_ret]); refine hR _ _ (.inr rfl) ?_; (simp (maxSteps := 1000000) only [go_sem, hk1, hk2])))
            rw [hr]; rfl
      · subst hnv
        rw [if_pos (by omega)] at hr
        (((try simp only [cl_seq, cl_skip]); refine cl_cond rfl (fun hc => ?_) (fun hc => ?_)))
        · (repeat ((try simp only [cl_seq, cl_skip]); with_reducible refine cg fun K hK => ?_; (simp (maxSteps := 1000000) only [go_sem, h1, h2, hte]); (repeat refine ck ?_); (try simp (disch := omega) only [wrap64, wrapi64]); refine hK _ ?_; clear hK K))
          (((try simp only [cl_seq, cl_skip]); (try simp only [cl_ret]); refine hR _ _ (.inr rfl) ?_; (simp (maxSteps := 1000000) only [go_sem, h1, h2])))
          rw [hr]; rfl
        · exact absurd hc (by simp)
    · simp only [ne_eq, k8, not_false_eq_true, ↓reduceIte] at hr
      (((try simp only [cl_seq, cl_skip]); refine cl_cond rfl (fun hc => ?_) (fun hc => ?_)))
      · (repeat ((try simp only [cl_seq, cl_skip]); with_reducible refine cg fun K hK => ?_; (simp (maxSteps := 1000000) only [go_sem]); (repeat refine ck ?_); (try simp (disch := omega) only [wrap64, wrapi64]); refine hK _ ?_; clear hK K))
        rcases hnr with hnv | ⟨i, hnv, hi, _⟩
        · subst hnv
          rw [if_pos (by omega)] at hr
          (((try simp only [cl_seq, cl_skip]); refine cl_cond (b := true) rfl (fun _ => ?_) (fun h => nomatch h)))
          (repeat ((try simp only [cl_seq, cl_skip]); with_reducible refine cg fun K hK => ?_; (simp (maxSteps := 1000000) only [go_sem, h1, h2, hte]); (repeat refine ck ?_); (try simp (disch := omega) only [wrap64, wrapi64]); refine hK _ ?_; clear hK K))
          (((try simp only [cl_seq, cl_skip]); (try simp only [cl_ret]); refine hR _ _ (.inr rfl) ?_; (simp (maxSteps := 1000000) only [go_sem, h1, h2])))
          rw [hr]; rfl
        · subst hnv
          rw [if_neg (by omega), Int.toNat_natCast, List.getElem?_eq_getElem hi, Option.map_some, Option.getD_some] at hr
          (((try simp only [cl_seq, cl_skip]); refine cl_cond rfl (fun hn => ?_) (fun hn => ?_)))
          · exact absurd hn (by simp)
          (repeat ((try simp only [cl_seq, cl_skip]); with_reducible refine cg fun K hK => ?_; (simp (maxSteps := 1000000) only [go_sem, h1, h2, hi, En.c]); (repeat refine ck ?_); (try simp (disch := omega) only [wrap64, wrapi64]); refine hK _ ?_; clear hK K))
          by_cases k9 : kind = 9
          · subst k9
            simp only [↓reduceIte] at hr
            (((try simp only [cl_seq, cl_skip]); refine cl_cond (b := true) rfl (fun _ => ?_) (fun h => nomatch h)))
            (repeat ((try simp only [cl_seq, cl_skip]); with_reducible refine cg fun K hK => ?_; (simp (maxSteps := 1000000) only [go_sem, h1, h2]); (repeat refine ck ?_); (try simp (disch := omega) only [wrap64, wrapi64]); refine hK _ ?_; clear hK K))
            (((try simp only [cl_seq, cl_skip]); (try simp only [cl_ret]); refine hR _ _ (.inr rfl) ?_; (simp (maxSteps := 1000000) only [go_sem, h1, h2])))
            rw [hr]; rfl
          · rw [if_neg k9] at hr
            (((try simp only [cl_seq, cl_skip]); refine cl_cond rfl (fun h9 => ?_) (fun h9 => ?_)))
            · exact absurd h9 (by simp [k9])
            have hw : ({ s with names := s.names.take i ++ s.names.drop (i + 1) } : St).Wk := { hi := hs.hi, lv8 := hs.lv8, fin1 := hs.fin1, all0 := hs.all0, all1 := hs.all1, dl := hs.dl, ds := hs.ds, nl := by simp; omega }
            have hfe := freedF_eq (off := s.names[i].off) hw
            have hf8 : (freedV { s with names := s.names.take i ++ s.names.drop (i + 1) } s.names[i].off).h.ls.length = 8 := (freeHV_inv hs.hi _).eight
            have hfl : (freedV { s with names := s.names.take i ++ s.names.drop (i + 1) } s.names[i].off).live.length = 8 := h2
            generalize freedV { s with names := s.names.take i ++ s.names.drop (i + 1) } s.names[i].off = s' at *
            simp only [St.c, stc] at hfe
            (repeat ((try simp only [cl_seq, cl_skip]); with_reducible refine cg fun K hK => ?_; (simp (maxSteps := 1000000) only [go_sem, h1, h2, hi, En.c, hfe, hf8, hfl, wrapi64 (n := (i : Int) + 1) (by omega) (by omega), show ((i : Int) + 1).toNat = i + 1 by omega, Nat.le_of_lt hi]); (repeat refine ck ?_); (try simp (disch := omega) only [wrap64, wrapi64]); refine hK _ ?_; clear hK K))
            (((try simp only [cl_seq, cl_skip]); (try simp only [cl_ret]); refine hR _ _ (.inr rfl) ?_; (simp (maxSteps := 1000000) only [go_sem, hf8, hfl])))
            rw [hr]; rfl
      · exact absurd hc (by simp [k8])
end Go.Proofs.YtapdaefpkddioaaGreat.Pe
namespace Go.Proofs.YtapdaefpkddioaaGreat.Pe
open Go
set_option maxHeartbeats 4000000
def doV (s : St) (c : Int) (op : Opn) : St × Int × Int × Int :=
  if op.kind < 1 ∨ 15 < op.kind ∨ c < 0 ∨ 7 < c then (s, 1, 0, 0)
  else if s.live[c.toNat]?.getD false = false ∧ op.kind ≠ 15 then (s, 10, 0, 0)
  else if op.kind = 15 then
    if s.live[c.toNat]?.getD false then (s, 7, 0, 0) else ({ s with live := s.live.set c.toNat true }, 0, 0, 0)
  else if op.kind = 14 then
    if 0 < (s.h.ls[c.toNat]?.getD []).length then (s, 11, 0, 0) else ({ s with live := s.live.set c.toNat false }, 0, 0, 0)
  else if op.kind = 1 then let t := takeSV s (c + 1) op.n 16; (t.1, t.2.1, t.2.2, 0)
  else if op.kind = 2 then let t := takeSV s (c + 1) op.n op.a; (t.1, t.2.1, t.2.2, 0)
  else if op.kind = 3 then match mulV op.n op.a with
    | none => (s, 2, 0, 0)
    | some m => let t := takeSV s (c + 1) m 16; (t.1, t.2.1, t.2.2, 0)
  else if op.kind = 8 ∨ op.kind = 9 ∨ op.kind = 10 then nameV s op
  else if op.kind = 13 then let g := growV s.h op.n s.all; ({ s with h := g.1 }, g.2, 0, 0)
  else blockV s c op
noncomputable def doF : List AD → Option RV := byEnc encSIO (fun x => x.1.1.Wk ∧ x.2.2.ok ∧ x.2.2.name.size < 100000000) fun x => opRV (doV x.1.1 x.2.1 x.2.2)
theorem doF_eq {s : St} {c : Int} {op : Opn} (hs : s.Wk) (ho : op.ok) (hn : op.name.size < 100000000) : doF [.many s.c, .one (.int .i64 c), .many op.c] = some (opRV (doV s c op)) := byEnc_eq (x := (⟨s, hs.sh⟩, c, op)) encSIO_inj ⟨hs, ho, hn⟩
theorem takeSV_sh {s : St} (hs : s.Wk) {o n a : Int} (o0 : 0 ≤ o) (o1 : o ≤ 8) (hn : U64 n) : (takeSV s o n a).1.h.ls.length = 8 ∧ (takeSV s o n a).1.live.length = 8 := by
  unfold takeSV
  simp only
  split
  · exact ⟨(takeV_inv hs.hi o0 o1 hn).eight, hs.lv8⟩
  · exact ⟨hs.sh.ls8, hs.lv8⟩
theorem freedV_sh {s : St} (hs : s.Wk) (off : Int) : (freedV s off).h.ls.length = 8 ∧ (freedV s off).live.length = 8 := ⟨(freeHV_inv hs.hi _).eight, hs.lv8⟩
theorem ownerV_sh {s : St} (hs : s.Wk) (i : Nat) (w : Int) : (ownerV s i w).h.ls.length = 8 ∧ (ownerV s i w).live.length = 8 := by
  unfold ownerV
  split
  · exact ⟨hs.sh.ls8, hs.lv8⟩
  · refine ⟨?_, hs.lv8⟩
    simp only [listAdd]
    split
    · rw [List.length_set, listDel_len]; exact hs.sh.ls8
    · rw [listDel_len]; exact hs.sh.ls8
theorem nameV_sh {s : St} (hs : s.Wk) {op : Opn} (ho : op.ok) : (nameV s op).1.h.ls.length = 8 ∧ (nameV s op).1.live.length = 8 := by
  have h0 := hs.sh
  have h1 : s.h.ls.length = 8 ∧ s.live.length = 8 := ⟨h0.ls8, h0.lv8⟩
  have h2 := takeSV_sh (a := 16) hs (o := 0) (by omega) (by omega) ho.n
  unfold nameV
  simp only
  repeat' split
  all_goals first | exact h1 | exact h2 | exact ⟨(freeHV_inv hs.hi _).eight, hs.lv8⟩
theorem blockV_sh {s : St} (hs : s.Wk) {c : Int} {op : Opn} (ho : op.ok) : (blockV s c op).1.h.ls.length = 8 ∧ (blockV s c op).1.live.length = 8 := by
  have h1 : s.h.ls.length = 8 ∧ s.live.length = 8 := ⟨hs.sh.ls8, hs.lv8⟩
  unfold blockV
  simp only
  repeat' split
  all_goals first | exact h1 | exact ⟨(resizeV_inv hs.hi ho.n).eight, hs.lv8⟩ | exact freedV_sh hs _ | exact ownerV_sh hs _ _
theorem do_ok : FnPure Tryz.prog 22 doF := by
  (refine fn_pure' (f := 22) mixed Tryz.func22 rfl (fun X => { nt := 160, tt := tt, fns := ofList ([(53, .pure toldF), (54, .pure takeSF), (55, .pure mulF), (56, .pure nameF), (57, .pure growF), (58, .pure blockF)]), keep := keep22, X := X }) (fun X => ok_of tt_ok (⟨told_ok, by kernel_rfl, takeS_ok, by kernel_rfl, mul_ok, by kernel_rfl, name_ok, by kernel_rfl, grow_ok, by kernel_rfl, block_ok, by kernel_rfl, trivial⟩) (noEqs _)) (fun _ => rfl) (fun _ => rfl) (by decide) Tryz.results22 doF ?_)
  intro l r hq
  obtain ⟨⟨⟨s, hsh⟩, c, op⟩, rfl, ⟨hs, hop, hnm⟩, hr⟩ := byEnc_some hq
  clear hq
  simp only at hs hr hop hnm
  have h1 := hs.sh.ls8
  have h2 := hs.lv8
  have hte : ∀ e, _ := fun e => toldF_eq (e := e) hs.sh
  have hne := nameF_eq hs hop hnm
  have hns := nameV_sh hs hop
  have hge := growF_eq (p := op.n) hs.hi hop.n hs.all0 (by have := hs.all1; omega)
  have hg8 := (growV_inv (n := op.n) (all := s.all) hs.hi (by have := hs.all1; omega)).eight
  have hme := mulF_eq hop.n hop.a
  have hbe := fun c0 c1 => blockF_eq (c := c) (op := op) hs c0 c1 hop
  have hbs := blockV_sh (c := c) hs hop
  have hke := fun o0 o1 a ha => takeSF_eq (o := c + 1) (n := op.n) (a := a) hs o0 o1 hop.n ha
  have hks := fun o0 o1 a => takeSV_sh (o := c + 1) (n := op.n) (a := a) hs o0 o1 hop.n
  have hkm := fun o0 o1 m (hm : U64 m) => takeSF_eq (o := c + 1) (n := m) (a := 16) hs o0 o1 hm (by decide)
  have hkms := fun o0 o1 m (hm : U64 m) => takeSV_sh (o := c + 1) (n := m) (a := 16) hs o0 o1 hm
  unfold doV at hr
  generalize nameV s op = nv at *
  generalize blockV s c op = bv at *
  generalize hgv : growV s.h op.n s.all = gv at *
  obtain ⟨ns, ne, noff, nvv⟩ := nv
  obtain ⟨bs, be, boff, bvv⟩ := bv
  obtain ⟨gh, ge⟩ := gv
  have un := hop.n
  have ua := hop.a
  obtain ⟨kind, n, a, off, ix, v, to_, name⟩ := op
  simp only [Opn.c] at *
  refine ⟨by simp [encSIO, Tryz.ntmps22], fun X nx R hR => ?_⟩
  simp only [St.c, stc, stRV, opRV, resC, hRV, Hpp.c] at hte hne hge hbe hke hkm
  simp only [encSIO, St.c, stc, Opn.c]
  (repeat ((try simp only [cl_seq, cl_skip]); with_reducible refine cg fun K hK => ?_; (simp (maxSteps := 1000000) only [go_sem]); (repeat refine ck ?_); (try simp (disch := omega) only [wrap64, wrapi64]); refine hK _ ?_; clear hK K))
  by_cases hbad : kind < 1 ∨ 15 < kind ∨ c < 0 ∨ 7 < c
  · rw [if_pos hbad] at hr
    (((try simp only [cl_seq, cl_skip]); refine cl_reg_b (g := ?g121) (t := ?t121) (L := ?L121) ((decide (kind < 1) || (decide (15 < kind) || (decide (c < 0) || decide (7 < c))))) (fun K hK => ?h1121) ?h2121; case' h1121 => (simp (maxSteps := 1000000) only [go_sem, h1, h2]); (repeat refine ck ?_); (repeat' (((refine ite_split (fun hb => ?_) (fun hb => ?_) <;> ((try (simp (maxSteps := 1000000) only [go_sem, hb, h1, h2])); (repeat refine ck ?_)))))); all_goals (first | ((try simp (disch := omega) only [wrap64, wrapi64]); refine hK _ ?_; clear hK K; first | rfl | grind | skip) | skip)))
    all_goals try (simp only [*, Bool.false_or, Bool.true_or, Bool.or_true]; done)
    (((try simp only [cl_seq, cl_skip]); refine cl_cond rfl (fun hc => ?_) (fun hc => ?_)))
    · (repeat ((try simp only [cl_seq, cl_skip]); with_reducible refine cg fun K hK => ?_; (simp (maxSteps := 1000000) only [go_sem, h1, h2, hte]); (repeat refine ck ?_); (try simp (disch := omega) only [wrap64, wrapi64]); refine hK _ ?_; clear hK K))
      (((try simp only [cl_seq, cl_skip]); (try simp only [cl_ret]); refine hR _ _ (.inr rfl) ?_; (simp (maxSteps := 1000000) only [go_sem, h1, h2])))
      rw [hr]; rfl
    · exact absurd hc (by simp; omega)
  · rw [if_neg hbad] at hr
    have hk : c.toNat < 8 := by omega
    have hk' : c.toNat < s.live.length := by omega
    have hk2 : c.toNat < s.h.ls.length := by omega
    have c0 : 0 ≤ c := by omega
    have c7 : c ≤ 7 := by omega
    replace hbe := hbe c0 c7
    replace hke := hke (by omega) (by omega)
    replace hks := hks (by omega) (by omega)
    replace hkm := hkm (by omega) (by omega)
    replace hkms := hkms (by omega) (by omega)
    rw [List.getElem?_eq_getElem hk', Option.getD_some, List.getElem?_eq_getElem hk2, Option.getD_some] at hr
    (repeat ((try simp only [cl_seq, cl_skip]); with_reducible refine cg fun K hK => ?_; (simp (maxSteps := 1000000) only [go_sem, show ¬ kind < 1 by omega, show ¬ 15 < kind by omega, show ¬ c < 0 by omega, show ¬ 7 < c by omega]); (repeat refine ck ?_); (try simp (disch := omega) only [wrap64, wrapi64]); refine hK _ ?_; clear hK K))
    (((try simp only [cl_seq, cl_skip]); refine cl_cond (b := false) rfl (fun h => nomatch h) (fun _ => ?_)))
    generalize hlv : s.live[c.toNat] = lv at *
    (((try simp only [cl_seq, cl_skip]); refine cl_reg_b (g := ?g122) (t := ?t122) (L := ?L122) ((!lv && (kind != 15))) (fun K hK => ?h1122) ?h2122; case' h1122 => (simp (maxSteps := 1000000) only [go_sem, h1, h2, hk, hk', hlv, c0, show c < 8 by omega]); (repeat refine ck ?_); (repeat' (((refine ite_split (fun hb => ?_) (fun hb => ?_) <;> ((try (simp (maxSteps := 1000000) only [go_sem, hb, h1, h2, hk, hk', hlv, c0, show c < 8 by omega])); (repeat refine ck ?_)))))); all_goals (first | ((try simp (disch := omega) only [wrap64, wrapi64]); refine hK _ ?_; clear hK K; first | rfl | grind | skip) | skip)))
    all_goals try (simp only [*, Bool.not_true, Bool.not_false, Bool.false_and, Bool.true_and]; done)
    (((try simp only [cl_seq, cl_skip]); refine cl_cond rfl (fun hc => ?_) (fun hc => ?_)))
    · have hcc : lv = false ∧ kind ≠ 15 := by simpa using hc
      rw [if_pos hcc] at hr
      (repeat ((try simp only [cl_seq, cl_skip]); with_reducible refine cg fun K hK => ?_; (simp (maxSteps := 1000000) only [go_sem, h1, h2, hte]); (repeat refine ck ?_); (try simp (disch := omega) only [wrap64, wrapi64]); refine hK _ ?_; clear hK K))
      (((try simp only [cl_seq, cl_skip]); (try simp only [cl_ret]); refine hR _ _ (.inr rfl) ?_; (simp (maxSteps := 1000000) only [go_sem, h1, h2])))
      rw [hr]; rfl
    · have hcc : ¬ (lv = false ∧ kind ≠ 15) := by
        intro hh; rw [hh.1] at hc; simp [hh.2] at hc
      rw [if_neg hcc] at hr
      (repeat ((try simp only [cl_seq, cl_skip]); with_reducible refine cg fun K hK => ?_; (simp (maxSteps := 1000000) only [go_sem]); (repeat refine ck ?_); (try simp (disch := omega) only [wrap64, wrapi64]); refine hK _ ?_; clear hK K))
      (((try simp only [cl_seq, cl_skip]); refine cl_block fun K1 hK1 R hR1 X hX1 => ?_))
      by_cases k15 : kind = 15
      · subst k15
        clear hK1
        simp only [↓reduceIte] at hr
        (repeat ((try simp only [cl_seq, cl_skip]); with_reducible refine cg fun K hK => ?_; (simp (maxSteps := 1000000) only [go_sem]); (repeat refine ck ?_); (try simp (disch := omega) only [wrap64, wrapi64]); refine hK _ ?_; clear hK K))
        (((try simp only [cl_seq, cl_skip]); refine cl_cond (b := true) rfl (fun _ => ?_) (fun h => nomatch h)))
        (repeat ((try simp only [cl_seq, cl_skip]); with_reducible refine cg fun K hK => ?_; (simp (maxSteps := 1000000) only [go_sem, h1, h2, hk, hk', hlv, c0, show c < 8 by omega]); (repeat refine ck ?_); (try simp (disch := omega) only [wrap64, wrapi64]); refine hK _ ?_; clear hK K))
        cases lv with
        | true =>
          simp only [↓reduceIte] at hr
          (((try simp only [cl_seq, cl_skip]); refine cl_cond (b := true) rfl (fun _ => ?_) (fun h => nomatch h)))
          (repeat ((try simp only [cl_seq, cl_skip]); with_reducible refine cg fun K hK => ?_; (simp (maxSteps := 1000000) only [go_sem, h1, h2, hte]); (repeat refine ck ?_); (try simp (disch := omega) only [wrap64, wrapi64]); refine hK _ ?_; clear hK K))
          (((try simp only [cl_seq, cl_skip]); (try simp only [cl_ret]); refine hR1 _ (hR _ _ (.inr rfl) ?_); (simp (maxSteps := 1000000) only [go_sem, h1, h2])))
          rw [hr]; rfl
        | false =>
          simp only [Bool.false_eq_true, ↓reduceIte] at hr
          (((try simp only [cl_seq, cl_skip]); refine cl_cond (b := false) rfl (fun h => nomatch h) (fun _ => ?_)))
          (repeat ((try simp only [cl_seq, cl_skip]); with_reducible refine cg fun K hK => ?_; (simp (maxSteps := 1000000) only [go_sem, h1, h2, hk, hk', c0, show c < 8 by omega]); (repeat refine ck ?_); (try simp (disch := omega) only [wrap64, wrapi64]); refine hK _ ?_; clear hK K))
          (((try simp only [cl_seq, cl_skip]); (try simp only [cl_ret]); refine hR1 _ (hR _ _ (.inr rfl) ?_); (simp (maxSteps := 1000000) only [go_sem, h1, h2])))
          rw [hr]; rfl
      · have b15 : (kind == 15) = false := by simp [k15]
        simp only [k15, ↓reduceIte] at hr
        have hlt : lv = true := by
          cases lv with
          | true => rfl
          | false => exact absurd ⟨rfl, k15⟩ hcc
        (repeat ((try simp only [cl_seq, cl_skip]); with_reducible refine cg fun K hK => ?_; (simp (maxSteps := 1000000) only [go_sem, b15]); (repeat refine ck ?_); (try simp (disch := omega) only [wrap64, wrapi64]); refine hK _ ?_; clear hK K))
        (((try simp only [cl_seq, cl_skip]); refine cl_cond (b := false) rfl (fun h => nomatch h) (fun _ => ?_)))
        by_cases k14 : kind = 14
        · subst k14
          clear hK1
          simp only [↓reduceIte] at hr
          (repeat ((try simp only [cl_seq, cl_skip]); with_reducible refine cg fun K hK => ?_; (simp (maxSteps := 1000000) only [go_sem]); (repeat refine ck ?_); (try simp (disch := omega) only [wrap64, wrapi64]); refine hK _ ?_; clear hK K))
          (((try simp only [cl_seq, cl_skip]); refine cl_cond (b := true) rfl (fun _ => ?_) (fun h => nomatch h)))
          (repeat ((try simp only [cl_seq, cl_skip]); with_reducible refine cg fun K hK => ?_; (simp (maxSteps := 1000000) only [go_sem, h1, h2, hk, hk2, c0, show c < 8 by omega]); (repeat refine ck ?_); (try simp (disch := omega) only [wrap64, wrapi64]); refine hK _ ?_; clear hK K))
          (((try simp only [cl_seq, cl_skip]); refine cl_cond rfl (fun hn => ?_) (fun hn => ?_)))
          · simp only [decide_eq_true_eq] at hn
            rw [if_pos (by omega)] at hr
            (repeat ((try simp only [cl_seq, cl_skip]); with_reducible refine cg fun K hK => ?_; (simp (maxSteps := 1000000) only [go_sem, h1, h2, hte]); (repeat refine ck ?_); (try simp (disch := omega) only [wrap64, wrapi64]); refine hK _ ?_; clear hK K))
            (((try simp only [cl_seq, cl_skip]); (try simp only [cl_ret]); refine hR1 _ (hR _ _ (.inr rfl) ?_); (simp (maxSteps := 1000000) only [go_sem, h1, h2])))
            rw [hr]; rfl
          · simp only [decide_eq_false_iff_not] at hn
            rw [if_neg (by omega)] at hr
            (repeat ((try simp only [cl_seq, cl_skip]); with_reducible refine cg fun K hK => ?_; (simp (maxSteps := 1000000) only [go_sem, h1, h2, hk, hk', c0, show c < 8 by omega]); (repeat refine ck ?_); (try simp (disch := omega) only [wrap64, wrapi64]); refine hK _ ?_; clear hK K))
            (((try simp only [cl_seq, cl_skip]); (try simp only [cl_ret]); refine hR1 _ (hR _ _ (.inr rfl) ?_); (simp (maxSteps := 1000000) only [go_sem, h1, h2])))
            rw [hr]; rfl
        · have b14 : (kind == 14) = false := by simp [k14]
          simp only [k14, ↓reduceIte] at hr
          (repeat ((try simp only [cl_seq, cl_skip]); with_reducible refine cg fun K hK => ?_; (simp (maxSteps := 1000000) only [go_sem, b14]); (repeat refine ck ?_); (try simp (disch := omega) only [wrap64, wrapi64]); refine hK _ ?_; clear hK K))
          (((try simp only [cl_seq, cl_skip]); refine cl_cond (b := false) rfl (fun h => nomatch h) (fun _ => ?_)))
          by_cases k1 : kind = 1
          · subst k1
            clear hK1
            simp only [↓reduceIte] at hr
            have hk1 := hke 16 (by decide)
            obtain ⟨hs1, hs2⟩ := hks 16
            generalize takeSV s (c + 1) n 16 = t at *
            obtain ⟨t, te, toff⟩ := t
            (repeat ((try simp only [cl_seq, cl_skip]); with_reducible refine cg fun K hK => ?_; (simp (maxSteps := 1000000) only [go_sem]); (repeat refine ck ?_); (try simp (disch := omega) only [wrap64, wrapi64]); refine hK _ ?_; clear hK K))
            (((try simp only [cl_seq, cl_skip]); refine cl_cond (b := true) rfl (fun _ => ?_) (fun h => nomatch h)))
            (repeat ((try simp only [cl_seq, cl_skip]); with_reducible refine cg fun K hK => ?_; (simp (maxSteps := 1000000) only [go_sem, h1, h2, hk1, hs1, hs2, wrapi64 (n := c + 1) (by omega) (by omega)]); (repeat refine ck ?_); (try simp (disch := omega) only [wrap64, wrapi64]); refine hK _ ?_; clear hK K))
            (((try simp only [cl_seq, cl_skip]); (try simp only [cl_ret]); refine hR1 _ (hR _ _ (.inr rfl) ?_); (simp (maxSteps := 1000000) only [go_sem, hs1, hs2])))
            rw [hr]; rfl
          · have b1 : (kind == 1) = false := by simp [k1]
            simp only [k1, ↓reduceIte] at hr
            (repeat ((try simp only [cl_seq, cl_skip]); with_reducible refine cg fun K hK => ?_; (simp (maxSteps := 1000000) only [go_sem, b1]); (repeat refine ck ?_); (try simp (disch := omega) only [wrap64, wrapi64]); refine hK _ ?_; clear hK K))
            (((try simp only [cl_seq, cl_skip]); refine cl_cond (b := false) rfl (fun h => nomatch h) (fun _ => ?_)))
            by_cases k2 : kind = 2
            · subst k2
              clear hK1
              simp only [↓reduceIte] at hr
              have hk1 := hke a ua
              obtain ⟨hs1, hs2⟩ := hks a
              generalize takeSV s (c + 1) n a = t at *
              obtain ⟨t, te, toff⟩ := t
              (repeat ((try simp only [cl_seq, cl_skip]); with_reducible refine cg fun K hK => ?_; (simp (maxSteps := 1000000) only [go_sem]); (repeat refine ck ?_); (try simp (disch := omega) only [wrap64, wrapi64]); refine hK _ ?_; clear hK K))
              (((try simp only [cl_seq, cl_skip]); refine cl_cond (b := true) rfl (fun _ => ?_) (fun h => nomatch h)))
              (repeat ((try simp only [cl_seq, cl_skip]); with_reducible refine cg fun K hK => ?_; (simp (maxSteps := 1000000) only [go_sem, h1, h2, hk1, hs1, hs2, wrapi64 (n := c + 1) (by omega) (by omega)]); (repeat refine ck ?_); (try simp (disch := omega) only [wrap64, wrapi64]); refine hK _ ?_; clear hK K))
              (((try simp only [cl_seq, cl_skip]); (try simp only [cl_ret]); refine hR1 _ (hR _ _ (.inr rfl) ?_); (simp (maxSteps := 1000000) only [go_sem, hs1, hs2])))
              rw [hr]; rfl
            · have b2 : (kind == 2) = false := by simp [k2]
              simp only [k2, ↓reduceIte] at hr
              (repeat ((try simp only [cl_seq, cl_skip]); with_reducible refine cg fun K hK => ?_; (simp (maxSteps := 1000000) only [go_sem, b2]); (repeat refine ck ?_); (try simp (disch := omega) only [wrap64, wrapi64]); refine hK _ ?_; clear hK K))
              (((try simp only [cl_seq, cl_skip]); refine cl_cond (b := false) rfl (fun h => nomatch h) (fun _ => ?_)))
              by_cases k3 : kind = 3
              · subst k3
                clear hK1
                simp only [↓reduceIte] at hr
                (repeat ((try simp only [cl_seq, cl_skip]); with_reducible refine cg fun K hK => ?_; (simp (maxSteps := 1000000) only [go_sem]); (repeat refine ck ?_); (try simp (disch := omega) only [wrap64, wrapi64]); refine hK _ ?_; clear hK K))
                (((try simp only [cl_seq, cl_skip]); refine cl_cond (b := true) rfl (fun _ => ?_) (fun h => nomatch h)))
                cases hm : mulV n a with
                | none =>
                  rw [hm] at hr
                  (repeat ((try simp only [cl_seq, cl_skip]); with_reducible refine cg fun K hK => ?_; (simp (maxSteps := 1000000) only [go_sem, hme, hm, optV, Option.isSome_none, Bool.not_false]); (repeat refine ck ?_); (try simp (disch := omega) only [wrap64, wrapi64]); refine hK _ ?_; clear hK K))
                  (((try simp only [cl_seq, cl_skip]); refine cl_cond (b := true) rfl (fun _ => ?_) (fun h => nomatch h)))
                  (repeat ((try simp only [cl_seq, cl_skip]); with_reducible refine cg fun K hK => ?_; (simp (maxSteps := 1000000) only [go_sem, h1, h2, hte]); (repeat refine ck ?_); (try simp (disch := omega) only [wrap64, wrapi64]); refine hK _ ?_; clear hK K))
                  (((try simp only [cl_seq, cl_skip]); (try simp only [cl_ret]); refine hR1 _ (hR _ _ (.inr rfl) ?_); (simp (maxSteps := 1000000) only [go_sem, h1, h2])))
                  rw [hr]; rfl
                | some m =>
                  rw [hm] at hr
                  have um : U64 m := by
                    unfold mulV at hm
                    unfold U64 at un ua
                    split at hm
                    · injection hm with hm; subst hm; exact ⟨Int.mul_nonneg un.1 ua.1, by assumption⟩
                    · cases hm
                  simp only at hr
                  have hk1 := hkm m um
                  obtain ⟨hs1, hs2⟩ := hkms m um
                  generalize takeSV s (c + 1) m 16 = t at *
                  obtain ⟨t, te, toff⟩ := t
                  (repeat ((try simp only [cl_seq, cl_skip]); with_reducible refine cg fun K hK => ?_; (simp (maxSteps := 1000000) only [go_sem, hme, hm, optV, Option.isSome_some, Bool.not_true]); (repeat refine ck ?_); (try simp (disch := omega) only [wrap64, wrapi64]); refine hK _ ?_; clear hK K))
                  (((try simp only [cl_seq, cl_skip]); refine cl_cond (b := false) rfl (fun h => nomatch h) (fun _ => ?_)))
                  (repeat ((try simp only [cl_seq, cl_skip]); with_reducible refine cg fun K hK => ?_; (simp (maxSteps := 1000000) only [go_sem, h1, h2, hk1, hs1, hs2, wrapi64 (n := c + 1) (by omega) (by omega)]); (repeat refine ck ?_); (try simp (disch := omega) only [wrap64, wrapi64]); refine hK _ ?_; clear hK K))
                  (((try simp only [cl_seq, cl_skip]); (try simp only [cl_ret]); refine hR1 _ (hR _ _ (.inr rfl) ?_); (simp (maxSteps := 1000000) only [go_sem, hs1, hs2])))
                  rw [hr]; rfl
              · have b3 : (kind == 3) = false := by simp [k3]
                simp only [k3, ↓reduceIte] at hr
                (repeat ((try simp only [cl_seq, cl_skip]); with_reducible refine cg fun K hK => ?_; (simp (maxSteps := 1000000) only [go_sem, b3]); (repeat refine ck ?_); (try simp (disch := omega) only [wrap64, wrapi64]); refine hK _ ?_; clear hK K))
                (((try simp only [cl_seq, cl_skip]); refine cl_cond (b := false) rfl (fun h => nomatch h) (fun _ => ?_)))
                by_cases kn : kind = 8 ∨ kind = 9 ∨ kind = 10
                · rw [if_pos kn] at hr
                  obtain ⟨hs1, hs2⟩ := hns
                  rcases kn with rfl | rfl | rfl
                  · (repeat ((try simp only [cl_seq, cl_skip]); with_reducible refine cg fun K hK => ?_; (simp (maxSteps := 1000000) only [go_sem]); (repeat refine ck ?_); (try simp (disch := omega) only [wrap64, wrapi64]); refine hK _ ?_; clear hK K))
                    (((try simp only [cl_seq, cl_skip]); refine cl_cond (b := true) rfl (fun _ => ?_) (fun h => nomatch h)))
                    (((try simp only [cl_seq, cl_skip]); refine cl_cond (b := true) rfl (fun _ => ?_) (fun h => nomatch h)))
                    (repeat ((try simp only [cl_seq, cl_skip]); with_reducible refine cg fun K hK => ?_; (simp (maxSteps := 1000000) only [go_sem, h1, h2, hne, hs1, hs2]); (repeat refine ck ?_); (try simp (disch := omega) only [wrap64, wrapi64]); refine hK _ ?_; clear hK K))
                    (((try simp only [cl_seq, cl_skip]); (try simp only [cl_ret]); refine hR1 _ (hR _ _ (.inr rfl) ?_); (simp (maxSteps := 1000000) only [go_sem, hs1, hs2])))
                    rw [hr]; rfl
                  · (repeat ((try simp only [cl_seq, cl_skip]); with_reducible refine cg fun K hK => ?_; (simp (maxSteps := 1000000) only [go_sem]); (repeat refine ck ?_); (try simp (disch := omega) only [wrap64, wrapi64]); refine hK _ ?_; clear hK K))
                    (((try simp only [cl_seq, cl_skip]); refine cl_cond (b := false) rfl (fun h => nomatch h) (fun _ => ?_)))
                    (repeat ((try simp only [cl_seq, cl_skip]); with_reducible refine cg fun K hK => ?_; (simp (maxSteps := 1000000) only [go_sem]); (repeat refine ck ?_); (try simp (disch := omega) only [wrap64, wrapi64]); refine hK _ ?_; clear hK K))
                    (((try simp only [cl_seq, cl_skip]); refine cl_cond (b := true) rfl (fun _ => ?_) (fun h => nomatch h)))
                    (((try simp only [cl_seq, cl_skip]); refine cl_cond (b := true) rfl (fun _ => ?_) (fun h => nomatch h)))
                    (repeat ((try simp only [cl_seq, cl_skip]); with_reducible refine cg fun K hK => ?_; (simp (maxSteps := 1000000) only [go_sem, h1, h2, hne, hs1, hs2]); (repeat refine ck ?_); (try simp (disch := omega) only [wrap64, wrapi64]); refine hK _ ?_; clear hK K))
                    (((try simp only [cl_seq, cl_skip]); (try simp only [cl_ret]); refine hR1 _ (hR _ _ (.inr rfl) ?_); (simp (maxSteps := 1000000) only [go_sem, hs1, hs2])))
                    rw [hr]; rfl
                  · (repeat ((try simp only [cl_seq, cl_skip]); with_reducible refine cg fun K hK => ?_; (simp (maxSteps := 1000000) only [go_sem]); (repeat refine ck ?_); (try simp (disch := omega) only [wrap64, wrapi64]); refine hK _ ?_; clear hK K))
                    (((try simp only [cl_seq, cl_skip]); refine cl_cond (b := false) rfl (fun h => nomatch h) (fun _ => ?_)))
                    (repeat ((try simp only [cl_seq, cl_skip]); with_reducible refine cg fun K hK => ?_; (simp (maxSteps := 1000000) only [go_sem]); (repeat refine ck ?_); (try simp (disch := omega) only [wrap64, wrapi64]); refine hK _ ?_; clear hK K))
                    (((try simp only [cl_seq, cl_skip]); refine cl_cond (b := false) rfl (fun h => nomatch h) (fun _ => ?_)))
                    (repeat ((try simp only [cl_seq, cl_skip]); with_reducible refine cg fun K hK => ?_; (simp (maxSteps := 1000000) only [go_sem]); (repeat refine ck ?_); (try simp (disch := omega) only [wrap64, wrapi64]); refine hK _ ?_; clear hK K))
                    (((try simp only [cl_seq, cl_skip]); refine cl_cond (b := true) rfl (fun _ => ?_) (fun h => nomatch h)))
                    (repeat ((try simp only [cl_seq, cl_skip]); with_reducible refine cg fun K hK => ?_; (simp (maxSteps := 1000000) only [go_sem, h1, h2, hne, hs1, hs2]); (repeat refine ck ?_); (try simp (disch := omega) only [wrap64, wrapi64]); refine hK _ ?_; clear hK K))
                    (((try simp only [cl_seq, cl_skip]); (try simp only [cl_ret]); refine hR1 _ (hR _ _ (.inr rfl) ?_); (simp (maxSteps := 1000000) only [go_sem, hs1, hs2])))
                    rw [hr]; rfl
                · rw [if_neg kn] at hr
                  have b8 : (kind == 8) = false := by simp; omega
                  have b9 : (kind == 9) = false := by simp; omega
                  have b10 : (kind == 10) = false := by simp; omega
                  (repeat ((try simp only [cl_seq, cl_skip]); with_reducible refine cg fun K hK => ?_; (simp (maxSteps := 1000000) only [go_sem, b8]); (repeat refine ck ?_); (try simp (disch := omega) only [wrap64, wrapi64]); refine hK _ ?_; clear hK K))
                  (((try simp only [cl_seq, cl_skip]); refine cl_cond (b := false) rfl (fun h => nomatch h) (fun _ => ?_)))
                  (repeat ((try simp only [cl_seq, cl_skip]); with_reducible refine cg fun K hK => ?_; (simp (maxSteps := 1000000) only [go_sem, b9]); (repeat refine ck ?_); (try simp (disch := omega) only [wrap64, wrapi64]); refine hK _ ?_; clear hK K))
                  (((try simp only [cl_seq, cl_skip]); refine cl_cond (b := false) rfl (fun h => nomatch h) (fun _ => ?_)))
                  (repeat ((try simp only [cl_seq, cl_skip]); with_reducible refine cg fun K hK => ?_; (simp (maxSteps := 1000000) only [go_sem, b10]); (repeat refine ck ?_); (try simp (disch := omega) only [wrap64, wrapi64]); refine hK _ ?_; clear hK K))
                  (((try simp only [cl_seq, cl_skip]); refine cl_cond (b := false) rfl (fun h => nomatch h) (fun _ => ?_)))
                  by_cases k13 : kind = 13
                  · subst k13
                    clear hK1
                    simp only [↓reduceIte] at hr
                    have hgt := toldF_eq (s := { s with h := gh }) (e := ge) ⟨hg8, h2⟩
                    simp only [St.c, stc, stRV, resC] at hgt
                    (repeat ((try simp only [cl_seq, cl_skip]); with_reducible refine cg fun K hK => ?_; (simp (maxSteps := 1000000) only [go_sem]); (repeat refine ck ?_); (try simp (disch := omega) only [wrap64, wrapi64]); refine hK _ ?_; clear hK K))
                    (((try simp only [cl_seq, cl_skip]); refine cl_cond (b := true) rfl (fun _ => ?_) (fun h => nomatch h)))
                    (repeat ((try simp only [cl_seq, cl_skip]); with_reducible refine cg fun K hK => ?_; (simp (maxSteps := 1000000) only [go_sem, h1, h2, hge, hg8, hgt]); (repeat refine ck ?_); (try simp (disch := omega) only [wrap64, wrapi64]); refine hK _ ?_; clear hK K))
                    (((try simp only [cl_seq, cl_skip]); (try simp only [cl_ret]); refine hR1 _ (hR _ _ (.inr rfl) ?_); (simp (maxSteps := 1000000) only [go_sem, hg8, h2])))
                    rw [hr]; rfl
                  · have b13 : (kind == 13) = false := by simp [k13]
                    simp only [k13, ↓reduceIte] at hr
                    (repeat ((try simp only [cl_seq, cl_skip]); with_reducible refine cg fun K hK => ?_; (simp (maxSteps := 1000000) only [go_sem, b13]); (repeat refine ck ?_); (try simp (disch := omega) only [wrap64, wrapi64]); refine hK _ ?_; clear hK K))
                    (((try simp only [cl_seq, cl_skip]); refine cl_cond (b := false) rfl (fun h => nomatch h) (fun _ => ?_)))
                    obtain ⟨hs1, hs2⟩ := hbs
                    ((try simp only [cl_seq, cl_skip, cl_exit, cl_nil]))
                    refine hK1 _ ?_
                    (repeat ((try simp only [cl_seq, cl_skip]); with_reducible refine cg fun K hK => ?_; (simp (maxSteps := 1000000) only [go_sem, h1, h2, hbe, hs1, hs2]); (repeat refine ck ?_); (try simp (disch := omega) only [wrap64, wrapi64]); refine hK _ ?_; clear hK K))
                    (((try simp only [cl_seq, cl_skip]); (try simp only [cl_ret]); refine hR _ _ (.inr rfl) ?_; (simp (maxSteps := 1000000) only [go_sem, hs1, hs2])))
                    rw [hr]; rfl
end Go.Proofs.YtapdaefpkddioaaGreat.Pe
namespace Go.Proofs.YtapdaefpkddioaaGreat.Pe
open Go
set_option maxHeartbeats 1000000
def Er (s : St) (r : St × Int × Int × Int) : Prop := r.2.1 = 0 ∨ ∃ e, 1 ≤ e ∧ e ≤ 11 ∧ r = (s, e, 0, 0)
theorem Er.bad (s : St) {e : Int} (h1 : 1 ≤ e) (h2 : e ≤ 11) : Er s (s, e, 0, 0) := .inr ⟨e, h1, h2, rfl⟩
theorem Er.good {s t : St} {a b : Int} : Er s (t, 0, a, b) := .inl rfl
theorem takeV_err (h : Hpp) (o n a : Int) : (takeV h o n a).2.2 = 0 ∨ (1 ≤ (takeV h o n a).2.2 ∧ (takeV h o n a).2.2 ≤ 3 ∧ takeV h o n a = (h, 0, (takeV h o n a).2.2)) := by
  unfold takeV
  have hf := fit_is h.bl n a
  generalize fitV h.bl n a = f at *
  cases hf with
  | bad e he => simp only; split <;> simp <;> omega
  | good i need hi hf hn ha => simp
theorem take_er (s : St) (o n a : Int) : Er s ((takeSV s o n a).1, (takeSV s o n a).2.1, (takeSV s o n a).2.2, 0) := by
  unfold takeSV
  rcases takeV_err s.h o n a with h | ⟨h1, h2, _⟩
  · simp only [h, ↓reduceIte]; exact .good
  · simp only
    rw [if_neg (by omega)]
    exact .bad s h1 (show (takeV s.h o n a).2.2 ≤ 11 by omega)
theorem resizeV_err (h : Hpp) (p n : Int) : (resizeV h p n).2.2 = 0 ∨ (1 ≤ (resizeV h p n).2.2 ∧ (resizeV h p n).2.2 ≤ 4) := by
  unfold resizeV
  split
  · simp
  · split
    · split
      · simp
      · rename_i b need _ _ _
        rcases takeV_err h b.owner n 16 with h | ⟨h1, h2, _⟩
        · simp [h]
        · rw [if_neg (by omega)]; exact .inr ⟨h1, show (takeV h b.owner n 16).2.2 ≤ 4 by omega⟩
    · simp
theorem owned_err (s : St) (c : Int) (op : Opn) : (ownedV s c op).2 = 0 ∨ (ownedV s c op).2 = 4 ∨ (ownedV s c op).2 = 5 := by
  unfold ownedV
  split
  · exact .inr (.inl rfl)
  · simp only
    split
    · exact .inr (.inr rfl)
    · exact .inl rfl
theorem block_er (s : St) (c : Int) (op : Opn) : Er s (blockV s c op) := by
  unfold blockV
  simp only
  split
  · rcases owned_err s c op with h | h | h <;> first | contradiction | (rw [h]; exact .bad s (by omega) (by omega))
  split
  · split
    · rcases resizeV_err s.h op.off op.n with h | ⟨h1, h2⟩
      · contradiction
      · exact .bad s h1 (by omega)
    · exact .good
  split
  · split
    · exact .bad s (by omega) (by omega)
    · exact .good
  split
  · exact .good
  split
  · split
    · exact .bad s (by omega) (by omega)
    · split
      · exact .good
      · exact .bad s (by omega) (by omega)
  split
  · exact .bad s (by omega) (by omega)
  split <;> exact .good
theorem name_er (s : St) (op : Opn) : Er s (nameV s op) := by
  unfold nameV
  split
  · simp only
    split
    · split
      · exact .bad s (by omega) (by omega)
      · split <;> exact .good
    · split
      · exact .bad s (by omega) (by omega)
      · split
        · exact .bad s (by omega) (by omega)
        · split
          · exact .good
          · exact take_er s 0 op.n 16
  · exact .bad s (by omega) (by omega)
theorem do_er (s : St) (c : Int) (op : Opn) : Er s (doV s c op) := by
  unfold doV
  split
  · exact .bad s (by omega) (by omega)
  split
  · exact .bad s (by omega) (by omega)
  split
  · split
    · exact .bad s (by omega) (by omega)
    · exact .good
  split
  · split
    · exact .bad s (by omega) (by omega)
    · exact .good
  split
  · exact take_er s _ _ _
  split
  · exact take_er s _ _ _
  split
  · split
    · exact .bad s (by omega) (by omega)
    · exact take_er s _ _ _
  split
  · exact name_er s op
  split
  · simp only
    unfold growV
    split
    · exact .bad s (by omega) (by omega)
    · split
      · exact .bad s (by omega) (by omega)
      · exact .good
  · exact block_er s c op
end Go.Proofs.YtapdaefpkddioaaGreat.Pe
