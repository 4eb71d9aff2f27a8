/- A part of the proof of PmD. -/
import Derived.Test.YtapdaefpkddioaaGreatCb35
set_option linter.unusedSimpArgs false
set_option linter.unusedVariables false
set_option linter.unusedSectionVars false
namespace Go.Proofs.YtapdaefpkddioaaGreat.Pe
open Go
set_option maxHeartbeats 2000000
theorem merged_congr : ∀ {l m : List Bk}, l.map (·.used) = m.map (·.used) → merged l → merged m
  | [], [], _, _ => trivial
  | [], _ :: _, h, _ => by simp at h
  | _ :: _, [], h, _ => by simp at h
  | [_], [_], _, _ => trivial
  | [_], _ :: _ :: _, h, _ => by simp at h
  | _ :: _ :: _, [_], h, _ => by simp at h
  | a :: b :: l, c :: d :: m, h, hm => by
    simp only [List.map_cons, List.cons.injEq] at h
    refine ⟨?_, merged_congr (l := b :: l) (m := d :: m) (by simp [h.2.1, h.2.2]) hm.2⟩
    rw [← h.1, ← h.2.1]; exact hm.1
theorem chain_congr : ∀ {l m : List Bk} {a z : Int}, l.map (fun b => (b.off, b.size)) = m.map (fun b => (b.off, b.size)) → chain a l z → chain a m z
  | [], [], _, _, _, h => h
  | [], _ :: _, _, _, h, _ => by simp at h
  | _ :: _, [], _, _, h, _ => by simp at h
  | b :: l, c :: m, a, z, h, hc => by
    simp only [List.map_cons, List.cons.injEq, Prod.mk.injEq] at h
    refine ⟨by rw [← h.1.1]; exact hc.1, ?_⟩
    rw [← h.1.2]
    exact chain_congr h.2 hc.2
theorem map_set_same {α β : Type} {l : List α} {i : Nat} (hi : i < l.length) {c : α} {f : α → β} (hf : f c = f l[i]) : (l.set i c).map f = l.map f := by
  apply List.ext_getElem?
  intro j
  rw [List.getElem?_map, List.getElem?_map, List.getElem?_set]
  split
  · rename_i e; subst e
    simp [hi, hf]
  · rfl
theorem off_inj {h : Hpp} (v : h.Inv) {b c : Bk} (hb : b ∈ h.bl) (hc : c ∈ h.bl) (e : b.off = c.off) : b = c := by
  obtain ⟨i, hi, rfl⟩ := List.getElem_of_mem hb
  obtain ⟨j, hj, rfl⟩ := List.getElem_of_mem hc
  have := chain_inj v.ch (fun b hb => by have := (v.bs b hb).size0; omega) hi hj e
  subst this; rfl
theorem listDel_get (ls : List (List Int)) (o x : Int) (k : Nat) (hk : k < ls.length) (hk' : k < (listDel ls o x).length) : (listDel ls o x)[k] = if o = (k : Int) + 1 then ls[k].filter (· ≠ x) else ls[k] := by
  have key : (listDel ls o x)[k]? = some (if o = (k : Int) + 1 then ls[k].filter (· ≠ x) else ls[k]) := by
    unfold listDel
    split
    · rename_i h0
      by_cases e : o = (k : Int) + 1
      · have : (o - 1).toNat = k := by omega
        rw [this, if_pos e, List.getElem?_set_self hk, List.getElem?_eq_getElem hk, Option.getD_some]
      · have : ¬ (o - 1).toNat = k := by omega
        rw [if_neg e, List.getElem?_set_ne this, List.getElem?_eq_getElem hk]
    · rename_i h0
      rw [if_neg (by omega), List.getElem?_eq_getElem hk]
  exact (List.getElem?_eq_some_iff.1 key).2
theorem listAdd_get (ls : List (List Int)) (o x : Int) (k : Nat) (hk : k < ls.length) (hk' : k < (listAdd ls o x).length) : (listAdd ls o x)[k] = if o = (k : Int) + 1 then x :: ls[k] else ls[k] := by
  have key : (listAdd ls o x)[k]? = some (if o = (k : Int) + 1 then x :: ls[k] else ls[k]) := by
    unfold listAdd
    split
    · rename_i h0
      by_cases e : o = (k : Int) + 1
      · have : (o - 1).toNat = k := by omega
        rw [this, if_pos e, List.getElem?_set_self hk, List.getElem?_eq_getElem hk, Option.getD_some]
      · have : ¬ (o - 1).toNat = k := by omega
        rw [if_neg e, List.getElem?_set_ne this, List.getElem?_eq_getElem hk]
    · rename_i h0
      rw [if_neg (by omega), List.getElem?_eq_getElem hk]
  exact (List.getElem?_eq_some_iff.1 key).2
theorem listAdd_len (ls : List (List Int)) (o x : Int) : (listAdd ls o x).length = ls.length := by unfold listAdd; split <;> simp
theorem ownerH_inv {h : Hpp} (v : h.Inv) {i : Nat} (hi : i < h.bl.length) (hu : h.bl[i].used = true) {who : Int} (w0 : 0 ≤ who) (w1 : who ≤ 8) :
    ({ h with bl := h.bl.set i { h.bl[i] with owner := who }, ls := listAdd (listDel h.ls h.bl[i].owner h.bl[i].off) who h.bl[i].off } : Hpp).Inv := by
  have hg := v.bs _ (List.getElem_mem hi)
  have hmem : ∀ b, b ∈ h.bl.set i { h.bl[i] with owner := who } ↔ (b = { h.bl[i] with owner := who }) ∨ (b ∈ h.bl ∧ b.off ≠ h.bl[i].off) := by
    intro b
    constructor
    · intro hb
      obtain ⟨j, hj, rfl⟩ := List.getElem_of_mem hb
      rw [List.length_set] at hj
      rw [List.getElem_set]
      split
      · exact .inl rfl
      · rename_i hne
        refine .inr ⟨List.getElem_mem hj, fun e => hne ?_⟩
        exact (chain_inj v.ch (fun b hb => by have := (v.bs b hb).size0; omega) hj hi e).symm
    · rintro (rfl | ⟨hb, hne⟩)
      · exact List.mem_iff_getElem.2 ⟨i, by rw [List.length_set]; exact hi, by simp⟩
      · obtain ⟨j, hj, rfl⟩ := List.getElem_of_mem hb
        refine List.mem_iff_getElem.2 ⟨j, by rw [List.length_set]; exact hj, ?_⟩
        rw [List.getElem_set_ne]
        rintro rfl
        exact hne rfl
  refine ⟨by simp only; rw [listAdd_len, listDel_len]; exact v.eight, chain_congr (l := h.bl) (map_set_same (c := { h.bl[i] with owner := who }) (f := fun b => (b.off, b.size)) hi rfl).symm v.ch, v.fin1, ?_, ?_, merged_congr (l := h.bl) (map_set_same (c := { h.bl[i] with owner := who }) (f := fun b => b.used) hi rfl).symm v.mg⟩
  · intro b hb
    rcases (hmem b).1 hb with rfl | ⟨hb, _⟩
    · exact ⟨hg.size0, hg.size16, w0, w1, hg.len0, hg.need, fun hf => by simp only [hu] at hf; cases hf⟩
    · exact v.bs b hb
  · intro k hk
    simp only at hk ⊢
    have hk1 : k < (listDel h.ls h.bl[i].owner h.bl[i].off).length := by rw [listAdd_len] at hk; exact hk
    have hk0 : k < h.ls.length := by rw [listDel_len] at hk1; exact hk1
    have ow := v.own k hk0
    rw [listAdd_get _ _ _ _ hk1 hk, listDel_get _ _ _ _ hk0 hk1]
    have hx : h.bl[i].off ∈ h.ls[k] ↔ h.bl[i].owner = (k : Int) + 1 := by
      rw [ow.mem]
      constructor
      · rintro ⟨b, hb, _, h2, h3⟩
        have := off_inj v hb (List.getElem_mem hi) h3
        rw [← this]; exact h2
      · intro e
        exact ⟨_, List.getElem_mem hi, hu, e, rfl⟩
    have hrest : ∀ y, (y ∈ (if h.bl[i].owner = (k : Int) + 1 then h.ls[k].filter (· ≠ h.bl[i].off) else h.ls[k])) ↔ y ∈ h.ls[k] ∧ y ≠ h.bl[i].off := by
      intro y
      split
      · simp
      · rename_i hne
        constructor
        · intro hy
          refine ⟨hy, fun e => hne ?_⟩
          subst e
          exact hx.1 hy
        · exact fun h => h.1
    have hndr : (if h.bl[i].owner = (k : Int) + 1 then h.ls[k].filter (· ≠ h.bl[i].off) else h.ls[k]).Nodup := by
      split
      · exact ow.nd.filter _
      · exact ow.nd
    refine ⟨?_, fun y => ?_⟩
    · split
      · exact List.nodup_cons.2 ⟨fun hc => ((hrest _).1 hc).2 rfl, hndr⟩
      · exact hndr
    · have hr : (∃ b ∈ h.bl.set i { h.bl[i] with owner := who }, b.used = true ∧ b.owner = (k : Int) + 1 ∧ b.off = y) ↔ (who = (k : Int) + 1 ∧ y = h.bl[i].off) ∨ (y ∈ h.ls[k] ∧ y ≠ h.bl[i].off) := by
        constructor
        · rintro ⟨b, hb, h1, h2, h3⟩
          rcases (hmem b).1 hb with rfl | ⟨hb, hne⟩
          · exact .inl ⟨h2, h3.symm⟩
          · exact .inr ⟨(ow.mem y).2 ⟨b, hb, h1, h2, h3⟩, by rw [← h3]; exact hne⟩
        · rintro (⟨h1, h2⟩ | ⟨h1, h2⟩)
          · exact ⟨_, (hmem _).2 (.inl rfl), hu, h1, h2.symm⟩
          · obtain ⟨b, hb, q1, q2, q3⟩ := (ow.mem y).1 h1
            exact ⟨b, (hmem b).2 (.inr ⟨hb, by rw [q3]; exact h2⟩), q1, q2, q3⟩
      rw [hr]
      by_cases hw : who = (k : Int) + 1
      · rw [if_pos hw, List.mem_cons, hrest]
        simp [hw]
      · rw [if_neg hw, hrest]
        simp [hw]
section
variable {K : Nat} {s : St} {S B M : Nat} {ml : List Mb} {H : Hp} {nx : Nat} {c : Int} {op : Opn}
theorem Ms.owner (h : Ms K s S B M ml H nx) {i : Nat} (hi : i < ml.length) (hu : ml[i].b.used = true) (hne : ml[i].b.owner ≠ 0) {who : Int} (w0 : 0 ≤ who) (w1 : who ≤ 8) :
    Ms K (ownerV s i who) S B M (ml.set i ⟨{ ml[i].b with owner := who }, ml[i].d⟩) (updO H B (blkO (ml.set i ⟨{ ml[i].b with owner := who }, ml[i].d⟩))) nx := by
  have hib : i < s.h.bl.length := by rw [← h.bs, bks_len]; exact hi
  have hbg : s.h.bl[i] = ml[i].b := by simp only [← h.bs, bks, List.getElem_map]
  have hov : ownerV s i who = { s with h := { s.h with bl := s.h.bl.set i { s.h.bl[i] with owner := who }, ls := listAdd (listDel s.h.ls s.h.bl[i].owner s.h.bl[i].off) who s.h.bl[i].off } } := by
    unfold ownerV; rw [List.getElem?_eq_getElem hib]
  have hinv := ownerH_inv h.wk.hi hib (by rw [hbg]; exact hu) w0 w1
  obtain ⟨lM, nS, nB⟩ := h.ltM
  obtain ⟨hs1, _⟩ := set_hs h.hs (ml.set i ⟨{ ml[i].b with owner := who }, ml[i].d⟩) (by simp)
  rw [hov]
  have hmap : ∀ {β : Type} (f : Mb → β), f ⟨{ ml[i].b with owner := who }, ml[i].d⟩ = f ml[i] → (ml.set i ⟨{ ml[i].b with owner := who }, ml[i].d⟩).map f = ml.map f := fun f hf => map_set_same hi hf
  have hud : ∀ l l' : List Mb, l.map (fun m => (m.b.used, m.d)) = l'.map (fun m => (m.b.used, m.d)) → (usedM l).filterMap (·.d.oid) = (usedM l').filterMap (·.d.oid) := by
    intro l
    induction l with
    | nil => intro l' e; cases l' with
      | nil => rfl
      | cons => simp at e
    | cons m l ih => intro l' e; cases l' with
      | nil => simp at e
      | cons m' l' =>
        simp only [List.map_cons, List.cons.injEq, Prod.mk.injEq] at e
        have := ih l' e.2
        unfold usedM at this ⊢
        rw [List.filter_cons, List.filter_cons, e.1.1]
        split
        · rw [List.filterMap_cons, List.filterMap_cons, e.1.2, this]
        · exact this
  refine ⟨hs1, by rw [updO_ne nB]; exact h.mp, ?_, ?_, ?_, ?_, ⟨hinv, h.wk.lv8, h.wk.fin1, h.wk.all0, h.wk.all1, h.wk.dl, h.wk.ds, h.wk.nl⟩, h.dl, h.pos, ?_⟩
  · rw [bks_set, h.bs, hbg]
  · intro m hm
    obtain ⟨h1, h2⟩ := mem_usedM.1 hm
    rcases List.mem_or_eq_of_mem_set h1 with h1 | h1
    · exact (h.dt m (mem_usedM.2 ⟨h1, h2⟩)).frame fun o ho => updO_ne (h.oid (mem_usedM.2 ⟨h1, h2⟩) ho).2.2.1
    · subst h1
      have hmi : ml[i] ∈ usedM ml := mem_usedM.2 ⟨List.getElem_mem hi, hu⟩
      exact (h.dt _ hmi).frame fun o ho => updO_ne (h.oid hmi ho).2.2.1
  · intro m hm hf
    rcases List.mem_or_eq_of_mem_set hm with h1 | h1
    · exact h.df m h1 hf
    · subst h1; simp only [hu] at hf; cases hf
  · rw [hud _ ml (hmap (fun m => (m.b.used, m.d)) rfl)]
    exact h.nd
  · refine h.nm.mono rfl fun b hb hbu hbo => ⟨b, ?_, hbu, hbo, rfl⟩
    obtain ⟨j, hj, rfl⟩ := List.getElem_of_mem hb
    refine List.mem_iff_getElem.2 ⟨j, by simp only [List.length_set]; exact hj, ?_⟩
    simp only
    rw [List.getElem_set_ne]
    rintro rfl
    rw [hbg] at hbo
    exact hne hbo
end
end Go.Proofs.YtapdaefpkddioaaGreat.Pe
namespace Go.Proofs.YtapdaefpkddioaaGreat.Pe
open Go
set_option maxHeartbeats 2000000
noncomputable def Cx30 : (Nat → Prop) → Ctx := fun X => { nt := 28, tt := tt, fns := ofList [(63, .eff mineT), (28, .pure failF)], keep := keep39, X := X }
noncomputable def publishT : List AD → Hp → Nat → Option (RV × Hp × Nat) := semT Tryz.f39 Cx30 Tryz.f39.results
theorem publishT_ok : FnEff Tryz.prog 39 publishT := semT_ok mixed Tryz.func39 rfl (fun X => ok_of (l := [(63, .eff mineT), (28, .pure failF)]) tt_ok ⟨mineT_ok, by kernel_rfl, fail_ok, by kernel_rfl, trivial⟩ (noEqs _)) (fun _ => rfl) (fun _ => rfl) (by decide) rfl
noncomputable def Cx31 : (Nat → Prop) → Ctx := fun X => { nt := 52, tt := tt, fns := ofList [(63, .eff mineT), (28, .pure failF)], keep := keep40, X := X }
noncomputable def giveT : List AD → Hp → Nat → Option (RV × Hp × Nat) := semT Tryz.f40 Cx31 Tryz.f40.results
theorem giveT_ok : FnEff Tryz.prog 40 giveT := semT_ok mixed Tryz.func40 rfl (fun X => ok_of (l := [(63, .eff mineT), (28, .pure failF)]) tt_ok ⟨mineT_ok, by kernel_rfl, fail_ok, by kernel_rfl, trivial⟩ (noEqs _)) (fun _ => rfl) (fun _ => rfl) (by decide) rfl
noncomputable def Cx26 : (Nat → Prop) → Ctx := fun X => { nt := 49, tt := tt, fns := ofList [(63, .eff mineT), (28, .pure failF)], keep := keep35, X := X }
noncomputable def readT : List AD → Hp → Nat → Option (RV × Hp × Nat) := semT Tryz.f35 Cx26 Tryz.f35.results
theorem readT_ok : FnEff Tryz.prog 35 readT := semT_ok mixed Tryz.func35 rfl (fun X => ok_of (l := [(63, .eff mineT), (28, .pure failF)]) tt_ok ⟨mineT_ok, by kernel_rfl, fail_ok, by kernel_rfl, trivial⟩ (noEqs _)) (fun _ => rfl) (fun _ => rfl) (by decide) rfl
noncomputable def Cx25 : (Nat → Prop) → Ctx := fun X => { nt := 50, tt := tt, fns := ofList [(63, .eff mineT), (28, .pure failF)], keep := keep34, X := X }
noncomputable def writeT : List AD → Hp → Nat → Option (RV × Hp × Nat) := semT Tryz.f34 Cx25 Tryz.f34.results
theorem writeT_ok : FnEff Tryz.prog 34 writeT := semT_ok mixed Tryz.func34 rfl (fun X => ok_of (l := [(63, .eff mineT), (28, .pure failF)]) tt_ok ⟨mineT_ok, by kernel_rfl, fail_ok, by kernel_rfl, trivial⟩ (noEqs _)) (fun _ => rfl) (fun _ => rfl) (by decide) rfl
section
variable {K : Nat} {s : St} {S B M : Nat} {ml : List Mb} {H : Hp} {nx : Nat} {c : Int} {op : Opn}
inductive MineIs (s : St) (ml : List Mb) (c : Int) (op : Opn) (al : Bool) : Int × Int → Prop
  | no (e : Int) (i : Int) (h : e = 4 ∨ e = 5) (hd : ownedV s c op = (i, e)) : MineIs s ml c op al (i, e)
  | yes (i : Nat) (hi : i < ml.length) (hu : ml[i].b.used = true) (hp : ml[i].b.off + 32 = op.off) (hd : ownedV s c op = ((i : Int), 0)) (ho : ml[i].b.owner = c + 1 ∨ (al = true ∧ ml[i].b.owner = 0)) : MineIs s ml c op al ((i : Int), 0)
theorem Ms.mine (h : Ms K s S B M ml H nx) (al : Bool) (hal : pubK op.kind = al) : MineIs s ml c op al (mineV (bks ml) c op.off al) := by
  have hbl := bks_len ml
  unfold mineV
  have hov : ownedV s c op = match placeN s.h.bl op.off with
    | none => (-1, 4)
    | some i => (i, if (((s.h.bl[i]?.map (·.owner)).getD 0 != c + 1) && ((s.h.bl[i]?.map (·.owner)).getD 0 != 0 || !pubK op.kind)) then 5 else 0) := rfl
  rw [← h.bs] at hov
  cases hp : placeN (bks ml) op.off with
  | none => rw [hp] at hov; exact .no 4 (-1) (.inl rfl) hov
  | some i =>
    rw [hp] at hov
    obtain ⟨hi, h1, h2⟩ := place_some hp
    have hi' : i < ml.length := by rw [← hbl]; exact hi
    have hbi : (bks ml)[i]? = some ml[i].b := by simp [bks, hi']
    have hbg : (bks ml)[i] = ml[i].b := by simp [bks]
    rw [hbg] at h1 h2
    simp only [hbi, Option.map_some, Option.getD_some, hal] at hov ⊢
    have e : ((ml[i].b.owner != c + 1) && !(al && ml[i].b.owner == 0)) = ((ml[i].b.owner != c + 1) && (ml[i].b.owner != 0 || !al)) := by
      cases al <;> simp [bne]
    rw [e]
    split at hov
    · rename_i hc
      rw [if_pos hc]
      exact .no 5 i (.inr rfl) hov
    · rename_i hc
      rw [if_neg hc]
      refine .yes i hi' h1 h2 hov ?_
      cases al with
      | false => left; simpa using hc
      | true =>
        by_cases ho : ml[i].b.owner = c + 1
        · exact .inl ho
        · right
          refine ⟨rfl, ?_⟩
          simpa [ho] using hc
theorem publish_run (h : Ms K s S B M ml H nx) (c0 : 0 ≤ c) (c1 : c ≤ 7) (hk : op.kind = 11) : OpRes publishT K s S M H nx c op (blockV s c op) := by
  have h8 := h.wk.lv8
  have hlo := rowsO_len s.live
  have hS := h.hs.top
  have hB := h.hs.bl
  have hmi := mineT_eq (c := c) (op := op) (al := false) h8 h.hs (by have := h.len; omega) h.offs c0 c1
  have hm := h.mine (c := c) (op := op) false (by simp [pubK, hk])
  generalize mineV (bks ml) c op.off false = mv at *
  cases hm with
  | no e i he hd =>
    have hbv : blockV s c op = (s, e, 0, 0) := by unfold blockV; simp only [hd]; rw [if_pos (by omega)]
    rw [hbv]
    refine ⟨B, ml, H, nx, ?_, h.more⟩
    unfold publishT
    rw [Tryz.results39]
    refine semT_eq rfl (by simp [Tryz.ntmps39]) fun X R hR => ?_
    unfold Cx30 at hR ⊢
    simp only [resC] at hR
    simp only [iiRV, Opn.c] at hmi
    (repeat ((try simp only [cl_seq, cl_skip]); with_reducible refine cg fun K hK => ?_; (simp (maxSteps := 1000000) only [go_sem, Opn.c, hmi]); (repeat refine ck ?_); (try simp (disch := omega) only [wrap64, wrapi64]); refine hK _ ?_; clear hK K))
    (((try simp only [cl_seq, cl_skip]); refine cl_cond rfl (fun g => ?_) (fun g => ?_)))
    · (repeat ((try simp only [cl_seq, cl_skip]); with_reducible refine cg fun K hK => ?_; (simp (maxSteps := 1000000) only [go_sem, failF_eq]); (repeat refine ck ?_); (try simp (disch := omega) only [wrap64, wrapi64]); refine hK _ ?_; clear hK K))
      (((try simp only [cl_seq, cl_skip]); (try simp only [cl_ret]); refine hR _ _ (.inr rfl) ?_; (simp (maxSteps := 1000000) only [go_sem])))
    · exact absurd g (by simp; omega)
  | yes i hi hu hp hd ho =>
    have hown : ml[i].b.owner = c + 1 := by
      rcases ho with ho | ho
      · exact ho
      · exact absurd ho.1 (by simp)
    have hbv : blockV s c op = (ownerV s i 0, 0, 0, 0) := by unfold blockV; simp [hd, hk]
    rw [hbv]
    have hms := h.owner hi hu (by omega) (who := 0) (by omega) (by omega)
    refine ⟨B, _, _, nx, ?_, hms.more⟩
    unfold publishT
    rw [Tryz.results39]
    refine semT_eq rfl (by simp [Tryz.ntmps39]) fun X R hR => ?_
    unfold Cx30 at hR ⊢
    simp only [resC] at hR
    simp only [iiRV, Opn.c] at hmi
    (repeat ((try simp only [cl_seq, cl_skip]); with_reducible refine cg fun K hK => ?_; (simp (maxSteps := 1000000) only [go_sem, Opn.c, hmi]); (repeat refine ck ?_); (try simp (disch := omega) only [wrap64, wrapi64]); refine hK _ ?_; clear hK K))
    (((try simp only [cl_seq, cl_skip]); refine cl_cond rfl (fun g => ?_) (fun g => ?_)))
    · exact absurd g (by simp)
    · (repeat ((try simp only [cl_seq, cl_skip]); with_reducible refine cg fun K hK => ?_; (simp (maxSteps := 1000000) only [go_sem, hS, hB, hlo, h8, hi]); (repeat refine ck ?_); (try simp (disch := omega) only [wrap64, wrapi64]); refine hK _ ?_; clear hK K))
      (((try simp only [cl_seq, cl_skip]); (try simp only [cl_ret]); refine hR _ _ (.inr rfl) ?_; (simp (maxSteps := 1000000) only [go_sem])))
theorem give_run (h : Ms K s S B M ml H nx) (c0 : 0 ≤ c) (c1 : c ≤ 7) (hk : op.kind = 12) : OpRes giveT K s S M H nx c op (blockV s c op) := by
  have h8 := h.wk.lv8
  have hlo := rowsO_len s.live
  have hS := h.hs.top
  have hB := h.hs.bl
  have hmi := mineT_eq (c := c) (op := op) (al := false) h8 h.hs (by have := h.len; omega) h.offs c0 c1
  have hm := h.mine (c := c) (op := op) false (by simp [pubK, hk])
  generalize mineV (bks ml) c op.off false = mv at *
  cases hm with
  | no e i he hd =>
    have hbv : blockV s c op = (s, e, 0, 0) := by unfold blockV; simp only [hd]; rw [if_pos (by omega)]
    rw [hbv]
    refine ⟨B, ml, H, nx, ?_, h.more⟩
    unfold giveT
    rw [Tryz.results40]
    refine semT_eq rfl (by simp [Tryz.ntmps40]) fun X R hR => ?_
    unfold Cx31 at hR ⊢
    simp only [resC] at hR
    simp only [iiRV, Opn.c] at hmi
    (repeat ((try simp only [cl_seq, cl_skip]); with_reducible refine cg fun K hK => ?_; (simp (maxSteps := 1000000) only [go_sem, Opn.c, hmi]); (repeat refine ck ?_); (try simp (disch := omega) only [wrap64, wrapi64]); refine hK _ ?_; clear hK K))
    (((try simp only [cl_seq, cl_skip]); refine cl_block fun K hK1 R hR1 X hX1 => ?_))
    (repeat ((try simp only [cl_seq, cl_skip]); with_reducible refine cg fun K hK => ?_; (simp (maxSteps := 1000000) only [go_sem]); (repeat refine ck ?_); (try simp (disch := omega) only [wrap64, wrapi64]); refine hK _ ?_; clear hK K))
    (((try simp only [cl_seq, cl_skip]); refine cl_cond rfl (fun g => ?_) (fun g => ?_)))
    · (repeat ((try simp only [cl_seq, cl_skip]); with_reducible refine cg fun K hK => ?_; (simp (maxSteps := 1000000) only [go_sem, failF_eq]); (repeat refine ck ?_); (try simp (disch := omega) only [wrap64, wrapi64]); refine hK _ ?_; clear hK K))
      (((try simp only [cl_seq, cl_skip]); (try simp only [cl_ret]); refine hR1 _ (hR _ _ (.inr rfl) ?_); (simp (maxSteps := 1000000) only [go_sem])))
    · exact absurd g (by simp; omega)
  | yes i hi hu hp hd ho =>
    have hown : ml[i].b.owner = c + 1 := by
      rcases ho with ho | ho
      · exact ho
      · exact absurd ho.1 (by simp)
    by_cases ht : op.to_ < 0 ∨ 7 < op.to_
    · have hbv : blockV s c op = (s, 1, 0, 0) := by unfold blockV; simp [hd, hk, ht]
      rw [hbv]
      refine ⟨B, ml, H, nx, ?_, h.more⟩
      unfold giveT
      rw [Tryz.results40]
      refine semT_eq rfl (by simp [Tryz.ntmps40]) fun X R hR => ?_
      unfold Cx31 at hR ⊢
      simp only [resC] at hR
      simp only [iiRV, Opn.c] at hmi
      (repeat ((try simp only [cl_seq, cl_skip]); with_reducible refine cg fun K hK => ?_; (simp (maxSteps := 1000000) only [go_sem, Opn.c, hmi]); (repeat refine ck ?_); (try simp (disch := omega) only [wrap64, wrapi64]); refine hK _ ?_; clear hK K))
      (((try simp only [cl_seq, cl_skip]); refine cl_block fun K hK1 R hR1 X hX1 => ?_))
      (repeat ((try simp only [cl_seq, cl_skip]); with_reducible refine cg fun K hK => ?_; (simp (maxSteps := 1000000) only [go_sem]); (repeat refine ck ?_); (try simp (disch := omega) only [wrap64, wrapi64]); refine hK _ ?_; clear hK K))
      (((try simp only [cl_seq, cl_skip]); refine cl_cond rfl (fun g => ?_) (fun g => ?_)))
      · exact absurd g (by simp)
      · (((try simp only [cl_seq, cl_skip]); refine cl_reg_b (g := ?g123) (t := ?t123) (L := ?L123) ((decide (op.to_ < 0) || decide (8 ≤ op.to_))) (fun K hK => ?h1123) ?h2123; case' h1123 => (simp (maxSteps := 1000000) only [go_sem, ge_iff_le]); (repeat refine ck ?_); (repeat' (((refine ite_split (fun hb => ?_) (fun hb => ?_) <;> ((try (simp (maxSteps := 1000000) only [go_sem, hb, ge_iff_le])); (repeat refine ck ?_)))))); all_goals (first | ((try simp (disch := omega) only [wrap64, wrapi64]); refine hK _ ?_; clear hK K; first | rfl | grind | skip) | skip)))
        all_goals try (simp only [*, Bool.false_or, Bool.true_or, Bool.or_true]; done)
        (((try simp only [cl_seq, cl_skip]); refine cl_cond rfl (fun g2 => ?_) (fun g2 => ?_)))
        · (repeat ((try simp only [cl_seq, cl_skip]); with_reducible refine cg fun K hK => ?_; (simp (maxSteps := 1000000) only [go_sem, failF_eq]); (repeat refine ck ?_); (try simp (disch := omega) only [wrap64, wrapi64]); refine hK _ ?_; clear hK K))
          (((try simp only [cl_seq, cl_skip]); (try simp only [cl_ret]); refine hR1 _ (hR _ _ (.inr rfl) ?_); (simp (maxSteps := 1000000) only [go_sem])))
        · exfalso; simp at g2; omega
    · obtain ⟨k, hkk⟩ : ∃ k : Nat, op.to_ = k := ⟨op.to_.toNat, by omega⟩
      have hk8 : k < s.live.length := by omega
      have hgd : decide (op.to_ < 0) = false := by simp; omega
      have hgd2 : decide (8 ≤ op.to_) = false := by simp; omega
      cases hl : s.live[k] with
      | false =>
        have hbv : blockV s c op = (s, 6, 0, 0) := by unfold blockV; simp [hd, hk, ht, hkk, hk8, hl]; omega
        rw [hbv]
        refine ⟨B, ml, H, nx, ?_, h.more⟩
        unfold giveT
        rw [Tryz.results40]
        refine semT_eq rfl (by simp [Tryz.ntmps40]) fun X R hR => ?_
        unfold Cx31 at hR ⊢
        simp only [resC] at hR
        simp only [iiRV, Opn.c] at hmi
        rw [hkk] at hmi hgd hgd2
        (repeat ((try simp only [cl_seq, cl_skip]); with_reducible refine cg fun K hK => ?_; (simp (maxSteps := 1000000) only [go_sem, Opn.c, hkk, hmi]); (repeat refine ck ?_); (try simp (disch := omega) only [wrap64, wrapi64]); refine hK _ ?_; clear hK K))
        (((try simp only [cl_seq, cl_skip]); refine cl_block fun K hK1 R hR1 X hX1 => ?_))
        (repeat ((try simp only [cl_seq, cl_skip]); with_reducible refine cg fun K hK => ?_; (simp (maxSteps := 1000000) only [go_sem]); (repeat refine ck ?_); (try simp (disch := omega) only [wrap64, wrapi64]); refine hK _ ?_; clear hK K))
        (((try simp only [cl_seq, cl_skip]); refine cl_cond rfl (fun g => ?_) (fun g => ?_)))
        · exact absurd g (by simp)
        · (repeat ((try simp only [cl_seq, cl_skip]); with_reducible refine cg fun K hK => ?_; (simp (maxSteps := 1000000) only [go_sem, hgd, hgd2, ge_iff_le]); (repeat refine ck ?_); (try simp (disch := omega) only [wrap64, wrapi64]); refine hK _ ?_; clear hK K))
          (((try simp only [cl_seq, cl_skip]); refine cl_cond (b := false) rfl (fun h => nomatch h) (fun _ => ?_)))
          (repeat ((try simp only [cl_seq, cl_skip]); with_reducible refine cg fun K hK => ?_; (simp (maxSteps := 1000000) only [go_sem, hS, hlo, h8, topR_rd _ _ _ _ _ _ hk8, hl, Bool.not_false]); (repeat refine ck ?_); (try simp (disch := omega) only [wrap64, wrapi64]); refine hK _ ?_; clear hK K))
          (((try simp only [cl_seq, cl_skip]); refine cl_cond (b := true) rfl (fun _ => ?_) (fun h => nomatch h)))
          (repeat ((try simp only [cl_seq, cl_skip]); with_reducible refine cg fun K hK => ?_; (simp (maxSteps := 1000000) only [go_sem, failF_eq]); (repeat refine ck ?_); (try simp (disch := omega) only [wrap64, wrapi64]); refine hK _ ?_; clear hK K))
          (((try simp only [cl_seq, cl_skip]); (try simp only [cl_ret]); refine hR1 _ (hR _ _ (.inr rfl) ?_); (simp (maxSteps := 1000000) only [go_sem])))
      | true =>
        have hbv : blockV s c op = (ownerV s i (op.to_ + 1), 0, 0, 0) := by unfold blockV; simp [hd, hk, ht, hkk, hk8, hl]; omega
        rw [hbv]
        have hms := h.owner hi hu (by omega) (who := op.to_ + 1) (by omega) (by omega)
        refine ⟨B, _, _, nx, ?_, hms.more⟩
        unfold giveT
        rw [Tryz.results40]
        refine semT_eq rfl (by simp [Tryz.ntmps40]) fun X R hR => ?_
        unfold Cx31 at hR ⊢
        simp only [resC] at hR
        simp only [iiRV, Opn.c] at hmi
        rw [hkk] at hmi hgd hgd2 hR
        (repeat ((try simp only [cl_seq, cl_skip]); with_reducible refine cg fun K hK => ?_; (simp (maxSteps := 1000000) only [go_sem, Opn.c, hkk, hmi]); (repeat refine ck ?_); (try simp (disch := omega) only [wrap64, wrapi64]); refine hK _ ?_; clear hK K))
        (((try simp only [cl_seq, cl_skip]); refine cl_block fun K hK1 R hR1 X hX1 => ?_))
        (repeat ((try simp only [cl_seq, cl_skip]); with_reducible refine cg fun K hK => ?_; (simp (maxSteps := 1000000) only [go_sem]); (repeat refine ck ?_); (try simp (disch := omega) only [wrap64, wrapi64]); refine hK _ ?_; clear hK K))
        (((try simp only [cl_seq, cl_skip]); refine cl_cond rfl (fun g => ?_) (fun g => ?_)))
        · exact absurd g (by simp)
        · (repeat ((try simp only [cl_seq, cl_skip]); with_reducible refine cg fun K hK => ?_; (simp (maxSteps := 1000000) only [go_sem, hgd, hgd2, ge_iff_le]); (repeat refine ck ?_); (try simp (disch := omega) only [wrap64, wrapi64]); refine hK _ ?_; clear hK K))
          (((try simp only [cl_seq, cl_skip]); refine cl_cond (b := false) rfl (fun h => nomatch h) (fun _ => ?_)))
          (repeat ((try simp only [cl_seq, cl_skip]); with_reducible refine cg fun K hK => ?_; (simp (maxSteps := 1000000) only [go_sem, hS, hlo, h8, topR_rd _ _ _ _ _ _ hk8, hl, Bool.not_true]); (repeat refine ck ?_); (try simp (disch := omega) only [wrap64, wrapi64]); refine hK _ ?_; clear hK K))
          (((try simp only [cl_seq, cl_skip]); refine cl_cond (b := false) rfl (fun h => nomatch h) (fun _ => ?_)))
          ((try simp only [cl_seq, cl_skip, cl_exit, cl_nil]))
          refine hK1 _ ?_
          (repeat ((try simp only [cl_seq, cl_skip]); with_reducible refine cg fun K hK => ?_; (simp (maxSteps := 1000000) only [go_sem, hS, hB, hlo, h8, hi, wrapi64 (n := (k : Int) + 1) (by omega) (by omega)]); (repeat refine ck ?_); (try simp (disch := omega) only [wrap64, wrapi64]); refine hK _ ?_; clear hK K))
          (((try simp only [cl_seq, cl_skip]); (try simp only [cl_ret]); refine hR _ _ (.inr rfl) ?_; (simp (maxSteps := 1000000) only [go_sem])))
end
end Go.Proofs.YtapdaefpkddioaaGreat.Pe
