/- A part of the proof of PmD. -/
import Derived.Laws.Strings
import Derived.Test.YtapdaefpkddioaaGreatCb34
set_option linter.unusedSimpArgs false
set_option linter.unusedVariables false
set_option linter.unusedSectionVars false
namespace Go.Proofs.YtapdaefpkddioaaGreat.Pe
open Go
set_option maxHeartbeats 2000000
def dlV : List Wd → Int → List Int
  | [], _ => []
  | w :: l, p => if w.off = p then w.d else dlV l p
theorem dataV_eq (s : St) (p : Int) : dataV s p = dlV s.data p := by
  unfold dataV
  generalize s.data = l
  induction l with
  | nil => rfl
  | cons w l ih =>
    simp only [List.findIdx?_cons, dlV]
    by_cases h : w.off = p
    · simp [h]
    · have hb : (w.off == p) = false := by simpa using h
      rw [hb, if_neg h, ← ih]
      cases hf : l.findIdx? (fun x => x.off == p) <;> simp
theorem dlV_drop (l : List Wd) (x p : Int) : dlV (dropV l x) p = if p = x then [] else dlV l p := by
  induction l with
  | nil => simp [dropV, dlV]
  | cons w l ih =>
    unfold dropV at ih ⊢
    by_cases h : w.off = x
    · have hd : decide (w.off ≠ x) = false := by simp [h]
      rw [List.filter_cons, hd]
      simp only [Bool.false_eq_true, ↓reduceIte, ih, dlV]
      by_cases hp : p = x
      · simp [hp]
      · rw [if_neg hp, if_neg hp, if_neg (by omega)]
    · have hd : decide (w.off ≠ x) = true := by simp [h]
      rw [List.filter_cons, hd]
      simp only [↓reduceIte, dlV, ih]
      by_cases hp : p = x
      · simp [hp, h]
      · simp [hp]
theorem dlV_app (l m : List Wd) (p : Int) (h : ∀ w ∈ l, w.off ≠ p) : dlV (l ++ m) p = dlV m p := by
  induction l with
  | nil => rfl
  | cons w l ih =>
    simp only [List.cons_append, dlV]
    rw [if_neg (h w (by simp)), ih (fun x hx => h x (by simp [hx]))]
theorem dlV_one (l : List Wd) (x : Int) (d : List Int) (p : Int) (h : p ≠ x) : dlV (l ++ [⟨x, d⟩]) p = dlV l p := by
  induction l with
  | nil => simp only [List.nil_append, dlV]; rw [if_neg (fun e => h e.symm)]
  | cons w l ih => simp only [List.cons_append, dlV, ih]
theorem dlV_put (l : List Wd) (x : Int) (d : List Int) (p : Int) : dlV (putV l x d) p = if p = x then d else dlV l p := by
  unfold putV
  by_cases hp : p = x
  · subst hp
    rw [dlV_app _ _ _ (fun w hw => by simp only [dropV, List.mem_filter] at hw; simpa using hw.2)]
    simp [dlV]
  · rw [dlV_one _ _ _ _ hp, dlV_drop, if_neg hp, if_neg hp]
theorem putV_len (l : List Wd) (x : Int) (d : List Int) : (putV l x d).length ≤ l.length + 1 := by
  have := dropV_len l x
  simp [putV]; omega
theorem putV_sm {l : List Wd} {x : Int} {d : List Int} (h : ∀ w ∈ l, Sm w.d) (hd : Sm d) : ∀ w ∈ putV l x d, Sm w.d := by
  intro w hw
  rcases List.mem_append.1 hw with hw | hw
  · exact h w (List.mem_filter.1 hw).1
  · simp only [List.mem_singleton] at hw; rw [hw]; exact hd
theorem dropV_sm {l : List Wd} {x : Int} (h : ∀ w ∈ l, Sm w.d) : ∀ w ∈ dropV l x, Sm w.d := fun w hw => h w (List.mem_filter.1 hw).1
theorem sizedV_nil (w : Nat) : sizedV [] w = List.replicate w 0 := by simp [sizedV]
theorem chain_inj {a z : Int} {l : List Bk} (h : chain a l z) (hs : ∀ b ∈ l, 0 < b.size) {i j : Nat} (hi : i < l.length) (hj : j < l.length) (hij : l[i].off = l[j].off) : i = j := by
  have key : ∀ {i j : Nat} (hi : i < l.length) (hj : j < l.length), i < j → l[i].off + l[i].size ≤ l[j].off := by
    intro i j hi hj hlt
    have e : l = l.take j ++ l.drop j := (List.take_append_drop j l).symm
    have h' := h
    rw [e] at h'
    obtain ⟨y, c1, c2⟩ := chain_app.1 h'
    have m1 : l[i] ∈ l.take j := by
      rw [List.mem_take_iff_getElem]
      exact ⟨i, by omega, rfl⟩
    have r1 := chain_mem c1 (fun b hb => by have := hs b (List.mem_of_mem_take hb); omega) m1
    rw [List.drop_eq_getElem_cons hj] at c2
    have : l[j].off = y := c2.1
    omega
  have hp := hs _ (List.getElem_mem hi)
  have hq := hs _ (List.getElem_mem hj)
  rcases Nat.lt_trichotomy i j with h1 | h1 | h1
  · have := key hi hj h1; omega
  · exact h1
  · have := key hj hi h1; omega
section
variable {K : Nat} {s : St} {S B M : Nat} {ml : List Mb} {H : Hp} {nx : Nat}
theorem usedM_app (l m : List Mb) : usedM (l ++ m) = usedM l ++ usedM m := List.filter_append _ _
theorem mem_usedM {l : List Mb} {m : Mb} : m ∈ usedM l ↔ m ∈ l ∧ m.b.used = true := List.mem_filter
theorem Ms.used_off (h : Ms K s S B M ml H nx) {i j : Nat} (hi : i < ml.length) (hj : j < ml.length) (e : ml[i].b.off = ml[j].b.off) : i = j := by
  refine chain_inj h.wk.hi.ch (l := s.h.bl) (fun b hb => by have := (h.wk.hi.bs b hb).size0; omega) (by rw [← h.bs, bks_len]; exact hi) (by rw [← h.bs, bks_len]; exact hj) ?_
  simp only [← h.bs, bks, List.getElem_map]
  exact e
theorem usedM_take (m : Mb) (pd need o n : Int) (d : D) : usedM (takeM m pd need o n d) = [⟨⟨m.b.off + pd, if m.b.size - pd - need < 48 then need + (m.b.size - pd - need) else need, true, o, n⟩, d⟩] := by
  unfold takeM usedM
  by_cases h1 : 0 < pd <;> by_cases h2 : 48 ≤ m.b.size - pd - need <;> simp [h1, h2, freeB]
theorem free_take (m : Mb) (pd need o n : Int) (d : D) : FreeNil (takeM m pd need o n d) := by
  intro x hx hu
  unfold takeM at hx
  simp only [List.mem_append] at hx
  rcases hx with hx | hx | hx
  · split at hx
    · simp only [List.mem_singleton] at hx; subst hx; rfl
    · cases hx
  · simp only [List.mem_singleton] at hx; subst hx; simp at hu
  · split at hx
    · simp only [List.mem_singleton] at hx; subst hx; rfl
    · cases hx
theorem NewD.dt {n0 : Nat} {H' : Hp} {w : Nat} {d : D} (h : NewD n0 H' w d) : Dt H' d (List.replicate w 0) := by
  cases h with
  | none h => subst h; exact .nil
  | some o h ho hH =>
    have := Dt.obj (H := H') o (List.replicate w 0) (by simpa using h) hH
    simpa using this
theorem NewD.oid {n0 : Nat} {H' : Hp} {w : Nat} {d : D} (h : NewD n0 H' w d) {o : Nat} (ho : d.oid = Option.some o) : n0 ≤ o := by
  cases h with
  | none h => cases ho
  | some o' h ho' hH => injection ho with ho; omega
end
end Go.Proofs.YtapdaefpkddioaaGreat.Pe
namespace Go.Proofs.YtapdaefpkddioaaGreat.Pe
open Go
set_option maxHeartbeats 2000000
theorem NmOk.mono {s t : St} (h : NmOk s) (hn : t.names = s.names) (hb : ∀ b ∈ s.h.bl, b.used = true → b.owner = 0 → ∃ c ∈ t.h.bl, c.used = true ∧ c.owner = 0 ∧ c.off = b.off) : NmOk t :=
  ⟨by rw [hn]; exact h.le, by rw [hn]; exact h.pk, by
    rw [hn]
    intro e he
    obtain ⟨b, h1, h2, h3, h4⟩ := h.at_ e he
    obtain ⟨c, k1, k2, k3, k4⟩ := hb b h1 h2 h3
    exact ⟨c, k1, k2, k3, by rw [k4]; exact h4⟩, by rw [hn]; exact h.nn, by rw [hn]; exact h.no⟩
section
variable {K : Nat} {s : St} {S B M : Nat} {ml : List Mb} {H : Hp} {nx : Nat}
theorem Ms.more (h : Ms K s S B M ml H nx) : Ms (K + 1) s S B M ml H nx :=
  ⟨h.hs, h.mp, h.bs, h.dt, h.df, h.nd, h.wk, Nat.le_succ_of_le h.dl, h.pos, h.nm⟩
theorem Ms.usedB (h : Ms K s S B M ml H nx) {b : Bk} (hb : b ∈ s.h.bl) (hu : b.used = true) : ∃ m ∈ usedM ml, m.b = b := by
  rw [← h.bs] at hb
  obtain ⟨m, h1, h2⟩ := List.mem_map.1 hb
  exact ⟨m, mem_usedM.2 ⟨h1, by rw [h2]; exact hu⟩, h2⟩
theorem nodup_mid {α : Type} {A C : List α} (h : (A ++ C).Nodup) {X : List α} (hX : X.Nodup) (hd : ∀ x ∈ X, x ∉ A ∧ x ∉ C) : (A ++ (X ++ C)).Nodup := by
  rw [List.nodup_append] at h ⊢
  obtain ⟨h1, h2, h3⟩ := h
  refine ⟨h1, ?_, ?_⟩
  · rw [List.nodup_append]
    exact ⟨hX, h2, fun a ha b hb e => (hd a ha).2 (e ▸ hb)⟩
  · intro a ha b hb e
    rcases List.mem_append.1 hb with hb | hb
    · exact (hd b hb).1 (e ▸ ha)
    · exact h3 a ha b hb e
theorem splitM {α : Type} {l : List α} {i : Nat} (hi : i < l.length) : l = l.take i ++ (l[i] :: l.drop (i + 1)) := by rw [← List.drop_eq_getElem_cons hi, List.take_append_drop]
theorem oid_nodup (d : D) : (d.oid.toList).Nodup := by cases d.oid <;> simp
theorem take_ms (hK : K < 49000) (h : Ms K s S B M ml H nx) {o n al : Int} (o0 : 0 ≤ o) (o1 : o ≤ 8) (hn : U64 n) (ha : U64 al) :
    ∃ B' ml' H' nx', takeMF [.one (.ptr S 12 0 0), .one (.int .i64 o), .one (.int .u64 n), .one (.int .u64 al)] H nx = some (.a (.many (resC (takeSV s o n al).2.1 (takeSV s o n al).2.2 0)), H', nx') ∧
      Ms (K + 1) (takeSV s o n al).1 S B' M ml' H' nx' ∧ (∀ m ∈ usedM ml, m ∈ usedM ml') ∧ nx ≤ nx' ∧ (B' = B ∨ nx ≤ B') ∧ (∀ t, t < nx → t ≠ S → t ≠ B → H' t = H t) ∧
      ((takeSV s o n al).2.1 = 0 → (∀ m ∈ usedM ml, m.b.off + 32 ≠ (takeSV s o n al).2.2) ∧ ∃ m ∈ usedM ml', m.b.off + 32 = (takeSV s o n al).2.2 ∧ m.b.owner = o) := by
  have h8 := h.wk.lv8
  have ok := h.tok
  have stay : ∀ e : Int, e ≠ 0 → takeSV s o n al = (s, e, 0) → takeMF [.one (.ptr S 12 0 0), .one (.int .i64 o), .one (.int .u64 n), .one (.int .u64 al)] H nx = some (.a (.many [.int .i64 e, .int .u64 0, .int .u64 0]), H, nx) →
      ∃ B' ml' H' nx', takeMF [.one (.ptr S 12 0 0), .one (.int .i64 o), .one (.int .u64 n), .one (.int .u64 al)] H nx = some (.a (.many (resC (takeSV s o n al).2.1 (takeSV s o n al).2.2 0)), H', nx') ∧
      Ms (K + 1) (takeSV s o n al).1 S B' M ml' H' nx' ∧ (∀ m ∈ usedM ml, m ∈ usedM ml') ∧ nx ≤ nx' ∧ (B' = B ∨ nx ≤ B') ∧ (∀ t, t < nx → t ≠ S → t ≠ B → H' t = H t) ∧
      ((takeSV s o n al).2.1 = 0 → (∀ m ∈ usedM ml, m.b.off + 32 ≠ (takeSV s o n al).2.2) ∧ ∃ m ∈ usedM ml', m.b.off + 32 = (takeSV s o n al).2.2 ∧ m.b.owner = o) := by
    intro e he0 he hr
    rw [he]
    exact ⟨B, ml, H, nx, hr, h.more, fun _ h => h, Nat.le_refl _, .inl rfl, fun _ _ _ _ => rfl, fun h0 => absurd h0 he0⟩
  cases hal : alignV al with
  | false => exact stay 1 (by omega) (by simp [takeSV, takeV, fitV, hal]) (takeMF_al h8 h.hs ok hn ha o0 o1 hal)
  | true =>
    cases hnd : needV n with
    | none => exact stay 2 (by omega) (by simp [takeSV, takeV, fitV, hal, hnd]) (takeMF_size h8 h.hs ok hn ha o0 o1 hal hnd)
    | some need =>
      have hll : s.h.bl.length = ml.length := by rw [← h.bs, bks_len]
      cases hbe : bestUpto (bks ml) need al ml.length with
      | none => exact stay 3 (by omega) (by simp [takeSV, takeV, fitV, hal, hnd, hll, ← h.bs, bks_len, hbe]) (takeMF_room h8 h.hs ok hn ha o0 o1 hal hnd hbe)
      | some i =>
        obtain ⟨hi1, hff⟩ := best_fits _ _ _ _ _ hbe
        have hi : i < ml.length := by rw [bks_len] at hi1; exact hi1
        have hbl : i < s.h.bl.length := by omega
        have hbg : s.h.bl[i] = ml[i].b := by simp only [← h.bs, bks, List.getElem_map]
        obtain ⟨d, B', H', nx', he, hs', st, hd⟩ := takeMF_good h8 h.hs ok hn ha o0 o1 hal hnd hbe hi
        have hlen : takeL ml i (padV ml[i].b.off al) need o n d = ml.take i ++ (takeM ml[i] (padV ml[i].b.off al) need o n d ++ ml.drop (i + 1)) := by unfold takeL; rw [List.getElem?_eq_getElem hi]
        have hgb : (bks ml)[i] = ml[i].b := by simp [bks]
        rw [hgb] at hff
        simp only [fits, Bool.and_eq_true, Bool.not_eq_true', decide_eq_true_eq] at hff
        obtain ⟨⟨f1, f2⟩, f3⟩ := hff
        have pf := (pad_facts (ok.off16 _ (List.getElem_mem hi)) (align_16 hal).1 (align_16 hal).2.1).2.1
        have hnr := (needV_range hn hnd).1
        have htv : takeV s.h o n al = ({ s.h with bl := takeB s.h.bl i (padV ml[i].b.off al) need o n, ls := listAdd s.h.ls o (ml[i].b.off + padV ml[i].b.off al) }, ml[i].b.off + padV ml[i].b.off al + 32, 0) := by
          unfold takeV fitV
          simp [hal, hnd, hll, ← h.bs, bks_len, hbe]
          simp [bks, hi]
        have hsm := take_small h.wk.hi (o := o) (n := n) (a := al) hn (by rw [htv])
        have hinv := takeV_inv h.wk.hi (o := o) (n := n) (a := al) o0 o1 hn
        rw [htv] at hinv hsm
        generalize padV ml[i].b.off al = pd at *
        have hts : takeSV s o n al = ({ s with h := { s.h with bl := takeB s.h.bl i pd need o n, ls := listAdd s.h.ls o (ml[i].b.off + pd) }, data := putV s.data (ml[i].b.off + pd + 32) (sizedV [] (wordsV n).toNat) }, 0, ml[i].b.off + pd + 32) := by
          unfold takeSV
          rw [htv]
          simp
        rw [hts]
        have hml : ml = ml.take i ++ (ml[i] :: ml.drop (i + 1)) := splitM hi
        have hum : usedM ml = usedM (ml.take i) ++ usedM (ml.drop (i + 1)) := by
          have e := congrArg usedM hml
          rw [usedM_app] at e
          rw [e]
          congr 1
          unfold usedM
          rw [List.filter_cons, f1]
          rfl
        have hun : usedM (takeL ml i pd need o n d) = usedM (ml.take i) ++ ([⟨⟨ml[i].b.off + pd, if ml[i].b.size - pd - need < 48 then need + (ml[i].b.size - pd - need) else need, true, o, n⟩, d⟩] ++ usedM (ml.drop (i + 1))) := by
          rw [hlen, usedM_app, usedM_app, usedM_take]
        have hkeep : ∀ m ∈ usedM ml, m ∈ usedM (takeL ml i pd need o n d) := by
          intro m hm
          rw [hum] at hm
          rw [hun]
          rcases List.mem_append.1 hm with hm | hm
          · exact List.mem_append_left _ hm
          · exact List.mem_append_right _ (List.mem_append_right _ hm)
        obtain ⟨lM, nS, nB⟩ := h.ltM
        have cp := h.wk.hi.cutp hbl
        rw [hbg] at cp
        have hoff : ∀ m ∈ usedM ml, m.b.off ≠ ml[i].b.off + pd := by
          intro m hm e
          rw [hum] at hm
          rcases List.mem_append.1 hm with hm | hm
          · have h1 : m.b ∈ s.h.bl.take i := by rw [← h.bs, ← bks_take]; exact List.mem_map.2 ⟨m, (mem_usedM.1 hm).1, rfl⟩
            have h2 := cp.ls _ h1
            have h3 := (h.rng (List.mem_of_mem_take (mem_usedM.1 hm).1)).2.2.1
            omega
          · have h1 : m.b ∈ s.h.bl.drop (i + 1) := by rw [← h.bs]; simp only [bks, ← List.map_drop]; exact List.mem_map.2 ⟨m, (mem_usedM.1 hm).1, rfl⟩
            have h2 := cp.lt _ h1
            omega
        have hold : ∀ m ∈ usedM ml, Dt H' m.d (dlV (putV s.data (ml[i].b.off + pd + 32) (sizedV [] (wordsV n).toNat)) (m.b.off + 32)) := by
          intro m hm
          rw [dlV_put, if_neg (by have := hoff m hm; omega), ← dataV_eq]
          refine (h.dt m hm).frame fun t ht => ?_
          obtain ⟨k1, k2, k3, k4⟩ := h.oid hm ht
          exact st.same t k1 k2 k3
        refine ⟨B', _, H', nx', he, ⟨hs', by rw [st.same M lM nS nB]; exact h.mp, by rw [takeL_bks, h.bs], ?_, ?_, ?_, ⟨hinv, h.wk.lv8, h.wk.fin1, h.wk.all0, h.wk.all1, ?_, ?_, h.wk.nl⟩, ?_, h.pos, ?_⟩, hkeep, st.le, st.bl, st.same, fun _ => ⟨fun m hm e => hoff m hm (by simp only at e; omega), _, by rw [hun]; exact List.mem_append_right _ (List.mem_append_left _ (List.mem_singleton.2 rfl)), rfl, rfl⟩⟩
        · intro m hm
          rw [dataV_eq]
          rw [hun] at hm
          rcases List.mem_append.1 hm with hm | hm
          · exact hold m (by rw [hum]; exact List.mem_append_left _ hm)
          · rcases List.mem_append.1 hm with hm | hm
            · simp only [List.mem_singleton] at hm
              subst hm
              simp only
              rw [dlV_put, if_pos rfl, sizedV_nil]
              exact hd.dt
            · exact hold m (by rw [hum]; exact List.mem_append_right _ hm)
        · rw [hlen]
          intro m hm hu
          rcases List.mem_append.1 hm with hm | hm
          · exact h.df m (List.mem_of_mem_take hm) hu
          · rcases List.mem_append.1 hm with hm | hm
            · exact free_take _ _ _ _ _ _ m hm hu
            · exact h.df m (List.mem_of_mem_drop hm) hu
        · have hnd0 := h.nd
          rw [hum, List.filterMap_append] at hnd0
          rw [hun, List.filterMap_append, List.filterMap_append]
          refine nodup_mid hnd0 ?_ ?_
          · cases hdo : d.oid <;> simp [hdo]
          · intro x hx
            have hxd : d.oid = some x := by
              cases hdo : d.oid with
              | none => simp [hdo] at hx
              | some y => simp [hdo] at hx; rw [hx]
            have hge := hd.oid hxd
            constructor
            · intro hc
              obtain ⟨m, hm, hmo⟩ := List.mem_filterMap.1 hc
              have := (h.oid (m := m) (by rw [hum]; exact List.mem_append_left _ hm) hmo).1
              omega
            · intro hc
              obtain ⟨m, hm, hmo⟩ := List.mem_filterMap.1 hc
              have := (h.oid (m := m) (by rw [hum]; exact List.mem_append_right _ hm) hmo).1
              omega
        · have := putV_len s.data (ml[i].b.off + pd + 32) (sizedV [] (wordsV n).toNat)
          have := h.dl
          simp only
          omega
        · refine putV_sm h.wk.ds ?_
          rw [Sm, sizedV_len]
          have := hsm.1
          have := h.wk.fin1
          have := hn.1
          unfold wordsV
          omega
        · have := putV_len s.data (ml[i].b.off + pd + 32) (sizedV [] (wordsV n).toNat)
          have := h.dl
          simp only
          omega
        · refine h.nm.mono rfl fun b hb hu ho => ?_
          obtain ⟨m, hm, rfl⟩ := h.usedB hb hu
          refine ⟨m.b, ?_, hu, ho, rfl⟩
          show m.b ∈ takeB s.h.bl i pd need o n
          rw [← h.bs, ← takeL_bks (d := d)]
          exact List.mem_map.2 ⟨m, (mem_usedM.1 (hkeep m hm)).1, rfl⟩
end
end Go.Proofs.YtapdaefpkddioaaGreat.Pe
namespace Go.Proofs.YtapdaefpkddioaaGreat.Pe
open Go
set_option maxHeartbeats 2000000
def OpRes (F : List AD → Hp → Nat → Option (RV × Hp × Nat)) (K : Nat) (s : St) (S M : Nat) (H : Hp) (nx : Nat) (c : Int) (op : Opn) (r : St × Int × Int × Int) : Prop :=
  ∃ B' ml' H' nx', F [.one (.ptr S 12 0 0), .one (.int .i64 c), .many op.c] H nx = some (.a (.many (resC r.2.1 r.2.2.1 r.2.2.2)), H', nx') ∧ Ms (K + 1) r.1 S B' M ml' H' nx'
noncomputable def Cx20 : (Nat → Prop) → Ctx := fun X => { nt := 13, tt := tt, fns := ofList [(61, .eff takeMF)], keep := keep29, X := X }
noncomputable def allocT : List AD → Hp → Nat → Option (RV × Hp × Nat) := semT Tryz.f29 Cx20 Tryz.f29.results
theorem allocT_ok : FnEff Tryz.prog 29 allocT := semT_ok mixed Tryz.func29 rfl (fun X => ok_of (l := [(61, .eff takeMF)]) tt_ok ⟨takeM_ok, by kernel_rfl, trivial⟩ (noEqs _)) (fun _ => rfl) (fun _ => rfl) (by decide) rfl
noncomputable def Cx21 : (Nat → Prop) → Ctx := fun X => { nt := 15, tt := tt, fns := ofList [(61, .eff takeMF)], keep := keep30, X := X }
noncomputable def alignedT : List AD → Hp → Nat → Option (RV × Hp × Nat) := semT Tryz.f30 Cx21 Tryz.f30.results
theorem alignedT_ok : FnEff Tryz.prog 30 alignedT := semT_ok mixed Tryz.func30 rfl (fun X => ok_of (l := [(61, .eff takeMF)]) tt_ok ⟨takeM_ok, by kernel_rfl, trivial⟩ (noEqs _)) (fun _ => rfl) (fun _ => rfl) (by decide) rfl
noncomputable def Cx22 : (Nat → Prop) → Ctx := fun X => { nt := 25, tt := tt, fns := ofList [(61, .eff takeMF), (62, .pure mulF), (28, .pure failF)], keep := keep31, X := X }
noncomputable def callocT : List AD → Hp → Nat → Option (RV × Hp × Nat) := semT Tryz.f31 Cx22 Tryz.f31.results
theorem callocT_ok : FnEff Tryz.prog 31 callocT := semT_ok mixed Tryz.func31 rfl (fun X => ok_of (l := [(61, .eff takeMF), (62, .pure mulF), (28, .pure failF)]) tt_ok ⟨takeM_ok, by kernel_rfl, wmul_ok, by kernel_rfl, fail_ok, by kernel_rfl, trivial⟩ (noEqs _)) (fun _ => rfl) (fun _ => rfl) (by decide) rfl
noncomputable def Cx34 : (Nat → Prop) → Ctx := fun X => { nt := 20, tt := tt, fns := ofList [(28, .pure failF)], keep := keep43, X := X }
noncomputable def attachT : List AD → Hp → Nat → Option (RV × Hp × Nat) := semT Tryz.f43 Cx34 Tryz.f43.results
theorem attachT_ok : FnEff Tryz.prog 43 attachT := semT_ok mixed Tryz.func43 rfl (fun X => ok_of (l := [(28, .pure failF)]) tt_ok ⟨fail_ok, by kernel_rfl, trivial⟩ (noEqs _)) (fun _ => rfl) (fun _ => rfl) (by decide) rfl
noncomputable def Cx33 : (Nat → Prop) → Ctx := fun X => { nt := 20, tt := tt, fns := ofList [(28, .pure failF), (72, .eff containsF)], keep := keep42, X := X, pub := fun t => t == 4 }
noncomputable def detachT : List AD → Hp → Nat → Option (RV × Hp × Nat) := semT Tryz.f42 Cx33 Tryz.f42.results
theorem detachT_ok : FnEff Tryz.prog 42 detachT := semT_ok mixed Tryz.func42 rfl (fun X => ok_of (l := [(28, .pure failF), (72, .eff containsF)]) tt_ok ⟨fail_ok, by kernel_rfl, contains_ok, by kernel_rfl, trivial⟩ (noEqs _)) (fun _ => rfl) (fun _ => rfl) (by decide) rfl
section
variable {K : Nat} {s : St} {S B M : Nat} {ml : List Mb} {H : Hp} {nx : Nat} {c : Int} {op : Opn}
theorem alloc_run (hK : K < 49000) (h : Ms K s S B M ml H nx) (c0 : 0 ≤ c) (c1 : c ≤ 7) (ho : op.ok) :
    OpRes allocT K s S M H nx c op ((takeSV s (c + 1) op.n 16).1, (takeSV s (c + 1) op.n 16).2.1, (takeSV s (c + 1) op.n 16).2.2, 0) := by
  obtain ⟨B', ml', H', nx', he, hm, _⟩ := take_ms hK h (o := c + 1) (n := op.n) (al := 16) (by omega) (by omega) ho.n (by unfold U64; omega)
  refine ⟨B', ml', H', nx', ?_, hm⟩
  unfold allocT
  rw [Tryz.results29]
  refine semT_eq rfl (by simp [Tryz.ntmps29]) fun X R hR => ?_
  unfold Cx20 at hR ⊢
  simp only [resC] at he hR
  (repeat ((try simp only [cl_seq, cl_skip]); with_reducible refine cg fun K hK => ?_; (simp (maxSteps := 1000000) only [go_sem, Opn.c, he, wrapi64 (n := c + 1) (by omega) (by omega)]); (repeat refine ck ?_); (try simp (disch := omega) only [wrap64, wrapi64]); refine hK _ ?_; clear hK K))
  (((try simp only [cl_seq, cl_skip]); (try simp only [cl_ret]); refine hR _ _ (.inr rfl) ?_; (simp (maxSteps := 1000000) only [go_sem])))
theorem aligned_run (hK : K < 49000) (h : Ms K s S B M ml H nx) (c0 : 0 ≤ c) (c1 : c ≤ 7) (ho : op.ok) :
    OpRes alignedT K s S M H nx c op ((takeSV s (c + 1) op.n op.a).1, (takeSV s (c + 1) op.n op.a).2.1, (takeSV s (c + 1) op.n op.a).2.2, 0) := by
  obtain ⟨B', ml', H', nx', he, hm, _⟩ := take_ms hK h (o := c + 1) (n := op.n) (al := op.a) (by omega) (by omega) ho.n ho.a
  refine ⟨B', ml', H', nx', ?_, hm⟩
  unfold alignedT
  rw [Tryz.results30]
  refine semT_eq rfl (by simp [Tryz.ntmps30]) fun X R hR => ?_
  unfold Cx21 at hR ⊢
  simp only [resC] at he hR
  (repeat ((try simp only [cl_seq, cl_skip]); with_reducible refine cg fun K hK => ?_; (simp (maxSteps := 1000000) only [go_sem, Opn.c, he, wrapi64 (n := c + 1) (by omega) (by omega)]); (repeat refine ck ?_); (try simp (disch := omega) only [wrap64, wrapi64]); refine hK _ ?_; clear hK K))
  (((try simp only [cl_seq, cl_skip]); (try simp only [cl_ret]); refine hR _ _ (.inr rfl) ?_; (simp (maxSteps := 1000000) only [go_sem])))
theorem mulV_u64 {a b m : Int} (ha : U64 a) (hb : U64 b) (h : mulV a b = some m) : U64 m := by
  unfold mulV at h
  split at h
  · injection h with h
    subst h
    exact ⟨Int.mul_nonneg ha.1 hb.1, by assumption⟩
  · cases h
theorem calloc_run (hK : K < 49000) (h : Ms K s S B M ml H nx) (c0 : 0 ≤ c) (c1 : c ≤ 7) (ho : op.ok) :
    OpRes callocT K s S M H nx c op (match mulV op.n op.a with
      | none => (s, 2, 0, 0)
      | some m => ((takeSV s (c + 1) m 16).1, (takeSV s (c + 1) m 16).2.1, (takeSV s (c + 1) m 16).2.2, 0)) := by
  have hmf := mulF_eq ho.n ho.a
  cases hm : mulV op.n op.a with
  | none =>
    refine ⟨B, ml, H, nx, ?_, h.more⟩
    unfold callocT
    rw [Tryz.results31]
    refine semT_eq rfl (by simp [Tryz.ntmps31]) fun X R hR => ?_
    unfold Cx22 at hR ⊢
    simp only [resC] at hR
    (repeat ((try simp only [cl_seq, cl_skip]); with_reducible refine cg fun K hK => ?_; (simp (maxSteps := 1000000) only [go_sem, Opn.c, hmf, hm, optV, Option.isSome_none, Bool.not_false]); (repeat refine ck ?_); (try simp (disch := omega) only [wrap64, wrapi64]); refine hK _ ?_; clear hK K))
    (((try simp only [cl_seq, cl_skip]); refine cl_cond (b := true) rfl (fun _ => ?_) (fun h => nomatch h)))
    (repeat ((try simp only [cl_seq, cl_skip]); with_reducible refine cg fun K hK => ?_; (simp (maxSteps := 1000000) only [go_sem, failF_eq]); (repeat refine ck ?_); (try simp (disch := omega) only [wrap64, wrapi64]); refine hK _ ?_; clear hK K))
    (((try simp only [cl_seq, cl_skip]); (try simp only [cl_ret]); refine hR _ _ (.inr rfl) ?_; (simp (maxSteps := 1000000) only [go_sem])))
  | some m =>
    obtain ⟨B', ml', H', nx', he, hms, _⟩ := take_ms hK h (o := c + 1) (n := m) (al := 16) (by omega) (by omega) (mulV_u64 ho.n ho.a hm) (by unfold U64; omega)
    refine ⟨B', ml', H', nx', ?_, hms⟩
    unfold callocT
    rw [Tryz.results31]
    refine semT_eq rfl (by simp [Tryz.ntmps31]) fun X R hR => ?_
    unfold Cx22 at hR ⊢
    simp only [resC] at hR he
    (repeat ((try simp only [cl_seq, cl_skip]); with_reducible refine cg fun K hK => ?_; (simp (maxSteps := 1000000) only [go_sem, Opn.c, hmf, hm, optV, Option.isSome_some, Bool.not_true]); (repeat refine ck ?_); (try simp (disch := omega) only [wrap64, wrapi64]); refine hK _ ?_; clear hK K))
    (((try simp only [cl_seq, cl_skip]); refine cl_cond (b := false) rfl (fun h => nomatch h) (fun _ => ?_)))
    (repeat ((try simp only [cl_seq, cl_skip]); with_reducible refine cg fun K hK => ?_; (simp (maxSteps := 1000000) only [go_sem, Opn.c, he, wrapi64 (n := c + 1) (by omega) (by omega)]); (repeat refine ck ?_); (try simp (disch := omega) only [wrap64, wrapi64]); refine hK _ ?_; clear hK K))
    (((try simp only [cl_seq, cl_skip]); (try simp only [cl_ret]); refine hR _ _ (.inr rfl) ?_; (simp (maxSteps := 1000000) only [go_sem])))
theorem topR_rd (a f bd mp : D) (live : List Bool) (k : Nat) (hk : k < live.length) : List.take 1 (List.drop (4 + k * 1) (a :: f :: bd :: mp :: rowsO live)) = [.bool live[k]] := by
  have hl := rowsO_len live
  rw [Nat.mul_one, show 4 + k = k + 4 by omega]
  simp only [List.drop_succ_cons]
  rw [List.drop_eq_getElem_cons (by rw [hl]; exact hk)]
  simp [rowsO]
theorem topR_wr (a f bd mp : D) (live : List Bool) (k : Nat) (v : Bool) (hk : k < live.length) : List.take (4 + k * 1) (a :: f :: bd :: mp :: rowsO live) ++ .bool v :: List.drop (4 + k * 1) (f :: bd :: mp :: rowsO live) = a :: f :: bd :: mp :: rowsO (live.set k v) := by
  have hl := rowsO_len live
  rw [Nat.mul_one, show 4 + k = k + 4 by omega]
  simp only [List.take_succ_cons, List.cons_append]
  rw [show k + 4 = k + 1 + 3 by omega]
  simp only [List.drop_succ_cons]
  congr 4
  unfold rowsO
  rw [List.map_set, List.set_eq_take_append_cons_drop, if_pos (by simpa using hk)]
theorem topR_wr' (a f bd mp : D) (live : List Bool) (k : Nat) (v : Bool) (hk : k < live.length) : List.take (4 + k * 1) (a :: f :: bd :: mp :: rowsO live) ++ [.bool v] ++ List.drop (4 + k * 1) (f :: bd :: mp :: rowsO live) = a :: f :: bd :: mp :: rowsO (live.set k v) := by
  rw [List.append_assoc]; exact topR_wr a f bd mp live k v hk
theorem Ms.setLive (h : Ms K s S B M ml H nx) (k : Nat) (v : Bool) : Ms K { s with live := s.live.set k v } S B M ml (updO H S (topO (.int .u64 s.all) (.int .u64 s.h.fin) (.ref B 6 0 ml.length) (.mp M) (s.live.set k v))) nx := by
  obtain ⟨lM, nS, nB⟩ := h.ltM
  refine ⟨⟨updO_at _ _ _, by rw [updO_ne h.hs.ne.symm]; exact h.hs.bl, fun o ho => by rw [updO_ne (by have := h.hs.ltS; omega)]; exact h.hs.fresh o ho⟩, by rw [updO_ne nS]; exact h.mp, h.bs, fun m hm => ?_, h.df, h.nd, ⟨h.wk.hi, by simp [h.wk.lv8], h.wk.fin1, h.wk.all0, h.wk.all1, h.wk.dl, h.wk.ds, h.wk.nl⟩, h.dl, h.pos, h.nm.mono rfl fun b hb hu ho => ⟨b, hb, hu, ho, rfl⟩⟩
  exact (h.dt m hm).frame fun o ho => updO_ne (h.oid hm ho).2.1
theorem attach_run (h : Ms K s S B M ml H nx) (c0 : 0 ≤ c) (c1 : c ≤ 7) :
    OpRes attachT K s S M H nx c op (if s.live[c.toNat]?.getD false then (s, 7, 0, 0) else ({ s with live := s.live.set c.toNat true }, 0, 0, 0)) := by
  obtain ⟨k, rfl⟩ : ∃ k : Nat, c = k := ⟨c.toNat, by omega⟩
  have h8 := h.wk.lv8
  have hk : k < s.live.length := by omega
  have hlo := rowsO_len s.live
  have hS := h.hs.top
  rw [Int.toNat_natCast, List.getElem?_eq_getElem hk, Option.getD_some]
  cases hl : s.live[k] with
  | true =>
    refine ⟨B, ml, H, nx, ?_, h.more⟩
    unfold attachT
    rw [Tryz.results43]
    refine semT_eq rfl (by simp [Tryz.ntmps43]) fun X R hR => ?_
    unfold Cx34 at hR ⊢
    simp only [resC] at hR
    (repeat ((try simp only [cl_seq, cl_skip]); with_reducible refine cg fun K hK => ?_; (simp (maxSteps := 1000000) only [go_sem, Opn.c, hS, hlo, h8, topR_rd _ _ _ _ _ _ hk, hl]); (repeat refine ck ?_); (try simp (disch := omega) only [wrap64, wrapi64]); refine hK _ ?_; clear hK K))
    (((try simp only [cl_seq, cl_skip]); refine cl_cond (b := true) rfl (fun _ => ?_) (fun h => nomatch h)))
    (repeat ((try simp only [cl_seq, cl_skip]); with_reducible refine cg fun K hK => ?_; (simp (maxSteps := 1000000) only [go_sem, failF_eq]); (repeat refine ck ?_); (try simp (disch := omega) only [wrap64, wrapi64]); refine hK _ ?_; clear hK K))
    (((try simp only [cl_seq, cl_skip]); (try simp only [cl_ret]); refine hR _ _ (.inr rfl) ?_; (simp (maxSteps := 1000000) only [go_sem])))
  | false =>
    refine ⟨B, ml, _, nx, ?_, (h.setLive k true).more⟩
    unfold attachT
    rw [Tryz.results43]
    refine semT_eq rfl (by simp [Tryz.ntmps43]) fun X R hR => ?_
    unfold Cx34 at hR ⊢
    simp only [resC] at hR
    (repeat ((try simp only [cl_seq, cl_skip]); with_reducible refine cg fun K hK => ?_; (simp (maxSteps := 1000000) only [go_sem, Opn.c, hS, hlo, h8, topR_rd _ _ _ _ _ _ hk, hl]); (repeat refine ck ?_); (try simp (disch := omega) only [wrap64, wrapi64]); refine hK _ ?_; clear hK K))
    (((try simp only [cl_seq, cl_skip]); refine cl_cond (b := false) rfl (fun h => nomatch h) (fun _ => ?_)))
    (repeat ((try simp only [cl_seq, cl_skip]); with_reducible refine cg fun K hK => ?_; (simp (maxSteps := 1000000) only [go_sem, hS, hlo, h8, topR_wr' _ _ _ _ _ _ _ hk, topR_wr _ _ _ _ _ _ _ hk]); (repeat refine ck ?_); (try simp (disch := omega) only [wrap64, wrapi64]); refine hK _ ?_; clear hK K))
    (((try simp only [cl_seq, cl_skip]); (try simp only [cl_ret]); refine hR _ _ (.inr rfl) ?_; (simp (maxSteps := 1000000) only [go_sem])))
end
end Go.Proofs.YtapdaefpkddioaaGreat.Pe
namespace Go.Proofs.YtapdaefpkddioaaGreat.Pe
open Go
set_option maxHeartbeats 2000000
section
variable {K : Nat} {s : St} {S B M : Nat} {ml : List Mb} {H : Hp} {nx : Nat} {c : Int} {op : Opn}
theorem Ms.junk (h : Ms K s S B M ml H nx) (x : Option PObj) : Ms K s S B M ml (updO H nx x) (nx + 1) := by
  obtain ⟨lM, nS, nB⟩ := h.ltM
  have h1 := h.hs.ltS
  have h2 := h.hs.ltB
  refine ⟨⟨by rw [updO_ne (by omega)]; exact h.hs.top, by rw [updO_ne (by omega)]; exact h.hs.bl, fun o ho => by rw [updO_ne (by omega)]; exact h.hs.fresh o (by omega)⟩, by rw [updO_ne (by omega)]; exact h.mp, h.bs, fun m hm => ?_, h.df, h.nd, h.wk, h.dl, h.pos, h.nm⟩
  exact (h.dt m hm).frame fun o ho => updO_ne (by have := (h.oid hm ho).1; omega)
theorem Ms.his (h : Ms K s S B M ml H nx) (k : Nat) (hk : k < 8) : ((ml.findIdx? fun m => m.b.used && m.b.owner == (k : Int) + 1).isSome = true) ↔ 0 < (s.h.ls[k]?.getD []).length := by
  have h8 := h.wk.hi.eight
  have hk' : k < s.h.ls.length := by omega
  have ow := h.wk.hi.own k hk'
  rw [List.getElem?_eq_getElem hk', Option.getD_some, List.findIdx?_isSome, List.any_eq_true]
  constructor
  · rintro ⟨m, hm, hp⟩
    simp only [Bool.and_eq_true, beq_iff_eq] at hp
    exact List.length_pos_of_mem ((ow.mem m.b.off).2 ⟨m.b, h.mem hm, hp.1, hp.2, rfl⟩)
  · intro hp
    obtain ⟨x, hx⟩ := List.exists_mem_of_length_pos hp
    obtain ⟨b, hb, h1, h2, h3⟩ := (ow.mem x).1 hx
    obtain ⟨m, hm, rfl⟩ := h.usedB hb h1
    exact ⟨m, (mem_usedM.1 hm).1, by simp [h1, h2]⟩
theorem detach_run (h : Ms K s S B M ml H nx) (c0 : 0 ≤ c) (c1 : c ≤ 7) :
    OpRes detachT K s S M H nx c op (if 0 < (s.h.ls[c.toNat]?.getD []).length then (s, 11, 0, 0) else ({ s with live := s.live.set c.toNat false }, 0, 0, 0)) := by
  obtain ⟨k, rfl⟩ : ∃ k : Nat, c = k := ⟨c.toNat, by omega⟩
  have h8 := h.wk.lv8
  have hk : k < s.live.length := by omega
  have hlo := rowsO_len s.live
  have hj := h.junk (boxO .i64 k)
  have hS := hj.hs.top
  have hix := containsF_eq (indexF_eq (g := 73) (o := nx) (nx := nx + 1) (H := updO H nx (boxO .i64 k)) (fun m => m.b.used && m.b.owner == (k : Int) + 1) isHisF rfl hj.hs.bl (by have := h.len; omega)
    (fun i hi => isHisF_eq (updO_at _ _ _) c0 c1))
  have hhis := h.his k (by omega)
  simp only [boxO] at hix hS hj
  rw [Int.toNat_natCast]
  cases hc : (ml.findIdx? fun m => m.b.used && m.b.owner == (k : Int) + 1).isSome with
  | true =>
    rw [if_pos (hhis.1 hc)]
    rw [hc] at hix
    refine ⟨B, ml, _, nx + 1, ?_, hj.more⟩
    unfold detachT
    rw [Tryz.results42]
    refine semT_eq rfl (by simp [Tryz.ntmps42]) fun X R hR => ?_
    unfold Cx33 at hR ⊢
    simp only [resC] at hR
    (repeat ((try simp only [cl_seq, cl_skip]); with_reducible refine cg fun K hK => ?_; (simp (maxSteps := 1000000) only [go_sem, Opn.c, Nat.reduceBEq, hS, hlo, h8, List.size_toArray, Array.size_empty, Option.map_some, hix]); (repeat refine ck ?_); (try simp (disch := omega) only [wrap64, wrapi64]); refine hK _ ?_; clear hK K))
    (((try simp only [cl_seq, cl_skip]); refine cl_cond (b := true) rfl (fun _ => ?_) (fun h => nomatch h)))
    (repeat ((try simp only [cl_seq, cl_skip]); with_reducible refine cg fun K hK => ?_; (simp (maxSteps := 1000000) only [go_sem, Nat.reduceBEq, failF_eq]); (repeat refine ck ?_); (try simp (disch := omega) only [wrap64, wrapi64]); refine hK _ ?_; clear hK K))
    (((try simp only [cl_seq, cl_skip]); (try simp only [cl_ret]); refine hR _ _ (.inr rfl) ?_; (simp (maxSteps := 1000000) only [go_sem])))
  | false =>
    rw [if_neg (fun hp => by rw [hhis.2 hp] at hc; cases hc)]
    rw [hc] at hix
    refine ⟨B, ml, _, nx + 1, ?_, (hj.setLive k false).more⟩
    unfold detachT
    rw [Tryz.results42]
    refine semT_eq rfl (by simp [Tryz.ntmps42]) fun X R hR => ?_
    unfold Cx33 at hR ⊢
    simp only [resC] at hR
    (repeat ((try simp only [cl_seq, cl_skip]); with_reducible refine cg fun K hK => ?_; (simp (maxSteps := 1000000) only [go_sem, Opn.c, Nat.reduceBEq, hS, hlo, h8, List.size_toArray, Array.size_empty, Option.map_some, hix]); (repeat refine ck ?_); (try simp (disch := omega) only [wrap64, wrapi64]); refine hK _ ?_; clear hK K))
    (((try simp only [cl_seq, cl_skip]); refine cl_cond (b := false) rfl (fun h => nomatch h) (fun _ => ?_)))
    (repeat ((try simp only [cl_seq, cl_skip]); with_reducible refine cg fun K hK => ?_; (simp (maxSteps := 1000000) only [go_sem, Nat.reduceBEq, hS, hlo, h8, updO_at, topR_wr' _ _ _ _ _ _ _ hk, topR_wr _ _ _ _ _ _ _ hk]); (repeat refine ck ?_); (try simp (disch := omega) only [wrap64, wrapi64]); refine hK _ ?_; clear hK K))
    (((try simp only [cl_seq, cl_skip]); (try simp only [cl_ret]); refine hR _ _ (.inr rfl) ?_; (simp (maxSteps := 1000000) only [go_sem])))
end
end Go.Proofs.YtapdaefpkddioaaGreat.Pe
namespace Go.Proofs.YtapdaefpkddioaaGreat.Pe
open Go
set_option maxHeartbeats 2000000
theorem bytes_ext {a b : ByteArray} (h : a.data.toList = b.data.toList) : a = b := _root_.ByteArray.ext (Array.toList_inj.mp h)
theorem bytes_beq (a b : ByteArray) : (a == b) = decide (a = b) := by
  have e : (a == b) = (a.data == b.data) := rfl
  rw [e]
  by_cases h : a = b
  · subst h; simp
  · rw [decide_eq_false h]
    refine beq_eq_false_iff_ne.2 fun hd => h (_root_.ByteArray.ext hd)
theorem bytes_tbeq (a b : ByteArray) : (a.toList == b.toList) = decide (a = b) := by
  by_cases h : a = b
  · subst h; simp
  · rw [decide_eq_false h]
    refine beq_eq_false_iff_ne.2 fun hd => h (bytes_ext ?_)
    rw [ByteArray.toList_eq, ByteArray.toList_eq] at hd
    exact hd
theorem findIdx_congr {α : Type} {l : List α} {p q : α → Bool} (h : ∀ x ∈ l, p x = q x) : l.findIdx? p = l.findIdx? q := by
  induction l with
  | nil => rfl
  | cons x l ih => rw [List.findIdx?_cons, List.findIdx?_cons, h x (by simp), ih (fun y hy => h y (by simp [hy]))]
def isNm (nm : ByteArray) (e : En) : Bool := decide (e.name = nm)
theorem mapFind_rowsE (nm : ByteArray) : ∀ (l : List En) (i : Nat), mapFind (.str nm) (rowsE l) i = some ((l.findIdx? (isNm nm)).map fun j => (i + j, .int .u64 ((l[j]?.map (·.off)).getD 0)))
  | [], _ => rfl
  | e :: l, i => by
    simp only [rowsE, List.map_cons, En.c, mapFind, keyEq, bytes_beq]
    by_cases h : nm = e.name
    · rw [decide_eq_true h]
      simp [List.findIdx?_cons, isNm, h]
    · rw [decide_eq_false h]
      have h' : ¬ e.name = nm := fun e => h e.symm
      have ih := mapFind_rowsE nm l (i + 1)
      unfold rowsE at ih
      simp only [ih]
      rw [List.findIdx?_cons]
      have hb : isNm nm e = false := by simp [isNm, h']
      rw [hb]
      cases hf : l.findIdx? (isNm nm) with
      | none => rfl
      | some j => simp; omega
section
variable {K : Nat} {s : St} {S B M : Nat} {ml : List Mb} {H : Hp} {nx : Nat} {c : Int} {op : Opn}
theorem Ms.offn (h : Ms K s S B M ml H nx) : ∀ e ∈ s.names, 3808 ≤ e.off ∧ e.off ≤ 100032 := by
  intro e he
  obtain ⟨b, hb, _, _, h4⟩ := h.nm.at_ e he
  have h1 := h.wk.hi.mem hb
  have h2 := (h.wk.hi.bs b hb).size0
  have h3 := h.wk.fin1
  omega
theorem Ms.named (h : Ms K s S B M ml H nx) (nm : ByteArray) : namedV s.names nm 0 = match s.names.findIdx? (isNm nm) with
    | some i => (i : Int)
    | none => -1 := by
  have hc : ∀ e ∈ s.names, nameP nm 0 e = isNm nm e := by
    intro e he
    have := h.offn e he
    unfold nameP isNm
    rw [bytes_tbeq, show (e.off == 0) = false by simp; omega, Bool.or_false]
  unfold namedV
  rw [findIdx_congr hc]
  cases s.names.findIdx? (isNm nm) <;> rfl
noncomputable def Cx28 : (Nat → Prop) → Ctx := fun X => { nt := 35, tt := tt, fns := ofList [(70, .eff wpackF), (28, .pure failF)], keep := keep37, X := X }
noncomputable def findT : List AD → Hp → Nat → Option (RV × Hp × Nat) := semT Tryz.f37 Cx28 Tryz.f37.results
theorem findT_ok : FnEff Tryz.prog 37 findT := semT_ok mixed Tryz.func37 rfl (fun X => ok_of (l := [(70, .eff wpackF), (28, .pure failF)]) tt_ok ⟨wpack_ok, by kernel_rfl, fail_ok, by kernel_rfl, trivial⟩ (noEqs _)) (fun _ => rfl) (fun _ => rfl) (by decide) rfl
def findR (s : St) (op : Opn) : Int × Int := if packV op.name then (match s.names.findIdx? (isNm op.name) with
  | none => (6, 0)
  | some i => (0, (s.names[i]?.map (·.off)).getD 0)) else (8, 0)
theorem find_run (h : Ms K s S B M ml H nx) (hnm : op.name.size < 100000000) :
    findT [.one (.ptr S 12 0 0), .one (.int .i64 c), .many op.c] H nx = some (.a (.many (resC (findR s op).1 (findR s op).2 0)), updO H nx (wObj (wPack op.name)), nx + 1) ∧ Ms K s S B M ml (updO H nx (wObj (wPack op.name))) (nx + 1) := by
  have hj := h.junk (wObj (wPack op.name))
  refine ⟨?_, hj⟩
  have h8 := h.wk.lv8
  have hlo := rowsO_len s.live
  have hS := hj.hs.top
  have hM := hj.mp
  have hp : wpackF [.one (.str op.name)] H nx = some (.tup [.many [.int .u64 (wPack op.name).1, .int .u64 (wPack op.name).2], .one (.bool (packV op.name))], updO H nx (wObj (wPack op.name)), nx + 1) := by simp [wpackF, hnm]
  have hf := mapFind_rowsE op.name s.names 0
  generalize updO H nx (wObj (wPack op.name)) = H1 at *
  generalize hv : (RV.a (.many (resC (findR s op).1 (findR s op).2 0))) = r
  unfold findR at hv
  unfold findT
  rw [Tryz.results37]
  refine semT_eq rfl (by simp [Tryz.ntmps37]) fun X R hR => ?_
  unfold Cx28 at hR ⊢
  simp only [resC] at hR
  cases hpk : packV op.name with
  | false =>
    rw [hpk] at hp hv
    (repeat ((try simp only [cl_seq, cl_skip]); with_reducible refine cg fun K hK => ?_; (simp (maxSteps := 1000000) only [go_sem, Opn.c, hp, Bool.not_false]); (repeat refine ck ?_); (try simp (disch := omega) only [wrap64, wrapi64]); refine hK _ ?_; clear hK K))
    (((try simp only [cl_seq, cl_skip]); refine cl_cond (b := true) rfl (fun _ => ?_) (fun h => nomatch h)))
    (repeat ((try simp only [cl_seq, cl_skip]); with_reducible refine cg fun K hK => ?_; (simp (maxSteps := 1000000) only [go_sem, failF_eq]); (repeat refine ck ?_); (try simp (disch := omega) only [wrap64, wrapi64]); refine hK _ ?_; clear hK K))
    (((try simp only [cl_seq, cl_skip]); (try simp only [cl_ret]); refine hR _ _ (.inr rfl) ?_; (simp (maxSteps := 1000000) only [go_sem])))
    rw [← hv]; rfl
  | true =>
    rw [hpk] at hp hv
    simp only [↓reduceIte] at hv
    cases hfi : s.names.findIdx? (isNm op.name) with
    | none =>
      rw [hfi] at hf hv
      (repeat ((try simp only [cl_seq, cl_skip]); with_reducible refine cg fun K hK => ?_; (simp (maxSteps := 1000000) only [go_sem, Opn.c, hp, Bool.not_true]); (repeat refine ck ?_); (try simp (disch := omega) only [wrap64, wrapi64]); refine hK _ ?_; clear hK K))
      (((try simp only [cl_seq, cl_skip]); refine cl_cond (b := false) rfl (fun h => nomatch h) (fun _ => ?_)))
      (repeat ((try simp only [cl_seq, cl_skip]); with_reducible refine cg fun K hK => ?_; (simp (maxSteps := 1000000) only [go_sem, hS, hM, hlo, h8, hf, Option.map_none, Bool.not_false]); (repeat refine ck ?_); (try simp (disch := omega) only [wrap64, wrapi64]); refine hK _ ?_; clear hK K))
      (((try simp only [cl_seq, cl_skip]); refine cl_cond (b := true) rfl (fun _ => ?_) (fun h => nomatch h)))
      (repeat ((try simp only [cl_seq, cl_skip]); with_reducible refine cg fun K hK => ?_; (simp (maxSteps := 1000000) only [go_sem, failF_eq]); (repeat refine ck ?_); (try simp (disch := omega) only [wrap64, wrapi64]); refine hK _ ?_; clear hK K))
      (((try simp only [cl_seq, cl_skip]); (try simp only [cl_ret]); refine hR _ _ (.inr rfl) ?_; (simp (maxSteps := 1000000) only [go_sem])))
      rw [← hv]; rfl
    | some i =>
      rw [hfi] at hf hv
      (repeat ((try simp only [cl_seq, cl_skip]); with_reducible refine cg fun K hK => ?_; (simp (maxSteps := 1000000) only [go_sem, Opn.c, hp, Bool.not_true]); (repeat refine ck ?_); (try simp (disch := omega) only [wrap64, wrapi64]); refine hK _ ?_; clear hK K))
      (((try simp only [cl_seq, cl_skip]); refine cl_cond (b := false) rfl (fun h => nomatch h) (fun _ => ?_)))
      (repeat ((try simp only [cl_seq, cl_skip]); with_reducible refine cg fun K hK => ?_; (simp (maxSteps := 1000000) only [go_sem, hS, hM, hlo, h8, hf, Option.map_some, Bool.not_true]); (repeat refine ck ?_); (try simp (disch := omega) only [wrap64, wrapi64]); refine hK _ ?_; clear hK K))
      (((try simp only [cl_seq, cl_skip]); refine cl_cond (b := false) rfl (fun h => nomatch h) (fun _ => ?_)))
      (repeat ((try simp only [cl_seq, cl_skip]); with_reducible refine cg fun K hK => ?_; (simp (maxSteps := 1000000) only [go_sem]); (repeat refine ck ?_); (try simp (disch := omega) only [wrap64, wrapi64]); refine hK _ ?_; clear hK K))
      (((try simp only [cl_seq, cl_skip]); (try simp only [cl_ret]); refine hR _ _ (.inr rfl) ?_; (simp (maxSteps := 1000000) only [go_sem])))
      rw [← hv]; rfl
end
end Go.Proofs.YtapdaefpkddioaaGreat.Pe
