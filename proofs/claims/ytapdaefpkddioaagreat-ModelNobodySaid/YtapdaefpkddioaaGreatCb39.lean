/- A part of the proof of PmD. -/
import Derived.Test.YtapdaefpkddioaaGreatCb26
import Derived.Test.YtapdaefpkddioaaGreatCb38
set_option linter.unusedSimpArgs false
set_option linter.unusedVariables false
set_option linter.unusedSectionVars false
namespace Go.Proofs.YtapdaefpkddioaaGreat.Pe
open Go
set_option maxHeartbeats 2000000
section
variable {K : Nat} {s : St} {S B M : Nat} {ml : List Mb} {H : Hp} {nx : Nat} {c : Int} {op : Opn}
theorem usedM_cut {ml : List Mb} {i : Nat} (hi : i < ml.length) (hu : ml[i].b.used = true) (n need : Int) (d' : D) :
    ∃ bb : Bk, bb.off = ml[i].b.off ∧ bb.used = true ∧ bb.owner = ml[i].b.owner ∧ usedM (cutL (ml.set i ⟨{ ml[i].b with len := n }, d'⟩) i need) = usedM (ml.take i) ++ ([⟨bb, d'⟩] ++ usedM (ml.drop (i + 1))) := by
  have hi2 : i < (ml.set i (⟨{ ml[i].b with len := n }, d'⟩ : Mb)).length := by simpa using hi
  unfold cutL
  rw [List.getElem?_eq_getElem hi2]
  simp only [List.getElem_set_self]
  split
  · refine ⟨{ ml[i].b with len := n }, rfl, hu, rfl, ?_⟩
    rw [List.set_eq_take_append_cons_drop, if_pos hi, usedM_app]
    congr 1
    unfold usedM
    rw [List.filter_cons]
    simp [hu]
  · refine ⟨{ ml[i].b with len := n, size := need }, rfl, hu, rfl, ?_⟩
    rw [usedM_joined, usedM_app, usedM_app, List.take_set_of_le (Nat.le_refl _), List.drop_set_of_lt (by omega)]
    congr 1
    congr 1
    simp [usedM, hu, freeB]
theorem Ms.resized (hK : K < 49000) (h : Ms K s S B M ml H nx) {i : Nat} (hi : i < ml.length) (hu : ml[i].b.used = true) {n need : Int} (hn : U64 n) (hnn : needV n = some need) (hle : need ≤ ml[i].b.size)
    {d' : D} {v' : List Int} {B' nx' : Nat} {H' : Hp} (hs' : Hs S B' (.int .u64 s.all) (.int .u64 s.h.fin) (.mp M) s.live (cutL (ml.set i ⟨{ ml[i].b with len := n }, d'⟩) i need) H' nx') (hd' : Dt H' d' v') (hoid : ∀ o, d'.oid = some o → nx ≤ o)
    (hsame : ∀ t, t < nx → t ≠ S → t ≠ B → H' t = H t) (hv : Sm v') :
    Ms (K + 1) { s with h := cutV { s.h with bl := s.h.bl.set i { ml[i].b with len := n } } (ml[i].b.off + 32) need, data := putV (dropV s.data (ml[i].b.off + 32)) (ml[i].b.off + 32) v' } S B' M (cutL (ml.set i ⟨{ ml[i].b with len := n }, d'⟩) i need) H' nx' := by
  have hib : i < s.h.bl.length := by rw [← h.bs, bks_len]; exact hi
  have hbg : s.h.bl[i] = ml[i].b := by simp only [← h.bs, bks, List.getElem_map]
  have hpl := h.place hi hu
  have hcok := resize_len h.wk.hi hpl hib hn hnn (by rw [hbg]; exact hle)
  rw [hbg] at hcok
  have hinv := hcok.res
  have hpl2 : placeN (s.h.bl.set i { ml[i].b with len := n }) (ml[i].b.off + 32) = some i := by rw [← hpl]; exact findIdx_set hib (by rw [hbg])
  have hcv : cutV { s.h with bl := s.h.bl.set i { ml[i].b with len := n } } (ml[i].b.off + 32) need = { s.h with bl := cutB (s.h.bl.set i { ml[i].b with len := n }) i need } := by
    unfold cutV; rw [hpl2]
  rw [hcv] at hinv ⊢
  obtain ⟨bb, b1, b2, b3, hum⟩ := usedM_cut hi hu n need d'
  obtain ⟨lM, nS, nB⟩ := h.ltM
  have hus := usedM_split hi
  have hmi : ml[i] ∈ usedM ml := mem_usedM.2 ⟨List.getElem_mem hi, hu⟩
  have holdoff : ∀ m, (m ∈ usedM (ml.take i) ∨ m ∈ usedM (ml.drop (i + 1))) → m ∈ usedM ml ∧ m.b.off ≠ ml[i].b.off := by
    intro m hm
    have cp := h.wk.hi.cutp hib
    rw [hbg] at cp
    have hsz := (h.rng (List.getElem_mem hi)).2.2.1
    rcases hm with hm | hm
    · refine ⟨by rw [hus]; exact List.mem_append_left _ hm, ?_⟩
      have h1 : m.b ∈ s.h.bl.take i := by rw [← h.bs, ← bks_take]; exact List.mem_map.2 ⟨m, (mem_usedM.1 hm).1, rfl⟩
      have h2 := cp.ls _ h1
      have h3 := (h.rng (List.mem_of_mem_take (mem_usedM.1 hm).1)).2.2.1
      omega
    · refine ⟨by rw [hus]; exact List.mem_append_right _ (List.mem_append_right _ hm), ?_⟩
      have h1 : m.b ∈ s.h.bl.drop (i + 1) := by rw [← h.bs]; simp only [bks, ← List.map_drop]; exact List.mem_map.2 ⟨m, (mem_usedM.1 hm).1, rfl⟩
      have h2 := cp.lt _ h1
      omega
  have hold : ∀ m, (m ∈ usedM (ml.take i) ∨ m ∈ usedM (ml.drop (i + 1))) → Dt H' m.d (dlV (putV (dropV s.data (ml[i].b.off + 32)) (ml[i].b.off + 32) v') (m.b.off + 32)) := by
    intro m hm
    obtain ⟨h1, h2⟩ := holdoff m hm
    rw [dlV_put, if_neg (by omega), dlV_drop, if_neg (by omega), ← dataV_eq]
    refine (h.dt m h1).frame fun t ht => ?_
    obtain ⟨k1, k2, k3, _⟩ := h.oid h1 ht
    exact hsame t k1 k2 k3
  refine ⟨hs', by rw [hsame M lM nS nB]; exact h.mp, ?_, ?_, ?_, ?_, ⟨hinv, h.wk.lv8, h.wk.fin1, h.wk.all0, h.wk.all1, ?_, ?_, h.wk.nl⟩, ?_, h.pos, ?_⟩
  · unfold cutL cutB
    have hi2 : i < (ml.set i (⟨{ ml[i].b with len := n }, d'⟩ : Mb)).length := by simpa using hi
    have hi3 : i < (s.h.bl.set i { ml[i].b with len := n }).length := by simpa using hib
    rw [List.getElem?_eq_getElem hi2, List.getElem?_eq_getElem hi3]
    simp only [List.getElem_set_self]
    split
    · rw [bks_set, h.bs]
    · rw [joinedM_bks]
      simp only [bks, List.map_append, List.map_cons, List.map_nil, List.map_take, List.map_drop, List.map_set]
      rw [show List.map (fun x => x.b) ml = bks ml from rfl, h.bs]
  · intro m hm
    rw [dataV_eq]
    rw [hum] at hm
    rcases List.mem_append.1 hm with hm | hm
    · exact hold m (.inl hm)
    · rcases List.mem_append.1 hm with hm | hm
      · simp only [List.mem_singleton] at hm
        subst hm
        simp only
        rw [b1, dlV_put, if_pos rfl]
        exact hd'
      · exact hold m (.inr hm)
  · have hi2 : i < (ml.set i (⟨{ ml[i].b with len := n }, d'⟩ : Mb)).length := by simpa using hi
    have hset : FreeNil (ml.set i ⟨{ ml[i].b with len := n }, d'⟩) := by
      intro m hm hf
      rcases List.mem_or_eq_of_mem_set hm with h1 | h1
      · exact h.df m h1 hf
      · subst h1; simp only [hu] at hf; cases hf
    unfold cutL
    rw [List.getElem?_eq_getElem hi2]
    simp only [List.getElem_set_self]
    split
    · exact hset
    · refine freeNil_join fun m hm hf => ?_
      simp only [List.mem_append, List.mem_cons, List.not_mem_nil, or_false] at hm
      rcases hm with hm | (hm | hm) | hm
      · exact hset m (List.mem_of_mem_take hm) hf
      · subst hm; simp only [hu] at hf; cases hf
      · subst hm; rfl
      · exact hset m (List.mem_of_mem_drop hm) hf
  · have hnd0 := h.nd
    rw [hus, List.filterMap_append, List.filterMap_append] at hnd0
    have hnd1 : ((usedM (ml.take i)).filterMap (·.d.oid) ++ (usedM (ml.drop (i + 1))).filterMap (·.d.oid)).Nodup := hnd0.sublist (List.Sublist.append (List.Sublist.refl _) (List.sublist_append_right _ _))
    rw [hum, List.filterMap_append, List.filterMap_append]
    refine nodup_mid hnd1 ?_ ?_
    · cases hdo : d'.oid <;> simp [hdo]
    · intro x hx
      have hxd : d'.oid = some x := by
        cases hdo : d'.oid with
        | none => simp [hdo] at hx
        | some y => simp [hdo] at hx; rw [hx]
      have hge := hoid x hxd
      constructor
      · intro hc
        obtain ⟨m, hm, hmo⟩ := List.mem_filterMap.1 hc
        have := (h.oid (holdoff m (.inl hm)).1 hmo).1
        omega
      · intro hc
        obtain ⟨m, hm, hmo⟩ := List.mem_filterMap.1 hc
        have := (h.oid (holdoff m (.inr hm)).1 hmo).1
        omega
  · have := putV_len (dropV s.data (ml[i].b.off + 32)) (ml[i].b.off + 32) v'
    have := dropV_len s.data (ml[i].b.off + 32)
    have := h.dl
    simp only; omega
  · exact putV_sm (dropV_sm h.wk.ds) hv
  · have := putV_len (dropV s.data (ml[i].b.off + 32)) (ml[i].b.off + 32) v'
    have := dropV_len s.data (ml[i].b.off + 32)
    have := h.dl
    simp only; omega
  · refine h.nm.mono rfl fun b hb hbu hbo => ?_
    obtain ⟨m, hm, rfl⟩ := h.usedB hb hbu
    have hbk : ∀ x ∈ usedM (cutL (ml.set i ⟨{ ml[i].b with len := n }, d'⟩) i need), x.b ∈ cutB (s.h.bl.set i { ml[i].b with len := n }) i need := by
      intro x hx
      have hbs2 : bks (cutL (ml.set i ⟨{ ml[i].b with len := n }, d'⟩) i need) = cutB (s.h.bl.set i { ml[i].b with len := n }) i need := by
        unfold cutL cutB
        have hi2 : i < (ml.set i (⟨{ ml[i].b with len := n }, d'⟩ : Mb)).length := by simpa using hi
        have hi3 : i < (s.h.bl.set i { ml[i].b with len := n }).length := by simpa using hib
        rw [List.getElem?_eq_getElem hi2, List.getElem?_eq_getElem hi3]
        simp only [List.getElem_set_self]
        split
        · rw [bks_set, h.bs]
        · rw [joinedM_bks]
          simp only [bks, List.map_append, List.map_cons, List.map_nil, List.map_take, List.map_drop, List.map_set]
          rw [show List.map (fun x => x.b) ml = bks ml from rfl, h.bs]
      rw [← hbs2]
      exact List.mem_map.2 ⟨x, (mem_usedM.1 hx).1, rfl⟩
    rw [hus] at hm
    rcases List.mem_append.1 hm with hm | hm
    · exact ⟨m.b, hbk m (by rw [hum]; exact List.mem_append_left _ hm), hbu, hbo, rfl⟩
    · rcases List.mem_append.1 hm with hm | hm
      · have hmm : m = ml[i] := by
          have := (mem_usedM.1 hm).1
          simpa using this
        subst hmm
        exact ⟨bb, hbk ⟨bb, d'⟩ (by rw [hum]; exact List.mem_append_right _ (List.mem_append_left _ (List.mem_singleton.2 rfl))), b2, by rw [b3]; exact hbo, b1⟩
      · exact ⟨m.b, hbk m (by rw [hum]; exact List.mem_append_right _ (List.mem_append_right _ hm)), hbu, hbo, rfl⟩
end
end Go.Proofs.YtapdaefpkddioaaGreat.Pe
namespace Go.Proofs.YtapdaefpkddioaaGreat.Pe
open Go
set_option maxHeartbeats 4000000
noncomputable def Cx23 : (Nat → Prop) → Ctx := fun X => { nt := 108, tt := tt, fns := ofList [(63, .eff mineT), (28, .pure failF), (64, .pure needF), (65, .pure wordsF), (66, .eff cutMF), (61, .eff takeMF), (67, .rd atR), (68, .eff freeMF)], keep := keep32, X := X, pub := fun t => t == 48 }
noncomputable def reallocT : List AD → Hp → Nat → Option (RV × Hp × Nat) := semT Tryz.f32 Cx23 Tryz.f32.results
theorem reallocT_ok : FnEff Tryz.prog 32 reallocT := semT_ok mixed Tryz.func32 rfl (fun X => ok_of (l := [(63, .eff mineT), (28, .pure failF), (64, .pure needF), (65, .pure wordsF), (66, .eff cutMF), (61, .eff takeMF), (67, .rd atR), (68, .eff freeMF)]) tt_ok ⟨mineT_ok, by kernel_rfl, fail_ok, by kernel_rfl, wneed_ok, by kernel_rfl, wwords_ok, by kernel_rfl, cutM_ok, by kernel_rfl, takeM_ok, by kernel_rfl, atR_ok, at_c, freeM_ok, by kernel_rfl, trivial⟩ (noEqs _)) (fun _ => rfl) (fun _ => rfl) (by decide) rfl
theorem cl_assoc {C : Ctx} {a b t : Code} {cs : List Code} {Q : Ex → Env → Prop} {E : Env} : cl C (a :: .seq b t :: cs) Q E = cl C (.seq a b :: t :: cs) Q E := by
  rw [cl_seq]
  show cwp C a _ E = cwp C a _ E
  congr 1
  funext e E'
  cases e with
  | normal => exact cl_seq b t
  | exit i => rfl
  | ret => rfl
theorem over_sized (v : List Int) (w : Nat) : overRows (List.replicate w [D.int .u64 0]) (List.take w (rowsN v)) 0 = rowsN (sizedV v w) := by
  unfold overRows sizedV rowsN
  simp only [List.take_zero, List.nil_append, Nat.zero_add, List.length_take, List.length_map, List.drop_replicate, List.map_append, List.map_take, List.map_replicate]
  congr 2
  omega
theorem over_nil (w : Nat) : overRows (List.replicate w [D.int .u64 0]) [] 0 = rowsN (sizedV [] w) := by
  have := over_sized [] w
  simpa [rowsN] using this
section
variable {K : Nat} {s : St} {S B M : Nat} {ml : List Mb} {H : Hp} {nx : Nat} {c : Int} {op : Opn}
theorem realloc_in (hK : K < 49000) (h : Ms K s S B M ml H nx) (c0 : 0 ≤ c) (c1 : c ≤ 7) (ho : op.ok) (hk : op.kind = 4) {i : Nat} (hi : i < ml.length) (hu : ml[i].b.used = true) (hp : ml[i].b.off + 32 = op.off) (hd : ownedV s c op = ((i : Int), 0))
    (hmi : mineT [.one (.ptr S 12 0 0), .one (.int .i64 c), .many op.c, .one (.bool false)] H nx = some (iiRV ((i : Int), 0), H, nx)) {need : Int} (hnn : needV op.n = some need) (hle : need ≤ ml[i].b.size) : OpRes reallocT K s S M H nx c op (blockV s c op) := by
  have h8 := h.wk.lv8
  have hlo := rowsO_len s.live
  have hS := h.hs.top
  have hB := h.hs.bl
  have hn := ho.n
  have hrg := h.rng (List.getElem_mem hi)
  obtain ⟨n0', n1', n16', n40'⟩ := needV_range hn hnn
  have hn0 := hn.1
  have hw0 : 0 ≤ wordsV op.n := by unfold wordsV; omega
  have hw1 : wordsV op.n ≤ 100000 := by unfold wordsV; omega
  have hib : i < s.h.bl.length := by rw [← h.bs, bks_len]; exact hi
  have hbg : s.h.bl[i] = ml[i].b := by simp only [← h.bs, bks, List.getElem_map]
  have hpl := h.place hi hu
  rw [hp] at hpl
  have hrv : resizeV s.h op.off op.n = (cutV { s.h with bl := s.h.bl.set i { ml[i].b with len := op.n } } op.off need, op.off, 0) := by
    unfold resizeV
    rw [hpl]
    simp only [List.getElem?_eq_getElem hib, hnn, hbg]
    rw [if_pos hle]
  have hbv : blockV s c op = ({ s with h := cutV { s.h with bl := s.h.bl.set i { ml[i].b with len := op.n } } op.off need, data := putV (dropV s.data op.off) op.off (sizedV (dataV s op.off) (wordsV op.n).toNat) }, 0, op.off, 0) := by
    unfold blockV
    simp only [hd, hk, hrv]
    simp
  rw [hbv]
  have dt := h.dt ml[i] (mem_usedM.2 ⟨List.getElem_mem hi, hu⟩)
  rw [hp] at dt
  obtain ⟨w, hw⟩ : ∃ w : Nat, wordsV op.n = w := ⟨(wordsV op.n).toNat, by omega⟩
  have hwf := wordsF_eq hn
  rw [hw] at hwf hw1
  rw [hw, Int.toNat_natCast]
  have hltS := h.hs.ltS
  have hltB := h.hs.ltB
  generalize hvv : dataV s op.off = v at *
  have hvl : v.length ≤ 100000 := by rw [← hvv]; exact dataV_len h.wk _
  have hdat : ∃ (d' : D) (H1 : Hp) (n1 : Nat), ((w = 0 ∧ d' = .sl [] ∧ H1 = H ∧ n1 = nx) ∨ (0 < w ∧ d' = .ref nx 1 0 w ∧ H1 = updO H nx (some ⟨some 26, 1, rowsN (sizedV v w)⟩) ∧ n1 = nx + 1)) ∧ Hs S B (.int .u64 s.all) (.int .u64 s.h.fin) (.mp M) s.live ml H1 n1 ∧ Stp S B H nx B H1 n1 ∧ (∀ H2 : Hp, (∀ o, d'.oid = some o → H2 o = H1 o) → Dt H2 d' (sizedV v w)) ∧ (∀ o, d'.oid = some o → nx ≤ o ∧ o < n1 ∧ o ≠ S ∧ o ≠ B) := by
    by_cases hwz : w = 0
    · refine ⟨.sl [], H, nx, .inl ⟨hwz, rfl, rfl, rfl⟩, h.hs, .refl _ _ _ _, fun H2 _ => ?_, fun o ho => by cases ho⟩
      have : sizedV v w = [] := by apply List.eq_nil_of_length_eq_zero; rw [sizedV_len, hwz]
      rw [this]; exact .nil
    · refine ⟨.ref nx 1 0 w, _, _, .inr ⟨by omega, rfl, rfl, rfl⟩, ⟨?_, ?_, fun t ht => ?_⟩, ⟨by omega, .inl rfl, fun t ht _ _ => updO_ne (by omega)⟩, fun H2 hH2 => ?_, fun o ho => ?_⟩
      · rw [updO_ne (by omega)]; exact h.hs.top
      · rw [updO_ne (by omega)]; exact h.hs.bl
      · rw [updO_ne (by omega)]; exact h.hs.fresh t (by omega)
      · have hl := sizedV_len v w
        have := Dt.obj (H := H2) nx (sizedV v w) (by omega) (by rw [hH2 nx rfl, updO_at])
        rw [hl] at this
        exact this
      · injection ho with ho; omega
  obtain ⟨d', H1, n1, hdc, hs1, st1, hdt, hoid⟩ := hdat
  obtain ⟨hs2, st2⟩ := set_hs hs1 (ml.set i ⟨{ ml[i].b with len := op.n }, d'⟩) (by simp)
  have hi2 : i < (ml.set i (⟨{ ml[i].b with len := op.n }, d'⟩ : Mb)).length := by simpa using hi
  have hgi : (ml.set i (⟨{ ml[i].b with len := op.n }, d'⟩ : Mb))[i] = ⟨{ ml[i].b with len := op.n }, d'⟩ := List.getElem_set_self _
  obtain ⟨B', H', nx', he, hs3, st3⟩ := cutMF_eq (i := i) (need := need) h8 hs2 (h.mok.set hi rfl) (by have := h.len; simp; omega) hi2 (by omega) (by rw [hgi]; exact hle) (by rw [hgi]; simp only; omega) (by rw [hgi]; simp only; omega) (by rw [hgi]; simp only; omega)
  have st := (st1.trans st2).trans st3
  have hd' : Dt H' d' (sizedV v w) := hdt H' fun o ho => by
    obtain ⟨q1, q2, q3, q4⟩ := hoid o ho
    rw [st3.same o q2 q3 q4, updO_ne q4]
  have hms := h.resized hK hi hu hn hnn hle hs3 hd' (fun o ho => (hoid o ho).1) st.same (by unfold Sm; rw [sizedV_len]; omega)
  rw [hp] at hms
  refine ⟨B', _, H', nx', ?_, hms⟩
  unfold reallocT
  rw [Tryz.results32]
  refine semT_eq rfl (by simp [Tryz.ntmps32]) fun X R hR => ?_
  unfold Cx23 at hR ⊢
  simp only [resC] at hR
  simp only [iiRV, Opn.c] at hmi
  have hS1 := hs1.top
  have hB1 := hs1.bl
  simp only [blkO] at he
  (repeat ((try simp only [cl_seq, cl_skip]); with_reducible refine cg fun K hK => ?_; (simp (maxSteps := 1000000) only [go_sem, Opn.c, Nat.reduceBEq, hmi]); (repeat refine ck ?_); (try simp (disch := omega) only [wrap64, wrapi64]); refine hK _ ?_; clear hK K))
  (((try simp only [cl_seq, cl_skip]); refine cl_cond rfl (fun g => ?_) (fun g => ?_)))
  · exact absurd g (by simp)
  (repeat ((try simp only [cl_seq, cl_skip]); with_reducible refine cg fun K hK => ?_; (simp (maxSteps := 1000000) only [go_sem, Opn.c, Nat.reduceBEq, needF_eq hn, optV, hnn, Option.isSome_some, Option.getD_some, Bool.not_true]); (repeat refine ck ?_); (try simp (disch := omega) only [wrap64, wrapi64]); refine hK _ ?_; clear hK K))
  (((try simp only [cl_seq, cl_skip]); refine cl_cond (b := false) rfl (fun h => nomatch h) (fun _ => ?_)))
  (repeat ((try simp only [cl_seq, cl_skip]); with_reducible refine cg fun K hK => ?_; (simp (maxSteps := 1000000) only [go_sem, Opn.c, Nat.reduceBEq, hS, hB, hlo, h8, hi]); (repeat refine ck ?_); (try simp (disch := omega) only [wrap64, wrapi64]); refine hK _ ?_; clear hK K))
  (((try simp only [cl_seq, cl_skip]); refine cl_cond rfl (fun g2 => ?_) (fun g2 => ?_)))
  rotate_left
  · exact absurd g2 (by simp; omega)
  simp only [cl_seq, cl_skip]
  rw [cl_assoc]
  refine cl_mid (fun E' => E' = mk [(1000000, .heap H1 n1), (0, .v (.one (.ptr S 12 0 0))), (5, .box 0 [.int .i64 op.kind, .int .u64 op.n, .int .u64 op.a, .int .u64 op.off, .int .u64 op.i, .int .u64 op.v, .int .i64 op.to_, .str op.name]), (6, .box 0 [.int .i64 0, .int .u64 0, .int .u64 0]), (7, .v (.one (.int .i64 i))), (9, .v (.one (.int .u64 need))), (12, .v (.one d'))]) (fun K4 hK4 => ?_) ?_
  · generalize hdd : ml[i].d = d at dt
    rcases hdc with ⟨w0, rfl, rfl, rfl⟩ | ⟨w0, rfl, rfl, rfl⟩
    · subst w0
      cases dt with
      | nil =>
        (repeat ((try simp only [cl_seq, cl_skip]); with_reducible refine cg fun K hK => ?_; (simp (maxSteps := 1000000) only [go_sem, Nat.reduceBEq, hwf, hdd, List.replicate_zero]); (repeat refine ck ?_); (try simp (disch := omega) only [wrap64, wrapi64]); refine hK _ ?_; clear hK K))
        exact hK4 _ rfl
      | obj o v h0 hH =>
        (repeat ((try simp only [cl_seq, cl_skip]); with_reducible refine cg fun K hK => ?_; (simp (maxSteps := 1000000) only [go_sem, Nat.reduceBEq, hwf, hdd, List.replicate_zero, hH, show List.take v.length (rowsN v) = rowsN v by rw [← rowsN_len v, List.take_length]]); (repeat refine ck ?_); (try simp (disch := omega) only [wrap64, wrapi64]); refine hK _ ?_; clear hK K))
        exact hK4 _ rfl
    · have hne : (List.replicate w [D.int .u64 0] = []) = False := by simp; omega
      cases dt with
      | nil =>
        (repeat ((try simp only [cl_seq, cl_skip]); with_reducible refine cg fun K hK => ?_; (simp (maxSteps := 1000000) only [go_sem, Nat.reduceBEq, hwf, hdd, hne, List.length_replicate, updO_at, updO_same, over_nil]); (repeat refine ck ?_); (try simp (disch := omega) only [wrap64, wrapi64]); refine hK _ ?_; clear hK K))
        exact hK4 _ rfl
      | obj o v h0 hH =>
        have ho := (h.oid (mem_usedM.2 ⟨List.getElem_mem hi, hu⟩) (o := o) (by rw [hdd]; rfl)).1
        have hHo : ∀ x, updO H nx x o = some ⟨some 26, 1, rowsN v⟩ := fun x => by rw [updO_ne (by omega)]; exact hH
        (repeat ((try simp only [cl_seq, cl_skip]); with_reducible refine cg fun K hK => ?_; (simp (maxSteps := 1000000) only [go_sem, Nat.reduceBEq, hwf, hdd, hne, List.length_replicate, updO_at, updO_same, hHo, show List.take v.length (rowsN v) = rowsN v by rw [← rowsN_len v, List.take_length], over_sized]); (repeat refine ck ?_); (try simp (disch := omega) only [wrap64, wrapi64]); refine hK _ ?_; clear hK K))
        exact hK4 _ rfl
  · rintro E' rfl
    clear hdc
    (repeat ((try simp only [cl_seq, cl_skip]); with_reducible refine cg fun K hK => ?_; (simp (maxSteps := 1000000) only [go_sem, Nat.reduceBEq, hS1, hB1, hlo, h8, hi, updO_at, updO_same, List.length_set, List.getElem_set_self, List.set_set, updO_ne hs1.ne, he]); (repeat refine ck ?_); (try simp (disch := omega) only [wrap64, wrapi64]); refine hK _ ?_; clear hK K))
    (((try simp only [cl_seq, cl_skip]); (try simp only [cl_ret]); refine hR _ _ (.inr rfl) ?_; (simp (maxSteps := 1000000) only [go_sem])))
end
end Go.Proofs.YtapdaefpkddioaaGreat.Pe
namespace Go.Proofs.YtapdaefpkddioaaGreat.Pe
open Go
set_option maxHeartbeats 4000000
section
variable {K : Nat} {s : St} {S B M : Nat} {ml : List Mb} {H : Hp} {nx : Nat} {c : Int} {op : Opn}
theorem Ms.reK {K' : Nat} (h : Ms K' s S B M ml H nx) (hl : s.data.length ≤ K) : Ms K s S B M ml H nx :=
  ⟨h.hs, h.mp, h.bs, h.dt, h.df, h.nd, h.wk, hl, h.pos, h.nm⟩
theorem dropV_comm (l : List Wd) (p q : Int) : dropV (dropV l p) q = dropV (dropV l q) p := by
  unfold dropV
  rw [List.filter_filter, List.filter_filter]
  congr 1
  funext w
  exact Bool.and_comm _ _
theorem dropV_idem (l : List Wd) (p : Int) : dropV (dropV l p) p = dropV l p := by
  unfold dropV
  rw [List.filter_filter]
  simp
theorem dropV_app (l m : List Wd) (p : Int) : dropV (l ++ m) p = dropV l p ++ dropV m p := List.filter_append _ _
theorem put_put (l : List Wd) (p q : Int) (hpq : p ≠ q) (z v : List Int) : dropV (putV (putV l p z) p v) q = putV (dropV l q) p v := by
  have e1 : dropV [(⟨p, z⟩ : Wd)] p = [] := by simp [dropV]
  have e2 : ∀ v, dropV [(⟨p, v⟩ : Wd)] q = [⟨p, v⟩] := fun v => by simp [dropV, hpq]
  unfold putV
  rw [dropV_app, dropV_app, e1, e2, dropV_idem, List.append_nil, dropV_comm]
theorem put_drop (l : List Wd) (p q : Int) (hpq : p ≠ q) (v : List Int) : dropV (putV l p v) q = putV (dropV l q) p v := by
  have e2 : ∀ v, dropV [(⟨p, v⟩ : Wd)] q = [⟨p, v⟩] := fun v => by simp [dropV, hpq]
  unfold putV
  rw [dropV_app, e2, dropV_comm]
theorem realloc_move (hK : K < 48000) (h : Ms K s S B M ml H nx) (c0 : 0 ≤ c) (c1 : c ≤ 7) (ho : op.ok) (hk : op.kind = 4) {i : Nat} (hi : i < ml.length) (hu : ml[i].b.used = true) (hp : ml[i].b.off + 32 = op.off) (hd : ownedV s c op = ((i : Int), 0)) (hown : ml[i].b.owner = c + 1)
    (hmi : mineT [.one (.ptr S 12 0 0), .one (.int .i64 c), .many op.c, .one (.bool false)] H nx = some (iiRV ((i : Int), 0), H, nx)) {need : Int} (hnn : needV op.n = some need) (hle : ¬ need ≤ ml[i].b.size) : OpRes reallocT K s S M H nx c op (blockV s c op) := by
  have h8 := h.wk.lv8
  have hlo := rowsO_len s.live
  have hS := h.hs.top
  have hB := h.hs.bl
  have hn := ho.n
  have hib : i < s.h.bl.length := by rw [← h.bs, bks_len]; exact hi
  have hbg : s.h.bl[i] = ml[i].b := by simp only [← h.bs, bks, List.getElem_map]
  have hpl := h.place hi hu
  rw [hp] at hpl
  obtain ⟨B1, ml1, H1, n1, hte, ht, hkeep, hle1, hbl1, hsame1, hnew⟩ := take_ms (by omega) h (o := ml[i].b.owner) (n := op.n) (al := 16) (by omega) (by omega) hn (by unfold U64; omega)
  have hrv : resizeV s.h op.off op.n = if (takeV s.h ml[i].b.owner op.n 16).2.2 = 0 then ((freeHV (takeV s.h ml[i].b.owner op.n 16).1 op.off).1, (takeV s.h ml[i].b.owner op.n 16).2.1, 0) else (s.h, 0, (takeV s.h ml[i].b.owner op.n 16).2.2) := by
    unfold resizeV
    rw [hpl]
    simp only [List.getElem?_eq_getElem hib, hnn, hbg]
    rw [if_neg hle]
  have hts : takeSV s ml[i].b.owner op.n 16 = if (takeV s.h ml[i].b.owner op.n 16).2.2 = 0 then ({ s with h := (takeV s.h ml[i].b.owner op.n 16).1, data := putV s.data (takeV s.h ml[i].b.owner op.n 16).2.1 (sizedV [] (wordsV op.n).toNat) }, 0, (takeV s.h ml[i].b.owner op.n 16).2.1) else (s, (takeV s.h ml[i].b.owner op.n 16).2.2, 0) := rfl
  generalize takeV s.h ml[i].b.owner op.n 16 = T at *
  by_cases h0 : T.2.2 = 0
  · rw [if_pos h0] at hrv hts
    rw [hts] at hte ht hnew
    simp only at hte ht hnew
    obtain ⟨q1, mm, q2, q3, q4⟩ := hnew trivial
    obtain ⟨j, hj, rfl⟩ := List.getElem_of_mem (mem_usedM.1 q2).1
    obtain ⟨i1, hi1, hei1⟩ := List.getElem_of_mem (mem_usedM.1 (hkeep ml[i] (mem_usedM.2 ⟨List.getElem_mem hi, hu⟩))).1
    have hne : T.2.1 ≠ op.off := by
      have := q1 ml[i] (mem_usedM.2 ⟨List.getElem_mem hi, hu⟩)
      rw [hp] at this
      exact fun e => this e.symm
    have hbv : blockV s c op = ({ s with h := (freeHV T.1 op.off).1, data := putV (dropV s.data op.off) T.2.1 (sizedV (dataV s op.off) (wordsV op.n).toNat) }, 0, T.2.1, 0) := by
      unfold blockV
      simp only [hd, hk, hrv]
      simp
    rw [hbv]
    have dt := h.dt ml[i] (mem_usedM.2 ⟨List.getElem_mem hi, hu⟩)
    rw [hp] at dt
    have dt1 := ht.dt ml1[j] q2
    rw [q3, dataV_eq] at dt1
    simp only at dt1
    rw [dlV_put, if_pos rfl] at dt1
    have hj1 := (mem_usedM.1 q2).2
    have dtold : Dt H1 ml[i].d (dataV s op.off) := dt.frame fun t ht' => by
      obtain ⟨k1, k2, k3, _⟩ := h.oid (mem_usedM.2 ⟨List.getElem_mem hi, hu⟩) ht'
      exact hsame1 t k1 k2 k3
    have hvl : (dataV s op.off).length ≤ 100000 := dataV_len h.wk _
    generalize hvv : dataV s op.off = v at *
    generalize (wordsV op.n).toNat = w at *
    have hS1 := ht.hs.top
    have hB1 := ht.hs.bl
    have hlo1 := rowsO_len s.live
    have hat1 := atR_eq (p := T.2.1) ht.wk.lv8 ht.hs (by have := ht.len; omega) ht.offs
    have hpl1 := ht.place hj hj1
    rw [q3, ← ht.bs] at hpl1
    rw [show placeV (bks ml1) T.2.1 = (j : Int) by simp [placeV, hpl1]] at hat1
    simp only at hS1 hat1
    have hmid : ∃ (t2 : St) (H2 : Hp), (∀ (X : Nat → Prop), True) ∧ Ms (K + 2) t2 S B1 M ml1 H2 n1 ∧ freedV t2 op.off = { s with h := (freeHV T.1 op.off).1, data := putV (dropV s.data op.off) T.2.1 (sizedV v w) } ∧ t2.names = s.names ∧ t2.live = s.live ∧
        ((w = 0 ∧ ml1[j].d = .sl [] ∧ H2 = H1) ∨ ∃ o1, 0 < w ∧ ml1[j].d = .ref o1 1 0 w ∧ H1 o1 = some ⟨some 26, 1, List.replicate w [.int .u64 0]⟩ ∧ H2 = updO H1 o1 (some ⟨some 26, 1, rowsN (sizedV v w)⟩)) := by
      generalize hd1 : ml1[j].d = d1 at dt1
      by_cases hw : w = 0
      · subst hw
        have hz : sizedV [] 0 = [] := rfl
        have hz2 : sizedV v 0 = [] := by apply List.eq_nil_of_length_eq_zero; rw [sizedV_len]
        rw [hz] at dt1 ht
        refine ⟨_, H1, fun _ => trivial, ht.more, ?_, rfl, rfl, .inl ⟨rfl, ?_, rfl⟩⟩
        · unfold freedV
          simp only
          rw [put_drop _ _ _ hne, hz2]
        · generalize hz3 : ([] : List Int) = z at dt1
          cases dt1 with
          | nil => rfl
          | obj o z h0 _ => rw [← hz3] at h0; simp at h0
      · have hz : sizedV [] w = List.replicate w 0 := sizedV_nil w
        rw [hz] at dt1 ht
        generalize hzz : List.replicate w (0 : Int) = z at dt1
        have hzl : z.length = w := by rw [← hzz]; simp
        cases dt1 with
        | nil => simp at hzl; omega
        | obj o1 z hz0 hH1 =>
          rw [hzl] at hd1 ⊢
          have hwg := ht.wordG (by omega) hj hj1 (o := o1) (v := List.replicate w 0) (by rw [hd1]; simp) (by rw [q3, dataV_eq]; simp only; rw [dlV_put, if_pos rfl]) (by simp; omega) (by rw [hzz]; exact hH1) (sizedV v w) (by rw [sizedV_len]; simp)
          rw [q3] at hwg
          refine ⟨_, _, fun _ => trivial, hwg, ?_, rfl, rfl, .inr ⟨o1, by omega, rfl, by rw [hH1, ← hzz, zeros_rowsN], rfl⟩⟩
          unfold freedV
          simp only
          rw [put_put _ _ _ hne]
    obtain ⟨t2, H2, _, hms2, hfreed, hnames, hlive, hcase⟩ := hmid
    have hu1 : ml1[i1].b.used = true := by rw [hei1]; exact hu
    have hp1 : ml1[i1].b.off + 32 = op.off := by rw [hei1]; exact hp
    obtain ⟨B3, H3, n3, he3, hms3, st3⟩ := free_ms hms2 hi1 hu1 (fun e he => by
      rw [hp1, ← hp]
      intro hc
      rw [hnames] at he
      obtain ⟨b, hb, u1, u2, u3⟩ := h.nm.at_ e he
      have := off_inj h.wk.hi hb (h.mem (List.getElem_mem hi)) (by omega)
      rw [this, hown] at u2
      omega)
    rw [hp1, hfreed] at hms3
    have hat2 := atR_eq (p := op.off) hms2.wk.lv8 hms2.hs (by have := hms2.len; omega) hms2.offs
    have hpl2 := hms2.place hi1 hu1
    rw [hp1, ← hms2.bs] at hpl2
    rw [show placeV (bks ml1) op.off = (i1 : Int) by simp [placeV, hpl2]] at hat2
    refine ⟨B3, _, H3, n3, ?_, hms3.reK ?_⟩
    rotate_left
    · have := putV_len (dropV s.data op.off) T.2.1 (sizedV v w)
      have := dropV_len s.data op.off
      have := h.dl
      simp only; omega
    unfold reallocT
    rw [Tryz.results32]
    refine semT_eq rfl (by simp [Tryz.ntmps32]) fun X R hR => ?_
    unfold Cx23 at hR ⊢
    simp only [resC] at hR hte
    simp only [iiRV, Opn.c] at hmi
    (repeat ((try simp only [cl_seq, cl_skip]); with_reducible refine cg fun K hK => ?_; (simp (maxSteps := 1000000) only [go_sem, Opn.c, Nat.reduceBEq, hmi]); (repeat refine ck ?_); (try simp (disch := omega) only [wrap64, wrapi64]); refine hK _ ?_; clear hK K))
    (((try simp only [cl_seq, cl_skip]); refine cl_cond rfl (fun g => ?_) (fun g => ?_)))
    · exact absurd g (by simp)
    (repeat ((try simp only [cl_seq, cl_skip]); with_reducible refine cg fun K hK => ?_; (simp (maxSteps := 1000000) only [go_sem, Opn.c, Nat.reduceBEq, needF_eq hn, optV, hnn, Option.isSome_some, Option.getD_some, Bool.not_true]); (repeat refine ck ?_); (try simp (disch := omega) only [wrap64, wrapi64]); refine hK _ ?_; clear hK K))
    (((try simp only [cl_seq, cl_skip]); refine cl_cond (b := false) rfl (fun h => nomatch h) (fun _ => ?_)))
    (repeat ((try simp only [cl_seq, cl_skip]); with_reducible refine cg fun K hK => ?_; (simp (maxSteps := 1000000) only [go_sem, Opn.c, Nat.reduceBEq, hS, hB, hlo, h8, hi]); (repeat refine ck ?_); (try simp (disch := omega) only [wrap64, wrapi64]); refine hK _ ?_; clear hK K))
    (((try simp only [cl_seq, cl_skip]); refine cl_cond rfl (fun g2 => ?_) (fun g2 => ?_)))
    · exact absurd g2 (by simp; omega)
    (repeat ((try simp only [cl_seq, cl_skip]); with_reducible refine cg fun K hK => ?_; (simp (maxSteps := 1000000) only [go_sem, Nat.reduceBEq, hte]); (repeat refine ck ?_); (try simp (disch := omega) only [wrap64, wrapi64]); refine hK _ ?_; clear hK K))
    (((try simp only [cl_seq, cl_skip]); refine cl_cond rfl (fun g3 => ?_) (fun g3 => ?_)))
    · exact absurd g3 (by simp)
    have hj' := hj
    generalize hdd : ml[i].d = d at dt dtold
    rcases hcase with ⟨w0, hd1, rfl⟩ | ⟨o1, w0, hd1, hH1z, rfl⟩
    · cases dtold with
      | nil =>
        (repeat ((try simp only [cl_seq, cl_skip]); with_reducible refine cg fun K hK => ?_; (simp (maxSteps := 1000000) only [go_sem, Nat.reduceBEq, hS1, hB1, hlo, h8, hj, hat1, hd1, hdd, hat2, he3]); (repeat refine ck ?_); (try simp (disch := omega) only [wrap64, wrapi64]); refine hK _ ?_; clear hK K))
        (((try simp only [cl_seq, cl_skip]); (try simp only [cl_ret]); refine hR _ _ (.inr rfl) ?_; (simp (maxSteps := 1000000) only [go_sem])))
      | obj o v hv0 hHo =>
        (repeat ((try simp only [cl_seq, cl_skip]); with_reducible refine cg fun K hK => ?_; (simp (maxSteps := 1000000) only [go_sem, Nat.reduceBEq, hS1, hB1, hlo, h8, hj, hat1, hd1, hdd, hHo, show List.take v.length (rowsN v) = rowsN v by rw [← rowsN_len v, List.take_length], hat2, he3]); (repeat refine ck ?_); (try simp (disch := omega) only [wrap64, wrapi64]); refine hK _ ?_; clear hK K))
        (((try simp only [cl_seq, cl_skip]); (try simp only [cl_ret]); refine hR _ _ (.inr rfl) ?_; (simp (maxSteps := 1000000) only [go_sem])))
    · cases dtold with
      | nil =>
        (repeat ((try simp only [cl_seq, cl_skip]); with_reducible refine cg fun K hK => ?_; (simp (maxSteps := 1000000) only [go_sem, Nat.reduceBEq, hS1, hB1, hlo, h8, hj, hat1, hd1, hdd, hH1z, List.length_replicate, over_nil, hat2, he3]); (repeat refine ck ?_); (try simp (disch := omega) only [wrap64, wrapi64]); refine hK _ ?_; clear hK K))
        (((try simp only [cl_seq, cl_skip]); (try simp only [cl_ret]); refine hR _ _ (.inr rfl) ?_; (simp (maxSteps := 1000000) only [go_sem])))
      | obj o v hv0 hHo =>
        (repeat ((try simp only [cl_seq, cl_skip]); with_reducible refine cg fun K hK => ?_; (simp (maxSteps := 1000000) only [go_sem, Nat.reduceBEq, hS1, hB1, hlo, h8, hj, hat1, hd1, hdd, hH1z, hHo, List.length_replicate, show List.take v.length (rowsN v) = rowsN v by rw [← rowsN_len v, List.take_length], over_sized, hat2, he3]); (repeat refine ck ?_); (try simp (disch := omega) only [wrap64, wrapi64]); refine hK _ ?_; clear hK K))
        (((try simp only [cl_seq, cl_skip]); (try simp only [cl_ret]); refine hR _ _ (.inr rfl) ?_; (simp (maxSteps := 1000000) only [go_sem])))
  · rw [if_neg h0] at hrv hts
    rw [hts] at hte ht
    simp only at hte ht
    have hbv : blockV s c op = (s, T.2.2, 0, 0) := by
      unfold blockV
      simp only [hd, hk, hrv]
      simp [h0]
    rw [hbv]
    refine ⟨B1, ml1, H1, n1, ?_, ht⟩
    unfold reallocT
    rw [Tryz.results32]
    refine semT_eq rfl (by simp [Tryz.ntmps32]) fun X R hR => ?_
    unfold Cx23 at hR ⊢
    simp only [resC] at hR hte
    simp only [iiRV, Opn.c] at hmi
    (repeat ((try simp only [cl_seq, cl_skip]); with_reducible refine cg fun K hK => ?_; (simp (maxSteps := 1000000) only [go_sem, Opn.c, Nat.reduceBEq, hmi]); (repeat refine ck ?_); (try simp (disch := omega) only [wrap64, wrapi64]); refine hK _ ?_; clear hK K))
    (((try simp only [cl_seq, cl_skip]); refine cl_cond rfl (fun g => ?_) (fun g => ?_)))
    · exact absurd g (by simp)
    (repeat ((try simp only [cl_seq, cl_skip]); with_reducible refine cg fun K hK => ?_; (simp (maxSteps := 1000000) only [go_sem, Opn.c, Nat.reduceBEq, needF_eq hn, optV, hnn, Option.isSome_some, Option.getD_some, Bool.not_true]); (repeat refine ck ?_); (try simp (disch := omega) only [wrap64, wrapi64]); refine hK _ ?_; clear hK K))
    (((try simp only [cl_seq, cl_skip]); refine cl_cond (b := false) rfl (fun h => nomatch h) (fun _ => ?_)))
    (repeat ((try simp only [cl_seq, cl_skip]); with_reducible refine cg fun K hK => ?_; (simp (maxSteps := 1000000) only [go_sem, Opn.c, Nat.reduceBEq, hS, hB, hlo, h8, hi]); (repeat refine ck ?_); (try simp (disch := omega) only [wrap64, wrapi64]); refine hK _ ?_; clear hK K))
    (((try simp only [cl_seq, cl_skip]); refine cl_cond rfl (fun g2 => ?_) (fun g2 => ?_)))
    · exact absurd g2 (by simp; omega)
    (repeat ((try simp only [cl_seq, cl_skip]); with_reducible refine cg fun K hK => ?_; (simp (maxSteps := 1000000) only [go_sem, Nat.reduceBEq, hte]); (repeat refine ck ?_); (try simp (disch := omega) only [wrap64, wrapi64]); refine hK _ ?_; clear hK K))
    (((try simp only [cl_seq, cl_skip]); refine cl_cond rfl (fun g3 => ?_) (fun g3 => ?_)))
    · (repeat ((try simp only [cl_seq, cl_skip]); with_reducible refine cg fun K hK => ?_; (simp (maxSteps := 1000000) only [go_sem]); (repeat refine ck ?_); (try simp (disch := omega) only [wrap64, wrapi64]); refine hK _ ?_; clear hK K))
      (((try simp only [cl_seq, cl_skip]); (try simp only [cl_ret]); refine hR _ _ (.inr rfl) ?_; (simp (maxSteps := 1000000) only [go_sem])))
    · exact absurd g3 (by simp [h0])
theorem realloc_run (hK : K < 48000) (h : Ms K s S B M ml H nx) (c0 : 0 ≤ c) (c1 : c ≤ 7) (ho : op.ok) (hk : op.kind = 4) : OpRes reallocT K s S M H nx c op (blockV s c op) := by
  have h8 := h.wk.lv8
  have hlo := rowsO_len s.live
  have hS := h.hs.top
  have hB := h.hs.bl
  have hmi := mineT_eq (c := c) (op := op) (al := false) h8 h.hs (by have := h.len; omega) h.offs c0 c1
  have hm := h.mine (c := c) (op := op) false (by simp [pubK, hk])
  generalize mineV (bks ml) c op.off false = mv at *
  cases hm with
  | no e i he hd =>
    have hbv : blockV s c op = (s, e, 0, 0) := by unfold blockV; simp only [hd]; rw [if_pos (by omega)]
    rw [hbv]
    refine ⟨B, ml, H, nx, ?_, h.more⟩
    unfold reallocT
    rw [Tryz.results32]
    refine semT_eq rfl (by simp [Tryz.ntmps32]) fun X R hR => ?_
    unfold Cx23 at hR ⊢
    simp only [resC] at hR
    simp only [iiRV, Opn.c] at hmi
    (repeat ((try simp only [cl_seq, cl_skip]); with_reducible refine cg fun K hK => ?_; (simp (maxSteps := 1000000) only [go_sem, Opn.c, Nat.reduceBEq, hmi]); (repeat refine ck ?_); (try simp (disch := omega) only [wrap64, wrapi64]); refine hK _ ?_; clear hK K))
    (((try simp only [cl_seq, cl_skip]); refine cl_cond rfl (fun g => ?_) (fun g => ?_)))
    · (repeat ((try simp only [cl_seq, cl_skip]); with_reducible refine cg fun K hK => ?_; (simp (maxSteps := 1000000) only [go_sem, Nat.reduceBEq, failF_eq]); (repeat refine ck ?_); (try simp (disch := omega) only [wrap64, wrapi64]); refine hK _ ?_; clear hK K))
      (((try simp only [cl_seq, cl_skip]); (try simp only [cl_ret]); refine hR _ _ (.inr rfl) ?_; (simp (maxSteps := 1000000) only [go_sem])))
    · exact absurd g (by simp; omega)
  | yes i hi hu hp hd hown =>
    have hown' : ml[i].b.owner = c + 1 := by
      rcases hown with hown | hown
      · exact hown
      · exact absurd hown.1 (by simp)
    cases hnn : needV op.n with
    | none =>
      have hib : i < s.h.bl.length := by rw [← h.bs, bks_len]; exact hi
      have hpl := h.place hi hu
      rw [hp] at hpl
      have hrv : resizeV s.h op.off op.n = (s.h, 0, 2) := by
        unfold resizeV
        rw [hpl]
        simp only [List.getElem?_eq_getElem hib, hnn]
      have hbv : blockV s c op = (s, 2, 0, 0) := by
        unfold blockV
        simp only [hd, hk, hrv]
        simp
      rw [hbv]
      refine ⟨B, ml, H, nx, ?_, h.more⟩
      unfold reallocT
      rw [Tryz.results32]
      refine semT_eq rfl (by simp [Tryz.ntmps32]) fun X R hR => ?_
      unfold Cx23 at hR ⊢
      simp only [resC] at hR
      simp only [iiRV, Opn.c] at hmi
      (repeat ((try simp only [cl_seq, cl_skip]); with_reducible refine cg fun K hK => ?_; (simp (maxSteps := 1000000) only [go_sem, Opn.c, Nat.reduceBEq, hmi]); (repeat refine ck ?_); (try simp (disch := omega) only [wrap64, wrapi64]); refine hK _ ?_; clear hK K))
      (((try simp only [cl_seq, cl_skip]); refine cl_cond rfl (fun g => ?_) (fun g => ?_)))
      · exact absurd g (by simp)
      (repeat ((try simp only [cl_seq, cl_skip]); with_reducible refine cg fun K hK => ?_; (simp (maxSteps := 1000000) only [go_sem, Opn.c, Nat.reduceBEq, needF_eq ho.n, optV, hnn, Option.isSome_none, Option.getD_none, Bool.not_false]); (repeat refine ck ?_); (try simp (disch := omega) only [wrap64, wrapi64]); refine hK _ ?_; clear hK K))
      (((try simp only [cl_seq, cl_skip]); refine cl_cond (b := true) rfl (fun _ => ?_) (fun h => nomatch h)))
      (repeat ((try simp only [cl_seq, cl_skip]); with_reducible refine cg fun K hK => ?_; (simp (maxSteps := 1000000) only [go_sem, Nat.reduceBEq, failF_eq]); (repeat refine ck ?_); (try simp (disch := omega) only [wrap64, wrapi64]); refine hK _ ?_; clear hK K))
      (((try simp only [cl_seq, cl_skip]); (try simp only [cl_ret]); refine hR _ _ (.inr rfl) ?_; (simp (maxSteps := 1000000) only [go_sem])))
    | some need =>
      by_cases hle : need ≤ ml[i].b.size
      · exact realloc_in (by omega) h c0 c1 ho hk hi hu hp hd hmi hnn hle
      · exact realloc_move hK h c0 c1 ho hk hi hu hp hd hown' hmi hnn hle
end
end Go.Proofs.YtapdaefpkddioaaGreat.Pe
namespace Go.Proofs.YtapdaefpkddioaaGreat.Pe
open Go
set_option maxHeartbeats 2000000
theorem bl_uniq : ∀ (l1 l2 : List Bk) (a z : Int), chain a l1 z → chain a l2 z → merged l1 → merged l2 → (∀ b ∈ l1, b.good) → (∀ b ∈ l2, b.good) → l1.filter (·.used) = l2.filter (·.used) → l1 = l2 := by
  have pos : ∀ {l : List Bk} {b : Bk}, (∀ b ∈ l, b.good) → b ∈ l → 0 < b.size := fun h hb => by have := (h _ hb).size0; omega
  have nonneg : ∀ {l : List Bk}, (∀ b ∈ l, b.good) → ∀ b ∈ l, 0 ≤ b.size := fun h b hb => by have := (h _ hb).size0; omega
  intro l1
  induction l1 with
  | nil =>
    intro l2 a z c1 c2 _ _ _ g2 _
    cases l2 with
    | nil => rfl
    | cons b t =>
      have h1 : a = z := c1
      have h2 := chain_le c2.2 (nonneg fun x hx => g2 x (List.mem_cons_of_mem _ hx))
      have := pos g2 List.mem_cons_self
      omega
  | cons b1 t1 ih =>
    intro l2 a z c1 c2 m1 m2 g1 g2 hu
    cases l2 with
    | nil =>
      have h1 : a = z := c2
      have h2 := chain_le c1.2 (nonneg fun x hx => g1 x (List.mem_cons_of_mem _ hx))
      have := pos g1 List.mem_cons_self
      omega
    | cons b2 t2 =>
      have mt : ∀ {b : Bk} {t : List Bk}, merged (b :: t) → merged t := fun {b t} h => by
        cases t with
        | nil => trivial
        | cons c t => exact h.2
      have gt1 : ∀ b ∈ t1, b.good := fun x hx => g1 x (List.mem_cons_of_mem _ hx)
      have gt2 : ∀ b ∈ t2, b.good := fun x hx => g2 x (List.mem_cons_of_mem _ hx)
      have p1 := pos g1 (b := b1) List.mem_cons_self
      have p2 := pos g2 (b := b2) List.mem_cons_self
      have e1 : b1.off = a := c1.1
      have e2 : b2.off = a := c2.1
      have rest : b1 = b2 → t1.filter (·.used) = t2.filter (·.used) → b1 :: t1 = b2 :: t2 := by
        intro e hf
        subst e
        rw [ih t2 _ z c1.2 c2.2 (mt m1) (mt m2) gt1 gt2 hf]
      cases u1 : b1.used with
      | true =>
        cases u2 : b2.used with
        | true =>
          rw [List.filter_cons, List.filter_cons, u1, u2] at hu
          simp only [↓reduceIte, List.cons.injEq] at hu
          exact rest hu.1 hu.2
        | false =>
          rw [List.filter_cons, List.filter_cons, u1, u2] at hu
          simp only [↓reduceIte, Bool.false_eq_true] at hu
          have : b1 ∈ t2.filter (·.used) := by rw [← hu]; exact List.mem_cons_self
          have := (chain_mem c2.2 (nonneg gt2) (List.mem_filter.1 this).1).1
          omega
      | false =>
        cases u2 : b2.used with
        | true =>
          rw [List.filter_cons, List.filter_cons, u1, u2] at hu
          simp only [↓reduceIte, Bool.false_eq_true] at hu
          have : b2 ∈ t1.filter (·.used) := by rw [hu]; exact List.mem_cons_self
          have := (chain_mem c1.2 (nonneg gt1) (List.mem_filter.1 this).1).1
          omega
        | false =>
          rw [List.filter_cons, List.filter_cons, u1, u2] at hu
          simp only [Bool.false_eq_true, ↓reduceIte] at hu
          have hsz : b1.size = b2.size := by
            cases t1 with
            | nil =>
              cases t2 with
              | nil =>
                have h1 : a + b1.size = z := c1.2
                have h2 : a + b2.size = z := c2.2
                omega
              | cons y t2 =>
                have hy : y.used = true := by rcases m2.1 with h | h; · rw [u2] at h; cases h
                                              · exact h
                rw [List.filter_cons, hy] at hu
                simp at hu
            | cons x t1 =>
              have hx : x.used = true := by rcases m1.1 with h | h; · rw [u1] at h; cases h
                                            · exact h
              cases t2 with
              | nil => rw [List.filter_cons, hx] at hu; simp at hu
              | cons y t2 =>
                have hy : y.used = true := by rcases m2.1 with h | h; · rw [u2] at h; cases h
                                              · exact h
                rw [List.filter_cons, List.filter_cons, hx, hy] at hu
                simp only [↓reduceIte, List.cons.injEq] at hu
                have h1 : x.off = a + b1.size := c1.2.1
                have h2 : y.off = a + b2.size := c2.2.1
                rw [hu.1] at h1
                omega
          have f1 := (g1 b1 List.mem_cons_self).free u1
          have f2 := (g2 b2 List.mem_cons_self).free u2
          refine rest ?_ hu
          obtain ⟨o1, s1, v1, w1, n1⟩ := b1
          obtain ⟨o2, s2, v2, w2, n2⟩ := b2
          simp only at e1 e2 hsz f1 f2 u1 u2
          simp [e1, e2, hsz, f1, f2, u1, u2]
theorem freedV_used {s : St} (w : s.Wk) {x : Int} (hx : ∃ b ∈ s.h.bl, b.used = true ∧ b.off = x) : (freedV s (x + 32)).h.bl.filter (·.used) = (s.h.bl.filter (·.used)).filter (fun b => decide (b.off ≠ x)) := by
  obtain ⟨b, hb, hu, rfl⟩ := hx
  obtain ⟨i, hi, rfl⟩ := List.getElem_of_mem hb
  have hpl := place_at w.hi hi hu
  have hfh : (freedV s (s.h.bl[i].off + 32)).h.bl = joined (s.h.bl.set i (freeB s.h.bl[i].off s.h.bl[i].size)) := by
    unfold freedV freeHV
    rw [hpl]
    simp only [List.getElem?_eq_getElem hi]
  rw [hfh, used_joined]
  have hne : ∀ (j : Nat) (hj : j < s.h.bl.length), j ≠ i → s.h.bl[j].off ≠ s.h.bl[i].off := fun j hj hji e => hji (chain_inj w.hi.ch (fun b hb => by have := (w.hi.bs b hb).size0; omega) hj hi e)
  have e := splitM hi
  rw [List.set_eq_take_append_cons_drop, if_pos hi, List.filter_append, List.filter_cons]
  have e2 := congrArg (List.filter (fun b : Bk => b.used)) e
  rw [List.filter_append, List.filter_cons, hu] at e2
  rw [e2, List.filter_append]
  simp only [freeB, Bool.false_eq_true, ↓reduceIte]
  have h1 : ((s.h.bl.take i).filter (·.used)).filter (fun b => decide (b.off ≠ s.h.bl[i].off)) = (s.h.bl.take i).filter (·.used) := by
    rw [List.filter_eq_self]
    intro b hb
    have hb := (List.mem_filter.1 hb).1
    obtain ⟨j, hj, rfl⟩ := List.mem_take_iff_getElem.1 hb
    simpa using hne j (by omega) (by omega)
  have h2 : ((s.h.bl.drop (i + 1)).filter (·.used)).filter (fun b => decide (b.off ≠ s.h.bl[i].off)) = (s.h.bl.drop (i + 1)).filter (·.used) := by
    rw [List.filter_eq_self]
    intro b hb
    have hb := (List.mem_filter.1 hb).1
    obtain ⟨j, hj, rfl⟩ := List.getElem_of_mem hb
    rw [List.getElem_drop]
    rw [List.length_drop] at hj
    simpa using hne (i + 1 + j) (by omega) (by omega)
  rw [h1, List.filter_cons]
  simp only [↓reduceIte, List.filter_cons, ne_eq, not_true_eq_false, decide_false, Bool.false_eq_true]
  rw [h2]
theorem freedAll_used : ∀ (L : List Int) {s : St}, s.Wk → L.Nodup → (∀ x ∈ L, ∃ b ∈ s.h.bl, b.used = true ∧ b.off = x) → (freedAll s L).h.bl.filter (·.used) = (s.h.bl.filter (·.used)).filter (fun b => decide (b.off ∉ L))
  | [], s, _, _, _ => by simp [freedAll]
  | x :: L, s, w, hn, hx => by
    obtain ⟨h1, h2⟩ := List.nodup_cons.1 hn
    have hu := freedV_used w (hx x List.mem_cons_self)
    have ih := freedAll_used L (freedV_wk w (x + 32)) h2 (fun y hy => by
      obtain ⟨b, hb, q1, q2⟩ := hx y (List.mem_cons_of_mem _ hy)
      have : b ∈ (freedV s (x + 32)).h.bl.filter (·.used) := by
        rw [hu, List.mem_filter, List.mem_filter]
        exact ⟨⟨hb, q1⟩, by simp only [decide_eq_true_eq]; rw [q2]; rintro rfl; exact h1 hy⟩
      exact ⟨b, (List.mem_filter.1 this).1, q1, q2⟩)
    have e : freedAll s (x :: L) = freedAll (freedV s (x + 32)) L := rfl
    rw [e, ih, hu, List.filter_filter]
    congr 1
    funext b
    simp only [List.mem_cons, not_or, Bool.decide_and]
    rw [Bool.and_comm]
theorem freedAll_same : ∀ (L : List Int) (s : St), (freedAll s L).all = s.all ∧ (freedAll s L).h.fin = s.h.fin ∧ (freedAll s L).names = s.names ∧ (freedAll s L).live = s.live ∧ (freedAll s L).data.length ≤ s.data.length ∧ ∀ p, dlV (freedAll s L).data p = if p - 32 ∈ L then [] else dlV s.data p
  | [], s => ⟨rfl, rfl, rfl, rfl, Nat.le_refl _, fun p => by simp [freedAll]⟩
  | x :: L, s => by
    have e : freedAll s (x :: L) = freedAll (freedV s (x + 32)) L := rfl
    obtain ⟨h1, h2, h3, h4, h5, h6⟩ := freedAll_same L (freedV s (x + 32))
    rw [e]
    refine ⟨h1, h2.trans (freeHV_fin _ _), h3, h4, Nat.le_trans h5 (dropV_len _ _), fun p => ?_⟩
    rw [h6 p]
    have : dlV (freedV s (x + 32)).data p = if p = x + 32 then [] else dlV s.data p := dlV_drop _ _ _
    rw [this]
    by_cases hp : p - 32 ∈ L
    · simp [hp]
    · by_cases hx : p = x + 32
      · subst hx; simp
      · have : ¬ p - 32 = x := by omega
        simp [hp, hx, this]
end Go.Proofs.YtapdaefpkddioaaGreat.Pe
