/- A part of the proof of PmD. -/
import Derived.Test.YtapdaefpkddioaaGreatCb20
set_option linter.unusedSimpArgs false
set_option linter.unusedVariables false
set_option linter.unusedSectionVars false
namespace Go.Proofs.YtapdaefpkddioaaGreat.Pe
open Go
set_option maxHeartbeats 2000000
theorem place_some {l : List Bk} {p : Int} {i : Nat} (h : placeN l p = some i) : ∃ hi : i < l.length, l[i].used = true ∧ l[i].off + 32 = p := by
  unfold placeN at h
  rw [List.findIdx?_eq_some_iff_getElem] at h
  obtain ⟨hi, h1, _⟩ := h
  simp only [Bool.and_eq_true, beq_iff_eq] at h1
  exact ⟨hi, h1⟩
def listDel (ls : List (List Int)) (owner off : Int) : List (List Int) :=
  if 0 < owner then ls.set (owner - 1).toNat ((ls[(owner - 1).toNat]?.getD []).filter (· ≠ off)) else ls
def freeHV (h : Hpp) (p : Int) : Hpp × Int := match placeN h.bl p with
  | none => (h, 4)
  | some i => match h.bl[i]? with
    | none => (h, 4)
    | some b => ({ h with bl := joined (h.bl.set i (freeB b.off b.size)), ls := listDel h.ls b.owner b.off }, 0)
def hRV (x : Hpp × Int) : RV := .tup [.many x.1.c, .one (.int .i64 x.2)]
noncomputable def freeHF : List AD → Option RV := byEnc encHN (fun x => x.1.Inv) fun x => hRV (freeHV x.1 x.2)
theorem freeHF_eq {h : Hpp} {p : Int} (hh : h.Inv) : freeHF [.many h.c, .one (.int .u64 p)] = some (hRV (freeHV h p)) := byEnc_eq (x := (h, p)) encHN_inj hh
theorem freeB_good {a s : Int} (h : 48 ≤ s) (h16 : s % 16 = 0) : (freeB a s).good where
  size0 := h
  size16 := h16
  own0 := by simp [freeB]
  own1 := by simp [freeB]
  len0 := by simp [freeB, U64]
  need h := by simp [freeB] at h
  free _ := ⟨rfl, rfl⟩
theorem freeB_ok {a s : Int} (h : 0 ≤ a) (h1 : a ≤ 1099511627776) (hs : 0 ≤ s) : (freeB a s).ok where
  off0 := h
  off1 := h1
  size0 := hs
  own0 := by simp [freeB]
  own1 := by simp [freeB]
  len := by simp [freeB, U64]
theorem set_all {p : Bk → Prop} {l : List Bk} (h : ∀ b ∈ l, p b) {i : Nat} {c : Bk} (hc : p c) : ∀ b ∈ l.set i c, p b := by
  intro b hb
  rcases List.mem_or_eq_of_mem_set hb with hb | rfl
  · exact h b hb
  · exact hc
theorem sizes_set {l : List Bk} {i : Nat} (hi : i < l.length) {c : Bk} (hc : c.size = l[i].size) : sizes (l.set i c) = sizes l := by
  have e : l = l.take i ++ l[i] :: l.drop (i + 1) := by rw [← List.drop_eq_getElem_cons hi, List.take_append_drop]
  rw [List.set_eq_take_append_cons_drop, if_pos hi]
  rw [congrArg sizes e, sizes_app, sizes_app]
  simp only [sizes, List.map_cons, List.sum_cons, hc]
theorem rowsB_setL (l : List Bk) (i : Nat) (a s : Int) (u : Bool) (o n : Int) : (rowsB l).set i [.int .u64 a, .int .u64 s, .bool u, .int .i64 o, .int .u64 n] = rowsB (l.set i ⟨a, s, u, o, n⟩) := rowsB_set l i ⟨a, s, u, o, n⟩
theorem rowsB_appL (l : List Bk) (a s : Int) (u : Bool) (o n : Int) : rowsB l ++ [[.int .u64 a, .int .u64 s, .bool u, .int .i64 o, .int .u64 n]] = rowsB (l ++ [⟨a, s, u, o, n⟩]) := rowsB_app l [⟨a, s, u, o, n⟩]
attribute [go_sem] rowsB_setL rowsB_appL rowsB_app
theorem joined_set_eq {h : Hpp} (hh : h.Inv) {i : Nat} (hi : i < h.bl.length) : joinedF [.one (.sl (rowsB (h.bl.set i (freeB h.bl[i].off h.bl[i].size))))] = some (.a (.one (.sl (rowsB (joined (h.bl.set i (freeB h.bl[i].off h.bl[i].size))))))) := by
  have g := hh.ok.bs _ (List.getElem_mem hi)
  refine joinedF_eq ?_ (set_all hh.ok.bs (freeB_ok g.off0 g.off1 g.size0)) ?_
  · have := hh.len; unfold Sm; rw [List.length_set]; omega
  · rw [sizes_set hi (by rfl)]; have := hh.ok.sum; omega
theorem freeH_ok : FnPure Tryz.prog 74 freeHF := by
  (refine fn_pure' (f := 74) mixed Tryz.func74 rfl (fun X => { nt := 65, tt := tt, fns := ofList ([(102, .pure placeF), (103, .pure withoutF), (86, .pure joinedF)]), keep := keep74, X := X }) (fun X => ok_of tt_ok (⟨place_ok, by kernel_rfl, without_ok, by kernel_rfl, joined_ok, by kernel_rfl, trivial⟩) (noEqs _)) (fun _ => rfl) (fun _ => rfl) (by decide) Tryz.results74 freeHF ?_)
  intro l r hq
  obtain ⟨⟨h, p⟩, rfl, hh, hr⟩ := byEnc_some hq
  clear hq
  simp only at hh hr
  have hok := hh.ok
  have hlen := hh.len
  have h8' := hh.eight
  have h8 : (rowsL h.ls).length = 8 := by rw [rowsL_len]; exact h8'
  refine ⟨by simp [encHN, Tryz.ntmps74], fun X nx R hR => ?_⟩
  simp only [encHN, Hpp.c]
  have hpl := placeF_eq (p := p) hok
  rw [Hpp.c] at hpl
  unfold freeHV at hr
  cases hp : placeN h.bl p with
  | none =>
    (repeat ((try simp only [cl_seq, cl_skip]); with_reducible refine cg fun K hK => ?_; (simp (maxSteps := 1000000) only [go_sem, h8, hpl, placeV, hp]); (repeat refine ck ?_); (try simp (disch := omega) only [wrap64, wrapi64]); refine hK _ ?_; clear hK K))
    (((try simp only [cl_seq, cl_skip]); refine cl_cond rfl (fun h2 => ?_) (fun h2 => ?_)))
    · (repeat ((try simp only [cl_seq, cl_skip]); with_reducible refine cg fun K hK => ?_; (simp (maxSteps := 1000000) only [go_sem, h8]); (repeat refine ck ?_); (try simp (disch := omega) only [wrap64, wrapi64]); refine hK _ ?_; clear hK K))
      (((try simp only [cl_seq, cl_skip]); (try simp only [cl_ret]); refine hR _ _ (.inr rfl) ?_; (simp (maxSteps := 1000000) only [go_sem, h8])))
      rw [hr, hp]
      rfl
    · exact absurd h2 (by simp)
  | some i =>
    obtain ⟨hi, hu, ho⟩ := place_some hp
    have g := hh.bs _ (List.getElem_mem hi)
    have g0 := g.own0
    have g1 := g.own1
    have hget : h.bl[i]? = some h.bl[i] := List.getElem?_eq_getElem hi
    have hjs := joined_set_eq hh hi
    simp only [freeB] at hjs
    rw [hp] at hr
    simp only [hget] at hr
    (repeat ((try simp only [cl_seq, cl_skip]); with_reducible refine cg fun K hK => ?_; (simp (maxSteps := 1000000) only [go_sem, h8, hpl, placeV, hp]); (repeat refine ck ?_); (try simp (disch := omega) only [wrap64, wrapi64]); refine hK _ ?_; clear hK K))
    (((try simp only [cl_seq, cl_skip]); refine cl_cond rfl (fun h2 => ?_) (fun h2 => ?_)))
    · exact absurd h2 (by simp)
    (repeat ((try simp only [cl_seq, cl_skip]); with_reducible refine cg fun K hK => ?_; (simp (maxSteps := 1000000) only [go_sem, h8, hi, Bk.c]); (repeat refine ck ?_); (try simp (disch := omega) only [wrap64, wrapi64]); refine hK _ ?_; clear hK K))
    (((try simp only [cl_seq, cl_skip]); refine cl_cond rfl (fun h3 => ?_) (fun h3 => ?_)))
    · simp only [decide_eq_true_eq] at h3
      have hk : (h.bl[i].owner - 1).toNat < 8 := by omega
      have hk' : (h.bl[i].owner - 1).toNat < h.ls.length := by omega
      have hf1 := withoutF_eq (x := h.bl[i].off) (hok.lsm _ (List.getElem_mem hk'))
      (repeat ((try simp only [cl_seq, cl_skip]); with_reducible refine cg fun K hK => ?_; (simp (maxSteps := 1000000) only [go_sem, h8, h8', hi, Bk.c, hk, hk', hf1, hjs, wrapi64 (n := h.bl[i].owner - 1) (by omega) (by omega)]); (repeat refine ck ?_); (try simp (disch := omega) only [wrap64, wrapi64]); refine hK _ ?_; clear hK K))
      (((try simp only [cl_seq, cl_skip]); (try simp only [cl_ret]); refine hR _ _ (.inr rfl) ?_; (simp (maxSteps := 1000000) only [go_sem, h8, h8'])))
      rw [hr]
      simp [hRV, Hpp.c, listDel, h3, List.getElem?_eq_getElem (show h.bl[i].owner.toNat - 1 < h.ls.length by omega), freeB]
    · simp only [decide_eq_false_iff_not] at h3
      (repeat ((try simp only [cl_seq, cl_skip]); with_reducible refine cg fun K hK => ?_; (simp (maxSteps := 1000000) only [go_sem, h8, hi, Bk.c, hjs]); (repeat refine ck ?_); (try simp (disch := omega) only [wrap64, wrapi64]); refine hK _ ?_; clear hK K))
      (((try simp only [cl_seq, cl_skip]); (try simp only [cl_ret]); refine hR _ _ (.inr rfl) ?_; (simp (maxSteps := 1000000) only [go_sem, h8, h8'])))
      rw [hr]
      simp [hRV, Hpp.c, listDel, h3, freeB]
end Go.Proofs.YtapdaefpkddioaaGreat.Pe
