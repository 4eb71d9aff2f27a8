/- A part of the proof of PmD. -/
import Derived.Test.YtapdaefpkddioaaGreatCb24
set_option linter.unusedSimpArgs false
set_option linter.unusedVariables false
set_option linter.unusedSectionVars false
namespace Go.Proofs.YtapdaefpkddioaaGreat.Pe
open Go
set_option maxHeartbeats 2000000
theorem rowsN_set (l : List Int) (i : Nat) (x : Int) : (rowsN l).set i [.int .u64 x] = rowsN (l.set i x) := by simp [rowsN, List.map_set]
attribute [go_sem] rowsN_set
structure Opn where
  kind : Int
  n : Int
  a : Int
  off : Int
  i : Int
  v : Int
  to_ : Int
  name : ByteArray
def Opn.c (o : Opn) : List D := [.int .i64 o.kind, .int .u64 o.n, .int .u64 o.a, .int .u64 o.off, .int .u64 o.i, .int .u64 o.v, .int .i64 o.to_, .str o.name]
theorem Opn.c_inj {a b : Opn} (h : a.c = b.c) : a = b := by
  cases a; cases b
  simp only [Opn.c, List.cons.injEq, D.int.injEq, D.str.injEq, true_and, and_true] at h
  simp only [Opn.mk.injEq]; exact h
structure Opn.ok (o : Opn) : Prop where
  n : U64 o.n
  a : U64 o.a
  off : U64 o.off
  i : U64 o.i
  v : U64 o.v
def encSIO (x : Sst × Int × Opn) : List AD := [.many x.1.1.c, .one (.int .i64 x.2.1), .many x.2.2.c]
theorem encSIO_inj (x y : Sst × Int × Opn) (h : encSIO x = encSIO y) : x = y := by
  obtain ⟨a, b, e⟩ := x; obtain ⟨c, d, f⟩ := y
  simp only [encSIO, List.cons.injEq, AD.one.injEq, AD.many.injEq, D.int.injEq, true_and, and_true] at h
  rw [Sst.c_inj h.1, h.2.1, Opn.c_inj h.2.2]
def pubK (k : Int) : Bool := k == 5 || (k == 6 || k == 7)
def ownedV (s : St) (c : Int) (op : Opn) : Int × Int := match placeN s.h.bl op.off with
  | none => (-1, 4)
  | some i => (i, if (((s.h.bl[i]?.map (·.owner)).getD 0 != c + 1) && ((s.h.bl[i]?.map (·.owner)).getD 0 != 0 || !pubK op.kind)) then 5 else 0)
def iiRV (x : Int × Int) : RV := .tup [.one (.int .i64 x.1), .one (.int .i64 x.2)]
noncomputable def ownedF : List AD → Option RV := byEnc encSIO (fun x => x.1.1.Wk ∧ 0 ≤ x.2.1 ∧ x.2.1 ≤ 7) fun x => iiRV (ownedV x.1.1 x.2.1 x.2.2)
theorem ownedF_eq {s : St} {c : Int} {op : Opn} (hs : s.Wk) (c0 : 0 ≤ c) (c1 : c ≤ 7) : ownedF [.many s.c, .one (.int .i64 c), .many op.c] = some (iiRV (ownedV s c op)) := byEnc_eq (x := (⟨s, hs.sh⟩, c, op)) encSIO_inj ⟨hs, c0, c1⟩
theorem owned_ok : FnPure Tryz.prog 87 ownedF := by
  (refine fn_pure' (f := 87) mixed Tryz.func87 rfl (fun X => { nt := 54, tt := tt, fns := ofList ([(102, .pure placeF)]), keep := keep87, X := X }) (fun X => ok_of tt_ok (⟨place_ok, by kernel_rfl, trivial⟩) (noEqs _)) (fun _ => rfl) (fun _ => rfl) (by decide) Tryz.results87 ownedF ?_)
  intro l r hq
  obtain ⟨⟨⟨s, hsh⟩, c, op⟩, rfl, ⟨hs, c0, c1⟩, hr⟩ := byEnc_some hq
  clear hq
  simp only at hs hr c0 c1
  have h1 := hs.sh.ls8
  have h2 := hs.lv8
  have hpl := placeF_eq (p := op.off) hs.hi.ok
  rw [Hpp.c] at hpl
  unfold ownedV at hr
  refine ⟨by simp [encSIO, Tryz.ntmps87], fun X nx R hR => ?_⟩
  simp only [encSIO, St.c, stc, Opn.c]
  cases hp : placeN s.h.bl op.off with
  | none =>
    rw [hp] at hr
    (repeat ((try simp only [cl_seq, cl_skip]); with_reducible refine cg fun K hK => ?_; (simp (maxSteps := 1000000) only [go_sem, h1, h2, hpl, placeV, hp]); (repeat refine ck ?_); (try simp (disch := omega) only [wrap64, wrapi64]); refine hK _ ?_; clear hK K))
    (((try simp only [cl_seq, cl_skip]); refine cl_cond rfl (fun hc => ?_) (fun hc => ?_)))
    · (repeat ((try simp only [cl_seq, cl_skip]); with_reducible refine cg fun K hK => ?_; (simp (maxSteps := 1000000) only [go_sem]); (repeat refine ck ?_); (try simp (disch := omega) only [wrap64, wrapi64]); refine hK _ ?_; clear hK K))
      (((try simp only [cl_seq, cl_skip]); (try simp only [cl_ret]); refine hR _ _ (.inr rfl) ?_; (simp (maxSteps := 1000000) only [go_sem])))
      rw [hr]; rfl
    · exact absurd hc (by simp)
  | some i =>
    obtain ⟨hi, hu, ho⟩ := place_some hp
    have hlen := hs.hi.len
    rw [hp] at hr
    simp only [List.getElem?_eq_getElem hi, Option.map_some, Option.getD_some] at hr
    (repeat ((try simp only [cl_seq, cl_skip]); with_reducible refine cg fun K hK => ?_; (simp (maxSteps := 1000000) only [go_sem, h1, h2, hpl, placeV, hp]); (repeat refine ck ?_); (try simp (disch := omega) only [wrap64, wrapi64]); refine hK _ ?_; clear hK K))
    (((try simp only [cl_seq, cl_skip]); refine cl_cond rfl (fun hc => ?_) (fun hc => ?_)))
    · exact absurd hc (by simp)
    (repeat ((try simp only [cl_seq, cl_skip]); with_reducible refine cg fun K hK => ?_; (simp (maxSteps := 1000000) only [go_sem, h1, h2, hi, Bk.c]); (repeat refine ck ?_); (try simp (disch := omega) only [wrap64, wrapi64]); refine hK _ ?_; clear hK K))
    (((try simp only [cl_seq, cl_skip]); refine cl_reg_b (g := ?g110) (t := ?t110) (L := ?L110) ((pubK op.kind)) (fun K hK => ?h1110) ?h2110; case' h1110 => (simp (maxSteps := 1000000) only [go_sem, h1, h2]); (repeat refine ck ?_); (repeat' (((refine ite_split (fun hb => ?_) (fun hb => ?_) <;> ((try (simp (maxSteps := 1000000) only [go_sem, hb, h1, h2])); (repeat refine ck ?_)))))); all_goals (first | ((try simp (disch := omega) only [wrap64, wrapi64]); refine hK _ ?_; clear hK K; first | rfl | grind | skip) | skip)))
    all_goals try (simp only [pubK, *, Bool.false_or, Bool.true_or, Bool.or_true]; done)
    (((try simp only [cl_seq, cl_skip]); refine cl_reg_b (g := ?g111) (t := ?t111) (L := ?L111) (((s.h.bl[i].owner != c + 1) && (s.h.bl[i].owner != 0 || !pubK op.kind))) (fun K hK => ?h1111) ?h2111; case' h1111 => (simp (maxSteps := 1000000) only [go_sem, h1, h2, wrapi64 (n := c + 1) (by omega) (by omega)]); (repeat refine ck ?_); (repeat' (((refine ite_split (fun hb => ?_) (fun hb => ?_) <;> ((try (simp (maxSteps := 1000000) only [go_sem, hb, h1, h2, wrapi64 (n := c + 1) (by omega) (by omega)])); (repeat refine ck ?_)))))); all_goals (first | ((try simp (disch := omega) only [wrap64, wrapi64]); refine hK _ ?_; clear hK K; first | rfl | grind | skip) | skip)))
    all_goals try (simp only [*, bne_self_eq_false, Bool.false_and, Bool.true_and, Bool.false_or, Bool.true_or, Bool.or_true]; done)
    (((try simp only [cl_seq, cl_skip]); refine cl_cond rfl (fun hd => ?_) (fun hd => ?_)))
    · rw [if_pos hd] at hr
      (repeat ((try simp only [cl_seq, cl_skip]); with_reducible refine cg fun K hK => ?_; (simp (maxSteps := 1000000) only [go_sem]); (repeat refine ck ?_); (try simp (disch := omega) only [wrap64, wrapi64]); refine hK _ ?_; clear hK K))
      (((try simp only [cl_seq, cl_skip]); (try simp only [cl_ret]); refine hR _ _ (.inr rfl) ?_; (simp (maxSteps := 1000000) only [go_sem])))
      rw [hr]; rfl
    · rw [if_neg (by rw [hd]; simp)] at hr
      (repeat ((try simp only [cl_seq, cl_skip]); with_reducible refine cg fun K hK => ?_; (simp (maxSteps := 1000000) only [go_sem]); (repeat refine ck ?_); (try simp (disch := omega) only [wrap64, wrapi64]); refine hK _ ?_; clear hK K))
      (((try simp only [cl_seq, cl_skip]); (try simp only [cl_ret]); refine hR _ _ (.inr rfl) ?_; (simp (maxSteps := 1000000) only [go_sem])))
      rw [hr]; rfl
def ownerV (s : St) (i : Nat) (who : Int) : St := match s.h.bl[i]? with
  | none => s
  | some b => { s with h := { s.h with bl := s.h.bl.set i { b with owner := who }, ls := listAdd (listDel s.h.ls b.owner b.off) who b.off } }
def encSII (x : Sst × Int × Int) : List AD := [.many x.1.1.c, .one (.int .i64 x.2.1), .one (.int .i64 x.2.2)]
theorem encSII_inj (x y : Sst × Int × Int) (h : encSII x = encSII y) : x = y := by
  obtain ⟨a, b, e⟩ := x; obtain ⟨c, d, f⟩ := y
  simp only [encSII, List.cons.injEq, AD.one.injEq, AD.many.injEq, D.int.injEq, true_and, and_true] at h
  rw [Sst.c_inj h.1, h.2.1, h.2.2]
noncomputable def ownerF : List AD → Option RV := byEnc encSII (fun x => x.1.1.Wk ∧ 0 ≤ x.2.1 ∧ x.2.1 < x.1.1.h.bl.length ∧ 0 ≤ x.2.2 ∧ x.2.2 ≤ 8) fun x => .a (.many (ownerV x.1.1 x.2.1.toNat x.2.2).c)
theorem ownerF_eq {s : St} {i w : Int} (hs : s.Wk) (i0 : 0 ≤ i) (i1 : i < s.h.bl.length) (w0 : 0 ≤ w) (w1 : w ≤ 8) : ownerF [.many s.c, .one (.int .i64 i), .one (.int .i64 w)] = some (.a (.many (ownerV s i.toNat w).c)) := byEnc_eq (x := (⟨s, hs.sh⟩, i, w)) encSII_inj ⟨hs, i0, i1, w0, w1⟩
theorem owner_ok : FnPure Tryz.prog 89 ownerF := by
  (refine fn_pure' (f := 89) mixed Tryz.func89 rfl (fun X => { nt := 66, tt := tt, fns := ofList ([(119, .pure withoutF)]), keep := keep89, X := X }) (fun X => ok_of tt_ok (⟨without14_ok, by kernel_rfl, trivial⟩) (noEqs _)) (fun _ => rfl) (fun _ => rfl) (by decide) Tryz.results89 ownerF ?_)
  intro l r hq
  obtain ⟨⟨⟨s, hsh⟩, i, who⟩, rfl, ⟨hs, i0, i1, w0, w1⟩, hr⟩ := byEnc_some hq
  clear hq
  simp only at hs hr i0 i1 w0 w1
  obtain ⟨i, rfl⟩ := Int.eq_ofNat_of_zero_le i0
  rw [Int.toNat_natCast] at hr
  have hi : i < s.h.bl.length := by omega
  have h1 := hs.sh.ls8
  have h2 := hs.lv8
  have hlen := hs.hi.len
  have hls := hs.hi.lsm
  have g := hs.hi.bs _ (List.getElem_mem hi)
  have g0 := g.own0
  have g1 := g.own1
  have hd8 := listDel_len s.h.ls s.h.bl[i].owner s.h.bl[i].off
  unfold ownerV at hr
  simp only [List.getElem?_eq_getElem hi] at hr
  refine ⟨by simp [encSII, Tryz.ntmps89], fun X nx R hR => ?_⟩
  simp only [encSII, St.c, stc]
  (repeat ((try simp only [cl_seq, cl_skip]); with_reducible refine cg fun K hK => ?_; (simp (maxSteps := 1000000) only [go_sem, h1, h2, hi, Bk.c]); (repeat refine ck ?_); (try simp (disch := omega) only [wrap64, wrapi64]); refine hK _ ?_; clear hK K))
  (((try simp only [cl_seq, cl_skip]); refine cl_cond rfl (fun hc => ?_) (fun hc => ?_)))
  all_goals simp only [decide_eq_true_eq, decide_eq_false_iff_not] at hc
  · have hk : (s.h.bl[i].owner - 1).toNat < 8 := by omega
    have hk' : (s.h.bl[i].owner - 1).toNat < s.h.ls.length := by omega
    have hf1 := withoutF_eq (x := s.h.bl[i].off) (hs.hi.ok.lsm _ (List.getElem_mem hk'))
    have hdel : listDel s.h.ls s.h.bl[i].owner s.h.bl[i].off = s.h.ls.set (s.h.bl[i].owner - 1).toNat (s.h.ls[(s.h.bl[i].owner - 1).toNat].filter (· ≠ s.h.bl[i].off)) := by
      unfold listDel; rw [if_pos hc, List.getElem?_eq_getElem hk', Option.getD_some]
    (repeat ((try simp only [cl_seq, cl_skip]); with_reducible refine cg fun K hK => ?_; (simp (maxSteps := 1000000) only [go_sem, h1, h2, hk, hk', hf1, wrapi64 (n := s.h.bl[i].owner - 1) (by omega) (by omega)]); (repeat refine ck ?_); (try simp (disch := omega) only [wrap64, wrapi64]); refine hK _ ?_; clear hK K))
    (((try simp only [cl_seq, cl_skip]); refine cl_cond rfl (fun hw => ?_) (fun hw => ?_)))
    all_goals simp only [decide_eq_true_eq, decide_eq_false_iff_not] at hw
    · have hq : (who - 1).toNat < 8 := by omega
      have hq' : (who - 1).toNat < (s.h.ls.set (s.h.bl[i].owner - 1).toNat (s.h.ls[(s.h.bl[i].owner - 1).toNat].filter (· ≠ s.h.bl[i].off))).length := by rw [List.length_set]; omega
      have hll : ((s.h.ls.set (s.h.bl[i].owner - 1).toNat (s.h.ls[(s.h.bl[i].owner - 1).toNat].filter (· ≠ s.h.bl[i].off)))[(who - 1).toNat]).length ≤ 22000 := by
        have h := List.mem_or_eq_of_mem_set (List.getElem_mem hq')
        rcases h with h | h
        · exact hls _ h
        · rw [h]; exact Nat.le_trans (List.length_filter_le _ _) (hls _ (List.getElem_mem hk'))
      (repeat ((try simp only [cl_seq, cl_skip]); with_reducible refine cg fun K hK => ?_; (simp (maxSteps := 1000000) only [go_sem, h1, h2, hq, hq', hi, Bk.c, wrapi64 (n := who - 1) (by omega) (by omega), rowsN_one]); (repeat refine ck ?_); (try simp (disch := omega) only [wrap64, wrapi64]); refine hK _ ?_; clear hK K))
      (((try simp only [cl_seq, cl_skip]); (try simp only [cl_ret]); refine hR _ _ (.inr rfl) ?_; (simp (maxSteps := 1000000) only [go_sem, h1, h2])))
      rw [hr, hdel]
      simp only [listAdd, if_pos hw, List.getElem?_eq_getElem hq', Option.getD_some]
      rfl
    · (repeat ((try simp only [cl_seq, cl_skip]); with_reducible refine cg fun K hK => ?_; (simp (maxSteps := 1000000) only [go_sem, h1, h2, hi, Bk.c]); (repeat refine ck ?_); (try simp (disch := omega) only [wrap64, wrapi64]); refine hK _ ?_; clear hK K))
      (((try simp only [cl_seq, cl_skip]); (try simp only [cl_ret]); refine hR _ _ (.inr rfl) ?_; (simp (maxSteps := 1000000) only [go_sem, h1, h2])))
      rw [hr, hdel]
      simp [listAdd, hw, St.c, stc]
  · have hdel : listDel s.h.ls s.h.bl[i].owner s.h.bl[i].off = s.h.ls := by unfold listDel; rw [if_neg hc]
    (repeat ((try simp only [cl_seq, cl_skip]); with_reducible refine cg fun K hK => ?_; (simp (maxSteps := 1000000) only [go_sem, h1, h2]); (repeat refine ck ?_); (try simp (disch := omega) only [wrap64, wrapi64]); refine hK _ ?_; clear hK K))
    (((try simp only [cl_seq, cl_skip]); refine cl_cond rfl (fun hw => ?_) (fun hw => ?_)))
    all_goals simp only [decide_eq_true_eq, decide_eq_false_iff_not] at hw
    · have hq : (who - 1).toNat < 8 := by omega
      have hq' : (who - 1).toNat < s.h.ls.length := by omega
      have hll : s.h.ls[(who - 1).toNat].length ≤ 22000 := hls _ (List.getElem_mem hq')
      (repeat ((try simp only [cl_seq, cl_skip]); with_reducible refine cg fun K hK => ?_; (simp (maxSteps := 1000000) only [go_sem, h1, h2, hq, hq', hi, Bk.c, wrapi64 (n := who - 1) (by omega) (by omega), rowsN_one]); (repeat refine ck ?_); (try simp (disch := omega) only [wrap64, wrapi64]); refine hK _ ?_; clear hK K))
      (((try simp only [cl_seq, cl_skip]); (try simp only [cl_ret]); refine hR _ _ (.inr rfl) ?_; (simp (maxSteps := 1000000) only [go_sem, h1, h2])))
      rw [hr, hdel]
      simp only [listAdd, if_pos hw, List.getElem?_eq_getElem hq', Option.getD_some]
      rfl
    · (repeat ((try simp only [cl_seq, cl_skip]); with_reducible refine cg fun K hK => ?_; (simp (maxSteps := 1000000) only [go_sem, h1, h2, hi, Bk.c]); (repeat refine ck ?_); (try simp (disch := omega) only [wrap64, wrapi64]); refine hK _ ?_; clear hK K))
      (((try simp only [cl_seq, cl_skip]); (try simp only [cl_ret]); refine hR _ _ (.inr rfl) ?_; (simp (maxSteps := 1000000) only [go_sem, h1, h2])))
      rw [hr, hdel]
      simp [listAdd, hw, St.c, stc]
end Go.Proofs.YtapdaefpkddioaaGreat.Pe
namespace Go.Proofs.YtapdaefpkddioaaGreat.Pe
open Go
set_option maxHeartbeats 2000000
def blockV (s : St) (c : Int) (op : Opn) : St × Int × Int × Int :=
  let o := ownedV s c op
  if o.2 ≠ 0 then (s, o.2, 0, 0) else
  let d := dataV s op.off
  if op.kind = 4 then
    let r := resizeV s.h op.off op.n
    if r.2.2 ≠ 0 then (s, r.2.2, 0, 0) else ({ s with h := r.1, data := putV (dropV s.data op.off) r.2.1 (sizedV d (wordsV op.n).toNat) }, 0, r.2.1, 0)
  else if op.kind = 5 then
    if 0 ≤ namedV s.names ⟨#[]⟩ op.off then (s, 7, 0, 0) else (freedV s op.off, 0, 0, 0)
  else if op.kind = 11 then (ownerV s o.1.toNat 0, 0, 0, 0)
  else if op.kind = 12 then
    if op.to_ < 0 ∨ 7 < op.to_ then (s, 1, 0, 0)
    else if s.live[op.to_.toNat]?.getD false then (ownerV s o.1.toNat (op.to_ + 1), 0, 0, 0) else (s, 6, 0, 0)
  else if (d.length : Int) ≤ op.i then (s, 1, 0, 0)
  else if op.kind = 7 then (s, 0, 0, d[op.i.toNat]?.getD 0)
  else ({ s with data := putV s.data op.off (d.set op.i.toNat op.v) }, 0, 0, 0)
def opRV (x : St × Int × Int × Int) : RV := stRV x.1 x.2.1 x.2.2.1 x.2.2.2
noncomputable def blockF : List AD → Option RV := byEnc encSIO (fun x => x.1.1.Wk ∧ 0 ≤ x.2.1 ∧ x.2.1 ≤ 7 ∧ x.2.2.ok) fun x => opRV (blockV x.1.1 x.2.1 x.2.2)
theorem blockF_eq {s : St} {c : Int} {op : Opn} (hs : s.Wk) (c0 : 0 ≤ c) (c1 : c ≤ 7) (ho : op.ok) : blockF [.many s.c, .one (.int .i64 c), .many op.c] = some (opRV (blockV s c op)) := byEnc_eq (x := (⟨s, hs.sh⟩, c, op)) encSIO_inj ⟨hs, c0, c1, ho⟩
theorem resize_small {h : Hpp} (v : h.Inv) {p n : Int} (hn : U64 n) (he : (resizeV h p n).2.2 = 0) : n ≤ h.fin := by
  unfold resizeV at he
  split at he
  · cases he
  · rename_i i hp
    obtain ⟨hi, hu, _⟩ := place_some hp
    have g := v.bs _ (List.getElem_mem hi)
    have m := v.mem (List.getElem_mem hi)
    rw [List.getElem?_eq_getElem hi] at he
    cases hnn : needV n with
    | none => rw [hnn] at he; cases he
    | some need =>
      rw [hnn] at he
      simp only at he
      obtain ⟨n0, n1, n16, n2⟩ := needV_range hn hnn
      split at he
      · omega
      · split at he
        · rename_i h0
          exact (take_small v hn h0).1
        · rename_i h0; exact absurd he h0
theorem dataV_len {s : St} (w : s.Wk) (off : Int) : (dataV s off).length ≤ 100000 := by
  unfold dataV
  split
  · rename_i i hi
    cases hg : s.data[i]? with
    | none => simp
    | some x =>
      have := w.ds x (List.mem_of_getElem? hg)
      simpa [Sm] using this
  · simp
theorem block_ok : FnPure Tryz.prog 58 blockF := by
  (refine fn_pure' (f := 58) mixed Tryz.func58 rfl (fun X => { nt := 164, tt := tt, fns := ofList ([(87, .pure ownedF), (53, .pure toldF), (59, .pure dataF), (88, .pure resizeF), (75, .new dropF), (82, .pure wordsF), (81, .pure sizedF), (80, .pure putF), (84, .pure namedF), (46, .pure freedF), (89, .pure ownerF)]), keep := keep58, X := X }) (fun X => ok_of tt_ok (⟨owned_ok, by kernel_rfl, told_ok, by kernel_rfl, data_ok, by kernel_rfl, resize_ok, by kernel_rfl, drop_ok, by kernel_rfl, words_ok, by kernel_rfl, sized_ok, by kernel_rfl, put_ok, by kernel_rfl, named_ok, by kernel_rfl, freed_ok, by kernel_rfl, owner_ok, by kernel_rfl, trivial⟩) (noEqs _)) (fun _ => rfl) (fun _ => rfl) (by decide) Tryz.results58 blockF ?_)
  intro l r hq
  obtain ⟨⟨⟨s, hsh⟩, c, op⟩, rfl, ⟨hs, c0, c1, hop⟩, hr⟩ := byEnc_some hq
  clear hq
  simp only at hs hr c0 c1 hop
  have h1 := hs.sh.ls8
  have h2 := hs.lv8
  have hdl := hs.dl
  have f1 := hs.fin1
  have hoe := ownedF_eq (op := op) hs c0 c1
  have hte : ∀ e, _ := fun e => toldF_eq (e := e) hs.sh
  have hde := dataF_eq (off := op.off) hs
  have hre := resizeF_eq (p := op.off) hs.hi hop.n
  have hri := resizeV_inv (p := op.off) hs.hi hop.n
  have hrs := resize_small (p := op.off) hs.hi hop.n
  have hwe := wordsF_eq hop.n
  have hdr := dropF_eq (l := s.data) (x := op.off) (by unfold Sm; omega)
  have hdrl := dropV_len s.data op.off
  have hdn := dataV_len hs op.off
  have hne := namedF_eq (name := ⟨#[]⟩) (off := op.off) hs
  have hfe := freedF_eq (off := op.off) hs
  have hpl : ∀ i bad, ownedV s c op = (i, bad) → bad = 0 → ∃ k : Nat, i = k ∧ k < s.h.bl.length := by
    intro i bad h hb
    unfold ownedV at h
    split at h
    · injection h with h3 h4; omega
    · rename_i k hk
      obtain ⟨hi, _⟩ := place_some hk
      injection h with h3 h4
      exact ⟨k, h3.symm, hi⟩
  unfold blockV at hr
  generalize ownedV s c op = ow at *
  generalize resizeV s.h op.off op.n = rs at *
  generalize hdd : dataV s op.off = d at *
  obtain ⟨i, bad⟩ := ow
  obtain ⟨k, p, e⟩ := rs
  obtain ⟨kind, n, a, off, ix, v, to_, name⟩ := op
  simp only [Opn.c] at *
  have un := hop.n
  have ui := hop.i
  simp only at un ui
  have hk8 := hri.eight
  refine ⟨by simp [encSIO, Tryz.ntmps58], fun X nx R hR => ?_⟩
  simp only [St.c, stc, iiRV, stRV, takeRV, Hpp.c, resC] at hoe hte hde hre hne hfe
  simp only [encSIO, St.c, stc, Opn.c]
  (repeat ((try simp only [cl_seq, cl_skip]); with_reducible refine cg fun K hK => ?_; (simp (maxSteps := 1000000) only [go_sem, h1, h2, hoe]); (repeat refine ck ?_); (try simp (disch := omega) only [wrap64, wrapi64]); refine hK _ ?_; clear hK K))
  by_cases hb : bad = 0
  · subst hb
    (((try simp only [cl_seq, cl_skip]); refine cl_cond (b := false) rfl (fun h => nomatch h) (fun _ => ?_)))
    obtain ⟨k', rfl, hk'⟩ := hpl i 0 rfl rfl
    simp only [ne_eq, not_true_eq_false, ↓reduceIte] at hr
    (repeat ((try simp only [cl_seq, cl_skip]); with_reducible refine cg fun K hK => ?_; (simp (maxSteps := 1000000) only [go_sem, h1, h2, hde]); (repeat refine ck ?_); (try simp (disch := omega) only [wrap64, wrapi64]); refine hK _ ?_; clear hK K))
    (((try simp only [cl_seq, cl_skip]); refine cl_block fun K1 hK1 R hR1 X hX1 => ?_))
    have hw0 : n ≤ s.h.fin → 0 ≤ wordsV n ∧ wordsV n ≤ 100000 := by intro h; unfold wordsV; unfold U64 at un; omega
    by_cases k4 : kind = 4
    · subst k4
      clear hK1
      simp only [↓reduceIte] at hr
      (repeat ((try simp only [cl_seq, cl_skip]); with_reducible refine cg fun K hK => ?_; (simp (maxSteps := 1000000) only [go_sem]); (repeat refine ck ?_); (try simp (disch := omega) only [wrap64, wrapi64]); refine hK _ ?_; clear hK K))
      (((try simp only [cl_seq, cl_skip]); refine cl_cond (b := true) rfl (fun _ => ?_) (fun h => nomatch h)))
      (repeat ((try simp only [cl_seq, cl_skip]); with_reducible refine cg fun K hK => ?_; (simp (maxSteps := 1000000) only [go_sem, h1, h2, hre, hk8]); (repeat refine ck ?_); (try simp (disch := omega) only [wrap64, wrapi64]); refine hK _ ?_; clear hK K))
      by_cases he : e = 0
      · subst he
        simp only [not_true_eq_false, ↓reduceIte] at hr
        obtain ⟨w0, w1⟩ := hw0 (hrs rfl)
        have hz := sizedF_eq (l := d) hdn w0 w1
        have hp := putF_eq (l := dropV s.data off) (x := p) (d := sizedV d (wordsV n).toNat) (by unfold Sm; omega) (by unfold Sm; rw [sizedV_len]; omega)
        (((try simp only [cl_seq, cl_skip]); refine cl_cond (b := false) rfl (fun h => nomatch h) (fun _ => ?_)))
        (repeat ((try simp only [cl_seq, cl_skip]); with_reducible refine cg fun K hK => ?_; (simp (maxSteps := 1000000) only [go_sem, h1, h2, hk8, hwe, hdr, hz, hp]); (repeat refine ck ?_); (try simp (disch := omega) only [wrap64, wrapi64]); refine hK _ ?_; clear hK K))
        (((try simp only [cl_seq, cl_skip]); (try simp only [cl_ret]); refine hR1 _ (hR _ _ (.inr rfl) ?_); (simp (maxSteps := 1000000) only [go_sem, h1, h2, hk8])))
        rw [hr]; rfl
      · simp only [he, not_false_eq_true, ↓reduceIte] at hr
        (((try simp only [cl_seq, cl_skip]); refine cl_cond rfl (fun hc => ?_) (fun hc => ?_)))
        · (repeat ((try simp only [cl_seq, cl_skip]); with_reducible refine cg fun K hK => ?_; (simp (maxSteps := 1000000) only [go_sem, h1, h2, hte]); (repeat refine ck ?_); (try simp (disch := omega) only [wrap64, wrapi64]); refine hK _ ?_; clear hK K))
          (((try simp only [cl_seq, cl_skip]); (try simp only [cl_ret]); refine hR1 _ (hR _ _ (.inr rfl) ?_); (simp (maxSteps := 1000000) only [go_sem, h1, h2])))
          rw [hr]; rfl
        · exact absurd hc (by simp [he])
    · have b4 : (kind == 4) = false := by simp [k4]
      simp only [k4, ↓reduceIte] at hr
      (repeat ((try simp only [cl_seq, cl_skip]); with_reducible refine cg fun K hK => ?_; (simp (maxSteps := 1000000) only [go_sem, b4]); (repeat refine ck ?_); (try simp (disch := omega) only [wrap64, wrapi64]); refine hK _ ?_; clear hK K))
      (((try simp only [cl_seq, cl_skip]); refine cl_cond (b := false) rfl (fun h => nomatch h) (fun _ => ?_)))
      by_cases k5 : kind = 5
      · subst k5
        clear hK1
        simp only [↓reduceIte] at hr
        (repeat ((try simp only [cl_seq, cl_skip]); with_reducible refine cg fun K hK => ?_; (simp (maxSteps := 1000000) only [go_sem]); (repeat refine ck ?_); (try simp (disch := omega) only [wrap64, wrapi64]); refine hK _ ?_; clear hK K))
        (((try simp only [cl_seq, cl_skip]); refine cl_cond (b := true) rfl (fun _ => ?_) (fun h => nomatch h)))
        (repeat ((try simp only [cl_seq, cl_skip]); with_reducible refine cg fun K hK => ?_; (simp (maxSteps := 1000000) only [go_sem, h1, h2, hne]); (repeat refine ck ?_); (try simp (disch := omega) only [wrap64, wrapi64]); refine hK _ ?_; clear hK K))
        (((try simp only [cl_seq, cl_skip]); refine cl_cond rfl (fun hc => ?_) (fun hc => ?_)))
        · simp only [ge_iff_le, decide_eq_true_eq] at hc
          rw [if_pos hc] at hr
          (repeat ((try simp only [cl_seq, cl_skip]); with_reducible refine cg fun K hK => ?_; (simp (maxSteps := 1000000) only [go_sem, h1, h2, hte]); (repeat refine ck ?_); (try simp (disch := omega) only [wrap64, wrapi64]); refine hK _ ?_; clear hK K))
          (((try simp only [cl_seq, cl_skip]); (try simp only [cl_ret]); refine hR1 _ (hR _ _ (.inr rfl) ?_); (simp (maxSteps := 1000000) only [go_sem, h1, h2])))
          rw [hr]; rfl
        · simp only [ge_iff_le, decide_eq_false_iff_not] at hc
          rw [if_neg hc] at hr
          have hf8 : (freedV s off).h.ls.length = 8 := (freeHV_inv hs.hi off).eight
          have hfl : (freedV s off).live.length = 8 := h2
          generalize freedV s off = s' at *
          try simp only [St.c, stc] at hfe
          (repeat ((try simp only [cl_seq, cl_skip]); with_reducible refine cg fun K hK => ?_; (simp (maxSteps := 1000000) only [go_sem, h1, h2, hfe, hf8, hfl]); (repeat refine ck ?_); (try simp (disch := omega) only [wrap64, wrapi64]); refine hK _ ?_; clear hK K))
          (((try simp only [cl_seq, cl_skip]); (try simp only [cl_ret]); refine hR1 _ (hR _ _ (.inr rfl) ?_); (simp (maxSteps := 1000000) only [go_sem, hf8, hfl])))
          rw [hr]; rfl
      · have b5 : (kind == 5) = false := by simp [k5]
        simp only [k5, ↓reduceIte] at hr
        (repeat ((try simp only [cl_seq, cl_skip]); with_reducible refine cg fun K hK => ?_; (simp (maxSteps := 1000000) only [go_sem, b5]); (repeat refine ck ?_); (try simp (disch := omega) only [wrap64, wrapi64]); refine hK _ ?_; clear hK K))
        (((try simp only [cl_seq, cl_skip]); refine cl_cond (b := false) rfl (fun h => nomatch h) (fun _ => ?_)))
        by_cases k11 : kind = 11
        · subst k11
          clear hK1
          simp only [↓reduceIte] at hr
          have hoe2 := ownerF_eq (i := k') (w := 0) hs (by omega) (by omega) (by omega) (by omega)
          have hf8 : (ownerV s k' 0).h.ls.length = 8 := by
            unfold ownerV; rw [List.getElem?_eq_getElem hk']; simp only [listAdd]
            split
            · rw [List.length_set, listDel_len]; exact h1
            · rw [listDel_len]; exact h1
          have hfl : (ownerV s k' 0).live.length = 8 := by unfold ownerV; rw [List.getElem?_eq_getElem hk']; exact h2
          rw [Int.toNat_natCast] at hr hoe2
          generalize ownerV s k' 0 = s' at *
          simp only [St.c, stc] at hoe2
          (repeat ((try simp only [cl_seq, cl_skip]); with_reducible refine cg fun K hK => ?_; (simp (maxSteps := 1000000) only [go_sem]); (repeat refine ck ?_); (try simp (disch := omega) only [wrap64, wrapi64]); refine hK _ ?_; clear hK K))
          (((try simp only [cl_seq, cl_skip]); refine cl_cond (b := true) rfl (fun _ => ?_) (fun h => nomatch h)))
          (repeat ((try simp only [cl_seq, cl_skip]); with_reducible refine cg fun K hK => ?_; (simp (maxSteps := 1000000) only [go_sem, h1, h2, hoe2, hf8, hfl]); (repeat refine ck ?_); (try simp (disch := omega) only [wrap64, wrapi64]); refine hK _ ?_; clear hK K))
          (((try simp only [cl_seq, cl_skip]); (try simp only [cl_ret]); refine hR1 _ (hR _ _ (.inr rfl) ?_); (simp (maxSteps := 1000000) only [go_sem, hf8, hfl])))
          rw [hr]; rfl
        · have b11 : (kind == 11) = false := by simp [k11]
          simp only [k11, ↓reduceIte] at hr
          (repeat ((try simp only [cl_seq, cl_skip]); with_reducible refine cg fun K hK => ?_; (simp (maxSteps := 1000000) only [go_sem, b11]); (repeat refine ck ?_); (try simp (disch := omega) only [wrap64, wrapi64]); refine hK _ ?_; clear hK K))
          (((try simp only [cl_seq, cl_skip]); refine cl_cond (b := false) rfl (fun h => nomatch h) (fun _ => ?_)))
          by_cases k12 : kind = 12
          · subst k12
            clear hK1
            simp only [↓reduceIte] at hr
            (repeat ((try simp only [cl_seq, cl_skip]); with_reducible refine cg fun K hK => ?_; (simp (maxSteps := 1000000) only [go_sem]); (repeat refine ck ?_); (try simp (disch := omega) only [wrap64, wrapi64]); refine hK _ ?_; clear hK K))
            (((try simp only [cl_seq, cl_skip]); refine cl_cond (b := true) rfl (fun _ => ?_) (fun h => nomatch h)))
            by_cases hto : to_ < 0 ∨ 7 < to_
            · rw [if_pos hto] at hr
              (((try simp only [cl_seq, cl_skip]); refine cl_reg_b (g := ?g120) (t := ?t120) (L := ?L120) ((decide (to_ < 0) || decide (7 < to_))) (fun K hK => ?h1120) ?h2120; case' h1120 => (simp (maxSteps := 1000000) only [go_sem, h1, h2]); (repeat refine ck ?_); (repeat' (((refine ite_split (fun hb => ?_) (fun hb => ?_) <;> ((try (simp (maxSteps := 1000000) only [go_sem, hb, h1, h2])); (repeat refine ck ?_)))))); all_goals (first | ((try simp (disch := omega) only [wrap64, wrapi64]); refine hK _ ?_; clear hK K; first | rfl | grind | skip) | skip)))
              all_goals try (simp only [*, Bool.false_or, Bool.true_or]; done)
              (((try simp only [cl_seq, cl_skip]); refine cl_cond rfl (fun hc => ?_) (fun hc => ?_)))
              · (repeat ((try simp only [cl_seq, cl_skip]); with_reducible refine cg fun K hK => ?_; (simp (maxSteps := 1000000) only [go_sem, h1, h2, hte]); (repeat refine ck ?_); (try simp (disch := omega) only [wrap64, wrapi64]); refine hK _ ?_; clear hK K))
                (((try simp only [cl_seq, cl_skip]); (try simp only [cl_ret]); refine hR1 _ (hR _ _ (.inr rfl) ?_); (simp (maxSteps := 1000000) only [go_sem, h1, h2])))
                rw [hr]; rfl
              · exact absurd hc (by simp; omega)
            · rw [if_neg hto] at hr
              (repeat ((try simp only [cl_seq, cl_skip]); with_reducible refine cg fun K hK => ?_; (simp (maxSteps := 1000000) only [go_sem, h1, h2, show ¬ to_ < 0 by omega, show ¬ 7 < to_ by omega]); (repeat refine ck ?_); (try simp (disch := omega) only [wrap64, wrapi64]); refine hK _ ?_; clear hK K))
              (((try simp only [cl_seq, cl_skip]); refine cl_cond (b := false) rfl (fun h => nomatch h) (fun _ => ?_)))
              have ht : to_.toNat < 8 := by omega
              have ht' : to_.toNat < s.live.length := by omega
              rw [List.getElem?_eq_getElem ht', Option.getD_some] at hr
              (repeat ((try simp only [cl_seq, cl_skip]); with_reducible refine cg fun K hK => ?_; (simp (maxSteps := 1000000) only [go_sem, h1, h2, ht, ht', show 0 ≤ to_ by omega, show to_ < 8 by omega]); (repeat refine ck ?_); (try simp (disch := omega) only [wrap64, wrapi64]); refine hK _ ?_; clear hK K))
              (((try simp only [cl_seq, cl_skip]); refine cl_cond rfl (fun hc => ?_) (fun hc => ?_)))
              · simp only [Bool.not_eq_true'] at hc
                rw [hc] at hr
                (repeat ((try simp only [cl_seq, cl_skip]); with_reducible refine cg fun K hK => ?_; (simp (maxSteps := 1000000) only [go_sem, h1, h2, hte]); (repeat refine ck ?_); (try simp (disch := omega) only [wrap64, wrapi64]); refine hK _ ?_; clear hK K))
                (((try simp only [cl_seq, cl_skip]); (try simp only [cl_ret]); refine hR1 _ (hR _ _ (.inr rfl) ?_); (simp (maxSteps := 1000000) only [go_sem, h1, h2])))
                rw [hr]; rfl
              · simp only [Bool.not_eq_false'] at hc
                rw [hc] at hr
                simp only [↓reduceIte] at hr
                have hoe2 := ownerF_eq (i := k') (w := to_ + 1) hs (by omega) (by omega) (by omega) (by omega)
                have hf8 : (ownerV s k' (to_ + 1)).h.ls.length = 8 := by
                  unfold ownerV; rw [List.getElem?_eq_getElem hk']; simp only [listAdd]
                  split
                  · rw [List.length_set, listDel_len]; exact h1
                  · rw [listDel_len]; exact h1
                have hfl : (ownerV s k' (to_ + 1)).live.length = 8 := by unfold ownerV; rw [List.getElem?_eq_getElem hk']; exact h2
                rw [Int.toNat_natCast] at hr hoe2
                generalize ownerV s k' (to_ + 1) = s' at *
                simp only [St.c, stc] at hoe2
                (repeat ((try simp only [cl_seq, cl_skip]); with_reducible refine cg fun K hK => ?_; (simp (maxSteps := 1000000) only [go_sem, h1, h2, hoe2, hf8, hfl, wrapi64 (n := to_ + 1) (by omega) (by omega)]); (repeat refine ck ?_); (try simp (disch := omega) only [wrap64, wrapi64]); refine hK _ ?_; clear hK K))
                (((try simp only [cl_seq, cl_skip]); (try simp only [cl_ret]); refine hR1 _ (hR _ _ (.inr rfl) ?_); (simp (maxSteps := 1000000) only [go_sem, hf8, hfl])))
                rw [hr]; rfl
          · have b12 : (kind == 12) = false := by simp [k12]
            simp only [k12, ↓reduceIte] at hr
            (repeat ((try simp only [cl_seq, cl_skip]); with_reducible refine cg fun K hK => ?_; (simp (maxSteps := 1000000) only [go_sem, b12]); (repeat refine ck ?_); (try simp (disch := omega) only [wrap64, wrapi64]); refine hK _ ?_; clear hK K))
            (((try simp only [cl_seq, cl_skip]); refine cl_cond (b := false) rfl (fun h => nomatch h) (fun _ => ?_)))
            ((try simp only [cl_seq, cl_skip, cl_exit, cl_nil]))
            refine hK1 _ ?_
            clear hK1 hR1 hX1
            unfold U64 at ui
            (repeat ((try simp only [cl_seq, cl_skip]); with_reducible refine cg fun K hK => ?_; (simp (maxSteps := 1000000) only [go_sem, wrap64 (n := (d.length : Int)) (by omega) (by omega)]); (repeat refine ck ?_); (try simp (disch := omega) only [wrap64, wrapi64]); refine hK _ ?_; clear hK K))
            (((try simp only [cl_seq, cl_skip]); refine cl_cond rfl (fun hc => ?_) (fun hc => ?_)))
            · simp only [ge_iff_le, decide_eq_true_eq] at hc
              rw [if_pos hc] at hr
              (repeat ((try simp only [cl_seq, cl_skip]); with_reducible refine cg fun K hK => ?_; (simp (maxSteps := 1000000) only [go_sem, h1, h2, hte]); (repeat refine ck ?_); (try simp (disch := omega) only [wrap64, wrapi64]); refine hK _ ?_; clear hK K))
              (((try simp only [cl_seq, cl_skip]); (try simp only [cl_ret]); refine hR _ _ (.inr rfl) ?_; (simp (maxSteps := 1000000) only [go_sem, h1, h2])))
              rw [hr]; rfl
            · simp only [ge_iff_le, decide_eq_false_iff_not] at hc
              rw [if_neg hc] at hr
              have hix : ix.toNat < d.length := by omega
              (repeat ((try simp only [cl_seq, cl_skip]); with_reducible refine cg fun K hK => ?_; (simp (maxSteps := 1000000) only [go_sem, h1, h2]); (repeat refine ck ?_); (try simp (disch := omega) only [wrap64, wrapi64]); refine hK _ ?_; clear hK K))
              by_cases k7 : kind = 7
              · subst k7
                simp only [↓reduceIte, List.getElem?_eq_getElem hix, Option.getD_some] at hr
                (((try simp only [cl_seq, cl_skip]); refine cl_cond (b := true) rfl (fun _ => ?_) (fun h => nomatch h)))
                (repeat ((try simp only [cl_seq, cl_skip]); with_reducible refine cg fun K hK => ?_; (simp (maxSteps := 1000000) only [go_sem, h1, h2, hix, show 0 ≤ ix by omega, show ix < d.length by omega]); (repeat refine ck ?_); (try simp (disch := omega) only [wrap64, wrapi64]); refine hK _ ?_; clear hK K))
                (((try simp only [cl_seq, cl_skip]); (try simp only [cl_ret]); refine hR _ _ (.inr rfl) ?_; (simp (maxSteps := 1000000) only [go_sem, h1, h2])))
                rw [hr]; rfl
              · simp only [k7, ↓reduceIte] at hr
                (((try simp only [cl_seq, cl_skip]); refine cl_cond rfl (fun hc7 => ?_) (fun hc7 => ?_)))
                · exact absurd hc7 (by simp [k7])
                have hp := putF_eq (l := s.data) (x := off) (d := d.set ix.toNat v) (by unfold Sm; omega) (by unfold Sm; rw [List.length_set]; omega)
                (repeat ((try simp only [cl_seq, cl_skip]); with_reducible refine cg fun K hK => ?_; (simp (maxSteps := 1000000) only [go_sem, h1, h2, hix, show 0 ≤ ix by omega, show ix < d.length by omega, hp]); (repeat refine ck ?_); (try simp (disch := omega) only [wrap64, wrapi64]); refine hK _ ?_; clear hK K))
                (((try simp only [cl_seq, cl_skip]); (try simp only [cl_ret]); refine hR _ _ (.inr rfl) ?_; (simp (maxSteps := 1000000) only [go_sem, h1, h2])))
                rw [hr]; rfl
  · have hb' : (bad != 0) = true := by simp [hb]
    simp only [ne_eq, hb, not_false_eq_true, ↓reduceIte] at hr
    (((try simp only [cl_seq, cl_skip]); refine cl_cond rfl (fun hc => ?_) (fun hc => ?_)))
    · (repeat ((try simp only [cl_seq, cl_skip]); with_reducible refine cg fun K hK => ?_; (simp (maxSteps := 1000000) only [go_sem, h1, h2, hte]); (repeat refine ck ?_); (try simp (disch := omega) only [wrap64, wrapi64]); refine hK _ ?_; clear hK K))
      (((try simp only [cl_seq, cl_skip]); (try simp only [cl_ret]); refine hR _ _ (.inr rfl) ?_; (simp (maxSteps := 1000000) only [go_sem, h1, h2])))
      rw [hr]; rfl
    · exact absurd hc (by simp [hb])
end Go.Proofs.YtapdaefpkddioaaGreat.Pe
