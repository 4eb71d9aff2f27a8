/- A part of the proof of PmD. -/
import Derived.Test.YtapdaefpkddioaaGreatCb21
set_option linter.unusedSimpArgs false
set_option linter.unusedVariables false
set_option linter.unusedSectionVars false
namespace Go.Proofs.YtapdaefpkddioaaGreat.Pe
open Go
set_option maxHeartbeats 2000000
theorem rowsB_appL2 (l : List Bk) (a s : Int) (u : Bool) (o n a' s' : Int) (u' : Bool) (o' n' : Int) : rowsB l ++ [[.int .u64 a, .int .u64 s, .bool u, .int .i64 o, .int .u64 n], [.int .u64 a', .int .u64 s', .bool u', .int .i64 o', .int .u64 n']] = rowsB (l ++ [⟨a, s, u, o, n⟩, ⟨a', s', u', o', n'⟩]) := rowsB_app l [⟨a, s, u, o, n⟩, ⟨a', s', u', o', n'⟩]
attribute [go_sem] rowsB_appL2 List.length_append
def cutB (l : List Bk) (i : Nat) (size : Int) : List Bk := match l[i]? with
  | none => l
  | some b => if b.size - size < 48 then l else joined (l.take i ++ ([{ b with size := size }, freeB (b.off + size) (b.size - size)] ++ l.drop (i + 1)))
def cutV (h : Hpp) (p size : Int) : Hpp := match placeN h.bl p with
  | none => h
  | some i => { h with bl := cutB h.bl i size }
structure CutOk (h : Hpp) (p size : Int) : Prop where
  inv : h.Inv
  s16 : size % 16 = 0
  s48 : 48 ≤ size
  there : ∃ i, placeN h.bl p = some i
  fits : ∀ i (hi : i < h.bl.length), placeN h.bl p = some i → size ≤ h.bl[i].size ∧ ∃ nd, needV h.bl[i].len = some nd ∧ nd ≤ size
noncomputable def cutF : List AD → Option RV := byEnc encHNN (fun x => CutOk x.1 x.2.1 x.2.2) fun x => hRV (cutV x.1 x.2.1 x.2.2, 0)
theorem cutF_eq {h : Hpp} {p n : Int} (hh : CutOk h p n) : cutF [.many h.c, .one (.int .u64 p), .one (.int .u64 n)] = some (hRV (cutV h p n, 0)) := byEnc_eq (x := (h, p, n)) encHNN_inj hh
theorem sizes_cut {l : List Bk} {i : Nat} (hi : i < l.length) {b c : Bk} (hc : b.size + c.size = l[i].size) : sizes (l.take i ++ ([b, c] ++ l.drop (i + 1))) = sizes l := by
  have e : l = l.take i ++ l[i] :: l.drop (i + 1) := by rw [← List.drop_eq_getElem_cons hi, List.take_append_drop]
  rw [congrArg sizes e, sizes_app, sizes_app, sizes_app]
  simp only [sizes, List.map_cons, List.sum_cons, List.map_nil, List.sum_nil, ← hc]
  omega
theorem cut_all {p : Bk → Prop} {l : List Bk} (h : ∀ b ∈ l, p b) {i : Nat} {b c : Bk} (hb : p b) (hc : p c) : ∀ x ∈ l.take i ++ ([b, c] ++ l.drop (i + 1)), p x := by
  intro x hx
  simp only [List.mem_append, List.mem_cons, List.not_mem_nil, or_false] at hx
  rcases hx with hx | (rfl | rfl) | hx
  · exact h x (List.mem_of_mem_take hx)
  · exact hb
  · exact hc
  · exact h x (List.mem_of_mem_drop hx)
theorem joined_cut_eq {h : Hpp} (hh : h.Inv) {i : Nat} (hi : i < h.bl.length) {size : Int} (h0 : 0 ≤ size) (h1 : size ≤ h.bl[i].size) : joinedF [.one (.sl (rowsB (h.bl.take i ++ ([{ h.bl[i] with size := size }, freeB (h.bl[i].off + size) (h.bl[i].size - size)] ++ h.bl.drop (i + 1)))))] = some (.a (.one (.sl (rowsB (joined (h.bl.take i ++ ([{ h.bl[i] with size := size }, freeB (h.bl[i].off + size) (h.bl[i].size - size)] ++ h.bl.drop (i + 1)))))))) := by
  have g := hh.ok.bs _ (List.getElem_mem hi)
  have m := hh.mem (List.getElem_mem hi)
  have f := hh.fin1
  refine joinedF_eq ?_ (cut_all hh.ok.bs ?_ (freeB_ok ?_ ?_ ?_)) ?_
  · have := hh.len; unfold Sm; simp; omega
  · exact { off0 := g.off0, off1 := g.off1, size0 := h0, own0 := g.own0, own1 := g.own1, len := g.len }
  · omega
  · omega
  · omega
  · rw [sizes_cut hi (by simp [freeB]; omega)]; have := hh.ok.sum; omega
theorem cut_ok : FnPure Tryz.prog 118 cutF := by
  (refine fn_pure' (f := 118) mixed Tryz.func118 rfl (fun X => { nt := 95, tt := tt, fns := ofList ([(102, .pure placeF), (117, .pure needF), (86, .pure joinedF)]), keep := keep118, X := X }) (fun X => ok_of tt_ok (⟨place_ok, by kernel_rfl, need_ok, by kernel_rfl, joined_ok, by kernel_rfl, trivial⟩) (noEqs _)) (fun _ => rfl) (fun _ => rfl) (by decide) Tryz.results118 cutF ?_)
  intro l r hq
  obtain ⟨⟨h, p, size⟩, rfl, hc, hr⟩ := byEnc_some hq
  clear hq
  simp only at hc hr
  obtain ⟨hh, s16, s48, ⟨i, hp⟩, hfits⟩ := hc
  obtain ⟨hi, hu, ho⟩ := place_some hp
  obtain ⟨hf1, nd, hnd, hf2⟩ := hfits i hi hp
  clear hfits
  have hok := hh.ok
  have hlen := hh.len
  have h8' := hh.eight
  have h8 : (rowsL h.ls).length = 8 := by rw [rowsL_len]; exact h8'
  have g := hh.bs _ (List.getElem_mem hi)
  have m := hh.mem (List.getElem_mem hi)
  have f := hh.fin1
  have g0 := g.own0
  have g1 := g.own1
  have hget : h.bl[i]? = some h.bl[i] := List.getElem?_eq_getElem hi
  have hjs := joined_cut_eq hh hi (size := size) (by omega) hf1
  simp only [freeB, ← List.append_assoc] at hjs
  have hpl := placeF_eq (p := p) hok
  rw [Hpp.c] at hpl
  have hne := needF_eq g.len0
  have htm : size.tmod 16 = 0 := by rw [Int.tmod_eq_emod_of_nonneg (by omega)]; exact s16
  unfold cutV cutB at hr
  simp only [hp, hget] at hr
  refine ⟨by simp [encHNN, Tryz.ntmps118], fun X nx R hR => ?_⟩
  simp only [encHNN, Hpp.c]
  (repeat ((try simp only [cl_seq, cl_skip]); with_reducible refine cg fun K hK => ?_; (simp (maxSteps := 1000000) only [go_sem, h8, hpl, placeV, hp]); (repeat refine ck ?_); (try simp (disch := omega) only [wrap64, wrapi64]); refine hK _ ?_; clear hK K))
  (((try simp only [cl_seq, cl_skip]); refine cl_cond rfl (fun h2 => ?_) (fun h2 => ?_)))
  · exact absurd h2 (by simp)
  (repeat ((try simp only [cl_seq, cl_skip]); with_reducible refine cg fun K hK => ?_; (simp (maxSteps := 1000000) only [go_sem, h8, hi, Bk.c, hne, optV, hnd, htm, bne_self_eq_false, show ¬ size < 48 by omega, show ¬ size < nd by omega, show ¬ h.bl[i].size < size by omega]); (repeat refine ck ?_); (try simp (disch := omega) only [wrap64, wrapi64]); refine hK _ ?_; clear hK K))
  (((try simp only [cl_seq, cl_skip]); refine cl_cond rfl (fun h3 => ?_) (fun h3 => ?_)))
  · exact absurd h3 (by simp)
  (repeat ((try simp only [cl_seq, cl_skip]); with_reducible refine cg fun K hK => ?_; (simp (maxSteps := 1000000) only [go_sem, h8, hi, Bk.c]); (repeat refine ck ?_); (try simp (disch := omega) only [wrap64, wrapi64]); refine hK _ ?_; clear hK K))
  (((try simp only [cl_seq, cl_skip]); refine cl_cond rfl (fun h4 => ?_) (fun h4 => ?_)))
  · simp only [decide_eq_true_eq] at h4
    (repeat ((try simp only [cl_seq, cl_skip]); with_reducible refine cg fun K hK => ?_; (simp (maxSteps := 1000000) only [go_sem, h8, hi, Bk.c]); (repeat refine ck ?_); (try simp (disch := omega) only [wrap64, wrapi64]); refine hK _ ?_; clear hK K))
    (((try simp only [cl_seq, cl_skip]); (try simp only [cl_ret]); refine hR _ _ (.inr rfl) ?_; (simp (maxSteps := 1000000) only [go_sem, h8, h8'])))
    rw [hr]
    simp [hRV, Hpp.c, h4]
  · simp only [decide_eq_false_iff_not] at h4
    (repeat ((try simp only [cl_seq, cl_skip]); with_reducible refine cg fun K hK => ?_; (simp (maxSteps := 1000000) only [go_sem, h8, hi, Bk.c, hjs, wrapi64 (n := (i : Int) + 1) (by omega) (by omega), show ((i : Int) + 1).toNat = i + 1 by omega]); (repeat refine ck ?_); (try simp (disch := omega) only [wrap64, wrapi64]); refine hK _ ?_; clear hK K))
    (((try simp only [cl_seq, cl_skip]); (try simp only [cl_ret]); refine hR _ _ (.inr rfl) ?_; (simp (maxSteps := 1000000) only [go_sem, h8, h8'])))
    rw [hr]
    simp [hRV, Hpp.c, h4, freeB]
end Go.Proofs.YtapdaefpkddioaaGreat.Pe
namespace Go.Proofs.YtapdaefpkddioaaGreat.Pe
open Go
theorem split_at {l : List Bk} {i : Nat} (hi : i < l.length) : l = l.take i ++ (l[i] :: l.drop (i + 1)) := by rw [← List.drop_eq_getElem_cons hi, List.take_append_drop]
structure Cutp (h : Hpp) (i : Nat) (b : Bk) (s t : List Bk) : Prop where
  eq : h.bl = s ++ (b :: t)
  cs : chain 3776 s b.off
  ct : chain (b.off + b.size) t h.fin
  gs : ∀ x ∈ s, x.good
  gb : b.good
  gt : ∀ x ∈ t, x.good
  ls : ∀ x ∈ s, x.off + x.size ≤ b.off
  lt : ∀ x ∈ t, b.off + b.size ≤ x.off
theorem Hpp.Inv.cutp {h : Hpp} (v : h.Inv) {i : Nat} (hi : i < h.bl.length) : Cutp h i h.bl[i] (h.bl.take i) (h.bl.drop (i + 1)) := by
  have e := split_at hi
  have hc := v.ch
  rw [e] at hc
  obtain ⟨y, c1, c2, c3⟩ := chain_app.1 hc
  subst c2
  have gs : ∀ x ∈ h.bl.take i, x.good := fun x hx => v.bs x (List.mem_of_mem_take hx)
  have gt : ∀ x ∈ h.bl.drop (i + 1), x.good := fun x hx => v.bs x (List.mem_of_mem_drop hx)
  exact { eq := e, cs := c1, ct := c3, gs := gs, gb := v.bs _ (List.getElem_mem hi), gt := gt, ls := fun x hx => (chain_mem c1 (fun b hb => by have := (gs b hb).size0; omega) hx).2, lt := fun x hx => (chain_mem c3 (fun b hb => by have := (gt b hb).size0; omega) hx).1 }
theorem inv_mid {h : Hpp} (v : h.Inv) {i : Nat} (hi : i < h.bl.length) {M : List Bk} {ls : List (List Int)} (hM : chain h.bl[i].off M (h.bl[i].off + h.bl[i].size)) (hg : ∀ x ∈ M, x.good) (h8 : ls.length = 8) (ho : ∀ k (hk : k < ls.length), Owns (h.bl.take i ++ (M ++ h.bl.drop (i + 1))) k ls[k]) (hm : merged (h.bl.take i ++ (M ++ h.bl.drop (i + 1)))) : ({ h with bl := h.bl.take i ++ (M ++ h.bl.drop (i + 1)), ls := ls } : Hpp).Inv := by
  have c := v.cutp hi
  refine { eight := h8, ch := chain_app.2 ⟨_, c.cs, chain_app.2 ⟨_, hM, c.ct⟩⟩, fin1 := v.fin1, bs := ?_, own := ho, mg := hm }
  intro x hx
  simp only [List.mem_append] at hx
  rcases hx with hx | hx | hx
  · exact c.gs x hx
  · exact hg x hx
  · exact c.gt x hx
theorem merged_mid {s t M : List Bk} {b : Bk} (h : merged (s ++ (b :: t))) (hb : b.used = false) (hM : merged M) (hne : M ≠ []) : merged (s ++ (M ++ t)) := by
  obtain ⟨h1, h2, h3⟩ := merged_app.1 h
  have h4 : merged t ∧ ∀ d, t.head? = some d → d.used = true := by
    match t with
    | [] => exact ⟨trivial, fun d hd => by cases hd⟩
    | d :: t =>
      refine ⟨h2.2, fun e he => ?_⟩
      injection he with he
      subst he
      rcases h2.1 with h | h
      · rw [hb] at h; cases h
      · exact h
  refine merged_app.2 ⟨h1, merged_app.2 ⟨hM, h4.1, fun c d _ hd => .inr (h4.2 d hd)⟩, fun c d hc hd => .inl ?_⟩
  rcases h3 c b hc rfl with h | h
  · exact h
  · rw [hb] at h; cases h
theorem padV_or {off a : Int} (ho : off % 16 = 0) (ha : a % 16 = 0) (h16 : 16 ≤ a) : padV off a = 0 ∨ 48 ≤ padV off a := by
  by_cases hz : (off + 32) % a = 0
  · left; unfold padV; rw [if_pos hz]
  · exact .inr ((pad_facts ho ha h16).2.2.2 hz).1
theorem owns_in {l s t M : List Bk} {b : Bk} {k : Nat} {x : List Int} (e : l = s ++ (b :: t)) (hu : M.filter (·.used) = [b].filter (·.used)) (o : Owns l k x) : Owns (s ++ (M ++ t)) k x := by
  refine o.cong ?_
  rw [e, List.filter_append, List.filter_append, List.filter_append, hu, show b :: t = [b] ++ t from rfl, List.filter_append]
theorem takeV_inv {h : Hpp} (v : h.Inv) {o n a : Int} (o0 : 0 ≤ o) (o1 : o ≤ 8) (hn : U64 n) : (takeV h o n a).1.Inv := by
  unfold takeV
  have hfi := fit_is h.bl n a
  generalize fitV h.bl n a = fv at *
  cases hfi with
  | bad e he => simp only [show ¬ e = 0 by omega, ↓reduceIte]; exact v
  | good i need hi hf hnn haa =>
    simp only [↓reduceIte, Int.toNat_natCast, List.getElem?_eq_getElem hi, Option.map_some, Option.getD_some, takeB]
    simp only [fits, Bool.and_eq_true, Bool.not_eq_true', decide_eq_true_eq] at hf
    obtain ⟨⟨f1, f2⟩, f3⟩ := hf
    obtain ⟨n0, n1, n16, _⟩ := needV_range hn hnn
    have b16 := v.al _ (List.getElem_mem hi)
    obtain ⟨a16, a0, _⟩ := align_16 haa
    obtain ⟨p16, p0, _, _⟩ := pad_facts b16 a16 a0
    have por := padV_or b16 a16 a0
    have c := v.cutp hi
    have g := c.gb
    have s16 := g.size16
    have s48 := g.size0
    generalize hbb : h.bl[i] = b at *
    generalize padV b.off a = pd at *
    have h8 := v.eight
    let A : List Bk := if 0 < pd then [freeB b.off pd] else []
    let U : Bk := ⟨b.off + pd, if b.size - pd - need < 48 then need + (b.size - pd - need) else need, true, o, n⟩
    let R : List Bk := if 48 ≤ b.size - pd - need then [freeB (b.off + pd + need) (b.size - pd - need)] else []
    have hA : chain b.off A (b.off + pd) ∧ (∀ x ∈ A, x.good) ∧ (A.filter (·.used) = []) ∧ (A = [] ∨ ∃ x, A = [x]) := by
      by_cases hp : 0 < pd
      · simp only [A, if_pos hp]
        refine ⟨⟨rfl, rfl⟩, fun x hx => ?_, rfl, .inr ⟨_, rfl⟩⟩
        simp only [List.mem_singleton] at hx; subst hx
        exact freeB_good (by omega) p16
      · simp only [A, if_neg hp]
        exact ⟨by simp only [chain]; omega, fun x hx => (by cases hx), rfl, .inl (by simp)⟩
    have hR : chain (U.off + U.size) R (b.off + b.size) ∧ (∀ x ∈ R, x.good) ∧ (R.filter (·.used) = []) ∧ (R = [] ∨ ∃ x, R = [x]) := by
      by_cases hp : 48 ≤ b.size - pd - need
      · simp only [R, U, if_pos hp, show ¬ b.size - pd - need < 48 by omega, ↓reduceIte]
        refine ⟨⟨rfl, by simp only [freeB, chain]; omega⟩, fun x hx => ?_, rfl, .inr ⟨_, rfl⟩⟩
        simp only [List.mem_singleton] at hx; subst hx
        exact freeB_good (by omega) (by omega)
      · simp only [R, U, if_neg hp, show b.size - pd - need < 48 by omega, ↓reduceIte]
        exact ⟨by simp only [chain]; omega, fun x hx => (by cases hx), rfl, .inl (by simp)⟩
    have hUs : need ≤ U.size ∧ U.size % 16 = 0 := by
      simp only [U]; split <;> omega
    have hU : U.good := { size0 := by have := hUs.1; omega, size16 := hUs.2, own0 := o0, own1 := o1, len0 := hn, need := fun _ => ⟨need, hnn, hUs.1⟩, free := fun hf => by simp [U] at hf }
    show ({ h with bl := h.bl.take i ++ (A ++ ([U] ++ (R ++ h.bl.drop (i + 1)))), ls := listAdd h.ls o U.off } : Hpp).Inv
    have e : h.bl.take i ++ (A ++ ([U] ++ (R ++ h.bl.drop (i + 1)))) = h.bl.take i ++ ((A ++ ([U] ++ R)) ++ h.bl.drop (i + 1)) := by simp
    rw [e]
    subst hbb
    have hMu : (A ++ ([U] ++ R)).filter (·.used) = [U] := by
      rw [List.filter_append, List.filter_append, hA.2.2.1, hR.2.2.1]; rfl
    have hnew : ∀ x ∈ h.bl, x.used = true → x.off ≠ U.off := by
      intro x hx hu he
      rw [c.eq] at hx
      have hUo : U.off = h.bl[i].off + pd := rfl
      rcases List.mem_append.1 hx with hx | hx
      · have := c.ls x hx
        have := (c.gs x hx).size0
        omega
      · rcases List.mem_cons.1 hx with rfl | hx
        · rw [f1] at hu; cases hu
        · have := c.lt x hx; omega
    have hmem : ∀ (k : Nat) (y : Int), (∃ b ∈ h.bl.take i ++ ((A ++ ([U] ++ R)) ++ h.bl.drop (i + 1)), b.used = true ∧ b.owner = (k : Int) + 1 ∧ b.off = y) ↔ ((o = (k : Int) + 1 ∧ y = U.off) ∨ ∃ b ∈ h.bl, b.used = true ∧ b.owner = (k : Int) + 1 ∧ b.off = y) := by
      intro k y
      have hin : ∀ x : Bk, x.used = true → (x ∈ h.bl.take i ++ ((A ++ ([U] ++ R)) ++ h.bl.drop (i + 1)) ↔ x = U ∨ x ∈ h.bl) := by
        intro x hu
        have h1 : x ∈ A ++ ([U] ++ R) ↔ x = U := by
          have : x ∈ (A ++ ([U] ++ R)).filter (·.used) ↔ x = U := by rw [hMu]; simp
          simpa [List.mem_filter, hu] using this
        have h2 : x ∈ h.bl ↔ x ∈ h.bl.take i ∨ x ∈ h.bl.drop (i + 1) := by
          conv => lhs; rw [c.eq]
          simp only [List.mem_append, List.mem_cons]
          constructor
          · rintro (h | rfl | h)
            · exact .inl h
            · rw [f1] at hu; cases hu
            · exact .inr h
          · rintro (h | h)
            · exact .inl h
            · exact .inr (.inr h)
        rw [List.mem_append, List.mem_append, h1, h2]
        constructor
        · rintro (h | h | h)
          · exact .inr (.inl h)
          · exact .inl h
          · exact .inr (.inr h)
        · rintro (h | h | h)
          · exact .inr (.inl h)
          · exact .inl h
          · exact .inr (.inr h)
      constructor
      · rintro ⟨x, hx, hu, hk, rfl⟩
        rcases (hin x hu).1 hx with rfl | hx
        · exact .inl ⟨hk, rfl⟩
        · exact .inr ⟨x, hx, hu, hk, rfl⟩
      · rintro (⟨hk, rfl⟩ | ⟨x, hx, hu, hk, rfl⟩)
        · exact ⟨U, (hin U rfl).2 (.inl rfl), rfl, hk, rfl⟩
        · exact ⟨x, (hin x hu).2 (.inr hx), hu, hk, rfl⟩
    refine inv_mid v hi ?_ ?_ ?_ ?_ ?_
    · exact chain_app.2 ⟨_, hA.1, chain_app.2 ⟨U.off + U.size, ⟨rfl, rfl⟩, hR.1⟩⟩
    · intro x hx
      simp only [List.mem_append, List.mem_singleton] at hx
      rcases hx with hx | rfl | hx
      · exact hA.2.1 x hx
      · exact hU
      · exact hR.2.1 x hx
    · unfold listAdd; split
      · rw [List.length_set]; exact h8
      · exact h8
    · intro k hk
      have hk8 : k < h.ls.length := by
        have : (listAdd h.ls o U.off).length = h.ls.length := by unfold listAdd; split <;> simp
        omega
      have ow := v.own k hk8
      by_cases ho : 0 < o ∧ (o - 1).toNat = k
      · obtain ⟨ho, rfl⟩ := ho
        simp only [listAdd, if_pos ho, List.getElem_set_self, List.getElem?_eq_getElem hk8, Option.getD_some]
        have hok : o = ((o - 1).toNat : Int) + 1 := by omega
        refine ⟨List.nodup_cons.2 ⟨fun hin => ?_, ow.nd⟩, fun y => ?_⟩
        · obtain ⟨x, hx, hu, _, he⟩ := (ow.mem _).1 hin
          exact hnew x hx hu he
        · rw [hmem, List.mem_cons, ow.mem]
          constructor
          · rintro (h | h)
            · exact .inl ⟨hok, h⟩
            · exact .inr h
          · rintro (⟨_, h⟩ | h)
            · exact .inl h
            · exact .inr h
      · have hl : (listAdd h.ls o U.off)[k] = h.ls[k] := by
          unfold listAdd
          split
          · rename_i hp
            rw [List.getElem_set_ne (by intro e; exact ho ⟨hp, e⟩)]
          · rfl
        rw [hl]
        refine ⟨ow.nd, fun y => ?_⟩
        rw [hmem, ow.mem]
        constructor
        · exact .inr
        · rintro (⟨hk', _⟩ | h)
          · exact absurd ⟨by omega, by omega⟩ ho
          · exact h
    · have hm := v.mg
      rw [c.eq] at hm
      refine merged_mid hm f1 ?_ (by simp)
      rcases hA.2.2.2 with hA | ⟨x, hA⟩ <;> rcases hR.2.2.2 with hR | ⟨y, hR⟩ <;> rw [hA, hR] <;> simp [merged, U]
end Go.Proofs.YtapdaefpkddioaaGreat.Pe
namespace Go.Proofs.YtapdaefpkddioaaGreat.Pe
open Go
theorem inv_joined {h : Hpp} {L : List Bk} {ls : List (List Int)} (hc : chain 3776 L h.fin) (h1 : h.fin ≤ 1048576) (hg : ∀ x ∈ L, x.good) (h8 : ls.length = 8) (ho : ∀ k (hk : k < ls.length), Owns L k ls[k]) : ({ h with bl := joined L, ls := ls } : Hpp).Inv where
  eight := h8
  ch := chain_joined hc
  fin1 := h1
  bs := joined_good hg
  own k hk := (ho k hk).cong (used_joined L).symm
  mg := merged_joined L
theorem set_mid {l : List Bk} {i : Nat} (hi : i < l.length) (c : Bk) : l.set i c = l.take i ++ ([c] ++ l.drop (i + 1)) := by
  rw [List.set_eq_take_append_cons_drop, if_pos hi]; rfl
theorem mid_chain {h : Hpp} {i : Nat} {b : Bk} {s t M : List Bk} (c : Cutp h i b s t) (hM : chain b.off M (b.off + b.size)) : chain 3776 (s ++ (M ++ t)) h.fin := chain_app.2 ⟨_, c.cs, chain_app.2 ⟨_, hM, c.ct⟩⟩
theorem mid_good {h : Hpp} {i : Nat} {b : Bk} {s t M : List Bk} (c : Cutp h i b s t) (hM : ∀ x ∈ M, x.good) : ∀ x ∈ s ++ (M ++ t), x.good := by
  intro x hx
  simp only [List.mem_append] at hx
  rcases hx with hx | hx | hx
  · exact c.gs x hx
  · exact hM x hx
  · exact c.gt x hx
theorem listDel_len (ls : List (List Int)) (o x : Int) : (listDel ls o x).length = ls.length := by unfold listDel; split <;> simp
theorem freed_inv {h : Hpp} (v : h.Inv) {i : Nat} (hi : i < h.bl.length) (hu : h.bl[i].used = true) : ({ h with bl := joined (h.bl.set i (freeB h.bl[i].off h.bl[i].size)), ls := listDel h.ls h.bl[i].owner h.bl[i].off } : Hpp).Inv := by
  have c := v.cutp hi
  have g := c.gb
  rw [set_mid hi]
  refine inv_joined (mid_chain c ⟨rfl, rfl⟩) v.fin1 (mid_good c fun x hx => ?_) (by rw [listDel_len]; exact v.eight) fun k hk => ?_
  · simp only [List.mem_singleton] at hx; subst hx; exact freeB_good g.size0 g.size16
  · have hk8 : k < h.ls.length := by rw [listDel_len] at hk; exact hk
    have ow := v.own k hk8
    have hin : ∀ x : Bk, x.used = true → (x ∈ h.bl.take i ++ ([freeB h.bl[i].off h.bl[i].size] ++ h.bl.drop (i + 1)) ↔ x ∈ h.bl ∧ x.off ≠ h.bl[i].off) := by
      intro x hxu
      have e : x ∈ h.bl ↔ x ∈ h.bl.take i ∨ x = h.bl[i] ∨ x ∈ h.bl.drop (i + 1) := by
        conv => lhs; rw [c.eq]
        simp only [List.mem_append, List.mem_cons]
      rw [e]
      simp only [List.mem_append, List.mem_singleton]
      have g0 := g.size0
      constructor
      · rintro (hx | rfl | hx)
        · have := c.ls x hx
          have := (c.gs x hx).size0
          exact ⟨.inl hx, by omega⟩
        · cases hxu
        · have := c.lt x hx
          exact ⟨.inr (.inr hx), by omega⟩
      · rintro ⟨hx | rfl | hx, hne⟩
        · exact .inl hx
        · exact absurd rfl hne
        · exact .inr (.inr hx)
    by_cases ho : 0 < h.bl[i].owner ∧ (h.bl[i].owner - 1).toNat = k
    · obtain ⟨ho, rfl⟩ := ho
      simp only [listDel, if_pos ho, List.getElem_set_self, List.getElem?_eq_getElem hk8, Option.getD_some]
      refine ⟨ow.nd.filter _, fun y => ?_⟩
      rw [List.mem_filter, ow.mem, decide_eq_true_eq]
      constructor
      · rintro ⟨⟨x, hx, hxu, hxo, rfl⟩, hne⟩
        exact ⟨x, (hin x hxu).2 ⟨hx, hne⟩, hxu, hxo, rfl⟩
      · rintro ⟨x, hx, hxu, hxo, rfl⟩
        obtain ⟨h1, h2⟩ := (hin x hxu).1 hx
        exact ⟨⟨x, h1, hxu, hxo, rfl⟩, h2⟩
    · have hl : (listDel h.ls h.bl[i].owner h.bl[i].off)[k] = h.ls[k] := by
        unfold listDel
        split
        · rename_i hp
          rw [List.getElem_set_ne (by intro e; exact ho ⟨hp, e⟩)]
        · rfl
      rw [hl]
      refine ⟨ow.nd, fun y => ?_⟩
      rw [ow.mem]
      constructor
      · rintro ⟨x, hx, hxu, hxo, rfl⟩
        refine ⟨x, (hin x hxu).2 ⟨hx, fun he => ?_⟩, hxu, hxo, rfl⟩
        have e : x = h.bl[i] := by
          rw [c.eq] at hx
          rcases List.mem_append.1 hx with hx | hx
          · have := c.ls x hx
            have := (c.gs x hx).size0
            omega
          · rcases List.mem_cons.1 hx with hx | hx
            · exact hx
            · have := c.lt x hx
              have := g.size0
              omega
        subst e
        exact ho ⟨by omega, by omega⟩
      · rintro ⟨x, hx, hxu, hxo, rfl⟩
        exact ⟨x, ((hin x hxu).1 hx).1, hxu, hxo, rfl⟩
theorem freeHV_inv {h : Hpp} (v : h.Inv) (p : Int) : (freeHV h p).1.Inv := by
  unfold freeHV
  split
  · exact v
  · rename_i i hp
    obtain ⟨hi, hu, _⟩ := place_some hp
    simp only [List.getElem?_eq_getElem hi]
    exact freed_inv v hi hu
theorem owns_same {bl bl' : List Bk} {k : Nat} {l : List Int} (o : Owns bl k l) (h : ∀ y, (∃ b ∈ bl', b.used = true ∧ b.owner = (k : Int) + 1 ∧ b.off = y) ↔ (∃ b ∈ bl, b.used = true ∧ b.owner = (k : Int) + 1 ∧ b.off = y)) : Owns bl' k l := ⟨o.nd, fun y => by rw [o.mem, h]⟩
theorem owns_mid {h : Hpp} {i : Nat} {b c : Bk} {s t M : List Bk} (cp : Cutp h i b s t) (hM : M.filter (·.used) = [c]) (hu : b.used = true) (hcu : c.used = true) (ho : c.owner = b.owner) (hf : c.off = b.off) {k : Nat} {l : List Int} (o : Owns h.bl k l) : Owns (s ++ (M ++ t)) k l := by
  refine owns_same o fun y => ?_
  have hin : ∀ x : Bk, x.used = true → (x ∈ M ↔ x = c) := fun x hx => by
    have : x ∈ M.filter (·.used) ↔ x = c := by rw [hM]; simp
    simpa [List.mem_filter, hx] using this
  rw [cp.eq]
  simp only [List.mem_append, List.mem_cons]
  constructor
  · rintro ⟨x, hx | hx | hx, hxu, hxo, rfl⟩
    · exact ⟨x, .inl hx, hxu, hxo, rfl⟩
    · have e := (hin x hxu).1 hx
      subst e
      exact ⟨b, .inr (.inl rfl), hu, by rw [← ho]; exact hxo, hf.symm⟩
    · exact ⟨x, .inr (.inr hx), hxu, hxo, rfl⟩
  · rintro ⟨x, hx | rfl | hx, hxu, hxo, rfl⟩
    · exact ⟨x, .inl hx, hxu, hxo, rfl⟩
    · exact ⟨c, .inr (.inl ((hin c hcu).2 rfl)), hcu, by rw [ho]; exact hxo, hf⟩
    · exact ⟨x, .inr (.inr hx), hxu, hxo, rfl⟩
theorem cutB_inv {h : Hpp} (v : h.Inv) {i : Nat} (hi : i < h.bl.length) (hu : h.bl[i].used = true) {size nd : Int} (s16 : size % 16 = 0) (s48 : 48 ≤ size) (hle : size ≤ h.bl[i].size) (hn : needV h.bl[i].len = some nd) (hnd : nd ≤ size) : ({ h with bl := cutB h.bl i size } : Hpp).Inv := by
  unfold cutB
  simp only [List.getElem?_eq_getElem hi]
  split
  · exact v
  · rename_i hr
    have c := v.cutp hi
    have g := c.gb
    have g16 := g.size16
    refine inv_joined (mid_chain c ⟨rfl, rfl, by simp only [chain, freeB]; omega⟩) v.fin1 (mid_good c fun x hx => ?_) v.eight fun k hk => owns_mid c (c := { h.bl[i] with size := size }) (by simp [freeB, hu]) hu hu rfl rfl (v.own k hk)
    simp only [List.mem_cons, List.not_mem_nil, or_false] at hx
    rcases hx with rfl | rfl
    · exact { size0 := s48, size16 := s16, own0 := g.own0, own1 := g.own1, len0 := g.len0, need := fun _ => ⟨nd, hn, hnd⟩, free := fun hf => by simp only at hf; rw [hu] at hf; cases hf }
    · exact freeB_good (by omega) (by omega)
theorem CutOk.res {h : Hpp} {p size : Int} (c : CutOk h p size) : (cutV h p size).Inv := by
  obtain ⟨v, s16, s48, ⟨i, hp⟩, hf⟩ := c
  obtain ⟨hi, hu, _⟩ := place_some hp
  obtain ⟨h1, nd, h2, h3⟩ := hf i hi hp
  unfold cutV
  rw [hp]
  exact cutB_inv v hi hu s16 s48 h1 h2 h3
def growV (h : Hpp) (n all : Int) : Hpp × Int :=
  if n % 16 ≠ 0 ∨ n < 48 then (h, 1)
  else if all < h.fin + n then (h, 3)
  else ({ h with fin := h.fin + n, bl := joined (h.bl ++ [freeB h.fin n]) }, 0)
theorem growV_inv {h : Hpp} (v : h.Inv) {n all : Int} (ha : all ≤ 1048576) : (growV h n all).1.Inv := by
  unfold growV
  split
  · exact v
  · split
    · exact v
    · rename_i h1 h2
      refine inv_joined (h := { h with fin := h.fin + n }) (chain_app.2 ⟨_, v.ch, rfl, rfl⟩) (by simp only; omega) ?_ v.eight fun k hk => (v.own k hk).cong (by simp [freeB])
      intro x hx
      rcases List.mem_append.1 hx with hx | hx
      · exact v.bs x hx
      · simp only [List.mem_singleton] at hx; subst hx; exact freeB_good (by omega) (by omega)
def resizeV (h : Hpp) (p n : Int) : Hpp × Int × Int := match placeN h.bl p with
  | none => (h, 0, 4)
  | some i => match h.bl[i]?, needV n with
    | some b, some need =>
      if need ≤ b.size then (cutV { h with bl := h.bl.set i { b with len := n } } p need, p, 0)
      else if (takeV h b.owner n 16).2.2 = 0 then ((freeHV (takeV h b.owner n 16).1 p).1, (takeV h b.owner n 16).2.1, 0) else (h, 0, (takeV h b.owner n 16).2.2)
    | _, _ => (h, 0, 2)
theorem findIdx_set {l : List Bk} {i : Nat} {c : Bk} {f : Bk → Bool} (hi : i < l.length) (h : f c = f l[i]) : (l.set i c).findIdx? f = l.findIdx? f := by
  rw [set_mid hi]
  rw [congrArg (List.findIdx? f) (split_at hi)]
  simp only [List.findIdx?_append, List.singleton_append, List.findIdx?_cons, h]
theorem resize_len {h : Hpp} (v : h.Inv) {p n : Int} {i : Nat} (hp : placeN h.bl p = some i) (hi : i < h.bl.length) (hn : U64 n) {need : Int} (hnn : needV n = some need) (hle : need ≤ h.bl[i].size) : CutOk { h with bl := h.bl.set i { h.bl[i] with len := n } } p need := by
  obtain ⟨_, hu, hoff⟩ := place_some hp
  obtain ⟨n0, _, n16, _⟩ := needV_range hn hnn
  have c := v.cutp hi
  have g := c.gb
  have hp' : placeN (h.bl.set i { h.bl[i] with len := n }) p = some i := by rw [← hp]; exact findIdx_set hi rfl
  refine ⟨?_, n16, n0, ⟨i, hp'⟩, fun j hj hjp => ?_⟩
  · rw [set_mid hi]
    have hm := v.mg
    refine { eight := v.eight, ch := mid_chain (h := h) c ⟨rfl, rfl⟩, fin1 := v.fin1, bs := mid_good c fun x hx => ?_, own := fun k hk => owns_mid c (c := { h.bl[i] with len := n }) (by simp [hu]) hu hu rfl rfl (v.own k hk), mg := ?_ }
    · simp only [List.mem_singleton] at hx; subst hx
      exact { size0 := g.size0, size16 := g.size16, own0 := g.own0, own1 := g.own1, len0 := hn, need := fun _ => ⟨need, hnn, hle⟩, free := fun hf => by simp only at hf; rw [hu] at hf; cases hf }
    · rw [c.eq] at hm
      obtain ⟨h1, h2, h3⟩ := merged_app.1 hm
      refine merged_app.2 ⟨h1, ?_, fun d e hd he => ?_⟩
      · show merged ({ h.bl[i] with len := n } :: h.bl.drop (i + 1))
        generalize h.bl.drop (i + 1) = t at *
        match t with
        | [] => trivial
        | e :: t => exact ⟨h2.1, h2.2⟩
      · injection he with he
        subst he
        have h4 := h3 d h.bl[i] hd (by simp)
        exact h4
  · have e : j = i := by simp only at hjp; rw [hp'] at hjp; injection hjp with hjp; exact hjp.symm
    subst e
    simp only [List.getElem_set_self]
    exact ⟨hle, need, hnn, Int.le_refl _⟩
theorem resizeV_inv {h : Hpp} (v : h.Inv) {p n : Int} (hn : U64 n) : (resizeV h p n).1.Inv := by
  unfold resizeV
  split
  · exact v
  · rename_i i hp
    obtain ⟨hi, hu, _⟩ := place_some hp
    have g := v.bs _ (List.getElem_mem hi)
    rw [List.getElem?_eq_getElem hi]
    cases hnn : needV n with
    | none => exact v
    | some need =>
      simp only
      split
      · rename_i hle
        exact (resize_len v hp hi hn hnn hle).res
      · split
        · exact freeHV_inv (takeV_inv v g.own0 g.own1 hn) p
        · exact v
end Go.Proofs.YtapdaefpkddioaaGreat.Pe
namespace Go.Proofs.YtapdaefpkddioaaGreat.Pe
open Go
set_option maxHeartbeats 2000000
noncomputable def resizeF : List AD → Option RV := byEnc encHNN (fun x => x.1.Inv ∧ U64 x.2.2) fun x => takeRV (resizeV x.1 x.2.1 x.2.2)
theorem resizeF_eq {h : Hpp} {p n : Int} (hh : h.Inv) (hn : U64 n) : resizeF [.many h.c, .one (.int .u64 p), .one (.int .u64 n)] = some (takeRV (resizeV h p n)) := byEnc_eq (x := (h, p, n)) encHNN_inj ⟨hh, hn⟩
theorem Hpp.c_eq (h : Hpp) : AD.many (.int .u64 h.fin :: .sl (rowsB h.bl) :: rowsL h.ls) = .many h.c := rfl
theorem resize_ok : FnPure Tryz.prog 88 resizeF := by
  (refine fn_pure' (f := 88) mixed Tryz.func88 rfl (fun X => { nt := 95, tt := tt, fns := ofList ([(102, .pure placeF), (117, .pure needF), (118, .pure cutF), (79, .pure takeF), (74, .pure freeHF)]), keep := keep88, X := X }) (fun X => ok_of tt_ok (⟨place_ok, by kernel_rfl, need_ok, by kernel_rfl, cut_ok, by kernel_rfl, take_ok, by kernel_rfl, freeH_ok, by kernel_rfl, trivial⟩) (noEqs _)) (fun _ => rfl) (fun _ => rfl) (by decide) Tryz.results88 resizeF ?_)
  intro l r hq
  obtain ⟨⟨h, p, n⟩, rfl, ⟨hh, hn⟩, hr⟩ := byEnc_some hq
  clear hq
  simp only at hh hn hr
  have hok := hh.ok
  have hlen := hh.len
  have h8' := hh.eight
  have h8 : (rowsL h.ls).length = 8 := by rw [rowsL_len]; exact h8'
  have hpl := placeF_eq (p := p) hok
  rw [Hpp.c] at hpl
  have hne := needF_eq hn
  unfold resizeV at hr
  refine ⟨by simp [encHNN, Tryz.ntmps88], fun X nx R hR => ?_⟩
  simp only [encHNN, Hpp.c]
  cases hp : placeN h.bl p with
  | none =>
    rw [hp] at hr
    (repeat ((try simp only [cl_seq, cl_skip]); with_reducible refine cg fun K hK => ?_; (simp (maxSteps := 1000000) only [go_sem, h8, hpl, placeV, hp]); (repeat refine ck ?_); (try simp (disch := omega) only [wrap64, wrapi64]); refine hK _ ?_; clear hK K))
    (((try simp only [cl_seq, cl_skip]); refine cl_cond rfl (fun h2 => ?_) (fun h2 => ?_)))
    · (repeat ((try simp only [cl_seq, cl_skip]); with_reducible refine cg fun K hK => ?_; (simp (maxSteps := 1000000) only [go_sem, h8]); (repeat refine ck ?_); (try simp (disch := omega) only [wrap64, wrapi64]); refine hK _ ?_; clear hK K))
      (((try simp only [cl_seq, cl_skip]); (try simp only [cl_ret]); refine hR _ _ (.inr rfl) ?_; (simp (maxSteps := 1000000) only [go_sem, h8])))
      rw [hr]
      rfl
    · exact absurd h2 (by simp)
  | some i =>
    obtain ⟨hi, hu, ho⟩ := place_some hp
    have hget : h.bl[i]? = some h.bl[i] := List.getElem?_eq_getElem hi
    have g := hh.bs _ (List.getElem_mem hi)
    rw [hp] at hr
    simp only [hget] at hr
    (repeat ((try simp only [cl_seq, cl_skip]); with_reducible refine cg fun K hK => ?_; (simp (maxSteps := 1000000) only [go_sem, h8, hpl, placeV, hp]); (repeat refine ck ?_); (try simp (disch := omega) only [wrap64, wrapi64]); refine hK _ ?_; clear hK K))
    (((try simp only [cl_seq, cl_skip]); refine cl_cond rfl (fun h2 => ?_) (fun h2 => ?_)))
    · exact absurd h2 (by simp)
    cases hnn : needV n with
    | none =>
      rw [hnn] at hr
      (repeat ((try simp only [cl_seq, cl_skip]); with_reducible refine cg fun K hK => ?_; (simp (maxSteps := 1000000) only [go_sem, h8, hne, hnn, optV, Option.isSome_none, Bool.not_false]); (repeat refine ck ?_); (try simp (disch := omega) only [wrap64, wrapi64]); refine hK _ ?_; clear hK K))
      (((try simp only [cl_seq, cl_skip]); refine cl_cond rfl (fun h3 => ?_) (fun h3 => ?_)))
      · (repeat ((try simp only [cl_seq, cl_skip]); with_reducible refine cg fun K hK => ?_; (simp (maxSteps := 1000000) only [go_sem, h8]); (repeat refine ck ?_); (try simp (disch := omega) only [wrap64, wrapi64]); refine hK _ ?_; clear hK K))
        (((try simp only [cl_seq, cl_skip]); (try simp only [cl_ret]); refine hR _ _ (.inr rfl) ?_; (simp (maxSteps := 1000000) only [go_sem, h8])))
        rw [hr]
        rfl
      · exact absurd h3 (by simp)
    | some need =>
      rw [hnn] at hr
      simp only at hr
      (repeat ((try simp only [cl_seq, cl_skip]); with_reducible refine cg fun K hK => ?_; (simp (maxSteps := 1000000) only [go_sem, h8, hne, hnn, optV, Option.isSome_some, Bool.not_true, hi, Bk.c]); (repeat refine ck ?_); (try simp (disch := omega) only [wrap64, wrapi64]); refine hK _ ?_; clear hK K))
      (((try simp only [cl_seq, cl_skip]); refine cl_cond rfl (fun h3 => ?_) (fun h3 => ?_)))
      · exact absurd h3 (by simp)
      (repeat ((try simp only [cl_seq, cl_skip]); with_reducible refine cg fun K hK => ?_; (simp (maxSteps := 1000000) only [go_sem, h8, hi, Bk.c]); (repeat refine ck ?_); (try simp (disch := omega) only [wrap64, wrapi64]); refine hK _ ?_; clear hK K))
      (((try simp only [cl_seq, cl_skip]); refine cl_cond rfl (fun h4 => ?_) (fun h4 => ?_)))
      · simp only [decide_eq_true_eq] at h4
        rw [if_pos h4] at hr
        have hc := resize_len hh hp hi hn hnn h4
        have hce := cutF_eq hc
        have hci := hc.res.eight
        rw [Hpp.c] at hce
        simp only at hce
        (repeat ((try simp only [cl_seq, cl_skip]); with_reducible refine cg fun K hK => ?_; (simp (maxSteps := 1000000) only [go_sem, h8, hi, Bk.c, hce, hRV, Hpp.c, rowsL_len, hci]); (repeat refine ck ?_); (try simp (disch := omega) only [wrap64, wrapi64]); refine hK _ ?_; clear hK K))
        (((try simp only [cl_seq, cl_skip]); (try simp only [cl_ret]); refine hR _ _ (.inr rfl) ?_; (simp (maxSteps := 1000000) only [go_sem, rowsL_len, hci])))
        rw [hr]
        rfl
      · simp only [decide_eq_false_iff_not] at h4
        rw [if_neg h4] at hr
        have htk := takeF_eq (a := 16) hok hh.al g.own0 g.own1 hn (by decide)
        rw [Hpp.c] at htk
        have hti := takeV_inv (a := 16) hh g.own0 g.own1 hn
        generalize takeV h h.bl[i].owner n 16 = tk at *
        obtain ⟨k, q, e⟩ := tk
        simp only at hr hti
        have hk8 := hti.eight
        (repeat ((try simp only [cl_seq, cl_skip]); with_reducible refine cg fun K hK => ?_; (simp (maxSteps := 1000000) only [go_sem, h8, hi, Bk.c, htk, takeRV, Hpp.c, rowsL_len, hk8]); (repeat refine ck ?_); (try simp (disch := omega) only [wrap64, wrapi64]); refine hK _ ?_; clear hK K))
        (((try simp only [cl_seq, cl_skip]); refine cl_cond rfl (fun h5 => ?_) (fun h5 => ?_)))
        · simp only [bne_iff_ne, ne_eq] at h5
          (repeat ((try simp only [cl_seq, cl_skip]); with_reducible refine cg fun K hK => ?_; (simp (maxSteps := 1000000) only [go_sem, h8]); (repeat refine ck ?_); (try simp (disch := omega) only [wrap64, wrapi64]); refine hK _ ?_; clear hK K))
          (((try simp only [cl_seq, cl_skip]); (try simp only [cl_ret]); refine hR _ _ (.inr rfl) ?_; (simp (maxSteps := 1000000) only [go_sem, h8])))
          rw [hr, if_neg h5]
          rfl
        · simp only [bne_eq_false_iff_eq] at h5
          rw [if_pos h5] at hr
          have hfr := freeHF_eq (p := p) hti
          rw [Hpp.c] at hfr
          have hfi := (freeHV_inv hti p).eight
          (repeat ((try simp only [cl_seq, cl_skip]); with_reducible refine cg fun K hK => ?_; (simp (maxSteps := 1000000) only [go_sem, hfr, hRV, Hpp.c, rowsL_len, hk8, hfi]); (repeat refine ck ?_); (try simp (disch := omega) only [wrap64, wrapi64]); refine hK _ ?_; clear hK K))
          (((try simp only [cl_seq, cl_skip]); (try simp only [cl_ret]); refine hR _ _ (.inr rfl) ?_; (simp (maxSteps := 1000000) only [go_sem, rowsL_len, hfi])))
          rw [hr]
          rfl
def growRV (x : Hpp × Int) : RV := hRV x
noncomputable def growF : List AD → Option RV := byEnc encHNN (fun x => x.1.Inv ∧ U64 x.2.1 ∧ 0 ≤ x.2.2 ∧ x.2.2 ≤ 1048576) fun x => hRV (growV x.1 x.2.1 x.2.2)
theorem growF_eq {h : Hpp} {p n : Int} (hh : h.Inv) (hp : U64 p) (hn : 0 ≤ n) (h1 : n ≤ 1048576) : growF [.many h.c, .one (.int .u64 p), .one (.int .u64 n)] = some (hRV (growV h p n)) := byEnc_eq (x := (h, p, n)) encHNN_inj ⟨hh, hp, hn, h1⟩
theorem grow_ok : FnPure Tryz.prog 57 growF := by
  (refine fn_pure' (f := 57) mixed Tryz.func57 rfl (fun X => { nt := 55, tt := tt, fns := ofList ([(85, .pure addF), (86, .pure joinedF)]), keep := keep57, X := X }) (fun X => ok_of tt_ok (⟨add_ok, by kernel_rfl, joined_ok, by kernel_rfl, trivial⟩) (noEqs _)) (fun _ => rfl) (fun _ => rfl) (by decide) Tryz.results57 growF ?_)
  intro l r hq
  obtain ⟨⟨h, n, all⟩, rfl, ⟨hh, hn, ha0, ha1⟩, hr⟩ := byEnc_some hq
  clear hq
  simp only at hh hn hr ha0 ha1
  have hok := hh.ok
  have hlen := hh.len
  have h8' := hh.eight
  have h8 : (rowsL h.ls).length = 8 := by rw [rowsL_len]; exact h8'
  have f0 := hh.fin0
  have f1 := hh.fin1
  have hae := addF_eq (a := h.fin) (b := n) ⟨by omega, by omega⟩ hn
  obtain ⟨n0, n1⟩ := hn
  have htm : n.tmod 16 = n % 16 := Int.tmod_eq_emod_of_nonneg n0
  unfold growV at hr
  refine ⟨by simp [encHNN, Tryz.ntmps57], fun X nx R hR => ?_⟩
  simp only [encHNN, Hpp.c]
  (repeat ((try simp only [cl_seq, cl_skip]); with_reducible refine cg fun K hK => ?_; (simp (maxSteps := 1000000) only [go_sem, h8]); (repeat refine ck ?_); (try simp (disch := omega) only [wrap64, wrapi64]); refine hK _ ?_; clear hK K))
  by_cases hz : n % 16 = 0
  · by_cases h48 : n < 48
    · (repeat ((try simp only [cl_seq, cl_skip]); with_reducible refine cg fun K hK => ?_; (simp (maxSteps := 1000000) only [go_sem, htm, hz, bne_self_eq_false, show decide (n < 48) = true by simp; omega]); (repeat refine ck ?_); (try simp (disch := omega) only [wrap64, wrapi64]); refine hK _ ?_; clear hK K))
      (((try simp only [cl_seq, cl_skip]); refine cl_cond rfl (fun h2 => ?_) (fun h2 => ?_)))
      · rw [if_pos (.inr h48)] at hr
        (repeat ((try simp only [cl_seq, cl_skip]); with_reducible refine cg fun K hK => ?_; (simp (maxSteps := 1000000) only [go_sem, h8]); (repeat refine ck ?_); (try simp (disch := omega) only [wrap64, wrapi64]); refine hK _ ?_; clear hK K))
        (((try simp only [cl_seq, cl_skip]); (try simp only [cl_ret]); refine hR _ _ (.inr rfl) ?_; (simp (maxSteps := 1000000) only [go_sem, h8])))
        rw [hr]
        rfl
      · exact absurd h2 (by simp)
    · (repeat ((try simp only [cl_seq, cl_skip]); with_reducible refine cg fun K hK => ?_; (simp (maxSteps := 1000000) only [go_sem, htm, hz, bne_self_eq_false, show ¬ n < 48 by omega]); (repeat refine ck ?_); (try simp (disch := omega) only [wrap64, wrapi64]); refine hK _ ?_; clear hK K))
      (((try simp only [cl_seq, cl_skip]); refine cl_cond rfl (fun h2 => ?_) (fun h2 => ?_)))
      · exact absurd h2 (by simp)
      rw [if_neg (by omega)] at hr
      by_cases hall : all < h.fin + n
      · rw [if_pos hall] at hr
        by_cases hov : h.fin + n < 18446744073709551616
        · (repeat ((try simp only [cl_seq, cl_skip]); with_reducible refine cg fun K hK => ?_; (simp (maxSteps := 1000000) only [go_sem, h8, hae, addV, hov, optV, Option.isSome_some, Bool.not_true, show decide (all < h.fin + n) = true by simp; omega]); (repeat refine ck ?_); (try simp (disch := omega) only [wrap64, wrapi64]); refine hK _ ?_; clear hK K))
          (((try simp only [cl_seq, cl_skip]); refine cl_cond rfl (fun h3 => ?_) (fun h3 => ?_)))
          · (repeat ((try simp only [cl_seq, cl_skip]); with_reducible refine cg fun K hK => ?_; (simp (maxSteps := 1000000) only [go_sem, h8]); (repeat refine ck ?_); (try simp (disch := omega) only [wrap64, wrapi64]); refine hK _ ?_; clear hK K))
            (((try simp only [cl_seq, cl_skip]); (try simp only [cl_ret]); refine hR _ _ (.inr rfl) ?_; (simp (maxSteps := 1000000) only [go_sem, h8])))
            rw [hr]
            rfl
          · exact absurd h3 (by simp)
        · (repeat ((try simp only [cl_seq, cl_skip]); with_reducible refine cg fun K hK => ?_; (simp (maxSteps := 1000000) only [go_sem, h8, hae, addV, hov, optV, Option.isSome_none, Bool.not_false]); (repeat refine ck ?_); (try simp (disch := omega) only [wrap64, wrapi64]); refine hK _ ?_; clear hK K))
          (((try simp only [cl_seq, cl_skip]); refine cl_cond rfl (fun h3 => ?_) (fun h3 => ?_)))
          · (repeat ((try simp only [cl_seq, cl_skip]); with_reducible refine cg fun K hK => ?_; (simp (maxSteps := 1000000) only [go_sem, h8]); (repeat refine ck ?_); (try simp (disch := omega) only [wrap64, wrapi64]); refine hK _ ?_; clear hK K))
            (((try simp only [cl_seq, cl_skip]); (try simp only [cl_ret]); refine hR _ _ (.inr rfl) ?_; (simp (maxSteps := 1000000) only [go_sem, h8])))
            rw [hr]
            rfl
          · exact absurd h3 (by simp)
      · rw [if_neg hall] at hr
        have hj := joinedF_eq (l := h.bl ++ [⟨h.fin, n, false, 0, 0⟩]) (by unfold Sm; simp; omega) (fun b hb => by
          rcases List.mem_append.1 hb with hb | hb
          · exact hok.bs b hb
          · simp only [List.mem_singleton] at hb; subst hb; exact freeB_ok (by omega) (by omega) (by omega)) (by
          rw [sizes_app]; have := hok.sum; simp [sizes] at *; omega)
        (repeat ((try simp only [cl_seq, cl_skip]); with_reducible refine cg fun K hK => ?_; (simp (maxSteps := 1000000) only [go_sem, h8, hae, addV, show h.fin + n < 18446744073709551616 by omega, optV, Option.isSome_some, Bool.not_true, show ¬ all < h.fin + n from hall]); (repeat refine ck ?_); (try simp (disch := omega) only [wrap64, wrapi64]); refine hK _ ?_; clear hK K))
        (((try simp only [cl_seq, cl_skip]); refine cl_cond rfl (fun h3 => ?_) (fun h3 => ?_)))
        · exact absurd h3 (by simp)
        (repeat ((try simp only [cl_seq, cl_skip]); with_reducible refine cg fun K hK => ?_; (simp (maxSteps := 1000000) only [go_sem, h8, hj]); (repeat refine ck ?_); (try simp (disch := omega) only [wrap64, wrapi64]); refine hK _ ?_; clear hK K))
        (((try simp only [cl_seq, cl_skip]); (try simp only [cl_ret]); refine hR _ _ (.inr rfl) ?_; (simp (maxSteps := 1000000) only [go_sem, h8])))
        rw [hr]
        rfl
  · (repeat ((try simp only [cl_seq, cl_skip]); with_reducible refine cg fun K hK => ?_; (simp (maxSteps := 1000000) only [go_sem, htm, show (n % 16 != 0) = true by simp [hz]]); (repeat refine ck ?_); (try simp (disch := omega) only [wrap64, wrapi64]); refine hK _ ?_; clear hK K))
    (((try simp only [cl_seq, cl_skip]); refine cl_cond rfl (fun h2 => ?_) (fun h2 => ?_)))
    · rw [if_pos (.inl hz)] at hr
      (repeat ((try simp only [cl_seq, cl_skip]); with_reducible refine cg fun K hK => ?_; (simp (maxSteps := 1000000) only [go_sem, h8]); (repeat refine ck ?_); (try simp (disch := omega) only [wrap64, wrapi64]); refine hK _ ?_; clear hK K))
      (((try simp only [cl_seq, cl_skip]); (try simp only [cl_ret]); refine hR _ _ (.inr rfl) ?_; (simp (maxSteps := 1000000) only [go_sem, h8])))
      rw [hr]
      rfl
    · exact absurd h2 (by simp)
end Go.Proofs.YtapdaefpkddioaaGreat.Pe
