/- A part of the proof of JdH. -/
import Derived.Test.YtmhinddneefmbaaGreatKf8
set_option linter.unusedSimpArgs false
set_option linter.unusedVariables false
set_option linter.unusedSectionVars false
namespace Go.Proofs.YtmhinddneefmbaaGreat.Pe
open Go
section
variable {P : Program} {C : Ctx} {E E1 : Env} {a : Act} {w : World} {ι β : Nat → Option Nat} {M : Nat → Prop} {K : Act → World → Prop} {Qx : Exit → Act → World → Prop} {o : Oper} {d : Nat} {U : Nat → Prop} {γ : Nat}
def Src (w : World) (ι : Nat → Option Nat) (M : Nat → Prop) (v : Value) (sz : Nat) (ys : List (List D)) : Prop :=
  ∃ A c, v = .slice A ys.length c ∧ (ys = [] ∨ ∃ ad, A = some ad ∧ ∀ (i j : Nat) r x, ys[i]? = some r → r[j]? = some x → ∃ u, w.cell? (ad.add (i * sz + j)) = some u ∧ Rd w ι M u x)
theorem rowsOf_sound {v : Value} {b : AD} {ys : List (List D)} {esz : Nat} (h : Sim C E a w ι β M) (hb : RdA w ι M v b) (hq : (rowsOf b).run E = some (ys, E1)) (hu : ys.all (fun r => r.length = esz) = true) : E1 = E ∧ Src w ι M v esz ys := by
  unfold rowsOf at hq
  have hb := hb.weak
  split at hq
  · rename_i rows hw
    rw [hw] at hb
    obtain ⟨rfl, rfl⟩ := ret_run hq
    refine ⟨rfl, ?_⟩
    have hrd : Rd w ι M v (.sl ys) := hb
    rcases hrd.imm with ⟨A, c, hv, hn⟩ | ⟨ad, c, sz, hv, hpos, _, him⟩
    · subst hn; exact ⟨A, c, hv, .inl rfl⟩
    · have hsz : sz = esz := by
        have hm := List.getElem_mem hpos
        rw [← him.uni _ hm]
        simpa using List.all_eq_true.1 hu _ hm
      subst hsz
      exact ⟨_, c, hv, .inr ⟨ad, rfl, him.rd⟩⟩
  · rename_i ob sz i n hw
    rw [hw] at hb
    simp only [Q.run] at hq
    cases hE : E gs with
    | heap H nx =>
      rw [hE] at hq
      simp only at hq
      obtain ⟨x, E2, h0, hq2⟩ := Q.run_bind_some hq
      clear hq
      obtain ⟨hH, rfl⟩ := ofOpt_run h0
      split at hq2
      · rename_i hc
        obtain ⟨hc1, hc2⟩ := hc
        obtain ⟨rfl, rfl⟩ := ret_run hq2
        refine ⟨rfl, ?_⟩
        have hrd : Rd w ι M v (.ref ob sz i n) := hb
        obtain ⟨b', h1, hob⟩ := h.objs ob x (by simp [live, hE, hH])
        have hlen : ((x.rows.drop i).take n).length = n := by simp; omega
        cases hrd with
        | ref _ _ _ _ c b'' h3 hnc hcm hz hcap =>
          rw [h1] at h3; injection h3 with h3; subst h3
          obtain ⟨T, cs, _, h2⟩ := hob.blk (by rw [hc1]; exact hz)
          refine ⟨some ⟨b', i * sz, none⟩, c, by rw [hlen], ?_⟩
          by_cases h0 : n = 0
          · left; subst h0; simp
          · refine .inr ⟨_, rfl, fun i' j r y hr hy => ?_⟩
            rw [List.getElem?_take] at hr
            split at hr
            · rw [List.getElem?_drop] at hr
              obtain ⟨u, hu', hrd'⟩ := h2.rd (i + i') j r y hr hy
              have hsz : sz = esz := by
                have hm : r ∈ (x.rows.drop i).take n := List.mem_of_getElem? (i := i') (by rw [List.getElem?_take, if_pos (by assumption), List.getElem?_drop]; exact hr)
                have := List.all_eq_true.1 hu _ hm
                simp only [decide_eq_true_eq] at this
                rw [← this, ← hc1, h2.uni r (List.mem_of_getElem? hr)]
              refine ⟨u, ?_, hrd'⟩
              rw [addr_add rfl]
              simp only [World.cell?, h2.at_]
              rw [← hsz, ← hc1, show i * x.sz + (i' * x.sz + j) = (i + i') * x.sz + j by rw [Nat.add_mul]; omega]
              simpa using hu'
            · cases hr
      · cases hq2
    | _ => rw [hE] at hq; cases hq
  · cases hq
theorem flat_news {ad : Addr} {sz : Nat} {ys : List (List D)} (hpos : 0 < sz) (hu : ∀ r ∈ ys, r.length = sz) (h : ∀ (i j : Nat) r x, ys[i]? = some r → r[j]? = some x → ∃ u, w.cell? (ad.add (i * sz + j)) = some u ∧ Rd w ι M u x) :
    ∃ news : List Value, news.length = ys.length * sz ∧ (∀ j u, news[j]? = some u → w.cell? (ad.add j) = some u) ∧ (∀ u ∈ news, u.oneCell' = true) ∧ ∀ (i j : Nat) r x, ys[i]? = some r → r[j]? = some x → ∃ u, news[i * sz + j]? = some u ∧ Rd w ι M u x := by
  have key : ∀ k, k < ys.length * sz → ∃ u x, w.cell? (ad.add k) = some u ∧ Rd w ι M u x := by
    intro k hk
    have h1 : k / sz < ys.length := Nat.div_lt_of_lt_mul (by rw [Nat.mul_comm]; exact hk)
    have h2 : k % sz < sz := Nat.mod_lt _ hpos
    have hl := hu _ (List.getElem_mem h1)
    obtain ⟨u, hu1, hu2⟩ := h (k / sz) (k % sz) ys[k / sz] (ys[k / sz][k % sz]'(by omega)) (List.getElem?_eq_getElem h1) (List.getElem?_eq_getElem (by omega))
    have e : k / sz * sz + k % sz = k := by rw [Nat.mul_comm]; exact Nat.div_add_mod k sz
    rw [e] at hu1
    exact ⟨u, _, hu1, hu2⟩
  refine ⟨(List.range (ys.length * sz)).map fun k => (w.cell? (ad.add k)).getD undef, by simp, fun j u hj => ?_, fun u hu' => ?_, fun i j r x hr hx => ?_⟩
  · have hlt : j < ys.length * sz := by
      rcases Nat.lt_or_ge j (ys.length * sz) with h | h
      · exact h
      · rw [List.getElem?_eq_none (by simpa using h)] at hj; cases hj
    obtain ⟨v, x, h1, _⟩ := key j hlt
    rw [List.getElem?_map, List.getElem?_range hlt] at hj
    simp [h1] at hj
    subst hj; exact h1
  · obtain ⟨k, hk, rfl⟩ := List.mem_map.1 hu'
    obtain ⟨v, x, h1, h2⟩ := key k (List.mem_range.1 hk)
    simp only [h1, Option.getD_some]
    exact h2.one
  · obtain ⟨u, h1, h2⟩ := h i j r x hr hx
    have hi : i < ys.length := (List.getElem?_eq_some_iff.1 hr).1
    have hj : j < sz := by have := (List.getElem?_eq_some_iff.1 hx).1; have := hu r (List.mem_of_getElem? hr); omega
    have hlt : i * sz + j < ys.length * sz := by
      have : (i + 1) * sz ≤ ys.length * sz := Nat.mul_le_mul_right _ hi
      rw [Nat.add_mul] at this; omega
    refine ⟨u, ?_, h2⟩
    rw [List.getElem?_map, List.getElem?_range hlt]
    simp [h1]
theorem run_append_nil_src (t ty e : TypeId) (i : TypeInfo) (ht : P.underlying t = some (.slice e)) (hi : P.info? e = some i) (v : Value) (n cap : Nat) (hv : (v = .slice none 0 0 ∧ n = 0) ∨ ∃ g, v = .slice (some ⟨g, 0, none⟩) n cap ∧ n ≤ cap) (A : Option Addr) (c : Nat) :
    (Builtin.append_ #[t, t] ty #[v, .slice A 0 c]).run P w = .ok v w := by
  rcases hv with ⟨rfl, rfl⟩ | ⟨g, rfl, hnc⟩
  · cases A <;> simp [Builtin.append_, run_underlying ht, sizeOf, typeInfo, hi, Builtin.lenOf, Builtin.firstCells, loadCells, loadCellsFrom]
  · cases A <;> simp [Builtin.append_, run_underlying ht, sizeOf, typeInfo, hi, Builtin.lenOf, Builtin.firstCells, loadCells, loadCellsFrom, hnc, storeCells]
theorem zero_one {z : Array Value} (hz : ∀ v ∈ z.toList, v.oneCell' = true) {n : Nat} : ∀ u ∈ (Builtin.zeroCells z n).toList, u.oneCell' = true := by
  intro u hu
  unfold Builtin.zeroCells at hu
  simp only [Array.toList_map, List.mem_map, Array.toList_range, List.mem_range] at hu
  obtain ⟨i, hi, rfl⟩ := hu
  have hp : 0 < z.size := by
    rcases Nat.eq_zero_or_pos z.size with h | h
    · rw [h] at hi; simp at hi
    · exact h
  have hlt : i % z.size < z.size := Nat.mod_lt _ hp
  rw [getElem!_pos z _ hlt]
  exact hz _ (by simp)
theorem fresh_one {A z : Array Value} {n T : Nat} (h : ∀ v ∈ A.toList, v.oneCell' = true) (hz : ∀ v ∈ z.toList, v.oneCell' = true) (cur : Array Value) (hc : (w.alloc (.cells (A ++ Builtin.zeroCells z n) T)).heap[w.heap.size]? = some (.cells cur T (0, 0))) : ∀ u ∈ cur.toList, u.oneCell' = true := by
  rw [heap_alloc_new] at hc
  injection hc with hc
  injection hc with hc
  subst hc
  intro u hu
  simp only [Array.toList_append, List.mem_append] at hu
  rcases hu with hu | hu
  · exact h u hu
  · exact zero_one hz u hu
theorem append_core {t ty e esz eb : Nat} {ez : List D} (hk : TkOk P t (.sl e esz eb ez)) (hpos : 0 < esz) {v src : Value} {rows ys : List (List D)} {bo : Option Nat}
    (hown : (v = .slice none 0 0 ∧ rows = [] ∧ bo = none) ∨ ∃ b cs cap, bo = some b ∧ v = .slice (some ⟨b, 0, none⟩) rows.length cap ∧ rows.length ≤ cap ∧ cap ≤ maxLen ∧ cs.size = cap * esz ∧ Blk w ι M b e cs esz rows)
    (hsrc : Src w ι M src esz ys) (hu : ys.all (fun r => r.length = esz) = true) (hbd : (rows.length + ys.length) * (eb + 1) ≤ 140737488355328) :
    ∃ v' w' bo', (Builtin.append_ #[t, t] ty #[v, src]).run P w = .ok v' w' ∧
      (w'.os = w.os ∧ w'.tape = w.tape ∧ w'.output = w.output ∧ w.heap.size ≤ w'.heap.size ∧ ∀ k, k < w.heap.size → some k ≠ bo → w'.heap[k]? = w.heap[k]?) ∧ Shape w w' ∧ (bo' = bo ∨ (bo' = some w.heap.size ∧ w.heap.size < w'.heap.size)) ∧
      ∀ X M', Evo X M w M' w' → (v' = .slice none 0 0 ∧ rows ++ ys = [] ∧ bo' = none) ∨ ∃ b cs cap, bo' = some b ∧ v' = .slice (some ⟨b, 0, none⟩) (rows ++ ys).length cap ∧ (rows ++ ys).length ≤ cap ∧ cap ≤ maxLen ∧ cs.size = cap * esz ∧ Blk w' ι M' b e cs esz (rows ++ ys) := by
  obtain ⟨ht, i, z, hi, hs, hby, hz, hzc⟩ := sl_some hk
  obtain ⟨A, c, hsv, hsd⟩ := hsrc
  subst hsv
  have hyu : ∀ r ∈ ys, r.length = esz := fun r hr => by simpa using List.all_eq_true.1 hu r hr
  by_cases hys : ys = []
  · subst hys
    refine ⟨v, w, bo, ?_, ⟨rfl, rfl, rfl, Nat.le_refl _, fun _ _ _ => rfl⟩, .refl _, .inl rfl, fun X M' he => ?_⟩
    · rcases hown with ⟨h1, h2, _⟩ | ⟨b, cs, cap, _, h2, h3, _⟩
      · exact run_append_nil_src t ty e i ht hi v rows.length 0 (.inl ⟨h1, by simp [h2]⟩) A c
      · exact run_append_nil_src t ty e i ht hi v rows.length cap (.inr ⟨b, h2, h3⟩) A c
    · simp only [List.append_nil]
      rcases hown with h | ⟨b, cs, cap, h1, h2, h3, h4, h5, h6⟩
      · exact .inl h
      · exact .inr ⟨b, cs, cap, h1, h2, h3, h4, h5, h6.mono he (fun _ _ h => h) rfl⟩
  · rcases hsd with hsd | ⟨ad, hA, hsd⟩
    · exact absurd hsd hys
    · subst hA
      obtain ⟨news, n1, n2, n3, n4⟩ := flat_news hpos hyu hsd
      have hne : (rows.length + ys.length) * eb ≤ 140737488355328 := Nat.le_trans (Nat.mul_le_mul_left _ (Nat.le_succ eb)) hbd
      have hn1 : rows.length + ys.length ≤ 140737488355328 := by
        have : (rows.length + ys.length) * 1 ≤ (rows.length + ys.length) * (eb + 1) := Nat.mul_le_mul_left _ (by omega)
        omega
      have hzs : z.cells.size = esz := by
        rw [← Array.length_toList, hzc, List.length_map]
        exact hk.2.2.2
      have hvb : v.ownBlock = bo := by
        rcases hown with ⟨h1, _, h3⟩ | ⟨b, cs, cap, h1, h2, _⟩
        · rw [h1, h3]; rfl
        · rw [h2, h1]; rfl
      have hor : ∃ xs, w.ownsRow 0 e esz v rows.length xs ∧ ∀ (i j : Nat) r x, rows[i]? = some r → r[j]? = some x → ∃ u, xs[i * esz + j]? = some u ∧ Rd w ι M u x := by
        rcases hown with ⟨h1, h2, _⟩ | ⟨b, cs, cap, _, h2, h3, h4, h5, h6⟩
        · subst h2
          exact ⟨[], ⟨by simp, .inl ⟨h1, rfl⟩⟩, fun i j r x hr => by simp at hr⟩
        · refine ⟨cs.toList.take (rows.length * esz), ⟨?_, .inr ⟨b, cap, cs, h2, Nat.zero_le _, h6.at_, h3, h4, h5, rfl⟩⟩, fun i j r x hr hx => ?_⟩
          · have := h6.fit
            simp; omega
          · obtain ⟨u, hu1, hu2⟩ := h6.rd i j r x hr hx
            have hi : i < rows.length := (List.getElem?_eq_some_iff.1 hr).1
            have hj : j < esz := by have := (List.getElem?_eq_some_iff.1 hx).1; have := h6.uni r (List.mem_of_getElem? hr); omega
            have hlt : i * esz + j < rows.length * esz := by
              have : (i + 1) * esz ≤ rows.length * esz := Nat.mul_le_mul_right _ hi
              rw [Nat.add_mul] at this; omega
            exact ⟨u, by rw [List.getElem?_take, if_pos hlt]; simpa using hu1, hu2⟩
      have hru : ∀ r ∈ rows, r.length = esz := by
        rcases hown with ⟨_, h2, _⟩ | ⟨b, cs, cap, _, _, _, _, _, h6⟩
        · subst h2; intro r hr; cases hr
        · exact h6.uni
      obtain ⟨xs, ho1, ho2⟩ := hor
      obtain ⟨v', w', hrun, hw1, hw2, _, hw4⟩ := Go.run_append_own_at (P := P) w 0 t ty e i z esz eb ht hi hz hs hby hzs hpos v rows.length xs ho1 ad ys.length c news n1 n2 n3 (by unfold maxLen; omega) hne (Nat.zero_le _)
      have hzone : ∀ v ∈ z.cells.toList, v.oneCell' = true := by rw [hzc]; exact (zv_rdl hk.2.2.1 w ι M).one'
      have hxone : ∀ v ∈ xs ++ news, v.oneCell' = true := by
        intro v hv
        rcases List.mem_append.1 hv with h | h
        · exact cover_one (w := w) (ι := ι) (M := M) (by rw [ho1.1]; exact Nat.le_refl _) hpos hru ho2 v h
        · exact n3 v h
      have hsh : Shape w w' ∧ ∀ g cur, (v'.ownBlock = some g) → w'.heap[g]? = some (.cells cur e (0, 0)) → ∀ u ∈ cur.toList, u.oneCell' = true := by
        have hyp : 0 < ys.length := List.length_pos_iff.2 hys
        rcases hown with ⟨q1, q2, _⟩ | ⟨b, cs, cap, _, q2, q3, q4, q5, q6⟩
        · subst q1; subst q2
          have := run_append_nil (P := P) w t ty e i z ht hi hz ad ys.length c news (by rw [hs]; exact n1) n2 hyp (by omega) (by rw [hby]; simp only [List.length_nil, Nat.zero_add] at hne; omega)
          rw [hrun] at this
          injection this with hv' hw
          rw [hw]
          refine ⟨.of fun b hb => Go.RowKit.Below.heap_alloc w.drew _ b hb, fun g cur hg hcur => ?_⟩
          rw [hv'] at hg
          have hg : some _ = some g := hg
          injection hg with hg
          subst hg
          exact fresh_one (w := w.drew) (fun v hv => n3 v (by simpa using hv)) hzone _ hcur
        · subst q2
          by_cases hroom : rows.length + ys.length ≤ cap
          · have hfit : rows.length * i.size + news.length ≤ cs.size := by rw [hs, n1, q5, ← Nat.add_mul]; exact Nat.mul_le_mul_right _ hroom
            have := run_append_room (P := P) w t ty e i ht hi b rows.length cap cs q6.at_ ad ys.length c news (by rw [hs]; exact n1) n2 n3 hroom hfit
            rw [hrun] at this
            injection this with hv' hw
            rw [hw]
            refine ⟨rowSet_shape q6.at_ _ _ hfit, fun g cur hg hcur => ?_⟩
            rw [hv'] at hg
            have hg : some _ = some g := hg
            injection hg with hg
            subst hg
            rw [setRow_heap w b cs _ e _ q6.at_] at hcur
            injection hcur with hcur
            injection hcur with hcur
            subst hcur
            exact one_set q6.one n3 _ _
          · have hxs := ho1.cells (g := b) rfl
            have := run_append_grow (P := P) w t ty e i z ht hi hz ⟨b, 0, none⟩ rows.length cap xs (by rw [hs]; exact ho1.1) hxs ad ys.length c news (by rw [hs]; exact n1) n2 (by omega) (by omega) (growslice_fits (by omega) (by rw [hby]; exact hne))
            rw [hrun] at this
            injection this with hv' hw
            rw [hw]
            refine ⟨.of fun b hb => Go.RowKit.Below.heap_alloc w.drew _ b hb, fun g cur hg hcur => ?_⟩
            rw [hv'] at hg
            have hg : some _ = some g := hg
            injection hg with hg
            subst hg
            exact fresh_one (w := w.drew) (fun v hv => hxone v (by simpa using hv)) hzone _ hcur
      obtain ⟨hsh, hcone⟩ := hsh
      rcases hw1.2 with ⟨_, h0⟩ | ⟨g, cap, cur, e1, _, e3, e4, e5, e6, e7⟩
      · exact absurd (List.eq_nil_of_length_eq_zero (by omega)) hys
      · refine ⟨v', w', some g, hrun, ⟨hw2.os, hw2.tape, hw2.output, hw2.size, fun k hk hne' => hw2.block k hk (by rw [hvb]; exact hne')⟩, hsh, ?_, fun X M' he => .inr ⟨g, cur, cap, rfl, ?_, ?_, e5, e6, e3, hpos, ?_, ?_, ?_, hcone g cur (by rw [e1]; rfl) e3⟩⟩
        · have hg : v'.ownBlock = some g := by rw [e1]; rfl
          rcases hw4 with h | h
          · left; rw [← hg, h, hvb]
          · right
            rw [hg] at h
            refine ⟨h, ?_⟩
            injection h with h
            have := (Array.getElem?_eq_some_iff.1 e3).1
            omega
        · rw [e1]; simp
        · simp; exact e4
        · rw [e6]; simp only [List.length_append]; exact Nat.mul_le_mul_right _ e4
        · intro r hr
          rcases List.mem_append.1 hr with h | h
          · exact hru r h
          · exact hyu r h
        · intro i' j r x hr hx
          have hi' : i' < rows.length + ys.length := by have := (List.getElem?_eq_some_iff.1 hr).1; simpa using this
          have hrl : r.length = esz := by
            rcases List.mem_append.1 (List.mem_of_getElem? hr) with h | h
            · exact hru r h
            · exact hyu r h
          have hj : j < esz := by have := (List.getElem?_eq_some_iff.1 hx).1; omega
          have hlt : i' * esz + j < (rows.length + ys.length) * esz := by
            have : (i' + 1) * esz ≤ (rows.length + ys.length) * esz := Nat.mul_le_mul_right _ hi'
            rw [Nat.add_mul] at this; omega
          have hcur : cur[i' * esz + j]? = (xs ++ news)[i' * esz + j]? := by
            rw [← e7, List.getElem?_take, if_pos hlt]; simp
          have hxl : xs.length = rows.length * esz := ho1.1
          by_cases hlo : i' < rows.length
          · rw [List.getElem?_append_left hlo] at hr
            obtain ⟨u, hu1, hu2⟩ := ho2 i' j r x hr hx
            have hl2 : i' * esz + j < xs.length := (List.getElem?_eq_some_iff.1 hu1).1
            exact ⟨u, by rw [hcur, List.getElem?_append_left hl2]; exact hu1, hu2.mono he.same he.back (fun _ _ h => h) he.shape⟩
          · rw [List.getElem?_append_right (by omega)] at hr
            obtain ⟨u, hu1, hu2⟩ := n4 (i' - rows.length) j r x hr hx
            have hge : rows.length * esz ≤ i' * esz := Nat.mul_le_mul_right _ (by omega)
            refine ⟨u, ?_, hu2.mono he.same he.back (fun _ _ h => h) he.shape⟩
            rw [hcur, List.getElem?_append_right (by omega), hxl, ← hu1, Nat.sub_mul]
            congr 1; omega
theorem Sim.block_of (h : Sim C E a w ι β M) {s g e sz : Nat} {rows : List (List D)} (hE : E s = .own g e sz rows) : 0 < sz ∧ ((valOf a s = .slice none 0 0 ∧ rows = [] ∧ β s = none) ∨
      ∃ b cs cap, β s = some b ∧ valOf a s = .slice (some ⟨b, 0, none⟩) rows.length cap ∧ rows.length ≤ cap ∧ cap ≤ maxLen ∧ cs.size = cap * sz ∧ Blk w ι M b e cs sz rows) := by
  have := h.hold s
  rw [hE] at this
  exact this
def cutE (E : Env) : Option Nat → Env
  | some s => upd E s .junk
  | none => E
theorem put_append {t e esz eb : Nat} {ez : List D} (hk : TkOk P t (.sl e esz eb ez)) (h : Sim C E a w ι β M) (hd : d < C.nt) (hdst : o.dst = some d) (hg : Gens E U) (hU : ¬ U γ) {v src : Value} {rows ys : List (List D)} {bo : Option Nat} {s : Option Nat}
    (hpos : 0 < esz)
    (hs : (s = none ∧ v = .slice none 0 0 ∧ rows = [] ∧ bo = none) ∨ ∃ s' g, s = some s' ∧ E s' = .own g e esz rows ∧ v = valOf a s' ∧ bo = β s')
    (hsrc : Src w ι M src esz ys) (hu : ys.all (fun r => r.length = esz) = true) (hbd : (rows.length + ys.length) * (eb + 1) ≤ 140737488355328)
    (hr : ∀ v' w', (Builtin.append_ #[t, t] o.type #[v, src]).run P w = .ok v' w' → (execOp a.eval o).run P w = .ok (.value v') w')
    (hE1 : E1 = upd (cutE E s) d (.own γ e esz (rows ++ ys))) (hK : Then C E1 M w ι K) : o.wp P a w K Qx := by
  have hown : (v = .slice none 0 0 ∧ rows = [] ∧ bo = none) ∨ ∃ b cs cap, bo = some b ∧ v = .slice (some ⟨b, 0, none⟩) rows.length cap ∧ rows.length ≤ cap ∧ cap ≤ maxLen ∧ cs.size = cap * esz ∧ Blk w ι M b e cs esz rows := by
    rcases hs with ⟨_, h2, h3, h4⟩ | ⟨s', g, _, h2, h3, h4⟩
    · exact .inl ⟨h2, h3, h4⟩
    · subst h3; subst h4; exact (h.block_of h2).2
  have hbM : ∀ b, bo = some b → M b := by
    rcases hs with ⟨_, _, _, h4⟩ | ⟨s', g, _, _, _, h4⟩
    · subst h4; intro b hb; cases hb
    · subst h4; exact fun b hb => h.ctlB s' b hb
  have hbX : ∀ b, bo = some b → ¬ C.X b := by
    rcases hs with ⟨_, _, _, h4⟩ | ⟨s', g, _, _, _, h4⟩
    · subst h4; intro b hb; cases hb
    · subst h4; exact fun b hb => h.xB s' b hb
  obtain ⟨v', w', bo', hrun, ⟨g1, g2, g3, g4, g5⟩, gsh, hbo, hfin⟩ := append_core (ty := o.type) hk hpos hown hsrc hu hbd
  obtain ⟨E2, β2, h2, hg2, hE2, hfB, hfO⟩ : ∃ E2 β2, Sim C E2 a w ι β2 M ∧ Gens E2 U ∧ cutE E s = E2 ∧ (∀ b t, bo = some b → β2 t ≠ some b) ∧ (∀ b o x, bo = some b → live E2 o = some x → ι o ≠ some b) := by
    rcases hs with ⟨h1, _, _, h4⟩ | ⟨s', g, h1, h2, _, h4⟩
    · subst h1; subst h4
      exact ⟨E, β, h, hg, rfl, (fun b t hb => by cases hb), (fun b o x hb => by cases hb)⟩
    · subst h1; subst h4
      have hs' : s' ≠ gs := by
        rintro rfl
        obtain ⟨H, nx, hH, _⟩ := h.hp
        rw [hH] at h2; cases h2
      refine ⟨upd E s' .junk, _, h.junk hs', fun t => ?_, rfl, fun b t hb ht => ?_, fun b o x hb hl hi => ?_⟩
      · unfold upd; split
        · trivial
        · exact hg t
      · unfold unset at ht
        split at ht
        · cases ht
        · rename_i hne; exact hne (h.injB t s' b ht hb)
      · rw [live_upd E _ hs'] at hl; exact h.disj o x s' b hl hi hb
  rw [hE2] at hE1
  subst hE1
  refine wp_value (hr v' w' hrun) ?_
  rw [hdst]
  let M' : Nat → Prop := fun b => M b ∨ bo' = some b
  have hnew : ∀ b, bo' = some b → bo = some b ∨ b = w.heap.size := fun b hb => by
    rcases hbo with h | ⟨h, _⟩
    · left; rw [← h]; exact hb
    · right; rw [h] at hb; injection hb with hb; exact hb.symm
  have hev : Evo C.X M w M' w' := ⟨g1, g2, g3, g4, fun b hb hm => g5 b hb (fun e => hm (hbM b e.symm)), fun b hb hm => by
    rcases hm with hm | hm
    · exact hm
    · rcases hnew b hm with h | h
      · exact hbM b h
      · omega, fun b hb hx => g5 b hb (fun e => hbX b e.symm hx), gsh⟩
  have hsim : Sim C E2 a w' ι β2 M' := h2.world hev (fun b hb => .inl hb) (fun b hb => by
      rcases hb with hb | hb
      · have := h.lt b hb; omega
      · rcases hbo with h' | ⟨h', h''⟩
        · have := h.lt b (hbM b (by rw [← h']; exact hb)); omega
        · rw [h'] at hb; injection hb with hb; omega) (fun t b ht => g5 b (h2.lt b (h2.ctlB t b ht)) (fun e => hfB b t e.symm ht)) (fun o x b hl hi => g5 b (h2.lt b (h2.ctlO o x b hl hi)) (fun e => hfO b o x e.symm hl hi))
  refine hK _ _ _ _ _ (hsim.claim' (a' := a.put (some d) v') (γ := γ) (bo := bo') (h.ne_gs hd) (by rw [size_put]; exact h.size) (by rw [defers_put]; exact h.defs) (fun t ht => by rw [valOf_put (by rw [h.size]; exact hd), if_neg ht]) rfl (noref hg2 hU)
    (fun b hb => .inr hb) (fun b hb hx => ?_) (fun b t hb ht => ?_) (fun b o x hb hl hi => ?_) ?_) hev (fun _ _ h => h)
  · rcases hnew b hb with h' | h'
    · exact hbX b h' hx
    · subst h'; exact absurd (h.xlt _ hx) (Nat.lt_irrefl _)
  · rcases hnew b hb with h' | h'
    · exact hfB b t h' ht
    · subst h'; have := h2.lt _ (h2.ctlB t _ ht); omega
  · rcases hnew b hb with h' | h'
    · exact hfO b o x h' hl hi
    · subst h'; have := h2.lt _ (h2.ctlO o x _ hl hi); omega
  · refine ⟨hpos, ?_⟩
    rcases hfin C.X M' hev with ⟨f1, f2, f3⟩ | ⟨b, cs, cap, f1, f2, f3⟩
    · exact .inl ⟨by rw [h.val_put hd]; exact f1, f2, by simp [f3]⟩
    · exact .inr ⟨b, cs, cap, by simp [f1], by rw [h.val_put hd]; exact f2, f3⟩
theorem op_append {c : Call} {t : TypeId} {x y : Operand} (ho : o.op = .call c) (hc : c.callee = .builtin .append) (ha : c.args = #[x, y]) (hat : c.argTypes = #[t, t]) (hC : C.Ok P) (h : Sim C E a w ι β M) (hd : d < C.nt) (hdst : o.dst = some d) (hg : Gens E U) (hU : ¬ U γ)
    (hq : (appendQ C γ d t x y).run E = some ((), E1)) (hK : Then C E1 M w ι K) : o.wp P a w K Qx := by
  have hrun := run_call_builtin (a := a) ho hc
  rw [ha, hat] at hrun
  unfold appendQ at hq
  obtain ⟨b, E2, h1, hq2⟩ := Q.run_bind_some hq
  obtain ⟨β1, M1, s1, e1, r1⟩ := opd_sound h h1
  have hg2 : Gens E2 U := ((opd_gen y).run hg h1).1
  obtain ⟨ys, E3, h2, hq3⟩ := Q.run_bind_some hq2
  clear hq hq2
  split at hq3
  · rename_i e esz eb ez hk
    have hl0 := tk_of (hC.tt t) hk (by simp)
    split at hq3
    · rename_i hcond
      obtain ⟨hu, hpos⟩ := hcond
      obtain ⟨rfl, hsrc⟩ := rowsOf_sound s1 r1 h2 hu
      have hr : ∀ v' w', (Builtin.append_ #[t, t] o.type #[a.eval x, a.eval y]).run P w = .ok v' w' → (execOp a.eval o).run P w = .ok (.value v') w' := fun v' w' hrn => by
        rw [hrun]; simp [builtin, hrn]
      cases x with
      | tmp s =>
        simp only [Q.run] at hq3
        cases hE : E3 s with
        | own g e' sz rows =>
          rw [hE] at hq3
          simp only at hq3
          split at hq3
          · rename_i hcnd
            obtain ⟨rfl, rfl, hbd⟩ := hcnd
            simp only [Q.run, Option.some.injEq, Prod.mk.injEq, true_and] at hq3
            exact put_append (s := some s) hl0 s1 hd hdst hg2 hU hpos (.inr ⟨s, g, rfl, hE, rfl, rfl⟩) hsrc hu hbd hr hq3.symm (hK.of e1)
          · cases hq3
        | vw s' g =>
          rw [hE] at hq3
          simp only [Q.run] at hq3
          cases hS : E3 s' with
          | own g' e' sz rows =>
            rw [hS] at hq3
            simp only at hq3
            split at hq3
            · rename_i hcnd
              obtain ⟨rfl, rfl, rfl, hbd⟩ := hcnd
              simp only [Q.run, Option.some.injEq, Prod.mk.injEq, true_and] at hq3
              have hh := s1.hold s
              rw [hE] at hh
              have hv : valOf a s = valOf a s' := hh _ _ _ hS
              exact put_append (s := some s') hl0 s1 hd hdst hg2 hU hpos (.inr ⟨s', g, rfl, hS, hv, rfl⟩) hsrc hu hbd hr hq3.symm (hK.of e1)
            · cases hq3
          | _ => rw [hS] at hq3; cases hq3
        | _ => rw [hE] at hq3; cases hq3
      | const v =>
        simp only at hq3
        split at hq3
        · rename_i heq
          cases heq
        · rename_i heq
          injection heq with heq
          subst heq
          split at hq3
          · rename_i hbd
            have := set_run hq3
            exact put_append (s := none) (rows := []) hl0 s1 hd hdst hg2 hU hpos (.inl ⟨rfl, rfl, rfl, rfl⟩) hsrc hu (by simpa using hbd) hr (by simpa [cutE] using this) (hK.of e1)
          · cases hq3
        · cases hq3
      | _ => cases hq3
    · cases hq3
  · cases hq3
theorem run_append_empty {t e ty : TypeId} {i : TypeInfo} (ht : P.underlying t = some (.slice e)) (hi : P.info? e = some i) (base A : Option Addr) {n c c' : Nat} (hn : n ≤ c) : (Builtin.append_ #[t, t] ty #[.slice base n c, .slice A 0 c']).run P w = .ok (.slice base n c) w := by
  have hl : ∀ a, Sem.run P (loadCellsFrom a 0 0 #[]) w = .ok #[] w := fun a => rfl
  have hs : ∀ a, Sem.run P (storeCells a []) w = .ok () w := fun a => rfl
  cases base <;> cases A <;> simp [Builtin.append_, run_underlying ht, sizeOf, typeInfo, hi, Builtin.lenOf, Builtin.firstCells, hn, loadCells, Result.andThen, hl, hs]
theorem op_appendNil {c : Call} {t : TypeId} {s : Nat} {y : Operand} (ho : o.op = .call c) (hc : c.callee = .builtin .append) (ha : c.args = #[.tmp s, y]) (hat : c.argTypes = #[t, t]) (hE : E s = .v (.one .nils)) (hC : C.Ok P) (h : Sim C E a w ι β M) (hd : d < C.nt) (hdst : o.dst = some d) (hg : Gens E U) (hU : ¬ U γ)
    (hq : (appendNilQ C γ d t y).run E = some ((), E1)) (hK : Then C E1 M w ι K) : o.wp P a w K Qx := by
  have hrun := run_call_builtin (a := a) ho hc
  rw [ha, hat] at hrun
  unfold appendNilQ at hq
  obtain ⟨b, E2, h1, hq2⟩ := Q.run_bind_some hq
  obtain ⟨β1, M1, s1, e1, r1⟩ := opd_sound h h1
  have hg2 : Gens E2 U := ((opd_gen y).run hg h1).1
  obtain ⟨ys, E3, h2, hq3⟩ := Q.run_bind_some hq2
  clear hq hq2
  have hv : a.eval (.tmp s) = .slice none 0 0 := by
    have hh := h.hold s
    rw [hE] at hh
    have hr : Rd w ι M (valOf a s) .nils := hh
    show valOf a s = _
    generalize valOf a s = u at hr
    cases hr; rfl
  split at hq3
  · rename_i e esz eb ez hk
    have hl0 := tk_of (hC.tt t) hk (by simp)
    split at hq3
    · rename_i hcond
      obtain ⟨hu, hpos⟩ := hcond
      obtain ⟨rfl, hsrc⟩ := rowsOf_sound s1 r1 h2 hu
      have hr : ∀ v' w', (Builtin.append_ #[t, t] o.type #[a.eval (.tmp s), a.eval y]).run P w = .ok v' w' → (execOp a.eval o).run P w = .ok (.value v') w' := fun v' w' hrn => by
        rw [hrun]; simp [builtin, hrn]
      split at hq3
      · rename_i hbd
        have := set_run hq3
        exact put_append (s := none) (rows := []) hl0 s1 hd hdst hg2 hU hpos (.inl ⟨rfl, hv, rfl, rfl⟩) hsrc hu (by simpa using hbd.2) hr (by simpa [cutE] using this) (hK.of e1)
      · split at hq3
        · rename_i h0
          have h0 : ys = [] := List.eq_nil_of_length_eq_zero h0
          subst h0
          obtain ⟨A, c', hy, _⟩ := hsrc
          obtain ⟨ht, i, z, hi, _⟩ := sl_some hl0
          refine put_data s1 hd hdst (x := .one .nils) (v := .slice none 0 0) Rd.nils (hr _ _ ?_) (set_run hq3) (hK.of e1)
          rw [hv, hy]
          exact run_append_empty ht hi none A (Nat.le_refl 0)
        · cases hq3
    · cases hq3
  · cases hq3
theorem isNone_eq {α : Type} {x : Option α} (h : x.isNone = true) : x = none := by cases x <;> first | rfl | cases h
theorem op_sound0 {i : Nat} (hC : C.Ok P) (hq : (semOp0 C i o).run E = some ((), E1)) (h : Sim C E a w ι β M) (hg : Gens E U) (hU : ¬ U (i + 1)) (hK : Then C E1 M w ι K) : o.wp P a w K Qx := by
  unfold semOp0 at hq
  split at hq
  case h_1 ho =>
    obtain ⟨d, hdst, hd, hq⟩ := dstQ_some hq
    exact op_mv (by simp [execOp, ho]) h hd hdst hg hU hq hK
  case h_2 ho =>
    obtain ⟨d, hdst, hd, hq⟩ := dstQ_some hq
    exact op_mv (by simp [execOp, ho]) h hd hdst hg hU hq hK
  case h_3 ho =>
    obtain ⟨d, hdst, hd, hq⟩ := dstQ_some hq
    exact op_pick ho h hd hdst hq hK
  case h_4 t ho =>
    obtain ⟨d, hdst, hd, hq⟩ := dstQ_some hq
    split at hq
    · cases hq
    · rename_i hz
      rcases hC.tt t with ht | ht
      · rw [ht] at hz; exact absurd rfl hz
      · exact op_alloc ho h hd hdst hg hU ht hz (set_run hq) hK
  case h_5 ho =>
    obtain ⟨d, hdst, hd, hq⟩ := dstQ_some hq
    obtain ⟨y, E2, h1, hq2⟩ := Q.run_bind_some hq
    obtain ⟨β1, M1, s1, e1, r1⟩ := opd_sound h h1
    split at hq2
    · cases hq2
    · rename_i hz
      exact op_box ho s1 hd hdst ((opd_gen _).run hg h1).1 hU r1 hz (set_run hq2) (hK.of e1)
  case h_6 ho =>
    obtain ⟨d, hdst, hd, hq⟩ := dstQ_some hq
    exact op_build ho hC h hd hdst hq hK
  case h_7 ho =>
    obtain ⟨d, hdst, hd, hq⟩ := dstQ_some hq
    exact op_buildSlice ho hC h hd hdst hg hU hq hK
  case h_8 ho =>
    obtain ⟨d, hdst, hd, hq⟩ := dstQ_some hq
    exact op_load ho h hd hdst (hC.tt _) hq hK
  case h_9 ho =>
    split at hq
    · rename_i hn; exact op_store ho h (isNone_eq hn) (hC.tt _) hq hK
    · cases hq
  case h_10 ho =>
    obtain ⟨d, hdst, hd, hq⟩ := dstQ_some hq
    exact op_nilCheck ho h hd hdst hq hK
  case h_11 ho =>
    obtain ⟨d, hdst, hd, hq⟩ := dstQ_some hq
    exact op_bin ho h hd hdst hq hK
  case h_12 ho =>
    obtain ⟨d, hdst, hd, hq⟩ := dstQ_some hq
    exact op_un ho h hd hdst hq hK
  case h_13 s t x ho =>
    obtain ⟨d, hdst, hd, hq⟩ := dstQ_some hq
    exact op_convert ho hC h hd hdst hq hK
  case h_14 ho =>
    obtain ⟨d, hdst, hd, hq⟩ := dstQ_some hq
    exact op_fieldAddr ho h hd hdst (hC.tt _) hq hK
  case h_15 ho =>
    obtain ⟨d, hdst, hd, hq⟩ := dstQ_some hq
    exact op_indexAddr ho h hd hdst (hC.tt _) hq hK
  case h_16 ho =>
    obtain ⟨d, hdst, hd, hq⟩ := dstQ_some hq
    exact op_extract ho h hd hdst hq hK
  case h_17 lo hi mx ho =>
    split at hq
    · rename_i hn
      obtain ⟨d, hdst, hd, hq⟩ := dstQ_some hq
      exact op_slice ho (isNone_eq hn) hC h hd hdst hq hK
    · cases hq
  case h_18 ho =>
    obtain ⟨d, hdst, hd, hq⟩ := dstQ_some hq
    exact op_makeSlice ho hC h hd hdst hg hU hq hK
  case h_19 c ho =>
    split at hq
    · rename_i hc
      obtain ⟨d, hdst, hd, hq⟩ := dstQ_some hq
      exact op_len ho hc hC h hd hdst hq hK
    · rename_i hc
      obtain ⟨d, hdst, hd, hq⟩ := dstQ_some hq
      split at hq
      · rename_i x y t t' hx ht
        split at hq
        · rename_i htt
          subst htt
          obtain ⟨ha, hat⟩ := args2 hx ht
          exact op_append ho hc ha hat hC h hd hdst hg hU hq hK
        · cases hq
      · cases hq
    · rename_i hc
      obtain ⟨d, hdst, hd, hq⟩ := dstQ_some hq
      refine op_mm ho hc h hd hdst (fun u v x y r M' hx hy hr => ?_) hq hK
      unfold maxD at hr
      split at hr
      · injection hr with hr; subst hr; cases hx; cases hy
        exact ⟨_, by simp [builtin, Builtin.max_, Builtin.max2], .int _ _⟩
      · cases hr
    · rename_i hc
      obtain ⟨d, hdst, hd, hq⟩ := dstQ_some hq
      refine op_mm ho hc h hd hdst (fun u v x y r M' hx hy hr => ?_) hq hK
      unfold minD at hr
      split at hr
      · injection hr with hr; subst hr; cases hx; cases hy
        exact ⟨_, by simp [builtin, Builtin.min_, Builtin.min2], .int _ _⟩
      · cases hr
    · rename_i hc
      obtain ⟨d, hdst, hd, hq⟩ := dstQ_some hq
      exact op_call ho hc hC h hd hdst hg hU hq hK
    · cases hq
  case h_20 => cases hq
end
end Go.Proofs.YtmhinddneefmbaaGreat.Pe
