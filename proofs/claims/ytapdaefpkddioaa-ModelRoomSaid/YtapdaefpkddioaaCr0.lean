/- A part of the proof of PmE. -/
import Derived.Test.YtapdaefpkddioaaCb46
set_option linter.unusedSimpArgs false
set_option linter.unusedVariables false
set_option linter.unusedSectionVars false
namespace Go.Proofs.Ytapdaefpkddioaa.Pe
open Go
set_option maxHeartbeats 1000000
theorem take_keep {h : Hpp} (v : h.Inv) {o n a : Int} (hn : U64 n) {b : Bk} (hb : b ∈ h.bl) (hu : b.used = true) :
    b ∈ (takeV h o n a).1.bl ∧ ((takeV h o n a).2.2 = 0 → b.off + 32 ≠ (takeV h o n a).2.1) := by
  unfold takeV
  have hfi := fit_is h.bl n a
  generalize fitV h.bl n a = fv at *
  cases hfi with
  | bad e he =>
    simp only [show ¬ e = 0 by omega, ↓reduceIte]
    exact ⟨hb, fun hz => by first | omega | (simp only at hz; omega) | simp_all⟩
  | good i need hi hf hnn haa =>
    simp only [↓reduceIte, Int.toNat_natCast, List.getElem?_eq_getElem hi, Option.map_some, Option.getD_some, takeB]
    simp only [fits, Bool.and_eq_true, Bool.not_eq_true', decide_eq_true_eq] at hf
    obtain ⟨⟨f1, f2⟩, f3⟩ := hf
    obtain ⟨n0, n1, n16, _⟩ := needV_range hn hnn
    have b16 := v.al _ (List.getElem_mem hi)
    obtain ⟨a16, a0, _⟩ := align_16 haa
    obtain ⟨p16, p0, _, _⟩ := pad_facts b16 a16 a0
    have c := v.cutp hi
    have hx := hb
    rw [c.eq] at hx
    rcases List.mem_append.1 hx with hx | hx
    · refine ⟨List.mem_append_left _ hx, fun _ => ?_⟩
      have := c.ls b hx
      have := (c.gs b hx).size0
      omega
    · rcases List.mem_cons.1 hx with rfl | hx
      · rw [f1] at hu; cases hu
      · refine ⟨List.mem_append_right _ (List.mem_append_right _ (List.mem_append_right _ (List.mem_append_right _ hx))), fun _ => ?_⟩
        have := c.lt b hx
        omega
theorem set_keep {l : List Bk} {i : Nat} (hi : i < l.length) {c b : Bk} (hb : b ∈ l) (hne : b ≠ l[i]) : b ∈ l.set i c := by
  obtain ⟨j, hj, rfl⟩ := List.getElem_of_mem hb
  refine List.mem_iff_getElem.2 ⟨j, by rw [List.length_set]; exact hj, ?_⟩
  rw [List.getElem_set_ne]
  rintro rfl
  exact hne rfl
theorem free_keep {h : Hpp} (v : h.Inv) {p : Int} {b : Bk} (hb : b ∈ h.bl) (hu : b.used = true) (hne : b.off + 32 ≠ p) : b ∈ (freeHV h p).1.bl := by
  unfold freeHV
  cases hp : placeN h.bl p with
  | none => exact hb
  | some i =>
    obtain ⟨hi, h1, h2⟩ := place_some hp
    simp only [List.getElem?_eq_getElem hi]
    rw [mem_used (used_joined _) hu]
    exact set_keep hi hb (by rintro rfl; exact hne h2)
theorem cut_keep {h : Hpp} {p size : Int} {b : Bk} (hb : b ∈ h.bl) (hu : b.used = true) (hne : b.off + 32 ≠ p) : b ∈ (cutV h p size).bl := by
  unfold cutV
  cases hp : placeN h.bl p with
  | none => exact hb
  | some i =>
    obtain ⟨hi, h1, h2⟩ := place_some hp
    simp only [cutB, List.getElem?_eq_getElem hi]
    split
    · exact hb
    · rw [mem_used (used_joined _) hu]
      have e := split_at hi
      have hx := hb
      rw [e] at hx
      rcases List.mem_append.1 hx with hx | hx
      · exact List.mem_append_left _ hx
      · rcases List.mem_cons.1 hx with rfl | hx
        · exact absurd h2 hne
        · exact List.mem_append_right _ (List.mem_append_right _ hx)
theorem grow_keep {h : Hpp} {n all : Int} {b : Bk} (hb : b ∈ h.bl) (hu : b.used = true) : b ∈ (growV h n all).1.bl := by
  unfold growV
  split
  · exact hb
  · split
    · exact hb
    · rw [mem_used (used_joined _) hu]
      exact List.mem_append_left _ hb
theorem resize_keep {h : Hpp} (v : h.Inv) {p n : Int} (hn : U64 n) {b : Bk} (hb : b ∈ h.bl) (hu : b.used = true) (hne : b.off + 32 ≠ p) :
    b ∈ (resizeV h p n).1.bl ∧ ((resizeV h p n).2.2 = 0 → b.off + 32 ≠ (resizeV h p n).2.1) := by
  unfold resizeV
  cases hp : placeN h.bl p with
  | none => exact ⟨hb, fun h => by simp at h⟩
  | some i =>
    obtain ⟨hi, h1, h2⟩ := place_some hp
    simp only [List.getElem?_eq_getElem hi]
    cases hnn : needV n with
    | none => exact ⟨hb, fun h => by simp at h⟩
    | some need =>
      simp only
      split
      · exact ⟨cut_keep (h := { h with bl := h.bl.set i { h.bl[i] with len := n } }) (set_keep hi hb (by rintro rfl; exact hne h2)) hu hne, fun _ => hne⟩
      · obtain ⟨t1, t2⟩ := take_keep v (o := h.bl[i].owner) (n := n) (a := 16) hn hb hu
        have g := v.bs _ (List.getElem_mem hi)
        split
        · rename_i h0
          exact ⟨free_keep (takeV_inv v g.own0 g.own1 hn) t1 hu hne, fun _ => t2 h0⟩
        · rename_i h0
          exact ⟨hb, fun h => absurd h h0⟩
def KeptB (s t : St) (b : Bk) : Prop := b ∈ t.h.bl ∧ dlV t.data (b.off + 32) = dlV s.data (b.off + 32)
theorem KeptB.same {s t : St} {b : Bk} (hb : b ∈ s.h.bl) (h1 : t.h.bl = s.h.bl) (h2 : t.data = s.data) : KeptB s t b := ⟨by rw [h1]; exact hb, by rw [h2]⟩
theorem takeS_kept {s : St} (w : s.Wk) {o n a : Int} (hn : U64 n) {b : Bk} (hb : b ∈ s.h.bl) (hu : b.used = true) : KeptB s (takeSV s o n a).1 b := by
  obtain ⟨t1, t2⟩ := take_keep w.hi (o := o) (n := n) (a := a) hn hb hu
  unfold takeSV
  simp only
  split
  · rename_i h0
    exact ⟨t1, by simp only; rw [dlV_put, if_neg (t2 h0)]⟩
  · exact .same hb rfl rfl
theorem freed_kept {s : St} (w : s.Wk) {p : Int} {b : Bk} (hb : b ∈ s.h.bl) (hu : b.used = true) (hne : b.off + 32 ≠ p) : KeptB s (freedV s p) b :=
  ⟨free_keep w.hi hb hu hne, by unfold freedV; simp only; rw [dlV_drop, if_neg hne]⟩
theorem name_kept {s : St} (w : s.Wk) (nm : NmOk s) {op : Opn} (ho : op.ok) {b : Bk} (hb : b ∈ s.h.bl) (hu : b.used = true) (h0 : b.owner ≠ 0) : KeptB s (nameV s op).1 b := by
  have same : KeptB s s b := .same hb rfl rfl
  unfold nameV
  split
  · simp only
    split
    · split
      · exact same
      · rename_i hi
        split
        · exact same
        · have hne : b.off + 32 ≠ (s.names[(namedV s.names op.name 0).toNat]?.map (·.off)).getD 0 := by
            rcases named_range (l := s.names) (name := op.name) (off := 0) with hr | ⟨i, hr, hil, _⟩
            · omega
            · rw [hr, Int.toNat_natCast, List.getElem?_eq_getElem hil]
              simp only [Option.map_some, Option.getD_some]
              obtain ⟨c, hc, hcu, hc0, hco⟩ := nm.at_ _ (List.getElem_mem hil)
              intro e
              have := off_inj w.hi hb hc (by omega)
              subst this
              exact h0 hc0
          have wk' : ({ s with names := s.names.take (namedV s.names op.name 0).toNat ++ s.names.drop ((namedV s.names op.name 0).toNat + 1) } : St).h.Inv := w.hi
          exact ⟨free_keep w.hi hb hu hne, by unfold freedV; simp only; rw [dlV_drop, if_neg hne]⟩
    · split
      · exact same
      · split
        · exact same
        · have := takeS_kept w (o := 0) (n := op.n) (a := 16) ho.n hb hu
          split
          · exact this
          · exact this
  · exact same
theorem block_kept {s : St} (w : s.Wk) {c : Int} {op : Opn} (ho : op.ok) {b : Bk} (hb : b ∈ s.h.bl) (hu : b.used = true) (h0 : b.owner ≠ 0) (h1 : b.owner ≠ c + 1) : KeptB s (blockV s c op).1 b := by
  have same : KeptB s s b := .same hb rfl rfl
  have hne : (ownedV s c op).2 = 0 → b.off + 32 ≠ op.off := by
    unfold ownedV
    cases hp : placeN s.h.bl op.off with
    | none => intro h; simp at h
    | some i =>
      obtain ⟨hi, h2, h3⟩ := place_some hp
      simp only [List.getElem?_eq_getElem hi, Option.map_some, Option.getD_some]
      intro h e
      have := off_inj w.hi hb (List.getElem_mem hi) (by omega)
      subst this
      simp only [bne_iff_ne, ne_eq, h1, not_false_eq_true, h0, Bool.and_eq_true, Bool.or_eq_true, true_or, and_self, ↓reduceIte] at h
      omega
  have hown : ∀ who : Int, (ownedV s c op).2 = 0 → KeptB s (ownerV s (ownedV s c op).1.toNat who) b := by
    intro who hz
    have hz' := hne hz
    unfold ownedV at hz ⊢
    cases hp : placeN s.h.bl op.off with
    | none => rw [hp] at hz; simp at hz
    | some i =>
      obtain ⟨hi, h2, h3⟩ := place_some hp
      simp only [Int.toNat_natCast, ownerV, List.getElem?_eq_getElem hi]
      exact ⟨set_keep hi hb (by rintro rfl; exact hz' h3), rfl⟩
  unfold blockV
  simp only
  split
  · exact same
  · rename_i hz
    have hz : (ownedV s c op).2 = 0 := by omega
    have hz' := hne hz
    split
    · obtain ⟨r1, r2⟩ := resize_keep w.hi ho.n hb hu hz'
      split
      · exact same
      · rename_i hr
        have hr : (resizeV s.h op.off op.n).2.2 = 0 := by omega
        refine ⟨r1, ?_⟩
        simp only
        rw [dlV_put, if_neg (r2 hr), dlV_drop, if_neg hz']
    · split
      · split
        · exact same
        · exact freed_kept w hb hu hz'
      · split
        · exact hown 0 hz
        · split
          · split
            · exact same
            · split
              · exact hown _ hz
              · exact same
          · split
            · exact same
            · split
              · exact same
              · refine ⟨hb, ?_⟩
                simp only
                rw [dlV_put, if_neg hz']
theorem do_kept {s : St} (w : s.Wk) (nm : NmOk s) {c : Int} {op : Opn} (ho : op.ok) {b : Bk} (hb : b ∈ s.h.bl) (hu : b.used = true) (h0 : b.owner ≠ 0) (h1 : b.owner ≠ c + 1) : KeptB s (doV s c op).1 b := by
  have same : ∀ t : St, t.h.bl = s.h.bl → t.data = s.data → KeptB s t b := fun t h1 h2 => .same hb h1 h2
  have ht : ∀ n a, U64 n → KeptB s (takeSV s (c + 1) n a).1 b := fun n a hn => takeS_kept w hn hb hu
  unfold doV
  split
  · exact same _ rfl rfl
  · split
    · exact same _ rfl rfl
    · split
      · split
        · exact same _ rfl rfl
        · exact same _ rfl rfl
      · split
        · split
          · exact same _ rfl rfl
          · exact same _ rfl rfl
        · split
          · exact ht _ _ ho.n
          · split
            · exact ht _ _ ho.n
            · split
              · split
                · exact same _ rfl rfl
                · rename_i m hm
                  exact ht _ _ (by
                    have hn := ho.n
                    have ha := ho.a
                    unfold mulV at hm
                    split at hm
                    · rename_i hlt
                      injection hm with hm
                      subst hm
                      exact ⟨Int.mul_nonneg hn.1 ha.1, hlt⟩
                    · cases hm)
              · split
                · exact name_kept w nm ho hb hu h0
                · split
                  · exact ⟨grow_keep hb hu, rfl⟩
                  · exact block_kept w ho hb hu h0 h1
theorem Vb.c_eq (x : Vb) : x.c = [.int .u64 x.b.off, .int .u64 x.b.size, .bool x.b.used, .int .i64 x.b.owner, .int .u64 x.b.len, .sl (rowsN x.v)] := rfl
end Go.Proofs.Ytapdaefpkddioaa.Pe
namespace Go.Proofs.Ytapdaefpkddioaa.Pe
open Go
set_option maxHeartbeats 1000000
theorem best_none (l : List Bk) (need a : Int) : ∀ n, bestUpto l need a n = none → ∀ i (h : i < l.length), i < n → fits need a l[i] = false
  | 0, _, i, _, h => by omega
  | n + 1, hn, i, h, hi => by
    rw [best_succ] at hn
    unfold bestStep at hn
    split at hn
    · rename_i b hb
      obtain ⟨hl, hb⟩ := List.getElem?_eq_some_iff.1 hb
      split at hn
      · cases hn
      · rename_i hf
        have ih := best_none l need a n hn
        rw [hn] at hf
        simp only [better, Bool.and_true, Bool.not_eq_true] at hf
        by_cases he : i = n
        · subst he; rw [hb]; exact hf
        · exact ih i h (by omega)
    · rename_i hb
      have ih := best_none l need a n hn
      have : ¬ n < l.length := fun hl => by rw [List.getElem?_eq_getElem hl] at hb; cases hb
      exact ih i h (by omega)
def roomB (need : Int) (b : Bk) : Bool := !b.used && decide (need ≤ b.size)
theorem fits_16 {need : Int} {b : Bk} (h : b.off % 16 = 0) : fits need 16 b = roomB need b := by
  have hp : padV b.off 16 = 0 := by unfold padV; rw [if_pos (by omega)]
  unfold fits roomB
  rw [hp]
  cases b.used <;> simp
theorem take_room {s : St} (w : s.Wk) (o n : Int) : (takeSV s o n 16).2.1 = match needV n with
    | none => 2
    | some need => if s.h.bl.any (roomB need) then 0 else 3 := by
  have hal := (chain_16 w.hi.ch (by omega) fun b hb => (w.hi.bs b hb).size16).1
  have ha : alignV 16 = true := by decide +kernel
  unfold takeSV takeV fitV
  rw [if_pos ha]
  cases hn : needV n with
  | none => simp
  | some need =>
    simp only
    cases hb : bestUpto s.h.bl need 16 s.h.bl.length with
    | none =>
      have h0 : s.h.bl.any (roomB need) = false := by
        rw [List.any_eq_false]
        intro b hb'
        obtain ⟨i, hi, rfl⟩ := List.getElem_of_mem hb'
        have := best_none _ _ _ _ hb i hi hi
        rw [fits_16 (hal _ (List.getElem_mem hi))] at this
        rw [this]; simp
      simp [h0]
    | some i =>
      obtain ⟨hi, hf⟩ := best_fits _ _ _ _ _ hb
      rw [fits_16 (hal _ (List.getElem_mem hi))] at hf
      have h1 : s.h.bl.any (roomB need) = true := List.any_eq_true.2 ⟨_, List.getElem_mem hi, hf⟩
      simp [h1]
def opAl (n : Int) : Opn := ⟨1, n, 0, 0, 0, 0, 0, ⟨#[]⟩⟩
theorem att0 {s : St} (w : s.Wk) : (doV s 0 opT).1.h = s.h ∧ (doV s 0 opT).1.live[0]?.getD false = true := by
  have h8 := w.lv8
  unfold doV opT
  rw [if_neg (by simp), if_neg (by simp), if_pos rfl]
  split
  · rename_i h; exact ⟨rfl, h⟩
  · refine ⟨rfl, ?_⟩
    simp only [Int.toNat_zero]
    rw [List.getElem?_set_self (by omega)]
    rfl
theorem alloc0 {s : St} (hl : s.live[0]?.getD false = true) (n : Int) : doV s 0 (opAl n) = ((takeSV s 1 n 16).1, (takeSV s 1 n 16).2.1, (takeSV s 1 n 16).2.2, 0) := by
  unfold doV opAl
  rw [if_neg (by simp), if_neg (by simp only [Int.toNat_zero, hl]; simp), if_neg (by simp), if_neg (by simp), if_pos rfl]
  rfl
theorem merged_at {l : List Bk} (h : merged l) (i : Nat) (hi : i + 1 < l.length) : l[i].used = true ∨ l[i + 1].used = true := by
  induction l generalizing i with
  | nil => simp at hi
  | cons a l ih =>
    match l, h with
    | [], _ => simp at hi
    | b :: l, h =>
      cases i with
      | zero => exact h.1
      | succ i => exact ih h.2 i (by simpa using hi)
theorem sizes_take2 {l : List Bk} (h : ∀ b ∈ l, 0 ≤ b.size) (i : Nat) : 0 ≤ sizes (l.take i) ∧ sizes (l.take i) ≤ sizes l := by
  have e : sizes l = sizes (l.take i) + sizes (l.drop i) := by
    rw [← sizes_app, List.take_append_drop]
  have h1 := sizes_nonneg (l := l.take i) fun b hb => h b (List.mem_of_mem_take hb)
  have h2 := sizes_nonneg (l := l.drop i) fun b hb => h b (List.mem_of_mem_drop hb)
  omega
end Go.Proofs.Ytapdaefpkddioaa.Pe
