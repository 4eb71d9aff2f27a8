/- A part of the proof of JbH. -/
import Derived.ProofKit
import Derived.Below
import Derived.ChangeOld
import Derived.Deep.Slices
import Derived.Test.YtmhinddneefmbaaGreatKw1
set_option linter.unusedSimpArgs false
set_option linter.unusedVariables false
set_option linter.unusedSectionVars false
namespace Go.Proofs.YtmhinddneefmbaaGreat.Pe
open Go Go.ChangeShapes Go.Deep
def tiles (P : Program) : Nat → List Field → Nat → Bool
  | off, [], n => off == n
  | off, f :: fs, n => f.offset == off && tiles P (off + P.cellsOf f.type) fs n
def plainT (P : Program) : Nat → TypeId → Bool
  | 0, _ => false
  | d + 1, t => match P.underlying t with
    | some .bool => true
    | some (.int _) => true
    | some .string => true
    | some (.slice e) => decide (0 < P.cellsOf e) && plainT P d e
    | some (.struct fs) => tiles P 0 fs.toList (P.cellsOf t) && fs.toList.all fun f => plainT P d f.type
    | _ => false
def okD (P : Program) : Nat → TypeId → List D → Prop
  | 0, _, _ => False
  | d + 1, t, ds => match P.underlying t with
    | some .bool => ∃ b, ds = [.bool b]
    | some (.int k) => ∃ x, ds = [.int k x] ∧ (Lit.int k x).wf = true
    | some .string => ∃ s : ByteArray, ds = [.str s] ∧ s.size ≤ maxLen
    | some (.slice e) => ∃ rows, ds = [.sl rows] ∧ rows.length ≤ maxLen ∧ ∀ r ∈ rows, okD P d e r
    | some (.struct fs) => ds.length = P.cellsOf t ∧ ∀ f ∈ fs.toList, okD P d f.type ((ds.drop f.offset).take (P.cellsOf f.type))
    | _ => False
section
variable {P : Program} {w : World} {ι : Nat → Option Nat} {M : Nat → Prop}
theorem RdL.nil' : RdL w ι M [] [] := ⟨rfl, fun j v d h => by simp at h⟩
theorem RdL.one {v : Value} {d : D} (h : Rd w ι M v d) : RdL w ι M [v] [d] := ⟨rfl, fun j v' d' h1 h2 => by
  cases j with
  | zero => simp at h1 h2; subst h1; subst h2; exact h
  | succ j => simp at h1⟩
theorem RdL.app {l1 l2 : List Value} {m1 m2 : List D} (h1 : RdL w ι M l1 m1) (h2 : RdL w ι M l2 m2) : RdL w ι M (l1 ++ l2) (m1 ++ m2) := by
  refine ⟨by rw [List.length_append, List.length_append, h1.1, h2.1], fun j v d hv hd => ?_⟩
  by_cases hj : j < l1.length
  · rw [List.getElem?_append_left hj] at hv
    rw [List.getElem?_append_left (h1.1 ▸ hj)] at hd
    exact h1.2 j v d hv hd
  · rw [List.getElem?_append_right (by omega)] at hv
    rw [List.getElem?_append_right (by have := h1.1; omega), ← h1.1] at hd
    exact h2.2 _ v d hv hd
theorem tiles_le {fs : List Field} {off n : Nat} (h : tiles P off fs n = true) : off ≤ n := by
  induction fs generalizing off with
  | nil => simp [tiles] at h; omega
  | cons f fs ih => simp only [tiles, Bool.and_eq_true] at h; have := ih h.2; omega
theorem tile_reads {d : Nat} {cs : List Value} : ∀ (fs : List Field) (off : Nat), tiles P off fs cs.length = true → (∀ f ∈ fs, ∃ ds, RdL w ι M ((cs.drop f.offset).take (P.cellsOf f.type)) ds ∧ okD P d f.type ds) →
    ∃ ds, RdL w ι M (cs.drop off) ds ∧ ∀ f ∈ fs, off ≤ f.offset ∧ okD P d f.type ((ds.drop (f.offset - off)).take (P.cellsOf f.type)) := by
  intro fs
  induction fs with
  | nil =>
    intro off h _
    simp only [tiles, beq_iff_eq] at h
    exact ⟨[], by rw [h, List.drop_length]; exact RdL.nil', fun f hf => by simp at hf⟩
  | cons f fs ih =>
    intro off h hr
    simp only [tiles, Bool.and_eq_true, beq_iff_eq] at h
    obtain ⟨h1, h2⟩ := h
    have hle := tiles_le h2
    obtain ⟨d1, r1, k1⟩ := hr f (by simp)
    obtain ⟨d2, r2, k2⟩ := ih (off + P.cellsOf f.type) h2 (fun g hg => hr g (by simp [hg]))
    have hl1 : d1.length = P.cellsOf f.type := by
      have := r1.1
      rw [List.length_take, List.length_drop, h1] at this
      omega
    refine ⟨d1 ++ d2, ?_, fun g hg => ?_⟩
    · have e : cs.drop off = (cs.drop off).take (P.cellsOf f.type) ++ cs.drop (off + P.cellsOf f.type) := by
        rw [← List.drop_drop, List.take_append_drop]
      rw [e]
      rw [h1] at r1
      exact r1.app r2
    · rcases List.mem_cons.1 hg with rfl | hg
      · refine ⟨by omega, ?_⟩
        rw [h1, Nat.sub_self, List.drop_zero, ← hl1, List.take_left']
        · exact k1
        · rfl
      · obtain ⟨g1, g2⟩ := k2 g hg
        refine ⟨by omega, ?_⟩
        rw [List.drop_append, List.drop_eq_nil_of_le (by omega), List.nil_append, hl1]
        rw [show g.offset - off - P.cellsOf f.type = g.offset - (off + P.cellsOf f.type) by omega]
        exact g2
theorem plain_reads {H : Type} {enc : TypeId × Value → H} {base : Nat} {spare : Nat → Bool} {held : Bool} (hM : ∀ b, ¬ M b) : ∀ (d : Nat) (t : TypeId) (fuel : Nat) (cs : List Value) (x : DataW H × List MemPlace), plainT P d t = true → DataW.trod enc P w base spare held fuel t cs = some x → ∃ ds, RdL w ι M cs ds ∧ okD P d t ds := by
  intro d
  induction d with
  | zero => intro t fuel cs x h; simp [plainT] at h
  | succ d ih =>
    intro t fuel cs x h hx
    unfold plainT at h
    unfold okD
    split at h
    · rename_i hu
      obtain ⟨b, rfl, _⟩ := DataW.trod_bool hu hx
      exact ⟨[.bool b], .one (.bool b), b, rfl⟩
    · rename_i k hu
      obtain ⟨n, rfl, _, hw⟩ := DataW.trod_int hu hx
      exact ⟨[.int k n], .one (.int k n), n, rfl, hw⟩
    · rename_i hu
      obtain ⟨s, rfl, _, hs⟩ := DataW.trod_string hu hx
      exact ⟨[.str s], .one (.str s), s, rfl, hs⟩
    · rename_i e hu
      simp only [Bool.and_eq_true, decide_eq_true_eq] at h
      obtain ⟨he, hp⟩ := h
      rcases open_slice hu hx with ⟨rfl, _⟩ | ⟨a, len, cap, m, n, Dd, Pl, rfl, hb, hl, hc, hm, _, hel⟩
      · exact ⟨[.sl []], .one (.nil _ _), [], rfl, by simp, by simp⟩
      have hlm : len ≤ m := by rw [hm]; split <;> omega
      have hall : ∀ i, i < len → ∃ p : List Value × List D, w.cells? base (a.add (i * P.cellsOf e)) (P.cellsOf e) = some p.1 ∧ RdL w ι M p.1 p.2 ∧ okD P d e p.2 := fun i hi => by
        obtain ⟨cs', h1, h2⟩ := hel i (by omega)
        obtain ⟨ds, h3, h4⟩ := ih e n cs' _ hp h2
        exact ⟨(cs', ds), h1, h3, h4⟩
      obtain ⟨f, hf⟩ := choose_lt (α := List Value × List D) hall
      refine ⟨[.sl ((List.range len).map fun i => (f i).2)], .one ?_, _, rfl, by rw [List.length_map, List.length_range]; omega, fun r hr => ?_⟩
      · by_cases h0 : len = 0
        · subst h0; exact .nil _ _
        have hcell : ∀ i j, i < len → j < P.cellsOf e → w.cell? (a.add (i * P.cellsOf e + j)) = some ((f i).1.getD j undef) := fun i j hi hj => by
          obtain ⟨_, h1, h2⟩ := World.cells?_some (hf i hi).1
          have h3 := h2 j hj
          rw [add_add] at h3
          rw [h3, List.getD_eq_getElem?_getD, List.getElem?_eq_getElem (by omega)]
          rfl
        refine .sl a len cap (P.cellsOf e) _ (fun i j => (f i).1.getD j undef) (by simp) (by omega) hl he (fun r hr => ?_) ?_ (hM _) hcell (fun i j r dd hr hd => ?_)
        · obtain ⟨i, hi, rfl⟩ := List.mem_map.1 hr
          have hi := List.mem_range.1 hi
          rw [← (hf i hi).2.1.1, (World.cells?_some (hf i hi).1).2.1]
        · have := World.cell?_spot (hcell 0 0 (by omega) he)
          simpa [Addr.add] using this
        · have hi : i < len := by
            have := (List.getElem?_eq_some_iff.1 hr).1
            simpa using this
          simp only [List.getElem?_map, List.getElem?_range hi, Option.map_some, Option.some.injEq] at hr
          subst hr
          obtain ⟨hj, _⟩ := List.getElem?_eq_some_iff.1 hd
          have hj' : j < (f i).1.length := by rw [(hf i hi).2.1.1]; exact hj
          refine (hf i hi).2.1.2 j _ _ ?_ hd
          rw [List.getD_eq_getElem?_getD, List.getElem?_eq_getElem hj']
          rfl
      · obtain ⟨i, hi, rfl⟩ := List.mem_map.1 hr
        exact (hf i (List.mem_range.1 hi)).2.2
    · rename_i fs hu
      simp only [Bool.and_eq_true] at h
      obtain ⟨ht, hall⟩ := h
      obtain ⟨xs, n, _, _, hl, hxl, hg⟩ := DataW.trod_struct hu hx
      obtain ⟨ds, h1, h2⟩ := tile_reads (P := P) (w := w) (ι := ι) (M := M) (d := d) (cs := cs) fs.toList 0 (by rw [hl]; exact ht) (fun f hf => by
        obtain ⟨i, hi, rfl⟩ := List.getElem_of_mem hf
        have hi' : i < fs.size := by simpa using hi
        have e := hg i fs[i] (Array.getElem?_eq_getElem hi')
        rw [List.getElem?_eq_getElem (by omega)] at e
        rw [Array.getElem_toList]
        refine ih _ n _ _ ?_ e
        rw [List.all_eq_true] at hall
        exact hall _ (by simp))
      rw [List.drop_zero] at h1
      exact ⟨ds, h1, by rw [← h1.1, hl], fun f hf => by simpa using (h2 f hf).2⟩
    · cases h
end
end Go.Proofs.YtmhinddneefmbaaGreat.Pe
