/- A part of the proof of JdH. -/
import Derived.Lib.ConvBytes
import Derived.Lib.SliceRun
import Derived.WalkSpells
import Derived.Test.YtmhinddneefmbaaGreatKf11
set_option linter.unusedSimpArgs false
set_option linter.unusedVariables false
set_option linter.unusedSectionVars false
namespace Go.Proofs.YtmhinddneefmbaaGreat.Pe
open Go
section
variable {P : Program} {C : Ctx} {E E1 : Env} {a : Act} {w : World} {ι β : Nat → Option Nat} {M : Nat → Prop} {K : Act → World → Prop} {Qx : Exit → Act → World → Prop} {o : Oper} {d : Nat} {U : Nat → Prop} {γ : Nat}
theorem mp_some {t : Nat} {kk : Option IntKind} {vz : D} (h : TkOk P t (.mp kk vz)) : ∃ kt vt i kd, P.underlying t = some (.map kt vt) ∧ P.info? vt = some i ∧ i.zero = some vz.zv ∧ P.underlying kt = some kd ∧ (kd = .string ∧ kk = none ∨ ∃ k, kd = .int k ∧ kk = some k) ∧ vz.isZ = true := by
  obtain ⟨h, hz⟩ := h
  unfold mpOf at h
  cases hu : P.underlying t with
  | none => rw [hu] at h; cases h
  | some dd =>
    rw [hu] at h
    cases dd <;> first | (cases h; done) | skip
    rename_i kt vt
    simp only [Option.some.injEq, Prod.mk.injEq] at h
    obtain ⟨h1, h2⟩ := h
    cases hi : P.info? vt with
    | none => rw [hi] at h2; cases h2
    | some i =>
      rw [hi] at h2
      simp only [Option.map_some, Option.some.injEq] at h2
      cases hk : P.underlying kt with
      | none => rw [hk] at h1; cases h1
      | some kd =>
        rw [hk] at h1
        refine ⟨kt, vt, i, kd, rfl, hi, h2, hk, ?_, hz⟩
        cases kd <;> first | (cases h1; done) | skip
        · simp only [Option.some.injEq] at h1; exact .inr ⟨_, rfl, h1.symm⟩
        · simp only [Option.some.injEq] at h1; exact .inl ⟨rfl, h1.symm⟩
theorem key_is {kd : TypeDesc} {kk : Option IntKind} {v : Value} {k : D} (hd : kd = .string ∧ kk = none ∨ ∃ k, kd = .int k ∧ kk = some k) (hk : keyOk kk k = true) (hr : Rd w ι M v k) : MapKept.IsKey kd v := by
  rcases hd with ⟨rfl, rfl⟩ | ⟨k0, rfl, rfl⟩
  · cases k <;> first | (cases hk; done) | (cases hr; trivial)
  · cases k <;> first | (cases hk; done) | (cases hr; simp only [keyOk, beq_iff_eq] at hk; exact hk.symm)
theorem same_key {kd : TypeDesc} {kk : Option IntKind} {u v : Value} {k k' : D} {b : Bool} (hd : kd = .string ∧ kk = none ∨ ∃ k, kd = .int k ∧ kk = some k) (hu : Rd w ι M u k) (hv : Rd w ι M v k') (hk : keyOk kk k = true) (h : keyEq k k' = some b) : Instr.sameNow kd u v = some b := by
  unfold keyEq at h
  split at h
  · cases hu; cases hv
    split at h
    · rename_i e; subst e
      rcases hd with ⟨rfl, rfl⟩ | ⟨k0, rfl, rfl⟩
      · cases hk
      · simp only [Option.some.injEq] at h; subst h; simp [Instr.sameNow]
    · cases h
  · cases hu; cases hv
    rcases hd with ⟨rfl, rfl⟩ | ⟨k0, rfl, rfl⟩
    · simp only [Option.some.injEq] at h; subst h; simp [Instr.sameNow]
    · cases hk
  · cases h
theorem mapFind_sound {kd : TypeDesc} {kk : Option IntKind} {u : Value} {k : D} (hd : kd = .string ∧ kk = none ∨ ∃ k, kd = .int k ∧ kk = some k) (hu : Rd w ι M u k) (hk : keyOk kk k = true) : ∀ (rows : List (List D)) (es : List MapEntry) (i : Nat) r,
    es.length = rows.length → (∀ (i : Nat) e r, es[i]? = some e → rows[i]? = some r → ∃ k v, r = [k, v] ∧ Rd w ι M e.key k ∧ Rd w ι M e.val v) → mapFind k rows i = some r →
    (r = none ∧ Instr.findNow kd u es i = some none) ∨ ∃ j e v k', r = some (i + j, v) ∧ Instr.findNow kd u es i = some (some (i + j, e.val)) ∧ es[j]? = some e ∧ Rd w ι M e.val v ∧ Rd w ι M e.key k' ∧ keyEq k k' = some true
  | [], es, i, r, hl, _, h => by
    simp only [mapFind, Option.some.injEq] at h
    have : es = [] := List.eq_nil_of_length_eq_zero hl
    subst this
    exact .inl ⟨h.symm, rfl⟩
  | row :: rows, [], i, r, hl, _, _ => by simp at hl
  | row :: rows, e :: es, i, r, hl, hr, h => by
    obtain ⟨k', v, rfl, h1, h2⟩ := hr 0 e row rfl rfl
    simp only [mapFind] at h
    split at h
    · rename_i hke
      simp only [Option.some.injEq] at h
      exact .inr ⟨0, e, v, k', h.symm, by simp [Instr.findNow, same_key hd hu h1 hk hke], rfl, h2, h1, hke⟩
    · rename_i hke
      have hs := same_key hd hu h1 hk hke
      rcases mapFind_sound hd hu hk rows es (i + 1) r (by simpa using hl) (fun j e r he hr' => hr (j + 1) e r (by simpa using he) (by simpa using hr')) h with ⟨h3, h4⟩ | ⟨j, e', v', k'', h3, h4, h5, h6⟩
      · exact .inl ⟨h3, by simp [Instr.findNow, hs, h4]⟩
      · refine .inr ⟨j + 1, e', v', k'', ?_, ?_, by simpa using h5, h6⟩
        · rw [h3]; congr 2; omega
        · simp only [Instr.findNow, hs, h4]; congr 3; omega
    · cases h
theorem key_eq {k k' : D} {u v : Value} (hu : Rd w ι M u k) (hv : Rd w ι M v k') (h : keyEq k k' = some true) : Instr.sameBits 10000 v u = true := by
  unfold keyEq at h
  split at h
  · cases hu; cases hv
    split at h
    · rename_i e; subst e
      simp only [Option.some.injEq, beq_iff_eq] at h; subst h
      simp [Instr.sameBits]
    · cases h
  · cases hu; cases hv
    simp only [Option.some.injEq] at h
    have := (MapKept.bytes_beq _ _).1 h
    subst this
    simp [Instr.sameBits, (MapKept.bytes_beq _ _).2]
  · cases h
theorem key_same {k k' : D} {u v : Value} (hu : Rd w ι M u k) (hv : Rd w ι M v k') (h : keyEq k k' = some true) : u = v := by
  unfold keyEq at h
  split at h
  · cases hu; cases hv
    split at h
    · rename_i e; subst e
      simp only [Option.some.injEq, beq_iff_eq] at h; subst h
      rfl
    · cases h
  · cases hu; cases hv
    simp only [Option.some.injEq] at h
    have := (MapKept.bytes_beq _ _).1 h
    subst this
    rfl
  · cases h
theorem key_ne {k k' : D} {u v : Value} (hu : Rd w ι M u k) (hv : Rd w ι M v k') (h : keyEq k k' = some false) : u ≠ v := by
  unfold keyEq at h
  split at h
  · cases hu; cases hv
    split at h
    · rename_i e; subst e
      simp only [Option.some.injEq, beq_eq_false_iff_ne, ne_eq] at h
      intro e; injection e with _ e; exact h e
    · cases h
  · cases hu; cases hv
    simp only [Option.some.injEq] at h
    intro e; injection e with e
    rw [(MapKept.bytes_beq _ _).2 e] at h
    cases h
  · cases h
theorem mapFind_none {k : D} {u : Value} (hu : Rd w ι M u k) : ∀ (rows : List (List D)) (es : List MapEntry) (i : Nat), es.length = rows.length →
    (∀ (j : Nat) e r, es[j]? = some e → rows[j]? = some r → ∃ k v, r = [k, v] ∧ Rd w ι M e.key k ∧ Rd w ι M e.val v) → mapFind k rows i = some none → ∀ x ∈ es, x.key ≠ u
  | [], es, _, hl, _, _ => by
    have : es = [] := List.eq_nil_of_length_eq_zero hl
    subst this
    intro x hx; cases hx
  | row :: rows, [], i, hl, _, _ => by simp at hl
  | row :: rows, e :: es, i, hl, hr, h => by
    obtain ⟨k', v, rfl, h1, h2⟩ := hr 0 e row rfl rfl
    simp only [mapFind] at h
    split at h
    · cases h
    · rename_i hke
      intro x hx
      rcases List.mem_cons.1 hx with rfl | hx
      · exact (key_ne hu h1 hke).symm
      · exact mapFind_none hu rows es (i + 1) (by simpa using hl) (fun j e r he hr' => hr (j + 1) e r (by simpa using he) (by simpa using hr')) h x hx
    · cases h
theorem notLoop_es {es : Array MapEntry} {rows : List (List D)} {Pk Pv : MapEntry → D → Prop} (hl : es.size = rows.length) (h : ∀ (i : Nat) e r, es[i]? = some e → rows[i]? = some r → ∃ k v, r = [k, v] ∧ Pk e k ∧ Pv e v) : notLoop rows = true := by
  unfold notLoop
  split
  · have h0 : 0 < es.size := by simp at hl; omega
    obtain ⟨k, v, h1, _⟩ := h 0 es[0] _ (Array.getElem?_eq_getElem h0) rfl
    cases h1
  · have h0 : 0 < es.size := by simp at hl; omega
    obtain ⟨k, v, h1, _⟩ := h 0 es[0] _ (Array.getElem?_eq_getElem h0) rfl
    cases h1
  · have h0 : 0 < es.size := by simp at hl; omega
    obtain ⟨k, v, h1, _⟩ := h 0 es[0] _ (Array.getElem?_eq_getElem h0) rfl
    cases h1
  · rfl
theorem mapFind_shape {k : D} : ∀ (rows : List (List D)) (i : Nat) r, mapFind k rows i = some r → (∀ row ∈ rows, ∃ k' v, row = [k', v]) → (r = none ∧ ∀ row ∈ rows, ∃ k' v, row = [k', v] ∧ keyEq k k' = some false) ∨ ∃ j k' v, r = some (i + j, v) ∧ rows[j]? = some [k', v] ∧ keyEq k k' = some true
  | [], i, r, h, _ => by
    simp only [mapFind, Option.some.injEq] at h
    exact .inl ⟨h.symm, fun row hr => by cases hr⟩
  | row :: rows, i, r, h, hs => by
    obtain ⟨k', v, rfl⟩ := hs row List.mem_cons_self
    simp only [mapFind] at h
    split at h
    · rename_i hke
      simp only [Option.some.injEq] at h
      exact .inr ⟨0, k', v, h.symm, rfl, hke⟩
    · rename_i hke
      rcases mapFind_shape rows (i + 1) r h (fun row hr => hs row (List.mem_cons_of_mem _ hr)) with ⟨h1, h2⟩ | ⟨j, k'', v', h1, h2, h3⟩
      · refine .inl ⟨h1, fun row hr => ?_⟩
        rcases List.mem_cons.1 hr with rfl | hr
        · exact ⟨k', v, rfl, hke⟩
        · exact h2 row hr
      · exact .inr ⟨j + 1, k'', v', by rw [h1]; congr 2; omega, by simpa using h2, h3⟩
    · cases h
theorem mapFind_no {k : D} : ∀ (rows : List (List D)) (i : Nat), (∀ row ∈ rows, ∃ k' v, row = [k', v] ∧ keyEq k k' = some false) → mapFind k rows i = some none
  | [], i, _ => rfl
  | row :: rows, i, h => by
    obtain ⟨k', v, rfl, hke⟩ := h row List.mem_cons_self
    simp only [mapFind, hke]
    exact mapFind_no rows (i + 1) fun row hr => h row (List.mem_cons_of_mem _ hr)
theorem shape_of {k k' : D} {u v : Value} {b : Bool} (hu : Rd w ι M u k) (hv : Rd w ι M v k') (h : keyEq k k' = some b) : sameShape v u = true := by
  unfold keyEq at h
  split at h
  · cases hu; cases hv
    split at h
    · rename_i e; subst e
      simp [sameShape]
    · cases h
  · cases hu; cases hv
    rfl
  · cases h
theorem shape_self {kk : Option IntKind} {k : D} {u : Value} (hu : Rd w ι M u k) (h : keyOk kk k = true) : sameShape u u = true := by
  cases hu <;> cases kk <;> first | (cases h; done) | rfl | simp [sameShape]
theorem shape_symm {u v : Value} (h : sameShape u v = true) : sameShape v u = true := by
  unfold sameShape at h
  split at h
  · have e := h; simp at e; subst e; simp [sameShape]
  · rfl
  · cases h
theorem modify_keys {es : Array MapEntry} {j : Nat} {f : MapEntry → MapEntry} (hf : ∀ e, es[j]? = some e → (f e).key = e.key) : ∀ x ∈ (es.modify j f).toList, ∃ y ∈ es.toList, x.key = y.key := fun x hx => by
  obtain ⟨m, hm, rfl⟩ := List.getElem_of_mem hx
  have hms : m < es.size := by simpa using hm
  have hg : (es.modify j f)[m]? = some (es.modify j f).toList[m] := by rw [← Array.getElem?_toList]; exact List.getElem?_eq_getElem hm
  rw [Array.getElem?_modify] at hg
  refine ⟨es[m], by simp, ?_⟩
  rw [Array.getElem?_eq_getElem hms] at hg
  by_cases e : j = m
  · subst e
    rw [if_pos rfl] at hg
    simp only [Option.map_some, Option.some.injEq] at hg
    rw [← hg]
    exact hf _ (Array.getElem?_eq_getElem hms)
  · rw [if_neg e] at hg
    simp only [Option.some.injEq] at hg
    rw [← hg]
theorem shape_ne {kd : TypeDesc} {kk : Option IntKind} {u v : Value} {k : D} (hd : kd = .string ∧ kk = none ∨ ∃ k, kd = .int k ∧ kk = some k) (hu : Rd w ι M u k) (hk : keyOk kk k = true) (hs : sameShape v u = true) (hne : v ≠ u) : Instr.sameNow kd u v = some false := by
  unfold sameShape at hs
  split at hs
  · rename_i q x q' x'
    have e : q = q' := by simpa using hs
    subst e
    cases hu with
    | int =>
      refine same_key (w := w) (ι := ι) (M := M) hd (Rd.int q x') (Rd.int q x) hk ?_
      simp only [keyEq, if_true, Option.some.injEq, beq_eq_false_iff_ne, ne_eq]
      intro e; subst e; exact hne rfl
    | hole => cases kk <;> cases hk
  · rename_i s s'
    cases hu with
    | str =>
      refine same_key (w := w) (ι := ι) (M := M) hd (Rd.str s') (Rd.str s) hk ?_
      simp only [keyEq, Option.some.injEq]
      cases hb : (s' == s) with
      | false => rfl
      | true => exact absurd (congrArg Value.string ((MapKept.bytes_beq _ _).1 hb).symm) hne
    | hole => cases kk <;> cases hk
  · cases hs
theorem findNow_at {kd : TypeDesc} {u : Value} : ∀ (es : List MapEntry) (i j : Nat) (e : MapEntry), es[j]? = some e → (∀ (m : Nat) x, m < j → es[m]? = some x → Instr.sameNow kd u x.key = some false) → Instr.sameNow kd u e.key = some true → Instr.findNow kd u es i = some (some (i + j, e.val))
  | [], i, j, e, h, _, _ => by simp at h
  | x :: es, i, 0, e, h, _, ht => by
    simp only [List.getElem?_cons_zero, Option.some.injEq] at h
    subst h
    simp [Instr.findNow, ht]
  | x :: es, i, j + 1, e, h, hf, ht => by
    have h0 := hf 0 x (by omega) rfl
    simp only [Instr.findNow, h0]
    rw [findNow_at es (i + 1) j e (by simpa using h) (fun m y hm hy => hf (m + 1) y (by omega) (by simpa using hy)) ht]
    congr 3; omega
theorem mapFind_sound2 {kd : TypeDesc} {kk : Option IntKind} {u : Value} {k : D} (hd : kd = .string ∧ kk = none ∨ ∃ k, kd = .int k ∧ kk = some k) (hu : Rd w ι M u k) (hk : keyOk kk k = true) {rows : List (List D)} {b : Nat} {es : Array MapEntry} {clock : Nat} (hm : MapAt w ι M b es clock rows) {r : Option (Nat × D)} (h : mapFind k rows 0 = some r) :
    (r = none ∧ Instr.findNow kd u es.toList 0 = some none ∧ (∀ x ∈ es.toList, x.key ≠ u) ∧ ∀ x ∈ es.toList, sameShape x.key u = true) ∨ ∃ (i j : Nat) (e : MapEntry) (v k' : D) (rs : List (List D)), r = some (i, v) ∧ Instr.findNow kd u es.toList 0 = some (some (j, e.val)) ∧ es[j]? = some e ∧ Rd w ι M e.val v ∧ Rd w ι M e.key k' ∧ keyEq k k' = some true ∧
      rs.Perm rows ∧ es.size = rs.length ∧ (∀ (i : Nat) e r, es[i]? = some e → rs[i]? = some r → ∃ k v, r = [k, v] ∧ Rd w ι M e.key k ∧ Rd w ι M e.val v) ∧ rs[j]? = some [k', v] ∧ rows[i]? = some [k', v] := by
  obtain ⟨rs, hp, hl, hrd⟩ := hm.al
  have hsh : ∀ row ∈ rs, ∃ k' v, row = [k', v] := fun row hr => by
    obtain ⟨j, hj, rfl⟩ := List.getElem_of_mem hr
    have hje : j < es.size := by rw [hl]; exact hj
    obtain ⟨k', v, h1, _⟩ := hrd j es[j] _ (Array.getElem?_eq_getElem hje) (List.getElem?_eq_getElem hj)
    exact ⟨k', v, h1⟩
  rcases mapFind_shape rows 0 r h (fun row hr => hsh row (hp.mem_iff.2 hr)) with ⟨rfl, h2⟩ | ⟨i, k', v, rfl, hi, hke⟩
  · have hno : mapFind k rs 0 = some none := mapFind_no rs 0 fun row hr => h2 row (hp.mem_iff.1 hr)
    rcases mapFind_sound hd hu hk rs es.toList 0 none (by simpa using hl) (fun i e r he hr => hrd i e r (by simpa using he) hr) hno with ⟨_, h3⟩ | ⟨_, _, _, _, h3, _⟩
    · refine .inl ⟨rfl, h3, mapFind_none hu rs es.toList 0 (by simpa using hl) (fun i e r he hr => hrd i e r (by simpa using he) hr) hno, fun x hx => ?_⟩
      obtain ⟨m, hm', rfl⟩ := List.getElem_of_mem hx
      have hms : m < es.size := by simpa using hm'
      obtain ⟨k', v, e1, r1, _⟩ := hrd m es[m] rs[m] (Array.getElem?_eq_getElem hms) (List.getElem?_eq_getElem (by omega))
      obtain ⟨k2, v2, e2, hke⟩ := h2 _ (hp.mem_iff.1 (List.getElem_mem (show m < rs.length by omega)))
      rw [e1] at e2
      simp only [List.cons.injEq, and_true] at e2
      obtain ⟨rfl, rfl⟩ := e2
      simpa using shape_of hu r1 hke
    · cases h3
  · have hmem : [k', v] ∈ rs := hp.mem_iff.2 (List.mem_of_getElem? hi)
    obtain ⟨j, hj, hje⟩ := List.getElem_of_mem hmem
    have hjs : j < es.size := by rw [hl]; exact hj
    have hj' : rs[j]? = some [k', v] := by rw [List.getElem?_eq_getElem hj, hje]
    have he : es[j]? = some es[j] := Array.getElem?_eq_getElem hjs
    obtain ⟨k2, v2, e1, r1, r2⟩ := hrd j _ _ he hj'
    simp only [List.cons.injEq, and_true] at e1
    obtain ⟨rfl, rfl⟩ := e1
    have hst := (MapKept.stamped_iff es clock).1 hm.st
    have heu : es[j].key = u := (key_same hu r1 hke).symm
    refine .inr ⟨i, j, es[j], v, k', rs, by rw [Nat.zero_add], ?_, he, r2, r1, hke, hp, hl, hrd, hj', hi⟩
    have := findNow_at (kd := kd) (u := u) es.toList 0 j es[j] (by simp) (fun m x hm' hx => ?_) (same_key hd hu r1 hk hke)
    · rw [Nat.zero_add] at this; exact this
    · have hx' : es[m]? = some x := by simpa using hx
      refine shape_ne hd hu hk (by rw [← heu]; exact hm.shp x (List.mem_of_getElem? hx) _ (by simp)) ?_
      rw [← heu]
      have hml : m < es.toList.length := (List.getElem?_eq_some_iff.1 hx).1
      have hjl : j < es.toList.length := by simpa using hjs
      have hpw := List.pairwise_iff_getElem.1 hst.2.2 m j hml hjl hm'
      have e2 : es.toList[m] = x := (List.getElem?_eq_some_iff.1 hx).2
      rw [e2] at hpw
      simpa using hpw
theorem erase_perm {α : Type} : ∀ {l : List α} {i : Nat} {x : α}, l[i]? = some x → l.Perm (x :: l.eraseIdx i)
  | [], i, x, h => by simp at h
  | y :: l, 0, x, h => by
    simp only [List.getElem?_cons_zero, Option.some.injEq] at h
    subst h
    exact .refl _
  | y :: l, i + 1, x, h => by
    have h' : l[i]? = some x := by simpa using h
    rw [List.eraseIdx_cons_succ]
    exact ((erase_perm h').cons y).trans (.swap x y _)
theorem set_perm' {α : Type} : ∀ {l : List α} {i : Nat} {x : α} (y : α), l[i]? = some x → (l.set i y).Perm (y :: l.eraseIdx i)
  | [], i, x, y, h => by simp at h
  | z :: l, 0, x, y, h => .refl _
  | z :: l, i + 1, x, y, h => by
    have h' : l[i]? = some x := by simpa using h
    rw [List.eraseIdx_cons_succ, List.set_cons_succ]
    exact ((set_perm' y h').cons z).trans (.swap y z _)
theorem perm_set {l l' : List (List D)} (h : l.Perm l') {i j : Nat} {x y : List D} (hi : l[i]? = some x) (hj : l'[j]? = some x) : (l.set i y).Perm (l'.set j y) := by
  have p3 : (l.eraseIdx i).Perm (l'.eraseIdx j) := List.Perm.cons_inv (((erase_perm hi).symm.trans h).trans (erase_perm hj))
  exact ((set_perm' y hi).trans (p3.cons y)).trans (set_perm' y hj).symm
theorem perm_erase {l l' : List (List D)} (h : l.Perm l') {i j : Nat} {x : List D} (hi : l[i]? = some x) (hj : l'[j]? = some x) : (l.eraseIdx i).Perm (l'.eraseIdx j) :=
  List.Perm.cons_inv (((erase_perm hi).symm.trans h).trans (erase_perm hj))
theorem notLoop_all {rows : List (List D)} (h : ∀ r ∈ rows, ∃ k v, r = [k, v]) : notLoop rows = true := by
  unfold notLoop
  split
  · obtain ⟨k, v, e⟩ := h _ List.mem_cons_self; cases e
  · obtain ⟨k, v, e⟩ := h _ List.mem_cons_self; cases e
  · obtain ⟨k, v, e⟩ := h _ List.mem_cons_self; cases e
  · rfl
theorem mapRows_sound {ob : Nat} {r : Hp × Nat × List (List D)} (h : Sim C E a w ι β M) (hq : (mapRows ob).run E = some (r, E1)) : E1 = E ∧ E gs = .heap r.1 r.2.1 ∧ ∃ x, r.1 ob = some x ∧ x.sz = 0 ∧ x.rows = r.2.2 ∧ ∃ b, ι ob = some b ∧ ∃ es clock, MapAt w ι M b es clock r.2.2 := by
  simp only [mapRows, Q.run] at hq
  cases hG : E gs with
  | heap H nx =>
    rw [hG] at hq
    simp only at hq
    obtain ⟨x, E2, h1, hq2⟩ := Q.run_bind_some hq
    obtain ⟨hH, rfl⟩ := ofOpt_run h1
    split at hq2
    · rename_i h0
      obtain ⟨rfl, rfl⟩ := ret_run hq2
      obtain ⟨b, k1, k2⟩ := h.objs ob x (by simp [live, hG, hH])
      obtain ⟨es, clock, k3⟩ := k2.map h0
      exact ⟨rfl, rfl, x, hH, h0.1, rfl, b, k1, es, clock, k3⟩
    · cases hq2
  | _ => rw [hG] at hq; cases hq
theorem mp_rd {v : Value} {ob b : Nat} (h : Rd w ι M v (.mp ob)) (hb : ι ob = some b) : v = .map (some b) := by
  cases h with
  | mp _ b' h' => rw [hb] at h'; injection h' with h'; rw [h']
theorem op_mapLen {c : Call} {t : TypeId} {x : Operand} {kk : Option IntKind} {vz : D} (ho : o.op = .call c) (hc : c.callee = .builtin .len) (ha : c.args = #[x]) (hat : c.argTypes = #[t]) (hk : (C.tt t).k = .mp kk vz) (hC : C.Ok P) (h : Sim C E a w ι β M) (hd : d < C.nt) (hdst : o.dst = some d)
    (hq : ((opd x).bind fun m => (match m with | .one (.mp o) => (mapRows o).bind fun r => .set d (.v (.one (.int .i64 r.2.2.length))) (.ret ()) | _ => .fail) : Q Unit).run E = some ((), E1)) (hK : Then C E1 M w ι K) : o.wp P a w K Qx := by
  have hrun := run_call_builtin (a := a) ho hc
  rw [ha, hat] at hrun
  obtain ⟨kt, vt, i, kd, hu, _⟩ := mp_some (tk_of (hC.tt t) hk (by simp))
  obtain ⟨m, E2, h1, hq2⟩ := Q.run_bind_some hq
  obtain ⟨β1, M1, s1, e1, r1⟩ := opd_sound h h1
  split at hq2
  · rename_i ob
    obtain ⟨r, E3, h2, hq3⟩ := Q.run_bind_some hq2
    obtain ⟨rfl, hG, y, k1, k2, k3, b, k4, es, clock, k5⟩ := mapRows_sound s1 h2
    have hv := mp_rd (show Rd w ι M1 (a.eval x) (.mp ob) from r1) k4
    refine put_data s1 hd hdst (x := .one (.int .i64 r.2.2.length)) (v := .int .i64 r.2.2.length) (.int _ _) ?_ (set_run hq3) (hK.of e1)
    rw [hrun]
    simp [builtin, Builtin.len_, hv, run_underlying hu, MapKept.run_getObj_map k5.at_, goInt, k5.len]
  · cases hq2
theorem bytes_evo {X : Nat → Prop} (e : TypeId) (s : ByteArray) : Evo X M w M (Lib.bytesWorld w e s) := by
  have hold := fun b hb => Lib.bytesWorld_at_old w e s b hb
  refine ⟨?_, ?_, ?_, by rw [Lib.bytesWorld_size]; omega, fun b hb _ => hold b hb, fun _ _ h => h, fun b hb _ => hold b hb, .of hold⟩ <;>
    simp [Lib.bytesWorld, World.freeze, World.alloc, World.drew, -World.alloc_eq, -World.drew_eq]
theorem bytes_rd (e : TypeId) (s : ByteArray) (hlt : ∀ b, M b → b < w.heap.size) : Rd (Lib.bytesWorld w e s) ι M (.slice (some ⟨w.heap.size, 0, none⟩) s.size (grownCap w s.size 0 e)) (.sl (bytesD s)) := by
  by_cases h0 : s.size = 0
  · have : bytesD s = [] := by
      unfold bytesD
      rw [List.map_eq_nil_iff, ← List.length_eq_zero_iff]
      exact h0
    rw [this, h0]
    exact .nil _ _
  · refine .sl _ _ _ 1 (bytesD s) (fun i _ => .int .u8 (s.data.toList.getD i 0).toNat) (by simp [bytesD]) (by omega) (grownCap_ge w s.size 0 e) (by decide) (by simp [bytesD]) rfl (fun h => absurd (hlt _ h) (Nat.lt_irrefl _)) (fun i j hi hj => ?_) (fun i j r d hr hd => ?_)
    · have hj0 : j = 0 := by omega
      subst hj0
      have := Lib.bytesWorld_cell w e s i hi
      rw [addr_add rfl, show (0 : Nat) + (i * 1 + 0) = i by omega]
      exact this
    · unfold bytesD at hr
      rw [List.getElem?_map] at hr
      cases hb : s.data.toList[i]? with
      | none => rw [hb] at hr; cases hr
      | some b =>
        rw [hb] at hr
        injection hr with hr
        subst hr
        cases j with
        | zero =>
          simp at hd; subst hd
          have : s.data.toList.getD i 0 = b := by rw [List.getD_eq_getElem?_getD, hb]; rfl
          rw [this]
          exact .int _ _
        | succ j => simp at hd
theorem op_bytes {s t : TypeId} {x : Operand} (ho : o.op = .convert s t x) (hC : C.Ok P) (h : Sim C E a w ι β M) (hd : d < C.nt) (hdst : o.dst = some d) (hs : (C.tt s).k.isStr = true)
    (hq : (bytesQ C d t x).run E = some ((), E1)) (hK : Then C E1 M w ι K) : o.wp P a w K Qx := by
  have hs' : (C.tt s).k = .str := by
    cases hk : (C.tt s).k <;> rw [hk] at hs <;> first | rfl | cases hs
  have hus : P.underlying s = some .string := tk_of (hC.tt s) hs' (by simp)
  unfold bytesQ at hq
  obtain ⟨y, E2, h1, hq2⟩ := Q.run_bind_some hq
  obtain ⟨β1, M1, s1, e1, r1⟩ := opd_sound h h1
  split at hq2
  · rename_i e esz eb ez str hk
    split at hq2
    · rename_i hek
      have hut := (sl_some (tk_of (hC.tt t) hk (by simp))).1
      have hue : P.underlying e = some (.int .u8) := tk_of (hC.tt e) hek (by simp)
      have hv : a.eval x = .string str := by
        have hr : Rd w ι M1 (a.eval x) (.str str) := r1
        generalize a.eval x = u at hr; cases hr; rfl
      have hrun : (execOp a.eval o).run P w = .ok (.value (.slice (some ⟨w.heap.size, 0, none⟩) str.size (grownCap w str.size 0 e))) (Lib.bytesWorld w e str) := by
        have := Lib.run_convert_string_bytes (P := P) w s t e str hus hut hue
        simp [execOp, ho, hv, this]
      have hev : Evo C.X M1 w M1 (Lib.bytesWorld w e str) := bytes_evo e str
      have s2 : Sim C _ a (Lib.bytesWorld w e str) ι β1 M1 := s1.world hev (fun _ h => h) (fun b hb => Nat.lt_of_lt_of_le (s1.lt b hb) hev.size)
        (fun s b hs => Lib.bytesWorld_at_old w e str b (s1.lt b (s1.ctlB s b hs))) (fun o x b ho hi => Lib.bytesWorld_at_old w e str b (s1.lt b (s1.ctlO o x b ho hi)))
      have := set_run hq2
      subst this
      refine wp_value hrun ?_
      rw [hdst]
      exact hK.of e1 _ _ _ _ _ (s2.put_v hd (bytes_rd e str s1.lt)) hev (fun _ _ h => h)
    · cases hq2
  · cases hq2
theorem numsD_some : ∀ {ys : List (List D)} {xs : List Int}, numsD ys = some xs → ys = xs.map fun n => [.int .u8 n]
  | [], xs, h => by
    simp only [numsD, Option.some.injEq] at h; subst h; rfl
  | r :: l, xs, h => by
    unfold numsD at h
    split at h
    · rename_i e; cases e
    · rename_i n l' e
      injection e with e1 e2
      subst e1; subst e2
      cases hm : numsD l with
      | none => rw [hm] at h; cases h
      | some zs =>
        rw [hm] at h
        injection h with h
        subst h
        rw [numsD_some hm]
        rfl
    · cases h
theorem op_str {s t : TypeId} {x : Operand} (ho : o.op = .convert s t x) (hC : C.Ok P) (h : Sim C E a w ι β M) (hd : d < C.nt) (hdst : o.dst = some d) (hs : (C.tt t).k.isStr = true)
    (hq : (strQ C d s x).run E = some ((), E1)) (hK : Then C E1 M w ι K) : o.wp P a w K Qx := by
  have hs' : (C.tt t).k = .str := by
    cases hk : (C.tt t).k <;> rw [hk] at hs <;> first | rfl | cases hs
  have hut : P.underlying t = some .string := tk_of (hC.tt t) hs' (by simp)
  unfold strQ at hq
  obtain ⟨y, E2, h1, hq2⟩ := Q.run_bind_some hq
  obtain ⟨β1, M1, s1, e1, r1⟩ := opd_sound h h1
  obtain ⟨ys, E3, h2, hq3⟩ := Q.run_bind_some hq2
  split at hq3
  · rename_i e esz eb ez hk
    split at hq3
    · rename_i hek
      have hus := (sl_some (tk_of (hC.tt s) hk (by simp))).1
      have hue : P.underlying e = some (.int .u8) := tk_of (hC.tt e) hek (by simp)
      split at hq3
      · obtain ⟨xs, E4, h3, hq4⟩ := Q.run_bind_some hq3
        obtain ⟨hx, rfl⟩ := ofOpt_run h3
        have hys := numsD_some hx
        obtain ⟨rfl, A, c, hv, hc⟩ := rowsOf_sound (esz := 1) s1 r1 h2 (by
          rw [hys, List.all_eq_true]
          intro r hr
          obtain ⟨n, _, rfl⟩ := List.mem_map.1 hr
          rfl)
        have hlen : ys.length = xs.length := by rw [hys]; simp
        have hrun : (convert s t (.slice A ys.length c)).run P w = .ok (.string (strOfNums xs)) w := by
          rw [run_convert_bytes_string w s t e A ys.length c hus hue hut]
          rcases hc with rfl | ⟨ad, rfl, hc⟩
          · have : xs = [] := by cases xs with | nil => rfl | cons _ _ => simp at hlen
            subst this
            cases A <;> simp [Conv.bytesToString, loadCells, loadCellsFrom] <;> rfl
          · have hl : (loadCells ad xs.length).run P w = .ok (xs.map (Value.int .u8)).toArray w := by
              have := run_loadCells_list (P := P) w ad (xs.map (Value.int .u8)) (fun j v hj => by
                rw [List.getElem?_map] at hj
                cases hxj : xs[j]? with
                | none => rw [hxj] at hj; cases hj
                | some n =>
                  rw [hxj] at hj
                  injection hj with hj
                  subst hj
                  obtain ⟨u, hu1, hu2⟩ := hc j 0 [.int .u8 n] (.int .u8 n) (by rw [hys, List.getElem?_map, hxj]; rfl) rfl
                  have e0 : j * 1 + 0 = j := by omega
                  rw [e0] at hu1
                  rw [hu1]
                  cases hu2
                  rfl)
              simpa using this
            rw [hlen, run_bytesToString w ad xs.length c xs hl, foldl_push_bytes]
            simp [strOfNums, ByteArray.empty, ByteArray.emptyWithCapacity]
            rfl
        exact put_data s1 hd hdst (x := .one (.str (strOfNums xs))) (.str _) (by simp [execOp, ho, hv, hrun]) (set_run hq4) (hK.of e1)
      · cases hq3
    · cases hq3
  · cases hq3
theorem op_nil {op : BinOp} {t u : TypeId} {x y : Operand} (ho : o.op = .binOp op t x y u) (hC : C.Ok P) (h : Sim C E a w ι β M) (hd : d < C.nt) (hdst : o.dst = some d) (ht : ((C.tt t).k.isSl && isNilC y) = true)
    (hq : (nilQ d op x).run E = some ((), E1)) (hK : Then C E1 M w ι K) : o.wp P a w K Qx := by
  rw [Bool.and_eq_true] at ht
  obtain ⟨hk, hy⟩ := ht
  have hy' : y = .const (.slice none 0 0) := by
    unfold isNilC at hy
    split at hy
    · rfl
    · cases hy
  subst hy'
  have hu : ∃ e, P.underlying t = some (.slice e) := by
    cases hkk : (C.tt t).k with
    | sl e esz eb ez => exact ⟨e, (sl_some (tk_of (hC.tt t) hkk (by simp))).1⟩
    | _ => rw [hkk] at hk; cases hk
  obtain ⟨e, hu⟩ := hu
  unfold nilQ at hq
  obtain ⟨r, E2, h0, hq1⟩ := Q.run_bind_some hq
  obtain ⟨hr, rfl⟩ := ofOpt_run h0
  obtain ⟨z, E3, h1, hq2⟩ := Q.run_bind_some hq1
  obtain ⟨β1, M1, s1, e1, r1⟩ := opd_sound h h1
  have run : ∀ (A : Option Addr) (n c : Nat), a.eval x = .slice A n c → (execOp a.eval o).run P w = .ok (.value (.bool (if r then !A.isNone else A.isNone))) w := by
    intro A n c hv
    have hg : ∀ op' p q, eqGuard op' t p q (.slice A n c) (.slice none 0 0) = pure () := by
      intro op' p q
      cases op' <;> rfl
    have hop : op = .eql ∧ r = false ∨ op = .neq ∧ r = true := by
      unfold eqNe at hr
      split at hr
      · injection hr with hr; exact .inl ⟨rfl, hr.symm⟩
      · injection hr with hr; exact .inr ⟨rfl, hr.symm⟩
      · cases hr
    rcases hop with ⟨rfl, rfl⟩ | ⟨rfl, rfl⟩
    · have := Lib.run_eql_slice_nil (P := P) w t e A n c 0 0 hu
      have hn : a.eval (.const (.slice none 0 0)) = .slice none 0 0 := rfl
      simp [execOp, ho, hv, hn, this, hg]
    · have := run_neq_slice_nil_any (P := P) w t e A n c 0 0 hu
      have hn : a.eval (.const (.slice none 0 0)) = .slice none 0 0 := rfl
      simp [execOp, ho, hv, hn, this, hg]
  split at hq2
  · have hrr : Rd w ι M1 (a.eval x) .nils := r1
    have hv : a.eval x = .slice none 0 0 := by generalize a.eval x = u at hrr; cases hrr; rfl
    exact put_data s1 hd hdst (x := .one (.bool !r)) (.bool _) (by rw [run _ _ _ hv]; cases r <;> rfl) (set_run hq2) (hK.of e1)
  · have hrr : Rd w ι M1 (a.eval x) (.sl []) := r1
    rcases hrr.imm with ⟨A, c, h1, _⟩ | ⟨ad, c, sz, _, h2, _⟩
    · exact put_data s1 hd hdst (x := .one .anyb) (.anyb _) (run A 0 c h1) (set_run hq2) (hK.of e1)
    · simp at h2
  · rename_i q qs
    have hrr : Rd w ι M1 (a.eval x) (.sl (q :: qs)) := r1
    rcases hrr.imm with ⟨A, c, _, h2⟩ | ⟨ad, c, sz, h1, _⟩
    · cases h2
    · exact put_data s1 hd hdst (x := .one (.bool r)) (.bool _) (by rw [run _ _ _ h1]; cases r <;> rfl) (set_run hq2) (hK.of e1)
  · rename_i o' sz i n
    have hrr : Rd w ι M1 (a.eval x) (.ref o' sz i n) := r1
    have : ∃ ad c, a.eval x = .slice (some ad) n c := by
      generalize a.eval x = u at hrr
      cases hrr with
      | ref _ _ _ _ c b => exact ⟨_, _, rfl⟩
    obtain ⟨ad, c, h1⟩ := this
    exact put_data s1 hd hdst (x := .one (.bool r)) (.bool _) (by rw [run _ _ _ h1]; cases r <;> rfl) (set_run hq2) (hK.of e1)
  · cases hq2
theorem op_strAt {t : TypeId} {x ix : Operand} (ho : o.op = .index t x ix) (hC : C.Ok P) (h : Sim C E a w ι β M) (hd : d < C.nt) (hdst : o.dst = some d)
    (hq : (strAtQ C d t x ix).run E = some ((), E1)) (hK : Then C E1 M w ι K) : o.wp P a w K Qx := by
  unfold strAtQ at hq
  obtain ⟨y, E2, h1, hq2⟩ := Q.run_bind_some hq
  obtain ⟨β1, M1, s1, e1, r1⟩ := opd_sound h h1
  obtain ⟨z, E3, h2, hq3⟩ := Q.run_bind_some hq2
  obtain ⟨β2, M2, s2, e2, r2⟩ := opd_sound s1 h2
  obtain ⟨n, E4, h3, hq4⟩ := Q.run_bind_some hq3
  obtain ⟨hx, rfl⟩ := ofOpt_run h3
  rw [AD.int_some hx] at r2
  have hn := int_rd r2
  split at hq4
  · rename_i m esz ag cs hk
    have htk := tk_of (hC.tt t) hk (by simp)
    obtain ⟨el, ie, hu, hie, hse⟩ := ar_some htk.1
    split at hq4
    · rename_i h0
      obtain ⟨q, E5, h4, hq5⟩ := Q.run_bind_some hq4
      obtain ⟨hsub, rfl⟩ := ofOpt_run h4
      unfold sub at hsub
      split at hsub
      · rename_i hle
        injection hsub with hsub
        have hra : RdA w ι M1 (a.eval x) (.many cs) := r1
        obtain ⟨vs, hv, hl, hr⟩ := hra
        have hag : (isAgg el).run P w = .ok ag w := by
          have h2 := htk.2
          unfold arAg at h2
          rw [hu] at h2
          simp only at h2
          cases hx : P.underlying el with
          | none => rw [hx] at h2; cases h2
          | some dd =>
            rw [hx] at h2
            cases dd <;> simp only [Option.some.injEq] at h2 <;> subst h2 <;> simp [isAgg, run_underlying hx]
        have hin : (0 ≤ n.2 ∧ n.2 < (m : Int)) := ⟨h0.1, by have := h0.2; omega⟩
        have hlv : vs.size = cs.length := by rw [← Array.length_toList]; exact hl
        have e12 := e2
        have run : ∀ v, (part el vs (n.2.toNat * ie.size)).run P w = .ok v w → (execOp a.eval o).run P w = .ok (.value v) w := fun v hp => by
          simp [execOp, ho, hv, hn, Instr.index, asIntOf, run_underlying hu, hin.1, hin.2, run_sizeOf' hie, hp]
        have hsz := run_sizeOf' (P := P) hie w
        split at hq5
        · refine put_data s2 hd hdst (x := .many q) (v := .agg (vs.extract (n.2.toNat * ie.size) (n.2.toNat * ie.size + ie.size))) ?_ (run _ (by simp [part, Sem.run_bind, hag, hsz, Result.andThen_ok])) (set_run hq5) ((hK.of e1).of e2)
          refine ⟨_, rfl, ?_, fun j v dd hj hdd => ?_⟩
          · rw [← hsub]; simp [hse, hlv]
          · rw [← hsub, List.getElem?_take] at hdd
            split at hdd
            · rename_i hjl
              rw [List.getElem?_drop] at hdd
              simp only [Array.toList_extract, List.extract_eq_take_drop, List.getElem?_take, List.getElem?_drop] at hj
              split at hj
              · rw [hse] at hj
                exact (hr _ v dd hj hdd).mono e2.same e2.back (fun _ _ h => h) e2.shape
              · cases hj
            · cases hdd
        · rename_i xd
          have hx1 : cs[n.2.toNat * esz]? = some xd := by
            have := congrArg (fun l => l[0]?) hsub
            simp only [List.getElem?_take, List.getElem?_drop, List.getElem?_cons_zero] at this
            split at this
            · simpa using this
            · cases this
          have hlt : n.2.toNat * esz < vs.toList.length := by
            have := (List.getElem?_eq_some_iff.1 hx1).1
            rw [hl]; exact this
          have hvx : vs.toList[n.2.toNat * esz]? = some (vs.toList[n.2.toNat * esz]) := List.getElem?_eq_getElem hlt
          refine put_data s2 hd hdst (x := .one xd) (v := vs.toList[n.2.toNat * esz]) ?_ (run _ ?_) (set_run hq5) ((hK.of e1).of e2)
          · exact Rd.mono (hr _ _ _ hvx hx1) e2.same e2.back (fun _ _ h => h) e2.shape
          · have hva : vs[n.2.toNat * ie.size]? = some (vs.toList[n.2.toNat * esz]) := by rw [hse]; simp
            simp [part, Sem.run_bind, hag, Result.andThen_ok, hva]
        · cases hq5
      · cases hsub
    · cases hq4
  · rename_i str hk
    have hu : P.underlying t = some .string := tk_of (hC.tt t) hk (by simp)
    have hv : a.eval x = .string str := by
      have hr : Rd w ι M1 (a.eval x) (.str str) := r1
      generalize a.eval x = u at hr; cases hr; rfl
    split at hq4
    · rename_i h0
      obtain ⟨b, E5, h4, hq5⟩ := Q.run_bind_some hq4
      obtain ⟨hb, rfl⟩ := ofOpt_run h4
      have hb' : str[n.2.toNat]? = some b := by
        have hlt : n.2.toNat < str.data.toList.length := (List.getElem?_eq_some_iff.1 hb).1
        have hlt' : n.2.toNat < str.size := by simpa using hlt
        rw [getElem?_pos str n.2.toNat hlt']
        have := (List.getElem?_eq_some_iff.1 hb).2
        rw [← this]
        rfl
      refine put_data s2 hd hdst (x := .one (.int .u8 b.toNat)) (v := .int .u8 b.toNat) (.int _ _) ?_ (set_run hq5) ((hK.of e1).of e2)
      simp [execOp, ho, hv, hn, Instr.index, asIntOf, run_underlying hu, h0, hb']
    · cases hq4
  · cases hq4
theorem op_lookup {t : TypeId} {x ix : Operand} {ok : Bool} (ho : o.op = .lookup t x ix ok) (hC : C.Ok P) (h : Sim C E a w ι β M) (hd : d < C.nt) (hdst : o.dst = some d)
    (hq : (lookupQ C d t x ix ok).run E = some ((), E1)) (hK : Then C E1 M w ι K) : o.wp P a w K Qx := by
  unfold lookupQ at hq
  obtain ⟨m, E2, h1, hq2⟩ := Q.run_bind_some hq
  obtain ⟨β1, M1, s1, e1, r1⟩ := opd_sound h h1
  obtain ⟨k, E3, h2, hq3⟩ := Q.run_bind_some hq2
  obtain ⟨β2, M2, s2, e2, r2⟩ := opd_sound s1 h2
  have r1' := r1.mono e2 (fun _ _ h => h)
  split at hq3
  · rename_i kk vz ob k hk
    obtain ⟨kt, vt, i, kd, hu, hi, hz, hkt, hkd, hvz⟩ := mp_some (tk_of (hC.tt t) hk (by simp))
    split at hq3
    · rename_i hko
      obtain ⟨r, E4, h3, hq4⟩ := Q.run_bind_some hq3
      obtain ⟨rfl, hG, y, k1, k2, k3, b, k4, es, clock, k5⟩ := mapRows_sound s2 h3
      obtain ⟨f, E5, h4, hq5⟩ := Q.run_bind_some hq4
      obtain ⟨hf, rfl⟩ := ofOpt_run h4
      have hv := mp_rd (show Rd w ι M2 (a.eval x) (.mp ob) from r1') k4
      have hkr : Rd w ι M2 (a.eval ix) k := r2
      have hck := MapKept.run_checkKey (P := P) (w := w) hkt (key_is hkd hko hkr) es.isEmpty 9999
      have hfs := mapFind_sound2 hkd hkr hko k5 hf
      have hzv := run_zeroValue' hi hz w
      rcases hfs with ⟨rfl, hn, _⟩ | ⟨i', j, e, v, k', rs, rfl, hn, _, hvr, _⟩
      · have hfk := MapKept.run_findKey (P := P) (w := w) hkt hn
        cases ok with
        | true =>
          have hrr : (execOp a.eval o).run P w = .ok (.value (.tuple #[vz.zv, .bool false])) w := by
            simp [execOp, ho, Instr.lookup, run_underlying hu, hv, MapKept.run_getObj_map k5.at_, hck, hfk, hzv]
          refine wp_value hrr ?_
          rw [hdst]
          simp only [setRV, if_true] at hq5
          have := set_run hq5
          subst this
          refine (hK.of e1).of e2 _ _ _ _ _ (s2.put (av := .tup [.one vz, .one (.bool false)]) hd rfl ?_) (Evo.refl _ _) (fun _ _ h => h)
          simp only [Holds]
          rw [s2.val_put hd]
          refine ⟨_, rfl, rfl, fun j v x hv hx => ?_⟩
          match j with
          | 0 => simp at hv hx; subst hv; subst hx; exact zv_rd hvz _ _ _
          | 1 => simp at hv hx; subst hv; subst hx; exact .bool _
          | j + 2 => simp at hv
        | false =>
          have hrr : (execOp a.eval o).run P w = .ok (.value vz.zv) w := by
            simp [execOp, ho, Instr.lookup, run_underlying hu, hv, MapKept.run_getObj_map k5.at_, hck, hfk, hzv]
          exact put_data s2 hd hdst (x := .one vz) (zv_rd hvz _ _ _) hrr (set_run hq5) ((hK.of e1).of e2)
      · have hfk := MapKept.run_findKey (P := P) (w := w) hkt hn
        cases ok with
        | true =>
          have hrr : (execOp a.eval o).run P w = .ok (.value (.tuple #[e.val, .bool true])) w := by
            simp [execOp, ho, Instr.lookup, run_underlying hu, hv, MapKept.run_getObj_map k5.at_, hck, hfk]
          refine wp_value hrr ?_
          rw [hdst]
          simp only [setRV, if_true] at hq5
          have := set_run hq5
          subst this
          refine (hK.of e1).of e2 _ _ _ _ _ (s2.put (av := .tup [.one v, .one (.bool true)]) hd rfl ?_) (Evo.refl _ _) (fun _ _ h => h)
          simp only [Holds]
          rw [s2.val_put hd]
          refine ⟨_, rfl, rfl, fun j v x hv hx => ?_⟩
          match j with
          | 0 => simp at hv hx; subst hv; subst hx; exact hvr
          | 1 => simp at hv hx; subst hv; subst hx; exact .bool _
          | j + 2 => simp at hv
        | false =>
          have hrr : (execOp a.eval o).run P w = .ok (.value e.val) w := by
            simp [execOp, ho, Instr.lookup, run_underlying hu, hv, MapKept.run_getObj_map k5.at_, hck, hfk]
          exact put_data s2 hd hdst (x := .one v) hvr hrr (set_run hq5) ((hK.of e1).of e2)
    · cases hq3
  · cases hq3
theorem setObj_evo {X : Nat → Prop} {b : Nat} {es es' : Array MapEntry} {clock clock' : Nat} (hat : w.heap[b]? = some (.map es clock)) (hb : M b) (hx : ¬ X b) : Evo X M w M { w with heap := w.heap.setIfInBounds b (.map es' clock') } := by
  have hne := (MapKept.heap_set (o' := .map es' clock') hat).2
  refine ⟨rfl, rfl, rfl, by simp, fun k _ hk => hne k (fun e => hk (e ▸ hb)), fun _ _ h => h, fun k _ hk => hne k (fun e => hx (e ▸ hk)), fun k cs T hk => ⟨cs, (hne k ?_).trans hk, rfl⟩⟩
  rintro rfl
  rw [hat] at hk; cases hk
theorem op_mapUpdate {t : TypeId} {x ix y : Operand} (ho : o.op = .mapUpdate t x ix y ∨ o.op = .insert t x ix y) (hC : C.Ok P) (h : Sim C E a w ι β M) (hdst : o.dst = none)
    (hq : (updateQ C t x ix y).run E = some ((), E1)) (hK : Then C E1 M w ι K) : o.wp P a w K Qx := by
  unfold updateQ at hq
  obtain ⟨m, E2, h1, hq2⟩ := Q.run_bind_some hq
  obtain ⟨β1, M1, s1, e1, r1⟩ := opd_sound h h1
  obtain ⟨k, E3, h2, hq3⟩ := Q.run_bind_some hq2
  obtain ⟨β2, M2, s2, e2, r2⟩ := opd_sound s1 h2
  obtain ⟨v, E3', h2', hq3'⟩ := Q.run_bind_some hq3
  obtain ⟨β3, M3, s3, e3, r3⟩ := opd_sound s2 h2'
  have r1' := r1.mono (e2.trans e3) (fun _ _ h => h)
  have r2' := r2.mono e3 (fun _ _ h => h)
  split at hq3'
  · rename_i kk vz ob k v hk
    obtain ⟨kt, vt, i, kd, hu, hi, hz, hkt, hkd, hvz⟩ := mp_some (tk_of (hC.tt t) hk (by simp))
    split at hq3'
    · rename_i hko
      obtain ⟨r, E4, h3, hq4⟩ := Q.run_bind_some hq3'
      obtain ⟨rfl, hG, y', k1, k2, k3, b, k4, es, clock, k5⟩ := mapRows_sound s3 h3
      obtain ⟨f, E5, h4, hq5⟩ := Q.run_bind_some hq4
      obtain ⟨hf, rfl⟩ := ofOpt_run h4
      have hv := mp_rd (show Rd w ι M3 (a.eval x) (.mp ob) from r1') k4
      have hkr : Rd w ι M3 (a.eval ix) k := r2'
      have hvr : Rd w ι M3 (a.eval y) v := r3
      have hck := MapKept.run_checkKey (P := P) (w := w) hkt (key_is hkd hko hkr) false 9999
      have hfs := mapFind_sound2 hkd hkr hko k5 hf
      simp only [Q.run, Option.some.injEq, Prod.mk.injEq, true_and] at hq5
      have hlo : live E5 ob = some y' := by simp [live, hG, k1]
      have hMb := s3.ctlO ob y' b hlo k4
      have hXb := s3.xO ob y' b hlo k4
      have fin : ∀ (es' : Array MapEntry) (clock' : Nat) (rows' rs' : List (List D)), rs'.Perm rows' → (execOp a.eval o).run P w = .ok .skip { w with heap := w.heap.setIfInBounds b (.map es' clock') } → es'.size = rs'.length →
          (∀ (i : Nat) e r, es'[i]? = some e → rs'[i]? = some r → ∃ k v, r = [k, v] ∧ Rd w ι M3 e.key k ∧ Rd w ι M3 e.val v) → MapKept.Stamped es' clock' → (∀ x ∈ es'.toList, ∀ y ∈ es'.toList, sameShape x.key y.key = true) → E1 = upd E5 gs (.heap (updO r.1 ob (some ⟨none, 0, rows'⟩)) r.2.1) → o.wp P a w K Qx := by
        intro es' clock' rows' rs' hpm hrun hl hrd hst hshp hE
        have hev : Evo C.X M3 w M3 { w with heap := w.heap.setIfInBounds b (.map es' clock') } := setObj_evo k5.at_ hMb hXb
        have s4 := s3.storedO hG k1 k4 hev (fun k hk => (MapKept.heap_set (o' := .map es' clock') k5.at_).2 k hk) (ob := ⟨none, 0, rows'⟩) (.inl ⟨rfl, .inl ⟨notLoop_all (fun r hr => by
          obtain ⟨m, hm, rfl⟩ := List.getElem_of_mem (hpm.mem_iff.2 hr)
          obtain ⟨k, v, q1, _⟩ := hrd m (es'[m]'(by omega)) _ (Array.getElem?_eq_getElem (by omega)) (List.getElem?_eq_getElem hm)
          exact ⟨k, v, q1⟩), es', clock', (MapKept.heap_set (o' := .map es' clock') k5.at_).1, ⟨rs', hpm, hl, fun i e r h1 h2 => by
          obtain ⟨k, v, q1, q2, q3⟩ := hrd i e r h1 h2
          exact ⟨k, v, q1, q2.mono hev.same hev.back (fun _ _ h => h) hev.shape, q3.mono hev.same hev.back (fun _ _ h => h) hev.shape⟩⟩, hst, hshp⟩⟩)
        subst hE
        unfold Oper.wp
        rw [hrun]
        show K (a.put o.dst undef) _
        rw [hdst]
        exact ((hK.of e1).of e2).of e3 _ _ _ _ _ s4 hev (fun _ _ h => h)
      rcases hfs with ⟨rfl, hn, hne, hsh⟩ | ⟨i', j, e, v', k', rs, rfl, hn, hje', _, hkr', hke, hpm, hl, hrd, hj, hi'⟩
      · have hfk := MapKept.run_findKey (P := P) (w := w) hkt hn
        obtain ⟨rs, hpm, hl, hrd⟩ := k5.al
        refine fin (es.push { key := a.eval ix, val := a.eval y, born := clock }) (clock + 1) (r.2.2 ++ [[k, v]]) (rs ++ [[k, v]]) (hpm.append_right _) ?_ (by simp [hl]) ?_ (MapKept.stamped_push k5.st hne) ?_ hq5.symm
        · rcases ho with ho | ho <;> simp [execOp, ho, Instr.mapUpdate, run_underlying hu, hv, MapKept.run_getObj_map k5.at_, hck, hfk, MapKept.run_setObj_map _ k5.at_]
        · intro i e r' h1 h2
          rw [Array.getElem?_push] at h1
          split at h1
          · rename_i hi'
            simp only [Option.some.injEq] at h1
            subst h1
            rw [hi', hl, List.getElem?_append_right (Nat.le_refl _)] at h2
            simp at h2
            exact ⟨k, v, h2.symm, hkr, hvr⟩
          · rw [List.getElem?_append_left (by
              have := (Array.getElem?_eq_some_iff.1 h1).1
              rw [← hl]; exact this)] at h2
            exact hrd i e r' h1 h2
        · intro x hx y hy
          rw [Array.toList_push] at hx hy
          rcases List.mem_append.1 hx with hx | hx <;> rcases List.mem_append.1 hy with hy | hy
          · exact k5.shp x hx y hy
          · rw [List.mem_singleton.1 hy]; exact hsh x hx
          · rw [List.mem_singleton.1 hx]; exact shape_symm (hsh y hy)
          · rw [List.mem_singleton.1 hx, List.mem_singleton.1 hy]; exact shape_self hkr hko
      · have hfk := MapKept.run_findKey (P := P) (w := w) hkt hn
        have hsb := key_eq hkr hkr' hke
        have hks : ∀ e', es[j]? = some e' → ({ e' with key := a.eval ix, val := a.eval y } : MapEntry).key = e'.key := fun e' he' => by rw [hje'] at he'; injection he' with he'; subst he'; exact key_same hkr hkr' hke
        refine fin (es.modify j fun e => { e with key := a.eval ix, val := a.eval y }) clock (r.2.2.set i' [k, v]) (rs.set j [k, v]) (perm_set hpm hj hi') ?_ (by simp [hl]) ?_ (MapKept.stamped_modify k5.st _ _ (fun _ _ => rfl) (fun e' _ he' => hks e' he')) ?_ hq5.symm
        · rcases ho with ho | ho <;> simp [execOp, ho, Instr.mapUpdate, run_underlying hu, hv, MapKept.run_getObj_map k5.at_, hck, hfk, Instr.keyThatStays, hje', hsb, MapKept.run_setObj_map _ k5.at_]
        · intro i e' r' h1 h2
          rw [Array.getElem?_modify] at h1
          by_cases hij : j = i
          · subst hij
            rw [if_pos rfl, hje'] at h1
            simp only [Option.map_some, Option.some.injEq] at h1
            subst h1
            have : j < rs.length := by rw [← hl]; exact (Array.getElem?_eq_some_iff.1 hje').1
            rw [List.getElem?_set_self this] at h2
            simp only [Option.some.injEq] at h2
            exact ⟨k, v, h2.symm, hkr, hvr⟩
          · rw [if_neg hij] at h1
            rw [List.getElem?_set_ne hij] at h2
            exact hrd i e' r' h1 h2
        · intro x hx y hy
          obtain ⟨x', hx', ex⟩ := modify_keys hks x hx
          obtain ⟨y', hy', ey⟩ := modify_keys hks y hy
          rw [ex, ey]
          exact k5.shp x' hx' y' hy'
    · cases hq3'
  · cases hq3'
theorem op_delete {c : Call} {t u : TypeId} {x ix : Operand} (ho : o.op = .call c) (hc : c.callee = .builtin .delete) (ha : c.args = #[x, ix]) (hat : c.argTypes = #[t, u]) (hC : C.Ok P) (h : Sim C E a w ι β M) (hdst : o.dst = none)
    (hq : (deleteQ C t x ix).run E = some ((), E1)) (hK : Then C E1 M w ι K) : o.wp P a w K Qx := by
  have hrun := run_call_builtin (a := a) ho hc
  rw [ha, hat] at hrun
  unfold deleteQ at hq
  obtain ⟨m, E2, h1, hq2⟩ := Q.run_bind_some hq
  obtain ⟨β1, M1, s1, e1, r1⟩ := opd_sound h h1
  obtain ⟨k, E3, h2, hq3⟩ := Q.run_bind_some hq2
  obtain ⟨β2, M2, s2, e2, r2⟩ := opd_sound s1 h2
  have r1' := r1.mono e2 (fun _ _ h => h)
  split at hq3
  · rename_i kk vz ob k hk
    obtain ⟨kt, vt, i, kd, hu, hi, hz, hkt, hkd, hvz⟩ := mp_some (tk_of (hC.tt t) hk (by simp))
    split at hq3
    · rename_i hko
      obtain ⟨r, E4, h3, hq4⟩ := Q.run_bind_some hq3
      obtain ⟨rfl, hG, y', k1, k2, k3, b, k4, es, clock, k5⟩ := mapRows_sound s2 h3
      obtain ⟨f, E5, h4, hq5⟩ := Q.run_bind_some hq4
      obtain ⟨hf, rfl⟩ := ofOpt_run h4
      have hv := mp_rd (show Rd w ι M2 (a.eval x) (.mp ob) from r1') k4
      have hkr : Rd w ι M2 (a.eval ix) k := r2
      have hck := MapKept.run_checkKey (P := P) (w := w) hkt (key_is hkd hko hkr) es.isEmpty 9999
      have hfs := mapFind_sound2 hkd hkr hko k5 hf
      simp only [Q.run, Option.some.injEq, Prod.mk.injEq, true_and] at hq5
      have hlo : live E5 ob = some y' := by simp [live, hG, k1]
      have hMb := s2.ctlO ob y' b hlo k4
      have hXb := s2.xO ob y' b hlo k4
      have fin : ∀ (es' : Array MapEntry) (clock' : Nat) (rows' rs' : List (List D)), rs'.Perm rows' → (Builtin.delete_ #[t, u] o.type #[a.eval x, a.eval ix]).run P w = .ok (.tuple #[]) { w with heap := w.heap.setIfInBounds b (.map es' clock') } → es'.size = rs'.length →
          (∀ (i : Nat) e r, es'[i]? = some e → rs'[i]? = some r → ∃ k v, r = [k, v] ∧ Rd w ι M2 e.key k ∧ Rd w ι M2 e.val v) → MapKept.Stamped es' clock' → (∀ x ∈ es'.toList, ∀ y ∈ es'.toList, sameShape x.key y.key = true) → E1 = upd E5 gs (.heap (updO r.1 ob (some ⟨none, 0, rows'⟩)) r.2.1) → o.wp P a w K Qx := by
        intro es' clock' rows' rs' hpm hrn hl hrd hst hshp hE
        have hr : (execOp a.eval o).run P w = .ok (.value (.tuple #[])) { w with heap := w.heap.setIfInBounds b (.map es' clock') } := by
          rw [hrun]; simp [builtin, hrn]
        have hev : Evo C.X M2 w M2 { w with heap := w.heap.setIfInBounds b (.map es' clock') } := setObj_evo k5.at_ hMb hXb
        have s4 := s2.storedO hG k1 k4 hev (fun k hk => (MapKept.heap_set (o' := .map es' clock') k5.at_).2 k hk) (ob := ⟨none, 0, rows'⟩) (.inl ⟨rfl, .inl ⟨notLoop_all (fun r hr => by
          obtain ⟨m, hm, rfl⟩ := List.getElem_of_mem (hpm.mem_iff.2 hr)
          obtain ⟨k, v, q1, _⟩ := hrd m (es'[m]'(by omega)) _ (Array.getElem?_eq_getElem (by omega)) (List.getElem?_eq_getElem hm)
          exact ⟨k, v, q1⟩), es', clock', (MapKept.heap_set (o' := .map es' clock') k5.at_).1, ⟨rs', hpm, hl, fun i e r h1 h2 => by
          obtain ⟨k, v, q1, q2, q3⟩ := hrd i e r h1 h2
          exact ⟨k, v, q1, q2.mono hev.same hev.back (fun _ _ h => h) hev.shape, q3.mono hev.same hev.back (fun _ _ h => h) hev.shape⟩⟩, hst, hshp⟩⟩)
        subst hE
        refine wp_value hr ?_
        rw [hdst]
        exact (hK.of e1).of e2 _ _ _ _ _ s4 hev (fun _ _ h => h)
      rcases hfs with ⟨rfl, hn, _⟩ | ⟨i', j, e, v', k', rs, rfl, hn, hje', _, hkr', hke, hpm, hl, hrd, hj, hi'⟩
      · have hfk := MapKept.run_findKey (P := P) (w := w) hkt hn
        obtain ⟨rs, hpm, hl, hrd⟩ := k5.al
        refine fin es clock r.2.2 rs hpm ?_ hl hrd k5.st k5.shp hq5.symm
        simp [Builtin.delete_, run_underlying hu, hv, MapKept.run_getObj_map k5.at_, hck, hfk, MapKept.run_setObj_map _ k5.at_]
      · have hfk := MapKept.run_findKey (P := P) (w := w) hkt hn
        have hjl : j < es.size := (Array.getElem?_eq_some_iff.1 hje').1
        have htl : (es.eraseIdxIfInBounds j).toList = es.toList.eraseIdx j := by simp [Array.eraseIdxIfInBounds, hjl]
        refine fin (es.eraseIdxIfInBounds j) clock (r.2.2.eraseIdx i') (rs.eraseIdx j) (perm_erase hpm hj hi') ?_ ?_ ?_ (MapKept.stamped_erase k5.st _) ?_ hq5.symm
        · simp [Builtin.delete_, run_underlying hu, hv, MapKept.run_getObj_map k5.at_, hck, hfk, MapKept.run_setObj_map _ k5.at_]
        · have hjl2 : j < rs.length := by rw [← hl]; exact hjl
          simp [Array.eraseIdxIfInBounds, hjl, hl, List.length_eraseIdx, hjl2]
        · intro i e' r' h1 h2
          have h1' : (es.toList.eraseIdx j)[i]? = some e' := by
            rw [← htl, Array.getElem?_toList]; exact h1
          rw [List.getElem?_eraseIdx] at h1' h2
          split at h1'
          · rename_i hlt
            rw [if_pos hlt] at h2
            exact hrd i e' r' (by simpa using h1') h2
          · rename_i hlt
            rw [if_neg hlt] at h2
            exact hrd (i + 1) e' r' (by simpa using h1') h2
        · intro x hx y hy
          rw [htl] at hx hy
          exact k5.shp x (List.mem_of_mem_eraseIdx hx) y (List.mem_of_mem_eraseIdx hy)
    · cases hq3
  · cases hq3
theorem op_makeMap {t : TypeId} {r : Option Operand} (ho : o.op = .makeMap t r) (hr : r.isNone = true) (h : Sim C E a w ι β M) (hd : d < C.nt) (hdst : o.dst = some d)
    (hq : (.ask gs fun
        | .heap H nx => .set gs (.heap (updO H nx (some ⟨none, 0, []⟩)) (nx + 1)) (.set d (.v (.one (.mp nx))) (.ret ()))
        | _ => .fail : Q Unit).run E = some ((), E1)) (hK : Then C E1 M w ι K) : o.wp P a w K Qx := by
  have hr' := isNone_eq hr
  subst hr'
  simp only [Q.run] at hq
  cases hG : E gs with
  | heap H nx =>
    rw [hG] at hq
    simp only [Q.run, Option.some.injEq, Prod.mk.injEq, true_and] at hq
    have hrun : (execOp a.eval o).run P w = .ok (.value (.map (some w.heap.size))) (w.alloc (.map #[] 0)) := by simp [execOp, ho, Instr.makeMap]
    refine wp_value hrun ?_
    rw [hdst]
    let M' : Nat → Prop := fun b => M b ∨ b = w.heap.size
    have hsame : ∀ b, b < w.heap.size → (w.alloc (.map #[] 0)).heap[b]? = w.heap[b]? := fun b hb => Go.RowKit.Below.heap_alloc w _ b hb
    have hev : Evo C.X M w M' (w.alloc (.map #[] 0)) := ⟨rfl, rfl, rfl, by simp, fun b hb _ => hsame b hb, fun b hb hm => by
      rcases hm with hm | hm
      · exact hm
      · omega, fun b hb _ => hsame b hb, .of hsame⟩
    have hs : Sim C E a (w.alloc (.map #[] 0)) ι β M' := h.world hev (fun b hb => .inl hb) (fun b hb => by
        rcases hb with hb | hb
        · have := h.lt b hb; simp; omega
        · simp; omega) (fun s b hs => hsame b (h.lt b (h.ctlB s b hs))) (fun o x b hl hi => hsame b (h.lt b (h.ctlO o x b hl hi)))
    have hat : (w.alloc (.map #[] 0)).heap[w.heap.size]? = some (.map #[] 0) := heap_alloc_new w _
    have s2 := hs.newObj (b := w.heap.size) (ob := ⟨none, 0, []⟩) hG (.inl ⟨rfl, .inl ⟨rfl, #[], 0, hat, ⟨[], .refl _, rfl, fun i e r h => by simp at h⟩, MapKept.stamped_empty 0, fun x hx => by simp at hx⟩⟩) (.inr rfl)
      (fun hx => by have := h.xlt _ hx; omega) (fun s hs' => by have := h.lt _ (h.ctlB s _ hs'); omega) (fun o x hl hi => by have := h.lt _ (h.ctlO o x _ hl hi); omega)
    have s3 := s2.put_v hd (v := .map (some w.heap.size)) (x := .one (.mp nx)) (.mp nx _ (by simp [setI]))
    subst hq
    exact hK _ _ _ _ _ s3 hev (setI_mono (b := w.heap.size) hs hG)
  | _ => rw [hG] at hq; cases hq
theorem args_eq {l : Array Operand} {m : List Operand} (h : l.toList = m) : l = m.toArray := by rw [← h]
theorem op_sound1 {i : Nat} (hC : C.Ok P) (hq : (semOp1 C i o).run E = some ((), E1)) (h : Sim C E a w ι β M) (hg : Gens E U) (hU : ¬ U (i + 1)) (hK : Then C E1 M w ι K) : o.wp P a w K Qx := by
  have h0 : (semOp0 C i o).run E = some ((), E1) → o.wp P a w K Qx := fun hq => op_sound0 hC hq h hg hU hK
  unfold semOp1 at hq
  split at hq
  · rename_i ho
    split at hq
    · rename_i ht
      obtain ⟨d, hdst, hd, hq⟩ := dstQ_some hq
      exact op_bytes ho hC h hd hdst ht hq hK
    · split at hq
      · rename_i ht
        obtain ⟨d, hdst, hd, hq⟩ := dstQ_some hq
        exact op_str ho hC h hd hdst ht hq hK
      · exact h0 hq
  · rename_i ho
    obtain ⟨d, hdst, hd, hq⟩ := dstQ_some hq
    exact op_strAt ho hC h hd hdst hq hK
  · rename_i ho
    split at hq
    · rename_i ht
      obtain ⟨d, hdst, hd, hq⟩ := dstQ_some hq
      obtain ⟨k, hk⟩ := Option.isSome_iff_exists.1 ht
      exact op_eqz ho hC hk h hd hdst hq hK
    split at hq
    · rename_i ht
      obtain ⟨d, hdst, hd, hq⟩ := dstQ_some hq
      exact op_eq ho hC ht h hd hdst hq hK
    · split at hq
      · rename_i ht2
        obtain ⟨d, hdst, hd, hq⟩ := dstQ_some hq
        exact op_nil ho hC h hd hdst ht2 hq hK
      · exact h0 hq
  · rename_i c ho
    split at hq
    · rename_i hc
      obtain ⟨d, hdst, hd, hq⟩ := dstQ_some hq
      split at hq
      · rename_i x y t t' hx ht
        split at hq
        · rename_i htt
          subst htt
          obtain ⟨ha, hat⟩ := args2 hx ht
          exact op_copy ho hc ha hat hC h hd hdst hq hK
        · cases hq
      · cases hq
    · rename_i hc
      obtain ⟨d, hdst, hd, hq⟩ := dstQ_some hq
      split at hq
      · rename_i x t hx ht
        split at hq
        · rename_i hk
          obtain ⟨ha, hat⟩ := args1 hx ht
          exact op_mapLen ho hc ha hat hk hC h hd hdst hq hK
        · exact h0 hq
      · cases hq
    · rename_i hc
      obtain ⟨d, hdst, hd, hq⟩ := dstQ_some hq
      split at hq
      · rename_i x t hx ht
        obtain ⟨ha, hat⟩ := args1 hx ht
        split at hq
        · rename_i hk
          exact op_cap ho hc ha hat hk hC h hd hdst hq hK
        · cases hq
      · cases hq
    · rename_i hc
      split at hq
      · rename_i hn
        split at hq
        · rename_i x t hx ht
          obtain ⟨ha, hat⟩ := args1 hx ht
          split at hq
          · rename_i hk
            exact op_clear ho hc ha hat hk hC h (isNone_eq hn) hq hK
          · cases hq
        · cases hq
      · cases hq
    · rename_i hc
      split at hq
      · rename_i hn
        split at hq
        · rename_i x y t t' hx ht
          obtain ⟨ha, hat⟩ := args2 hx ht
          exact op_delete ho hc ha hat hC h (isNone_eq hn) hq hK
        · cases hq
      · cases hq
    · rename_i hc
      obtain ⟨d, hdst, hd, hq⟩ := dstQ_some hq
      split at hq
      · rename_i x y t t' hx ht
        simp only [Q.run] at hq
        split at hq
        · split at hq
          · rename_i htt
            subst htt
            obtain ⟨ha, hat⟩ := args2 hx ht
            exact op_appendRef ho hc ha hat hC h hd hdst hq hK
          · cases hq
        · rename_i hx0
          split at hq
          · rename_i htt
            subst htt
            obtain ⟨ha, hat⟩ := args2 hx ht
            exact op_appendNil ho hc ha hat hx0 hC h hd hdst hg hU hq hK
          · cases hq
        · rename_i ob sz ix n c hx0
          obtain ⟨ha, hat⟩ := args2 hx ht
          split at hq
          · rename_i htt
            subst htt
            split at hq
            · rename_i hix
              obtain ⟨_, E2, hq1, hq2⟩ := Q.run_bind_some hq
              exact op_appendRef ho hc ha hat hC (trim_sound h hix.1 hix.2 hx0 hq1) hd hdst hq2 hK
            · cases hq
          · split at hq
            · rename_i hk
              exact op_appendZ ho hc ha hat hk hC h hd hdst hx0 hq hK
            · cases hq
        · exact h0 hq
      · exact h0 hq
    · rename_i hc
      obtain ⟨d, hdst, hd, hq⟩ := dstQ_some hq
      exact op_callV ho hc hC h hd hdst hq hK
    · exact h0 hq
  · rename_i f fs caps ho
    obtain ⟨d, hdst, hd, hq⟩ := dstQ_some hq
    split at hq
    · rename_i hfs
      exact op_makeFunc ho hfs h hd hdst hq hK
    · cases hq
  · rename_i t r ho
    split at hq
    · rename_i hr
      obtain ⟨d, hdst, hd, hq⟩ := dstQ_some hq
      split at hq
      · exact op_makeMap ho hr h hd hdst hq hK
      · cases hq
    · cases hq
  · rename_i ho
    obtain ⟨d, hdst, hd, hq⟩ := dstQ_some hq
    exact op_lookup ho hC h hd hdst hq hK
  · rename_i ho
    split at hq
    · rename_i hn
      exact op_mapUpdate (.inl ho) hC h (isNone_eq hn) hq hK
    · cases hq
  · rename_i ho
    split at hq
    · rename_i hn
      exact op_mapUpdate (.inr ho) hC h (isNone_eq hn) hq hK
    · cases hq
  · exact h0 hq
theorem uni_sound (h : Sim C E a w ι β M) (hd : d < C.nt) (hq : (uniQ d).run E = some ((), E1)) : ∃ β', Sim C E1 a w ι β' M := by
  unfold uniQ at hq
  simp only [Q.run] at hq
  split at hq
  · rename_i g e sz hE
    have := set_run hq
    subst this
    refine ⟨_, h.put' (a' := a) (av := .v (.one (.sl []))) (h.ne_gs hd) h.size h.defs (fun _ _ => rfl) rfl ?_⟩
    have hh := h.hold d
    rw [hE] at hh
    obtain ⟨_, hh⟩ := hh
    show Rd w ι M (valOf a d) (.sl [])
    rcases hh with ⟨h1, _, _⟩ | ⟨b, cs, cap, _, h2, _⟩
    · rw [h1]; exact Rd.nil _ _
    · rw [h2]; exact Rd.nil _ _
  · obtain ⟨_, rfl⟩ := ret_run hq
    exact ⟨_, h⟩
theorem op_sound {i : Nat} (hC : C.Ok P) (hq : (semOp C i o).run E = some ((), E1)) (h : Sim C E a w ι β M) (hg : Gens E U) (hU : ¬ U (i + 1)) (hK : Then C E1 M w ι K) : o.wp P a w K Qx := by
  unfold semOp at hq
  obtain ⟨_, E0, h0, hq⟩ := Q.run_bind_some hq
  have hpre : ∃ ι0 β0, (∀ o b, ι o = some b → ι0 o = some b) ∧ Sim C E0 a w ι0 β0 M := by
    unfold preQ at h0
    split at h0
    · split at h0
      · rename_i hp
        exact pub_sound h hp.2 h0
      · obtain ⟨_, rfl⟩ := ret_run h0
        exact ⟨ι, β, fun _ _ h => h, h⟩
    · obtain ⟨_, rfl⟩ := ret_run h0
      exact ⟨ι, β, fun _ _ h => h, h⟩
  obtain ⟨ι0, β0, hi0, s0⟩ := hpre
  have hg0 : Gens E0 U := ((preQ_gen C o.op).run hg h0).1
  obtain ⟨_, E2, h1, hq2⟩ := Q.run_bind_some hq
  refine op_sound1 hC h1 s0 hg0 hU ?_
  split at hq2
  · rename_i d hdst
    split at hq2
    · rename_i hp
      intro a' w' ι' β' M' s ev i'
      have hd : d < C.nt := hp.2
      obtain ⟨_, E3, hq3, hq4⟩ := Q.run_bind_some hq2
      obtain ⟨ι2, β2, hi2, s2⟩ := pub_sound s hd hq3
      have hu : ∃ β3, Sim C E1 a' w' ι2 β3 M' := by
        split at hq4
        · exact uni_sound s2 hd hq4
        · obtain ⟨_, rfl⟩ := ret_run hq4
          exact ⟨_, s2⟩
      obtain ⟨β3, s3⟩ := hu
      exact hK a' w' ι2 β3 M' s3 ev (fun o b h => hi2 o b (i' o b (hi0 o b h)))
    · obtain ⟨_, rfl⟩ := ret_run hq2
      exact fun a' w' ι' β' M' s ev i' => hK a' w' ι' β' M' s ev (fun o b h => i' o b (hi0 o b h))
  · obtain ⟨_, rfl⟩ := ret_run hq2
    exact fun a' w' ι' β' M' s ev i' => hK a' w' ι' β' M' s ev (fun o b h => i' o b (hi0 o b h))
end
end Go.Proofs.YtmhinddneefmbaaGreat.Pe
