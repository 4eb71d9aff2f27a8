/- A part of the proof of JdH. -/
import Derived.Test.YtmhinddneefmbaaGreatKf29
import Derived.Test.YtmhinddneefmbaaGreatKf31
import Derived.Test.YtmhinddneefmbaaGreatKf32
set_option linter.unusedSimpArgs false
set_option linter.unusedVariables false
set_option linter.unusedSectionVars false
namespace Go.Proofs.YtmhinddneefmbaaGreat.Pe
open Go
def D.in1 (p : Nat → Bool) : D → Bool
  | .ptr o _ _ _ | .ref o _ _ _ | .refc o _ _ _ _ | .mp o | .yl o => p o
  | d => d.bare
def D.inP (p : Nat → Bool) : D → Bool
  | .sl rows => rows.all fun r => r.all D.bare
  | .clo _ caps => caps.all (D.in1 p)
  | d => d.in1 p
def D.mapP (τ : Nat → Nat) : D → D
  | .clo f caps => .clo f (caps.map (D.mapO τ))
  | d => d.mapO τ
def AD.inP (p : Nat → Bool) : AD → Bool
  | .one d => d.inP p
  | .many l => l.all (D.inP p)
def AD.mapP (τ : Nat → Nat) : AD → AD
  | .one d => .one (d.mapP τ)
  | .many l => .many (l.map (D.mapP τ))
section
variable {w : World} {ι ι' : Nat → Option Nat} {M : Nat → Prop} {b : Nat} {τ : Nat → Nat} {p : Nat → Bool}
theorem Rd.map1 {v : Value} {d : D} (hi : ∀ k, p k = true → ι' (τ k) = ι k) (h : Rd w ι M v d) (hd : d.in1 p = true) : Rd w ι' M v (d.mapO τ) := by
  cases h with
  | ptr o sz i off b h hz => exact .ptr _ _ _ _ b (by rw [hi o hd]; exact h) hz
  | ref o sz i n c b h h1 h2 h3 h4 => exact .ref _ _ _ _ c b (by rw [hi o hd]; exact h) h1 h2 h3 h4
  | refc o sz i n c b h h1 h2 h3 h4 => exact .refc _ _ _ _ _ b (by rw [hi o hd]; exact h) h1 h2 h3 h4
  | mp o b h => exact .mp _ b (by rw [hi o hd]; exact h)
  | yl o b h => exact .yl _ b (by rw [hi o hd]; exact h)
  | int => exact .int _ _
  | bool => exact .bool _
  | str => exact .str _
  | nilp => exact .nilp
  | fn => exact .fn _
  | nilm => exact .nilm
  | nilf => exact .nilf
  | anyb b => exact .anyb b
  | hole v h1 => exact .hole v h1
  | nils => exact .nils
  | nil => cases hd
  | sl => cases hd
  | clo => cases hd
theorem Rd.mapP {v : Value} {d : D} (hi : ∀ k, p k = true → ι' (τ k) = ι k) (h : Rd w ι M v d) (hd : d.inP p = true) : Rd w ι' M v (d.mapP τ) := by
  cases h with
  | nil A c => exact .nil A c
  | sl a n c sz rows f hn h0 hnc hsz hs ha hm hc hr =>
    have hd : (rows.all fun r => r.all D.bare) = true := hd
    exact .sl a n c sz rows f hn h0 hnc hsz hs ha hm hc fun i j r d h1 h2 => (hr i j r d h1 h2).bare (List.all_eq_true.1 (List.all_eq_true.1 hd r (List.mem_of_getElem? h1)) d (List.mem_of_getElem? h2))
  | clo f cs caps hn hr =>
    have hd : caps.all (D.in1 p) = true := hd
    refine .clo f cs (caps.map (D.mapO τ)) (by rw [List.length_map]; exact hn) fun j v d hv hd' => ?_
    rw [List.getElem?_map] at hd'
    cases hj : caps[j]? with
    | none => rw [hj] at hd'; cases hd'
    | some x =>
      rw [hj] at hd'
      injection hd' with hd'
      subst hd'
      exact (hr j v x hv hj).map1 hi (List.all_eq_true.1 hd x (List.mem_of_getElem? hj))
  | ptr o sz i off b h hz => exact (Rd.ptr o sz i off b h hz).map1 hi hd
  | ref o sz i n c b h h1 h2 h3 h4 => exact (Rd.ref o sz i n c b h h1 h2 h3 h4).map1 hi hd
  | refc o sz i n c b h h1 h2 h3 h4 => exact (Rd.refc o sz i n c b h h1 h2 h3 h4).map1 hi hd
  | mp o b h => exact (Rd.mp o b h).map1 hi hd
  | yl o b h => exact (Rd.yl o b h).map1 hi hd
  | int => exact .int _ _
  | bool => exact .bool _
  | str => exact .str _
  | nilp => exact .nilp
  | fn => exact .fn _
  | nilm => exact .nilm
  | nilf => exact .nilf
  | anyb b => exact .anyb b
  | hole v h1 => exact .hole v h1
  | nils => exact .nils
theorem RdL.mapP {vs : List Value} {ds : List D} (hi : ∀ k, p k = true → ι' (τ k) = ι k) (h : RdL w ι M vs ds) (hd : ds.all (D.inP p) = true) : RdL w ι' M vs (ds.map (D.mapP τ)) := by
  refine ⟨by rw [h.1, List.length_map], fun j v d hv hd' => ?_⟩
  rw [List.getElem?_map] at hd'
  cases hj : ds[j]? with
  | none => rw [hj] at hd'; cases hd'
  | some x =>
    rw [hj] at hd'
    injection hd' with hd'
    subst hd'
    exact (h.2 j v x hv hj).mapP hi (List.all_eq_true.1 hd x (List.mem_of_getElem? hj))
theorem RdA.mapP {v : Value} {a : AD} (hi : ∀ k, p k = true → ι' (τ k) = ι k) (h : RdA w ι M v a) (hd : a.inP p = true) : RdA w ι' M v (a.mapP τ) := by
  cases a with
  | one d => exact Rd.mapP hi (show Rd w ι M v d from h) hd
  | many l =>
    obtain ⟨cs, e, hl⟩ := (show ∃ cs, v = .agg cs ∧ RdL w ι M cs.toList l from h)
    exact ⟨cs, e, hl.mapP hi hd⟩
end
def ConvP (p : Nat → Bool) (τ : Nat → Nat) (x Y : PObj) : Prop := ∀ (w : World) (ι ι' : Nat → Option Nat) (M : Nat → Prop) (b : Nat), (∀ k, p k = true → ι' (τ k) = ι k) → ObjAt w ι M b x → ObjAt w ι' M b Y
theorem ConvP.rows {p : Nat → Bool} {τ : Nat → Nat} {e : Option Nat} {sz : Nat} {rows : List (List D)} (h0 : sz ≠ 0) (h : rows.all (fun r => r.all (D.inP p)) = true) : ConvP p τ ⟨e, sz, rows⟩ ⟨e, sz, rows.map fun r => r.map (D.mapP τ)⟩ := by
  intro w ι ι' M b hi ho
  rcases ho with ⟨h1, _⟩ | ⟨T, cs, hT, hb⟩
  · exact absurd h1 h0
  · refine .inr ⟨T, cs, hT, hb.at_, hb.pos, by show (rows.map _).length * sz ≤ _; rw [List.length_map]; exact hb.fit, fun r hr => ?_, fun i j r d hr hd => ?_, hb.one⟩
    · obtain ⟨x, hx, rfl⟩ := List.mem_map.1 hr
      rw [List.length_map]
      exact hb.uni x hx
    · have hr : (rows.map fun r => r.map (D.mapP τ))[i]? = some r := hr
      rw [List.getElem?_map] at hr
      cases hi' : rows[i]? with
      | none => rw [hi'] at hr; cases hr
      | some x =>
        rw [hi'] at hr
        injection hr with hr
        subst hr
        rw [List.getElem?_map] at hd
        cases hj : x[j]? with
        | none => rw [hj] at hd; cases hd
        | some y =>
          rw [hj] at hd
          injection hd with hd
          subst hd
          obtain ⟨v, h1, h2⟩ := hb.rd i j x y hi' hj
          exact ⟨v, h1, h2.mapP hi (List.all_eq_true.1 (List.all_eq_true.1 h x (List.mem_of_getElem? hi')) y (List.mem_of_getElem? hj))⟩
theorem ConvP.bare {p : Nat → Bool} {τ : Nat → Nat} {e : Option Nat} {sz : Nat} {rows : List (List D)} (h0 : sz ≠ 0) (h : rows.all (fun r => r.all D.bare) = true) : ConvP p τ ⟨e, sz, rows⟩ ⟨e, sz, rows⟩ := by
  intro w ι ι' M b hi ho
  rcases ho with ⟨h1, _⟩ | ⟨T, cs, hT, hb⟩
  · exact absurd h1 h0
  · refine .inr ⟨T, cs, hT, hb.at_, hb.pos, hb.fit, hb.uni, fun i j r d hr hd => ?_, hb.one⟩
    obtain ⟨v, h1, h2⟩ := hb.rd i j r d hr hd
    exact ⟨v, h1, h2.bare (List.all_eq_true.1 (List.all_eq_true.1 h r (List.mem_of_getElem? hr)) d (List.mem_of_getElem? hd))⟩
theorem ConvP.map {p : Nat → Bool} {τ : Nat → Nat} {e : Option Nat} {rows : List (List D)} (hn : notLoop rows = true) (h : rows.all (fun r => r.all D.bare) = true) : ConvP p τ ⟨e, 0, rows⟩ ⟨e, 0, rows⟩ := by
  intro w ι ι' M b hi ho
  have bad : ∀ {l : List (List D)}, l = rows → notLoop l = false → False := fun e h => by rw [e, hn] at h; cases h
  rcases ho with ⟨_, h1⟩ | ⟨T, cs, hT, hb⟩
  · rcases h1 with ⟨_, es, clock, hm⟩ | ⟨_, _, _, _, _, _, _, e1, _⟩ | ⟨_, _, _, _, e1, _⟩ | ⟨_, _, _, _, e1, _⟩
    · refine .inl ⟨rfl, .inl ⟨hn, es, clock, hm.at_, ?_, hm.st, hm.shp⟩⟩
      obtain ⟨rs, h1, h2, h3⟩ := hm.al
      refine ⟨rs, h1, h2, fun i e r he hr => ?_⟩
      obtain ⟨k, v, e1, e2, e3⟩ := h3 i e r he hr
      have hb := List.all_eq_true.1 h r (h1.mem_iff.1 (List.mem_of_getElem? hr))
      subst e1
      have hb : (k.bare && (v.bare && true)) = true := hb
      simp only [Bool.and_eq_true] at hb
      exact ⟨k, v, rfl, e2.bare hb.1, e3.bare hb.2.1⟩
    · exact (bad e1.symm rfl).elim
    · exact (bad e1.symm rfl).elim
    · exact (bad e1.symm rfl).elim
  · exact absurd hb.pos (by simp)
theorem ConvP.wds {p : Nat → Bool} {τ : Nat → Nat} {e : Option Nat} {t : Tr Nat} {n : Nat} : ConvP p τ ⟨e, 0, [[.wds t n]]⟩ ⟨e, 0, [[.wds t n]]⟩ := fun w ι ι' M b hi ho => wds_same (SameW.refl n t) ho
def ConvV (p : Nat → Bool) (τ : Nat → Nat) (x y : AV) : Prop := ∀ (w : World) (ι ι' : Nat → Option Nat) (M : Nat → Prop) (val : Nat → Value) (E E' : Env) (i : Nat), (∀ k, p k = true → ι' (τ k) = ι k) → Holds w ι (fun _ => none) M val E i x → Holds w ι' (fun _ => none) M val E' i y
theorem ConvV.v {p : Nat → Bool} {τ : Nat → Nat} {a : AD} (h : a.inP p = true) : ConvV p τ (.v a) (.v (a.mapP τ)) := fun w ι ι' M val E E' i hi hh => RdA.mapP hi (show RdA w ι M (val i) a from hh) h
theorem ConvV.junk {p : Nat → Bool} {τ : Nat → Nat} {x : AV} : ConvV p τ x .junk := fun w ι ι' M val E E' i hi hh => trivial
def bk (n0 : Nat) (olds : List Nat) (k : Nat) : Nat := if k < n0 then k else olds.getD (k - n0) 0
def fw (n0 : Nat) (olds : List Nat) (o : Nat) : Nat := if o < n0 then o else n0 + olds.idxOf o
def kp (n0 : Nat) (olds : List Nat) (o : Nat) : Bool := decide (o < n0) || olds.contains o
structure Ren (n0 : Nat) (olds : List Nat) (s s2 : St) : Prop where
  le : n0 ≤ s.nx
  old : ∀ o ∈ olds, n0 ≤ o ∧ o < s.nx
  nd : olds.Nodup
  nx : s2.nx = n0 + olds.length
  H : ∀ k Y, s2.H k = some Y → k < s2.nx ∧ ∃ x, s.H (bk n0 olds k) = some x ∧ ConvP (kp n0 olds) (fw n0 olds) x Y
  env : ∀ i, i ≠ gs → ConvV (kp n0 olds) (fw n0 olds) (s.env i) (s2.env i) ∧ (s2.env i).plain = true
theorem Sim.ren {C : Ctx} {a : Act} {w : World} {ι β : Nat → Option Nat} {M : Nat → Prop} {n0 : Nat} {olds : List Nat} {s s2 : St} (h0 : Sim C s.env a w ι β M) (hp0 : Plain s) (r : Ren n0 olds s s2) :
    ∃ ι2, Sim C s2.env a w ι2 (fun _ => none) M ∧ Plain s2 ∧ ∀ o, o < n0 → ι2 o = ι o := by
  obtain ⟨h, hp⟩ := h0.less hp0 (Less.refl s)
  obtain ⟨H1, nx1, e1, e2⟩ := h.hp
  rw [St.env_gs] at e1
  injection e1 with e1 e3
  subst e1; subst e3
  let ι2 : Nat → Option Nat := fun k => if k < n0 + olds.length then ι (bk n0 olds k) else none
  have bkold : ∀ k, n0 ≤ k → k < n0 + olds.length → ∃ h : k - n0 < olds.length, bk n0 olds k = olds[k - n0] := fun k h1 h2 => by
    refine ⟨by omega, ?_⟩
    unfold bk
    rw [if_neg (by omega), List.getD_eq_getElem?_getD, List.getElem?_eq_getElem (by omega)]
    rfl
  have bklt : ∀ k, k < n0 + olds.length → bk n0 olds k < s.nx := fun k h2 => by
    by_cases h1 : k < n0
    · unfold bk; rw [if_pos h1]; exact Nat.lt_of_lt_of_le h1 r.le
    · obtain ⟨hl, e⟩ := bkold k (by omega) h2
      rw [e]
      exact (r.old _ (List.getElem_mem hl)).2
  have at_ : ∀ k, kp n0 olds k = true → ι2 (fw n0 olds k) = ι k := fun k hk => by
    unfold kp at hk
    by_cases h1 : k < n0
    · show (if fw n0 olds k < n0 + olds.length then ι (bk n0 olds (fw n0 olds k)) else none) = _
      have : fw n0 olds k = k := by unfold fw; rw [if_pos h1]
      rw [this, if_pos (by omega)]
      unfold bk; rw [if_pos h1]
    · have hm : k ∈ olds := by
        simp only [h1, decide_false, Bool.false_or] at hk
        simpa using hk
      have hi := List.idxOf_lt_length_of_mem hm
      have e : fw n0 olds k = n0 + olds.idxOf k := by unfold fw; rw [if_neg h1]
      show (if fw n0 olds k < n0 + olds.length then ι (bk n0 olds (fw n0 olds k)) else none) = _
      rw [e, if_pos (by omega)]
      obtain ⟨hl, e'⟩ := bkold (n0 + olds.idxOf k) (by omega) (by omega)
      rw [e']
      congr 1
      have : n0 + olds.idxOf k - n0 = olds.idxOf k := by omega
      simp only [this]
      exact List.getElem_idxOf hi
  have pl2 : Plain s2 := fun i => by
    by_cases hi : i = gs
    · exact .inl hi
    · exact .inr (r.env i hi).2
  have lv : ∀ k Y, live s2.env k = some Y → k < n0 + olds.length ∧ ∃ x, live s.env (bk n0 olds k) = some x ∧ ConvP (kp n0 olds) (fw n0 olds) x Y := fun k Y hk => by
    unfold live at hk
    rw [St.env_gs] at hk
    obtain ⟨h1, x, h2, h3⟩ := r.H k Y hk
    refine ⟨by rw [← r.nx]; exact h1, x, ?_, h3⟩
    unfold live
    rw [St.env_gs]
    exact h2
  have i2 : ∀ k, k < n0 + olds.length → ι2 k = ι (bk n0 olds k) := fun k h => if_pos h
  have inj : ∀ k k', k < n0 + olds.length → k' < n0 + olds.length → bk n0 olds k = bk n0 olds k' → k = k' := fun k k' h1 h2 e => by
    by_cases a1 : k < n0 <;> by_cases a2 : k' < n0
    · unfold bk at e; rw [if_pos a1, if_pos a2] at e; exact e
    · obtain ⟨hl, e'⟩ := bkold k' (by omega) h2
      rw [e'] at e
      unfold bk at e; rw [if_pos a1] at e
      have := (r.old _ (List.getElem_mem hl)).1
      omega
    · obtain ⟨hl, e'⟩ := bkold k (by omega) h1
      rw [e'] at e
      unfold bk at e; rw [if_pos a2] at e
      have := (r.old _ (List.getElem_mem hl)).1
      omega
    · obtain ⟨hl, e'⟩ := bkold k (by omega) h1
      obtain ⟨hl2, e2'⟩ := bkold k' (by omega) h2
      rw [e', e2'] at e
      have := (List.getElem_inj r.nd).1 e
      omega
  refine ⟨ι2, ⟨h.size, h.defs, h.small, ⟨s2.H, s2.nx, St.env_gs _, fun o => ?_⟩, fun o ob ho => ?_, fun o o' x x' b ho ho' hb hb' => ?_, fun _ _ _ h => (by cases h), fun _ _ _ _ _ _ h => (by cases h), fun o x b ho hb => ?_, fun _ _ h => (by cases h), fun o x b ho hb => ?_, fun _ _ h => (by cases h), h.xlt, h.xM, h.lt, fun i => ?_⟩, pl2, fun o ho => ?_⟩
  · rw [r.nx]
    by_cases ho : o < n0 + olds.length
    · rw [i2 o ho]
      constructor
      · intro h'; omega
      · intro h'
        have h1 := (e2 (bk n0 olds o)).2 h'
        have h2 : bk n0 olds o < s.nx := bklt o ho
        omega
    · constructor
      · intro _; exact if_neg ho
      · intro _; omega
  · obtain ⟨h1, x, h2, h3⟩ := lv o ob ho
    obtain ⟨b, hb, hob⟩ := h.objs _ x h2
    exact ⟨b, by rw [i2 o h1]; exact hb, h3 w ι ι2 M b at_ hob⟩
  · obtain ⟨h1, y, h2, _⟩ := lv o x ho
    obtain ⟨h1', y', h2', _⟩ := lv o' x' ho'
    rw [i2 o h1] at hb
    rw [i2 o' h1'] at hb'
    exact inj o o' h1 h1' (h.injO _ _ _ _ b h2 h2' hb hb')
  · obtain ⟨h1, y, h2, _⟩ := lv o x ho
    rw [i2 o h1] at hb
    exact h.ctlO _ _ b h2 hb
  · obtain ⟨h1, y, h2, _⟩ := lv o x ho
    rw [i2 o h1] at hb
    exact h.xO _ _ b h2 hb
  · by_cases hi : i = gs
    · subst hi
      rw [St.env_gs]
      exact rfl
    · exact (r.env i hi).1 w ι ι2 M (valOf a) s.env s2.env i at_ (h.hold i)
  · rw [i2 o (by omega)]
    unfold bk
    rw [if_pos ho]
def CodeW (n0 : Nat) (P : Program) (nt : Nat) (r : Option Nat) (c : Code) (s : St) (ex : Ex) (s' : St) : Prop :=
  ∀ (C : Ctx) (a : Act) (w : World) (ι β : Nat → Option Nat) (M : Nat → Prop) (B : Bs) (Qx : Exit → Act → World → Prop) (n : Nat) (ro : Option Nat),
    C.nt = nt → RRel r ro ι → (∀ lp, r = some lp → lp < n0) → Sim C s.env a w ι β M → Plain s → B.lo ≤ w.heap.size → Marks B C.dfs w M →
    (∀ C' a' w' ι' β' M', C'.nt = nt → C'.X = C.X → (r ≠ none → C'.dfs = C.dfs) → Sim C' s'.env a' w' ι' β' M' → Plain s' → Marks B C'.dfs w' M' → Evo C.X M w M' w' → (∀ o b, o < n0 → ι o = some b → ι' o = some b) → Qx ex.ex a' w') → c.wpIn (Fx ro) n P Qx a w
section
variable {P : Program} {n0 nt : Nat} {r : Option Nat} {s s' s0 s1 s2 : St} {ex : Ex}
theorem RRel.extW {ro : Option Nat} {ι ι' : Nat → Option Nat} (h : RRel r ro ι) (hl : ∀ lp, r = some lp → lp < n0) (hi : ∀ o b, o < n0 → ι o = some b → ι' o = some b) : RRel r ro ι' := by
  cases r with
  | none => exact h
  | some lp => obtain ⟨l, h1, h2⟩ := h; exact ⟨l, h1, hi _ _ (hl lp rfl) h2⟩
theorem CodeR.W {c : Code} (h : CodeR P nt r c s ex s') : CodeW n0 P nt r c s ex s' := by
  intro C a w ι β M B Qx n ro hnt hrr hl hs hp hB hm hK
  exact h C a w ι β M B Qx n ro hnt hrr hs hp hB hm fun C' a' w' ι' β' M' k1 k2 k3 k4 k5 k6 k7 k8 => hK C' a' w' ι' β' M' k1 k2 k3 k4 k5 k6 k7 fun o b _ h => k8 o b h
theorem CodeW.R {c : Code} (h : CodeW n0 P nt r c s ex s') (hn : s.nx ≤ n0) (hl : ∀ lp, r = some lp → lp < n0) : CodeR P nt r c s ex s' := by
  intro C a w ι β M B Qx n ro hnt hrr hs hp hB hm hK
  refine h C a w ι β M B Qx n ro hnt hrr hl hs hp hB hm fun C' a' w' ι' β' M' k1 k2 k3 k4 k5 k6 k7 k8 => hK C' a' w' ι' β' M' k1 k2 k3 k4 k5 k6 k7 fun o b h => k8 o b ?_ h
  obtain ⟨H1, nx1, e1, e2⟩ := hs.hp
  rw [St.env_gs] at e1
  injection e1 with e1 e3
  subst e1; subst e3
  refine Nat.lt_of_not_le fun hle => ?_
  rw [(e2 o).1 (Nat.le_trans hn hle)] at h
  cases h
theorem CodeW.ren {c : Code} {olds : List Nat} (h : CodeW n0 P nt r c s ex s') (hr : Ren n0 olds s' s2) : CodeW n0 P nt r c s ex s2 := by
  intro C a w ι β M B Qx n ro hnt hrr hl hs hp hB hm hK
  refine h C a w ι β M B Qx n ro hnt hrr hl hs hp hB hm fun C' a' w' ι' β' M' k1 k2 k3 k4 k5 k6 k7 k8 => ?_
  obtain ⟨ι2, h1, h2, h3⟩ := k4.ren k5 hr
  exact hK C' a' w' ι2 _ M' k1 k2 k3 h1 h2 k6 k7 fun o b ho hb => by rw [h3 o ho]; exact k8 o b ho hb
theorem CodeW.pre {c : Code} (h : CodeW n0 P nt r c s0 ex s') (hl : Less s0 s) : CodeW n0 P nt r c s ex s' := by
  intro C a w ι β M B Qx n ro hnt hrr hlp hs hp hB hm hK
  obtain ⟨h1, h2⟩ := hs.less hp hl
  exact h C a w ι _ M B Qx n ro hnt hrr hlp h1 h2 hB hm hK
theorem CodeW.seq {x y : Code} (h : CodeW n0 P nt r x s .normal s1) (k : CodeW n0 P nt r y s1 ex s') : CodeW n0 P nt r (.seq x y) s ex s' := by
  intro C a w ι β M B Qx n ro hnt hrr hl hs hp hB hm hK
  refine wpIn_seq (h C a w ι β M B _ n ro hnt hrr hl hs hp hB hm ?_)
  intro C1 a1 w1 ι1 β1 M1 hnt1 hX1 hd1 sm1 pl1 mk1 ev1 hi1
  refine k C1 a1 w1 ι1 β1 M1 B Qx n ro hnt1 (hrr.extW hl hi1) hl sm1 pl1 (Nat.le_trans hB ev1.size) mk1 ?_
  intro C2 a2 w2 ι2 β2 M2 hnt2 hX2 hd2 sm2 pl2 mk2 ev2 hi2
  rw [hX1] at ev2
  exact hK C2 a2 w2 ι2 β2 M2 hnt2 (hX2.trans hX1) (fun hne => (hd2 hne).trans (hd1 hne)) sm2 pl2 mk2 (ev1.trans ev2) (fun o b ho h => hi2 _ _ ho (hi1 _ _ ho h))
theorem CodeW.seq' {x y : Code} (h : CodeW n0 P nt r x s ex s') (hx : ex ≠ .normal) : CodeW n0 P nt r (.seq x y) s ex s' := by
  intro C a w ι β M B Qx n ro hnt hrr hl hs hp hB hm hK
  refine wpIn_seq (h C a w ι β M B _ n ro hnt hrr hl hs hp hB hm ?_)
  intro C1 a1 w1 ι1 β1 M1 hnt1 hX1 hd1 sm1 pl1 mk1 ev1 hi1
  cases ex with
  | normal => exact absurd rfl hx
  | exit id => exact hK C1 a1 w1 ι1 β1 M1 hnt1 hX1 hd1 sm1 pl1 mk1 ev1 hi1
  | ret => exact hK C1 a1 w1 ι1 β1 M1 hnt1 hX1 hd1 sm1 pl1 mk1 ev1 hi1
theorem CodeW.block {id : Nat} {b : Code} (h : CodeW n0 P nt r b s ex s') : CodeW n0 P nt r (.block id b) s (ex.out id) s' := by
  intro C a w ι β M B Qx n ro hnt hrr hl hs hp hB hm hK
  refine wpIn_block (h C a w ι β M B _ n ro hnt hrr hl hs hp hB hm ?_)
  intro C1 a1 w1 ι1 β1 M1 hnt1 hX1 hd1 sm1 pl1 mk1 ev1 hi1
  cases ex with
  | normal => exact hK C1 a1 w1 ι1 β1 M1 hnt1 hX1 hd1 sm1 pl1 mk1 ev1 hi1
  | ret => exact hK C1 a1 w1 ι1 β1 M1 hnt1 hX1 hd1 sm1 pl1 mk1 ev1 hi1
  | exit id' =>
    show (Exit.inBlock id Qx) (.exit id') a1 w1
    unfold Exit.inBlock
    by_cases he : id' = id
    · have hK' := hK C1 a1 w1 ι1 β1 M1 hnt1 hX1 hd1 sm1 pl1 mk1 ev1 hi1
      simp only [Ex.out, if_pos he] at hK'
      have : Qx .normal a1 w1 := hK'
      simpa [he] using this
    · have hK' := hK C1 a1 w1 ι1 β1 M1 hnt1 hX1 hd1 sm1 pl1 mk1 ev1 hi1
      simp only [Ex.out, if_neg he] at hK'
      have : Qx (.exit id') a1 w1 := hK'
      simpa [he] using this
theorem CodeW.cond {cd : Operand} {x y : Code} {b : Bool} (hc : condS s cd = some b) (h : CodeW n0 P nt r (br b x y) s ex s') : CodeW n0 P nt r (.cond cd x y) s ex s' := by
  intro C a w ι β M B Qx n ro hnt hrr hl hs hp hB hm hK
  have hv := cond_sound hs hc
  cases b with
  | true => exact wpIn_cond_true hv (h C a w ι β M B Qx n ro hnt hrr hl hs hp hB hm hK)
  | false => exact wpIn_cond_false hv (h C a w ι β M B Qx n ro hnt hrr hl hs hp hB hm hK)
inductive LoopW (n0 : Nat) (P : Program) (nt : Nat) (r : Option Nat) (b : Code) : Nat → St → Ex → St → Prop where
  | last (u : St) (x : Ex) (u' : St) : CodeW n0 P nt r b u x u' → x ≠ .normal → LoopW n0 P nt r b 0 u x u'
  | step (n : Nat) (u u1 : St) (x : Ex) (u' : St) : CodeW n0 P nt r b u .normal u1 → LoopW n0 P nt r b n u1 x u' → LoopW n0 P nt r b (n + 1) u x u'
theorem LoopW.code {b : Code} {m : Nat} (h : LoopW n0 P nt r b m s ex s') : CodeW n0 P nt r (.loop b) s ex s' := by
  intro C a w ι β M B Qx n ro hnt hrr hl hs hp hB hm hK
  refine wpIn_loop_ghost (fun j a1 w1 => ∃ s1 C1 ι1 β1 M1, LoopW n0 P nt r b j s1 ex s' ∧ C1.nt = nt ∧ C1.X = C.X ∧ (r ≠ none → C1.dfs = C.dfs) ∧ Sim C1 s1.env a1 w1 ι1 β1 M1 ∧ Plain s1 ∧ Marks B C1.dfs w1 M1 ∧ Evo C.X M w M1 w1 ∧ ∀ o b, o < n0 → ι o = some b → ι1 o = some b) m
    ⟨s, C, ι, β, M, h, hnt, rfl, fun _ => rfl, hs, hp, hm, Evo.refl _ _, fun _ _ _ h => h⟩ ?_
  rintro j a1 w1 ⟨s1, C1, ι1, β1, M1, hq1, hnt1, hX1, hd1, sm1, pl1, mk1, ev1, hi1⟩
  cases hq1 with
  | last _ _ _ hc hne =>
    refine hc C1 a1 w1 ι1 β1 M1 B _ n ro hnt1 (hrr.extW hl hi1) hl sm1 pl1 (Nat.le_trans hB ev1.size) mk1 ?_
    intro C2 a2 w2 ι2 β2 M2 hnt2 hX2 hd2 sm2 pl2 mk2 ev2 hi2
    rw [hX1] at ev2
    cases ex with
    | normal => exact absurd rfl hne
    | exit id => exact hK C2 a2 w2 ι2 β2 M2 hnt2 (hX2.trans hX1) (fun hne => (hd2 hne).trans (hd1 hne)) sm2 pl2 mk2 (ev1.trans ev2) (fun o b ho h => hi2 _ _ ho (hi1 _ _ ho h))
    | ret => exact hK C2 a2 w2 ι2 β2 M2 hnt2 (hX2.trans hX1) (fun hne => (hd2 hne).trans (hd1 hne)) sm2 pl2 mk2 (ev1.trans ev2) (fun o b ho h => hi2 _ _ ho (hi1 _ _ ho h))
  | step j' _ s2 _ _ hc hl' =>
    refine hc C1 a1 w1 ι1 β1 M1 B _ n ro hnt1 (hrr.extW hl hi1) hl sm1 pl1 (Nat.le_trans hB ev1.size) mk1 ?_
    intro C2 a2 w2 ι2 β2 M2 hnt2 hX2 hd2 sm2 pl2 mk2 ev2 hi2
    rw [hX1] at ev2
    exact ⟨j', Nat.lt_succ_self j', s2, C2, ι2, β2, M2, hl', hnt2, hX2.trans hX1, fun hne => (hd2 hne).trans (hd1 hne), sm2, pl2, mk2, ev1.trans ev2, fun o b ho h => hi2 _ _ ho (hi1 _ _ ho h)⟩
end
end Go.Proofs.YtmhinddneefmbaaGreat.Pe
namespace Go.Proofs.YtmhinddneefmbaaGreat.Pe
open Go
def AV.inP (p : Nat → Bool) : AV → Bool
  | .v a => a.inP p
  | _ => false
def AV.mapP (τ : Nat → Nat) : AV → AV
  | .v a => .v (a.mapP τ)
  | x => x
noncomputable def outP (l os : List Nat) (x : Option ((Ex × St) × TL)) : Option (Ex × List (Option AV) × List (Option PObj) × Nat × Bool × List (AV × AV)) := x.bind fun x => some (x.1.1, l.map (fun i => x.1.2.t.get i), os.map (fun o => x.1.2.H o), x.1.2.nx, allB x.2.cs, x.2.hs)
def OsOk (n0 : Nat) (olds : List Nat) : List (Nat × PObj) → List (Nat × PObj) → Prop
  | [], [] => True
  | (k, x) :: a, (j, Y) :: b => k = bk n0 olds j ∧ j < n0 + olds.length ∧ ConvP (kp n0 olds) (fw n0 olds) x Y ∧ OsOk n0 olds a b
  | _, _ => False
theorem OsOk.mem {n0 : Nat} {olds : List Nat} : ∀ {a b : List (Nat × PObj)} {f : Nat → Option PObj}, OsOk n0 olds a b → a.map (fun p => f p.1) = a.map (fun p => some p.2) → ∀ j Y, (j, Y) ∈ b → j < n0 + olds.length ∧ ∃ x, f (bk n0 olds j) = some x ∧ ConvP (kp n0 olds) (fw n0 olds) x Y
  | [], [], f, h, _, j, Y, hm => by cases hm
  | (k, x) :: a, (j', Y') :: b, f, h, e, j, Y, hm => by
    obtain ⟨h1, h2, h3, h4⟩ := h
    simp only [List.map_cons, List.cons.injEq] at e
    rcases List.mem_cons.1 hm with hm | hm
    · injection hm with e1 e2
      subst e1; subst e2
      exact ⟨h2, x, by rw [← h1]; exact e.1, h3⟩
    · exact h4.mem e.2 j Y hm
  | [], _ :: _, f, h, _, j, Y, hm => h.elim
  | _ :: _, [], f, h, _, j, Y, hm => h.elim
noncomputable def smallO (l : List (Nat × PObj)) : Bool := l.all fun x => Nat.blt x.1 1000000
theorem smallO_dec {l : List (Nat × PObj)} (h : smallO l = true) : l.all (fun x => decide (x.1 < 1000000000)) = true := by
  rw [List.all_eq_true]
  intro x hx
  have : x.1 < 1000000 := blt_lt (List.all_eq_true.1 h x hx)
  rw [decide_eq_true_eq]; omega
noncomputable def mkO (l : List (Nat × AV)) (o : List (Nat × PObj)) (nx : Nat) : St := mkS l (.tr (mkTr o)) nx
noncomputable def renL (n0 : Nat) (olds : List Nat) (l : List (Nat × AV)) : List (Nat × AV) := l.map fun p => (p.1, p.2.mapP (fw n0 olds))
theorem ren_of {n0 : Nat} {olds : List Nat} {l : List (Nat × AV)} {o1 o2 : List (Nat × PObj)} {s : St} (hl : smallS l = true) (ho : smallO o2 = true) (h1 : l.map (fun p => s.t.get p.1) = l.map (fun p => some p.2)) (h2 : o1.map (fun p => s.H p.1) = o1.map (fun p => some p.2))
    (hle : n0 ≤ s.nx) (hold : ∀ o ∈ olds, n0 ≤ o ∧ o < s.nx) (hnd : olds.Nodup) (hin : l.all (fun p => p.2.inP (kp n0 olds)) = true) (hos : OsOk n0 olds o1 o2) : Ren n0 olds s (mkO (renL n0 olds l) o2 (n0 + olds.length)) := by
  refine ⟨hle, hold, hnd, rfl, fun k Y hk => ?_, fun i hi => ?_⟩
  · have hm := mkTr_get o2 (smallO_dec ho) k Y hk
    exact hos.mem h2 k Y hm
  · have hs2 : smallS (renL n0 olds l) = true := by
      unfold smallS renL
      rw [List.all_map]
      exact hl
    rw [St.env_ne _ hi, St.env_ne _ hi]
    cases hg : (mkTr (renL n0 olds l)).get i with
    | none =>
      show ConvV _ _ _ (((mkTr (renL n0 olds l)).get i).getD .junk) ∧ (((mkTr (renL n0 olds l)).get i).getD .junk).plain = true
      rw [hg]
      exact ⟨.junk, rfl⟩
    | some a =>
      show ConvV _ _ _ (((mkTr (renL n0 olds l)).get i).getD .junk) ∧ (((mkTr (renL n0 olds l)).get i).getD .junk).plain = true
      rw [hg]
      have hm := mkTr_get _ (smallS_dec hs2) i a hg
      obtain ⟨⟨i', v⟩, hv, e⟩ := List.mem_map.1 hm
      injection e with e1 e2
      have e1 : i' = i := e1
      subst e1
      obtain ⟨j, hj, ej⟩ := List.getElem_of_mem hv
      have := congrArg (fun m => m[j]?) h1
      simp only [List.getElem?_map, List.getElem?_eq_getElem hj, Option.map_some, ej, Option.some.injEq] at this
      have hinv : v.inP (kp n0 olds) = true := List.all_eq_true.1 hin _ hv
      rw [this]
      cases v with
      | v x =>
        have e2 : AV.v (x.mapP (fw n0 olds)) = a := e2
        subst e2
        exact ⟨ConvV.v hinv, rfl⟩
      | _ => cases hinv
theorem outP_W {P : Program} {S : SysP} (hS : SysOk S.toSys P) (hP : PbOk S) {n0 k nt : Nat} {ro : Option Nat} {c : Code} {s : St} {T : TL} {ex : Ex} {olds : List Nat} {l : List (Nat × AV)} {o1 o2 : List (Nat × PObj)} {nx : Nat} {b : Bool} {hs : List (AV × AV)}
    (h : outP (l.map fun p => p.1) (o1.map fun p => p.1) ((evt S k).code nt ro c s T) = some (ex, l.map (fun p => some p.2), o1.map (fun p => some p.2), nx, b, hs)) (he : eqL ((evt S k).code nt ro c s T) = eqR ((evt S k).code nt ro c s T)) (hb : b = true) (hh : ∀ p ∈ hs, p.1 = p.2)
    (hl : smallS l = true) (ho : smallO o2 = true) (hle : n0 ≤ nx) (hold : ∀ o ∈ olds, n0 ≤ o ∧ o < nx) (hnd : olds.Nodup) (hin : l.all (fun p => p.2.inP (kp n0 olds)) = true) (hos : OsOk n0 olds o1 o2) : CodeW n0 P nt ro c s ex (mkO (renL n0 olds l) o2 (n0 + olds.length)) := by
  unfold outP at h
  unfold eqL eqR at he
  cases hx : (evt S k).code nt ro c s T with
  | none => rw [hx] at h; cases h
  | some x =>
    obtain ⟨⟨ex', s'⟩, T'⟩ := x
    rw [hx] at h he
    have h : some (ex', (l.map fun p => p.1).map (fun i => s'.t.get i), (o1.map fun p => p.1).map (fun o => s'.H o), s'.nx, allB T'.cs, T'.hs) = some (ex, l.map (fun p => some p.2), o1.map (fun p => some p.2), nx, b, hs) := h
    simp only [Option.some.injEq, Prod.mk.injEq, List.map_map] at h
    obtain ⟨rfl, h1, h2, h3, h4, h5⟩ := h
    simp only [Option.map_some, Option.some.injEq] at he
    subst h3
    exact (CodeR.evt hS hP hx ⟨allB_all (h4.trans hb), map_pairs he, by rw [h5]; exact hh⟩).W.ren (ren_of hl ho h1 h2 hle hold hnd hin hos)
end Go.Proofs.YtmhinddneefmbaaGreat.Pe
namespace Go.Proofs.YtmhinddneefmbaaGreat.Pe
open Go
set_option maxRecDepth 100000
theorem rowSet_setCell {w : World} {b : Nat} {cs : Array Value} {T : TypeId} {o : Nat} {v : Value} (h : w.heap[b]? = some (.cells cs T (0, 0))) (ho : o < cs.size) : rowSet w b cs o [v] = w.setCell ⟨b, o, none⟩ v := by
  have e : (cs.toList.take o ++ [v] ++ cs.toList.drop (o + [v].length)).toArray = cs.setIfInBounds o v := by
    apply Array.ext'
    rw [Array.toList_setIfInBounds, List.set_eq_take_append_cons_drop, if_pos (by simpa using ho)]
    simp
  unfold rowSet World.setRow World.setCell
  rw [e]
  congr 1
  apply Array.ext_getElem?
  intro k
  rw [Array.getElem?_modify, Array.getElem?_modify]
  split
  · rename_i hk
    subst hk
    rw [h]
    rfl
  · rfl
section
variable {w w1 w2 : World} {ι ι1 ι2 : Nat → Option Nat} {M M1 M2 : Nat → Prop} {H H1 H2 : Hp} {nx nx1 nx2 : Nat}
theorem EffTo.trans (hM : ∀ b, M b → b < w.heap.size) (h : EffTo w ι M H w1 ι1 M1 H1 nx1) (k : EffTo w1 ι1 M1 H1 w2 ι2 M2 H2 nx2) : EffTo w ι M H w2 ι2 M2 H2 nx2 :=
  ⟨k.ok, fun o b hb => k.ext o b (h.ext o b hb), h.evo.trans k.evo, fun b hb hn => k.kept b (h.kept b hb hn) fun o x ho hi => by
    obtain ⟨o', x', h1, h2⟩ := h.evo.back b (hM b hb) ⟨o, x, ho, hi⟩
    exact hn o' x' h1 h2, fun b hb hm => h.back b hb (k.back b (Nat.lt_of_lt_of_le hb h.evo.size) hm), k.lt⟩
theorem EffTo.same (hM : ∀ b, M b → b < w.heap.size) (hok : HeapOk w ι M H nx) (ho : w1.os = w.os) (ht : w1.tape = w.tape) (hp : w1.output = w.output) (hh : w1.heap = w.heap) : EffTo w ι M H w1 ι M H nx := by
  have ev : ∀ (M : Nat → Prop), Evo (fun _ => False) M w M w1 := fun M => ⟨ho, ht, hp, by rw [hh]; exact Nat.le_refl _, fun _ _ _ => by rw [hh], fun _ _ h => h, fun _ _ h => h.elim, .of fun b _ => by rw [hh]⟩
  refine ⟨⟨hok.new, fun o ob h => ?_, hok.inj, hok.ctl⟩, fun _ _ h => h, ev _, fun _ h _ => h, fun _ _ h => h, fun b h => by rw [hh]; exact hM b h⟩
  obtain ⟨b, h1, h2⟩ := hok.objs o ob h
  exact ⟨b, h1, h2.mono (ev M) (fun _ _ h => h) (by rw [hh])⟩
theorem setCell_eff {m sz b j : Nat} {e : Option Nat} {row : List D} {v : Value} {d : D} (hM : ∀ b, M b → b < w.heap.size) (hok : HeapOk w ι M H nx) (hm : H m = some ⟨e, sz, [row]⟩) (hsz : sz ≠ 0) (hb : ι m = some b) (hj : j < row.length) (hd : Rd w ι M v d) :
    EffTo w ι M H (w.setCell ⟨b, j, none⟩ v) ι M (updO H m (some ⟨e, sz, [splice row j [d]]⟩)) nx := by
  obtain ⟨b', hb', ho⟩ := hok.objs _ _ hm
  rw [hb] at hb'
  injection hb' with hb'
  subst hb'
  have hMb : M b := hok.ctl _ _ _ hm hb
  rcases ho with ⟨h0, _⟩ | ⟨T, cs, hT, hB⟩
  · exact absurd h0 hsz
  have hat : w.heap[b]? = some (.cells cs T (0, 0)) := hB.at_
  have hu : RdL w ι M [v] [d] := ⟨rfl, fun k v' d' hv hd' => by
    cases k with
    | zero => simp at hv hd'; subst hv hd'; exact hd
    | succ k => simp at hv⟩
  obtain ⟨f1, f2, f3⟩ := hB.store hMb (i := 0) (off := j) (r := row) rfl (vs := [d]) (by simp; omega) hu
  simp only [Nat.zero_mul, Nat.zero_add] at f1 f2 f3
  have hjc : j < cs.size := by simp at f1; omega
  have hsh := rowSet_shape hat j [v] f1
  rw [rowSet_setCell hat hjc] at f3 hsh
  have same : ∀ k, k ≠ b → (w.setCell ⟨b, j, none⟩ v).heap[k]? = w.heap[k]? := fun k hk => by rw [← rowSet_setCell hat hjc]; exact setRow_other w b k _ hk
  have sz' : (w.setCell ⟨b, j, none⟩ v).heap.size = w.heap.size := by simp [World.setCell]
  have ev : Evo (fun _ => False) M w M (w.setCell ⟨b, j, none⟩ v) := ⟨rfl, rfl, rfl, Nat.le_of_eq sz'.symm, fun k _ hk => same k (fun h => by subst h; exact hk hMb), fun _ _ h => h, fun _ _ h => h.elim, hsh⟩
  have fro : ∀ k x, updO H m (some ⟨e, sz, [splice row j [d]]⟩) k = some x → ∃ y, H k = some y := fun k x hk => by
    rw [updO_at] at hk
    split at hk
    · rename_i e; subst e; exact ⟨_, hm⟩
    · exact ⟨x, hk⟩
  refine ⟨⟨hok.new, fun o x hx => ?_, fun o o' x x' c h1 h2 => ?_, fun o x c h1 => ?_⟩, fun _ _ h => h, ⟨rfl, rfl, rfl, Nat.le_of_eq sz'.symm, fun k _ hk => same k (fun h => by subst h; exact hk ⟨m, _, hm, hb⟩), fun c _ hc => ?_, fun _ _ h => h.elim, hsh⟩, fun _ h _ => h, fun _ _ h => h, fun c h => by rw [sz']; exact hM c h⟩
  · rw [updO_at] at hx
    split at hx
    · rename_i e'; subst e'
      injection hx with hx; subst hx
      exact ⟨b, hb, .inr ⟨T, _, hT, by simpa using f3⟩⟩
    · rename_i hne
      obtain ⟨c, h1, h2⟩ := hok.objs o x hx
      exact ⟨c, h1, h2.mono ev (fun _ _ h => h) (same c (fun h => by subst h; exact hne (hok.inj _ _ _ _ _ hx hm h1 hb)))⟩
  · obtain ⟨y, hy⟩ := fro o x h1
    obtain ⟨y', hy'⟩ := fro o' x' h2
    exact hok.inj o o' y y' c hy hy'
  · obtain ⟨y, hy⟩ := fro o x h1
    exact hok.ctl o y c hy
  · obtain ⟨o, x, h1, h2⟩ := hc
    obtain ⟨y, hy⟩ := fro o x h1
    exact ⟨o, y, hy, h2⟩
theorem cell_of {m sz b j : Nat} {e : Option Nat} {row : List D} {d : D} (hok : HeapOk w ι M H nx) (hm : H m = some ⟨e, sz, [row]⟩) (hsz : sz ≠ 0) (hb : ι m = some b) (hd : row[j]? = some d) : ∃ v, w.cell? ⟨b, j, none⟩ = some v ∧ Rd w ι M v d ∧ w.frozen? ⟨b, j, none⟩ = false := by
  obtain ⟨b', hb', ho⟩ := hok.objs _ _ hm
  rw [hb] at hb'
  injection hb' with hb'
  subst hb'
  rcases ho with ⟨h0, _⟩ | ⟨T, cs, hT, hB⟩
  · exact absurd h0 hsz
  have hat : w.heap[b]? = some (.cells cs T (0, 0)) := hB.at_
  obtain ⟨v, h1, h2⟩ := hB.rd 0 j row d rfl hd
  simp only [Nat.zero_mul, Nat.zero_add] at h1
  exact ⟨v, by simp [World.cell?, hat, h1], h2, by simp [World.frozen?, hat]⟩
noncomputable def setD (H : Hp) (m : Nat) (e : Option Nat) (sz : Nat) (row : List D) (j : Nat) (d : D) : Hp := updO H m (some ⟨e, sz, [splice row j [d]]⟩)
end
end Go.Proofs.YtmhinddneefmbaaGreat.Pe
