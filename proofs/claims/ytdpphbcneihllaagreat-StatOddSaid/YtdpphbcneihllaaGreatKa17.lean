/- A part of the proof of KrA. -/
import Derived.Test.YtdpphbcneihllaaGreatProg
import Derived.ShutString
import Derived.OpenShut
import Derived.Test.YtdpphbcneihllaaGreatKa1
import Derived.Test.YtdpphbcneihllaaGreatKa16
set_option linter.unusedSimpArgs false
set_option linter.unusedVariables false
set_option linter.unusedSectionVars false
namespace Go.Proofs.YtdpphbcneihllaaGreat.Pe
open Go
noncomputable def PObj.exp (ob : PObj) : PObj := match ob with
  | ⟨e, 0, [[.wds t n]]⟩ => ⟨e, 1, wdsRows t n⟩
  | ob => ob
noncomputable def expH : Hp → Hp
  | .tr t => .tr (t.map fun ob => some ob.exp)
  | .upd H o x => .upd (expH H) o (x.map PObj.exp)
theorem expH_at : ∀ (H : Hp) (o : Nat), expH H o = (H o).map PObj.exp
  | .tr t, o => by
    show (t.map fun ob => some ob.exp).get o = (t.get o).map PObj.exp
    rw [Tr.get_map]
    cases t.get o <;> rfl
  | .upd H o' x, o => by
    show (if o = o' then x.map PObj.exp else expH H o) = (if o = o' then x else H o).map PObj.exp
    split
    · rfl
    · exact expH_at H o
variable {w : World} {ι : Nat → Option Nat} {M : Nat → Prop} {b nx : Nat} {P : Program}
theorem ObjAt.exp {ob : PObj} (h : ObjAt w ι M b ob) : ObjAt w ι M b ob.exp := by
  unfold PObj.exp
  split
  · rename_i e t n
    rcases h with ⟨_, ⟨hn, _⟩ | ⟨nt, env, ps, assign, body, busy, jump, hr, _⟩ | ⟨t', n', T, cs, hr, hT, hb⟩ | ⟨t', n', T, cs, hr, hT, hb⟩⟩ | ⟨T, cs, hT, hb⟩
    · cases hn
    · cases hr
    · simp only [List.cons.injEq, D.wds.injEq, and_true] at hr
      obtain ⟨rfl, rfl⟩ := hr
      exact .inr ⟨T, cs, hT, hb⟩
    · cases hr
    · have := hb.pos; simp at this
  · exact h
theorem ObjAt.unexp {ob : PObj} (h : ObjAt w ι M b ob.exp) : ObjAt w ι M b ob := by
  unfold PObj.exp at h
  split at h
  · rename_i e t n
    rcases h with ⟨h0, _⟩ | ⟨T, cs, hT, hb⟩
    · simp at h0
    · exact .inl ⟨rfl, .inr (.inr (.inl ⟨t, n, T, cs, rfl, hT, hb⟩))⟩
  · exact h
theorem HeapOk.exp {H : Hp} (h : HeapOk w ι M H nx) : HeapOk w ι M (expH H) nx := by
  have key : ∀ o ob, expH H o = some ob → ∃ x, H o = some x ∧ ob = x.exp := fun o ob ho => by
    rw [expH_at] at ho
    cases hx : H o with
    | none => rw [hx] at ho; cases ho
    | some x => rw [hx] at ho; injection ho with ho; exact ⟨x, rfl, ho.symm⟩
  refine ⟨h.new, fun o ob ho => ?_, fun o o' x x' b ho ho' => ?_, fun o x b ho => ?_⟩
  · obtain ⟨x, hx, rfl⟩ := key o ob ho
    obtain ⟨b, h1, h2⟩ := h.objs o x hx
    exact ⟨b, h1, h2.exp⟩
  · obtain ⟨y, hy, _⟩ := key o x ho
    obtain ⟨y', hy', _⟩ := key o' x' ho'
    exact h.inj o o' y y' b hy hy'
  · obtain ⟨y, hy, _⟩ := key o x ho
    exact h.ctl o y b hy
theorem HeapOk.sub {K H : Hp} (h : HeapOk w ι M K nx) (hs : ∀ o x, H o = some x → K o = some x.exp) : HeapOk w ι M H nx :=
  ⟨h.new, fun o ob ho => let ⟨b, h1, h2⟩ := h.objs o _ (hs o ob ho); ⟨b, h1, h2.unexp⟩, fun o o' x x' b ho ho' => h.inj o o' _ _ b (hs o x ho) (hs o' x' ho'), fun o x b ho => h.ctl o _ b (hs o x ho)⟩
theorem FnEff.words {f : Nat} {F G : List AD → Hp → Nat → Option (RV × Hp × Nat)} (hF : FnEff P f F)
    (hG : ∀ ads H nx r H' nx', G ads H nx = some (r, H', nx') → ∀ w ι M, HeapOk w ι M H nx → ∃ K, F ads (expH H) nx = some (r, K, nx') ∧ ∀ o x, H' o = some x → K o = some x.exp) : FnEff P f G := by
  intro ads H nx r H' nx' hq w ι M vals hM hok hsz hargs
  obtain ⟨K, h1, h2⟩ := hG ads H nx r H' nx' hq w ι M hok
  refine (hF ads (expH H) nx r K nx' h1 w ι M vals hM hok.exp hsz hargs).mono fun e w' hp => ?_
  obtain ⟨v, ι', M', he, hr, hk, hi, hev, hkept, hback, hlt⟩ := hp
  have dom : ∀ b, (∃ o x, expH H o = some x ∧ ι o = some b) ↔ ∃ o x, H o = some x ∧ ι o = some b := fun b => by
    constructor
    · rintro ⟨o, x, ho, hb⟩
      rw [expH_at] at ho
      cases hx : H o with
      | none => rw [hx] at ho; cases ho
      | some y => exact ⟨o, y, hx, hb⟩
    · rintro ⟨o, x, ho, hb⟩
      exact ⟨o, x.exp, by rw [expH_at, ho]; rfl, hb⟩
  refine ⟨v, ι', M', he, hr, hk.sub h2, hi, ?_, fun b hb hn => hkept b hb fun o x ho => ?_, hback, hlt⟩
  · refine ⟨hev.os, hev.tape, hev.output, hev.size, fun b hb hn => hev.same b hb fun hh => hn ((dom b).1 hh), fun b hb hh => ?_, fun b hb h => h.elim, hev.shape⟩
    obtain ⟨o, x, ho, hb'⟩ := hh
    exact (dom b).1 (hev.back b hb ⟨o, x.exp, h2 o x ho, hb'⟩)
  · rw [expH_at] at ho
    cases hx : H o with
    | none => rw [hx] at ho; cases ho
    | some y => exact hn o y hx
end Go.Proofs.YtdpphbcneihllaaGreat.Pe
namespace Go.Proofs.YtdpphbcneihllaaGreat.Pe
open Go
def D.flat : D → Bool
  | .int _ _ | .bool _ | .nilp => true
  | _ => false
def AD.flat : AD → Bool
  | .one d => d.flat
  | .many _ => false
def RV.flat : RV → Bool
  | .a x => x.flat
  | .tup l => l.all AD.flat
variable {w w' : World} {ι ι' : Nat → Option Nat} {M M' : Nat → Prop} {b nx : Nat} {P : Program}
theorem Rd.flat {v : Value} {d : D} (h : Rd w ι M v d) (hf : d.flat = true) : Rd w' ι' M' v d := by
  cases h <;> first | (cases hf; done) | constructor
theorem RdA.flat {v : Value} {a : AD} (h : RdA w ι M v a) (hf : a.flat = true) : RdA w' ι' M' v a := by
  cases a with
  | one d => exact Rd.flat (w' := w') (ι' := ι') (M' := M') (show Rd w ι M v d from h) hf
  | many l => cases hf
theorem RdV.flat {v : Value} {r : RV} (h : RdV w ι M v r) (hf : r.flat = true) : RdV w' ι' M' v r := by
  cases r with
  | a a => exact RdA.flat (w' := w') (ι' := ι') (M' := M') (show RdA w ι M v a from h) hf
  | tup l =>
    obtain ⟨vs, e, hl, hr⟩ := (show RdT w ι M v l from h)
    exact ⟨vs, e, hl, fun j v x hv hx => (hr j v x hv hx).flat (List.all_eq_true.1 hf x (List.mem_of_getElem? hx))⟩
noncomputable def seg0 (e1 e5 : Option Nat) (bt : Tr Nat) (n : Nat) : Hp := .tr (.node (some ⟨e5, 0, [[.bts bt n]]⟩) (.node (some ⟨e1, 1, [[.ref 0 1 0 n]]⟩) .leaf .leaf) .leaf)
theorem seg0_some {e1 e5 : Option Nat} {bt : Tr Nat} {n k : Nat} {x : PObj} (h : seg0 e1 e5 bt n k = some x) : (k = 0 ∧ x = ⟨e5, 0, [[.bts bt n]]⟩) ∨ (k = 1 ∧ x = ⟨e1, 1, [[.ref 0 1 0 n]]⟩) := by
  have h : (Tr.node (some (⟨e5, 0, [[.bts bt n]]⟩ : PObj)) (.node (some ⟨e1, 1, [[.ref 0 1 0 n]]⟩) .leaf .leaf) .leaf).get k = some x := h
  cases k with
  | zero => injection h with h; exact .inl ⟨rfl, h.symm⟩
  | succ k =>
    rw [Tr.get_succ] at h
    split at h
    · rename_i h2
      cases hk : k / 2 with
      | zero => rw [hk] at h; injection h with h; exact .inr ⟨by omega, h.symm⟩
      | succ j =>
        rw [hk, Tr.get_succ] at h
        split at h <;> cases h
    · cases h
noncomputable def bOf (t : Tr Nat) : Nat → Tr Nat
  | 0 => .leaf
  | n + 1 => (bOf t n).set (some ((t.get (n / 8)).getD 0 / 256 ^ (n % 8) % 256)) 30 n
theorem bOf_get (t : Tr Nat) : ∀ (n : Nat), n ≤ 1000000000 → ∀ i, i < n → (bOf t n).get i = some ((t.get (i / 8)).getD 0 / 256 ^ (i % 8) % 256)
  | 0, _, i, hi => by omega
  | n + 1, hn, i, hi => by
    unfold bOf
    rw [Tr.get_set _ _ _ _ (by omega)]
    split
    · rename_i e; subst e; rfl
    · exact bOf_get t n (by omega) i (by omega)
theorem bOf_rows (t : Tr Nat) {n : Nat} (hn : n ≤ 1000000000) : btsRows (bOf t n) n = wdsRows t n := by
  unfold btsRows wdsRows
  apply List.map_congr_left
  intro i hi
  have hi : i < n := List.mem_range.1 hi
  unfold byteB byteOf
  rw [bOf_get t n hn i hi]
  rfl
theorem seg_ref {e : Option Nat} {o o' n : Nat} (h : ObjAt w ι M b ⟨e, 1, [[.ref o 1 0 n]]⟩) (hi : ∀ c, ι o = some c → ι' o' = some c) : ObjAt w ι' M' b ⟨e, 1, [[.ref o' 1 0 n]]⟩ := by
  rcases h with ⟨h0, _⟩ | ⟨T, cs, hT, hb⟩
  · cases h0
  · refine .inr ⟨T, cs, hT, hb.at_, hb.pos, hb.fit, fun r hr => ?_, fun i j r d hr hd => ?_, hb.one⟩
    · have := List.mem_singleton.1 hr; subst this; rfl
    · cases i with
      | zero =>
        injection hr with hr; subst hr
        cases j with
        | zero =>
          injection hd with hd; subst hd
          obtain ⟨v, h1, h2⟩ := hb.rd 0 0 _ _ rfl rfl
          refine ⟨v, h1, ?_⟩
          cases h2 with
          | ref _ _ _ _ c b h hnc hcm hsz hcap => exact .ref _ _ _ _ c b (hi b h) hnc hcm hsz hcap
        | succ j => simp at hd
      | succ i => simp at hr
theorem wds_rd {e : Option Nat} {t : Tr Nat} {n : Nat} (h : ObjAt w ι M b ⟨e, 1, wdsRows t n⟩) : ObjAt w ι' M' b ⟨e, 1, wdsRows t n⟩ := by
  rcases h with ⟨h0, _⟩ | ⟨T, cs, hT, hb⟩
  · cases h0
  · refine .inr ⟨T, cs, hT, hb.at_, hb.pos, hb.fit, hb.uni, fun i j r d hr hd => ?_, hb.one⟩
    obtain ⟨v, h1, h2⟩ := hb.rd i j r d hr hd
    refine ⟨v, h1, Rd.flat h2 ?_⟩
    obtain ⟨k, _, rfl⟩ := List.mem_map.1 (List.mem_of_getElem? hr)
    cases j with
    | zero => injection hd with hd; subst hd; rfl
    | succ j => simp at hd
theorem wds_bts {e : Option Nat} {t bt : Tr Nat} {n : Nat} (he : btsRows bt n = wdsRows t n) (h : ObjAt w ι M b ⟨e, 0, [[.wds t n]]⟩) : ObjAt w ι' M' b ⟨e, 0, [[.bts bt n]]⟩ := by
  have h1 : ObjAt w ι' M' b ⟨e, 1, wdsRows t n⟩ := wds_rd (ι := ι) (M := M) h.exp
  rcases h1 with ⟨h0, _⟩ | ⟨T, cs, hT, hb⟩
  · cases h0
  · exact ObjAt.ofBlk (ob := ⟨e, 0, [[.bts bt n]]⟩) hT (show Blk w ι' M' b T cs 1 (btsRows bt n) by rw [he]; exact hb)
theorem bts_wds {e : Option Nat} {t bt : Tr Nat} {n : Nat} (he : btsRows bt n = wdsRows t n) (h : ObjAt w ι M b ⟨e, 0, [[.bts bt n]]⟩) : ObjAt w ι' M' b ⟨e, 0, [[.wds t n]]⟩ := by
  obtain ⟨T, cs, hT, hb⟩ := h.blkE (show 0 < 1 by omega)
  have hb : Blk w ι M b T cs 1 (btsRows bt n) := hb
  rw [he] at hb
  exact ObjAt.unexp (ob := ⟨e, 0, [[.wds t n]]⟩) (wds_rd (ι := ι) (M := M) (.inr ⟨T, cs, hT, hb⟩))
noncomputable def io (ι : Nat → Option Nat) (o sg : Nat) : Nat → Option Nat := fun k => if k = 0 then ι o else if k = 1 then ι sg else none
theorem seg_frame {f : Nat} {F : List AD → Hp → Nat → Option (RV × Hp × Nat)} (hF : FnEff P f F) {H : Hp} {sg o n m : Nat} {e1 e5 : Option Nat} {t t' bt bt' : Tr Nat} {rest : List AD} {r : RV} {K : Hp} (hbt : btsRows bt n = wdsRows t n) (hbt' : btsRows bt' n = wdsRows t' n)
    (hsg : H sg = some ⟨e1, 1, [[.ref o 1 0 n]]⟩) (ho : H o = some ⟨e5, 0, [[.wds t n]]⟩) (hrun : F (.one (.ptr 1 1 0 0) :: rest) (seg0 e1 e5 bt n) 2 = some (r, K, m))
    (hK1 : K 1 = some ⟨e1, 1, [[.ref 0 1 0 n]]⟩) (hK0 : K 0 = some ⟨e5, 0, [[.bts bt' n]]⟩) (hr : r.flat = true) (hrest : ∀ x ∈ rest, x.flat = true)
    {vals : Array Value} (hM : ∀ b, M b → b < w.heap.size) (hok : HeapOk w ι M H nx) (hsz : vals.size = (AD.one (.ptr sg 1 0 0) :: rest).length)
    (hargs : ∀ (j : Nat) v a, vals[j]? = some v → (AD.one (.ptr sg 1 0 0) :: rest)[j]? = some a → RdA w ι M v a) :
    Calls P f vals w fun e w' => ∃ v ι' M', e = .returned v ∧ RdV w' ι' M' v r ∧ HeapOk w' ι' M' (updO H o (some ⟨e5, 0, [[.wds t' n]]⟩)) nx ∧ (∀ o b, ι o = some b → ι' o = some b) ∧
      Evo (fun _ => False) (fun b => ∃ o x, H o = some x ∧ ι o = some b) w (fun b => ∃ k x, updO H o (some ⟨e5, 0, [[.wds t' n]]⟩) k = some x ∧ ι' k = some b) w' ∧
      (∀ b, M b → (∀ o x, H o = some x → ι o ≠ some b) → M' b) ∧ (∀ b, b < w.heap.size → M' b → M b) ∧ (∀ b, M' b → b < w'.heap.size) := by
  obtain ⟨bs, hbs, hos⟩ := hok.objs sg _ hsg
  obtain ⟨bo, hbo, hoo⟩ := hok.objs o _ ho
  have hne : o ≠ sg := fun e => by subst e; rw [hsg] at ho; cases ho
  have i0 : io ι o sg 0 = some bo := by simp [io, hbo]
  have i1 : io ι o sg 1 = some bs := by simp [io, hbs]
  have ok0 : HeapOk w (io ι o sg) M (seg0 e1 e5 bt n) 2 := by
    refine ⟨fun k => ?_, fun k ob hk => ?_, fun k k' x x' b hk hk' hb hb' => ?_, fun k x b hk hb => ?_⟩
    · unfold io
      by_cases h0 : k = 0
      · subst h0; simp [hbo]
      · by_cases h1 : k = 1
        · subst h1; simp [hbs]
        · simp only [if_neg h0, if_neg h1]; simp; omega
    · rcases seg0_some hk with ⟨rfl, rfl⟩ | ⟨rfl, rfl⟩
      · exact ⟨bo, i0, wds_bts (ι := ι) (M := M) hbt hoo⟩
      · exact ⟨bs, i1, seg_ref hos fun c hc => by rw [i0, ← hc, hbo]⟩
    · rcases seg0_some hk with ⟨rfl, _⟩ | ⟨rfl, _⟩ <;> rcases seg0_some hk' with ⟨rfl, _⟩ | ⟨rfl, _⟩
      · rfl
      · rw [i0] at hb; rw [i1] at hb'; injection hb with hb; injection hb' with hb'; subst hb; subst hb'
        exact absurd (hok.inj o sg _ _ _ ho hsg hbo hbs) hne
      · rw [i1] at hb; rw [i0] at hb'; injection hb with hb; injection hb' with hb'; subst hb; subst hb'
        exact absurd (hok.inj o sg _ _ _ ho hsg hbo hbs) hne
      · rfl
    · rcases seg0_some hk with ⟨rfl, _⟩ | ⟨rfl, _⟩
      · rw [i0] at hb; injection hb with hb; subst hb; exact hok.ctl o _ _ ho hbo
      · rw [i1] at hb; injection hb with hb; subst hb; exact hok.ctl sg _ _ hsg hbs
  have args0 : ∀ (j : Nat) v a, vals[j]? = some v → (AD.one (.ptr 1 1 0 0) :: rest)[j]? = some a → RdA w (io ι o sg) M v a := fun j v a hv ha => by
    cases j with
    | zero =>
      injection ha with ha; subst ha
      have h1 : Rd w ι M v (.ptr sg 1 0 0) := hargs 0 v _ hv rfl
      cases h1 with
      | ptr _ _ _ _ b h hs =>
        rw [hbs] at h; injection h with h; subst h
        exact Rd.ptr 1 1 0 0 _ i1 hs
    | succ j => exact (hargs (j + 1) v a hv ha).flat (hrest a (List.mem_of_getElem? ha))
  refine (hF _ _ _ _ _ _ hrun w (io ι o sg) M vals hM ok0 hsz args0).mono fun e w' hp => ?_
  obtain ⟨v, ι', M', he, hrv, hk, hi, hev, hkept, hback, hlt⟩ := hp
  have hi0 := hi 0 bo i0
  have hi1 := hi 1 bs i1
  have dom0 : ∀ b, (∃ k x, seg0 e1 e5 bt n k = some x ∧ io ι o sg k = some b) → b = bo ∨ b = bs := fun b ⟨k, x, hk, hb⟩ => by
    rcases seg0_some hk with ⟨rfl, _⟩ | ⟨rfl, _⟩
    · rw [i0] at hb; injection hb with hb; exact .inl hb.symm
    · rw [i1] at hb; injection hb with hb; exact .inr hb.symm
  have same : ∀ b, b < w.heap.size → b ≠ bo → b ≠ bs → w'.heap[b]? = w.heap[b]? := fun b hb h1 h2 => hev.same b hb fun hh => by
    rcases dom0 b hh with h | h
    · exact h1 h
    · exact h2 h
  have hMk : ∀ k x b, H k = some x → ι k = some b → b < w.heap.size := fun k x b h1 h2 => hM b (hok.ctl k x b h1 h2)
  have hkept' : ∀ b, M b → b ≠ bo → b ≠ bs → M' b := fun b hb h1 h2 => hkept b hb fun k x hk hh => by
    rcases dom0 b ⟨k, x, hk, hh⟩ with h | h
    · exact h1 h
    · exact h2 h
  have hoK := hk.objs 0 _ hK0
  have hsK := hk.objs 1 _ hK1
  obtain ⟨bo', hbo', hoK⟩ := hoK
  obtain ⟨bs', hbs', hsK⟩ := hsK
  rw [hi0] at hbo'; injection hbo' with hbo'; subst hbo'
  rw [hi1] at hbs'; injection hbs' with hbs'; subst hbs'
  have evw : Evo (fun _ => False) M w M' w' := ⟨hev.os, hev.tape, hev.output, hev.size, fun b hb hn => hev.same b hb fun hh => by
    rcases dom0 b hh with h | h
    · subst h; exact hn (hok.ctl o _ _ ho hbo)
    · subst h; exact hn (hok.ctl sg _ _ hsg hbs), fun b hb h => hback b hb h, fun b hb h => h.elim, hev.shape⟩
  refine ⟨v, ι, M', he, hrv.flat hr, ⟨hok.new, fun k ob hkk => ?_, fun k k' x x' b hk1 hk2 => ?_, fun k x b hk1 hb => ?_⟩, fun _ _ h => h, ⟨hev.os, hev.tape, hev.output, hev.size, fun b hb hn => ?_, fun b hb hh => ?_, fun b hb h => h.elim, hev.shape⟩, fun b hb hn => ?_, hback, hlt⟩
  · rw [updO_at] at hkk
    split at hkk
    · rename_i e; subst e
      injection hkk with hkk; subst hkk
      exact ⟨bo, hbo, bts_wds hbt' hoK⟩
    · rename_i hko
      by_cases hks : k = sg
      · subst hks
        rw [hsg] at hkk; injection hkk with hkk; subst hkk
        exact ⟨bs, hbs, seg_ref hsK fun c hc => by rw [hi0] at hc; rw [hbo, ← hc]⟩
      · obtain ⟨b, h1, h2⟩ := hok.objs k ob hkk
        exact ⟨b, h1, h2.mono evw (fun _ _ h => h) (same b (hMk k ob b hkk h1) (fun e => by subst e; exact hko (hok.inj k o _ _ _ hkk ho h1 hbo)) (fun e => by subst e; exact hks (hok.inj k sg _ _ _ hkk hsg h1 hbs)))⟩
  · rw [updO_at] at hk1 hk2
    have g : ∀ j x, (if j = o then some (⟨e5, 0, [[.wds t' n]]⟩ : PObj) else H j) = some x → ∃ y, H j = some y := fun j x hj => by
      split at hj
      · rename_i e; subst e; exact ⟨_, ho⟩
      · exact ⟨x, hj⟩
    obtain ⟨y, hy⟩ := g k x hk1
    obtain ⟨y', hy'⟩ := g k' x' hk2
    exact hok.inj k k' y y' b hy hy'
  · rw [updO_at] at hk1
    by_cases hko : k = o
    · subst hko
      rw [hbo] at hb; injection hb with hb; subst hb
      exact hk.ctl 0 _ _ hK0 hi0
    · rw [if_neg hko] at hk1
      by_cases hks : k = sg
      · subst hks
        rw [hbs] at hb; injection hb with hb; subst hb
        exact hk.ctl 1 _ _ hK1 hi1
      · exact hkept' b (hok.ctl k x b hk1 hb) (fun e => by subst e; exact hko (hok.inj k o _ _ _ hk1 ho hb hbo)) (fun e => by subst e; exact hks (hok.inj k sg _ _ _ hk1 hsg hb hbs))
  · exact same b hb (fun e => hn ⟨o, _, ho, by rw [e]; exact hbo⟩) (fun e => hn ⟨sg, _, hsg, by rw [e]; exact hbs⟩)
  · obtain ⟨k, x, hk1, hb1⟩ := hh
    rw [updO_at] at hk1
    split at hk1
    · rename_i e; subst e; exact ⟨k, _, ho, hb1⟩
    · exact ⟨k, x, hk1, hb1⟩
  · exact hkept' b hb (fun e => hn o _ ho (by rw [e]; exact hbo)) (fun e => hn sg _ hsg (by rw [e]; exact hbs))
end Go.Proofs.YtdpphbcneihllaaGreat.Pe
namespace Go.Proofs.YtdpphbcneihllaaGreat.Pe
open Go
def RunAt (P : Program) (f : Nat) (ads : List AD) (H : Hp) (nx : Nat) (r : RV) (H' : Hp) (nx' : Nat) : Prop :=
  ∀ (w : World) (ι : Nat → Option Nat) (M : Nat → Prop) (vals : Array Value), (∀ b, M b → b < w.heap.size) → HeapOk w ι M H nx → vals.size = ads.length →
    (∀ (j : Nat) v a, vals[j]? = some v → ads[j]? = some a → RdA w ι M v a) →
    Calls P f vals w fun e w' => ∃ v ι' M', e = .returned v ∧ RdV w' ι' M' v r ∧ HeapOk w' ι' M' H' nx' ∧ (∀ o b, ι o = some b → ι' o = some b) ∧ Evo (fun _ => False) (fun b => ∃ o x, H o = some x ∧ ι o = some b) w (fun b => ∃ o x, H' o = some x ∧ ι' o = some b) w' ∧
      (∀ b, M b → (∀ o x, H o = some x → ι o ≠ some b) → M' b) ∧ (∀ b, b < w.heap.size → M' b → M b) ∧ (∀ b, M' b → b < w'.heap.size)
theorem FnEff.iff {P : Program} {f : Nat} {F : List AD → Hp → Nat → Option (RV × Hp × Nat)} : FnEff P f F ↔ ∀ ads H nx r H' nx', F ads H nx = some (r, H', nx') → RunAt P f ads H nx r H' nx' := Iff.rfl
def ConvO (N : Nat) (τ : Nat → Nat) (x Y : PObj) : Prop := ∀ (w : World) (ι ι' : Nat → Option Nat) (M : Nat → Prop) (b : Nat), (∀ k, k < N → ι' (τ k) = ι k) → ObjAt w ι M b x → ObjAt w ι' M b Y
def ConvR (N : Nat) (τ : Nat → Nat) (x y : RV) : Prop := ∀ (w : World) (ι ι' : Nat → Option Nat) (M : Nat → Prop) (v : Value), (∀ k, k < N → ι' (τ k) = ι k) → RdV w ι M v x → RdV w ι' M v y
def BackO (N : Nat) (σ : Nat → Nat) (Y x : PObj) : Prop := ∀ (w : World) (ι ι' : Nat → Option Nat) (M : Nat → Prop) (b : Nat), (∀ k, k < N → ι' k = ι (σ k)) → ObjAt w ι M b Y → ObjAt w ι' M b x
def BackA (N : Nat) (σ : Nat → Nat) (y x : AD) : Prop := ∀ (w : World) (ι ι' : Nat → Option Nat) (M : Nat → Prop) (v : Value), (∀ k, k < N → ι' k = ι (σ k)) → RdA w ι M v y → RdA w ι' M v x
noncomputable def newNo (σ : Nat → Nat) (n0 nx k : Nat) : Nat := if k < n0 then σ k else nx + (k - n0)
theorem ren_frame {P : Program} {f : Nat} {ads0 ads : List AD} {K K' H H' : Hp} {n0 n1 nx d : Nat} {r0 r : RV} {σ : Nat → Nat} (hrun : RunAt P f ads0 K n0 r0 K' n1) (hσ : ∀ k, k < n0 → σ k < nx) (hd : n0 + d ≤ n1)
    (hinj : ∀ k k' x x', K k = some x → K k' = some x' → σ k = σ k' → k = k')
    (hdom : ∀ k x, K k = some x → k < n0 ∧ ∃ Y, H (σ k) = some Y ∧ BackO n0 σ Y x)
    (hlen : ads.length = ads0.length) (hads : ∀ (j : Nat) a a0, ads[j]? = some a → ads0[j]? = some a0 → BackA n0 σ a a0)
    (hH : ∀ j Y, H' j = some Y → (∃ k x, k < n0 + d ∧ j = newNo σ n0 nx k ∧ K' k = some x ∧ ConvO (n0 + d) (newNo σ n0 nx) x Y) ∨ (H j = some Y ∧ ∀ k x, K k = some x → σ k ≠ j))
    (hr : ConvR (n0 + d) (newNo σ n0 nx) r0 r) : RunAt P f ads H nx r H' (nx + d) := by
  intro w ι M vals hM hok hsz hargs
  let ισ : Nat → Option Nat := fun k => if k < n0 then ι (σ k) else none
  have σat : ∀ k, k < n0 → ισ k = ι (σ k) := fun k hk => if_pos hk
  have some_of : ∀ k, k < nx → ∃ b, ι k = some b := fun k hk => by
    cases h : ι k with
    | some b => exact ⟨b, rfl⟩
    | none => have := (hok.new k).2 h; omega
  have ok0 : HeapOk w ισ M K n0 := by
    refine ⟨fun k => ?_, fun k x hk => ?_, fun k k' x x' b hk hk' hb hb' => ?_, fun k x b hk hb => ?_⟩
    · by_cases hk : k < n0
      · obtain ⟨b, hb⟩ := some_of (σ k) (hσ k hk)
        rw [σat k hk, hb]; simp; omega
      · show n0 ≤ k ↔ (if k < n0 then ι (σ k) else none) = none
        rw [if_neg hk]; simp; omega
    · obtain ⟨hlt, Y, hY, hc⟩ := hdom k x hk
      obtain ⟨b, h1, h2⟩ := hok.objs _ _ hY
      exact ⟨b, by rw [σat k hlt, h1], hc w ι ισ M b (fun k hk => σat k hk) h2⟩
    · obtain ⟨hlt, Y, hY, _⟩ := hdom k x hk
      obtain ⟨hlt', Y', hY', _⟩ := hdom k' x' hk'
      rw [σat k hlt] at hb
      rw [σat k' hlt'] at hb'
      exact hinj k k' x x' hk hk' (hok.inj _ _ _ _ b hY hY' hb hb')
    · obtain ⟨hlt, Y, hY, _⟩ := hdom k x hk
      rw [σat k hlt] at hb
      exact hok.ctl _ _ b hY hb
  have args0 : ∀ (j : Nat) v a, vals[j]? = some v → ads0[j]? = some a → RdA w ισ M v a := fun j v a hv ha => by
    have hj : j < ads.length := by rw [hlen]; exact (List.getElem?_eq_some_iff.1 ha).1
    have hj' : ads[j]? = some ads[j] := List.getElem?_eq_getElem hj
    exact hads j _ _ hj' ha w ι ισ M v (fun k hk => σat k hk) (hargs j v _ hv hj')
  refine (hrun w ισ M vals hM ok0 (by rw [hsz, hlen]) args0).mono fun e w' hp => ?_
  obtain ⟨v, ι1, M', he, hrv, hk, hi, hev, hkept, hback, hlt⟩ := hp
  have domK : ∀ b, (∃ k x, K k = some x ∧ ισ k = some b) → ∃ k x Y, K k = some x ∧ H (σ k) = some Y ∧ ι (σ k) = some b := fun b ⟨k, x, hk, hb⟩ => by
    obtain ⟨hlt, Y, hY, _⟩ := hdom k x hk
    rw [σat k hlt] at hb
    exact ⟨k, x, Y, hk, hY, hb⟩
  let ι' : Nat → Option Nat := fun j => if j < nx then ι j else if j < nx + d then ι1 (n0 + (j - nx)) else none
  have old : ∀ j, j < nx → ι' j = ι j := fun j hj => if_pos hj
  have τat : ∀ k, k < n0 + d → ι' (newNo σ n0 nx k) = ι1 k := fun k hkd => by
    unfold newNo
    split
    · rename_i hk0
      rw [old _ (hσ k hk0)]
      obtain ⟨b, hb⟩ := some_of _ (hσ k hk0)
      rw [hb]
      exact (hi k b (by rw [σat k hk0, hb])).symm
    · show (if nx + (k - n0) < nx then _ else if nx + (k - n0) < nx + d then ι1 (n0 + (nx + (k - n0) - nx)) else none) = _
      rw [if_neg (by omega), if_pos (by omega)]
      congr 1; omega
  have ext : ∀ o b, ι o = some b → ι' o = some b := fun o b hb => by
    have : o < nx := Nat.lt_of_not_le fun h => by rw [(hok.new o).1 h] at hb; cases hb
    rw [old o this]; exact hb
  have ltH : ∀ j Y, H j = some Y → j < nx := fun j Y hj => Nat.lt_of_not_le fun h => by
    obtain ⟨b, hb, _⟩ := hok.objs j Y hj
    rw [(hok.new j).1 h] at hb; cases hb
  have notK : ∀ j Y b, H j = some Y → ι j = some b → (∀ k x, K k = some x → σ k ≠ j) → ∀ k x, K k = some x → ισ k ≠ some b := fun j Y b hj hb hn k x hk hkb => by
    obtain ⟨hlt, Y', hY', _⟩ := hdom k x hk
    rw [σat k hlt] at hkb
    exact hn k x hk (hok.inj _ _ _ _ b hY' hj hkb hb)
  have same : ∀ b, b < w.heap.size → (∀ k x, K k = some x → ισ k ≠ some b) → w'.heap[b]? = w.heap[b]? := fun b hb hn => hev.same b hb fun ⟨k, x, h1, h2⟩ => hn k x h1 h2
  have evw : Evo (fun _ => False) M w M' w' := ⟨hev.os, hev.tape, hev.output, hev.size, fun b hb hn => hev.same b hb fun hh => by
    obtain ⟨k, x, Y, _, h2, h3⟩ := domK b hh
    exact hn (hok.ctl _ _ b h2 h3), fun b hb h => hback b hb h, fun b hb h => h.elim, hev.shape⟩
  have fresh : ∀ k x b, K' k = some x → ι1 k = some b → b < w.heap.size → ∃ k x, K k = some x ∧ ισ k = some b := fun k x b h1 h2 h3 => hev.back b h3 ⟨k, x, h1, h2⟩
  refine ⟨v, ι', M', he, hr w' ι1 ι' M' v τat hrv, ⟨fun j => ?_, fun j Y hj => ?_, fun j j' Y Y' b hj hj' hb hb' => ?_, fun j Y b hj hb => ?_⟩, ext, ⟨hev.os, hev.tape, hev.output, hev.size, fun b hb hn => ?_, fun b hb hh => ?_, fun b hb h => h.elim, hev.shape⟩, fun b hb hn => ?_, hback, hlt⟩
  · by_cases h1 : j < nx
    · obtain ⟨b, hb⟩ := some_of j h1
      rw [old j h1, hb]; simp; omega
    · by_cases h2 : j < nx + d
      · have e : ι' j = ι1 (n0 + (j - nx)) := by show (if j < nx then _ else _) = _; rw [if_neg h1, if_pos h2]
        have : ι1 (n0 + (j - nx)) ≠ none := fun h => by have := (hk.new _).2 h; omega
        rw [e]
        constructor
        · intro h; omega
        · intro h; exact absurd h this
      · have e : ι' j = none := by show (if j < nx then _ else _) = _; rw [if_neg h1, if_neg h2]
        rw [e]; simp; omega
  · rcases hH j Y hj with ⟨k, x, hkd, rfl, hx, hc⟩ | ⟨h1, h2⟩
    · obtain ⟨b, hb, ho⟩ := hk.objs k x hx
      exact ⟨b, by rw [τat k hkd]; exact hb, hc w' ι1 ι' M' b τat ho⟩
    · obtain ⟨b, hb, ho⟩ := hok.objs j Y h1
      exact ⟨b, ext j b hb, ho.mono evw ext (same b (hM b (hok.ctl j Y b h1 hb)) (notK j Y b h1 hb h2))⟩
  · rcases hH j Y hj with ⟨k, x, hkd, rfl, hx, _⟩ | ⟨h1, h2⟩ <;> rcases hH j' Y' hj' with ⟨k', x', hkd', rfl, hx', _⟩ | ⟨h1', h2'⟩
    · rw [τat k hkd] at hb; rw [τat k' hkd'] at hb'
      rw [hk.inj k k' x x' b hx hx' hb hb']
    · rw [τat k hkd] at hb
      rw [old j' (ltH j' Y' h1')] at hb'
      obtain ⟨k2, x2, h3, h4⟩ := fresh k x b hx hb (hM b (hok.ctl j' Y' b h1' hb'))
      exact absurd h4 (notK j' Y' b h1' hb' h2' k2 x2 h3)
    · rw [τat k' hkd'] at hb'
      rw [old j (ltH j Y h1)] at hb
      obtain ⟨k2, x2, h3, h4⟩ := fresh k' x' b hx' hb' (hM b (hok.ctl j Y b h1 hb))
      exact absurd h4 (notK j Y b h1 hb h2 k2 x2 h3)
    · rw [old j (ltH j Y h1)] at hb
      rw [old j' (ltH j' Y' h1')] at hb'
      exact hok.inj j j' Y Y' b h1 h1' hb hb'
  · rcases hH j Y hj with ⟨k, x, hkd, rfl, hx, _⟩ | ⟨h1, h2⟩
    · rw [τat k hkd] at hb; exact hk.ctl k x b hx hb
    · rw [old j (ltH j Y h1)] at hb
      exact hkept b (hok.ctl j Y b h1 hb) (notK j Y b h1 hb h2)
  · exact same b hb fun k x h1 h2 => by
      obtain ⟨k', x', Y, _, h4, h5⟩ := domK b ⟨k, x, h1, h2⟩
      exact hn ⟨_, Y, h4, h5⟩
  · obtain ⟨j, Y, hj, hb'⟩ := hh
    rcases hH j Y hj with ⟨k, x, hkd, rfl, hx, _⟩ | ⟨h1, h2⟩
    · rw [τat k hkd] at hb'
      obtain ⟨k2, x2, Y2, _, h4, h5⟩ := domK b (fresh k x b hx hb' hb)
      exact ⟨_, Y2, h4, h5⟩
    · rw [old j (ltH j Y h1)] at hb'
      exact ⟨j, Y, h1, hb'⟩
  · exact hkept b hb fun k x h1 h2 => by
      obtain ⟨k', x', Y, _, h4, h5⟩ := domK b ⟨k, x, h1, h2⟩
      exact hn _ Y h4 h5
def D.bare : D → Bool
  | .int _ _ | .bool _ | .nilp | .str _ | .nilm | .nilf | .nils | .fn _ | .hole | .anyb => true
  | _ => false
def AD.bare : AD → Bool
  | .one d => d.bare
  | .many l => l.all D.bare
def RV.bare : RV → Bool
  | .a x => x.bare
  | .tup l => l.all AD.bare
section
variable {w w' : World} {ι ι' : Nat → Option Nat} {M M' : Nat → Prop} {b nx : Nat} {P : Program}
theorem Rd.bare {v : Value} {d : D} (h : Rd w ι M v d) (hf : d.bare = true) : Rd w' ι' M' v d := by
  cases h <;> first | (cases hf; done) | (constructor; done) | (constructor; assumption)
theorem RdL.bare {vs : List Value} {ds : List D} (h : RdL w ι M vs ds) (hf : ds.all D.bare = true) : RdL w' ι' M' vs ds := ⟨h.1, fun j v d hv hd => (h.2 j v d hv hd).bare (List.all_eq_true.1 hf d (List.mem_of_getElem? hd))⟩
theorem RdA.bare {v : Value} {a : AD} (h : RdA w ι M v a) (hf : a.bare = true) : RdA w' ι' M' v a := by
  cases a with
  | one d => exact Rd.bare (w' := w') (ι' := ι') (M' := M') (show Rd w ι M v d from h) hf
  | many l =>
    obtain ⟨cs, e, hl⟩ := (show ∃ cs, v = .agg cs ∧ RdL w ι M cs.toList l from h)
    exact ⟨cs, e, hl.bare hf⟩
theorem RdV.bare {v : Value} {r : RV} (h : RdV w ι M v r) (hf : r.bare = true) : RdV w' ι' M' v r := by
  cases r with
  | a a => exact RdA.bare (w' := w') (ι' := ι') (M' := M') (show RdA w ι M v a from h) hf
  | tup l =>
    obtain ⟨vs, e, hl, hr⟩ := (show RdT w ι M v l from h)
    exact ⟨vs, e, hl, fun j v x hv hx => (hr j v x hv hx).bare (List.all_eq_true.1 hf x (List.mem_of_getElem? hx))⟩
end
theorem ConvR.bare {N : Nat} {τ : Nat → Nat} {r : RV} (h : r.bare = true) : ConvR N τ r r := fun w ι ι' M v _ hr => hr.bare h
theorem BackA.bare {N : Nat} {σ : Nat → Nat} {a : AD} (h : a.bare = true) : BackA N σ a a := fun w ι ι' M v _ hr => hr.bare h
theorem bare_run {P : Program} {f : Nat} {ads : List AD} {K' : Hp} {n1 : Nat} {r : RV} (hrun : RunAt P f ads (.tr .leaf) 0 r K' n1) (ha : ∀ a ∈ ads, a.bare = true) (hr : r.bare = true) (H : Hp) (nx : Nat) : RunAt P f ads H nx r H nx :=
  ren_frame (d := 0) (σ := fun k => k) hrun (fun k hk => by omega) (by omega) (fun k k' x x' h => by cases h) (fun k x h => by cases h) rfl
    (fun j a a0 h1 h2 => by rw [h1] at h2; injection h2 with h2; subst h2; exact .bare (ha a (List.mem_of_getElem? h1))) (fun j Y h => .inr ⟨h, fun k x h => by cases h⟩) (.bare hr)
noncomputable def segW (e1 e5 : Option Nat) (t : Tr Nat) (n : Nat) : Hp := .tr (.node (some ⟨e5, 0, [[.wds t n]]⟩) (.node (some ⟨e1, 1, [[.ref 0 1 0 n]]⟩) .leaf .leaf) .leaf)
theorem segW_some {e1 e5 : Option Nat} {t : Tr Nat} {n k : Nat} {x : PObj} (h : segW e1 e5 t n k = some x) : (k = 0 ∧ x = ⟨e5, 0, [[.wds t n]]⟩) ∨ (k = 1 ∧ x = ⟨e1, 1, [[.ref 0 1 0 n]]⟩) := by
  have h : (Tr.node (some (⟨e5, 0, [[.wds t n]]⟩ : PObj)) (.node (some ⟨e1, 1, [[.ref 0 1 0 n]]⟩) .leaf .leaf) .leaf).get k = some x := h
  cases k with
  | zero => injection h with h; exact .inl ⟨rfl, h.symm⟩
  | succ k =>
    rw [Tr.get_succ] at h
    split at h
    · rename_i h2
      cases hk : k / 2 with
      | zero => rw [hk] at h; injection h with h; exact .inr ⟨by omega, h.symm⟩
      | succ j =>
        rw [hk, Tr.get_succ] at h
        split at h <;> cases h
    · cases h
def SameW (n : Nat) (t t' : Tr Nat) : Prop := ∀ k, 8 * k < n → (t.get k).getD 0 = (t'.get k).getD 0
theorem SameW.refl (n : Nat) (t : Tr Nat) : SameW n t t := fun _ _ => rfl
theorem SameW.rows {n : Nat} {t t' : Tr Nat} (h : SameW n t t') : wdsRows t n = wdsRows t' n := by
  unfold wdsRows
  refine List.map_congr_left fun i hi => ?_
  have hi := List.mem_range.1 hi
  unfold byteOf
  rw [h (i / 8) (by omega)]
theorem wds_same {w : World} {ι ι' : Nat → Option Nat} {M : Nat → Prop} {b : Nat} {e : Option Nat} {t t' : Tr Nat} {n : Nat} (he : SameW n t t') (h : ObjAt w ι M b ⟨e, 0, [[.wds t n]]⟩) : ObjAt w ι' M b ⟨e, 0, [[.wds t' n]]⟩ := by
  have h1 : ObjAt w ι' M b ⟨e, 1, wdsRows t n⟩ := wds_rd (ι := ι) (M := M) h.exp
  rw [he.rows] at h1
  exact ObjAt.unexp (ob := ⟨e, 0, [[.wds t' n]]⟩) h1
theorem seg_run {P : Program} {f : Nat} {rest : List AD} {K' H : Hp} {sg o n n1 nx : Nat} {e1 e5 : Option Nat} {t t1 t' t'' : Tr Nat} {r : RV} (hrun : RunAt P f (.one (.ptr 1 1 0 0) :: rest) (segW e1 e5 t1 n) 2 r K' n1) (hn1 : 2 ≤ n1)
    (ht : SameW n t t1) (ht' : SameW n t' t'') (hK0 : K' 0 = some ⟨e5, 0, [[.wds t' n]]⟩) (hK1 : K' 1 = some ⟨e1, 1, [[.ref 0 1 0 n]]⟩) (ha : ∀ a ∈ rest, a.bare = true) (hr : r.bare = true)
    (hsg : H sg = some ⟨e1, 1, [[.ref o 1 0 n]]⟩) (ho : H o = some ⟨e5, 0, [[.wds t n]]⟩) (hso : sg < nx) (hoo : o < nx) : RunAt P f (.one (.ptr sg 1 0 0) :: rest) H nx r (updO H o (some ⟨e5, 0, [[.wds t'' n]]⟩)) nx := by
  have hne : o ≠ sg := fun e => by subst e; rw [hsg] at ho; cases ho
  have s0 : (fun k => if k = 0 then o else sg) 0 = o := rfl
  have s1 : (fun k => if k = 0 then o else sg) 1 = sg := rfl
  refine ren_frame (d := 0) (σ := fun k => if k = 0 then o else sg) hrun (fun k hk => ?_) (by omega) (fun k k' x x' h h' e => ?_) (fun k x h => ?_) rfl (fun j a a0 h1 h2 => ?_) (fun j Y h => ?_) (.bare hr)
  · show (if k = 0 then o else sg) < nx
    split <;> assumption
  · rcases segW_some h with ⟨rfl, _⟩ | ⟨rfl, _⟩ <;> rcases segW_some h' with ⟨rfl, _⟩ | ⟨rfl, _⟩
    · rfl
    · exact absurd e hne
    · exact absurd e.symm hne
    · rfl
  · rcases segW_some h with ⟨rfl, rfl⟩ | ⟨rfl, rfl⟩
    · exact ⟨by omega, _, ho, fun w ι ι' M b hi h => wds_same ht h⟩
    · exact ⟨by omega, _, hsg, fun w ι ι' M b hi h => seg_ref h fun c hc => by rw [hi 0 (by omega)]; exact hc⟩
  · cases j with
    | zero =>
      injection h1 with h1; injection h2 with h2; subst h1; subst h2
      intro w ι ι' M v hi hv
      have hv : Rd w ι M v (.ptr sg 1 0 0) := hv
      cases hv with
      | ptr _ _ _ _ b h hs => exact Rd.ptr 1 1 0 0 _ (by rw [hi 1 (by omega)]; exact h) hs
    | succ j =>
      have h1 : rest[j]? = some a := h1
      have h2 : rest[j]? = some a0 := h2
      rw [h1] at h2; injection h2 with h2; subst h2
      exact .bare (ha a (List.mem_of_getElem? h1))
  · rw [updO_at] at h
    split at h
    · rename_i e; subst e
      injection h with h; subst h
      exact .inl ⟨0, _, by omega, by unfold newNo; rw [if_pos (by omega)]; rfl, hK0, fun w ι ι' M b hi h => wds_same ht' h⟩
    · rename_i hjo
      by_cases hjs : j = sg
      · subst hjs
        rw [hsg] at h; injection h with h; subst h
        refine .inl ⟨1, _, by omega, by unfold newNo; rw [if_pos (by omega)]; rfl, hK1, fun w ι ι' M b hi h => seg_ref h fun c hc => ?_⟩
        have := hi 0 (by omega)
        unfold newNo at this
        rw [if_pos (by omega)] at this
        rw [← hc]; exact this
      · refine .inr ⟨h, fun k x hk => ?_⟩
        rcases segW_some hk with ⟨rfl, _⟩ | ⟨rfl, _⟩
        · exact fun e => hjo e.symm
        · exact fun e => hjs e.symm
end Go.Proofs.YtdpphbcneihllaaGreat.Pe
namespace Go.Proofs.YtdpphbcneihllaaGreat.Pe
open Go Go.ChangeShapes Go.WideShapes Go.ChangeAt Go.RowKit
theorem own : ownKnob Tryz.prog.godebug = none := by kernel_rfl
theorem laidOut : laidOutB Tryz.prog = true := by kernel_rfl
def RdIn (P : Program) (W : World) (d : Nat) (t : TypeId) (v : Value) (a : AD) : Prop := RdA W (fun _ => none) (fun _ => False) v a ∧ okD P d t a.cells
theorem law_run {P : Program} {f : Nat} {ads : List AD} {H' : Hp} {nx' : Nat} (hr : RunAt P f ads (.tr .leaf) 0 (.a (.one (.bool true))) H' nx') {vals : Array Value} {w : World} (hl : vals.size = ads.length)
    (h : ∀ (j : Nat) v x, vals[j]? = some v → ads[j]? = some x → RdA w (fun _ => none) (fun _ => False) v x) : Calls P f vals w fun e w' => e = .returned (.bool true) ∧ Below w.heap.size w w' := by
  refine (hr w (fun _ => none) (fun _ => False) vals (fun b h => h.elim) ⟨fun o => (by simp), fun o ob h => (by cases h), fun o o' x x' b h => (by cases h), fun o x b h => (by cases h)⟩ hl h).mono ?_
  rintro e w' ⟨v, ι', M', rfl, hv, _, _, he, _⟩
  have hv : Rd w' ι' M' v (.bool true) := hv
  cases hv
  refine ⟨rfl, he.os, he.tape, he.output, he.size, fun k hk => he.same k hk fun hx => ?_⟩
  obtain ⟨o, x, h1, _⟩ := hx
  cases h1
section
variable {H : Type} {enc : TypeId × Value → H} {P : Program} {W : World} {base b0 : Nat} {spare : Nat → Bool} {held : Bool} {t : TypeId} {v : Value} {x : DataW H} {p : List MemPlace} {r : Reach}
theorem arg_one (n : Nat) (hp : plainT P n t = true) (hv : v.cells = #[v]) (h : DataW.Trod enc P W base spare held t v x p) : ∃ d, RdIn P W n t v (.one d) := by
  obtain ⟨fuel, hf⟩ := h
  obtain ⟨ds, h1, h2⟩ := plain_reads (w := W) (ι := fun _ => none) (M := fun _ => False) (fun _ h => h) n t fuel _ _ hp hf
  rw [hv] at h1
  have hl := h1.1
  match ds, hl with
  | [d], _ => exact ⟨d, h1.2 0 v d rfl rfl, h2⟩
theorem arg_many (n : Nat) (hp : plainT P n t = true) {cs : Array Value} (hv : v = .agg cs) (h : DataW.Trod enc P W base spare held t v x p) : ∃ ds, RdIn P W n t v (.many ds) := by
  obtain ⟨fuel, hf⟩ := h
  obtain ⟨ds, h1, h2⟩ := plain_reads (w := W) (ι := fun _ => none) (M := fun _ => False) (fun _ h => h) n t fuel _ _ hp hf
  subst hv
  exact ⟨ds, ⟨cs, rfl, h1⟩, h2⟩
theorem arg_sl (n : Nat) {e : TypeId} (hu : P.underlying t = some (.slice e)) (hp : plainT P (n + 1) t = true) (hv : Value.okWide P W r b0 t v) (h : DataW.Trod enc P W base spare held t v x p) :
    ∃ rows, RdIn P W (n + 1) t v (.one (.sl rows)) ∧ rows.length ≤ maxLen ∧ ∀ q ∈ rows, okD P n e q := by
  obtain ⟨a, len, cap, rfl⟩ := okWide_slice hu hv
  obtain ⟨d, h1, h2⟩ := arg_one (n + 1) hp rfl h
  have h2' := h2
  unfold okD at h2
  rw [hu] at h2
  obtain ⟨rows, e1, e2, e3⟩ := h2
  simp only [AD.cells, List.cons.injEq, and_true] at e1
  subst e1
  exact ⟨rows, ⟨h1, h2'⟩, e2, e3⟩
theorem arg_st (n : Nat) {fs : Array Field} (hu : P.underlying t = some (.struct fs)) (hp : plainT P n t = true) (hv : Value.okWide P W r b0 t v) (h : DataW.Trod enc P W base spare held t v x p) :
    ∃ ds, RdIn P W n t v (.many ds) ∧ okD P n t ds := by
  obtain ⟨cs, rfl, _⟩ := okWide_struct hu hv
  obtain ⟨ds, h1⟩ := arg_many n hp rfl h
  exact ⟨ds, h1, h1.2⟩
end
end Go.Proofs.YtdpphbcneihllaaGreat.Pe
namespace Go.Proofs.YtdpphbcneihllaaGreat.Pe
open Go
structure TL where
  n : Nat
  orc : List (Nat × Bool)
  cs : List Bool
  eqs : List (AV × AV)
  lg : List Bool
structure TL.Ok (T : TL) : Prop where
  cs : ∀ c ∈ T.cs, c = true
  eqs : ∀ p ∈ T.eqs, p.1 = p.2
structure TL.Le (T T' : TL) : Prop where
  cs : ∀ c ∈ T.cs, c ∈ T'.cs
  eqs : ∀ p ∈ T.eqs, p ∈ T'.eqs
theorem TL.Le.refl (T : TL) : T.Le T := ⟨fun _ h => h, fun _ h => h⟩
theorem TL.Le.trans {T T' T'' : TL} (h : T.Le T') (k : T'.Le T'') : T.Le T'' := ⟨fun c hc => k.cs c (h.cs c hc), fun p hp => k.eqs p (h.eqs p hp)⟩
theorem TL.Le.ok {T T' : TL} (h : T.Le T') (k : T'.Ok) : T.Ok := ⟨fun c hc => k.cs c (h.cs c hc), fun p hp => k.eqs p (h.eqs p hp)⟩
noncomputable def litT (b : Bool) (T : TL) : Bool × TL := Bool.rec (motive := fun _ => Bool × TL) (false, ⟨Nat.succ T.n, T.orc, T.cs, T.eqs, false :: T.lg⟩) (true, ⟨Nat.succ T.n, T.orc, T.cs, T.eqs, true :: T.lg⟩) b
noncomputable def decT (b : Bool) (T : TL) : Bool × TL := match T.orc with
  | [] => litT b T
  | p :: l => br (Nat.beq p.1 T.n) (p.2, ⟨Nat.succ T.n, l, br p.2 b (not b) :: T.cs, T.eqs, p.2 :: T.lg⟩) (litT b T)
theorem litT_eq (b : Bool) (T : TL) : litT b T = (b, ⟨Nat.succ T.n, T.orc, T.cs, T.eqs, b :: T.lg⟩) := by cases b <;> rfl
theorem decT_le {b x : Bool} {T T' : TL} (h : decT b T = (x, T')) : T.Le T' := by
  have lit : litT b T = (x, T') → T.Le T' := fun h => by
    rw [litT_eq] at h
    simp only [Prod.mk.injEq] at h; obtain ⟨rfl, rfl⟩ := h
    exact ⟨fun _ h => h, fun _ h => h⟩
  unfold decT at h
  split at h
  · exact lit h
  · cases hb : Nat.beq _ T.n with
    | false => rw [hb] at h; exact lit h
    | true =>
      rw [hb] at h
      simp only [br, Prod.mk.injEq] at h; obtain ⟨rfl, rfl⟩ := h
      exact ⟨fun _ h => List.mem_cons_of_mem _ h, fun _ h => h⟩
theorem decT_ok {b x : Bool} {T T' : TL} (h : decT b T = (x, T')) (hT : T'.Ok) : x = b := by
  have lit : litT b T = (x, T') → x = b := fun h => by
    rw [litT_eq] at h
    simp only [Prod.mk.injEq] at h; exact h.1.symm
  unfold decT at h
  split at h
  · exact lit h
  · rename_i p l _
    cases hb : Nat.beq p.1 T.n with
    | false => rw [hb] at h; exact lit h
    | true =>
      rw [hb] at h
      have h : (p.2, (⟨Nat.succ T.n, l, br p.2 b (not b) :: T.cs, T.eqs, p.2 :: T.lg⟩ : TL)) = (x, T') := h
      simp only [Prod.mk.injEq] at h; obtain ⟨rfl, rfl⟩ := h
      have := hT.cs _ List.mem_cons_self
      generalize p.2 = y at *
      cases y <;> cases b <;> first | rfl | cases this
noncomputable def TL.need (l : List Bool) (T : TL) : TL := ⟨T.n, T.orc, l ++ T.cs, T.eqs, T.lg⟩
theorem TL.need_le (l : List Bool) (T : TL) : T.Le (T.need l) := ⟨fun _ h => List.mem_append_right _ h, fun _ h => h⟩
theorem TL.need_ok {l : List Bool} {T : TL} (h : (T.need l).Ok) : ∀ c ∈ l, c = true := fun c hc => h.cs c (List.mem_append_left _ hc)
inductive IR where
  | num (k : IntKind) (n : Nat) (cs : List Bool)
  | boo (b : Bool)
  | no
noncomputable def isU : IntKind → Bool
  | .u64 | .u32 | .u8 | .u16 => true
  | _ => false
noncomputable def limU : IntKind → Nat
  | .u64 => 18446744073709551616
  | .u32 => 4294967296
  | .u16 => 65536
  | .u8 => 256
  | .i64 => 9223372036854775808
  | .i32 => 2147483648
  | .i16 => 32768
  | _ => 128
noncomputable def wrapN (k : IntKind) (n : Nat) (cs : List Bool) : IR := br (isU k) (.num k (Nat.mod n (limU k)) cs) (.num k n (Nat.blt n (limU k) :: cs))
noncomputable def bothN (k : IntKind) (a b : Nat) : List Bool := [Nat.blt a (limU k), Nat.blt b (limU k)]
noncomputable def binI (op : BinOp) (k k' : IntKind) (a b : Nat) : IR := match op with
  | .add => br (decide (k = k')) (.num k (Nat.add a b) [Nat.blt (Nat.add a b) (limU k)]) .no
  | .sub => br (decide (k = k')) (br (isU k) (.num k (Nat.sub a b) [Nat.ble b a, Nat.blt a (limU k)]) .no) .no
  | .mul => br (decide (k = k')) (wrapN k (Nat.mul a b) []) .no
  | .quo => br (decide (k = k')) (.num k (Nat.div a b) [Nat.blt 0 b, Nat.blt a (limU k)]) .no
  | .rem => br (decide (k = k')) (.num k (Nat.mod a b) [Nat.blt 0 b]) .no
  | .and => br (decide (k = k')) (br (isU k) (.num k (Nat.land a b) (bothN k a b)) .no) .no
  | .or => br (decide (k = k')) (br (isU k) (.num k (Nat.lor a b) (bothN k a b)) .no) .no
  | .xor => br (decide (k = k')) (br (isU k) (.num k (Nat.xor a b) (bothN k a b)) .no) .no
  | .andNot => br (decide (k = k')) (br (isU k) (.num k (Nat.xor a (Nat.land a b)) (bothN k a b)) .no) .no
  | .shl => wrapN k (Nat.mul a (Nat.pow 2 (Nat.min b k.bits))) []
  | .shr => .num k (Nat.div a (Nat.pow 2 (Nat.min b k.bits))) []
  | .eql => br (decide (k = k')) (.boo (Nat.beq a b)) .no
  | .neq => br (decide (k = k')) (.boo (not (Nat.beq a b))) .no
  | .lss => br (decide (k = k')) (.boo (Nat.blt a b)) .no
  | .leq => br (decide (k = k')) (.boo (Nat.ble a b)) .no
  | .gtr => br (decide (k = k')) (.boo (Nat.blt b a)) .no
  | .geq => br (decide (k = k')) (.boo (Nat.ble b a)) .no
noncomputable def IR.D : IR → Option D
  | .num k n _ => some (.int k (.ofNat n))
  | .boo b => some (.bool b)
  | .no => none
noncomputable def IR.cs : IR → List Bool
  | .num _ _ cs => cs
  | _ => []
theorem blt_lt {a b : Nat} (h : Nat.blt a b = true) : a < b := Nat.le_of_ble_eq_true h
theorem wrap_u {k : IntKind} (h : isU k = true) (n : Int) : k.wrap n = n % (limU k : Nat) := by
  cases k <;> first | cases h; done | (simp [IntKind.wrap, IntKind.bits, IntKind.signed, limU])
theorem wrap_i {k : IntKind} {n : Nat} (h : n < limU k) : k.wrap (n : Int) = n := by
  cases hk : isU k with
  | true => rw [wrap_u hk]; exact Int.emod_eq_of_lt (by omega) (by omega)
  | false =>
    cases k <;> first | cases hk; done | skip
    all_goals
      simp only [limU] at h
      simp only [IntKind.wrap, IntKind.bits, IntKind.signed, Bool.true_and, Nat.reduceSub]
    · have h1 : (n : Int) % 2 ^ 8 = n := by omega
      exact (if_neg fun h2 => by have h3 : (n : Int) % 2 ^ 8 ≥ 2 ^ 7 := of_decide_eq_true h2; omega).trans h1
    · have h1 : (n : Int) % 2 ^ 16 = n := by omega
      exact (if_neg fun h2 => by have h3 : (n : Int) % 2 ^ 16 ≥ 2 ^ 15 := of_decide_eq_true h2; omega).trans h1
    · have h1 : (n : Int) % 2 ^ 32 = n := by omega
      exact (if_neg fun h2 => by have h3 : (n : Int) % 2 ^ 32 ≥ 2 ^ 31 := of_decide_eq_true h2; omega).trans h1
    · have h1 : (n : Int) % 2 ^ 64 = n := by omega
      exact (if_neg fun h2 => by have h3 : (n : Int) % 2 ^ 64 ≥ 2 ^ 63 := of_decide_eq_true h2; omega).trans h1
theorem wrapN_ok {k : IntKind} {n : Nat} {cs : List Bool} (h : ∀ c ∈ (wrapN k n cs).cs, c = true) : (wrapN k n cs).D = some (.int k (k.wrap (n : Int))) := by
  unfold wrapN at *
  cases hk : isU k with
  | true =>
    rw [hk] at h
    show some (D.int k (Int.ofNat (n % limU k))) = _
    rw [wrap_u hk]; rfl
  | false =>
    rw [hk] at h
    have : n < limU k := blt_lt (h _ List.mem_cons_self)
    show some (D.int k (n : Int)) = _
    rw [wrap_i this]
theorem bits_u {op : BinOp} {k : IntKind} {a b : Nat} (hk : isU k = true) (ha : a < limU k) (hb : b < limU k) :
    bits op k (a : Int) (b : Int) = ((match op with | .and => Nat.land a b | .or => Nat.lor a b | .xor => Nat.xor a b | _ => Nat.xor a (Nat.land a b) : Nat) : Int) := by
  unfold bits
  have key : ∀ m, m < limU k → k.wrap ((m : Nat) : Int) = m := fun m hm => wrap_i hm
  have hl : limU k = 2 ^ k.bits := by cases k <;> first | cases hk; done | rfl
  have hA : (BitVec.ofInt k.bits (a : Int)).toNat = a := by rw [BitVec.toNat_ofInt]; rw [hl] at ha; rw [Int.emod_eq_of_lt (by omega) (by exact_mod_cast ha)]; rfl
  have hB : (BitVec.ofInt k.bits (b : Int)).toNat = b := by rw [BitVec.toNat_ofInt]; rw [hl] at hb; rw [Int.emod_eq_of_lt (by omega) (by exact_mod_cast hb)]; rfl
  have hx : ∀ v : BitVec k.bits, k.wrap (v.toNat : Int) = v.toNat := fun v => key _ (by rw [hl]; exact v.isLt)
  simp only
  rw [hx]
  congr 1
  have e : BitVec.ofInt k.bits (a : Int) &&& ~~~ BitVec.ofInt k.bits (b : Int) = BitVec.ofInt k.bits (a : Int) ^^^ (BitVec.ofInt k.bits (a : Int) &&& BitVec.ofInt k.bits (b : Int)) := by
    ext i hi
    simp only [BitVec.getElem_and, BitVec.getElem_not, BitVec.getElem_xor]
    generalize (BitVec.ofInt k.bits (a : Int))[i] = p
    generalize (BitVec.ofInt k.bits (b : Int))[i] = q
    cases p <;> cases q <;> rfl
  cases op <;> simp only [e, BitVec.toNat_and, BitVec.toNat_or, BitVec.toNat_xor, hA, hB] <;> rfl
theorem binI_ok {op : BinOp} {k k' : IntKind} {a b : Nat} {r : D} (h : (binI op k k' a b).D = some r) (hc : ∀ c ∈ (binI op k k' a b).cs, c = true) : binD op (.int k (.ofNat a)) (.int k' (.ofNat b)) = some r := by
  have e1 : ∀ n : Nat, Int.ofNat n = (n : Int) := fun _ => rfl
  have kk : ∀ {x : IR}, (br (decide (k = k')) x .no).D = some r → k = k' := fun {x} h => by
    by_cases e : k = k'
    · exact e
    · rw [decide_eq_false e] at h; cases h
  unfold binI at h hc
  cases op <;> simp only at h hc <;> try (cases h; done)
  all_goals first
    | (have hkk := kk h; subst hkk
       simp only [decide_true] at h hc
       simp only [binD, if_true, intD, e1])
    | simp only [binD, e1]
  all_goals try simp only [br] at h hc
  · have h1 : a + b < limU k := blt_lt (hc _ List.mem_cons_self)
    have h : some (D.int k (Int.ofNat (a + b))) = some r := h
    rw [← h, ← Int.natCast_add, wrap_i h1]
    rfl
  · cases hk : isU k with
    | false => rw [hk] at h; cases h
    | true =>
      rw [hk] at h hc
      have h1 : b ≤ a := Nat.le_of_ble_eq_true (hc _ List.mem_cons_self)
      have h2 : a < limU k := blt_lt (hc _ (List.mem_cons_of_mem _ List.mem_cons_self))
      have h : some (D.int k (Int.ofNat (a - b))) = some r := h
      rw [← h, ← Int.ofNat_sub h1, wrap_i (by omega)]
      rfl
  · rw [wrapN_ok hc] at h; rw [← h]; rfl
  · have h1 : 0 < b := blt_lt (hc _ List.mem_cons_self)
    have h2 : a < limU k := blt_lt (hc _ (List.mem_cons_of_mem _ List.mem_cons_self))
    rw [if_neg (by omega)]
    have h : some (D.int k (Int.ofNat (a / b))) = some r := h
    rw [← h]
    have : ((a : Int).tdiv (b : Int)) = ((a / b : Nat) : Int) := by rw [Int.ofNat_tdiv]
    rw [this, wrap_i (Nat.lt_of_le_of_lt (Nat.div_le_self a b) h2)]
    rfl
  · have h1 : 0 < b := blt_lt (hc _ List.mem_cons_self)
    rw [if_neg (by omega)]
    have h : some (D.int k (Int.ofNat (a % b))) = some r := h
    rw [← h]
    rfl
  all_goals try
    (cases hk : isU k with
      | false => rw [hk] at h; cases h
      | true =>
        rw [hk] at h hc
        have h1 : a < limU k := blt_lt (hc _ List.mem_cons_self)
        have h2 : b < limU k := blt_lt (hc _ (List.mem_cons_of_mem _ List.mem_cons_self))
        injection h with h
        rw [← h, bits_u hk h1 h2]
        rfl)
  · rw [wrapN_ok hc] at h
    rw [← h]
    unfold shD
    simp only
    rw [if_neg (by omega)]
    congr 2
  · injection h with h
    rw [← h]
    have := shr_nat k k' a b
    simpa only [binD, e1] using this
  all_goals (injection h with h; rw [← h])
  · rw [beq_int]
  · rw [beq_int]; rfl
  · rw [blt_int]
  · rw [ble_int]
  · rw [blt_int]
  · rw [ble_int]
end Go.Proofs.YtdpphbcneihllaaGreat.Pe
