/- A part of the proof of JdH. -/
import Derived.Test.YtmhinddneefmbaaGreatProg
import Derived.ShutString
import Derived.OpenShut
import Derived.Test.YtmhinddneefmbaaGreatKf1
import Derived.Test.YtmhinddneefmbaaGreatKf22
set_option linter.unusedSimpArgs false
set_option linter.unusedVariables false
set_option linter.unusedSectionVars false
namespace Go.Proofs.YtmhinddneefmbaaGreat.Pe
open Go
def D.flat : D → Bool
  | .int _ _ | .bool _ | .nilp => true
  | _ => false
def AD.flat : AD → Bool
  | .one d => d.flat
  | .many _ => false
def RV.flat : RV → Bool
  | .a x => x.flat
  | .tup l => l.all AD.flat
variable {w w' : World} {ι ι' : Nat → Option Nat} {M M' : Nat → Prop} {b nx : Nat} {P : Program}
theorem Rd.flat {v : Value} {d : D} (h : Rd w ι M v d) (hf : d.flat = true) : Rd w' ι' M' v d := by
  cases h <;> first | (cases hf; done) | constructor
theorem RdA.flat {v : Value} {a : AD} (h : RdA w ι M v a) (hf : a.flat = true) : RdA w' ι' M' v a := by
  cases a with
  | one d => exact Rd.flat (w' := w') (ι' := ι') (M' := M') (show Rd w ι M v d from h) hf
  | many l => cases hf
theorem RdV.flat {v : Value} {r : RV} (h : RdV w ι M v r) (hf : r.flat = true) : RdV w' ι' M' v r := by
  cases r with
  | a a => exact RdA.flat (w' := w') (ι' := ι') (M' := M') (show RdA w ι M v a from h) hf
  | tup l =>
    obtain ⟨vs, e, hl, hr⟩ := (show RdT w ι M v l from h)
    exact ⟨vs, e, hl, fun j v x hv hx => (hr j v x hv hx).flat (List.all_eq_true.1 hf x (List.mem_of_getElem? hx))⟩
noncomputable def seg0 (e1 e5 : Option Nat) (bt : Tr Nat) (n : Nat) : Hp := .tr (.node (some ⟨e5, 0, [[.bts bt n]]⟩) (.node (some ⟨e1, 1, [[.ref 0 1 0 n]]⟩) .leaf .leaf) .leaf)
theorem seg0_some {e1 e5 : Option Nat} {bt : Tr Nat} {n k : Nat} {x : PObj} (h : seg0 e1 e5 bt n k = some x) : (k = 0 ∧ x = ⟨e5, 0, [[.bts bt n]]⟩) ∨ (k = 1 ∧ x = ⟨e1, 1, [[.ref 0 1 0 n]]⟩) := by
  have h : (Tr.node (some (⟨e5, 0, [[.bts bt n]]⟩ : PObj)) (.node (some ⟨e1, 1, [[.ref 0 1 0 n]]⟩) .leaf .leaf) .leaf).get k = some x := h
  cases k with
  | zero => injection h with h; exact .inl ⟨rfl, h.symm⟩
  | succ k =>
    rw [Tr.get_succ] at h
    split at h
    · rename_i h2
      cases hk : k / 2 with
      | zero => rw [hk] at h; injection h with h; exact .inr ⟨by omega, h.symm⟩
      | succ j =>
        rw [hk, Tr.get_succ] at h
        split at h <;> cases h
    · cases h
noncomputable def bOf (t : Tr Nat) : Nat → Tr Nat
  | 0 => .leaf
  | n + 1 => (bOf t n).set (some ((t.get (n / 8)).getD 0 / 256 ^ (n % 8) % 256)) 30 n
theorem bOf_get (t : Tr Nat) : ∀ (n : Nat), n ≤ 1000000000 → ∀ i, i < n → (bOf t n).get i = some ((t.get (i / 8)).getD 0 / 256 ^ (i % 8) % 256)
  | 0, _, i, hi => by omega
  | n + 1, hn, i, hi => by
    unfold bOf
    rw [Tr.get_set _ _ _ _ (by omega)]
    split
    · rename_i e; subst e; rfl
    · exact bOf_get t n (by omega) i (by omega)
theorem bOf_rows (t : Tr Nat) {n : Nat} (hn : n ≤ 1000000000) : btsRows (bOf t n) n = wdsRows t n := by
  unfold btsRows wdsRows
  apply List.map_congr_left
  intro i hi
  have hi : i < n := List.mem_range.1 hi
  unfold byteB byteOf
  rw [bOf_get t n hn i hi]
  rfl
theorem seg_ref {e : Option Nat} {o o' n : Nat} (h : ObjAt w ι M b ⟨e, 1, [[.ref o 1 0 n]]⟩) (hi : ∀ c, ι o = some c → ι' o' = some c) : ObjAt w ι' M' b ⟨e, 1, [[.ref o' 1 0 n]]⟩ := by
  rcases h with ⟨h0, _⟩ | ⟨T, cs, hT, hb⟩
  · cases h0
  · refine .inr ⟨T, cs, hT, hb.at_, hb.pos, hb.fit, fun r hr => ?_, fun i j r d hr hd => ?_, hb.one⟩
    · have := List.mem_singleton.1 hr; subst this; rfl
    · cases i with
      | zero =>
        injection hr with hr; subst hr
        cases j with
        | zero =>
          injection hd with hd; subst hd
          obtain ⟨v, h1, h2⟩ := hb.rd 0 0 _ _ rfl rfl
          refine ⟨v, h1, ?_⟩
          cases h2 with
          | ref _ _ _ _ c b h hnc hcm hsz hcap => exact .ref _ _ _ _ c b (hi b h) hnc hcm hsz hcap
        | succ j => simp at hd
      | succ i => simp at hr
theorem wds_rd {e : Option Nat} {t : Tr Nat} {n : Nat} (h : ObjAt w ι M b ⟨e, 1, wdsRows t n⟩) : ObjAt w ι' M' b ⟨e, 1, wdsRows t n⟩ := by
  rcases h with ⟨h0, _⟩ | ⟨T, cs, hT, hb⟩
  · cases h0
  · refine .inr ⟨T, cs, hT, hb.at_, hb.pos, hb.fit, hb.uni, fun i j r d hr hd => ?_, hb.one⟩
    obtain ⟨v, h1, h2⟩ := hb.rd i j r d hr hd
    refine ⟨v, h1, Rd.flat h2 ?_⟩
    obtain ⟨k, _, rfl⟩ := List.mem_map.1 (List.mem_of_getElem? hr)
    cases j with
    | zero => injection hd with hd; subst hd; rfl
    | succ j => simp at hd
theorem wds_bts {e : Option Nat} {t bt : Tr Nat} {n : Nat} (he : btsRows bt n = wdsRows t n) (h : ObjAt w ι M b ⟨e, 0, [[.wds t n]]⟩) : ObjAt w ι' M' b ⟨e, 0, [[.bts bt n]]⟩ := by
  have h1 : ObjAt w ι' M' b ⟨e, 1, wdsRows t n⟩ := wds_rd (ι := ι) (M := M) h.exp
  rcases h1 with ⟨h0, _⟩ | ⟨T, cs, hT, hb⟩
  · cases h0
  · exact ObjAt.ofBlk (ob := ⟨e, 0, [[.bts bt n]]⟩) hT (show Blk w ι' M' b T cs 1 (btsRows bt n) by rw [he]; exact hb)
theorem bts_wds {e : Option Nat} {t bt : Tr Nat} {n : Nat} (he : btsRows bt n = wdsRows t n) (h : ObjAt w ι M b ⟨e, 0, [[.bts bt n]]⟩) : ObjAt w ι' M' b ⟨e, 0, [[.wds t n]]⟩ := by
  obtain ⟨T, cs, hT, hb⟩ := h.blkE (show 0 < 1 by omega)
  have hb : Blk w ι M b T cs 1 (btsRows bt n) := hb
  rw [he] at hb
  exact ObjAt.unexp (ob := ⟨e, 0, [[.wds t n]]⟩) (wds_rd (ι := ι) (M := M) (.inr ⟨T, cs, hT, hb⟩))
noncomputable def io (ι : Nat → Option Nat) (o sg : Nat) : Nat → Option Nat := fun k => if k = 0 then ι o else if k = 1 then ι sg else none
theorem seg_frame {f : Nat} {F : List AD → Hp → Nat → Option (RV × Hp × Nat)} (hF : FnEff P f F) {H : Hp} {sg o n m : Nat} {e1 e5 : Option Nat} {t t' bt bt' : Tr Nat} {rest : List AD} {r : RV} {K : Hp} (hbt : btsRows bt n = wdsRows t n) (hbt' : btsRows bt' n = wdsRows t' n)
    (hsg : H sg = some ⟨e1, 1, [[.ref o 1 0 n]]⟩) (ho : H o = some ⟨e5, 0, [[.wds t n]]⟩) (hrun : F (.one (.ptr 1 1 0 0) :: rest) (seg0 e1 e5 bt n) 2 = some (r, K, m))
    (hK1 : K 1 = some ⟨e1, 1, [[.ref 0 1 0 n]]⟩) (hK0 : K 0 = some ⟨e5, 0, [[.bts bt' n]]⟩) (hr : r.flat = true) (hrest : ∀ x ∈ rest, x.flat = true)
    {vals : Array Value} (hM : ∀ b, M b → b < w.heap.size) (hok : HeapOk w ι M H nx) (hsz : vals.size = (AD.one (.ptr sg 1 0 0) :: rest).length)
    (hargs : ∀ (j : Nat) v a, vals[j]? = some v → (AD.one (.ptr sg 1 0 0) :: rest)[j]? = some a → RdA w ι M v a) :
    Calls P f vals w fun e w' => ∃ v ι' M', e = .returned v ∧ RdV w' ι' M' v r ∧ HeapOk w' ι' M' (updO H o (some ⟨e5, 0, [[.wds t' n]]⟩)) nx ∧ (∀ o b, ι o = some b → ι' o = some b) ∧
      Evo (fun _ => False) (fun b => ∃ o x, H o = some x ∧ ι o = some b) w (fun b => ∃ k x, updO H o (some ⟨e5, 0, [[.wds t' n]]⟩) k = some x ∧ ι' k = some b) w' ∧
      (∀ b, M b → (∀ o x, H o = some x → ι o ≠ some b) → M' b) ∧ (∀ b, b < w.heap.size → M' b → M b) ∧ (∀ b, M' b → b < w'.heap.size) := by
  obtain ⟨bs, hbs, hos⟩ := hok.objs sg _ hsg
  obtain ⟨bo, hbo, hoo⟩ := hok.objs o _ ho
  have hne : o ≠ sg := fun e => by subst e; rw [hsg] at ho; cases ho
  have i0 : io ι o sg 0 = some bo := by simp [io, hbo]
  have i1 : io ι o sg 1 = some bs := by simp [io, hbs]
  have ok0 : HeapOk w (io ι o sg) M (seg0 e1 e5 bt n) 2 := by
    refine ⟨fun k => ?_, fun k ob hk => ?_, fun k k' x x' b hk hk' hb hb' => ?_, fun k x b hk hb => ?_⟩
    · unfold io
      by_cases h0 : k = 0
      · subst h0; simp [hbo]
      · by_cases h1 : k = 1
        · subst h1; simp [hbs]
        · simp only [if_neg h0, if_neg h1]; simp; omega
    · rcases seg0_some hk with ⟨rfl, rfl⟩ | ⟨rfl, rfl⟩
      · exact ⟨bo, i0, wds_bts (ι := ι) (M := M) hbt hoo⟩
      · exact ⟨bs, i1, seg_ref hos fun c hc => by rw [i0, ← hc, hbo]⟩
    · rcases seg0_some hk with ⟨rfl, _⟩ | ⟨rfl, _⟩ <;> rcases seg0_some hk' with ⟨rfl, _⟩ | ⟨rfl, _⟩
      · rfl
      · rw [i0] at hb; rw [i1] at hb'; injection hb with hb; injection hb' with hb'; subst hb; subst hb'
        exact absurd (hok.inj o sg _ _ _ ho hsg hbo hbs) hne
      · rw [i1] at hb; rw [i0] at hb'; injection hb with hb; injection hb' with hb'; subst hb; subst hb'
        exact absurd (hok.inj o sg _ _ _ ho hsg hbo hbs) hne
      · rfl
    · rcases seg0_some hk with ⟨rfl, _⟩ | ⟨rfl, _⟩
      · rw [i0] at hb; injection hb with hb; subst hb; exact hok.ctl o _ _ ho hbo
      · rw [i1] at hb; injection hb with hb; subst hb; exact hok.ctl sg _ _ hsg hbs
  have args0 : ∀ (j : Nat) v a, vals[j]? = some v → (AD.one (.ptr 1 1 0 0) :: rest)[j]? = some a → RdA w (io ι o sg) M v a := fun j v a hv ha => by
    cases j with
    | zero =>
      injection ha with ha; subst ha
      have h1 : Rd w ι M v (.ptr sg 1 0 0) := hargs 0 v _ hv rfl
      cases h1 with
      | ptr _ _ _ _ b h hs =>
        rw [hbs] at h; injection h with h; subst h
        exact Rd.ptr 1 1 0 0 _ i1 hs
    | succ j => exact (hargs (j + 1) v a hv ha).flat (hrest a (List.mem_of_getElem? ha))
  refine (hF _ _ _ _ _ _ hrun w (io ι o sg) M vals hM ok0 hsz args0).mono fun e w' hp => ?_
  obtain ⟨v, ι', M', he, hrv, hk, hi, hev, hkept, hback, hlt⟩ := hp
  have hi0 := hi 0 bo i0
  have hi1 := hi 1 bs i1
  have dom0 : ∀ b, (∃ k x, seg0 e1 e5 bt n k = some x ∧ io ι o sg k = some b) → b = bo ∨ b = bs := fun b ⟨k, x, hk, hb⟩ => by
    rcases seg0_some hk with ⟨rfl, _⟩ | ⟨rfl, _⟩
    · rw [i0] at hb; injection hb with hb; exact .inl hb.symm
    · rw [i1] at hb; injection hb with hb; exact .inr hb.symm
  have same : ∀ b, b < w.heap.size → b ≠ bo → b ≠ bs → w'.heap[b]? = w.heap[b]? := fun b hb h1 h2 => hev.same b hb fun hh => by
    rcases dom0 b hh with h | h
    · exact h1 h
    · exact h2 h
  have hMk : ∀ k x b, H k = some x → ι k = some b → b < w.heap.size := fun k x b h1 h2 => hM b (hok.ctl k x b h1 h2)
  have hkept' : ∀ b, M b → b ≠ bo → b ≠ bs → M' b := fun b hb h1 h2 => hkept b hb fun k x hk hh => by
    rcases dom0 b ⟨k, x, hk, hh⟩ with h | h
    · exact h1 h
    · exact h2 h
  have hoK := hk.objs 0 _ hK0
  have hsK := hk.objs 1 _ hK1
  obtain ⟨bo', hbo', hoK⟩ := hoK
  obtain ⟨bs', hbs', hsK⟩ := hsK
  rw [hi0] at hbo'; injection hbo' with hbo'; subst hbo'
  rw [hi1] at hbs'; injection hbs' with hbs'; subst hbs'
  have evw : Evo (fun _ => False) M w M' w' := ⟨hev.os, hev.tape, hev.output, hev.size, fun b hb hn => hev.same b hb fun hh => by
    rcases dom0 b hh with h | h
    · subst h; exact hn (hok.ctl o _ _ ho hbo)
    · subst h; exact hn (hok.ctl sg _ _ hsg hbs), fun b hb h => hback b hb h, fun b hb h => h.elim, hev.shape⟩
  refine ⟨v, ι, M', he, hrv.flat hr, ⟨hok.new, fun k ob hkk => ?_, fun k k' x x' b hk1 hk2 => ?_, fun k x b hk1 hb => ?_⟩, fun _ _ h => h, ⟨hev.os, hev.tape, hev.output, hev.size, fun b hb hn => ?_, fun b hb hh => ?_, fun b hb h => h.elim, hev.shape⟩, fun b hb hn => ?_, hback, hlt⟩
  · rw [updO_at] at hkk
    split at hkk
    · rename_i e; subst e
      injection hkk with hkk; subst hkk
      exact ⟨bo, hbo, bts_wds hbt' hoK⟩
    · rename_i hko
      by_cases hks : k = sg
      · subst hks
        rw [hsg] at hkk; injection hkk with hkk; subst hkk
        exact ⟨bs, hbs, seg_ref hsK fun c hc => by rw [hi0] at hc; rw [hbo, ← hc]⟩
      · obtain ⟨b, h1, h2⟩ := hok.objs k ob hkk
        exact ⟨b, h1, h2.mono evw (fun _ _ h => h) (same b (hMk k ob b hkk h1) (fun e => by subst e; exact hko (hok.inj k o _ _ _ hkk ho h1 hbo)) (fun e => by subst e; exact hks (hok.inj k sg _ _ _ hkk hsg h1 hbs)))⟩
  · rw [updO_at] at hk1 hk2
    have g : ∀ j x, (if j = o then some (⟨e5, 0, [[.wds t' n]]⟩ : PObj) else H j) = some x → ∃ y, H j = some y := fun j x hj => by
      split at hj
      · rename_i e; subst e; exact ⟨_, ho⟩
      · exact ⟨x, hj⟩
    obtain ⟨y, hy⟩ := g k x hk1
    obtain ⟨y', hy'⟩ := g k' x' hk2
    exact hok.inj k k' y y' b hy hy'
  · rw [updO_at] at hk1
    by_cases hko : k = o
    · subst hko
      rw [hbo] at hb; injection hb with hb; subst hb
      exact hk.ctl 0 _ _ hK0 hi0
    · rw [if_neg hko] at hk1
      by_cases hks : k = sg
      · subst hks
        rw [hbs] at hb; injection hb with hb; subst hb
        exact hk.ctl 1 _ _ hK1 hi1
      · exact hkept' b (hok.ctl k x b hk1 hb) (fun e => by subst e; exact hko (hok.inj k o _ _ _ hk1 ho hb hbo)) (fun e => by subst e; exact hks (hok.inj k sg _ _ _ hk1 hsg hb hbs))
  · exact same b hb (fun e => hn ⟨o, _, ho, by rw [e]; exact hbo⟩) (fun e => hn ⟨sg, _, hsg, by rw [e]; exact hbs⟩)
  · obtain ⟨k, x, hk1, hb1⟩ := hh
    rw [updO_at] at hk1
    split at hk1
    · rename_i e; subst e; exact ⟨k, _, ho, hb1⟩
    · exact ⟨k, x, hk1, hb1⟩
  · exact hkept' b hb (fun e => hn o _ ho (by rw [e]; exact hbo)) (fun e => hn sg _ hsg (by rw [e]; exact hbs))
end Go.Proofs.YtmhinddneefmbaaGreat.Pe
namespace Go.Proofs.YtmhinddneefmbaaGreat.Pe
open Go
def RunAt (P : Program) (f : Nat) (ads : List AD) (H : Hp) (nx : Nat) (r : RV) (H' : Hp) (nx' : Nat) : Prop :=
  ∀ (w : World) (ι : Nat → Option Nat) (M : Nat → Prop) (vals : Array Value), (∀ b, M b → b < w.heap.size) → HeapOk w ι M H nx → vals.size = ads.length →
    (∀ (j : Nat) v a, vals[j]? = some v → ads[j]? = some a → RdA w ι M v a) →
    Calls P f vals w fun e w' => ∃ v ι' M', e = .returned v ∧ RdV w' ι' M' v r ∧ HeapOk w' ι' M' H' nx' ∧ (∀ o b, ι o = some b → ι' o = some b) ∧ Evo (fun _ => False) (fun b => ∃ o x, H o = some x ∧ ι o = some b) w (fun b => ∃ o x, H' o = some x ∧ ι' o = some b) w' ∧
      (∀ b, M b → (∀ o x, H o = some x → ι o ≠ some b) → M' b) ∧ (∀ b, b < w.heap.size → M' b → M b) ∧ (∀ b, M' b → b < w'.heap.size)
theorem FnEff.iff {P : Program} {f : Nat} {F : List AD → Hp → Nat → Option (RV × Hp × Nat)} : FnEff P f F ↔ ∀ ads H nx r H' nx', F ads H nx = some (r, H', nx') → RunAt P f ads H nx r H' nx' := Iff.rfl
def ConvO (N : Nat) (τ : Nat → Nat) (x Y : PObj) : Prop := ∀ (w : World) (ι ι' : Nat → Option Nat) (M : Nat → Prop) (b : Nat), (∀ k, k < N → ι' (τ k) = ι k) → ObjAt w ι M b x → ObjAt w ι' M b Y
def ConvR (N : Nat) (τ : Nat → Nat) (x y : RV) : Prop := ∀ (w : World) (ι ι' : Nat → Option Nat) (M : Nat → Prop) (v : Value), (∀ k, k < N → ι' (τ k) = ι k) → RdV w ι M v x → RdV w ι' M v y
def BackO (N : Nat) (σ : Nat → Nat) (Y x : PObj) : Prop := ∀ (w : World) (ι ι' : Nat → Option Nat) (M : Nat → Prop) (b : Nat), (∀ k, k < N → ι' k = ι (σ k)) → ObjAt w ι M b Y → ObjAt w ι' M b x
def BackA (N : Nat) (σ : Nat → Nat) (y x : AD) : Prop := ∀ (w : World) (ι ι' : Nat → Option Nat) (M : Nat → Prop) (v : Value), (∀ k, k < N → ι' k = ι (σ k)) → RdA w ι M v y → RdA w ι' M v x
noncomputable def newNo (σ : Nat → Nat) (n0 nx k : Nat) : Nat := if k < n0 then σ k else nx + (k - n0)
theorem ren_frame {P : Program} {f : Nat} {ads0 ads : List AD} {K K' H H' : Hp} {n0 n1 nx d : Nat} {r0 r : RV} {σ : Nat → Nat} (hrun : RunAt P f ads0 K n0 r0 K' n1) (hσ : ∀ k, k < n0 → σ k < nx) (hd : n0 + d ≤ n1)
    (hinj : ∀ k k' x x', K k = some x → K k' = some x' → σ k = σ k' → k = k')
    (hdom : ∀ k x, K k = some x → k < n0 ∧ ∃ Y, H (σ k) = some Y ∧ BackO n0 σ Y x)
    (hlen : ads.length = ads0.length) (hads : ∀ (j : Nat) a a0, ads[j]? = some a → ads0[j]? = some a0 → BackA n0 σ a a0)
    (hH : ∀ j Y, H' j = some Y → (∃ k x, k < n0 + d ∧ j = newNo σ n0 nx k ∧ K' k = some x ∧ ConvO (n0 + d) (newNo σ n0 nx) x Y) ∨ (H j = some Y ∧ ∀ k x, K k = some x → σ k ≠ j))
    (hr : ConvR (n0 + d) (newNo σ n0 nx) r0 r) : RunAt P f ads H nx r H' (nx + d) := by
  intro w ι M vals hM hok hsz hargs
  let ισ : Nat → Option Nat := fun k => if k < n0 then ι (σ k) else none
  have σat : ∀ k, k < n0 → ισ k = ι (σ k) := fun k hk => if_pos hk
  have some_of : ∀ k, k < nx → ∃ b, ι k = some b := fun k hk => by
    cases h : ι k with
    | some b => exact ⟨b, rfl⟩
    | none => have := (hok.new k).2 h; omega
  have ok0 : HeapOk w ισ M K n0 := by
    refine ⟨fun k => ?_, fun k x hk => ?_, fun k k' x x' b hk hk' hb hb' => ?_, fun k x b hk hb => ?_⟩
    · by_cases hk : k < n0
      · obtain ⟨b, hb⟩ := some_of (σ k) (hσ k hk)
        rw [σat k hk, hb]; simp; omega
      · show n0 ≤ k ↔ (if k < n0 then ι (σ k) else none) = none
        rw [if_neg hk]; simp; omega
    · obtain ⟨hlt, Y, hY, hc⟩ := hdom k x hk
      obtain ⟨b, h1, h2⟩ := hok.objs _ _ hY
      exact ⟨b, by rw [σat k hlt, h1], hc w ι ισ M b (fun k hk => σat k hk) h2⟩
    · obtain ⟨hlt, Y, hY, _⟩ := hdom k x hk
      obtain ⟨hlt', Y', hY', _⟩ := hdom k' x' hk'
      rw [σat k hlt] at hb
      rw [σat k' hlt'] at hb'
      exact hinj k k' x x' hk hk' (hok.inj _ _ _ _ b hY hY' hb hb')
    · obtain ⟨hlt, Y, hY, _⟩ := hdom k x hk
      rw [σat k hlt] at hb
      exact hok.ctl _ _ b hY hb
  have args0 : ∀ (j : Nat) v a, vals[j]? = some v → ads0[j]? = some a → RdA w ισ M v a := fun j v a hv ha => by
    have hj : j < ads.length := by rw [hlen]; exact (List.getElem?_eq_some_iff.1 ha).1
    have hj' : ads[j]? = some ads[j] := List.getElem?_eq_getElem hj
    exact hads j _ _ hj' ha w ι ισ M v (fun k hk => σat k hk) (hargs j v _ hv hj')
  refine (hrun w ισ M vals hM ok0 (by rw [hsz, hlen]) args0).mono fun e w' hp => ?_
  obtain ⟨v, ι1, M', he, hrv, hk, hi, hev, hkept, hback, hlt⟩ := hp
  have domK : ∀ b, (∃ k x, K k = some x ∧ ισ k = some b) → ∃ k x Y, K k = some x ∧ H (σ k) = some Y ∧ ι (σ k) = some b := fun b ⟨k, x, hk, hb⟩ => by
    obtain ⟨hlt, Y, hY, _⟩ := hdom k x hk
    rw [σat k hlt] at hb
    exact ⟨k, x, Y, hk, hY, hb⟩
  let ι' : Nat → Option Nat := fun j => if j < nx then ι j else if j < nx + d then ι1 (n0 + (j - nx)) else none
  have old : ∀ j, j < nx → ι' j = ι j := fun j hj => if_pos hj
  have τat : ∀ k, k < n0 + d → ι' (newNo σ n0 nx k) = ι1 k := fun k hkd => by
    unfold newNo
    split
    · rename_i hk0
      rw [old _ (hσ k hk0)]
      obtain ⟨b, hb⟩ := some_of _ (hσ k hk0)
      rw [hb]
      exact (hi k b (by rw [σat k hk0, hb])).symm
    · show (if nx + (k - n0) < nx then _ else if nx + (k - n0) < nx + d then ι1 (n0 + (nx + (k - n0) - nx)) else none) = _
      rw [if_neg (by omega), if_pos (by omega)]
      congr 1; omega
  have ext : ∀ o b, ι o = some b → ι' o = some b := fun o b hb => by
    have : o < nx := Nat.lt_of_not_le fun h => by rw [(hok.new o).1 h] at hb; cases hb
    rw [old o this]; exact hb
  have ltH : ∀ j Y, H j = some Y → j < nx := fun j Y hj => Nat.lt_of_not_le fun h => by
    obtain ⟨b, hb, _⟩ := hok.objs j Y hj
    rw [(hok.new j).1 h] at hb; cases hb
  have notK : ∀ j Y b, H j = some Y → ι j = some b → (∀ k x, K k = some x → σ k ≠ j) → ∀ k x, K k = some x → ισ k ≠ some b := fun j Y b hj hb hn k x hk hkb => by
    obtain ⟨hlt, Y', hY', _⟩ := hdom k x hk
    rw [σat k hlt] at hkb
    exact hn k x hk (hok.inj _ _ _ _ b hY' hj hkb hb)
  have same : ∀ b, b < w.heap.size → (∀ k x, K k = some x → ισ k ≠ some b) → w'.heap[b]? = w.heap[b]? := fun b hb hn => hev.same b hb fun ⟨k, x, h1, h2⟩ => hn k x h1 h2
  have evw : Evo (fun _ => False) M w M' w' := ⟨hev.os, hev.tape, hev.output, hev.size, fun b hb hn => hev.same b hb fun hh => by
    obtain ⟨k, x, Y, _, h2, h3⟩ := domK b hh
    exact hn (hok.ctl _ _ b h2 h3), fun b hb h => hback b hb h, fun b hb h => h.elim, hev.shape⟩
  have fresh : ∀ k x b, K' k = some x → ι1 k = some b → b < w.heap.size → ∃ k x, K k = some x ∧ ισ k = some b := fun k x b h1 h2 h3 => hev.back b h3 ⟨k, x, h1, h2⟩
  refine ⟨v, ι', M', he, hr w' ι1 ι' M' v τat hrv, ⟨fun j => ?_, fun j Y hj => ?_, fun j j' Y Y' b hj hj' hb hb' => ?_, fun j Y b hj hb => ?_⟩, ext, ⟨hev.os, hev.tape, hev.output, hev.size, fun b hb hn => ?_, fun b hb hh => ?_, fun b hb h => h.elim, hev.shape⟩, fun b hb hn => ?_, hback, hlt⟩
  · by_cases h1 : j < nx
    · obtain ⟨b, hb⟩ := some_of j h1
      rw [old j h1, hb]; simp; omega
    · by_cases h2 : j < nx + d
      · have e : ι' j = ι1 (n0 + (j - nx)) := by show (if j < nx then _ else _) = _; rw [if_neg h1, if_pos h2]
        have : ι1 (n0 + (j - nx)) ≠ none := fun h => by have := (hk.new _).2 h; omega
        rw [e]
        constructor
        · intro h; omega
        · intro h; exact absurd h this
      · have e : ι' j = none := by show (if j < nx then _ else _) = _; rw [if_neg h1, if_neg h2]
        rw [e]; simp; omega
  · rcases hH j Y hj with ⟨k, x, hkd, rfl, hx, hc⟩ | ⟨h1, h2⟩
    · obtain ⟨b, hb, ho⟩ := hk.objs k x hx
      exact ⟨b, by rw [τat k hkd]; exact hb, hc w' ι1 ι' M' b τat ho⟩
    · obtain ⟨b, hb, ho⟩ := hok.objs j Y h1
      exact ⟨b, ext j b hb, ho.mono evw ext (same b (hM b (hok.ctl j Y b h1 hb)) (notK j Y b h1 hb h2))⟩
  · rcases hH j Y hj with ⟨k, x, hkd, rfl, hx, _⟩ | ⟨h1, h2⟩ <;> rcases hH j' Y' hj' with ⟨k', x', hkd', rfl, hx', _⟩ | ⟨h1', h2'⟩
    · rw [τat k hkd] at hb; rw [τat k' hkd'] at hb'
      rw [hk.inj k k' x x' b hx hx' hb hb']
    · rw [τat k hkd] at hb
      rw [old j' (ltH j' Y' h1')] at hb'
      obtain ⟨k2, x2, h3, h4⟩ := fresh k x b hx hb (hM b (hok.ctl j' Y' b h1' hb'))
      exact absurd h4 (notK j' Y' b h1' hb' h2' k2 x2 h3)
    · rw [τat k' hkd'] at hb'
      rw [old j (ltH j Y h1)] at hb
      obtain ⟨k2, x2, h3, h4⟩ := fresh k' x' b hx' hb' (hM b (hok.ctl j Y b h1 hb))
      exact absurd h4 (notK j Y b h1 hb h2 k2 x2 h3)
    · rw [old j (ltH j Y h1)] at hb
      rw [old j' (ltH j' Y' h1')] at hb'
      exact hok.inj j j' Y Y' b h1 h1' hb hb'
  · rcases hH j Y hj with ⟨k, x, hkd, rfl, hx, _⟩ | ⟨h1, h2⟩
    · rw [τat k hkd] at hb; exact hk.ctl k x b hx hb
    · rw [old j (ltH j Y h1)] at hb
      exact hkept b (hok.ctl j Y b h1 hb) (notK j Y b h1 hb h2)
  · exact same b hb fun k x h1 h2 => by
      obtain ⟨k', x', Y, _, h4, h5⟩ := domK b ⟨k, x, h1, h2⟩
      exact hn ⟨_, Y, h4, h5⟩
  · obtain ⟨j, Y, hj, hb'⟩ := hh
    rcases hH j Y hj with ⟨k, x, hkd, rfl, hx, _⟩ | ⟨h1, h2⟩
    · rw [τat k hkd] at hb'
      obtain ⟨k2, x2, Y2, _, h4, h5⟩ := domK b (fresh k x b hx hb' hb)
      exact ⟨_, Y2, h4, h5⟩
    · rw [old j (ltH j Y h1)] at hb'
      exact ⟨j, Y, h1, hb'⟩
  · exact hkept b hb fun k x h1 h2 => by
      obtain ⟨k', x', Y, _, h4, h5⟩ := domK b ⟨k, x, h1, h2⟩
      exact hn _ Y h4 h5
def D.bare : D → Bool
  | .int _ _ | .bool _ | .nilp | .str _ | .nilm | .nilf | .nils | .fn _ | .hole | .anyb => true
  | _ => false
def AD.bare : AD → Bool
  | .one d => d.bare
  | .many l => l.all D.bare
def RV.bare : RV → Bool
  | .a x => x.bare
  | .tup l => l.all AD.bare
section
variable {w w' : World} {ι ι' : Nat → Option Nat} {M M' : Nat → Prop} {b nx : Nat} {P : Program}
theorem Rd.bare {v : Value} {d : D} (h : Rd w ι M v d) (hf : d.bare = true) : Rd w' ι' M' v d := by
  cases h <;> first | (cases hf; done) | (constructor; done) | (constructor; assumption)
theorem RdL.bare {vs : List Value} {ds : List D} (h : RdL w ι M vs ds) (hf : ds.all D.bare = true) : RdL w' ι' M' vs ds := ⟨h.1, fun j v d hv hd => (h.2 j v d hv hd).bare (List.all_eq_true.1 hf d (List.mem_of_getElem? hd))⟩
theorem RdA.bare {v : Value} {a : AD} (h : RdA w ι M v a) (hf : a.bare = true) : RdA w' ι' M' v a := by
  cases a with
  | one d => exact Rd.bare (w' := w') (ι' := ι') (M' := M') (show Rd w ι M v d from h) hf
  | many l =>
    obtain ⟨cs, e, hl⟩ := (show ∃ cs, v = .agg cs ∧ RdL w ι M cs.toList l from h)
    exact ⟨cs, e, hl.bare hf⟩
theorem RdV.bare {v : Value} {r : RV} (h : RdV w ι M v r) (hf : r.bare = true) : RdV w' ι' M' v r := by
  cases r with
  | a a => exact RdA.bare (w' := w') (ι' := ι') (M' := M') (show RdA w ι M v a from h) hf
  | tup l =>
    obtain ⟨vs, e, hl, hr⟩ := (show RdT w ι M v l from h)
    exact ⟨vs, e, hl, fun j v x hv hx => (hr j v x hv hx).bare (List.all_eq_true.1 hf x (List.mem_of_getElem? hx))⟩
end
theorem ConvR.bare {N : Nat} {τ : Nat → Nat} {r : RV} (h : r.bare = true) : ConvR N τ r r := fun w ι ι' M v _ hr => hr.bare h
theorem BackA.bare {N : Nat} {σ : Nat → Nat} {a : AD} (h : a.bare = true) : BackA N σ a a := fun w ι ι' M v _ hr => hr.bare h
theorem bare_run {P : Program} {f : Nat} {ads : List AD} {K' : Hp} {n1 : Nat} {r : RV} (hrun : RunAt P f ads (.tr .leaf) 0 r K' n1) (ha : ∀ a ∈ ads, a.bare = true) (hr : r.bare = true) (H : Hp) (nx : Nat) : RunAt P f ads H nx r H nx :=
  ren_frame (d := 0) (σ := fun k => k) hrun (fun k hk => by omega) (by omega) (fun k k' x x' h => by cases h) (fun k x h => by cases h) rfl
    (fun j a a0 h1 h2 => by rw [h1] at h2; injection h2 with h2; subst h2; exact .bare (ha a (List.mem_of_getElem? h1))) (fun j Y h => .inr ⟨h, fun k x h => by cases h⟩) (.bare hr)
noncomputable def segW (e1 e5 : Option Nat) (t : Tr Nat) (n : Nat) : Hp := .tr (.node (some ⟨e5, 0, [[.wds t n]]⟩) (.node (some ⟨e1, 1, [[.ref 0 1 0 n]]⟩) .leaf .leaf) .leaf)
theorem segW_some {e1 e5 : Option Nat} {t : Tr Nat} {n k : Nat} {x : PObj} (h : segW e1 e5 t n k = some x) : (k = 0 ∧ x = ⟨e5, 0, [[.wds t n]]⟩) ∨ (k = 1 ∧ x = ⟨e1, 1, [[.ref 0 1 0 n]]⟩) := by
  have h : (Tr.node (some (⟨e5, 0, [[.wds t n]]⟩ : PObj)) (.node (some ⟨e1, 1, [[.ref 0 1 0 n]]⟩) .leaf .leaf) .leaf).get k = some x := h
  cases k with
  | zero => injection h with h; exact .inl ⟨rfl, h.symm⟩
  | succ k =>
    rw [Tr.get_succ] at h
    split at h
    · rename_i h2
      cases hk : k / 2 with
      | zero => rw [hk] at h; injection h with h; exact .inr ⟨by omega, h.symm⟩
      | succ j =>
        rw [hk, Tr.get_succ] at h
        split at h <;> cases h
    · cases h
def SameW (n : Nat) (t t' : Tr Nat) : Prop := ∀ k, 8 * k < n → (t.get k).getD 0 = (t'.get k).getD 0
theorem SameW.refl (n : Nat) (t : Tr Nat) : SameW n t t := fun _ _ => rfl
theorem SameW.rows {n : Nat} {t t' : Tr Nat} (h : SameW n t t') : wdsRows t n = wdsRows t' n := by
  unfold wdsRows
  refine List.map_congr_left fun i hi => ?_
  have hi := List.mem_range.1 hi
  unfold byteOf
  rw [h (i / 8) (by omega)]
theorem wds_same {w : World} {ι ι' : Nat → Option Nat} {M : Nat → Prop} {b : Nat} {e : Option Nat} {t t' : Tr Nat} {n : Nat} (he : SameW n t t') (h : ObjAt w ι M b ⟨e, 0, [[.wds t n]]⟩) : ObjAt w ι' M b ⟨e, 0, [[.wds t' n]]⟩ := by
  have h1 : ObjAt w ι' M b ⟨e, 1, wdsRows t n⟩ := wds_rd (ι := ι) (M := M) h.exp
  rw [he.rows] at h1
  exact ObjAt.unexp (ob := ⟨e, 0, [[.wds t' n]]⟩) h1
theorem seg_run {P : Program} {f : Nat} {rest : List AD} {K' H : Hp} {sg o n n1 nx : Nat} {e1 e5 : Option Nat} {t t1 t' t'' : Tr Nat} {r : RV} (hrun : RunAt P f (.one (.ptr 1 1 0 0) :: rest) (segW e1 e5 t1 n) 2 r K' n1) (hn1 : 2 ≤ n1)
    (ht : SameW n t t1) (ht' : SameW n t' t'') (hK0 : K' 0 = some ⟨e5, 0, [[.wds t' n]]⟩) (hK1 : K' 1 = some ⟨e1, 1, [[.ref 0 1 0 n]]⟩) (ha : ∀ a ∈ rest, a.bare = true) (hr : r.bare = true)
    (hsg : H sg = some ⟨e1, 1, [[.ref o 1 0 n]]⟩) (ho : H o = some ⟨e5, 0, [[.wds t n]]⟩) (hso : sg < nx) (hoo : o < nx) : RunAt P f (.one (.ptr sg 1 0 0) :: rest) H nx r (updO H o (some ⟨e5, 0, [[.wds t'' n]]⟩)) nx := by
  have hne : o ≠ sg := fun e => by subst e; rw [hsg] at ho; cases ho
  have s0 : (fun k => if k = 0 then o else sg) 0 = o := rfl
  have s1 : (fun k => if k = 0 then o else sg) 1 = sg := rfl
  refine ren_frame (d := 0) (σ := fun k => if k = 0 then o else sg) hrun (fun k hk => ?_) (by omega) (fun k k' x x' h h' e => ?_) (fun k x h => ?_) rfl (fun j a a0 h1 h2 => ?_) (fun j Y h => ?_) (.bare hr)
  · show (if k = 0 then o else sg) < nx
    split <;> assumption
  · rcases segW_some h with ⟨rfl, _⟩ | ⟨rfl, _⟩ <;> rcases segW_some h' with ⟨rfl, _⟩ | ⟨rfl, _⟩
    · rfl
    · exact absurd e hne
    · exact absurd e.symm hne
    · rfl
  · rcases segW_some h with ⟨rfl, rfl⟩ | ⟨rfl, rfl⟩
    · exact ⟨by omega, _, ho, fun w ι ι' M b hi h => wds_same ht h⟩
    · exact ⟨by omega, _, hsg, fun w ι ι' M b hi h => seg_ref h fun c hc => by rw [hi 0 (by omega)]; exact hc⟩
  · cases j with
    | zero =>
      injection h1 with h1; injection h2 with h2; subst h1; subst h2
      intro w ι ι' M v hi hv
      have hv : Rd w ι M v (.ptr sg 1 0 0) := hv
      cases hv with
      | ptr _ _ _ _ b h hs => exact Rd.ptr 1 1 0 0 _ (by rw [hi 1 (by omega)]; exact h) hs
    | succ j =>
      have h1 : rest[j]? = some a := h1
      have h2 : rest[j]? = some a0 := h2
      rw [h1] at h2; injection h2 with h2; subst h2
      exact .bare (ha a (List.mem_of_getElem? h1))
  · rw [updO_at] at h
    split at h
    · rename_i e; subst e
      injection h with h; subst h
      exact .inl ⟨0, _, by omega, by unfold newNo; rw [if_pos (by omega)]; rfl, hK0, fun w ι ι' M b hi h => wds_same ht' h⟩
    · rename_i hjo
      by_cases hjs : j = sg
      · subst hjs
        rw [hsg] at h; injection h with h; subst h
        refine .inl ⟨1, _, by omega, by unfold newNo; rw [if_pos (by omega)]; rfl, hK1, fun w ι ι' M b hi h => seg_ref h fun c hc => ?_⟩
        have := hi 0 (by omega)
        unfold newNo at this
        rw [if_pos (by omega)] at this
        rw [← hc]; exact this
      · refine .inr ⟨h, fun k x hk => ?_⟩
        rcases segW_some hk with ⟨rfl, _⟩ | ⟨rfl, _⟩
        · exact fun e => hjo e.symm
        · exact fun e => hjs e.symm
end Go.Proofs.YtmhinddneefmbaaGreat.Pe
namespace Go.Proofs.YtmhinddneefmbaaGreat.Pe
open Go Go.ChangeShapes Go.WideShapes Go.ChangeAt Go.RowKit
theorem own : ownKnob Tryz.prog.godebug = none := by kernel_rfl
theorem laidOut : laidOutB Tryz.prog = true := by kernel_rfl
def RdIn (P : Program) (W : World) (d : Nat) (t : TypeId) (v : Value) (a : AD) : Prop := RdA W (fun _ => none) (fun _ => False) v a ∧ okD P d t a.cells
theorem law_run {P : Program} {f : Nat} {ads : List AD} {H' : Hp} {nx' : Nat} (hr : RunAt P f ads (.tr .leaf) 0 (.a (.one (.bool true))) H' nx') {vals : Array Value} {w : World} (hl : vals.size = ads.length)
    (h : ∀ (j : Nat) v x, vals[j]? = some v → ads[j]? = some x → RdA w (fun _ => none) (fun _ => False) v x) : Calls P f vals w fun e w' => e = .returned (.bool true) ∧ Below w.heap.size w w' := by
  refine (hr w (fun _ => none) (fun _ => False) vals (fun b h => h.elim) ⟨fun o => (by simp), fun o ob h => (by cases h), fun o o' x x' b h => (by cases h), fun o x b h => (by cases h)⟩ hl h).mono ?_
  rintro e w' ⟨v, ι', M', rfl, hv, _, _, he, _⟩
  have hv : Rd w' ι' M' v (.bool true) := hv
  cases hv
  refine ⟨rfl, he.os, he.tape, he.output, he.size, fun k hk => he.same k hk fun hx => ?_⟩
  obtain ⟨o, x, h1, _⟩ := hx
  cases h1
section
variable {H : Type} {enc : TypeId × Value → H} {P : Program} {W : World} {base b0 : Nat} {spare : Nat → Bool} {held : Bool} {t : TypeId} {v : Value} {x : DataW H} {p : List MemPlace} {r : Reach}
theorem arg_one (n : Nat) (hp : plainT P n t = true) (hv : v.cells = #[v]) (h : DataW.Trod enc P W base spare held t v x p) : ∃ d, RdIn P W n t v (.one d) := by
  obtain ⟨fuel, hf⟩ := h
  obtain ⟨ds, h1, h2⟩ := plain_reads (w := W) (ι := fun _ => none) (M := fun _ => False) (fun _ h => h) n t fuel _ _ hp hf
  rw [hv] at h1
  have hl := h1.1
  match ds, hl with
  | [d], _ => exact ⟨d, h1.2 0 v d rfl rfl, h2⟩
theorem arg_many (n : Nat) (hp : plainT P n t = true) {cs : Array Value} (hv : v = .agg cs) (h : DataW.Trod enc P W base spare held t v x p) : ∃ ds, RdIn P W n t v (.many ds) := by
  obtain ⟨fuel, hf⟩ := h
  obtain ⟨ds, h1, h2⟩ := plain_reads (w := W) (ι := fun _ => none) (M := fun _ => False) (fun _ h => h) n t fuel _ _ hp hf
  subst hv
  exact ⟨ds, ⟨cs, rfl, h1⟩, h2⟩
theorem arg_sl (n : Nat) {e : TypeId} (hu : P.underlying t = some (.slice e)) (hp : plainT P (n + 1) t = true) (hv : Value.okWide P W r b0 t v) (h : DataW.Trod enc P W base spare held t v x p) :
    ∃ rows, RdIn P W (n + 1) t v (.one (.sl rows)) ∧ rows.length ≤ maxLen ∧ ∀ q ∈ rows, okD P n e q := by
  obtain ⟨a, len, cap, rfl⟩ := okWide_slice hu hv
  obtain ⟨d, h1, h2⟩ := arg_one (n + 1) hp rfl h
  have h2' := h2
  unfold okD at h2
  rw [hu] at h2
  obtain ⟨rows, e1, e2, e3⟩ := h2
  simp only [AD.cells, List.cons.injEq, and_true] at e1
  subst e1
  exact ⟨rows, ⟨h1, h2'⟩, e2, e3⟩
theorem arg_st (n : Nat) {fs : Array Field} (hu : P.underlying t = some (.struct fs)) (hp : plainT P n t = true) (hv : Value.okWide P W r b0 t v) (h : DataW.Trod enc P W base spare held t v x p) :
    ∃ ds, RdIn P W n t v (.many ds) ∧ okD P n t ds := by
  obtain ⟨cs, rfl, _⟩ := okWide_struct hu hv
  obtain ⟨ds, h1⟩ := arg_many n hp rfl h
  exact ⟨ds, h1, h1.2⟩
end
end Go.Proofs.YtmhinddneefmbaaGreat.Pe
