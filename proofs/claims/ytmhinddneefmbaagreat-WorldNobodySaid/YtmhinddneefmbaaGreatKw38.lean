/- A part of the proof of JbH. -/
import Derived.Test.YtmhinddneefmbaaGreatKw30
import Derived.Test.YtmhinddneefmbaaGreatKw37
set_option linter.unusedSimpArgs false
set_option linter.unusedVariables false
set_option linter.unusedSectionVars false
namespace Go.Proofs.YtmhinddneefmbaaGreat.Pe
open Go
noncomputable def allB (l : List Bool) : Bool := List.rec (motive := fun _ => Bool) true (fun c _ ih => br c ih false) l
theorem allB_all : ∀ {l : List Bool}, allB l = true → ∀ c ∈ l, c = true
  | [], _, c, hc => by cases hc
  | x :: l, h, c, hc => by
    have h : br x (allB l) false = true := h
    cases x with
    | false => cases h
    | true =>
      rcases List.mem_cons.1 hc with rfl | hc
      · rfl
      · exact allB_all (show allB l = true from h) c hc
theorem allB_of : ∀ {l : List Bool}, (∀ c ∈ l, c = true) → allB l = true
  | [], _ => rfl
  | x :: l, h => by
    show br x (allB l) false = true
    rw [h x List.mem_cons_self]
    exact allB_of fun c hc => h c (List.mem_cons_of_mem _ hc)
noncomputable def eqL {α : Type} (x : Option (α × TL)) : Option (List AV) := x.map fun x => x.2.eqs.map Prod.fst
noncomputable def eqR {α : Type} (x : Option (α × TL)) : Option (List AV) := x.map fun x => x.2.eqs.map Prod.snd
theorem map_pairs {α : Type} : ∀ {l : List (α × α)}, l.map Prod.fst = l.map Prod.snd → ∀ p ∈ l, p.1 = p.2
  | [], _, p, hp => by cases hp
  | q :: l, h, p, hp => by
    simp only [List.map_cons, List.cons.injEq] at h
    rcases List.mem_cons.1 hp with rfl | hp
    · exact h.1
    · exact map_pairs h.2 p hp
noncomputable def outS (x : Option ((RV × Hp × Nat) × TL)) : Option (RV × Option PObj × Option PObj × Nat × Bool × List (AV × AV)) := x.bind fun x => some (x.1.1, x.1.2.1 0, x.1.2.1 1, x.1.2.2, allB x.2.cs, x.2.hs)
theorem fn_runAt {P : Program} {S : SysP} (hS : SysOk S.toSys P) (hP : PbOk S) {k f : Nat} (hf : (S.tab f).isSome = true) {ads : List AD} {H : Hp} {nx : Nat} {T T' : TL} {r : RV} {H' : Hp} {nx' : Nat} (h : (evt S k).fn f ads H nx T = some ((r, H', nx'), T')) (hT : T'.Ok) : RunAt P f ads H nx r H' nx' :=
  (evs_ok hS k).fn f hf _ _ _ _ _ _ (((evt_ok hP k).fn _ _ _ _ _ _ _ h).2 hT)
theorem outS_run {P : Program} {S : SysP} (hS : SysOk S.toSys P) (hP : PbOk S) {k f : Nat} (hf : (S.tab f).isSome = true) {ads : List AD} {H : Hp} {nx : Nat} {T : TL} {r : RV} {a b : Option PObj} {m : Nat} {c : Bool} {hs : List (AV × AV)} (h : outS ((evt S k).fn f ads H nx T) = some (r, a, b, m, c, hs)) (he : eqL ((evt S k).fn f ads H nx T) = eqR ((evt S k).fn f ads H nx T)) (hc : c = true) (hh : ∀ p ∈ hs, p.1 = p.2) :
    ∃ K, RunAt P f ads H nx r K m ∧ K 0 = a ∧ K 1 = b := by
  unfold outS at h
  unfold eqL eqR at he
  cases hx : (evt S k).fn f ads H nx T with
  | none => rw [hx] at h; cases h
  | some x =>
    obtain ⟨⟨r', K, m'⟩, T'⟩ := x
    rw [hx] at h he
    have h : some (r', K 0, K 1, m', allB T'.cs, T'.hs) = some (r, a, b, m, c, hs) := h
    simp only [Option.some.injEq, Prod.mk.injEq] at h
    obtain ⟨rfl, h1, h2, rfl, h4, h5⟩ := h
    simp only [Option.map_some, Option.some.injEq] at he
    exact ⟨K, fn_runAt hS hP hf hx ⟨allB_all (h4.trans hc), map_pairs he, by rw [h5]; exact hh⟩, h1, h2⟩
open Classical in
noncomputable def ptF (ads0 : List AD) (H0 : Hp) (nx0 : Nat) (q0 : RV × Hp × Nat) : List AD → Hp → Nat → Option (RV × Hp × Nat) := fun ads H nx => if ads = ads0 ∧ H = H0 ∧ nx = nx0 then some q0 else none
theorem ptF_ok {P : Program} {f : Nat} {ads : List AD} {H K : Hp} {nx m : Nat} {r : RV} (h : RunAt P f ads H nx r K m) : FnEff P f (ptF ads H nx (r, K, m)) := by
  rw [FnEff.iff]
  intro ads' H' nx' r' K' m' hq
  unfold ptF at hq
  split at hq
  · rename_i e
    obtain ⟨rfl, rfl, rfl⟩ := e
    simp only [Option.some.injEq, Prod.mk.injEq] at hq
    obtain ⟨rfl, rfl, rfl⟩ := hq
    exact h
  · cases hq
theorem ptF_at (ads : List AD) (H : Hp) (nx : Nat) (q : RV × Hp × Nat) : ptF ads H nx q ads H nx = some q := if_pos ⟨rfl, rfl, rfl⟩
end Go.Proofs.YtmhinddneefmbaaGreat.Pe
