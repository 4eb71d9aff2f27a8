/- A part of the proof of JdH. -/
import Derived.Test.YtmhinddneefmbaaGreatKf1
set_option linter.unusedSimpArgs false
set_option linter.unusedVariables false
set_option linter.unusedSectionVars false
namespace Go.Proofs.YtmhinddneefmbaaGreat.Pe
open Go
theorem upd_same (E : Env) (s : Nat) (v : AV) : upd E s v s = v := by simp [upd]
theorem upd_ne (E : Env) {s t : Nat} (v : AV) (h : t ≠ s) : upd E s v t = E t := by simp [upd, h]
theorem live_upd (E : Env) {s : Nat} (v : AV) (h : s ≠ gs) : live (upd E s v) = live E := by
  funext o; unfold live; rw [upd_ne E v (fun e => h e.symm)]
def NoRef (E : Env) (d γ : Nat) : Prop := ∀ s, match E s with
  | .loc t g _ | .oloc t g _ _ | .vw t g => ¬ (t = d ∧ g = γ)
  | _ => True
section
variable {C : Ctx} {E : Env} {a a' : Act} {w w' : World} {ι ι' β : Nat → Option Nat} {M M' : Nat → Prop}
theorem Sim.lt_of (h : Sim C E a w ι β M) {s : Nat} (hs : valOf a s ≠ undef) : s < C.nt := by
  rw [← h.size]
  rcases Nat.lt_or_ge s a.tmps.size with h' | h'
  · exact h'
  · exact absurd (by simp [valOf, Array.getElem?_eq_none h']) hs
theorem Sim.ne_gs (h : Sim C E a w ι β M) {d : Nat} (hd : d < C.nt) : d ≠ gs := fun e => by have := h.small; omega
theorem Sim.put' (h : Sim C E a w ι β M) {d : Nat} (hd : d ≠ gs) (hsz : a'.tmps.size = C.nt) (hdf : a'.defers = C.dfs) (hval : ∀ s, s ≠ d → valOf a' s = valOf a s) {av : AV} (hb : av.isBlk = false)
    (hv : Holds w ι (unset β d) M (valOf a') (upd E d av) d av) : Sim C (upd E d av) a' w ι (unset β d) M := by
  have hne : gs ≠ d := fun e => hd e.symm
  have hu : ∀ s b, unset β d s = some b → β s = some b := fun s b hs => by
    unfold unset at hs; split at hs
    · cases hs
    · exact hs
  refine ⟨hsz, hdf, h.small, ?_, ?_, ?_, ?_, ?_, ?_, ?_, ?_, ?_, h.xlt, h.xM, h.lt, ?_⟩
  · rw [upd_ne E av hne]; exact h.hp
  · rw [live_upd E av hd]; exact h.objs
  · rw [live_upd E av hd]; exact h.injO
  · exact fun s s' b hs hs' => h.injB s s' b (hu s b hs) (hu s' b hs')
  · rw [live_upd E av hd]; exact fun o x s b hl hi hs => h.disj o x s b hl hi (hu s b hs)
  · rw [live_upd E av hd]; exact h.ctlO
  · exact fun s b hs => h.ctlB s b (hu s b hs)
  · rw [live_upd E av hd]; exact h.xO
  · exact fun s b hs => h.xB s b (hu s b hs)
  · intro s
    by_cases hs : s = d
    · subst hs; rw [upd_same]; exact hv
    · rw [upd_ne E av hs]
      have ho := h.hold s
      have hus : unset β d s = β s := by simp [unset, hs]
      generalize hx : E s = x at ho
      cases x with
      | junk => trivial
      | heap => exact ho
      | v x => simpa only [Holds, hval s hs] using ho
      | tup l => simpa only [Holds, hval s hs] using ho
      | box g xs => simpa only [Holds, hval s hs, hus] using ho
      | own g e sz rows => simpa only [Holds, hval s hs, hus] using ho
      | imm rows i off => simpa only [Holds, hval s hs] using ho
      | loc t g off =>
        intro xs ht
        by_cases htd : t = d
        · subst htd; rw [upd_same] at ht; subst ht; simp [AV.isBlk] at hb
        · rw [upd_ne E av htd] at ht
          obtain ⟨b, h1, h2⟩ := ho xs ht
          exact ⟨b, by simp [unset, htd, h1], by rw [hval s hs]; exact h2⟩
      | oloc t g i off =>
        intro e sz rows ht
        by_cases htd : t = d
        · subst htd; rw [upd_same] at ht; subst ht; simp [AV.isBlk] at hb
        · rw [upd_ne E av htd] at ht
          obtain ⟨b, h1, h2⟩ := ho e sz rows ht
          exact ⟨b, by simp [unset, htd, h1], by rw [hval s hs]; exact h2⟩
      | vw t g =>
        intro e sz rows ht
        by_cases htd : t = d
        · subst htd; rw [upd_same] at ht; subst ht; simp [AV.isBlk] at hb
        · rw [upd_ne E av htd] at ht
          rw [hval s hs, hval t htd]
          exact ho e sz rows ht
theorem size_put (a : Act) (d : Option Nat) (v : Value) : (a.put d v).tmps.size = a.tmps.size := by cases d <;> simp [Act.put]
theorem defers_put (a : Act) (d : Option Nat) (v : Value) : (a.put d v).defers = a.defers := by cases d <;> rfl
theorem Sim.put (h : Sim C E a w ι β M) {d : Nat} (hd : d < C.nt) {v : Value} {av : AV} (hb : av.isBlk = false)
    (hv : Holds w ι (unset β d) M (valOf (a.put (some d) v)) (upd E d av) d av) : Sim C (upd E d av) (a.put (some d) v) w ι (unset β d) M :=
  h.put' (h.ne_gs hd) (by rw [size_put]; exact h.size) (by rw [defers_put]; exact h.defs) (fun s hs => by rw [valOf_put (by rw [h.size]; exact hd), if_neg hs]) hb hv
theorem Sim.val_put (h : Sim C E a w ι β M) {d : Nat} (hd : d < C.nt) (v : Value) : valOf (a.put (some d) v) d = v := by
  rw [valOf_put (by rw [h.size]; exact hd), if_pos rfl]
theorem Sim.put_v (h : Sim C E a w ι β M) {d : Nat} (hd : d < C.nt) {v : Value} {x : AD} (hv : RdA w ι M v x) : Sim C (upd E d (.v x)) (a.put (some d) v) w ι (unset β d) M :=
  h.put hd rfl (by simp only [Holds]; rw [h.val_put hd]; exact hv)
theorem Sim.put_rv (h : Sim C E a w ι β M) {d : Nat} (hd : d < C.nt) {v : Value} {x : RV} (hv : RdV w ι M v x) :
    Sim C (upd E d (match x with | .a a => .v a | .tup l => .tup l)) (a.put (some d) v) w ι (unset β d) M := by
  cases x with
  | a x => exact h.put_v hd hv
  | tup l => exact h.put hd rfl (by simp only [Holds]; rw [h.val_put hd]; exact hv)
theorem Sim.junk (h : Sim C E a w ι β M) {d : Nat} (hd : d ≠ gs) : Sim C (upd E d .junk) a w ι (unset β d) M :=
  h.put' hd h.size h.defs (fun _ _ => rfl) rfl trivial
theorem Blk.imm {b : Nat} {T : TypeId} {cs : Array Value} {sz : Nat} {rows : List (List D)} (h : Blk w ι M b T cs sz rows) {M' : Nat → Prop} (hM : ∀ b, M' b → M b) (hb : ¬ M' b) :
    ImmAt w ι M' ⟨b, 0, none⟩ sz rows :=
  ⟨h.pos, h.uni, rfl, hb, h.lt, fun i j r d hr hd => by
    obtain ⟨v, hv, hrd⟩ := h.rd i j r d hr hd
    refine ⟨v, ?_, hrd.mono (fun _ _ _ => rfl) (fun b _ hm => hM b hm) (fun _ _ h => h) (.refl _)⟩
    rw [addr_add rfl]
    simp [World.cell?, h.at_, hv]⟩
theorem ImmAt.rd_sl {ad : Addr} {sz : Nat} {rows : List (List D)} (h : ImmAt w ι M ad sz rows) {c : Nat} (hc : rows.length ≤ c) (h0 : 0 < rows.length) : Rd w ι M (.slice (some ad) rows.length c) (.sl rows) := by
  refine .sl ad rows.length c sz rows (fun i j => ((w.cell? (ad.add (i * sz + j))).getD undef)) rfl h0 hc h.pos h.uni h.spot h.im ?_ ?_
  · intro i j hi hj
    have hr : rows[i]? = some rows[i] := List.getElem?_eq_getElem hi
    have hl : rows[i].length = sz := h.uni _ (List.getElem_mem hi)
    obtain ⟨v, hv, _⟩ := h.rd i j rows[i] (rows[i][j]'(by omega)) hr (List.getElem?_eq_getElem (by omega))
    simp [hv]
  · intro i j r d hr hd
    obtain ⟨v, hv, hrd⟩ := h.rd i j r d hr hd
    simp [hv, hrd]
theorem Rd.imm {v : Value} {rows : List (List D)} (h : Rd w ι M v (.sl rows)) : (∃ A c, v = .slice A 0 c ∧ rows = []) ∨ ∃ a c sz, v = .slice (some a) rows.length c ∧ 0 < rows.length ∧ rows.length ≤ c ∧ ImmAt w ι M a sz rows := by
  cases h with
  | nil A c => exact .inl ⟨A, c, rfl, rfl⟩
  | sl ad n c sz rows f hn h0 hnc hsz hs ha hm hc hr =>
    subst hn
    refine .inr ⟨ad, c, sz, rfl, h0, hnc, hsz, hs, ha, hm, ?_, ?_⟩
    · have := World.block_lt_of_cell? w _ (hc 0 0 h0 hsz)
      rw [addr_add ha] at this
      exact this
    · intro i j r d hr' hd
      have hi : i < rows.length := (List.getElem?_eq_some_iff.1 hr').1
      have hl : r.length = sz := hs r (List.mem_of_getElem? hr')
      have hj : j < sz := by have := (List.getElem?_eq_some_iff.1 hd).1; omega
      exact ⟨_, hc i j hi hj, hr i j r d hr' hd⟩
theorem Sim.freeze (h : Sim C E a w ι β M) {s g e sz : Nat} {rows : List (List D)} (hs : E s = .own g e sz rows) :
    ∃ M', Evo C.X M w M' w ∧ Sim C (upd E s (.v (.one (.sl rows)))) a w ι (unset β s) M' ∧ Rd w ι M' (valOf a s) (.sl rows) := by
  have ho := h.hold s
  rw [hs] at ho
  obtain ⟨hpos, ho⟩ := ho
  have hgs : s ≠ gs := by
    rintro rfl
    obtain ⟨H, nx, hH, _⟩ := h.hp
    rw [hH] at hs; cases hs
  let M' : Nat → Prop := fun b => M b ∧ β s ≠ some b
  have hM : ∀ b, M' b → M b := fun b hb => hb.1
  have hevo : Evo C.X M w M' w := ⟨rfl, rfl, rfl, Nat.le_refl _, fun _ _ _ => rfl, fun b _ hb => hM b hb, fun _ _ _ => rfl, .refl _⟩
  have hrd : Rd w ι M' (valOf a s) (.sl rows) := by
    rcases ho with ⟨hv, hr, _⟩ | ⟨b, cs, cap, h1, h2, h3, _, _, h6⟩
    · rw [hv, hr]; exact .nil _ _
    · rw [h2]
      rcases Nat.eq_zero_or_pos rows.length with h0 | h0
      · have : rows = [] := List.eq_nil_of_length_eq_zero h0
        subst this
        exact .nil _ _
      · exact (h6.imm hM (fun hm => hm.2 h1)).rd_sl h3 h0
  refine ⟨M', hevo, ?_, hrd⟩
  have hsim : Sim C (upd E s .junk) a w ι (unset β s) M := h.junk hgs
  have hun : ∀ t b, unset β s t = some b → M' b := fun t b ht => by
    unfold unset at ht
    split at ht
    · cases ht
    · rename_i hne
      exact ⟨h.ctlB t b ht, fun hb => hne (h.injB t s b ht hb)⟩
  have hsim' : Sim C (upd E s .junk) a w ι (unset β s) M' := by
    refine ⟨hsim.size, hsim.defs, hsim.small, hsim.hp, fun o ob hl => ?_, hsim.injO, hsim.injB, hsim.disj, fun o x b hl hi => ?_, hun, hsim.xO, hsim.xB, hsim.xlt, fun b hb => ⟨h.xM b hb, fun e => h.xB s b e hb⟩, fun b hb => h.lt b hb.1, fun t => ?_⟩
    · obtain ⟨b, hi, hb⟩ := hsim.objs o ob hl
      exact ⟨b, hi, hb.mono hevo (fun _ _ h => h) rfl⟩
    · rw [live_upd E _ hgs] at hl
      exact ⟨h.ctlO o x b hl hi, fun hb => h.disj o x s b hl hi hb⟩
    · exact (hsim.hold t).mono hevo (fun _ _ h => h) (fun _ _ => rfl)
  have e : upd (upd E s .junk) s (.v (.one (.sl rows))) = upd E s (.v (.one (.sl rows))) := by funext t; unfold upd; split <;> rfl
  have eu : unset (unset β s) s = unset β s := by funext t; unfold unset; split <;> rfl
  have := hsim'.put' (a' := a) (av := .v (.one (.sl rows))) hgs h.size h.defs (fun _ _ => rfl) rfl (by simp only [Holds]; exact hrd)
  rwa [e, eu] at this
theorem Sim.world (h : Sim C E a w ι β M) (he : Evo C.X M w M' w') (hM : ∀ b, M b → M' b) (hlt : ∀ b, M' b → b < w'.heap.size)
    (hB : ∀ s b, β s = some b → w'.heap[b]? = w.heap[b]?) (hO : ∀ o x b, live E o = some x → ι o = some b → w'.heap[b]? = w.heap[b]?) : Sim C E a w' ι β M' :=
  ⟨h.size, h.defs, h.small, h.hp, fun o ob hl => by
      obtain ⟨b, hi, hb⟩ := h.objs o ob hl
      exact ⟨b, hi, hb.mono he (fun _ _ h => h) (hO o ob b hl hi)⟩,
    h.injO, h.injB, h.disj, fun o x b hl hi => hM b (h.ctlO o x b hl hi), fun s b hs => hM b (h.ctlB s b hs), h.xO, h.xB, fun b hb => Nat.lt_of_lt_of_le (h.xlt b hb) he.size, fun b hb => hM b (h.xM b hb), hlt,
    fun s => (h.hold s).mono he (fun _ _ h => h) (fun b hb => hB s b hb)⟩
theorem Sim.claim' (h : Sim C E a w ι β M) {d γ : Nat} (hd : d ≠ gs) (hsz : a'.tmps.size = C.nt) (hdf : a'.defers = C.dfs) (hval : ∀ s, s ≠ d → valOf a' s = valOf a s) {av : AV}
    (hg : match av with | .box g _ => g = γ | .own g _ _ _ => g = γ | _ => False) (hn : NoRef E d γ) {bo : Option Nat} (hMb : ∀ b, bo = some b → M b) (hXb : ∀ b, bo = some b → ¬ C.X b) (hfB : ∀ b s, bo = some b → β s ≠ some b) (hfO : ∀ b o x, bo = some b → live E o = some x → ι o ≠ some b)
    (hv : Holds w ι (fun s => if s = d then bo else β s) M (valOf a') (upd E d av) d av) : Sim C (upd E d av) a' w ι (fun s => if s = d then bo else β s) M := by
  have hne : gs ≠ d := fun e => hd e.symm
  refine ⟨hsz, hdf, h.small, ?_, ?_, ?_, ?_, ?_, ?_, ?_, by rw [live_upd E av hd]; exact h.xO, ?_, h.xlt, h.xM, h.lt, ?_⟩
  · rw [upd_ne E av hne]; exact h.hp
  · rw [live_upd E av hd]; exact h.objs
  · rw [live_upd E av hd]; exact h.injO
  · intro s s' b hs hs'
    by_cases h1 : s = d <;> by_cases h2 : s' = d
    · rw [h1, h2]
    · simp only [h1, if_true, h2, if_false] at hs hs'; exact absurd hs' (hfB b s' hs)
    · simp only [h1, if_false, h2, if_true] at hs hs'; exact absurd hs (hfB b s hs')
    · simp only [h1, h2, if_false] at hs hs'; exact h.injB s s' b hs hs'
  · rw [live_upd E av hd]
    intro o x s b hl hi hs
    by_cases h1 : s = d
    · simp only [h1, if_true] at hs; exact hfO b o x hs hl hi
    · simp only [h1, if_false] at hs; exact h.disj o x s b hl hi hs
  · rw [live_upd E av hd]; exact h.ctlO
  · intro s b hs
    by_cases h1 : s = d
    · simp only [h1, if_true] at hs; exact hMb b hs
    · simp only [h1, if_false] at hs; exact h.ctlB s b hs
  · intro s b hs
    by_cases h1 : s = d
    · simp only [h1, if_true] at hs; exact hXb b hs
    · simp only [h1, if_false] at hs; exact h.xB s b hs
  · intro s
    by_cases hs : s = d
    · subst hs; rw [upd_same]; exact hv
    · rw [upd_ne E av hs]
      have ho := h.hold s
      have hno := hn s
      generalize hx : E s = x at ho hno
      cases x with
      | junk => trivial
      | heap => exact ho
      | v x => simpa only [Holds, hval s hs] using ho
      | tup l => simpa only [Holds, hval s hs] using ho
      | box g xs => simpa only [Holds, hval s hs, if_neg hs] using ho
      | own g e sz rows => simpa only [Holds, hval s hs, if_neg hs] using ho
      | imm rows i off => simpa only [Holds, hval s hs] using ho
      | loc t g off =>
        intro xs ht
        by_cases htd : t = d
        · subst htd; rw [upd_same] at ht; subst ht; exact absurd ⟨rfl, hg⟩ hno
        · rw [upd_ne E av htd] at ht
          obtain ⟨b, h1, h2⟩ := ho xs ht
          exact ⟨b, by simp [htd, h1], by rw [hval s hs]; exact h2⟩
      | oloc t g i off =>
        intro e sz rows ht
        by_cases htd : t = d
        · subst htd; rw [upd_same] at ht; subst ht; exact absurd ⟨rfl, hg⟩ hno
        · rw [upd_ne E av htd] at ht
          obtain ⟨b, h1, h2⟩ := ho e sz rows ht
          exact ⟨b, by simp [htd, h1], by rw [hval s hs]; exact h2⟩
      | vw t g =>
        intro e sz rows ht
        by_cases htd : t = d
        · subst htd; rw [upd_same] at ht; subst ht; exact absurd ⟨rfl, hg⟩ hno
        · rw [upd_ne E av htd] at ht
          rw [hval s hs, hval t htd]
          exact ho e sz rows ht
theorem Sim.stored (h : Sim C E a w ι β M) {d b0 : Nat} (hb0 : β d = some b0) (he : Evo C.X M w M w') (hsame : ∀ b, b ≠ b0 → w'.heap[b]? = w.heap[b]?) {av : AV}
    (hav : (∃ g xs xs', E d = .box g xs ∧ av = .box g xs') ∨ (∃ g e sz rows rows', E d = .own g e sz rows ∧ av = .own g e sz rows'))
    (hv : Holds w' ι β M (valOf a) (upd E d av) d av) : Sim C (upd E d av) a w' ι β M := by
  have hd : d ≠ gs := by
    rintro rfl
    obtain ⟨H, nx, hH, _⟩ := h.hp
    rcases hav with ⟨g, xs, xs', h1, _⟩ | ⟨g, e, sz, rows, rows', h1, _⟩ <;> (rw [hH] at h1; cases h1)
  have hne : gs ≠ d := fun e => hd e.symm
  have hO : ∀ o x b, live E o = some x → ι o = some b → w'.heap[b]? = w.heap[b]? := fun o x b hl hi => hsame b (fun e => h.disj o x d b hl hi (e ▸ hb0))
  refine ⟨h.size, h.defs, h.small, ?_, ?_, ?_, h.injB, ?_, ?_, h.ctlB, by rw [live_upd E av hd]; exact h.xO, h.xB, fun b hb => Nat.lt_of_lt_of_le (h.xlt b hb) he.size, h.xM, fun b hb => Nat.lt_of_lt_of_le (h.lt b hb) he.size, ?_⟩
  · rw [upd_ne E av hne]; exact h.hp
  · rw [live_upd E av hd]
    intro o ob hl
    obtain ⟨b, hi, hb⟩ := h.objs o ob hl
    exact ⟨b, hi, hb.mono he (fun _ _ h => h) (hO o ob b hl hi)⟩
  · rw [live_upd E av hd]; exact h.injO
  · rw [live_upd E av hd]; exact h.disj
  · rw [live_upd E av hd]; exact h.ctlO
  · intro s
    by_cases hs : s = d
    · subst hs; rw [upd_same]; exact hv
    · rw [upd_ne E av hs]
      have ho : Holds w' ι β M (valOf a) E s (E s) := (h.hold s).mono he (fun _ _ h => h) (fun b hb => hsame b (fun e => hs (h.injB s d b hb (e ▸ hb0))))
      generalize hx : E s = x at ho
      cases x with
      | loc t g off =>
        intro xs ht
        by_cases htd : t = d
        · subst htd; rw [upd_same] at ht; subst ht
          rcases hav with ⟨g', xs1, xs2, h1, h2⟩ | ⟨g', e, sz, rows, rows', h1, h2⟩
          · injection h2 with h2; subst h2; exact ho xs1 h1
          · cases h2
        · rw [upd_ne E av htd] at ht; exact ho xs ht
      | oloc t g i off =>
        intro e sz rows ht
        by_cases htd : t = d
        · subst htd; rw [upd_same] at ht; subst ht
          rcases hav with ⟨g', xs1, xs2, h1, h2⟩ | ⟨g', e', sz', rows1, rows', h1, h2⟩
          · cases h2
          · injection h2 with h2 h3 h4 h5; subst h2; subst h3; subst h4; exact ho e sz rows1 h1
        · rw [upd_ne E av htd] at ht; exact ho e sz rows ht
      | vw t g =>
        intro e sz rows ht
        by_cases htd : t = d
        · subst htd; rw [upd_same] at ht; subst ht
          rcases hav with ⟨g', xs1, xs2, h1, h2⟩ | ⟨g', e', sz', rows1, rows', h1, h2⟩
          · cases h2
          · injection h2 with h2 h3 h4 h5; subst h2; subst h3; subst h4; exact ho e sz rows1 h1
        · rw [upd_ne E av htd] at ht; exact ho e sz rows ht
      | _ => exact ho
theorem live_updO (E : Env) (H : Hp) (nx o : Nat) (x : Option PObj) (t : Nat) : live (upd E gs (.heap (updO H o x) nx)) t = if t = o then x else H t := by simp [live, upd, updO_at]
theorem Sim.storedO (h : Sim C E a w ι β M) {H : Hp} {nx o b0 : Nat} {x ob : PObj} (hE : E gs = .heap H nx) (hx : H o = some x) (hb0 : ι o = some b0) (he : Evo C.X M w M w') (hsame : ∀ b, b ≠ b0 → w'.heap[b]? = w.heap[b]?)
    (hv : ObjAt w' ι M b0 ob) : Sim C (upd E gs (.heap (updO H o (some ob)) nx)) a w' ι β M := by
  have hl0 : ∀ t, live E t = H t := fun t => by simp [live, hE]
  have hl : ∀ t y, live (upd E gs (.heap (updO H o (some ob)) nx)) t = some y → (t = o ∧ y = ob) ∨ (t ≠ o ∧ live E t = some y) := by
    intro t y ht
    rw [live_updO] at ht
    split at ht
    · injection ht with ht; exact .inl ⟨by assumption, ht.symm⟩
    · exact .inr ⟨by assumption, by rw [hl0]; exact ht⟩
  have hex : ∀ t y, live (upd E gs (.heap (updO H o (some ob)) nx)) t = some y → ∃ z, live E t = some z := by
    intro t y ht
    rcases hl t y ht with ⟨h1, _⟩ | ⟨_, h1⟩
    · exact ⟨x, by rw [h1, hl0]; exact hx⟩
    · exact ⟨y, h1⟩
  refine ⟨h.size, h.defs, h.small, ⟨_, nx, upd_same _ _ _, ?_⟩, ?_, ?_, h.injB, ?_, ?_, h.ctlB, ?_, h.xB, fun b hb => Nat.lt_of_lt_of_le (h.xlt b hb) he.size, h.xM, fun b hb => Nat.lt_of_lt_of_le (h.lt b hb) he.size, ?_⟩
  · obtain ⟨H', nx', hE', hn⟩ := h.hp
    rw [hE] at hE'; injection hE' with _ e; subst e; exact hn
  · intro t y ht
    rcases hl t y ht with ⟨h1, h2⟩ | ⟨h1, h2⟩
    · subst h1; subst h2; exact ⟨b0, hb0, hv⟩
    · obtain ⟨b, hi, hb⟩ := h.objs t y h2
      refine ⟨b, hi, hb.mono he (fun _ _ h => h) (hsame b (fun e => h1 (h.injO t o y x b h2 (by rw [hl0]; exact hx) hi (e ▸ hb0))))⟩
  · intro t t' y y' b h1 h2 h3 h4
    obtain ⟨z, hz⟩ := hex t y h1
    obtain ⟨z', hz'⟩ := hex t' y' h2
    exact h.injO t t' z z' b hz hz' h3 h4
  · intro t y s b h1 h2
    obtain ⟨z, hz⟩ := hex t y h1
    exact h.disj t z s b hz h2
  · intro t y b h1 h2
    obtain ⟨z, hz⟩ := hex t y h1
    exact h.ctlO t z b hz h2
  · intro t y b h1 h2
    obtain ⟨z, hz⟩ := hex t y h1
    exact h.xO t z b hz h2
  · intro s
    by_cases hs : s = gs
    · subst hs; rw [upd_same]; rfl
    · rw [upd_ne E _ hs]
      have hxl : live E o = some x := by rw [hl0]; exact hx
      have ho : Holds w' ι β M (valOf a) E s (E s) := (h.hold s).mono he (fun _ _ h => h) (fun b hb => hsame b (fun e => h.disj o x s b0 hxl hb0 (e ▸ hb)))
      generalize hxs : E s = y at ho
      cases y with
      | loc t g off =>
        intro xs ht
        by_cases htd : t = gs
        · subst htd; rw [upd_same] at ht; cases ht
        · rw [upd_ne E _ htd] at ht; exact ho xs ht
      | oloc t g i off =>
        intro e sz rows ht
        by_cases htd : t = gs
        · subst htd; rw [upd_same] at ht; cases ht
        · rw [upd_ne E _ htd] at ht; exact ho e sz rows ht
      | vw t g =>
        intro e sz rows ht
        by_cases htd : t = gs
        · subst htd; rw [upd_same] at ht; cases ht
        · rw [upd_ne E _ htd] at ht; exact ho e sz rows ht
      | _ => exact ho
end
end Go.Proofs.YtmhinddneefmbaaGreat.Pe
namespace Go.Proofs.YtmhinddneefmbaaGreat.Pe
open Go
namespace Q
variable {α γ : Type}
theorem run_bind (q : Q α) (f : α → Q γ) (E : Env) : (q.bind f).run E = match q.run E with | some (a, E') => (f a).run E' | none => none := by
  induction q generalizing E with
  | ret a => rfl
  | fail => rfl
  | ask s k ih => exact ih _ _
  | set s v k ih => exact ih _
theorem run_bind_some {q : Q α} {f : α → Q γ} {E E' : Env} {b : γ} (h : (q.bind f).run E = some (b, E')) : ∃ a E1, q.run E = some (a, E1) ∧ (f a).run E1 = some (b, E') := by
  rw [run_bind] at h
  cases hq : q.run E with
  | none => rw [hq] at h; cases h
  | some x => rw [hq] at h; exact ⟨x.1, x.2, rfl, h⟩
end Q
theorem ofOpt_run {α : Type} {o : Option α} {E E' : Env} {b : α} (h : (ofOpt o).run E = some (b, E')) : o = some b ∧ E' = E := by
  cases o with
  | none => cases h
  | some x => simp only [ofOpt, Q.run, Option.some.injEq, Prod.mk.injEq] at h; exact ⟨by rw [h.1], h.2.symm⟩
theorem ret_run {α : Type} {a b : α} {E E' : Env} (h : (Q.ret a).run E = some (b, E')) : b = a ∧ E' = E := by
  simp only [Q.run, Option.some.injEq, Prod.mk.injEq] at h; exact ⟨h.1.symm, h.2.symm⟩
section
variable {C : Ctx} {E E1 : Env} {a : Act} {w : World} {ι β : Nat → Option Nat} {M : Nat → Prop}
structure Left (C : Ctx) (E E1 : Env) (a : Act) (w : World) (ι : Nat → Option Nat) (M : Nat → Prop) (R : (Nat → Option Nat) → (Nat → Prop) → Prop) : Prop where
  ex : ∃ β1 M1, Sim C E1 a w ι β1 M1 ∧ Evo C.X M w M1 w ∧ R β1 M1
theorem val_lt (h : Sim C E a w ι β M) {s : Nat} (hs : valOf a s ≠ undef) : s ≠ gs := h.ne_gs (h.lt_of hs)
theorem data_sound {t : Nat} {x : AD} (h : Sim C E a w ι β M) (hq : (data t).run E = some (x, E1)) :
    ∃ β1 M1, Sim C E1 a w ι β1 M1 ∧ Evo C.X M w M1 w ∧ RdA w ι M1 (valOf a t) x := by
  have ho := h.hold t
  simp only [data, Q.run] at hq
  cases hE : E t with
  | v y =>
    rw [hE] at hq ho
    obtain ⟨rfl, rfl⟩ := ret_run hq
    exact ⟨β, M, h, Evo.refl _ _, ho⟩
  | own g e sz rows =>
    rw [hE] at hq
    simp only [Q.run, Option.some.injEq, Prod.mk.injEq] at hq
    obtain ⟨rfl, rfl⟩ := hq
    obtain ⟨M', he, hs, hr⟩ := h.freeze hE
    exact ⟨_, M', hs, he, hr⟩
  | vw s g =>
    rw [hE] at hq ho
    simp only [Q.run] at hq
    cases hS : E s with
    | own g' e sz rows =>
      rw [hS] at hq
      simp only at hq
      split at hq
      · rename_i hg
        subst hg
        simp only [Q.run, Option.some.injEq, Prod.mk.injEq] at hq
        obtain ⟨rfl, rfl⟩ := hq
        have hval : valOf a t = valOf a s := ho e sz rows hS
        obtain ⟨M', he, hs, hr⟩ := h.freeze hS
        have hne : t ≠ gs := by
          rintro rfl
          obtain ⟨H, nx, hH, _⟩ := h.hp
          rw [hH] at hE; cases hE
        refine ⟨_, M', hs.put' (a' := a) (av := .v (.one (.sl rows))) hne h.size h.defs (fun _ _ => rfl) rfl ?_, he, ?_⟩
        · simp only [Holds, RdA]; rw [hval]; exact hr
        · simp only [RdA]; rw [hval]; exact hr
      · cases hq
    | _ => rw [hS] at hq; cases hq
  | _ => rw [hE] at hq; cases hq
theorem cst_sound {v : Value} {d : D} (h : cst v = some d) : Rd w ι M v d := by
  unfold cst at h
  split at h <;> first | (injection h with h; subst h; constructor) | cases h
theorem opd_sound {x : Operand} {r : AD} (h : Sim C E a w ι β M) (hq : (opd x).run E = some (r, E1)) :
    ∃ β1 M1, Sim C E1 a w ι β1 M1 ∧ Evo C.X M w M1 w ∧ RdA w ι M1 (a.eval x) r := by
  cases x with
  | tmp t => exact data_sound h hq
  | const v =>
    simp only [opd] at hq
    cases hc : cst v with
    | none => rw [hc] at hq; cases hq
    | some d =>
      rw [hc] at hq
      obtain ⟨rfl, rfl⟩ := ret_run hq
      exact ⟨β, M, h, Evo.refl _ _, cst_sound hc⟩
  | func f =>
    obtain ⟨rfl, rfl⟩ := ret_run hq
    exact ⟨β, M, h, Evo.refl _ _, Rd.fn f⟩
  | global g => cases hq
theorem opds_sound {l : List Operand} {r : List AD} (h : Sim C E a w ι β M) (hq : (opds l).run E = some (r, E1)) :
    ∃ β1 M1, Sim C E1 a w ι β1 M1 ∧ Evo C.X M w M1 w ∧ r.length = l.length ∧ ∀ (j : Nat) x y, l[j]? = some x → r[j]? = some y → RdA w ι M1 (a.eval x) y := by
  induction l generalizing E β M r E1 with
  | nil =>
    obtain ⟨rfl, rfl⟩ := ret_run hq
    exact ⟨β, M, h, Evo.refl _ _, rfl, fun j x y hx => by simp at hx⟩
  | cons x l ih =>
    simp only [opds] at hq
    obtain ⟨b, E2, h1, hq⟩ := Q.run_bind_some hq
    obtain ⟨bs, E3, h2, hq⟩ := Q.run_bind_some hq
    obtain ⟨rfl, rfl⟩ := ret_run hq
    obtain ⟨β1, M1, s1, e1, r1⟩ := opd_sound h h1
    obtain ⟨β2, M2, s2, e2, hl, r2⟩ := ih s1 h2
    refine ⟨β2, M2, s2, e1.trans e2, by simp [hl], fun j x' y hx hy => ?_⟩
    cases j with
    | zero => simp at hx hy; subst hx; subst hy; exact r1.mono e2 (fun _ _ h => h)
    | succ j => simp at hx hy; exact r2 j x' y hx hy
theorem parts_sound {l : List (Nat × Operand)} {r : List (Nat × List D)} (h : Sim C E a w ι β M) (hq : (parts l).run E = some (r, E1)) :
    ∃ β1 M1, Sim C E1 a w ι β1 M1 ∧ Evo C.X M w M1 w ∧ r.length = l.length ∧ ∀ (j : Nat) x y, l[j]? = some x → r[j]? = some y → y.1 = x.1 ∧ RdL w ι M1 (a.eval x.2).cells.toList y.2 := by
  induction l generalizing E β M r E1 with
  | nil =>
    obtain ⟨rfl, rfl⟩ := ret_run hq
    exact ⟨β, M, h, Evo.refl _ _, rfl, fun j x y hx => by simp at hx⟩
  | cons x l ih =>
    obtain ⟨i, x⟩ := x
    simp only [parts] at hq
    obtain ⟨b, E2, h1, hq⟩ := Q.run_bind_some hq
    obtain ⟨bs, E3, h2, hq⟩ := Q.run_bind_some hq
    obtain ⟨rfl, rfl⟩ := ret_run hq
    obtain ⟨β1, M1, s1, e1, r1⟩ := opd_sound h h1
    obtain ⟨β2, M2, s2, e2, hl, r2⟩ := ih s1 h2
    refine ⟨β2, M2, s2, e1.trans e2, by simp [hl], fun j x' y hx hy => ?_⟩
    cases j with
    | zero => simp at hx hy; subst hx; subst hy; exact ⟨rfl, (r1.mono e2 (fun _ _ h => h)).cells⟩
    | succ j => simp at hx hy; exact r2 j x' y hx hy
def PlHolds (w : World) (ι β : Nat → Option Nat) (M : Nat → Prop) (E : Env) (v : Value) : Pl → Prop
  | .loc t g off => ∀ xs, E t = .box g xs → ∃ b, β t = some b ∧ v = .pointer (some ⟨b, off, none⟩)
  | .oloc t g i off => ∀ e sz rows, E t = .own g e sz rows → ∃ b, β t = some b ∧ v = .pointer (some ⟨b, i * sz + off, none⟩)
  | .imm rows i off => ∃ a sz, ImmAt w ι M a sz rows ∧ v = .pointer (some (a.add (i * sz + off)))
  | .obj o sz i off => ∃ b, ι o = some b ∧ 0 < sz ∧ v = .pointer (some ⟨b, i * sz + off, none⟩)
theorem addr_sound {x : Operand} {p : Pl} (h : Sim C E a w ι β M) (hq : (addr x).run E = some (p, E1)) : E1 = E ∧ PlHolds w ι β M E (a.eval x) p ∧ ∃ ad, a.eval x = .pointer (some ad) := by
  cases x with
  | tmp t =>
    have ho := h.hold t
    simp only [addr, Q.run] at hq
    cases hE : E t with
    | loc s g off =>
      rw [hE] at hq ho
      simp only [Q.run] at hq
      cases hS : E s with
      | box g' xs =>
        rw [hS] at hq
        simp only at hq
        split at hq
        · rename_i hg; subst hg
          obtain ⟨rfl, rfl⟩ := ret_run hq
          obtain ⟨b, _, h2⟩ := ho xs hS
          exact ⟨rfl, ho, _, h2⟩
        · cases hq
      | _ => rw [hS] at hq; cases hq
    | box g xs =>
      rw [hE] at hq ho; obtain ⟨rfl, rfl⟩ := ret_run hq
      obtain ⟨b, cs, T, h1, h2, _⟩ := ho
      exact ⟨rfl, fun xs' _ => ⟨b, h1, h2⟩, _, h2⟩
    | oloc s g i off =>
      rw [hE] at hq ho
      simp only [Q.run] at hq
      cases hS : E s with
      | own g' e sz rows =>
        rw [hS] at hq
        simp only at hq
        split at hq
        · rename_i hg; subst hg
          obtain ⟨rfl, rfl⟩ := ret_run hq
          obtain ⟨b, _, h2⟩ := ho e sz rows hS
          exact ⟨rfl, ho, _, h2⟩
        · cases hq
      | _ => rw [hS] at hq; cases hq
    | imm rows i off =>
      rw [hE] at hq ho; obtain ⟨rfl, rfl⟩ := ret_run hq
      obtain ⟨a0, sz, h1, h2⟩ := ho
      exact ⟨rfl, ⟨a0, sz, h1, h2⟩, _, h2⟩
    | v y =>
      rw [hE] at hq ho
      cases y with
      | one d =>
        cases d with
        | ptr o sz i off =>
          obtain ⟨rfl, rfl⟩ := ret_run hq
          have hr : Rd w ι M (valOf a t) (.ptr o sz i off) := ho
          show E1 = E1 ∧ (∃ b, ι o = some b ∧ 0 < sz ∧ valOf a t = _) ∧ ∃ ad, valOf a t = _
          generalize valOf a t = u at hr
          cases hr with
          | ptr _ _ _ _ b hb hz => exact ⟨rfl, ⟨b, hb, hz, rfl⟩, _, rfl⟩
        | _ => cases hq
      | many ds => cases hq
    | _ => rw [hE] at hq; cases hq
  | _ => cases hq
theorem av_holds {p : Pl} {d : Nat} {E' : Env} {β' : Nat → Option Nat} {val : Nat → Value} (h : PlHolds w ι β M E (val d) p) (hd : ∀ t, t ≠ d → E' t = E t ∧ β' t = β t) (hnb : (E' d).isBlk = false) :
    Holds w ι β' M val E' d p.av := by
  cases p with
  | loc t g off =>
    intro xs ht
    by_cases e : t = d
    · subst e; rw [ht] at hnb; cases hnb
    · obtain ⟨b, h1, h2⟩ := h xs (by rw [← (hd t e).1]; exact ht)
      exact ⟨b, by rw [(hd t e).2]; exact h1, h2⟩
  | oloc t g i off =>
    intro e' sz rows ht
    by_cases e : t = d
    · subst e; rw [ht] at hnb; cases hnb
    · obtain ⟨b, h1, h2⟩ := h e' sz rows (by rw [← (hd t e).1]; exact ht)
      exact ⟨b, by rw [(hd t e).2]; exact h1, h2⟩
  | imm rows i off => exact h
  | obj o sz i off =>
    obtain ⟨b, h1, hz, h2⟩ := h
    show Rd w ι M (val d) _
    rw [h2]; exact .ptr _ _ _ _ _ h1 hz
theorem Pl.av_nb (p : Pl) : p.av.isBlk = false := by cases p <;> rfl
theorem Sim.put_pl (h : Sim C E a w ι β M) {d : Nat} (hd : d < C.nt) {v : Value} {p : Pl} (hp : PlHolds w ι β M E v p) : Sim C (upd E d p.av) (a.put (some d) v) w ι (unset β d) M :=
  h.put hd p.av_nb (av_holds (β := β) (E := E) (by rw [h.val_put hd]; exact hp) (fun t ht => ⟨upd_ne E _ ht, by simp [unset, ht]⟩) (by rw [upd_same]; exact p.av_nb))
theorem PlHolds.shift {v : Value} {p : Pl} {n : Nat} (h : PlHolds w ι β M E v p) {ad : Addr} (hv : v = .pointer (some ad)) : PlHolds w ι β M E (.pointer (some (ad.add n))) (p.shift n) := by
  subst hv
  cases p with
  | loc t g off =>
    intro xs ht
    obtain ⟨b, h1, h2⟩ := h xs ht
    injection h2 with h2; injection h2 with h2; subst h2
    exact ⟨b, h1, by rw [addr_add rfl]⟩
  | oloc t g i off =>
    intro e sz rows ht
    obtain ⟨b, h1, h2⟩ := h e sz rows ht
    injection h2 with h2; injection h2 with h2; subst h2
    exact ⟨b, h1, by rw [addr_add rfl, Nat.add_assoc]⟩
  | imm rows i off =>
    obtain ⟨a0, sz, h1, h2⟩ := h
    injection h2 with h2; injection h2 with h2; subst h2
    refine ⟨a0, sz, h1, ?_⟩
    rw [addr_add h1.spot, addr_add rfl, addr_add h1.spot]
    simp [Nat.add_assoc]
  | obj o sz i off =>
    obtain ⟨b, h1, hz, h2⟩ := h
    injection h2 with h2; injection h2 with h2; subst h2
    exact ⟨b, h1, hz, by rw [addr_add rfl, Nat.add_assoc]⟩
theorem sub_some {xs cs : List D} {off n : Nat} (h : sub xs off n = some cs) : off + n ≤ xs.length ∧ cs = (xs.drop off).take n ∧ cs.length = n := by
  unfold sub at h
  split at h
  · injection h with h; subst h; exact ⟨by assumption, rfl, by simp; omega⟩
  · cases h
theorem sub_get {xs cs : List D} {off n : Nat} (h : sub xs off n = some cs) {j : Nat} {d : D} (hd : cs[j]? = some d) : xs[off + j]? = some d := by
  obtain ⟨_, rfl, _⟩ := sub_some h
  rw [List.getElem?_take] at hd
  split at hd
  · rwa [List.getElem?_drop] at hd
  · cases hd
def Cells (w : World) (ι : Nat → Option Nat) (M : Nat → Prop) (ad : Addr) (cs : List D) : Prop :=
  ∃ vs, RdL w ι M vs cs ∧ ∀ (j : Nat) u, vs[j]? = some u → w.cell? (ad.add j) = some u
theorem Cells.of {ad : Addr} {cs : List D} (h : ∀ j d, cs[j]? = some d → ∃ u, w.cell? (ad.add j) = some u ∧ Rd w ι M u d) : Cells w ι M ad cs := by
  refine ⟨(List.range cs.length).map fun j => (w.cell? (ad.add j)).getD undef, ⟨by simp, fun j v d hv hd => ?_⟩, fun j u hu => ?_⟩
  · obtain ⟨u, h1, h2⟩ := h j d hd
    have hj : j < cs.length := (List.getElem?_eq_some_iff.1 hd).1
    simp [List.getElem?_map, List.getElem?_range hj, h1] at hv
    subst hv; exact h2
  · have hj : j < cs.length := by
      rcases Nat.lt_or_ge j cs.length with hj | hj
      · exact hj
      · rw [List.getElem?_eq_none (by simpa using hj)] at hu; cases hu
    obtain ⟨u', h1, _⟩ := h j cs[j] (List.getElem?_eq_getElem hj)
    simp [List.getElem?_map, List.getElem?_range hj, h1] at hu
    subst hu; exact h1
theorem Blk.cells {b : Nat} {T : TypeId} {cs : Array Value} {sz : Nat} {rows : List (List D)} (h : Blk w ι M b T cs sz rows) {i off n : Nat} {r ds : List D} (hr : rows[i]? = some r) (hs : sub r off n = some ds) :
    Cells w ι M ⟨b, i * sz + off, none⟩ ds := by
  refine Cells.of fun j d hd => ?_
  obtain ⟨v, hv, hrd⟩ := h.rd i (off + j) r d hr (sub_get hs hd)
  refine ⟨v, ?_, hrd⟩
  rw [addr_add rfl]
  simp only [World.cell?, h.at_]
  rw [Nat.add_assoc]; simpa using hv
theorem rdPl_sound {n : Nat} {p : Pl} {cs : List D} {v : Value} (h : Sim C E a w ι β M) (hp : PlHolds w ι β M E v p) (hq : (rdPl n p).run E = some (cs, E1)) :
    E1 = E ∧ cs.length = n ∧ ∃ ad, v = .pointer (some ad) ∧ Cells w ι M ad cs := by
  cases p with
  | loc t g off =>
    have ho := h.hold t
    simp only [rdPl, Q.run] at hq
    cases hE : E t with
    | box g' xs =>
      rw [hE] at hq ho
      simp only at hq
      split at hq
      · rename_i hg; subst hg
        obtain ⟨hs, rfl⟩ := ofOpt_run hq
        obtain ⟨b, h1, h2⟩ := hp xs hE
        obtain ⟨b', cs', T, h3, _, h5⟩ := ho
        rw [h1] at h3; injection h3 with h3; subst h3
        refine ⟨rfl, (sub_some hs).2.2, _, h2, ?_⟩
        have := h5.cells (i := 0) (r := xs) rfl hs
        simpa using this
      · cases hq
    | _ => rw [hE] at hq; cases hq
  | oloc t g i off =>
    have ho := h.hold t
    simp only [rdPl, Q.run] at hq
    cases hE : E t with
    | own g' e sz rows =>
      rw [hE] at hq ho
      simp only at hq
      split at hq
      · rename_i hg; subst hg
        obtain ⟨r, E2, h0, hq2⟩ := Q.run_bind_some hq
        clear hq
        obtain ⟨hr, rfl⟩ := ofOpt_run h0
        obtain ⟨hs, rfl⟩ := ofOpt_run hq2
        obtain ⟨b, h1, h2⟩ := hp e sz rows hE
        obtain ⟨_, ho⟩ := ho
        rcases ho with ⟨_, hn, _⟩ | ⟨b', cs', cap, h3, _, _, _, _, h8⟩
        · subst hn; simp at hr
        · rw [h1] at h3; injection h3 with h3; subst h3
          exact ⟨rfl, (sub_some hs).2.2, _, h2, h8.cells hr hs⟩
      · cases hq
    | _ => rw [hE] at hq; cases hq
  | imm rows i off =>
    simp only [rdPl] at hq
    obtain ⟨r, E2, h0, hq2⟩ := Q.run_bind_some hq
    clear hq
    obtain ⟨hr, rfl⟩ := ofOpt_run h0
    obtain ⟨hs, rfl⟩ := ofOpt_run hq2
    obtain ⟨a0, sz, h1, h2⟩ := hp
    refine ⟨rfl, (sub_some hs).2.2, _, h2, Cells.of fun j d hd => ?_⟩
    obtain ⟨u, hu, hrd⟩ := h1.rd i (off + j) r d hr (sub_get hs hd)
    refine ⟨u, ?_, hrd⟩
    rw [addr_add h1.spot] at hu ⊢
    rw [addr_add rfl]
    simpa [Nat.add_assoc] using hu
  | obj o sz i off =>
    simp only [rdPl, Q.run] at hq
    cases hE : E gs with
    | heap H nx =>
      rw [hE] at hq
      simp only at hq
      obtain ⟨ob, E2, h0, hq2⟩ := Q.run_bind_some hq
      clear hq
      obtain ⟨hH, rfl⟩ := ofOpt_run h0
      split at hq2
      · rename_i hsz; subst hsz
        obtain ⟨r, E3, h3, hq3⟩ := Q.run_bind_some hq2
        clear hq2
        obtain ⟨hr, rfl⟩ := ofOpt_run h3
        obtain ⟨hs, rfl⟩ := ofOpt_run hq3
        obtain ⟨b, h1, hz, h2⟩ := hp
        obtain ⟨b', h3, h4⟩ := h.objs o ob (by simp [live, hE, hH])
        rw [h1] at h3; injection h3 with h3; subst h3
        obtain ⟨T, cs', _, h4⟩ := h4.blkE hz
        rw [PObj.row_full] at hr
        exact ⟨rfl, (sub_some hs).2.2, _, h2, h4.cells hr hs⟩
      · cases hq2
    | _ => rw [hE] at hq; cases hq
end
end Go.Proofs.YtmhinddneefmbaaGreat.Pe
