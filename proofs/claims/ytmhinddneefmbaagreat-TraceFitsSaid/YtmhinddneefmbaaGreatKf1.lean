/- A part of the proof of JdH. -/
import Derived.ProofKit
import Derived.Below
import Derived.ChangeOld
import Derived.Deep.Slices
import Derived.Test.YtmhinddneefmbaaGreatKf0
set_option linter.unusedSimpArgs false
set_option linter.unusedVariables false
set_option linter.unusedSectionVars false
namespace Go.Proofs.YtmhinddneefmbaaGreat.Pe
open Go
theorem addr_add {a : Addr} (h : a.spot = none) (n : Nat) : a.add n = ⟨a.block, a.off + n, none⟩ := by
  cases a; simp only at h; subst h; unfold Addr.add; split
  · subst_vars; rfl
  · rfl
inductive Rd (w : World) (ι : Nat → Option Nat) (M : Nat → Prop) : Value → D → Prop
  | int (k : IntKind) (n : Int) : Rd w ι M (.int k n) (.int k n)
  | bool (b : Bool) : Rd w ι M (.bool b) (.bool b)
  | str (s : ByteArray) : Rd w ι M (.string s) (.str s)
  | nil (A : Option Addr) (c : Nat) : Rd w ι M (.slice A 0 c) (.sl [])
  | sl (a : Addr) (n c sz : Nat) (rows : List (List D)) (f : Nat → Nat → Value) (hn : rows.length = n) (h0 : 0 < n) (hnc : n ≤ c) (hsz : 0 < sz)
      (hs : ∀ r ∈ rows, r.length = sz) (ha : a.spot = none) (hm : ¬ M a.block)
      (hc : ∀ i j, i < n → j < sz → w.cell? (a.add (i * sz + j)) = some (f i j))
      (hr : ∀ i j r d, rows[i]? = some r → r[j]? = some d → Rd w ι M (f i j) d) : Rd w ι M (.slice (some a) n c) (.sl rows)
  | ptr (o sz i off b : Nat) (h : ι o = some b) (hsz : 0 < sz) : Rd w ι M (.pointer (some ⟨b, i * sz + off, none⟩)) (.ptr o sz i off)
  | nilp : Rd w ι M (.pointer none) .nilp
  | ref (o sz i n c b : Nat) (h : ι o = some b) (hnc : n ≤ c) (hcm : c ≤ maxLen) (hsz : 0 < sz) (hcap : ∃ cs T, w.heap[b]? = some (.cells cs T (0, 0)) ∧ (i + c) * sz = cs.size) : Rd w ι M (.slice (some ⟨b, i * sz, none⟩) n c) (.ref o sz i n)
  | fn (f : Nat) : Rd w ι M (.func (.func f) #[] #[]) (.fn f)
  | nilm : Rd w ι M (.map none) .nilm
  | nilf : Rd w ι M .nilFunc .nilf
  | anyb (b : Bool) : Rd w ι M (.bool b) .anyb
  | hole (v : Value) (h1 : v.oneCell' = true) : Rd w ι M v .hole
  | refc (o sz i n c b : Nat) (h : ι o = some b) (hnc : n ≤ c) (hcm : c ≤ maxLen) (hsz : 0 < sz) (hcap : ∃ cs T, w.heap[b]? = some (.cells cs T (0, 0)) ∧ (i + c) * sz = cs.size) : Rd w ι M (.slice (some ⟨b, i * sz, none⟩) n c) (.refc o sz i n c)
  | mp (o b : Nat) (h : ι o = some b) : Rd w ι M (.map (some b)) (.mp o)
  | nils : Rd w ι M (.slice none 0 0) .nils
  | yl (o b : Nat) (h : ι o = some b) : Rd w ι M (.func (.yield b) #[] #[]) (.yl o)
  | clo (f : Nat) (cs : Array Value) (caps : List D) (hn : cs.size = caps.length) (hr : ∀ (j : Nat) v d, cs[j]? = some v → caps[j]? = some d → Rd w ι M v d) : Rd w ι M (.func (.func f) #[] cs) (.clo f caps)
theorem Rd.one {w : World} {ι : Nat → Option Nat} {M : Nat → Prop} {v : Value} {d : D} (h : Rd w ι M v d) : v.oneCell' = true := by cases h <;> first | rfl | assumption
def Shape (w w' : World) : Prop := ∀ (b : Nat) (cs : Array Value) (T : TypeId), w.heap[b]? = some (.cells cs T (0, 0)) → ∃ cs', w'.heap[b]? = some (.cells cs' T (0, 0)) ∧ cs'.size = cs.size
theorem Shape.refl (w : World) : Shape w w := fun _ cs _ h => ⟨cs, h, rfl⟩
theorem Shape.trans {w w' w'' : World} (h : Shape w w') (k : Shape w' w'') : Shape w w'' := fun b cs T hb => by
  obtain ⟨c1, h1, h2⟩ := h b cs T hb
  obtain ⟨c2, h3, h4⟩ := k b c1 T h1
  exact ⟨c2, h3, h4.trans h2⟩
theorem Shape.of {w w' : World} (h : ∀ b, b < w.heap.size → w'.heap[b]? = w.heap[b]?) : Shape w w' := fun b cs _ hb => ⟨cs, (h b (Array.getElem?_eq_some_iff.1 hb).1).trans hb, rfl⟩
structure Evo (X M : Nat → Prop) (w : World) (M' : Nat → Prop) (w' : World) : Prop where
  os : w'.os = w.os
  tape : w'.tape = w.tape
  output : w'.output = w.output
  size : w.heap.size ≤ w'.heap.size
  same : ∀ b, b < w.heap.size → ¬ M b → w'.heap[b]? = w.heap[b]?
  back : ∀ b, b < w.heap.size → M' b → M b
  keep : ∀ b, b < w.heap.size → X b → w'.heap[b]? = w.heap[b]?
  shape : Shape w w'
theorem Evo.refl {X : Nat → Prop} (M : Nat → Prop) (w : World) : Evo X M w M w := ⟨rfl, rfl, rfl, Nat.le_refl _, fun _ _ _ => rfl, fun _ _ h => h, fun _ _ _ => rfl, .refl _⟩
theorem Evo.trans {X M M' M'' : Nat → Prop} {w w' w'' : World} (h : Evo X M w M' w') (k : Evo X M' w' M'' w'') : Evo X M w M'' w'' :=
  ⟨k.os.trans h.os, k.tape.trans h.tape, k.output.trans h.output, Nat.le_trans h.size k.size,
   fun b hb hm => (k.same b (Nat.lt_of_lt_of_le hb h.size) (fun hm' => hm (h.back b hb hm'))).trans (h.same b hb hm),
   fun b hb hm => h.back b hb (k.back b (Nat.lt_of_lt_of_le hb h.size) hm),
   fun b hb hx => (k.keep b (Nat.lt_of_lt_of_le hb h.size) hx).trans (h.keep b hb hx), h.shape.trans k.shape⟩
theorem Rd.mono {w w' : World} {ι ι' : Nat → Option Nat} {M M' : Nat → Prop} {v : Value} {d : D} (h : Rd w ι M v d)
    (hs : ∀ b, b < w.heap.size → ¬ M b → w'.heap[b]? = w.heap[b]?) (hb : ∀ b, b < w.heap.size → M' b → M b) (hi : ∀ o b, ι o = some b → ι' o = some b) (hsh : Shape w w') : Rd w' ι' M' v d := by
  induction h with
  | int => exact .int _ _
  | bool => exact .bool _
  | str => exact .str _
  | nil => exact .nil _ _
  | sl a n c sz rows f hn h0 hnc hsz hs' ha hm hc hr ih =>
    have hlt : a.block < w.heap.size := by
      have := World.block_lt_of_cell? w _ (hc 0 0 h0 hsz)
      rw [addr_add ha] at this
      exact this
    refine .sl a n c sz rows f hn h0 hnc hsz hs' ha (fun hm' => hm (hb _ hlt hm')) (fun i j hi' hj => ?_) ih
    rw [← hc i j hi' hj]
    refine World.cell?_of_block ?_
    rw [addr_add ha]
    exact hs _ hlt hm
  | ptr o sz i off b h hz => exact .ptr _ _ _ _ _ (hi _ _ h) hz
  | nilp => exact .nilp
  | ref o sz i n c b h hnc hcm hz hc =>
    obtain ⟨cs, T, h1, h2⟩ := hc
    obtain ⟨cs', h3, h4⟩ := hsh b cs T h1
    exact .ref _ _ _ _ _ _ (hi _ _ h) hnc hcm hz ⟨cs', T, h3, by rw [h4]; exact h2⟩
  | fn => exact .fn _
  | nilm => exact .nilm
  | nilf => exact .nilf
  | anyb b => exact .anyb b
  | hole v h1 => exact .hole v h1
  | refc o sz i n c b h hnc hcm hz hc =>
    obtain ⟨cs, T, h1, h2⟩ := hc
    obtain ⟨cs', h3, h4⟩ := hsh b cs T h1
    exact .refc _ _ _ _ _ _ (hi _ _ h) hnc hcm hz ⟨cs', T, h3, by rw [h4]; exact h2⟩
  | mp o b h => exact .mp _ _ (hi _ _ h)
  | nils => exact .nils
  | yl o b h => exact .yl _ _ (hi _ _ h)
  | clo f cs caps hn hr ih => exact .clo f cs caps hn ih
def RdL (w : World) (ι : Nat → Option Nat) (M : Nat → Prop) (vs : List Value) (ds : List D) : Prop :=
  vs.length = ds.length ∧ ∀ (j : Nat) v d, vs[j]? = some v → ds[j]? = some d → Rd w ι M v d
def RdA (w : World) (ι : Nat → Option Nat) (M : Nat → Prop) (v : Value) : AD → Prop
  | .one d => Rd w ι M v d
  | .many ds => ∃ cs : Array Value, v = .agg cs ∧ RdL w ι M cs.toList ds
def RdT (w : World) (ι : Nat → Option Nat) (M : Nat → Prop) (v : Value) (l : List AD) : Prop :=
  ∃ vs : Array Value, v = .tuple vs ∧ vs.size = l.length ∧ ∀ (j : Nat) v a, vs[j]? = some v → l[j]? = some a → RdA w ι M v a
def RdV (w : World) (ι : Nat → Option Nat) (M : Nat → Prop) (v : Value) : RV → Prop
  | .a a => RdA w ι M v a
  | .tup l => RdT w ι M v l
section
variable {w w' : World} {ι ι' : Nat → Option Nat} {M M' X : Nat → Prop}
theorem RdL.mono {vs : List Value} {ds : List D} (h : RdL w ι M vs ds) (he : Evo X M w M' w') (hi : ∀ o b, ι o = some b → ι' o = some b) : RdL w' ι' M' vs ds :=
  ⟨h.1, fun j v d hv hd => (h.2 j v d hv hd).mono he.same he.back hi he.shape⟩
theorem RdA.mono {v : Value} {a : AD} (h : RdA w ι M v a) (he : Evo X M w M' w') (hi : ∀ o b, ι o = some b → ι' o = some b) : RdA w' ι' M' v a := by
  cases a with
  | one d => exact Rd.mono h he.same he.back hi he.shape
  | many ds => obtain ⟨cs, e, hl⟩ := h; exact ⟨cs, e, hl.mono he hi⟩
theorem RdT.mono {v : Value} {a : List AD} (h : RdT w ι M v a) (he : Evo X M w M' w') (hi : ∀ o b, ι o = some b → ι' o = some b) : RdT w' ι' M' v a := by
  obtain ⟨vs, e, hl, hr⟩ := h
  exact ⟨vs, e, hl, fun j v a hv ha => (hr j v a hv ha).mono he hi⟩
theorem RdV.mono {v : Value} {a : RV} (h : RdV w ι M v a) (he : Evo X M w M' w') (hi : ∀ o b, ι o = some b → ι' o = some b) : RdV w' ι' M' v a := by
  cases a with
  | a a => exact RdA.mono h he hi
  | tup l => exact RdT.mono h he hi
theorem RdA.weak {v : Value} {a : AD} (h : RdA w ι M v a) : RdA w ι M v a.weak := by
  unfold AD.weak
  split
  · have hr : Rd w ι M v (.refc _ _ _ _ _) := h
    cases hr with
    | refc _ _ _ _ _ b h1 h2 h3 h4 h5 => exact Rd.ref _ _ _ _ _ b h1 h2 h3 h4 ⟨h5.choose, h5.choose_spec.choose, h5.choose_spec.choose_spec⟩
  · have hr : Rd w ι M v .nils := h
    cases hr with
    | nils => exact Rd.nil _ _
  · exact h
theorem RdA.cells {v : Value} {a : AD} (h : RdA w ι M v a) : RdL w ι M v.cells.toList a.cells := by
  cases a with
  | one d =>
    have h1 : Rd w ι M v d := h
    have : v.cells = #[v] := by
      have := h1.one
      cases v <;> first | rfl | (simp [Value.oneCell'] at this)
    rw [this]
    refine ⟨rfl, fun j v' d' hv hd => ?_⟩
    cases j with
    | zero => simp [AD.cells] at hv hd; subst hv; subst hd; exact h1
    | succ j => simp at hv
  | many ds => obtain ⟨cs, e, hl⟩ := h; subst e; exact hl
theorem RdL.one' {vs : List Value} {ds : List D} (h : RdL w ι M vs ds) : ∀ v ∈ vs, v.oneCell' = true := by
  intro v hv
  obtain ⟨j, hj, rfl⟩ := List.getElem_of_mem hv
  have hd : ds[j]? = some (ds[j]'(h.1 ▸ hj)) := List.getElem?_eq_getElem _
  exact (h.2 j _ _ (List.getElem?_eq_getElem hj) hd).one
end
theorem cover_one {w : World} {ι : Nat → Option Nat} {M : Nat → Prop} {cs : List Value} {sz : Nat} {rows : List (List D)} (hf : cs.length ≤ rows.length * sz) (hpos : 0 < sz) (hu : ∀ r ∈ rows, r.length = sz)
    (hr : ∀ (i j : Nat) r d, rows[i]? = some r → r[j]? = some d → ∃ v, cs[i * sz + j]? = some v ∧ Rd w ι M v d) : ∀ v ∈ cs, v.oneCell' = true := by
  intro v hv
  obtain ⟨k, hk, rfl⟩ := List.getElem_of_mem hv
  have h1 : k / sz < rows.length := Nat.div_lt_of_lt_mul (by rw [Nat.mul_comm]; omega)
  have h2 : k % sz < sz := Nat.mod_lt _ hpos
  have hl := hu _ (List.getElem_mem h1)
  obtain ⟨u, hu1, hu2⟩ := hr (k / sz) (k % sz) rows[k / sz] (rows[k / sz][k % sz]'(by omega)) (List.getElem?_eq_getElem h1) (List.getElem?_eq_getElem (by omega))
  have e : k / sz * sz + k % sz = k := by rw [Nat.mul_comm]; exact Nat.div_add_mod k sz
  rw [e, List.getElem?_eq_getElem hk] at hu1
  injection hu1 with hu1
  rw [hu1]
  exact hu2.one
structure Blk (w : World) (ι : Nat → Option Nat) (M : Nat → Prop) (b : Nat) (T : TypeId) (cs : Array Value) (sz : Nat) (rows : List (List D)) : Prop where
  at_ : w.heap[b]? = some (.cells cs T (0, 0))
  pos : 0 < sz
  fit : rows.length * sz ≤ cs.size
  uni : ∀ r ∈ rows, r.length = sz
  rd : ∀ (i j : Nat) r d, rows[i]? = some r → r[j]? = some d → ∃ v, cs[i * sz + j]? = some v ∧ Rd w ι M v d
  one : ∀ v ∈ cs.toList, v.oneCell' = true
theorem Blk.mono {w w' : World} {ι ι' : Nat → Option Nat} {M M' X : Nat → Prop} {b : Nat} {T : TypeId} {cs : Array Value} {sz : Nat} {rows : List (List D)} (h : Blk w ι M b T cs sz rows)
    (he : Evo X M w M' w') (hi : ∀ o b, ι o = some b → ι' o = some b) (hb : w'.heap[b]? = w.heap[b]?) : Blk w' ι' M' b T cs sz rows :=
  ⟨hb.trans h.at_, h.pos, h.fit, h.uni, fun i j r d hr hd => let ⟨v, hv, hrd⟩ := h.rd i j r d hr hd; ⟨v, hv, hrd.mono he.same he.back hi he.shape⟩, h.one⟩
theorem Blk.lt {w : World} {ι : Nat → Option Nat} {M : Nat → Prop} {b : Nat} {T : TypeId} {cs : Array Value} {sz : Nat} {rows : List (List D)} (h : Blk w ι M b T cs sz rows) : b < w.heap.size :=
  (Array.getElem?_eq_some_iff.1 h.at_).1
def sameShape : Value → Value → Bool
  | .int k _, .int k' _ => k == k'
  | .string _, .string _ => true
  | _, _ => false
structure MapAt (w : World) (ι : Nat → Option Nat) (M : Nat → Prop) (b : Nat) (es : Array MapEntry) (clock : Nat) (rows : List (List D)) : Prop where
  at_ : w.heap[b]? = some (.map es clock)
  al : ∃ rs : List (List D), rs.Perm rows ∧ es.size = rs.length ∧ ∀ (i : Nat) e r, es[i]? = some e → rs[i]? = some r → ∃ k v, r = [k, v] ∧ Rd w ι M e.key k ∧ Rd w ι M e.val v
  st : MapKept.Stamped es clock
  shp : ∀ x ∈ es.toList, ∀ y ∈ es.toList, sameShape x.key y.key = true
theorem MapAt.len {w : World} {ι : Nat → Option Nat} {M : Nat → Prop} {b : Nat} {es : Array MapEntry} {clock : Nat} {rows : List (List D)} (h : MapAt w ι M b es clock rows) : es.size = rows.length := by
  obtain ⟨rs, h1, h2, _⟩ := h.al
  rw [h2, h1.length_eq]
theorem MapAt.perm {w : World} {ι : Nat → Option Nat} {M : Nat → Prop} {b : Nat} {es : Array MapEntry} {clock : Nat} {rows rows' : List (List D)} (h : MapAt w ι M b es clock rows) (hp : rows.Perm rows') : MapAt w ι M b es clock rows' :=
  ⟨h.at_, let ⟨rs, h1, h2⟩ := h.al; ⟨rs, h1.trans hp, h2⟩, h.st, h.shp⟩
theorem MapAt.mono {w w' : World} {ι ι' : Nat → Option Nat} {M M' X : Nat → Prop} {b : Nat} {es : Array MapEntry} {clock : Nat} {rows : List (List D)} (h : MapAt w ι M b es clock rows)
    (he : Evo X M w M' w') (hi : ∀ o b, ι o = some b → ι' o = some b) (hb : w'.heap[b]? = w.heap[b]?) : MapAt w' ι' M' b es clock rows :=
  ⟨hb.trans h.at_, let ⟨rs, h1, h2, h5⟩ := h.al; ⟨rs, h1, h2, fun i e r g1 g2 => let ⟨k, v, h3, h4, h6⟩ := h5 i e r g1 g2; ⟨k, v, h3, h4.mono he.same he.back hi he.shape, h6.mono he.same he.back hi he.shape⟩⟩, h.st, h.shp⟩
def ofB : Bool × List D → AD
  | (true, [d]) => .one d
  | (_, l) => .many l
def LoopAt (w : World) (ι : Nat → Option Nat) (M : Nat → Prop) (b : Nat) (nt : Nat) (env : Tr (Bool × List D)) (ps : List Nat) (assign body : Code) (busy : Bool) (jump : Option Code) : Prop :=
  ∃ r : Loop, w.heap[b]? = some (.loop r) ∧ r.tmps.size = nt ∧ r.params.toList = ps ∧ r.assign = assign ∧ r.body = body ∧ r.pending = jump ∧ r.state = (if busy then .busy else if jump.isNone then .ready else .done) ∧
    ∀ s x, s ≠ gs → env.get s = some x → RdA w ι M (r.tmps.getD s undef) (ofB x)
def ObjAt (w : World) (ι : Nat → Option Nat) (M : Nat → Prop) (b : Nat) (ob : PObj) : Prop :=
  (ob.sz = 0 ∧ ((notLoop ob.rows = true ∧ ∃ es clock, MapAt w ι M b es clock ob.rows) ∨ (∃ nt env ps assign body busy jump, ob.rows = [[.lrec nt env ps assign body busy jump]] ∧ LoopAt w ι M b nt env ps assign body busy jump) ∨ (∃ t n T cs, ob.rows = [[.wds t n]] ∧ (∀ e, ob.e = some e → T = e) ∧ Blk w ι M b T cs 1 (wdsRows t n)) ∨ ∃ t n T cs, ob.rows = [[.bts t n]] ∧ (∀ e, ob.e = some e → T = e) ∧ Blk w ι M b T cs 1 (btsRows t n))) ∨ ∃ T cs, (∀ e, ob.e = some e → T = e) ∧ Blk w ι M b T cs ob.sz ob.rows
theorem LoopAt.mono {w w' : World} {ι ι' : Nat → Option Nat} {M M' X : Nat → Prop} {b nt : Nat} {env : Tr (Bool × List D)} {ps : List Nat} {assign body : Code} {busy : Bool} {jump : Option Code} (h : LoopAt w ι M b nt env ps assign body busy jump)
    (he : Evo X M w M' w') (hi : ∀ o b, ι o = some b → ι' o = some b) (hb : w'.heap[b]? = w.heap[b]?) : LoopAt w' ι' M' b nt env ps assign body busy jump := by
  obtain ⟨r, h1, h2, h3, h4, h5, h6, h7, h8⟩ := h
  exact ⟨r, hb.trans h1, h2, h3, h4, h5, h6, h7, fun s x hs hx => (h8 s x hs hx).mono he hi⟩
theorem ObjAt.mono {w w' : World} {ι ι' : Nat → Option Nat} {M M' X : Nat → Prop} {b : Nat} {ob : PObj} (h : ObjAt w ι M b ob)
    (he : Evo X M w M' w') (hi : ∀ o b, ι o = some b → ι' o = some b) (hb : w'.heap[b]? = w.heap[b]?) : ObjAt w' ι' M' b ob := by
  rcases h with ⟨h0, ⟨hn, es, clock, h⟩ | ⟨nt, env, ps, assign, body, busy, jump, hr, h⟩ | ⟨t, n, T, cs, hr, hT, h⟩ | ⟨t, n, T, cs, hr, hT, h⟩⟩ | ⟨T, cs, hT, h⟩
  · exact .inl ⟨h0, .inl ⟨hn, es, clock, h.mono he hi hb⟩⟩
  · exact .inl ⟨h0, .inr (.inl ⟨nt, env, ps, assign, body, busy, jump, hr, h.mono he hi hb⟩)⟩
  · exact .inl ⟨h0, .inr (.inr (.inl ⟨t, n, T, cs, hr, hT, h.mono he hi hb⟩))⟩
  · exact .inl ⟨h0, .inr (.inr (.inr ⟨t, n, T, cs, hr, hT, h.mono he hi hb⟩))⟩
  · exact .inr ⟨T, cs, hT, h.mono he hi hb⟩
theorem ObjAt.blk {w : World} {ι : Nat → Option Nat} {M : Nat → Prop} {b : Nat} {ob : PObj} (h : ObjAt w ι M b ob) (hp : 0 < ob.sz) : ∃ T cs, (∀ e, ob.e = some e → T = e) ∧ Blk w ι M b T cs ob.sz ob.rows := by
  rcases h with ⟨h0, _⟩ | h
  · omega
  · exact h
theorem ObjAt.map {w : World} {ι : Nat → Option Nat} {M : Nat → Prop} {b : Nat} {ob : PObj} (h : ObjAt w ι M b ob) (hp : ob.sz = 0 ∧ notLoop ob.rows = true) : ∃ es clock, MapAt w ι M b es clock ob.rows := by
  rcases h with ⟨_, ⟨_, h⟩ | ⟨nt, env, ps, assign, body, busy, jump, hr, h⟩ | ⟨t, n, T, cs, hr, _, h⟩ | ⟨t, n, T, cs, hr, _, h⟩⟩ | ⟨T, cs, _, h⟩
  · exact h
  · rw [hr] at hp; cases hp.2
  · rw [hr] at hp; cases hp.2
  · rw [hr] at hp; cases hp.2
  · exact absurd h.pos (by omega)
theorem esz_cases (ob : PObj) : (∃ e t n, ob = ⟨e, 0, [[.bts t n]]⟩) ∨ (ob.esz = ob.sz ∧ ob.full = ob.rows ∧ (∀ i, ob.row i = ob.rows[i]?) ∧ ∀ i r, ob.put i r = some ⟨ob.e, ob.sz, ob.rows.set i r⟩) := by
  by_cases h : ∃ e t n, ob = ⟨e, 0, [[.bts t n]]⟩
  · exact .inl h
  · right
    refine ⟨?_, ?_, fun i => ?_, fun i r => ?_⟩
    · unfold PObj.esz; split
      · exact absurd ⟨_, _, _, rfl⟩ h
      · rfl
    · unfold PObj.full; split
      · exact absurd ⟨_, _, _, rfl⟩ h
      · rfl
    · unfold PObj.row; split
      · exact absurd ⟨_, _, _, rfl⟩ h
      · rfl
    · unfold PObj.put; split
      · exact absurd ⟨_, _, _, rfl⟩ h
      · rfl
theorem btsRows_get (t : Tr Nat) (n i : Nat) : (btsRows t n)[i]? = if i < n then some [byteB t i] else none := by
  unfold btsRows
  rw [List.getElem?_map]
  split
  · rename_i h; rw [List.getElem?_range h]; rfl
  · rename_i h; rw [List.getElem?_eq_none (by simpa using h)]; rfl
theorem PObj.row_full (ob : PObj) (i : Nat) : ob.row i = ob.full[i]? := by
  rcases esz_cases ob with ⟨e, t, n, rfl⟩ | ⟨_, h2, h3, _⟩
  · show Bool.rec (motive := fun _ => Option (List D)) none (some [byteB t i]) (Nat.blt i n) = (btsRows t n)[i]?
    rw [btsRows_get]
    cases hb : Nat.blt i n with
    | true => rw [if_pos (show i < n from Nat.le_of_ble_eq_true hb)]
    | false => rw [if_neg]; intro h; have := Nat.ble_eq_true_of_le h; unfold Nat.blt at hb; rw [this] at hb; cases hb
  · rw [h2, h3]
theorem ObjAt.blkE {w : World} {ι : Nat → Option Nat} {M : Nat → Prop} {b : Nat} {ob : PObj} (h : ObjAt w ι M b ob) (hp : 0 < ob.esz) : ∃ T cs, (∀ e, ob.e = some e → T = e) ∧ Blk w ι M b T cs ob.esz ob.full := by
  rcases esz_cases ob with ⟨e, t, n, rfl⟩ | ⟨h1, h2, _, _⟩
  · rcases h with ⟨h0, ⟨hn, _⟩ | ⟨nt, env, ps, assign, body, busy, jump, hr, _⟩ | ⟨t', n', T, cs, hr, _⟩ | ⟨t', n', T, cs, hr, hT, hb⟩⟩ | ⟨T, cs, hT, h⟩
    · cases hn
    · cases hr
    · cases hr
    · cases hr; exact ⟨T, cs, hT, hb⟩
    · have := h.pos; simp at this
  · rw [h1, h2]
    rw [h1] at hp
    exact h.blk hp
theorem ObjAt.ofBlk {w : World} {ι : Nat → Option Nat} {M : Nat → Prop} {b : Nat} {ob : PObj} {T : TypeId} {cs : Array Value} (hT : ∀ e, ob.e = some e → T = e) (h : Blk w ι M b T cs ob.esz ob.full) : ObjAt w ι M b ob := by
  rcases esz_cases ob with ⟨e, t, n, rfl⟩ | ⟨h1, h2, _, _⟩
  · exact .inl ⟨rfl, .inr (.inr (.inr ⟨t, n, T, cs, rfl, hT, h⟩))⟩
  · rw [h1, h2] at h
    exact .inr ⟨T, cs, hT, h⟩
theorem put_full {ob ob' : PObj} {i : Nat} {r : List D} (hp : 0 < ob.esz) (h : ob.put i r = some ob') : ob'.e = ob.e ∧ ob'.full = ob.full.set i r ∧ ob'.esz = ob.esz := by
  rcases esz_cases ob with ⟨e, t, n, rfl⟩ | ⟨h1, h2, h3, h4⟩
  · unfold PObj.put at h
    simp only at h
    split at h
    · rename_i v
      cases hb : Nat.blt i 1000000000 with
      | false => rw [hb] at h; cases h
      | true =>
        rw [hb] at h
        injection h with h; subst h
        refine ⟨rfl, ?_, rfl⟩
        show btsRows (t.set (some v) 30 i) n = (btsRows t n).set i [.int .u8 (.ofNat v)]
        have hlt : i < 1000000000 := Nat.le_of_ble_eq_true hb
        apply List.ext_getElem?
        intro j
        rw [btsRows_get, List.getElem?_set, btsRows_get]
        have hlen : (btsRows t n).length = n := by simp [btsRows]
        rw [hlen]
        unfold byteB
        rw [Tr.get_set _ _ _ _ (by omega)]
        by_cases hj : j = i
        · subst hj; simp only [if_true]
        · rw [if_neg hj, if_neg (show ¬ i = j from fun e => hj e.symm)]
    · cases h
  · rw [h4] at h
    injection h with h; subst h
    by_cases hb : ∃ e t n, (⟨ob.e, ob.sz, ob.rows.set i r⟩ : PObj) = ⟨e, 0, [[.bts t n]]⟩
    · obtain ⟨e, t, n, hb⟩ := hb
      injection hb with _ hb _
      rw [h1, hb] at hp
      cases hp
    · rcases esz_cases ⟨ob.e, ob.sz, ob.rows.set i r⟩ with h5 | ⟨k1, k2, _, _⟩
      · exact absurd h5 hb
      · exact ⟨rfl, by rw [k2, h2], by rw [k1, h1]⟩
theorem ObjAt.lt {w : World} {ι : Nat → Option Nat} {M : Nat → Prop} {b : Nat} {ob : PObj} (h : ObjAt w ι M b ob) : b < w.heap.size := by
  rcases h with ⟨h0, ⟨_, es, clock, h⟩ | ⟨nt, env, ps, assign, body, busy, jump, hr, r, h, _⟩ | ⟨t, n, T, cs, hr, _, h⟩ | ⟨t, n, T, cs, hr, _, h⟩⟩ | ⟨T, cs, hT, h⟩
  · exact (Array.getElem?_eq_some_iff.1 h.at_).1
  · exact (Array.getElem?_eq_some_iff.1 h).1
  · exact h.lt
  · exact h.lt
  · exact h.lt
noncomputable def live (E : Env) (o : Nat) : Option PObj := match E gs with | .heap H _ => H o | _ => none
structure ImmAt (w : World) (ι : Nat → Option Nat) (M : Nat → Prop) (a : Addr) (sz : Nat) (rows : List (List D)) : Prop where
  pos : 0 < sz
  uni : ∀ r ∈ rows, r.length = sz
  spot : a.spot = none
  im : ¬ M a.block
  lt : a.block < w.heap.size
  rd : ∀ (i j : Nat) r d, rows[i]? = some r → r[j]? = some d → ∃ v, w.cell? (a.add (i * sz + j)) = some v ∧ Rd w ι M v d
theorem ImmAt.mono {w w' : World} {ι ι' : Nat → Option Nat} {M M' X : Nat → Prop} {a : Addr} {sz : Nat} {rows : List (List D)} (h : ImmAt w ι M a sz rows)
    (he : Evo X M w M' w') (hi : ∀ o b, ι o = some b → ι' o = some b) : ImmAt w' ι' M' a sz rows :=
  ⟨h.pos, h.uni, h.spot, fun hm => h.im (he.back _ h.lt hm), Nat.lt_of_lt_of_le h.lt he.size, fun i j r d hr hd => by
    obtain ⟨v, hv, hrd⟩ := h.rd i j r d hr hd
    refine ⟨v, ?_, hrd.mono he.same he.back hi he.shape⟩
    rw [← hv]
    refine World.cell?_of_block ?_
    rw [addr_add h.spot]
    exact he.same _ h.lt h.im⟩
def Holds (w : World) (ι β : Nat → Option Nat) (M : Nat → Prop) (val : Nat → Value) (E : Env) (s : Nat) : AV → Prop
  | .junk => True
  | .heap _ _ => s = gs
  | .v a => RdA w ι M (val s) a
  | .tup l => RdT w ι M (val s) l
  | .box _ xs => ∃ b cs T, β s = some b ∧ val s = .pointer (some ⟨b, 0, none⟩) ∧ Blk w ι M b T cs xs.length [xs]
  | .loc t g off => ∀ xs, E t = .box g xs → ∃ b, β t = some b ∧ val s = .pointer (some ⟨b, off, none⟩)
  | .own _ e sz rows => 0 < sz ∧ ((val s = .slice none 0 0 ∧ rows = [] ∧ β s = none) ∨
      ∃ b cs cap, β s = some b ∧ val s = .slice (some ⟨b, 0, none⟩) rows.length cap ∧ rows.length ≤ cap ∧ cap ≤ maxLen ∧ cs.size = cap * sz ∧ Blk w ι M b e cs sz rows)
  | .oloc t g i off => ∀ e sz rows, E t = .own g e sz rows → ∃ b, β t = some b ∧ val s = .pointer (some ⟨b, i * sz + off, none⟩)
  | .vw t g => ∀ e sz rows, E t = .own g e sz rows → val s = val t
  | .imm rows i off => ∃ a sz, ImmAt w ι M a sz rows ∧ val s = .pointer (some (a.add (i * sz + off)))
def valOf (a : Act) (s : Nat) : Value := a.tmps.getD s undef
structure Sim (C : Ctx) (E : Env) (a : Act) (w : World) (ι β : Nat → Option Nat) (M : Nat → Prop) : Prop where
  size : a.tmps.size = C.nt
  defs : a.defers = C.dfs
  small : C.nt ≤ gs
  hp : ∃ H nx, E gs = .heap H nx ∧ ∀ o, nx ≤ o ↔ ι o = none
  objs : ∀ o ob, live E o = some ob → ∃ b, ι o = some b ∧ ObjAt w ι M b ob
  injO : ∀ o o' x x' b, live E o = some x → live E o' = some x' → ι o = some b → ι o' = some b → o = o'
  injB : ∀ s s' b, β s = some b → β s' = some b → s = s'
  disj : ∀ o x s b, live E o = some x → ι o = some b → β s ≠ some b
  ctlO : ∀ o x b, live E o = some x → ι o = some b → M b
  ctlB : ∀ s b, β s = some b → M b
  xO : ∀ o x b, live E o = some x → ι o = some b → ¬ C.X b
  xB : ∀ s b, β s = some b → ¬ C.X b
  xlt : ∀ b, C.X b → b < w.heap.size
  xM : ∀ b, C.X b → M b
  lt : ∀ b, M b → b < w.heap.size
  hold : ∀ s, Holds w ι β M (valOf a) E s (E s)
theorem Holds.mono {w w' : World} {ι ι' β : Nat → Option Nat} {M M' X : Nat → Prop} {val : Nat → Value} {E : Env} {s : Nat} {av : AV} (h : Holds w ι β M val E s av)
    (he : Evo X M w M' w') (hi : ∀ o b, ι o = some b → ι' o = some b) (hb : ∀ b, β s = some b → w'.heap[b]? = w.heap[b]?) : Holds w' ι' β M' val E s av := by
  cases av with
  | junk => trivial
  | heap => exact h
  | v a => exact RdA.mono h he hi
  | tup l => exact RdT.mono h he hi
  | box g xs => obtain ⟨b, cs, T, h1, h2, h3⟩ := h; exact ⟨b, cs, T, h1, h2, h3.mono he hi (hb b h1)⟩
  | loc t g off => exact h
  | own g e sz rows =>
    obtain ⟨hp, h⟩ := h
    refine ⟨hp, ?_⟩
    rcases h with h | ⟨b, cs, cap, h1, h2, h3, h4, h5, h6⟩
    · exact .inl h
    · exact .inr ⟨b, cs, cap, h1, h2, h3, h4, h5, h6.mono he hi (hb b h1)⟩
  | oloc t g i off => exact h
  | vw t g => exact h
  | imm rows i off => obtain ⟨a, sz, h1, h2⟩ := h; exact ⟨a, sz, h1.mono he hi, h2⟩
def AVG (U : Nat → Prop) : AV → Prop
  | .box g _ | .loc _ g _ | .own g _ _ _ | .oloc _ g _ _ | .vw _ g => U g
  | _ => True
def AV.isBlk : AV → Bool
  | .box _ _ | .own _ _ _ _ => true
  | _ => false
def unset (β : Nat → Option Nat) (d : Nat) : Nat → Option Nat := fun s => if s = d then none else β s
def set1 (β : Nat → Option Nat) (d b : Nat) : Nat → Option Nat := fun s => if s = d then some b else β s
theorem valOf_put {a : Act} {d : Nat} {v : Value} (h : d < a.tmps.size) (s : Nat) : valOf (a.put (some d) v) s = if s = d then v else valOf a s := by
  unfold valOf Act.put
  simp only [Array.getD_eq_getD_getElem?]
  by_cases hs : s = d
  · subst hs; simp [h]
  · rw [if_neg hs, Array.getElem?_setIfInBounds_ne (fun e => hs e.symm)]
end Go.Proofs.YtmhinddneefmbaaGreat.Pe
namespace Go.Proofs.YtmhinddneefmbaaGreat.Pe
open Go Go.ChangeShapes Go.Deep
def tiles (P : Program) : Nat → List Field → Nat → Bool
  | off, [], n => off == n
  | off, f :: fs, n => f.offset == off && tiles P (off + P.cellsOf f.type) fs n
def plainT (P : Program) : Nat → TypeId → Bool
  | 0, _ => false
  | d + 1, t => match P.underlying t with
    | some .bool => true
    | some (.int _) => true
    | some .string => true
    | some (.slice e) => decide (0 < P.cellsOf e) && plainT P d e
    | some (.struct fs) => tiles P 0 fs.toList (P.cellsOf t) && fs.toList.all fun f => plainT P d f.type
    | _ => false
def okD (P : Program) : Nat → TypeId → List D → Prop
  | 0, _, _ => False
  | d + 1, t, ds => match P.underlying t with
    | some .bool => ∃ b, ds = [.bool b]
    | some (.int k) => ∃ x, ds = [.int k x] ∧ (Lit.int k x).wf = true
    | some .string => ∃ s : ByteArray, ds = [.str s] ∧ s.size ≤ maxLen
    | some (.slice e) => ∃ rows, ds = [.sl rows] ∧ rows.length ≤ maxLen ∧ ∀ r ∈ rows, okD P d e r
    | some (.struct fs) => ds.length = P.cellsOf t ∧ ∀ f ∈ fs.toList, okD P d f.type ((ds.drop f.offset).take (P.cellsOf f.type))
    | _ => False
section
variable {P : Program} {w : World} {ι : Nat → Option Nat} {M : Nat → Prop}
theorem RdL.nil' : RdL w ι M [] [] := ⟨rfl, fun j v d h => by simp at h⟩
theorem RdL.one {v : Value} {d : D} (h : Rd w ι M v d) : RdL w ι M [v] [d] := ⟨rfl, fun j v' d' h1 h2 => by
  cases j with
  | zero => simp at h1 h2; subst h1; subst h2; exact h
  | succ j => simp at h1⟩
theorem RdL.app {l1 l2 : List Value} {m1 m2 : List D} (h1 : RdL w ι M l1 m1) (h2 : RdL w ι M l2 m2) : RdL w ι M (l1 ++ l2) (m1 ++ m2) := by
  refine ⟨by rw [List.length_append, List.length_append, h1.1, h2.1], fun j v d hv hd => ?_⟩
  by_cases hj : j < l1.length
  · rw [List.getElem?_append_left hj] at hv
    rw [List.getElem?_append_left (h1.1 ▸ hj)] at hd
    exact h1.2 j v d hv hd
  · rw [List.getElem?_append_right (by omega)] at hv
    rw [List.getElem?_append_right (by have := h1.1; omega), ← h1.1] at hd
    exact h2.2 _ v d hv hd
theorem tiles_le {fs : List Field} {off n : Nat} (h : tiles P off fs n = true) : off ≤ n := by
  induction fs generalizing off with
  | nil => simp [tiles] at h; omega
  | cons f fs ih => simp only [tiles, Bool.and_eq_true] at h; have := ih h.2; omega
theorem tile_reads {d : Nat} {cs : List Value} : ∀ (fs : List Field) (off : Nat), tiles P off fs cs.length = true → (∀ f ∈ fs, ∃ ds, RdL w ι M ((cs.drop f.offset).take (P.cellsOf f.type)) ds ∧ okD P d f.type ds) →
    ∃ ds, RdL w ι M (cs.drop off) ds ∧ ∀ f ∈ fs, off ≤ f.offset ∧ okD P d f.type ((ds.drop (f.offset - off)).take (P.cellsOf f.type)) := by
  intro fs
  induction fs with
  | nil =>
    intro off h _
    simp only [tiles, beq_iff_eq] at h
    exact ⟨[], by rw [h, List.drop_length]; exact RdL.nil', fun f hf => by simp at hf⟩
  | cons f fs ih =>
    intro off h hr
    simp only [tiles, Bool.and_eq_true, beq_iff_eq] at h
    obtain ⟨h1, h2⟩ := h
    have hle := tiles_le h2
    obtain ⟨d1, r1, k1⟩ := hr f (by simp)
    obtain ⟨d2, r2, k2⟩ := ih (off + P.cellsOf f.type) h2 (fun g hg => hr g (by simp [hg]))
    have hl1 : d1.length = P.cellsOf f.type := by
      have := r1.1
      rw [List.length_take, List.length_drop, h1] at this
      omega
    refine ⟨d1 ++ d2, ?_, fun g hg => ?_⟩
    · have e : cs.drop off = (cs.drop off).take (P.cellsOf f.type) ++ cs.drop (off + P.cellsOf f.type) := by
        rw [← List.drop_drop, List.take_append_drop]
      rw [e]
      rw [h1] at r1
      exact r1.app r2
    · rcases List.mem_cons.1 hg with rfl | hg
      · refine ⟨by omega, ?_⟩
        rw [h1, Nat.sub_self, List.drop_zero, ← hl1, List.take_left']
        · exact k1
        · rfl
      · obtain ⟨g1, g2⟩ := k2 g hg
        refine ⟨by omega, ?_⟩
        rw [List.drop_append, List.drop_eq_nil_of_le (by omega), List.nil_append, hl1]
        rw [show g.offset - off - P.cellsOf f.type = g.offset - (off + P.cellsOf f.type) by omega]
        exact g2
theorem plain_reads {H : Type} {enc : TypeId × Value → H} {base : Nat} {spare : Nat → Bool} {held : Bool} (hM : ∀ b, ¬ M b) : ∀ (d : Nat) (t : TypeId) (fuel : Nat) (cs : List Value) (x : DataW H × List MemPlace), plainT P d t = true → DataW.trod enc P w base spare held fuel t cs = some x → ∃ ds, RdL w ι M cs ds ∧ okD P d t ds := by
  intro d
  induction d with
  | zero => intro t fuel cs x h; simp [plainT] at h
  | succ d ih =>
    intro t fuel cs x h hx
    unfold plainT at h
    unfold okD
    split at h
    · rename_i hu
      obtain ⟨b, rfl, _⟩ := DataW.trod_bool hu hx
      exact ⟨[.bool b], .one (.bool b), b, rfl⟩
    · rename_i k hu
      obtain ⟨n, rfl, _, hw⟩ := DataW.trod_int hu hx
      exact ⟨[.int k n], .one (.int k n), n, rfl, hw⟩
    · rename_i hu
      obtain ⟨s, rfl, _, hs⟩ := DataW.trod_string hu hx
      exact ⟨[.str s], .one (.str s), s, rfl, hs⟩
    · rename_i e hu
      simp only [Bool.and_eq_true, decide_eq_true_eq] at h
      obtain ⟨he, hp⟩ := h
      rcases open_slice hu hx with ⟨rfl, _⟩ | ⟨a, len, cap, m, n, Dd, Pl, rfl, hb, hl, hc, hm, _, hel⟩
      · exact ⟨[.sl []], .one (.nil _ _), [], rfl, by simp, by simp⟩
      have hlm : len ≤ m := by rw [hm]; split <;> omega
      have hall : ∀ i, i < len → ∃ p : List Value × List D, w.cells? base (a.add (i * P.cellsOf e)) (P.cellsOf e) = some p.1 ∧ RdL w ι M p.1 p.2 ∧ okD P d e p.2 := fun i hi => by
        obtain ⟨cs', h1, h2⟩ := hel i (by omega)
        obtain ⟨ds, h3, h4⟩ := ih e n cs' _ hp h2
        exact ⟨(cs', ds), h1, h3, h4⟩
      obtain ⟨f, hf⟩ := choose_lt (α := List Value × List D) hall
      refine ⟨[.sl ((List.range len).map fun i => (f i).2)], .one ?_, _, rfl, by rw [List.length_map, List.length_range]; omega, fun r hr => ?_⟩
      · by_cases h0 : len = 0
        · subst h0; exact .nil _ _
        have hcell : ∀ i j, i < len → j < P.cellsOf e → w.cell? (a.add (i * P.cellsOf e + j)) = some ((f i).1.getD j undef) := fun i j hi hj => by
          obtain ⟨_, h1, h2⟩ := World.cells?_some (hf i hi).1
          have h3 := h2 j hj
          rw [add_add] at h3
          rw [h3, List.getD_eq_getElem?_getD, List.getElem?_eq_getElem (by omega)]
          rfl
        refine .sl a len cap (P.cellsOf e) _ (fun i j => (f i).1.getD j undef) (by simp) (by omega) hl he (fun r hr => ?_) ?_ (hM _) hcell (fun i j r dd hr hd => ?_)
        · obtain ⟨i, hi, rfl⟩ := List.mem_map.1 hr
          have hi := List.mem_range.1 hi
          rw [← (hf i hi).2.1.1, (World.cells?_some (hf i hi).1).2.1]
        · have := World.cell?_spot (hcell 0 0 (by omega) he)
          simpa [Addr.add] using this
        · have hi : i < len := by
            have := (List.getElem?_eq_some_iff.1 hr).1
            simpa using this
          simp only [List.getElem?_map, List.getElem?_range hi, Option.map_some, Option.some.injEq] at hr
          subst hr
          obtain ⟨hj, _⟩ := List.getElem?_eq_some_iff.1 hd
          have hj' : j < (f i).1.length := by rw [(hf i hi).2.1.1]; exact hj
          refine (hf i hi).2.1.2 j _ _ ?_ hd
          rw [List.getD_eq_getElem?_getD, List.getElem?_eq_getElem hj']
          rfl
      · obtain ⟨i, hi, rfl⟩ := List.mem_map.1 hr
        exact (hf i (List.mem_range.1 hi)).2.2
    · rename_i fs hu
      simp only [Bool.and_eq_true] at h
      obtain ⟨ht, hall⟩ := h
      obtain ⟨xs, n, _, _, hl, hxl, hg⟩ := DataW.trod_struct hu hx
      obtain ⟨ds, h1, h2⟩ := tile_reads (P := P) (w := w) (ι := ι) (M := M) (d := d) (cs := cs) fs.toList 0 (by rw [hl]; exact ht) (fun f hf => by
        obtain ⟨i, hi, rfl⟩ := List.getElem_of_mem hf
        have hi' : i < fs.size := by simpa using hi
        have e := hg i fs[i] (Array.getElem?_eq_getElem hi')
        rw [List.getElem?_eq_getElem (by omega)] at e
        rw [Array.getElem_toList]
        refine ih _ n _ _ ?_ e
        rw [List.all_eq_true] at hall
        exact hall _ (by simp))
      rw [List.drop_zero] at h1
      exact ⟨ds, h1, by rw [← h1.1, hl], fun f hf => by simpa using (h2 f hf).2⟩
    · cases h
end
end Go.Proofs.YtmhinddneefmbaaGreat.Pe
