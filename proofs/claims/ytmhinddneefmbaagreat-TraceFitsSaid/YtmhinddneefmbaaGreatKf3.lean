/- A part of the proof of JdH. -/
import Derived.Test.YtmhinddneefmbaaGreatKf2
set_option linter.unusedSimpArgs false
set_option linter.unusedVariables false
set_option linter.unusedSectionVars false
namespace Go.Proofs.YtmhinddneefmbaaGreat.Pe
open Go
def layoutOf (P : Program) (t : Nat) : Option (List (Nat × Option Nat)) := match P.underlying t with
  | some (.struct fields) => some (fields.toList.map fun f => (f.offset, (P.info? f.type).map (·.size)))
  | _ => none
def arOf (P : Program) (t : Nat) : Option (Nat × Option Nat) := match P.underlying t with
  | some (.array n e) => some (n, (P.info? e).map (·.size))
  | _ => none
def arAg (P : Program) (t : Nat) : Option Bool := match P.underlying t with
  | some (.array _ e) => (match P.underlying e with
    | some (.struct _) | some (.array _ _) => some true
    | some _ => some false
    | none => none)
  | _ => none
def scOf (P : Program) (t : Nat) : Bool := match P.underlying t with
  | some (.struct _) | some (.array _ _) | none => false
  | _ => true
def mpOf (P : Program) (t : Nat) : Option (Option (Option IntKind) × Option (Option Value)) := match P.underlying t with
  | some (.map k v) => some (match P.underlying k with
    | some (.int kk) => some (some kk)
    | some .string => some none
    | _ => none, (P.info? v).map (·.zero))
  | _ => none
def TkOk (P : Program) (t : Nat) : TK → Prop
  | .sc => scOf P t = true
  | .int k => P.underlying t = some (.int k)
  | .st fs => layoutOf P t = some (fs.map fun x => (x.1, some x.2))
  | .ar n esz ag => arOf P t = some (n, some esz) ∧ arAg P t = some ag
  | .sl e esz eb ez => P.underlying t = some (.slice e) ∧ (P.info? e).map (fun i => (i.size, i.bytes, i.zero.map fun z => z.cells.toList)) = some (esz, eb, some (ez.map D.zv)) ∧ ez.all D.isZ = true ∧ ez.length = esz
  | .str => P.underlying t = some .string
  | .mp kk vz => mpOf P t = some (some kk, some (some vz.zv)) ∧ vz.isZ = true
  | .ot => False
structure TyOk (P : Program) (t : Nat) (ti : TyI) : Prop where
  info : (P.info? t).map (fun i => (i.size, i.zero.map fun z => z.cells.toList)) = some (ti.size, some (ti.zero.map D.zv))
  isz : ti.zero.all D.isZ = true
  len : ti.zero.length = ti.size
  und : TkOk P t ti.k
def dflt : TyI := ⟨0, [], .ot⟩
theorem zv_rd {d : D} (h : d.isZ = true) (w : World) (ι : Nat → Option Nat) (M : Nat → Prop) : Rd w ι M d.zv d := by
  cases d with
  | sl rows => cases rows with
    | nil => exact .nil _ _
    | cons => cases h
  | _ => first | cases h; done | constructor
theorem zv_rdl {ds : List D} (h : ds.all D.isZ = true) (w : World) (ι : Nat → Option Nat) (M : Nat → Prop) : RdL w ι M (ds.map D.zv) ds := by
  refine ⟨by simp, fun j v d hv hd => ?_⟩
  rw [List.getElem?_map, hd] at hv
  simp at hv
  subst hv
  exact zv_rd (List.all_eq_true.1 h d (List.mem_of_getElem? hd)) _ _ _
section
variable {P : Program} {w : World} {ι β : Nat → Option Nat} {M : Nat → Prop}
theorem info_of {t : Nat} {ti : TyI} (h : TyOk P t ti) : ∃ i z, P.info? t = some i ∧ i.size = ti.size ∧ i.zero = some z ∧ z.cells.toList = ti.zero.map D.zv := by
  have := h.info
  cases hi : P.info? t with
  | none => rw [hi] at this; cases this
  | some i =>
    rw [hi] at this
    simp only [Option.map_some, Option.some.injEq, Prod.mk.injEq] at this
    cases hz : i.zero with
    | none => rw [hz] at this; exact absurd this.2 (by simp)
    | some z => rw [hz] at this; exact ⟨i, z, rfl, this.1, hz, by simpa using this.2⟩
theorem run_sizeOf' {t : Nat} {i : TypeInfo} (h : P.info? t = some i) (w : World) : (sizeOf t).run P w = .ok i.size w := by simp [sizeOf, typeInfo, h]
theorem run_zeroValue' {t : Nat} {i : TypeInfo} {z : Value} (h : P.info? t = some i) (hz : i.zero = some z) (w : World) : (zeroValue t).run P w = .ok z w := by simp [zeroValue, typeInfo, h, hz]
theorem und_agg {t : Nat} {ti : TyI} (h : TyOk P t ti) (w : World) : (isAgg t).run P w = .ok ti.k.agg w := by
  have hu := h.und
  cases hk : ti.k with
  | sc =>
    rw [hk] at hu
    simp only [TkOk, scOf] at hu
    cases hx : P.underlying t with
    | none => rw [hx] at hu; cases hu
    | some d => rw [hx] at hu; cases d <;> first | (cases hu; done) | simp [isAgg, run_underlying hx, TK.agg]
  | int k => rw [hk] at hu; simp [isAgg, run_underlying hu, TK.agg]
  | st fs =>
    rw [hk] at hu
    simp only [TkOk, layoutOf] at hu
    cases hx : P.underlying t with
    | none => rw [hx] at hu; cases hu
    | some d => rw [hx] at hu; cases d <;> first | (cases hu; done) | simp [isAgg, run_underlying hx, TK.agg]
  | ar n esz ag =>
    rw [hk] at hu
    replace hu := hu.1
    simp only [arOf] at hu
    cases hx : P.underlying t with
    | none => rw [hx] at hu; cases hu
    | some d => rw [hx] at hu; cases d <;> first | (cases hu; done) | simp [isAgg, run_underlying hx, TK.agg]
  | sl e esz eb ez => rw [hk] at hu; simp [isAgg, run_underlying hu.1, TK.agg]
  | str => rw [hk] at hu; simp [isAgg, run_underlying hu, TK.agg]
  | mp kk vz =>
    rw [hk] at hu
    simp only [TkOk, mpOf] at hu
    cases hx : P.underlying t with
    | none => rw [hx] at hu; cases hu.1
    | some d => rw [hx] at hu; cases d <;> first | (cases hu.1; done) | simp [isAgg, run_underlying hx, TK.agg]
  | ot => rw [hk] at hu; exact hu.elim
theorem run_loadAt {t : Nat} {ti : TyI} (h : TyOk P t ti) {ad : Addr} {cs : List D} (hc : Cells w ι M ad cs) (hl : cs.length = ti.size) :
    (ti.k.agg = true → ∃ v, (Instr.loadAt t (.pointer (some ad))).run P w = .ok v w ∧ RdA w ι M v (.many cs)) ∧
    (ti.k.agg = false → ∀ c, cs = [c] → ∃ v, (Instr.loadAt t (.pointer (some ad))).run P w = .ok v w ∧ RdA w ι M v (.one c)) := by
  obtain ⟨i, z, hi, hs, _, _⟩ := info_of h
  obtain ⟨vs, hr, hv⟩ := hc
  refine ⟨fun hag => ?_, fun hag c hcs => ?_⟩
  · refine ⟨.agg vs.toArray, ?_, vs.toArray, rfl, by simpa using hr⟩
    have hll := run_loadCells_list (P := P) w ad vs hv
    rw [hr.1, hl] at hll
    simp [Instr.loadAt, Instr.sureAddr, loadVar, und_agg h w, hag, run_sizeOf' hi, hs, hll]
  · subst hcs
    have h1 : vs.length = 1 := hr.1
    match vs, h1 with
    | [u], _ =>
      have hu := hv 0 u rfl
      rw [Addr.add_zero'] at hu
      refine ⟨u, ?_, hr.2 0 u c rfl rfl⟩
      simp [Instr.loadAt, Instr.sureAddr, loadVar, und_agg h w, hag, hu]
theorem seg_get {α : Type} (l us : List α) (o k : Nat) (h : o + us.length ≤ l.length) :
    (l.take o ++ us ++ l.drop (o + us.length))[k]? = if k < o then l[k]? else if k < o + us.length then us[k - o]? else l[k]? := by
  simp only [List.getElem?_append, List.length_append, List.length_take, List.getElem?_take, List.getElem?_drop]
  have hm : min o l.length = o := by omega
  rw [hm]
  by_cases h1 : k < o
  · simp [h1, show k < o + us.length by omega]
  · by_cases h2 : k < o + us.length
    · simp [h1, h2]
    · simp only [h1, h2, if_false]
      congr 1; omega
theorem splice_length (xs : List D) (off : Nat) (vs : List D) (h : off + vs.length ≤ xs.length) : (splice xs off vs).length = xs.length := by
  simp [splice]; omega
theorem row_ne {i i' sz off j n : Nat} (hne : i' ≠ i) (hj : j < sz) (ho : off + n ≤ sz) : i' * sz + j < i * sz + off ∨ i * sz + off + n ≤ i' * sz + j := by
  rcases Nat.lt_or_gt_of_ne hne with h | h
  · left
    have : (i' + 1) * sz ≤ i * sz := Nat.mul_le_mul_right _ h
    rw [Nat.add_mul] at this; omega
  · right
    have : (i + 1) * sz ≤ i' * sz := Nat.mul_le_mul_right _ h
    rw [Nat.add_mul] at this; omega
def rowSet (w : World) (b : Nat) (cs : Array Value) (o : Nat) (us : List Value) : World := w.setRow b (cs.toList.take o ++ us ++ cs.toList.drop (o + us.length)).toArray
theorem rowSet_shape {b : Nat} {cs : Array Value} {T : TypeId} (h : w.heap[b]? = some (.cells cs T (0, 0))) (o : Nat) (us : List Value) (hf : o + us.length ≤ cs.size) : Shape w (rowSet w b cs o us) := by
  intro b' cs' T' hb'
  by_cases e : b' = b
  · subst e
    rw [h] at hb'
    injection hb' with hb'
    injection hb' with h1 h2 _
    subst h1; subst h2
    refine ⟨_, setRow_heap w b' _ _ T _ h, ?_⟩
    simp; omega
  · exact ⟨cs', (setRow_other w b b' _ e).trans hb', rfl⟩
theorem rowSet_evo {X : Nat → Prop} {b : Nat} (hb : M b) (hx : ¬ X b) (cs : Array Value) (o : Nat) (us : List Value) (hsh : Shape w (rowSet w b cs o us)) : Evo X M w M (rowSet w b cs o us) :=
  ⟨rfl, rfl, rfl, by simp [rowSet], fun k _ hm => setRow_other w b k _ (fun e => hm (e ▸ hb)), fun _ _ h => h, fun k _ hk => setRow_other w b k _ (fun e => hx (e ▸ hk)), hsh⟩
theorem one_set {cs : Array Value} {us : List Value} (h : ∀ v ∈ cs.toList, v.oneCell' = true) (hu : ∀ v ∈ us, v.oneCell' = true) (n m : Nat) : ∀ v ∈ (cs.toList.take n ++ us ++ cs.toList.drop m).toArray.toList, v.oneCell' = true := by
  intro v hv
  simp only [List.mem_append] at hv
  rcases hv with (hv | hv) | hv
  · exact h v (List.mem_of_mem_take hv)
  · exact hu v hv
  · exact h v (List.mem_of_mem_drop hv)
theorem Blk.store {b : Nat} {T : TypeId} {cs : Array Value} {sz : Nat} {rows : List (List D)} (h : Blk w ι M b T cs sz rows) (hb : M b) {i off : Nat} {r : List D} (hr : rows[i]? = some r) {vs : List D} (ho : off + vs.length ≤ r.length)
    {us : List Value} (hu : RdL w ι M us vs) :
    i * sz + off + us.length ≤ cs.size ∧ (cs.toList.take (i * sz + off) ++ us ++ cs.toList.drop (i * sz + off + us.length)).toArray.size = cs.size ∧
    Blk (rowSet w b cs (i * sz + off) us) ι M b T (cs.toList.take (i * sz + off) ++ us ++ cs.toList.drop (i * sz + off + us.length)).toArray sz (rows.set i (splice r off vs)) := by
  have hi : i < rows.length := (List.getElem?_eq_some_iff.1 hr).1
  have hrl : r.length = sz := h.uni r (List.mem_of_getElem? hr)
  have hfit : i * sz + off + us.length ≤ cs.size := by
    have h1 : (i + 1) * sz ≤ rows.length * sz := Nat.mul_le_mul_right _ hi
    have := h.fit
    rw [Nat.add_mul] at h1; rw [hu.1]; omega
  have hsz : (cs.toList.take (i * sz + off) ++ us ++ cs.toList.drop (i * sz + off + us.length)).toArray.size = cs.size := by
    simp; omega
  refine ⟨hfit, hsz, setRow_heap w b cs _ T _ h.at_, h.pos, by rw [hsz, List.length_set]; exact h.fit, ?_, ?_, one_set h.one hu.one' _ _⟩
  · intro r' hr'
    rcases List.mem_or_eq_of_mem_set hr' with h1 | h1
    · exact h.uni r' h1
    · rw [h1, splice_length _ _ _ ho, hrl]
  · have he : Evo (fun _ => False) M w M (rowSet w b cs (i * sz + off) us) := rowSet_evo hb (fun h => h) _ _ _ (rowSet_shape h.at_ _ _ hfit)
    intro i' j r' d hr' hd
    have hget : ∀ k, (cs.toList.take (i * sz + off) ++ us ++ cs.toList.drop (i * sz + off + us.length)).toArray[k]? = if k < i * sz + off then cs[k]? else if k < i * sz + off + us.length then us[k - (i * sz + off)]? else cs[k]? := by
      intro k
      have := seg_get cs.toList us (i * sz + off) k (by simpa using hfit)
      simp only [List.getElem?_toArray]
      rw [this]; simp
    by_cases hii : i' = i
    · subst hii
      rw [List.getElem?_set_self hi] at hr'
      injection hr' with hr'
      subst hr'
      unfold splice at hd
      rw [seg_get r vs off j ho] at hd
      by_cases h1 : j < off
      · rw [if_pos h1] at hd
        obtain ⟨v, hv, hrd⟩ := h.rd i' j r d hr hd
        exact ⟨v, by rw [hget, if_pos (by omega)]; exact hv, hrd.mono he.same he.back (fun _ _ h => h) he.shape⟩
      · rw [if_neg h1] at hd
        by_cases h2 : j < off + vs.length
        · rw [if_pos h2] at hd
          have hlt : j - off < us.length := by rw [hu.1]; omega
          refine ⟨us[j - off], by rw [hget, if_neg (by omega), if_pos (by rw [hu.1]; omega), show i' * sz + j - (i' * sz + off) = j - off by omega]; exact List.getElem?_eq_getElem hlt, ?_⟩
          exact (hu.2 (j - off) _ d (List.getElem?_eq_getElem hlt) hd).mono he.same he.back (fun _ _ h => h) he.shape
        · rw [if_neg h2] at hd
          obtain ⟨v, hv, hrd⟩ := h.rd i' j r d hr hd
          exact ⟨v, by rw [hget, if_neg (by omega), if_neg (by rw [hu.1]; omega)]; exact hv, hrd.mono he.same he.back (fun _ _ h => h) he.shape⟩
    · rw [List.getElem?_set_ne (fun e => hii e.symm)] at hr'
      have hj : j < sz := by have := (List.getElem?_eq_some_iff.1 hd).1; have := h.uni r' (List.mem_of_getElem? hr'); omega
      obtain ⟨v, hv, hrd⟩ := h.rd i' j r' d hr' hd
      refine ⟨v, ?_, hrd.mono he.same he.back (fun _ _ h => h) he.shape⟩
      rw [hget]
      rcases row_ne (sz := sz) (off := off) (n := vs.length) hii hj (by rw [← hrl]; exact ho) with h1 | h1
      · rw [if_pos h1]; exact hv
      · rw [if_neg (by omega), if_neg (by rw [hu.1]; omega)]; exact hv
variable {C : Ctx} {E E1 : Env} {a : Act}
theorem wrPl_sound {p : Pl} {vs : List D} {us : List Value} {v : Value} (h : Sim C E a w ι β M) (hp : PlHolds w ι β M E v p) (hu : RdL w ι M us vs) (hq : (wrPl vs p).run E = some ((), E1)) :
    ∃ b o cs T, v = .pointer (some ⟨b, o, none⟩) ∧ w.heap[b]? = some (.cells cs T (0, 0)) ∧ o + us.length ≤ cs.size ∧ Evo C.X M w M (rowSet w b cs o us) ∧ Sim C E1 a (rowSet w b cs o us) ι β M := by
  cases p with
  | loc t g off =>
    have ho := h.hold t
    simp only [wrPl, Q.run] at hq
    cases hE : E t with
    | box g' xs =>
      rw [hE] at hq ho
      simp only at hq
      split at hq
      · rename_i hg
        obtain ⟨hg, hl⟩ := hg
        subst hg
        simp only [Q.run, Option.some.injEq, Prod.mk.injEq, true_and] at hq
        subst hq
        obtain ⟨b, h1, h2⟩ := hp xs hE
        obtain ⟨b', cs, T, h3, h4, h5⟩ := ho
        rw [h1] at h3; injection h3 with h3; subst h3
        obtain ⟨f1, f2, f3⟩ := h5.store (h.ctlB t b h1) (i := 0) (r := xs) rfl hl hu
        simp only [Nat.zero_mul, Nat.zero_add] at f1 f2 f3
        have he := rowSet_evo (w := w) (h.ctlB t b h1) (h.xB t b h1) cs off us (rowSet_shape h5.at_ _ _ f1)
        refine ⟨b, off, cs, T, h2, h5.at_, f1, he, h.stored h1 he (fun k hk => setRow_other w b k _ hk) (.inl ⟨g, xs, _, hE, rfl⟩) ?_⟩
        have e : (splice xs off vs).length = xs.length := splice_length _ _ _ hl
        simp only [List.set_cons_zero] at f3
        rw [← e] at f3
        exact ⟨b, _, T, h1, h4, f3⟩
      · cases hq
    | _ => rw [hE] at hq; cases hq
  | oloc t g i off =>
    have ho := h.hold t
    simp only [wrPl, Q.run] at hq
    cases hE : E t with
    | own g' e sz rows =>
      rw [hE] at hq ho
      simp only at hq
      split at hq
      · rename_i hg; subst hg
        obtain ⟨r, E2, h0, hq2⟩ := Q.run_bind_some hq
        clear hq
        obtain ⟨hr, rfl⟩ := ofOpt_run h0
        split at hq2
        · rename_i hl
          simp only [Q.run, Option.some.injEq, Prod.mk.injEq, true_and] at hq2
          subst hq2
          obtain ⟨b, h1, h2⟩ := hp e sz rows hE
          obtain ⟨hpos, ho⟩ := ho
          rcases ho with ⟨_, hn, _⟩ | ⟨b', cs, cap, h3, h4, h5, h6, h7, h8⟩
          · subst hn; simp at hr
          · rw [h1] at h3; injection h3 with h3; subst h3
            obtain ⟨f1, f2, f3⟩ := h8.store (h.ctlB t b h1) hr hl hu
            have he := rowSet_evo (w := w) (h.ctlB t b h1) (h.xB t b h1) cs (i * sz + off) us (rowSet_shape h8.at_ _ _ f1)
            refine ⟨b, i * sz + off, cs, e, h2, h8.at_, f1, he, h.stored h1 he (fun k hk => setRow_other w b k _ hk) (.inr ⟨g, e, sz, rows, _, hE, rfl⟩) ?_⟩
            refine ⟨hpos, .inr ⟨b, _, cap, h1, ?_, ?_, h6, ?_, f3⟩⟩
            · rw [List.length_set]; exact h4
            · rw [List.length_set]; exact h5
            · rw [f2]; exact h7
        · cases hq2
      · cases hq
    | _ => rw [hE] at hq; cases hq
  | imm rows i off => cases hq
  | obj o sz i off =>
    simp only [wrPl, Q.run] at hq
    cases hE : E gs with
    | heap H nx =>
      rw [hE] at hq
      simp only at hq
      obtain ⟨ob, E2, h0, hq2⟩ := Q.run_bind_some hq
      clear hq
      obtain ⟨hH, rfl⟩ := ofOpt_run h0
      split at hq2
      · rename_i hsz; subst hsz
        obtain ⟨r, E3, h3, hq3⟩ := Q.run_bind_some hq2
        clear hq2
        obtain ⟨hr, rfl⟩ := ofOpt_run h3
        split at hq3
        · rename_i hl
          obtain ⟨ob', E4, h6, hq4⟩ := Q.run_bind_some hq3
          clear hq3
          obtain ⟨hput, rfl⟩ := ofOpt_run h6
          simp only [Q.run, Option.some.injEq, Prod.mk.injEq, true_and] at hq4
          subst hq4
          obtain ⟨b, h1, hz, h2⟩ := hp
          rw [PObj.row_full] at hr
          obtain ⟨p1, p2, p3⟩ := put_full hz hput
          have hlv : live E4 o = some ob := by simp [live, hE, hH]
          obtain ⟨b', h4, h5⟩ := h.objs o ob hlv
          rw [h1] at h4; injection h4 with h4; subst h4
          obtain ⟨T, cs, hT, h5⟩ := h5.blkE hz
          obtain ⟨f1, f2, f3⟩ := h5.store (h.ctlO o ob b hlv h1) hr hl hu
          have he := rowSet_evo (w := w) (h.ctlO o ob b hlv h1) (h.xO o ob b hlv h1) cs (i * ob.esz + off) us (rowSet_shape h5.at_ _ _ f1)
          exact ⟨b, _, cs, T, h2, h5.at_, f1, he, h.storedO hE hH h1 he (fun k hk => setRow_other w b k _ hk) (ObjAt.ofBlk (T := T) (fun e hh => hT e (p1 ▸ hh)) (by rw [p2, p3]; exact f3))⟩
        · cases hq3
      · cases hq2
    | _ => rw [hE] at hq; cases hq
theorem run_storeAt {t : Nat} {ti : TyI} (h : TyOk P t ti) {b o : Nat} {cs : Array Value} {T : TypeId} (hb : w.heap[b]? = some (.cells cs T (0, 0))) {v : Value} {us : List Value} (hv : v.cells.toList = us) (hl : us.length = ti.size)
    (ho : o + us.length ≤ cs.size) (h1 : ∀ u ∈ us, u.oneCell' = true) : (Instr.storeAt t (.pointer (some ⟨b, o, none⟩)) v).run P w = .ok () (rowSet w b cs o us) := by
  obtain ⟨i, z, hi, hs, _, _⟩ := info_of h
  have hst := run_storeCells_at P b o T us 0 cs w hb (by simpa using ho) h1
  simp only [Nat.add_zero] at hst
  have hsz : v.cells.size = i.size := by rw [hs, ← hl, ← hv]; simp
  simp [Instr.storeAt, Instr.sureAddr, storeVar, run_sizeOf' hi, hsz, hv, hst, rowSet]
end
end Go.Proofs.YtmhinddneefmbaaGreat.Pe
