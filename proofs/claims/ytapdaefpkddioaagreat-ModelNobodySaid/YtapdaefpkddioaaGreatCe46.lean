/- A part of the proof of PmD. -/
import Derived.Sort.OwnSorted
import Derived.Test.YtapdaefpkddioaaGreatCb37
import Derived.Test.YtapdaefpkddioaaGreatCe44
import Derived.Test.YtapdaefpkddioaaGreatCe39
set_option linter.unusedSimpArgs false
set_option linter.unusedVariables false
set_option linter.unusedSectionVars false
namespace Go.Proofs.YtapdaefpkddioaaGreat.Pe
open Go Go.Proofs Go.RowKit Go.Sort Go.Shelf Go.Lib Go.Maps
abbrev Kp := List UInt8 × Int
def encP (p : Kp) : List Value := [encStr p.1, .int .u64 p.2]
def cellsP (l : List Kp) : List Value := l.flatMap encP
theorem cellsP_len (l : List Kp) : (cellsP l).length = l.length * 2 := by
 induction l with
 | nil => rfl
 | cons p l ih => simp only [cellsP, List.flatMap_cons, List.length_append] at *; rw [ih]; simp [encP]; omega
theorem cellsP_snoc (l : List Kp) (p : Kp) : cellsP (l ++ [p]) = cellsP l ++ encP p := by simp [cellsP]
theorem cellsP_get (l : List Kp) (t : Nat) (h : t < l.length * 2) : (cellsP l)[t]? = some ((encP (l[t / 2]'(by omega)))[t % 2]'(by simp [encP]; omega)) := by
 induction l generalizing t with
 | nil => simp at h
 | cons p l ih =>
  have hc : cellsP (p :: l) = encP p ++ cellsP l := by simp [cellsP]
  rw [hc]
  by_cases h2 : t < 2
  ·rw [List.getElem?_append_left (by simpa [encP] using h2)]
   have e0 : t / 2 = 0 := by omega
   have e1 : t % 2 = t := by omega
   rw [List.getElem?_eq_getElem (by simpa [encP] using h2)]
   simp only [e0, e1, List.getElem_cons_zero]
  ·rw [List.getElem?_append_right (by simp [encP]; omega)]
   simp only [encP, List.length_cons, List.length_nil] at *
   have hlt : t - 2 < l.length * 2 := by simp only [List.length_cons] at h; omega
   rw [ih (t - 2) hlt]
   obtain ⟨u, rfl⟩ : ∃ u, t = u + 2 := ⟨t - 2, by omega⟩
   simp only [Nat.add_sub_cancel]
   have e0 : (u + 2) / 2 = u / 2 + 1 := by omega
   have e1 : (u + 2) % 2 = u % 2 := by omega
   simp only [e0, e1, List.getElem_cons_succ]
instance : Inhabited Kp := ⟨([], 0)⟩
theorem flat_get (d : Array Kp) (t : Nat) (h : t < d.size * 2) : (flatK encP 2 d)[t]! = (encP (d[t / 2]'(by omega)))[t % 2]'(by simp [encP]; omega) := by
 rw [get_flatK _ _ _ _ h]
 have h1 : t / 2 < d.size := by omega
 rw [getElem!_pos d (t / 2) h1]
 have h2 : t % 2 < (encP d[t / 2]).length := by simp [encP]; omega
 rw [getElem!_pos (encP d[t / 2]) (t % 2) h2]
theorem holdsP {w : World} {g : Nat} {cur : Array Value} {e : TypeId} {ps : List Kp} (hb : w.heap[g]? = some (.cells cur e (0, 0))) (ht : cur.toList.take (ps.length * 2) = cellsP ps) : HoldsK encP 2 w g 0 ps.toArray := by
 intro j hj
 have hj' : j < ps.length * 2 := by simpa using hj
 refine ⟨?_, by simp [World.frozen?, hb]⟩
 have h1 : (cur.toList.take (ps.length * 2))[j]? = (cellsP ps)[j]? := by rw [ht]
 rw [List.getElem?_take_of_lt hj', cellsP_get _ _ hj'] at h1
 simp only [World.cell?, hb, Nat.zero_add, Option.isSome_none, Bool.false_eq_true, if_false]
 rw [← Array.getElem?_toList, h1, flat_get _ _ (by simpa using hj')]
 rfl
theorem grownP {w : World} {g n : Nat} {os : Array Obj} (d : Array Kp) : w.grownBy (sortWorldK encP 2 w g 0 n d os) (some g) := by
 refine ⟨rfl, rfl, rfl, by simp [sortWorldK, putRowK], fun k hk hne => ?_⟩
 unfold sortWorldK putRowK
 rw [heap_grow_old _ _ (by simpa using hk)]
 have : g ≠ k := fun e => hne (by rw [e])
 simp [putRow, mapBlock, Sort.ahead, Array.getElem?_modify, this]
def toE (p : Kp) : En := ⟨⟨p.1.toArray⟩, p.2⟩
theorem rdP {w : World} {ι : Nat → Option Nat} {M : Nat → Prop} {g cap base : Nat} {d : Array Kp} (hM : ∀ b, M b → b < base) (hg : base ≤ g) (hc : d.size ≤ cap) (h : HoldsK encP 2 w g 0 d) : Rd w ι M (.slice (some ⟨g, 0, none⟩) d.size cap) (.sl (rowsE (d.toList.map toE))) := by
 by_cases h0 : d.size = 0
 ·have : d.toList = [] := List.eq_nil_of_length_eq_zero (by simpa using h0)
  rw [h0, this]; exact .nil _ _
 refine .sl _ _ _ 2 _ (fun i j => (flatK encP 2 d)[i * 2 + j]!) (by simp [rowsE]) (by omega) hc (by omega) (fun r hr => ?_) rfl (fun hm => by have := hM _ hm; simp only at this; omega) (fun i j hi hj => ?_) (fun i j r dd hr hd => ?_)
 ·obtain ⟨e, _, rfl⟩ := List.mem_map.1 hr
  rfl
 ·have := (h (i * 2 + j) (by simp; omega)).1
  rw [addr_add rfl]
  simpa using this
 ·have hi : i < d.size := by
   have := (List.getElem?_eq_some_iff.1 hr).1
   simpa [rowsE] using this
  simp only [rowsE, List.getElem?_map, List.map_map, Array.getElem?_toList, Array.getElem?_eq_getElem hi, Option.map_some, Option.some.injEq] at hr
  subst hr
  have hj : j < 2 := (List.getElem?_eq_some_iff.1 hd).1
  show Rd w ι M (flatK encP 2 d)[i * 2 + j]! dd
  rw [flat_get _ _ (by omega)]
  have e0 : (i * 2 + j) / 2 = i := by omega
  have e1 : (i * 2 + j) % 2 = j := by omega
  simp only [e0, e1]
  match j, hj with
  | 0, _ => simp [En.c, toE] at hd; subst hd; exact .str _
  | 1, _ => simp [En.c, toE] at hd; subst hd; exact .int _ _
def cfP (p q : Kp) : Int := cmpB ⟨p.1.toArray⟩ ⟨q.1.toArray⟩
theorem bytes_mk (l : List UInt8) : (⟨l.toArray⟩ : ByteArray).toList = l := by
 rw [Lib.toList_data]
theorem ltP (p q : Kp) : ltOf cfP p q = Op.bytesLess p.1 q.1 := by
 unfold ltOf cfP cmpB
 rw [bytes_mk, bytes_mk]
 cases Op.bytesLess p.1 q.1 with
 | true => simp
 | false => simp only [Bool.false_eq_true, if_false]; split <;> simp
theorem swoP : SWO (ltOf cfP) where
 irrefl x := by rw [ltP]; exact bl_irr _
 trans x y z h1 h2 := by rw [ltP] at *; exact bl_trans _ _ _ h1 h2
 ntrans x y z h1 h2 := by rw [ltP] at *; exact bl_ntrans _ _ _ h1 h2
theorem info1081 : (Tryz.prog.info? 81).map (fun i => (i.zero, i.size, i.bytes)) = some (some (.agg #[.string ⟨#[]⟩, .int .u64 0]), 2, 24) := by kernel_rfl
set_option maxRecDepth 100000 in
set_option maxHeartbeats 4000000 in
theorem entries_walk0 {H : Type} {w : World} {b bm nn : Nat} {D0 : DataW H} (hc : w.cell? ⟨b, 3, none⟩ = some (.map (some bm))) (hown : w.ownsMap Tryz.prog 9 (plainElem Tryz.prog 26) bm nn D0) (hbm : bm < w.heap.size) (hN : Maps.size D0 ≤ 1000) :
  Calls Tryz.prog 16 #[.pointer (some ⟨b, 0, none⟩)] w fun e w' => ∃ v ps, e = .returned v ∧ Mv.AllOf D0 ps ∧ (ps.map (·.1)).Nodup ∧ Below w.heap.size w w' ∧
   ∃ d : Array Kp, d.toList.Perm ps ∧ d.toList.Pairwise (fun p q => Op.bytesLess q.1 p.1 = false) ∧ ((v = .slice none 0 0 ∧ d.size = 0) ∨ ∃ g cap, v = .slice (some ⟨g, 0, none⟩) d.size cap ∧ w.heap.size ≤ g ∧ d.size ≤ cap ∧ HoldsK encP 2 w' g 0 d) := by
 obtain ⟨i0, hi, hz0, hz1, hz2⟩ := info_parts info1081
 go_enter Tryz.func16, Tryz.ntmps16
 go_wp2_with (first
  | (at_range; refine wpList_range_own _ rfl _ 84 rfl 9 26 Mv.law27 Tryz.underlying84 _ bm nn _ rfl hown ?_; intro w0 hrg0 hg0 hs0)
  | go_in)
 go_frame
 go_loopw [3] (fun v wr => ∃ (left : Lit → Bool) (cnt : Nat) (ps : List Kp), wr.ranges Tryz.prog 9 (plainElem Tryz.prog 26) bm w.heap.size nn D0 left cnt ∧ ps.length + cnt ≤ Maps.size D0 ∧ Hid (Collected D0 left (ps.map (·.1))) ∧ Hid (∀ p ∈ ps, Mv.ValAt D0 p) ∧
   wr.ownsRow w.heap.size 81 2 v ps.length (cellsP ps) ∧ Below w.heap.size w wr)
  (fun _ wr => wr.rangeLeft bm w.heap.size)
 case atStart =>
  exact ⟨_, _, [], hrg0, by simp, Collected.start D0, by intro p hp; simp at hp, World.ownsRow_nil _ _ _ _, (Below.refl _ _).grown hg0 (Nat.le_refl _) (fun j hj => by cases hj)⟩
 case round =>
  obtain ⟨left, cnt, ps, hrg, hcs, hC, hV, hrow, hb⟩ := hrel
  go_wp2_with (first
   | (at_next; refine wpList_next_ranges _ rfl _ rfl 9 Mv.law27 (plainElem Tryz.prog 26) encStr (Value.int .u64) (fun key kl hk => by obtain ⟨x, hx, _⟩ := Maps.keyOf_str Tryz.underlying9 hk; exact ⟨x, hx⟩) (fun v y hv => by obtain ⟨c, rfl, _⟩ := plainElem_int_inv Tryz.underlying26 hv; exact ⟨c, rfl⟩) bm w.heap.size nn _ _ _ rfl hrg ?_ ?_)
   | go_in)
  ·
   intro hc0 hl0
   have hall : Hid (Mv.AllOf D0 ps) := ⟨hC.out.perm hown Mv.law27 Tryz.underlying9 hl0, fun x => by rw [hC.out.2 x, hl0]; simp, hV.out⟩
   have HB : Hid (Below w.heap.size w wr) := hb
   have HN : Hid ((ps.map (·.1)).Nodup) := hC.out.1
   rcases hrow.2 with ⟨hnil, hk0⟩ | ⟨g, cap, cur, hv, hbase, hbk, h1, h2, h3, h4⟩
   ·subst hnil
    obtain rfl : ps = [] := List.eq_nil_of_length_eq_zero hk0
    have hcon := AnyF.slices_SortFunc_none sortEn none 0 (.func (.func 49) #[] #[]) wr
    change Calls Tryz.prog 48 _ _ _ at hcon
    clear hrg hrow hb hC hV
    go_wp2_with (go_at_call 48; refine hcon.mono ?_; rintro e w' ⟨rfl, rfl⟩)
    go_ret
    exact ⟨_, [], rfl, hall.out, HN.out, HB.out, #[], .nil, .nil, .inl ⟨rfl, rfl⟩⟩
   ·subst hv
    have hH : HoldsK encP 2 wr g 0 ps.toArray := holdsP hbk h4
    have hgl : g < wr.heap.size := (Array.getElem?_eq_some_iff.1 hbk).1
    have eg : ∀ args w, (callFunc 49 args).run Tryz.prog w = .ok (.enter 49 args) w := enters_of Tryz.func49 (by kernel_rfl) rfl
    have hcmp : CmpLays Tryz.prog 49 #[] encP 2 cfP g 0 ps.toArray.size wr := fun m os dk hs p q => ent_cmp _ _ _ _ _
    have hcon := AnyQ.slices_SortFunc sortEn 2 Tryz.isAgg81 Tryz.sizeOf81 encP (fun _ => rfl) (fun p v hv => by simp only [encP, List.mem_cons, List.not_mem_nil, or_false] at hv; rcases hv with rfl | rfl <;> rfl) cfP swoP 49 #[] g 0 cap ps.toArray wr eg hcmp hH hgl (by simp only [List.size_toArray]; omega)
    change Calls Tryz.prog 48 _ _ _ at hcon
    rw [List.size_toArray] at hcon
    have HH : Hid (HoldsK encP 2 wr g 0 ps.toArray) := hH
    clear hrg hrow hb hC hV hH hcmp eg
    go_wp2_with (go_at_call 48; refine hcon.mono ?_; rintro e w' ⟨rfl, d', nn, os, hp, hs, rfl⟩)
    go_ret
    obtain ⟨hsz, _, hpm⟩ := hp
    have hsz : d'.size = ps.length := by simpa using hsz
    have e1 : d'.extract 0 ps.length = d' := by rw [← hsz]; exact Array.extract_size
    have e2 : ps.toArray.extract 0 ps.length = ps.toArray := by
     have := Array.extract_size (xs := ps.toArray)
     rwa [List.size_toArray] at this
    rw [e1, e2] at hpm
    refine ⟨_, ps, rfl, hall.out, HN.out, HB.out.grown (grownP d') HB.out.size (fun k hk => by cases hk; exact hbase), d', hpm, ?_,   .inr ⟨g, cap, by rw [hsz]; rfl, hbase, by rw [hsz]; exact h1, holdsK_sortWorldK encP 2 wr g 0 nn ps.toArray d' os hgl HH.out (by rw [hsz, List.size_toArray])⟩⟩
    rw [List.pairwise_iff_getElem]
    intro i j hi hj hij
    have hj' : j < d'.size := by simpa using hj
    have hi' : i < d'.size := by simpa using hi
    have := hs i j (Nat.zero_le _) hij (by omega)
    rw [getElem!_pos d' i hi', getElem!_pos d' j hj', ltP] at this
    simpa using this
  ·
   intro x c kl yd yp w2 cnt2 hkey hlk hv hat hrg2 hlt hg2 hs2 hen
   obtain ⟨x', ex, rfl, _⟩ := Maps.keyOf_str Tryz.underlying9 hkey
   obtain rfl : x = x' := encStr_inj ex
   obtain ⟨c', ec, ez, _⟩ := plainElem_int_inv Tryz.underlying26 hv
   obtain rfl : c = c' := by simpa using ec
   obtain rfl : yd = .lit (.int .u64 c) := (Prod.mk.inj ez).1
   have hrow2 := hrow.kept hg2 (Or.inr (row_ne_iter hrow hrg).symm)
   have hC2 : Hid (Collected D0 (fun z => left z && !z.sameKey (.string x)) ((ps ++ [(x, c)]).map (·.1))) := by
    have := hC.out.step hlk hat
    show Collected _ _ _
    simpa using this
   have hV2 : Hid (∀ p ∈ ps ++ [(x, c)], Mv.ValAt D0 p) := fun p hp => (List.mem_append.1 hp).elim (hV.out p) (fun e => by simp at e; subst e; exact hat)
   have HB : Hid (Below w.heap.size w w2) := hb.grown hg2 hb.size (fun j hj => by cases hj; exact Nat.le_refl _)
   have hm0 : wr.rangeLeft bm w.heap.size = cnt := hrg.left_eq
   have hszw := HB.out.size
   clear hs2 hC hV hb hat hrow hrg
   go_wp2_with (first
    | (at_builtin; refine wpList_append_own_at _ rfl _ _ 57 rfl w.heap.size 81 i0 (.agg #[.string ⟨#[]⟩, .int .u64 0]) 2 24 Tryz.underlying57 hi hz0 hz1 hz2 rfl (by decide) _ _ _ rfl (hrow2.alloc _) ⟨w2.heap.size, 0, none⟩ 1 1 (encP (x, c)) rfl rfl ?c1 ?c2 ?c3 ?c4 ?c5 ?_)
    | go_in)
   case c1 =>
    intro j u hj
    match j, hj with
    | 0, hj => simp [encP] at hj; subst hj; simp [Addr.add]
    | 1, hj => simp [encP] at hj; subst hj; simp [Addr.add]
    | j + 2, hj => simp [encP] at hj
   case c2 => intro u hu; simp only [encP, List.mem_cons, List.not_mem_nil, or_false] at hu; rcases hu with rfl | rfl <;> rfl
   case c3 => unfold maxLen; omega
   case c4 => omega
   case c5 => first | omega | (simp; omega)
   ·intro v' w4 hown' hgrow _ hloc
    have hrow3 := hrow2.alloc (.cells #[encStr x, .int .u64 c] 81)
    have hrg4 := (hrg2.alloc (.cells #[encStr x, .int .u64 c] 81)).kept hgrow (row_ne_low hrow3 hbm) (row_ne_iter hrow3 (hrg2.alloc (.cells #[encStr x, .int .u64 c] 81)))
    have HB4 : Hid (Below w.heap.size w w4) := (HB.out.alloc hszw (.cells #[encStr x, .int .u64 c] 81)).grown hgrow (by simp; omega) (fun k hk => (hrow3.lt k hk).1)
    have hrow4 : w4.ownsRow w.heap.size 81 2 v' (ps ++ [(x, c)]).length (cellsP (ps ++ [(x, c)])) := by rw [cellsP_snoc]; simpa using hown'
    clear hown' hgrow hloc hrow2 hrow3 hrg2 HB
    go_wp2
    go_roundw
    case rel => exact ⟨_, cnt2, ps ++ [(x, c)], hrg4, by simp; omega, hC2, hV2, hrow4, HB4.out⟩
    case measure => rw [hrg4.left_eq, hm0]; exact hlt
end Go.Proofs.YtapdaefpkddioaaGreat.Pe
namespace Go.Proofs.YtapdaefpkddioaaGreat.Pe
open Go Go.Proofs Go.RowKit Go.Sort Go.Maps
theorem nodup_of_map {α β : Type} {f : α → β} {l : List α} (h : (l.map f).Nodup) : l.Nodup := (List.pairwise_map.1 h).imp fun hab e => hab (by rw [e])
theorem nodup_inj {α : Type} {l : List α} (h : l.Nodup) {i j : Nat} (hi : i < l.length) (hj : j < l.length) (e : l[i] = l[j]) : i = j := by
 have hp := List.pairwise_iff_getElem.1 h
 rcases Nat.lt_trichotomy i j with hlt | he | hlt
 ·exact absurd e (hp i j hi hj hlt)
 ·exact he
 ·exact absurd e.symm (hp j i hj hi hlt)
def toP (e : En) : Kp := (e.name.data.toList, e.off)
theorem toE_toP (e : En) : toE (toP e) = e := rfl
section
variable {w : World} {ι : Nat → Option Nat} {M : Nat → Prop} {b : Nat} {es : Array MapEntry} {clock : Nat} {names : List En}
theorem names_perm (h : MapAt w ι M b es clock (rowsE names)) (hn : names.length ≤ 1000) (hu : ∀ e ∈ names, U64 e.off ∧ e.name.size ≤ 15) (hnd : (names.map (·.name)).Nodup) {ps : List Kp} (ha : Mv.AllOf (datumOf es) ps) (hps : (ps.map (·.1)).Nodup) : ps.Perm (names.map toP) := by
 have hf := names_fit h hn hu
 have hl := h.len
 have hr : (rowsE names).length = names.length := by simp [rowsE]
 obtain ⟨_, ha2, ha3⟩ := ha
 have key : ∀ (i : Nat) (hi : i < names.length) (zd : DataW Unit), (datumOf es).atKey (.string names[i].name.data.toList) zd = .lit (.int .u64 names[i].off) := by
  intro i hi zd
  obtain ⟨hx, q1, q2, q3⟩ := ent_rd h hu hi
  exact Go.WideElems.atKey_some (Go.WideMaps.string_law Tryz.underlying9) hf q2 (Array.mem_toList_iff.2 (Array.getElem_mem hx)) rfl q3 zd
 have hmem : ∀ x, Maps.has (datumOf es) (.string x) = true → ∃ (i : Nat) (hi : i < names.length), names[i].name.data.toList = x := by
  intro x hx
  obtain ⟨q, hq, hqk⟩ := List.any_eq_true.1 hx
  obtain ⟨e, he, rfl⟩ := List.mem_map.1 (mem_sorted.1 hq)
  obtain ⟨i, hi, rfl⟩ := List.getElem_of_mem he
  have hi' : i < names.length := by simp at hi; omega
  obtain ⟨hx2, q1, q2, q3⟩ := ent_rd h hu hi'
  have hrg : WideElems.rg (H := Unit) Tryz.prog 9 (plainElem Tryz.prog 26) es.toList[i] = (.string names[i].name.data.toList, .lit (.int .u64 names[i].off)) := WideElems.rg_of (by simpa using q1)
  rw [hrg] at hqk
  have := WideAt.sameKey_eq hqk
  simp only [Lit.string.injEq] at this
  exact ⟨i, hi', this⟩
 have n1 : ps.Nodup := nodup_of_map hps
 have n2 : (names.map toP).Nodup := by
  refine nodup_of_map (f := fun p : Kp => (⟨p.1.toArray⟩ : ByteArray)) ?_
  rw [List.map_map]
  exact hnd
 rw [List.perm_ext_iff_of_nodup n1 n2]
 intro p
 constructor
 ·intro hp
  have hh := (ha2 p.1).1 (List.mem_map.2 ⟨p, hp, rfl⟩)
  obtain ⟨i, hi, hi2⟩ := hmem _ hh
  have h1 := ha3 p hp .nil
  rw [← hi2, key i hi] at h1
  injection h1 with h1
  injection h1 with _ h1
  exact List.mem_map.2 ⟨names[i], List.getElem_mem hi, Prod.ext hi2 h1⟩
 ·intro hp
  obtain ⟨e, he, rfl⟩ := List.mem_map.1 hp
  obtain ⟨i, hi, rfl⟩ := List.getElem_of_mem he
  have hh : Maps.has (datumOf es) (.string names[i].name.data.toList) = true := Maps.has_true_of_atKey (y := .lit (.int .u64 names[i].off)) (fun z => key i hi z)
  obtain ⟨q, hq, hq2⟩ := List.mem_map.1 ((ha2 _).2 hh)
  have h1 := ha3 q hq .nil
  rw [hq2, key i hi] at h1
  injection h1 with h1
  injection h1 with _ h1
  have : q = toP names[i] := Prod.ext hq2 h1.symm
  rw [← this]; exact hq
end
theorem entV_of {names : List En} (hnd : (names.map (·.name)).Nodup) {d : List Kp} (hp : d.Perm (names.map toP)) (hs : d.Pairwise (fun p q => Op.bytesLess q.1 p.1 = false)) : d.map toE = entV names := by
 have h1 : (d.map toE).Perm names := by
  have := hp.map toE
  rw [List.map_map] at this
  simpa [Function.comp_def, toE_toP] using this
 refine one_order (h1.trans (entV_perm names).symm) (fun x hx y hy hxy hyx => ?_) ?_ (entV_sorted names)
 ·have hx' := h1.mem_iff.1 hx
  have hy' := h1.mem_iff.1 hy
  have he : x.name = y.name := by
   have := bl_tri _ _ hxy hyx
   rw [Lib.toList_data, Lib.toList_data] at this
   exact WideShapes.bytes_inj this
  obtain ⟨i, hi, rfl⟩ := List.getElem_of_mem hx'
  obtain ⟨j, hj, rfl⟩ := List.getElem_of_mem hy'
  have : i = j := nodup_inj hnd (by simpa using hi) (by simpa using hj) (by simpa using he)
  subst this; rfl
 ·rw [List.pairwise_map]
  refine hs.imp ?_
  intro p q h
  show Op.bytesLess (⟨q.1.toArray⟩ : ByteArray).toList (⟨p.1.toArray⟩ : ByteArray).toList = false
  rw [bytes_mk, bytes_mk]; exact h
open Classical in
noncomputable def entriesMF : List AD → Hp → Nat → Option (RV × Hp × Nat) := fun l H nx =>
 if h : ∃ x : Nat × Nat × List En, l = [.one (.ptr x.1 12 0 0)] ∧ (∃ a f bd live, live.length = 8 ∧ H x.1 = topO a f bd (.mp x.2.1) live) ∧ H x.2.1 = some ⟨none, 0, rowsE x.2.2⟩ ∧ x.2.2.length ≤ 1000 ∧ (∀ e ∈ x.2.2, U64 e.off ∧ e.name.size ≤ 15) ∧ (x.2.2.map (·.name)).Nodup then
  some (.a (.one (.sl (rowsE (entV (Classical.choose h).2.2)))), H, nx) else none
theorem entriesMF_eq {S M nx : Nat} {names : List En} {H : Hp} {a f bd : D} {live : List Bool} (h8 : live.length = 8) (hS : H S = topO a f bd (.mp M) live) (hM : H M = some ⟨none, 0, rowsE names⟩) (hn : names.length ≤ 1000) (hu : ∀ e ∈ names, U64 e.off ∧ e.name.size ≤ 15) (hnd : (names.map (·.name)).Nodup) :
  entriesMF [.one (.ptr S 12 0 0)] H nx = some (.a (.one (.sl (rowsE (entV names)))), H, nx) := by
 have hx : ∃ x : Nat × Nat × List En, [AD.one (.ptr S 12 0 0)] = [.one (.ptr x.1 12 0 0)] ∧ (∃ a f bd live, live.length = 8 ∧ H x.1 = topO a f bd (.mp x.2.1) live) ∧ H x.2.1 = some ⟨none, 0, rowsE x.2.2⟩ ∧ x.2.2.length ≤ 1000 ∧ (∀ e ∈ x.2.2, U64 e.off ∧ e.name.size ≤ 15) ∧ (x.2.2.map (·.name)).Nodup := ⟨(S, M, names), rfl, ⟨a, f, bd, live, h8, hS⟩, hM, hn, hu, hnd⟩
 unfold entriesMF
 rw [dif_pos hx]
 have sp := Classical.choose_spec hx
 generalize Classical.choose hx = x at sp ⊢
 obtain ⟨h1, ⟨a', f', bd', live', h8', h2⟩, h3, _⟩ := sp
 simp only [List.cons.injEq, AD.one.injEq, D.ptr.injEq, true_and, and_true] at h1
 rw [← h1, hS] at h2
 simp only [topO, topR, Option.some.injEq, PObj.mk.injEq, List.cons.injEq, D.mp.injEq, true_and, and_true] at h2
 rw [← h2.2.2.2.1, hM] at h3
 simp only [Option.some.injEq, PObj.mk.injEq, true_and] at h3
 rw [← rowsE_inj h3]
theorem entriesM_ok : FnEff Tryz.prog 16 entriesMF := by
 intro l0 H nx r H' nx' hF w ι M vals hlt hok hsz hvals
 unfold entriesMF at hF
 split at hF
 case isFalse => cases hF
 rename_i hx
 have sp := Classical.choose_spec hx
 generalize Classical.choose hx = x at sp hF
 obtain ⟨S, Mm, names⟩ := x
 obtain ⟨rfl, ⟨a, f, bd, live, h8, hS⟩, hM, hn, hu, hnd⟩ := sp
 simp only at hS hM hn hu hnd
 simp only [Option.some.injEq, Prod.mk.injEq] at hF
 obtain ⟨rfl, rfl, rfl⟩ := hF
 have hv2 : vals.size = 1 := hsz
 obtain ⟨v0, rfl⟩ : ∃ v0, vals = #[v0] := by
  obtain ⟨l⟩ := vals
  match l, hv2 with
  | [v0], _ => exact ⟨v0, rfl⟩
 have r0 : Rd w ι M v0 (.ptr S 12 0 0) := hvals 0 v0 _ rfl rfl
 have hp0 : ∃ b, ι S = some b ∧ v0 = .pointer (some ⟨b, 0, none⟩) := by
  cases r0 with
  | ptr _ _ _ _ b h hsz => exact ⟨b, h, by simp⟩
 obtain ⟨b, hb, rfl⟩ := hp0
 obtain ⟨b', hb', ob⟩ := hok.objs S _ hS
 rw [hb] at hb'
 injection hb' with hb'
 subst hb'
 obtain ⟨T, cs, _, bk⟩ := ob.blk (show 0 < 12 by omega)
 obtain ⟨u, hu1, hu2⟩ := bk.rd 0 3 (topR a f bd (.mp Mm) live) (.mp Mm) rfl rfl
 obtain ⟨bm, hbm, rfl⟩ : ∃ bm, ι Mm = some bm ∧ u = .map (some bm) := by
  cases hu2 with
  | mp _ bm h => exact ⟨bm, h, rfl⟩
 obtain ⟨b2, hb2, ob2⟩ := hok.objs Mm _ hM
 rw [hbm] at hb2
 injection hb2 with hb2
 subst hb2
 obtain ⟨es, clock, hma⟩ := ob2.map rfl
 have hc : w.cell? ⟨b, 3, none⟩ = some (.map (some bm)) := by
  simp only [Nat.zero_mul, Nat.zero_add] at hu1
  simp [World.cell?, bk.at_, hu1]
 have hA := hma.at_
 have hbm' : bm < w.heap.size := (Array.getElem?_eq_some_iff.1 hA).1
 have hown : w.ownsMap Tryz.prog 9 (plainElem Tryz.prog 26) bm names.length (datumOf es) := by
  have hl : es.size = (rowsE names).length := hma.len
  have hr : (rowsE names).length = names.length := by simp [rowsE]
  exact ⟨es, clock, hA, names_fit hma hn hu, by omega, rfl⟩
 refine (entries_walk0 hc hown hbm' (by rw [datum_size hma]; exact hn)).mono ?_
 rintro e w' ⟨v, ps, rfl, hall, hnk, hbl, d, hdp, hds, hv⟩
 have hs : ∀ k, k < w.heap.size → w'.heap[k]? = w.heap[k]? := hbl.block
 have hev : ∀ X : Nat → Prop, Evo X M w M w' := fun X => ⟨hbl.os, hbl.tape, hbl.output, hbl.size, fun k hk _ => hs k hk, fun _ _ h => h, fun k hk _ => hs k hk, .of hs⟩
 have he : d.toList.map toE = entV names := entV_of hnd (hdp.trans (names_perm hma hn hu hnd hall hnk)) hds
 have hrd : Rd w' ι M v (.sl (rowsE (entV names))) := by
  rw [← he]
  rcases hv with ⟨rfl, h0⟩ | ⟨g, cap, rfl, hg, hcap, hH⟩
  ·have : d.toList = [] := List.eq_nil_of_length_eq_zero (by simpa using h0)
   rw [this]; exact .nil _ _
  ·exact rdP (fun b hb => hlt b hb) hg hcap hH
 refine ⟨_, ι, M, rfl, hrd, ⟨hok.new, fun o ob ho => ?_, hok.inj, hok.ctl⟩, fun _ _ h => h, ?_, fun b hb _ => hb, fun _ _ h => h, fun b hb => Nat.lt_of_lt_of_le (hlt b hb) hbl.size⟩
 ·obtain ⟨bo, h1, h2⟩ := hok.objs o ob ho
  exact ⟨bo, h1, h2.mono (hev (fun _ => False)) (fun _ _ h => h) (hs bo (hlt bo (hok.ctl o ob bo ho h1)))⟩
 ·exact ⟨hbl.os, hbl.tape, hbl.output, hbl.size, fun k hk _ => hs k hk, fun _ _ h => h, fun k hk _ => hs k hk, .of hs⟩
end Go.Proofs.YtapdaefpkddioaaGreat.Pe
