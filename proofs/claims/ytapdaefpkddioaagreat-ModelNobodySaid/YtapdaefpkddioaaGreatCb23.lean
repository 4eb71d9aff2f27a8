/- A part of the proof of PmD. -/
import Derived.Test.YtapdaefpkddioaaGreatCb22
set_option linter.unusedSimpArgs false
set_option linter.unusedVariables false
set_option linter.unusedSectionVars false
namespace Go.Proofs.YtapdaefpkddioaaGreat.Pe
open Go
set_option maxHeartbeats 2000000
structure Wd where
  off : Int
  d : List Int
def Wd.c (w : Wd) : List D := [.int .u64 w.off, .sl (rowsN w.d)]
def rowsW (l : List Wd) : List (List D) := l.map Wd.c
theorem Wd.c_inj {a b : Wd} (h : a.c = b.c) : a = b := by
  cases a; cases b
  simp only [Wd.c, List.cons.injEq, D.int.injEq, D.sl.injEq, true_and, and_true] at h
  simp only [Wd.mk.injEq]; exact ⟨h.1, rowsN_inj h.2⟩
theorem rowsW_inj {l m : List Wd} (h : rowsW l = rowsW m) : l = m := (List.map_inj_right (fun _ _ h => Wd.c_inj h)).1 h
theorem rowsW_len (l : List Wd) : (rowsW l).length = l.length := by simp [rowsW]
theorem rowsW_get' (l : List Wd) (i : Nat) (h : i < l.length) : (rowsW l)[i]? = some l[i].c := by simp [rowsW, h]
theorem rowsW_all (l : List Wd) : (rowsW l).all (fun r => decide (r.length = 2)) = true := by simp [rowsW, Wd.c]
theorem rowsW_app (l m : List Wd) : rowsW l ++ rowsW m = rowsW (l ++ m) := by simp [rowsW]
theorem rowsW_appL (l : List Wd) (a : Int) (d : List Int) : rowsW l ++ [[.int .u64 a, .sl (rowsN d)]] = rowsW (l ++ [⟨a, d⟩]) := rowsW_app l [⟨a, d⟩]
structure En where
  name : ByteArray
  off : Int
def En.c (e : En) : List D := [.str e.name, .int .u64 e.off]
def rowsE (l : List En) : List (List D) := l.map En.c
theorem En.c_inj {a b : En} (h : a.c = b.c) : a = b := by
  cases a; cases b
  simp only [En.c, List.cons.injEq, D.int.injEq, D.str.injEq, true_and, and_true] at h
  simp only [En.mk.injEq]; exact h
theorem rowsE_inj {l m : List En} (h : rowsE l = rowsE m) : l = m := (List.map_inj_right (fun _ _ h => En.c_inj h)).1 h
theorem rowsE_len (l : List En) : (rowsE l).length = l.length := by simp [rowsE]
theorem rowsE_get' (l : List En) (i : Nat) (h : i < l.length) : (rowsE l)[i]? = some l[i].c := by simp [rowsE, h]
theorem rowsE_all (l : List En) : (rowsE l).all (fun r => decide (r.length = 2)) = true := by simp [rowsE, En.c]
theorem rowsE_app (l m : List En) : rowsE l ++ rowsE m = rowsE (l ++ m) := by simp [rowsE]
theorem rowsE_appL (l : List En) (a : ByteArray) (d : Int) : rowsE l ++ [[.str a, .int .u64 d]] = rowsE (l ++ [⟨a, d⟩]) := rowsE_app l [⟨a, d⟩]
theorem rowsE_take (l : List En) (i : Nat) : (rowsE l).take i = rowsE (l.take i) := by simp [rowsE, List.map_take]
theorem rowsE_drop (l : List En) (i : Nat) : (rowsE l).drop i = rowsE (l.drop i) := by simp [rowsE, List.map_drop]
def rowsO (l : List Bool) : List D := l.map D.bool
theorem rowsO_inj {l m : List Bool} (h : rowsO l = rowsO m) : l = m := (List.map_inj_right (fun _ _ h => by simpa using h)).1 h
theorem rowsO_len (l : List Bool) : (rowsO l).length = l.length := by simp [rowsO]
theorem rowsO_take8 (l : List Bool) (h : l.length = 8) : (rowsO l).take 8 = rowsO l := by rw [← h, ← rowsO_len, List.take_length]
structure St where
  all : Int
  h : Hpp
  data : List Wd
  names : List En
  live : List Bool
def stc (a b c : D) (ls : List (List Int)) (W E : D) (live : List Bool) : List D := a :: b :: c :: (rowsL ls ++ (W :: E :: rowsO live))
def St.c (s : St) : List D := stc (.int .u64 s.all) (.int .u64 s.h.fin) (.sl (rowsB s.h.bl)) s.h.ls (.sl (rowsW s.data)) (.sl (rowsE s.names)) s.live
structure St.sh (s : St) : Prop where
  ls8 : s.h.ls.length = 8
  lv8 : s.live.length = 8
theorem append_len_inj {α : Type} {a b c d : List α} (h : a ++ b = c ++ d) (hl : a.length = c.length) : a = c ∧ b = d := List.append_inj h hl
section
variable (ls : List (List Int)) (T : List D) (h : ls.length = 8)
include h
theorem tk8 : List.take 8 (rowsL ls ++ T) = rowsL ls := by rw [List.take_append_of_le_length (by rw [rowsL_len, h]; omega), ← h, ← rowsL_len, List.take_length]
theorem dr8 : List.drop 8 (rowsL ls ++ T) = T := by rw [← h, ← rowsL_len, List.drop_left]
theorem tk9 : List.take 9 (rowsL ls ++ T) = rowsL ls ++ T.take 1 := by rw [List.take_append, List.take_of_length_le (by rw [rowsL_len, h]; omega), rowsL_len, h]
theorem dr9 : List.drop 9 (rowsL ls ++ T) = T.drop 1 := by rw [List.drop_append, List.drop_of_length_le (by rw [rowsL_len, h]; omega), rowsL_len, h]; rfl
theorem tk10 : List.take 10 (rowsL ls ++ T) = rowsL ls ++ T.take 2 := by rw [List.take_append, List.take_of_length_le (by rw [rowsL_len, h]; omega), rowsL_len, h]
theorem dr10 : List.drop 10 (rowsL ls ++ T) = T.drop 2 := by rw [List.drop_append, List.drop_of_length_le (by rw [rowsL_len, h]; omega), rowsL_len, h]; rfl
theorem tk18 : List.take 18 (rowsL ls ++ T) = rowsL ls ++ T.take 10 := by rw [List.take_append, List.take_of_length_le (by rw [rowsL_len, h]; omega), rowsL_len, h]
end
theorem cons3 (a b c : D) (l : List D) : a :: b :: c :: l = [a, b, c] ++ l := rfl
theorem rdList (a b c : D) (ls : List (List Int)) (T : List D) (k : Nat) (h : k < ls.length) : List.take 1 (List.drop (3 + k * 1) (a :: b :: c :: (rowsL ls ++ T))) = [.sl (rowsN ls[k])] := by
  rw [cons3, List.drop_append, List.drop_of_length_le (by simp), List.nil_append, Nat.mul_one, show 3 + k - [a, b, c].length = k by simp, List.drop_append_of_le_length (by rw [rowsL_len]; omega), List.drop_eq_getElem_cons (by rw [rowsL_len]; exact h)]
  simp [rowsL]
theorem wrList (a b c : D) (ls : List (List Int)) (T : List D) (k : Nat) (m : List Int) (h : k < ls.length) : List.take (3 + k * 1) (a :: b :: c :: (rowsL ls ++ T)) ++ [.sl (rowsN m)] ++ List.drop (3 + k * 1) (b :: c :: (rowsL ls ++ T)) = a :: b :: c :: (rowsL (ls.set k m) ++ T) := by
  rw [Nat.mul_one, ← rowsL_set, Nat.add_comm 3 k]
  rw [List.take_succ_cons, List.take_succ_cons, List.take_succ_cons, List.drop_succ_cons, List.drop_succ_cons, List.take_append_of_le_length (by rw [rowsL_len]; omega), List.drop_append_of_le_length (by rw [rowsL_len]; omega), List.set_eq_take_append_cons_drop, if_pos (by rw [rowsL_len]; exact h)]
  simp only [List.cons_append, List.nil_append, List.append_assoc, List.singleton_append]
theorem rdLive (a b c W E : D) (ls : List (List Int)) (live : List Bool) (k : Nat) (h8 : ls.length = 8) (h : k < live.length) : List.take 1 (List.drop (13 + k * 1) (a :: b :: c :: (rowsL ls ++ (W :: E :: rowsO live)))) = [.bool live[k]] := by
  have e : a :: b :: c :: (rowsL ls ++ (W :: E :: rowsO live)) = (a :: b :: c :: (rowsL ls ++ [W, E])) ++ rowsO live := by simp
  rw [e, List.drop_append, List.drop_of_length_le (by simp [rowsL_len, h8]), List.nil_append, Nat.mul_one, show 13 + k - (a :: b :: c :: (rowsL ls ++ [W, E])).length = k by simp [rowsL_len, h8], List.drop_eq_getElem_cons (by rw [rowsO_len]; exact h)]
  simp [rowsO]
theorem wrLive (a b c W E : D) (ls : List (List Int)) (live : List Bool) (k : Nat) (v : Bool) (h8 : ls.length = 8) (h : k < live.length) : List.take (13 + k * 1) (a :: b :: c :: (rowsL ls ++ (W :: E :: rowsO live))) ++ [.bool v] ++ List.drop (13 + k * 1) (b :: c :: (rowsL ls ++ (W :: E :: rowsO live))) = a :: b :: c :: (rowsL ls ++ (W :: E :: rowsO (live.set k v))) := by
  have e : a :: b :: c :: (rowsL ls ++ (W :: E :: rowsO live)) = (a :: b :: c :: (rowsL ls ++ [W, E])) ++ rowsO live := by simp
  have e2 : List.drop (13 + k * 1) (b :: c :: (rowsL ls ++ (W :: E :: rowsO live))) = (rowsO live).drop (k + 1) := by
    have e : b :: c :: (rowsL ls ++ (W :: E :: rowsO live)) = (b :: c :: (rowsL ls ++ [W, E])) ++ rowsO live := by simp
    rw [e, List.drop_append, List.drop_of_length_le (by simp [rowsL_len, h8]; omega), List.nil_append, Nat.mul_one, show 13 + k - (b :: c :: (rowsL ls ++ [W, E])).length = k + 1 by simp [rowsL_len, h8]; omega]
  rw [e2, e, List.take_append, List.take_of_length_le (by simp [rowsL_len, h8]), Nat.mul_one, show 13 + k - (a :: b :: c :: (rowsL ls ++ [W, E])).length = k by simp [rowsL_len, h8]]
  have e3 : rowsO (live.set k v) = (rowsO live).take k ++ (.bool v :: (rowsO live).drop (k + 1)) := by
    rw [show rowsO (live.set k v) = (rowsO live).set k (.bool v) by simp [rowsO, List.map_set], List.set_eq_take_append_cons_drop, if_pos (by rw [rowsO_len]; exact h)]
  rw [e3]
  simp
theorem wrList' (a b c : D) (ls : List (List Int)) (T : List D) (k : Nat) (m : List Int) (h : k < ls.length) : List.take (3 + k * 1) (a :: b :: c :: (rowsL ls ++ T)) ++ .sl (rowsN m) :: List.drop (3 + k * 1) (b :: c :: (rowsL ls ++ T)) = a :: b :: c :: (rowsL (ls.set k m) ++ T) := by
  rw [← wrList a b c ls T k m h, List.append_assoc]; rfl
theorem wrLive' (a b c W E : D) (ls : List (List Int)) (live : List Bool) (k : Nat) (v : Bool) (h8 : ls.length = 8) (h : k < live.length) : List.take (13 + k * 1) (a :: b :: c :: (rowsL ls ++ (W :: E :: rowsO live))) ++ .bool v :: List.drop (13 + k * 1) (b :: c :: (rowsL ls ++ (W :: E :: rowsO live))) = a :: b :: c :: (rowsL ls ++ (W :: E :: rowsO (live.set k v))) := by
  rw [← wrLive a b c W E ls live k v h8 h, List.append_assoc]; rfl
attribute [go_sem] wrList' wrLive' rowsW_len rowsW_get' rowsW_all rowsW_app rowsW_appL rowsE_len rowsE_get' rowsE_all rowsE_app rowsE_appL rowsE_take rowsE_drop rowsO_len rowsO_take8 tk8 dr8 tk9 dr9 tk10 dr10 tk18 rdList wrList rdLive wrLive List.append_assoc List.singleton_append
def resC (e off v : Int) : List D := [.int .i64 e, .int .u64 off, .int .u64 v]
def stRV (s : St) (e off v : Int) : RV := .tup [.many s.c, .many (resC e off v)]
theorem stc_inj {a b c W E a' b' c' W' E' : D} {ls ls' : List (List Int)} {live live' : List Bool} (h : stc a b c ls W E live = stc a' b' c' ls' W' E' live') (hl : ls.length = ls'.length) : a = a' ∧ b = b' ∧ c = c' ∧ ls = ls' ∧ W = W' ∧ E = E' ∧ live = live' := by
  unfold stc at h
  simp only [List.cons.injEq] at h
  obtain ⟨h1, h2, h3, h4⟩ := h
  obtain ⟨h5, h6⟩ := List.append_inj h4 (by rw [rowsL_len, rowsL_len, hl])
  simp only [List.cons.injEq] at h6
  exact ⟨h1, h2, h3, rowsL_inj h5, h6.1, h6.2.1, rowsO_inj h6.2.2⟩
def Sst := { s : St // s.sh }
theorem Sst.c_inj {a b : Sst} (h : a.1.c = b.1.c) : a = b := by
  obtain ⟨⟨a1, ⟨a2, a3, a4⟩, a5, a6, a7⟩, ha⟩ := a
  obtain ⟨⟨b1, ⟨b2, b3, b4⟩, b5, b6, b7⟩, hb⟩ := b
  simp only [St.c] at h
  obtain ⟨h1, h2, h3, h4, h5, h6, h7⟩ := stc_inj h (ha.ls8.trans hb.ls8.symm)
  simp only [D.int.injEq, D.sl.injEq, true_and] at h1 h2 h3 h5 h6
  subst h1; subst h2; subst h4; subst h7
  cases rowsB_inj h3
  cases rowsW_inj h5
  cases rowsE_inj h6
  rfl
def encSI (x : Sst × Int) : List AD := [.many x.1.1.c, .one (.int .i64 x.2)]
theorem encSI_inj (x y : Sst × Int) (h : encSI x = encSI y) : x = y := by
  obtain ⟨a, b⟩ := x; obtain ⟨c, d⟩ := y
  simp only [encSI, List.cons.injEq, AD.one.injEq, AD.many.injEq, D.int.injEq, true_and, and_true] at h
  rw [Sst.c_inj h.1, h.2]
def encSN (x : Sst × Int) : List AD := [.many x.1.1.c, .one (.int .u64 x.2)]
theorem encSN_inj (x y : Sst × Int) (h : encSN x = encSN y) : x = y := by
  obtain ⟨a, b⟩ := x; obtain ⟨c, d⟩ := y
  simp only [encSN, List.cons.injEq, AD.one.injEq, AD.many.injEq, D.int.injEq, true_and, and_true] at h
  rw [Sst.c_inj h.1, h.2]
noncomputable def toldF : List AD → Option RV := byEnc encSI (fun _ => True) fun x => stRV x.1.1 x.2 0 0
theorem toldF_eq {s : St} {e : Int} (hs : s.sh) : toldF [.many s.c, .one (.int .i64 e)] = some (stRV s e 0 0) := byEnc_eq (x := (⟨s, hs⟩, e)) encSI_inj trivial
theorem told_ok : FnPure Tryz.prog 53 toldF := by
  (refine fn_pure' (f := 53) mixed Tryz.func53 rfl (fun X => { nt := 9, tt := tt, fns := ofList [], keep := keep53, X := X }) (fun X => ok_of tt_ok trivial (noEqs _)) (fun _ => rfl) (fun _ => rfl) (by decide) Tryz.results53 toldF ?_)
  intro l r hq
  obtain ⟨⟨⟨s, hs⟩, e⟩, rfl, _, hr⟩ := byEnc_some hq
  clear hq
  simp only at hr
  have h1 := hs.ls8
  have h2 := hs.lv8
  refine ⟨by simp [encSI, Tryz.ntmps53], fun X nx R hR => ?_⟩
  simp only [encSI, St.c, stc]
  (repeat ((try simp only [cl_seq, cl_skip]); with_reducible refine cg fun K hK => ?_; (simp (maxSteps := 1000000) only [go_sem, h1, h2]); (repeat refine ck ?_); (try simp (disch := omega) only [wrap64, wrapi64]); refine hK _ ?_; clear hK K))
  (((try simp only [cl_seq, cl_skip]); (try simp only [cl_ret]); refine hR _ _ (.inr rfl) ?_; (simp (maxSteps := 1000000) only [go_sem, h1, h2])))
  rw [hr]
  rfl
end Go.Proofs.YtapdaefpkddioaaGreat.Pe
