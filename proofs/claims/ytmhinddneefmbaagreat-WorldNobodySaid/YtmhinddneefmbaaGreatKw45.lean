/- A part of the proof of JbH. -/
import Derived.WalkKit
import Derived.Lib.AppendZerosOnto
import Derived.Laws.NewBlocks
import Derived.Test.YtmhinddneefmbaaGreatKw41
import Derived.Test.YtmhinddneefmbaaGreatKw43
import Derived.Test.YtmhinddneefmbaaGreatKw44
set_option linter.unusedSimpArgs false
set_option linter.unusedVariables false
set_option linter.unusedSectionVars false
namespace Go.Proofs.YtmhinddneefmbaaGreat.Pe
open Go Go.Proofs Go.RowKit
set_option maxRecDepth 100000
section
variable {w w1 : World} {ι : Nat → Option Nat} {M : Nat → Prop} {H : Hp} {nx : Nat}
def setN (ι : Nat → Option Nat) (nx b : Nat) : Nat → Option Nat := fun k => if k = nx then some b else ι k
theorem alloc_eff {ob : PObj} (hM : ∀ b, M b → b < w.heap.size) (hok : HeapOk w ι M H nx) (ho : w1.os = w.os) (ht : w1.tape = w.tape) (hp : w1.output = w.output) (hs : w1.heap.size = w.heap.size + 1) (hold : ∀ k, k < w.heap.size → w1.heap[k]? = w.heap[k]?)
    (hob : ObjAt w1 (setN ι nx w.heap.size) (fun b => M b ∨ b = w.heap.size) w.heap.size ob) : EffTo w ι M H w1 (setN ι nx w.heap.size) (fun b => M b ∨ b = w.heap.size) (updO H nx (some ob)) (nx + 1) := by
  have J0 : setN ι nx w.heap.size nx = some w.heap.size := if_pos rfl
  have Jo : ∀ k, k ≠ nx → setN ι nx w.heap.size k = ι k := fun k h => if_neg h
  have old : ∀ k x, H k = some x → k < nx := fun k x hx => by
    obtain ⟨b, hb, _⟩ := hok.objs k x hx
    exact Nat.lt_of_not_le fun hle => by rw [(hok.new k).1 hle] at hb; cases hb
  have hi : ∀ o b, ι o = some b → setN ι nx w.heap.size o = some b := fun o b hb => by
    have : o < nx := Nat.lt_of_not_le fun hle => by rw [(hok.new o).1 hle] at hb; cases hb
    rw [Jo o (by omega)]; exact hb
  have evw : Evo (fun _ => False) M w (fun b => M b ∨ b = w.heap.size) w1 := ⟨ho, ht, hp, by omega, fun b hb _ => hold b hb, fun b hb h => by
    rcases h with h | h
    · exact h
    · omega, fun b hb h => h.elim, .of hold⟩
  have at_ : ∀ k x, updO H nx (some ob) k = some x → (k = nx ∧ x = ob) ∨ (k < nx ∧ H k = some x) := fun k x hx => by
    rw [updO_at] at hx
    split at hx
    · rename_i e; injection hx with hx; exact .inl ⟨e, hx.symm⟩
    · exact .inr ⟨old k x hx, hx⟩
  have blk : ∀ k x b, H k = some x → ι k = some b → b < w.heap.size := fun k x b h1 h2 => hM b (hok.ctl k x b h1 h2)
  refine ⟨⟨fun k => ?_, fun k x hk => ?_, fun k k' x x' b h1 h2 hb hb' => ?_, fun k x b h1 hb => ?_⟩, hi, ⟨ho, ht, hp, by omega, fun b hb _ => hold b hb, fun b hb hh => ?_, fun b hb h => h.elim, .of hold⟩, fun b hb _ => .inl hb, fun b hb h => ?_, fun b h => ?_⟩
  · by_cases h : k = nx
    · subst h; rw [J0]; simp
    · rw [Jo k h, ← hok.new k]; omega
  · rcases at_ k x hk with ⟨rfl, rfl⟩ | ⟨h1, h2⟩
    · exact ⟨_, J0, hob⟩
    · obtain ⟨b, k1, k2⟩ := hok.objs k x h2
      exact ⟨b, hi k b k1, k2.mono evw hi (hold b (blk k x b h2 k1))⟩
  · rcases at_ k x h1 with ⟨rfl, _⟩ | ⟨g1, g2⟩ <;> rcases at_ k' x' h2 with ⟨rfl, _⟩ | ⟨g1', g2'⟩
    · rfl
    · rw [J0] at hb; injection hb with hb; subst hb
      rw [Jo k' (by omega)] at hb'
      have := blk k' x' _ g2' hb'; omega
    · rw [J0] at hb'; injection hb' with hb'; subst hb'
      rw [Jo k (by omega)] at hb
      have := blk k x _ g2 hb; omega
    · rw [Jo k (by omega)] at hb; rw [Jo k' (by omega)] at hb'
      exact hok.inj k k' x x' b g2 g2' hb hb'
  · rcases at_ k x h1 with ⟨rfl, _⟩ | ⟨g1, g2⟩
    · rw [J0] at hb; injection hb with hb; exact .inr hb.symm
    · rw [Jo k (by omega)] at hb; exact .inl (hok.ctl k x b g2 hb)
  · obtain ⟨k, x, h1, hb'⟩ := hh
    rcases at_ k x h1 with ⟨rfl, _⟩ | ⟨g1, g2⟩
    · rw [J0] at hb'; injection hb' with hb'; omega
    · rw [Jo k (by omega)] at hb'; exact ⟨k, x, g2, hb'⟩
  · rcases h with h | h
    · exact h
    · omega
  · rcases h with h | h
    · have := hM b h; omega
    · omega
end
abbrev growN : Nat := 342
theorem info_put : (Tryz.prog.info? 240).map (fun i => (i.zero, i.size, i.bytes)) = some (some (.agg #[.int .u64 0, .int .u64 0]), 2, 16) := by kernel_rfl
theorem grow_run {w : World} {n : Nat} (h0 : 0 < n) (hn : n ≤ 1000000000) : Calls Tryz.prog growN #[.slice none 0 0, .int .i64 n] w fun e w' => e = .returned (.slice (some ⟨w.heap.size, 0, none⟩) 0 (grownCap w n 0 240)) ∧
    w' = (w.alloc (.cells (Builtin.zeroCells #[.int .u64 0, .int .u64 0] n ++ Builtin.zeroCells #[.int .u64 0, .int .u64 0] (grownCap w n 0 240 - n)) 240)).drew := by
  obtain ⟨i, hi, hz, hs, hb⟩ := info_parts info_put
  have happ := Lib.run_append_nil_zeros (P := Tryz.prog) w 174 3 174 240 i (.agg #[.int .u64 0, .int .u64 0]) .i64 .i64 Tryz.underlying174 Tryz.underlying3 hi hz n h0 (by omega) (by omega) (by rw [hb]; omega)
  go_enter Tryz.func342, Tryz.ntmps342
  go_wp2_with (first
    | (at_builtin; refine Lib.wpList_append_run _ rfl _ _ _ _ rfl _ _ rfl rfl _ _ happ ?_)
    | go_in)
  go_ret
  exact ⟨rfl, rfl⟩
theorem zeros_size (z : Array Value) (n : Nat) : (Builtin.zeroCells z n).size = n * z.size := by simp [Builtin.zeroCells]
theorem zeros_one (n : Nat) : ∀ v ∈ (Builtin.zeroCells #[.int .u64 0, .int .u64 0] n).toList, v.oneCell' = true := fun v hv => by
  simp only [Builtin.zeroCells, Array.toList_map, List.mem_map] at hv
  obtain ⟨i, _, rfl⟩ := hv
  have h2 : i % 2 = 0 ∨ i % 2 = 1 := by omega
  show ((#[Value.int .u64 0, Value.int .u64 0])[i % 2]!).oneCell' = true
  rcases h2 with h | h <;> rw [h] <;> rfl
noncomputable def growX (ads : List AD) (H : Hp) (nx : Nat) : Option (RV × Hp × Nat) := match ads with
  | [.one .nils, .one (.int .i64 (.ofNat n))] => br (Nat.blt 0 n) (br (Nat.ble n 1000000000) (some (.a (.one (.ref nx 2 0 0)), updO H nx (some ⟨some 240, 2, []⟩), nx + 1)) none) none
  | _ => none
theorem grow_ok : FnEff Tryz.prog growN growX := by
  rw [FnEff.iff]
  intro ads H nx r H' nx' hq
  unfold growX at hq
  split at hq
  · rename_i n
    obtain ⟨h0, hq⟩ := br_some hq
    obtain ⟨h1, hq⟩ := br_some hq
    have h0 := blt_lt h0
    have h1 := Nat.le_of_ble_eq_true h1
    have hq := Option.some.inj hq
    obtain ⟨q1, q2⟩ := Prod.mk.inj hq
    obtain ⟨q2, q3⟩ := Prod.mk.inj q2
    subst q1; subst q2; subst q3
    intro w ι M vals hM hok hsz hargs
    obtain ⟨v0, v1, rfl⟩ : ∃ v0 v1, vals = #[v0, v1] := by
      have : vals.size = 2 := hsz
      obtain ⟨l⟩ := vals
      match l, this with
      | [x, y], _ => exact ⟨x, y, rfl⟩
    have r0 : Rd w ι M v0 .nils := hargs 0 v0 _ rfl rfl
    have r1 : Rd w ι M v1 (.int .i64 (.ofNat n)) := hargs 1 v1 _ rfl rfl
    cases r0
    cases r1
    refine (grow_run (w := w) h0 h1).mono fun e w' hp => ?_
    obtain ⟨rfl, rfl⟩ := hp
    have hge := grownCap_ge w n 0 240
    have hgl := grownCap_le_maxLen w n 0 240 (by unfold maxLen; omega)
    generalize grownCap w n 0 240 = g at *
    generalize hcs : Builtin.zeroCells #[.int .u64 0, .int .u64 0] n ++ Builtin.zeroCells #[.int .u64 0, .int .u64 0] (g - n) = cs
    have hsize : cs.size = g * 2 := by rw [← hcs, Array.size_append, zeros_size, zeros_size]; show n * 2 + (g - n) * 2 = _; omega
    have hone : ∀ v ∈ cs.toList, v.oneCell' = true := fun v hv => by
      rw [← hcs, Array.toList_append] at hv
      rcases List.mem_append.1 hv with hv | hv
      · exact zeros_one _ v hv
      · exact zeros_one _ v hv
    have hat : ((w.alloc (.cells cs 240)).drew).heap[w.heap.size]? = some (.cells cs 240 (0, 0)) := (MapKept.heap_alloc w _).1
    have hsz1 : ((w.alloc (.cells cs 240)).drew).heap.size = w.heap.size + 1 := by simp
    generalize hw1 : (w.alloc (.cells cs 240)).drew = w1 at *
    have hold : ∀ k, k < w.heap.size → w1.heap[k]? = w.heap[k]? := fun k hk => by rw [← hw1]; exact (MapKept.heap_alloc w _).2 k hk
    have hB : Blk w1 (setN ι nx w.heap.size) (fun b => M b ∨ b = w.heap.size) w.heap.size 240 cs 2 [] := ⟨hat, Nat.succ_pos 1, Nat.le_trans (Nat.le_of_eq (Nat.zero_mul 2)) (Nat.zero_le _), fun r hr => (by cases hr), fun i j r d hr => (by simp at hr), hone⟩
    have hob : ObjAt w1 (setN ι nx w.heap.size) (fun b => M b ∨ b = w.heap.size) w.heap.size ⟨some 240, 2, []⟩ := .inr ⟨_, cs, fun e h => (by injection h), hB⟩
    have eff := alloc_eff (w1 := w1) hM hok (by rw [← hw1]; rfl) (by rw [← hw1]; rfl) (by rw [← hw1]; rfl) hsz1 hold hob
    obtain ⟨h1, h2, h3, h4, h5, h6⟩ := eff
    refine ⟨_, _, _, rfl, ?_, h1, h2, h3, h4, h5, h6⟩
    exact Rd.ref nx 2 0 0 g w.heap.size (if_pos rfl) (Nat.zero_le _) hgl (Nat.succ_pos 1) ⟨cs, _, hat, by rw [hsize]; omega⟩
  · cases hq
noncomputable def growF (ads : List AD) (H : Hp) (nx : Nat) : Option (RV × Hp × Nat) := match growX ads H nx with
  | some z => some z
  | none => (evs S3.toSys 100).fn growN ads H nx
theorem growF_ok : FnEff Tryz.prog growN growF := by
  rw [FnEff.iff]
  intro ads H nx r H' nx' hq
  unfold growF at hq
  split at hq
  · rename_i z hz
    injection hq with hq
    subst hq
    exact FnEff.iff.1 grow_ok _ _ _ _ _ _ hz
  · exact (evs_ok S3_ok 100).fn growN (by kernel_rfl) _ _ _ _ _ _ hq
end Go.Proofs.YtmhinddneefmbaaGreat.Pe
namespace Go.Proofs.YtmhinddneefmbaaGreat.Pe
open Go
set_option maxRecDepth 100000
noncomputable def bsLw : List (Nat × FnS) := (wAddN, .eff wAddX) :: (addN, .eff addX) :: (ldN, .eff ldX) :: (growN, .eff growF) :: bsL3
theorem bsLw_ok : AllBs Tryz.prog bsLw := ⟨⟨wAdd_ok, by kernel_rfl⟩, ⟨add_ok, by kernel_rfl⟩, ⟨ld_ok, by kernel_rfl⟩, ⟨growF_ok, by kernel_rfl⟩, bsL3_ok⟩
noncomputable def Sw : SysP := { sysOf (mkTr ttL) (mkTr ezL) (mkTr fnL) (mkTr bsLw) with pb := S3.pb }
theorem Sw_ok : SysOk Sw.toSys Tryz.prog := sysOf_ok mixed ttL_ok (by kernel_rfl) ezL_ok (by kernel_rfl) fnL_ok (by kernel_rfl) bsLw_ok (by kernel_rfl)
noncomputable def bsLr : List (Nat × FnS) := (repN, .eff (rpF Sw.toSys 3000)) :: bsLw
theorem bsLr_ok : AllBs Tryz.prog bsLr := ⟨⟨rpF_ok Sw_ok (by kernel_rfl) (by kernel_rfl) 3000, by kernel_rfl⟩, bsLw_ok⟩
noncomputable def Sr : SysP := { sysOf (mkTr ttL) (mkTr ezL) (mkTr fnL) (mkTr bsLr) with pb := S3.pb }
theorem Sr_ok : SysOk Sr.toSys Tryz.prog := sysOf_ok mixed ttL_ok (by kernel_rfl) ezL_ok (by kernel_rfl) fnL_ok (by kernel_rfl) bsLr_ok (by kernel_rfl)
abbrev pickN : Nat := 10
noncomputable def pkFd : FD := fdOf Tryz.f10
noncomputable def pkB : Code := pkFd.body
noncomputable def pk0 : Code := cA pkB
noncomputable def pkA : Code := cA (cB pkB)
noncomputable def pkD : Code := cA (cB (cB pkB))
noncomputable def pkR : Code := cB (cB (cB pkB))
theorem pkB_eq : pkB = .seq pk0 (.seq pkA (.seq pkD pkR)) := by kernel_rfl
noncomputable def pkO : Array Oper := opsOf pkD
theorem pkD_eq : pkD = .region (idOf pkD) pkO false := by kernel_rfl
noncomputable def pkP : Oper := pkO.toList.getD 3 ⟨none, .assign (.tmp 0), 0, "", #[], none⟩
theorem pkO_size : pkO.size = 4 := by kernel_rfl
theorem pkP_at : pkO[3]? = some pkP := by kernel_rfl
noncomputable def pkC : Call := match pkP.op with
  | .defer c => c
  | _ => ⟨.value (.tmp 0), #[], #[]⟩
theorem pkP_op : pkP.op = .defer pkC := by kernel_rfl
theorem pkP_dst : pkP.dst = none := by kernel_rfl
theorem pkP_grd : pkP.guard = none := by kernel_rfl
theorem pkC_cal : pkC.callee = .value (.func addN) := by kernel_rfl
theorem pk_nt : pkFd.nt = 101 := by kernel_rfl
noncomputable def retP (S : Sys) (ex : Ex) (s : St) : Option (RV × Hp × Nat) := match ex with
  | .ret => resOf S pkFd s
  | _ => none
noncomputable def restP (S : Sys) (ex : Ex) (s : St) (dads : List AD) : Option (RV × Hp × Nat) := match ex with
  | .ret => match addG dads s.H s.nx with
    | some (H4, nx4) => resOf S pkFd ⟨s.t, H4, nx4⟩
    | none => none
  | _ => none
noncomputable def pickF (S : Sys) (k : Nat) (ads : List AD) (H : Hp) (nx : Nat) : Option (RV × Hp × Nat) := match ads with
  | [x, y] => match (evs S k).code 101 none pk0 ⟨startS [x, y] 0 .leaf, H, nx⟩ with
    | some (.normal, s0) => match (evs S k).code 101 none pkA s0 with
      | some (.normal, s1) => match runF (ctxS S noE 101) pkO 0 (pkO.toList.take 3) s1 with
        | some sf => match opsD sf pkC.args.toList with
          | some dads => match (evs S k).code 101 none pkR sf with
            | some (ex, s3) => restP S ex s3 dads
            | none => none
          | none => none
        | none => none
      | some (ex, s1) => retP S ex s1
      | none => none
    | _ => none
  | _ => none
theorem pickF_ok {S : Sys} (hS : SysOk S Tryz.prog) (hfd : S.tab pickN = some pkFd) (k : Nat) : FnEff Tryz.prog pickN (pickF S k) := by
  rw [FnEff.iff]
  intro ads H nx r H' nx' hq
  unfold pickF at hq
  split at hq
  · rename_i x y
    have hle : [x, y].length ≤ pkFd.nt ∧ pkFd.nt ≤ 1000000 := ⟨Nat.le_of_ble_eq_true (by kernel_rfl), Nat.le_of_ble_eq_true (by kernel_rfl)⟩
    split at hq
    · rename_i s0 h0
      have k0 := CodeR.evs hS h0
      split at hq
      · rename_i s1 h1
        have k1 := CodeR.evs hS h1
        split at hq
        · rename_i sf hsf
          split at hq
          · rename_i dads hds
            split at hq
            · rename_i ex s3 h3
              have k3 := CodeR.evs hS h3
              unfold restP at hq
              split at hq
              · split at hq
                · rename_i H4 nx4 hG
                  have kD : DeferR Tryz.prog 101 pkD s1 sf addN dads := by
                    rw [pkD_eq]
                    exact defer_region hS pkO_size hsf pkP_at pkP_op pkC_cal pkP_dst pkP_grd hds
                  exact fn_defer (S := S) hS (f := pickN) (fd := pkFd) addG_ok pkB_eq hfd hle k0 k1 kD k3 (.inr rfl) hG hq
                · cases hq
              · cases hq
            · cases hq
          · cases hq
        · cases hq
      · rename_i ex s1 hne h1
        have k1 := CodeR.evs hS h1
        unfold retP at hq
        split at hq
        · have hB : CodeR Tryz.prog 101 none pkB ⟨startS [x, y] 0 .leaf, H, nx⟩ .ret s1 := by
            rw [pkB_eq]
            exact k0.seq (k1.seq' (by simp))
          exact fn_run (S := S) hS (f := pickN) (fd := pkFd) (ads := [x, y]) hfd hle hB (.inr rfl) hq
        · cases hq
      · cases hq
    · cases hq
  · cases hq
noncomputable def bsLx : List (Nat × FnS) := (pickN, .eff (pickF Sr.toSys 3000)) :: bsLr
theorem bsLx_ok : AllBs Tryz.prog bsLx := ⟨⟨pickF_ok Sr_ok (by kernel_rfl) 3000, by kernel_rfl⟩, bsLr_ok⟩
noncomputable def Spk : SysP := { sysOf (mkTr ttL) (mkTr ezL) (mkTr fnL) (mkTr bsLx) with pb := S3.pb }
theorem Spk_ok : SysOk Spk.toSys Tryz.prog := sysOf_ok mixed ttL_ok (by kernel_rfl) ezL_ok (by kernel_rfl) fnL_ok (by kernel_rfl) bsLx_ok (by kernel_rfl)
end Go.Proofs.YtmhinddneefmbaaGreat.Pe
