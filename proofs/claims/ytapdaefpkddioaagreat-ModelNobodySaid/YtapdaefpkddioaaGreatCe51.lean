/- carracklaw14.ModelNobody answers true at every input, and leaves what it reads as it was. No condition. -/
import Derived.Test.YtapdaefpkddioaaGreatRows
import Derived.Test.YtapdaefpkddioaaGreatCe43
import Derived.Test.YtapdaefpkddioaaGreatCe50
import Derived.Test.YtapdaefpkddioaaGreatCe39
set_option linter.unusedSimpArgs false
set_option linter.unusedVariables false
set_option linter.unusedSectionVars false
namespace Go.Proofs.YtapdaefpkddioaaGreat
namespace Pe
open Go Go.ChangeShapes Go.WideShapes Go.ChangeAt Go.RowKit
set_option maxRecDepth 100000 in
theorem nobody_lifted (os : Os) (started : os.Started) (H : Type) (enc : TypeId × Value → H) :
  ReturnsInHanded {} Tryz.checked os 6 .any (Rows.modelNobodySpec.pre6 enc Tryz.prog Tryz.f6 Rows.modelNobodyRow.domain false) (Rows.modelNobodySpec.post enc Tryz.prog Tryz.f6 false true false false) := by
 refine returnsInHanded_of_change (C := Tryz.checked) own started (by kernel_rfl) Tryz.func6
  (ChangeSpec.witness6 (enc := enc) (C := Tryz.checked) false ⟨#[], #[.int .u64 0, .int .u64 0, .slice none 0 0], []⟩ 8 (by kernel_rfl) (by kernel_rfl) (by kernel_rfl) (by kernel_rfl)) ?_
 intro W base args ds gs before hval0 hW hcnd _
 have hval : ∀ (j : Nat) t v, Tryz.f6.params[j]? = some t → args[j]? = some v → Value.okWide Tryz.prog W .any base t v := hval0
 have hW' := hW
 obtain ⟨p, q, hA0, hV, rfl, hfz, hnd⟩ := hW
 have hA : DataW.TrodAll enc Tryz.prog W 0 (fun _ => true) true Tryz.f6.params.toList args.toList ds p := hA0
 rw [Tryz.params6] at hA hval
 obtain ⟨v0, vs0, d0, ds0, p0, q0, hargs, rfl, rfl, h0, r0⟩ := trodAll_cons hA
 obtain ⟨v1, vs1, d1, ds1, p1, q1, rfl, rfl, rfl, h1, r1⟩ := trodAll_cons r0
 obtain ⟨v2, vs2, d2, ds2, p2, q2, rfl, rfl, rfl, h2, r2⟩ := trodAll_cons r1
 obtain ⟨rfl, rfl, rfl⟩ := trodAll_nil r2
 obtain rfl : args = #[v0, v1, v2] := by cases args; simp_all
 obtain ⟨rfl, rfl⟩ := trodVars_none hV
 have k0 := h0
 have k1 := h1
 have k2 := h2
 have lt0 : ∀ x ∈ p0, x.block < W.heap.size := by obtain ⟨m, hm⟩ := k0; exact DataW.trod_lt m _ _ _ hm
 have lt1 : ∀ x ∈ p1, x.block < W.heap.size := by obtain ⟨m, hm⟩ := k1; exact DataW.trod_lt m _ _ _ hm
 have lt2 : ∀ x ∈ p2, x.block < W.heap.size := by obtain ⟨m, hm⟩ := k2; exact DataW.trod_lt m _ _ _ hm
 obtain ⟨x, rfl, rfl, rfl, wx⟩ := open_int Tryz.underlying26 (hval 0 26 v0 rfl rfl) h0
 obtain ⟨y, rfl, rfl, rfl, wy⟩ := open_int Tryz.underlying26 (hval 1 26 v1 rfl rfl) h1
 obtain ⟨rows, ⟨rd2, _⟩, _, hr⟩ := arg_sl 3 Tryz.underlying22 (by kernel_rfl) (hval 2 22 v2 rfl rfl) h2
 obtain ⟨l, rfl, hl⟩ := calls_of hr
 clear hA0 hval0
 refine (law_calls nobody_ok (nobody_run (fun _ _ => rfl) hl (wf_u64 wx) (wf_u64 wy)) (vals := #[.int .u64 x, .int .u64 y, v2]) rfl (fun j v a hv ha => ?_)).mono fun e W' ⟨he, bel⟩ => ?_
 ·match j with
  | 0 => simp at hv ha; subst hv ha; exact Rd.int _ _
  | 1 => simp at hv ha; subst hv ha; exact Rd.int _ _
  | 2 => simp at hv ha; subst hv ha; exact rd2
  | j + 3 => simp at hv
 subst he
 exact ⟨_, rfl, _, _, _, [], _, [], hW', trodAll_mk1 (shut_bool Tryz.underlying4 _), (trodAll_cons_mk (Below.trod laidOut (by kernel_rfl) (of_decide_eq_true (by kernel_rfl)) k0 bel lt0) (trodAll_cons_mk (Below.trod laidOut (by kernel_rfl) (of_decide_eq_true (by kernel_rfl)) k1 bel lt1) (trodAll_cons_mk (Below.trod laidOut (by kernel_rfl) (of_decide_eq_true (by kernel_rfl)) k2 bel lt2) trodAll_mk0))), rfl, bel.frame _, fun h => by cases h⟩
end Pe
theorem modelNobody_holds : Rows.ModelNobodySaid :=
 OpenClaim.holds_of_wide 6 Tryz.f6 rfl rfl rfl rfl rfl rfl rfl ⟨rfl, rfl, rfl, rfl, rfl⟩ rfl rfl rfl rfl rfl (by kernel_rfl) Tryz.func6 (by kernel_rfl)
  (of_decide_eq_true (by kernel_rfl)) (by unfold Func.isWrapper; first | (rw [if_pos (by decide +kernel)]; kernel_rfl) | (rw [if_neg (by decide +kernel)]; exact ⟨rfl, rfl⟩))
  (fun os started H enc _ => Pe.nobody_lifted os started H enc)
end Go.Proofs.YtapdaefpkddioaaGreat
