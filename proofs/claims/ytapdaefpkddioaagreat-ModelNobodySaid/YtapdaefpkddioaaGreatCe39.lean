/- A part of the proof of PpD: two pairs of rules, each in one. -/
import Derived.Test.YtapdaefpkddioaaGreatCb14
namespace Go.Proofs.YtapdaefpkddioaaGreat.Pe
open Go
theorem cZ {C : Ctx} {l : List Code} {Q : Ex → Env → Prop} {E : Env} : (∀ a b, cl C (.seq a b :: l) Q E = cl C (a :: b :: l) Q E) ∧ cl C (.skip :: l) Q E = cl C l Q E := ⟨fun a b => cl_seq a b, cl_skip⟩
theorem wZ : (∀ n : Int, 0 ≤ n → n < 18446744073709551616 → IntKind.u64.wrap n = n) ∧ ∀ n : Int, -9223372036854775808 ≤ n → n < 9223372036854775808 → IntKind.i64.wrap n = n := ⟨fun _ h1 h2 => wrap64 h1 h2, fun _ h1 h2 => wrapi64 h1 h2⟩
end Go.Proofs.YtapdaefpkddioaaGreat.Pe
