/- A part of the proof of PmD. -/
import Derived.Test.YtapdaefpkddioaaGreatProg
import Derived.Test.YtapdaefpkddioaaGreatCb12
set_option linter.unusedSimpArgs false
set_option linter.unusedVariables false
set_option linter.unusedSectionVars false
namespace Go.Proofs.YtapdaefpkddioaaGreat.Pe
open Go
def tt : Nat → TyI
  | 3 => ⟨1, [.int .i64 0], .int .i64⟩
  | 4 => ⟨1, [.bool false], .sc⟩
  | 5 => ⟨1, [.int .u8 0], .int .u8⟩
  | 9 => ⟨1, [.str ⟨#[]⟩], .str⟩
  | 22 => ⟨1, [.sl []], .sl 43 11 88 [.int .i64 0, .int .i64 0, .int .u64 0, .int .u64 0, .int .u64 0, .int .u64 0, .int .u64 0, .int .i64 0, .str ⟨#[]⟩, .int .u8 0, .bool false]⟩
  | 25 => ⟨1, [.nilp], .sc⟩
  | 26 => ⟨1, [.int .u64 0], .int .u64⟩
  | 27 => ⟨1, [.sl []], .sl 77 5 40 [.int .u64 0, .int .u64 0, .bool false, .int .i64 0, .int .u64 0]⟩
  | 28 => ⟨1, [.sl []], .sl 26 1 8 [.int .u64 0]⟩
  | 29 => ⟨8, [.sl [], .sl [], .sl [], .sl [], .sl [], .sl [], .sl [], .sl []], .ar 8 1⟩
  | 31 => ⟨10, [.int .u64 0, .sl [], .sl [], .sl [], .sl [], .sl [], .sl [], .sl [], .sl [], .sl []], .st [(0, 1), (1, 1), (2, 8)]⟩
  | 32 => ⟨1, [.sl []], .sl 136 2 32 [.int .u64 0, .sl []]⟩
  | 33 => ⟨1, [.sl []], .sl 82 2 24 [.str ⟨#[]⟩, .int .u64 0]⟩
  | 34 => ⟨8, [.bool false, .bool false, .bool false, .bool false, .bool false, .bool false, .bool false, .bool false], .ar 8 1⟩
  | 36 => ⟨21, [.int .u64 0, .int .u64 0, .sl [], .sl [], .sl [], .sl [], .sl [], .sl [], .sl [], .sl [], .sl [], .sl [], .sl [], .bool false, .bool false, .bool false, .bool false, .bool false, .bool false, .bool false, .bool false], .st [(0, 1), (1, 10), (11, 1), (12, 1), (13, 8)]⟩
  | 41 => ⟨8, [.int .i64 0, .int .u64 0, .int .u64 0, .int .u64 0, .int .u64 0, .int .u64 0, .int .i64 0, .str ⟨#[]⟩], .st [(0, 1), (1, 1), (2, 1), (3, 1), (4, 1), (5, 1), (6, 1), (7, 1)]⟩
  | 43 => ⟨11, [.int .i64 0, .int .i64 0, .int .u64 0, .int .u64 0, .int .u64 0, .int .u64 0, .int .u64 0, .int .i64 0, .str ⟨#[]⟩, .int .u8 0, .bool false], .st [(0, 1), (1, 8), (9, 1), (10, 1)]⟩
  | 44 => ⟨1, [.int .i64 0], .int .i64⟩
  | 46 => ⟨3, [.int .i64 0, .int .u64 0, .int .u64 0], .st [(0, 1), (1, 1), (2, 1)]⟩
  | 52 => ⟨1, [.sl []], .sl 55 6 64 [.int .u64 0, .int .u64 0, .bool false, .int .i64 0, .int .u64 0, .sl []]⟩
  | 55 => ⟨6, [.int .u64 0, .int .u64 0, .bool false, .int .i64 0, .int .u64 0, .sl []], .st [(0, 1), (1, 1), (2, 1), (3, 1), (4, 1), (5, 1)]⟩
  | 57 => ⟨1, [.sl []], .sl 81 2 24 [.str ⟨#[]⟩, .int .u64 0]⟩
  | 59 => ⟨1, [.sl []], .sl 3 1 8 [.int .i64 0]⟩
  | 68 => ⟨1, [.sl []], .sl 79 6 64 [.int .u64 0, .int .u64 0, .bool false, .int .i64 0, .int .u64 0, .sl []]⟩
  | 75 => ⟨3, [.int .u64 0, .bool false, .int .i64 0], .st [(0, 1), (1, 1), (2, 1)]⟩
  | 77 => ⟨5, [.int .u64 0, .int .u64 0, .bool false, .int .i64 0, .int .u64 0], .st [(0, 1), (1, 3), (4, 1)]⟩
  | 79 => ⟨6, [.int .u64 0, .int .u64 0, .bool false, .int .i64 0, .int .u64 0, .sl []], .st [(0, 5), (5, 1)]⟩
  | 81 => ⟨2, [.str ⟨#[]⟩, .int .u64 0], .st [(0, 1), (1, 1)]⟩
  | 82 => ⟨2, [.str ⟨#[]⟩, .int .u64 0], .st [(0, 1), (1, 1)]⟩
  | 84 => ⟨1, [.nilm], .mp none (.int .u64 0)⟩
  | 86 => ⟨12, [.int .u64 0, .int .u64 0, .sl [], .nilm, .bool false, .bool false, .bool false, .bool false, .bool false, .bool false, .bool false, .bool false], .st [(0, 1), (1, 1), (2, 1), (3, 1), (4, 8)]⟩
  | 88 => ⟨1, [.nilf], .sc⟩
  | 89 => ⟨15, [.nilf, .nilf, .nilf, .nilf, .nilf, .nilf, .nilf, .nilf, .nilf, .nilf, .nilf, .nilf, .nilf, .nilf, .nilf], .ar 15 1⟩
  | 95 => ⟨1, [.nilf], .sc⟩
  | 114 => ⟨2, [.int .u64 0, .int .u64 0], .ar 2 1⟩
  | 118 => ⟨1, [.nilf], .sc⟩
  | 136 => ⟨2, [.int .u64 0, .sl []], .st [(0, 1), (1, 1)]⟩
  | 146 => ⟨1, [.nilf], .sc⟩
  | 164 => ⟨1, [.sl []], .sl 5 1 1 [.int .u8 0]⟩
  | _ => dflt
theorem ty3 : TyOk Tryz.prog 3 ⟨1, [.int .i64 0], .int .i64⟩ := ⟨by kernel_rfl, rfl, rfl, by simp only [TkOk]; kernel_rfl⟩
theorem ty4 : TyOk Tryz.prog 4 ⟨1, [.bool false], .sc⟩ := ⟨by kernel_rfl, rfl, rfl, by simp only [TkOk]; kernel_rfl⟩
theorem ty5 : TyOk Tryz.prog 5 ⟨1, [.int .u8 0], .int .u8⟩ := ⟨by kernel_rfl, rfl, rfl, by simp only [TkOk]; kernel_rfl⟩
theorem ty9 : TyOk Tryz.prog 9 ⟨1, [.str ⟨#[]⟩], .str⟩ := ⟨by kernel_rfl, rfl, rfl, by simp only [TkOk]; kernel_rfl⟩
theorem ty22 : TyOk Tryz.prog 22 ⟨1, [.sl []], .sl 43 11 88 [.int .i64 0, .int .i64 0, .int .u64 0, .int .u64 0, .int .u64 0, .int .u64 0, .int .u64 0, .int .i64 0, .str ⟨#[]⟩, .int .u8 0, .bool false]⟩ := ⟨by kernel_rfl, rfl, rfl, ⟨by kernel_rfl, by kernel_rfl, rfl, rfl⟩⟩
theorem ty25 : TyOk Tryz.prog 25 ⟨1, [.nilp], .sc⟩ := ⟨by kernel_rfl, rfl, rfl, by simp only [TkOk]; kernel_rfl⟩
theorem ty26 : TyOk Tryz.prog 26 ⟨1, [.int .u64 0], .int .u64⟩ := ⟨by kernel_rfl, rfl, rfl, by simp only [TkOk]; kernel_rfl⟩
theorem ty27 : TyOk Tryz.prog 27 ⟨1, [.sl []], .sl 77 5 40 [.int .u64 0, .int .u64 0, .bool false, .int .i64 0, .int .u64 0]⟩ := ⟨by kernel_rfl, rfl, rfl, ⟨by kernel_rfl, by kernel_rfl, rfl, rfl⟩⟩
theorem ty28 : TyOk Tryz.prog 28 ⟨1, [.sl []], .sl 26 1 8 [.int .u64 0]⟩ := ⟨by kernel_rfl, rfl, rfl, ⟨by kernel_rfl, by kernel_rfl, rfl, rfl⟩⟩
theorem ty29 : TyOk Tryz.prog 29 ⟨8, [.sl [], .sl [], .sl [], .sl [], .sl [], .sl [], .sl [], .sl []], .ar 8 1⟩ := ⟨by kernel_rfl, rfl, rfl, by simp only [TkOk]; kernel_rfl⟩
theorem ty31 : TyOk Tryz.prog 31 ⟨10, [.int .u64 0, .sl [], .sl [], .sl [], .sl [], .sl [], .sl [], .sl [], .sl [], .sl []], .st [(0, 1), (1, 1), (2, 8)]⟩ := ⟨by kernel_rfl, rfl, rfl, by simp only [TkOk]; kernel_rfl⟩
theorem ty32 : TyOk Tryz.prog 32 ⟨1, [.sl []], .sl 136 2 32 [.int .u64 0, .sl []]⟩ := ⟨by kernel_rfl, rfl, rfl, ⟨by kernel_rfl, by kernel_rfl, rfl, rfl⟩⟩
theorem ty33 : TyOk Tryz.prog 33 ⟨1, [.sl []], .sl 82 2 24 [.str ⟨#[]⟩, .int .u64 0]⟩ := ⟨by kernel_rfl, rfl, rfl, ⟨by kernel_rfl, by kernel_rfl, rfl, rfl⟩⟩
theorem ty34 : TyOk Tryz.prog 34 ⟨8, [.bool false, .bool false, .bool false, .bool false, .bool false, .bool false, .bool false, .bool false], .ar 8 1⟩ := ⟨by kernel_rfl, rfl, rfl, by simp only [TkOk]; kernel_rfl⟩
theorem ty36 : TyOk Tryz.prog 36 ⟨21, [.int .u64 0, .int .u64 0, .sl [], .sl [], .sl [], .sl [], .sl [], .sl [], .sl [], .sl [], .sl [], .sl [], .sl [], .bool false, .bool false, .bool false, .bool false, .bool false, .bool false, .bool false, .bool false], .st [(0, 1), (1, 10), (11, 1), (12, 1), (13, 8)]⟩ := ⟨by kernel_rfl, rfl, rfl, by simp only [TkOk]; kernel_rfl⟩
theorem ty41 : TyOk Tryz.prog 41 ⟨8, [.int .i64 0, .int .u64 0, .int .u64 0, .int .u64 0, .int .u64 0, .int .u64 0, .int .i64 0, .str ⟨#[]⟩], .st [(0, 1), (1, 1), (2, 1), (3, 1), (4, 1), (5, 1), (6, 1), (7, 1)]⟩ := ⟨by kernel_rfl, rfl, rfl, by simp only [TkOk]; kernel_rfl⟩
theorem ty43 : TyOk Tryz.prog 43 ⟨11, [.int .i64 0, .int .i64 0, .int .u64 0, .int .u64 0, .int .u64 0, .int .u64 0, .int .u64 0, .int .i64 0, .str ⟨#[]⟩, .int .u8 0, .bool false], .st [(0, 1), (1, 8), (9, 1), (10, 1)]⟩ := ⟨by kernel_rfl, rfl, rfl, by simp only [TkOk]; kernel_rfl⟩
theorem ty44 : TyOk Tryz.prog 44 ⟨1, [.int .i64 0], .int .i64⟩ := ⟨by kernel_rfl, rfl, rfl, by simp only [TkOk]; kernel_rfl⟩
theorem ty46 : TyOk Tryz.prog 46 ⟨3, [.int .i64 0, .int .u64 0, .int .u64 0], .st [(0, 1), (1, 1), (2, 1)]⟩ := ⟨by kernel_rfl, rfl, rfl, by simp only [TkOk]; kernel_rfl⟩
theorem ty52 : TyOk Tryz.prog 52 ⟨1, [.sl []], .sl 55 6 64 [.int .u64 0, .int .u64 0, .bool false, .int .i64 0, .int .u64 0, .sl []]⟩ := ⟨by kernel_rfl, rfl, rfl, ⟨by kernel_rfl, by kernel_rfl, rfl, rfl⟩⟩
theorem ty55 : TyOk Tryz.prog 55 ⟨6, [.int .u64 0, .int .u64 0, .bool false, .int .i64 0, .int .u64 0, .sl []], .st [(0, 1), (1, 1), (2, 1), (3, 1), (4, 1), (5, 1)]⟩ := ⟨by kernel_rfl, rfl, rfl, by simp only [TkOk]; kernel_rfl⟩
theorem ty57 : TyOk Tryz.prog 57 ⟨1, [.sl []], .sl 81 2 24 [.str ⟨#[]⟩, .int .u64 0]⟩ := ⟨by kernel_rfl, rfl, rfl, ⟨by kernel_rfl, by kernel_rfl, rfl, rfl⟩⟩
theorem ty59 : TyOk Tryz.prog 59 ⟨1, [.sl []], .sl 3 1 8 [.int .i64 0]⟩ := ⟨by kernel_rfl, rfl, rfl, ⟨by kernel_rfl, by kernel_rfl, rfl, rfl⟩⟩
theorem ty68 : TyOk Tryz.prog 68 ⟨1, [.sl []], .sl 79 6 64 [.int .u64 0, .int .u64 0, .bool false, .int .i64 0, .int .u64 0, .sl []]⟩ := ⟨by kernel_rfl, rfl, rfl, ⟨by kernel_rfl, by kernel_rfl, rfl, rfl⟩⟩
theorem ty75 : TyOk Tryz.prog 75 ⟨3, [.int .u64 0, .bool false, .int .i64 0], .st [(0, 1), (1, 1), (2, 1)]⟩ := ⟨by kernel_rfl, rfl, rfl, by simp only [TkOk]; kernel_rfl⟩
theorem ty77 : TyOk Tryz.prog 77 ⟨5, [.int .u64 0, .int .u64 0, .bool false, .int .i64 0, .int .u64 0], .st [(0, 1), (1, 3), (4, 1)]⟩ := ⟨by kernel_rfl, rfl, rfl, by simp only [TkOk]; kernel_rfl⟩
theorem ty79 : TyOk Tryz.prog 79 ⟨6, [.int .u64 0, .int .u64 0, .bool false, .int .i64 0, .int .u64 0, .sl []], .st [(0, 5), (5, 1)]⟩ := ⟨by kernel_rfl, rfl, rfl, by simp only [TkOk]; kernel_rfl⟩
theorem ty81 : TyOk Tryz.prog 81 ⟨2, [.str ⟨#[]⟩, .int .u64 0], .st [(0, 1), (1, 1)]⟩ := ⟨by kernel_rfl, rfl, rfl, by simp only [TkOk]; kernel_rfl⟩
theorem ty82 : TyOk Tryz.prog 82 ⟨2, [.str ⟨#[]⟩, .int .u64 0], .st [(0, 1), (1, 1)]⟩ := ⟨by kernel_rfl, rfl, rfl, by simp only [TkOk]; kernel_rfl⟩
theorem ty84 : TyOk Tryz.prog 84 ⟨1, [.nilm], .mp none (.int .u64 0)⟩ := ⟨by kernel_rfl, rfl, rfl, ⟨by kernel_rfl, rfl⟩⟩
theorem ty86 : TyOk Tryz.prog 86 ⟨12, [.int .u64 0, .int .u64 0, .sl [], .nilm, .bool false, .bool false, .bool false, .bool false, .bool false, .bool false, .bool false, .bool false], .st [(0, 1), (1, 1), (2, 1), (3, 1), (4, 8)]⟩ := ⟨by kernel_rfl, rfl, rfl, by simp only [TkOk]; kernel_rfl⟩
theorem ty88 : TyOk Tryz.prog 88 ⟨1, [.nilf], .sc⟩ := ⟨by kernel_rfl, rfl, rfl, by simp only [TkOk]; kernel_rfl⟩
theorem ty89 : TyOk Tryz.prog 89 ⟨15, [.nilf, .nilf, .nilf, .nilf, .nilf, .nilf, .nilf, .nilf, .nilf, .nilf, .nilf, .nilf, .nilf, .nilf, .nilf], .ar 15 1⟩ := ⟨by kernel_rfl, rfl, rfl, by simp only [TkOk]; kernel_rfl⟩
theorem ty95 : TyOk Tryz.prog 95 ⟨1, [.nilf], .sc⟩ := ⟨by kernel_rfl, rfl, rfl, by simp only [TkOk]; kernel_rfl⟩
theorem ty114 : TyOk Tryz.prog 114 ⟨2, [.int .u64 0, .int .u64 0], .ar 2 1⟩ := ⟨by kernel_rfl, rfl, rfl, by simp only [TkOk]; kernel_rfl⟩
theorem ty118 : TyOk Tryz.prog 118 ⟨1, [.nilf], .sc⟩ := ⟨by kernel_rfl, rfl, rfl, by simp only [TkOk]; kernel_rfl⟩
theorem ty136 : TyOk Tryz.prog 136 ⟨2, [.int .u64 0, .sl []], .st [(0, 1), (1, 1)]⟩ := ⟨by kernel_rfl, rfl, rfl, by simp only [TkOk]; kernel_rfl⟩
theorem ty146 : TyOk Tryz.prog 146 ⟨1, [.nilf], .sc⟩ := ⟨by kernel_rfl, rfl, rfl, by simp only [TkOk]; kernel_rfl⟩
theorem ty164 : TyOk Tryz.prog 164 ⟨1, [.sl []], .sl 5 1 1 [.int .u8 0]⟩ := ⟨by kernel_rfl, rfl, rfl, ⟨by kernel_rfl, by kernel_rfl, rfl, rfl⟩⟩
theorem tt_ok : ∀ t, tt t = dflt ∨ TyOk Tryz.prog t (tt t) := by
  intro t
  unfold tt
  split
  · exact .inr ty3
  · exact .inr ty4
  · exact .inr ty5
  · exact .inr ty9
  · exact .inr ty22
  · exact .inr ty25
  · exact .inr ty26
  · exact .inr ty27
  · exact .inr ty28
  · exact .inr ty29
  · exact .inr ty31
  · exact .inr ty32
  · exact .inr ty33
  · exact .inr ty34
  · exact .inr ty36
  · exact .inr ty41
  · exact .inr ty43
  · exact .inr ty44
  · exact .inr ty46
  · exact .inr ty52
  · exact .inr ty55
  · exact .inr ty57
  · exact .inr ty59
  · exact .inr ty68
  · exact .inr ty75
  · exact .inr ty77
  · exact .inr ty79
  · exact .inr ty81
  · exact .inr ty82
  · exact .inr ty84
  · exact .inr ty86
  · exact .inr ty88
  · exact .inr ty89
  · exact .inr ty95
  · exact .inr ty114
  · exact .inr ty118
  · exact .inr ty136
  · exact .inr ty146
  · exact .inr ty164
  · exact .inl rfl
theorem mixed : Tryz.prog.follows .mixedOrders = true := by kernel_rfl
def keep3 : Nat → List Nat := fun2 [(0, [0]), (1, [3, 0]), (2, [10, 0, 3]), (3, [2]), (4, [6, 3, 4, 5]), (5, [2])]
def keep4 : Nat → List Nat := fun2 [(0, [0, 3]), (1, [5, 0, 3]), (2, [20, 0, 3, 5]), (3, [4]), (4, [8, 3, 5, 6, 7]), (5, [5, 6, 7, 8, 9]), (6, [37, 5, 6, 7, 8, 9]), (7, [4]), (8, [4])]
def keep5 : Nat → List Nat := fun2 [(0, [0, 1]), (1, [5, 0, 1]), (2, [16, 0, 1, 5]), (3, [4]), (4, [8, 1, 5, 6, 7]), (5, [1, 5, 6, 7, 8]), (6, [1, 5, 6, 8, 9]), (7, [10, 1, 5, 6, 8, 9]), (8, [11, 1, 5, 6, 8, 9, 10]), (9, [35, 1, 5, 6, 8, 9, 10, 11]), (10, [11, 1, 5, 6, 8, 9, 10]), (11, [56, 1, 5, 6, 8, 9, 10, 11]), (12, [4]), (13, [60, 1, 5, 6, 8]), (14, [4]), (15, [1, 5, 8, 12]), (16, [4])]
def keep6 : Nat → List Nat := fun2 [(0, [0, 1, 2]), (1, [7, 0, 1, 2]), (2, [20, 0, 1, 2, 7]), (3, [6]), (4, [8, 0, 1, 2, 7]), (5, [0, 1, 2, 7, 8]), (6, [0, 1, 2, 7, 8, 9]), (7, [12, 0, 1, 7, 8, 9, 10, 11]), (8, [13, 0, 1, 7, 8, 9, 10, 11, 12]), (9, [14, 0, 1, 7, 8, 9, 10, 11, 12, 13]), (10, [38, 0, 1, 7, 8, 9, 10, 11, 12, 13, 14]), (11, [14, 0, 1, 7, 8, 9, 10, 11, 12, 13]), (12, [15, 0, 1, 7, 8, 9, 10, 11, 12, 13, 14]), (13, [48, 0, 1, 7, 8, 9, 10, 11, 12, 13, 14, 15]), (14, [15, 0, 1, 7, 8, 9, 10, 11, 12, 13, 14]), (15, [0, 1, 7, 8, 9, 10, 11, 12, 13, 14, 15]), (16, [16, 0, 1, 7, 8, 9, 10, 11, 12]), (17, [6])]
def keep7 : Nat → List Nat := fun2 [(0, []), (1, [1]), (2, [1, 2]), (3, [1, 2, 3]), (4, [1, 2, 3, 4]), (5, [5, 2, 3, 4]), (6, [0])]
def keep8 : Nat → List Nat := fun2 [(0, [0]), (1, [3, 0]), (2, [11, 0, 3]), (3, [3, 0]), (4, [21, 0, 3]), (5, [2]), (6, [2])]
def keep9 : Nat → List Nat := fun2 [(0, [0, 3]), (1, [5, 0, 3]), (2, [0, 3, 5, 6]), (3, [7, 0, 3, 5, 6]), (4, [8, 0, 3, 5, 6, 7]), (5, [20, 0, 3, 5, 6, 7, 8]), (6, [8, 0, 3, 5, 6, 7]), (7, [0, 3, 5, 6, 7, 8, 9]), (8, [0, 3, 5, 6, 7, 8, 9, 10, 11]), (9, [0, 3, 5, 6, 7, 8, 9, 11]), (10, [7, 0, 3, 5, 6, 8]), (11, [12, 0, 3, 5, 6, 7]), (12, [44, 0, 3, 5, 6, 7, 12]), (13, [12, 0, 3, 5, 6, 7]), (14, [51, 0, 3, 5, 6, 7, 12]), (15, [0, 3, 5, 6, 7, 12]), (16, [0, 3, 5, 6, 7, 12]), (17, [0, 3, 5, 6, 7, 12, 13]), (18, [0, 3, 5, 6, 7, 12, 13, 14]), (19, [0, 3, 5, 6, 7, 12, 14, 15, 16]), (20, [0, 3, 5, 6, 7, 12, 14, 16]), (21, [7, 0, 3, 5, 6, 12]), (22, [4, 2, 3])]
def keep10 : Nat → List Nat := fun2 [(0, [0, 3]), (1, [5, 0, 3]), (2, [6, 0, 3, 5]), (3, [7, 0, 3, 5, 6]), (4, [8, 0, 3, 5, 6, 7]), (5, [46, 5, 6, 7, 8]), (6, [4]), (7, [9, 5, 6, 7, 8]), (8, [50, 5, 6, 7, 8, 9]), (9, [9, 5, 6, 7, 8]), (10, [62, 5, 6, 7, 8, 9]), (11, [4]), (12, [10, 7, 8]), (13, [66, 7, 8, 10]), (14, [10, 7, 8]), (15, [92, 7, 8, 10]), (16, [4]), (17, [4])]
def keep11 : Nat → List Nat := fun2 [(0, [6, 0, 1, 5]), (1, [8, 0, 1, 5, 6]), (2, [6]), (3, [30, 0, 1, 5, 6]), (4, [6]), (5, [0, 1, 5, 6, 7]), (6, [6])]
def keep12 : Nat → List Nat := fun2 [(0, [4, 2, 3]), (1, [2, 3, 4, 5]), (2, [10, 2, 3, 4, 5]), (3, [4, 5]), (4, [4])]
def keep13 : Nat → List Nat := fun2 [(0, [15, 0, 1]), (1, [0, 1]), (2, [26, 0, 1, 24, 25]), (3, [27, 0, 1, 24, 25, 26]), (4, [0, 1, 4, 5, 24, 25, 26]), (5, [39, 0, 1, 4, 5, 24, 25, 26]), (6, [0, 1, 24, 25, 26]), (7, [26, 0, 1, 24, 25]), (8, [])]
def keep14 : Nat → List Nat := fun2 [(0, [4, 1, 2]), (1, [12, 1, 2, 4]), (2, [4]), (3, [5, 1, 2, 4]), (4, [6, 1, 2, 4, 5]), (5, [22, 1, 2, 4, 5, 6]), (6, [6, 1, 2, 4, 5]), (7, [1, 2, 4, 5, 6]), (8, [2, 4]), (9, [4])]
def keep15 : Nat → List Nat := fun2 [(0, [0]), (1, [7, 0]), (2, [2]), (3, [3, 0]), (4, [13, 3, 11, 12]), (5, [14, 3, 11, 12, 13]), (6, [3, 5, 11, 12, 13]), (7, [3, 5, 11, 12, 13]), (8, [3, 11, 12, 13]), (9, [13, 3, 11, 12]), (10, [2])]
def keep16 : Nat → List Nat := fun2 [(0, [0]), (1, [7, 0]), (2, [2]), (3, [3, 0]), (4, [12, 3]), (5, [14, 3, 12]), (6, [5, 3, 4, 12]), (7, [3, 12]), (8, [3]), (9, [2])]
def keep17 : Nat → List Nat := fun2 [(0, [0]), (1, [7, 0]), (2, [2]), (3, [3, 0]), (4, [12, 3, 11]), (5, [13, 3, 11, 12]), (6, [5, 3, 4, 11, 12]), (7, [16, 3, 4, 11, 12]), (8, [3, 11, 12]), (9, [12, 3, 11]), (10, [2])]
def keep18 : Nat → List Nat := fun2 [(0, [0]), (1, [4, 0]), (2, [2]), (3, [2])]
def keep19 : Nat → List Nat := fun2 [(0, [0, 1]), (1, [25, 0, 1]), (2, [4]), (3, [4])]
def keep20 : Nat → List Nat := fun2 [(0, [0, 1]), (1, [4])]
def keep21 : Nat → List Nat := fun2 [(0, [4, 0, 1]), (1, [4])]
def keep22 : Nat → List Nat := fun2 [(0, [7, 1, 3, 5, 6]), (1, [27, 1, 3, 5, 6, 7]), (2, [6, 7]), (3, [41, 1, 3, 5, 6, 7]), (4, [6, 7]), (5, [47, 1, 3, 5, 6, 7]), (6, [48, 1, 3, 5, 6, 7, 47]), (7, [53, 1, 3, 6, 7]), (8, [6, 7]), (9, [3, 6, 7]), (10, [6, 7]), (11, [63, 1, 3, 5, 6, 7, 47]), (12, [71, 1, 3, 6, 7]), (13, [6, 7]), (14, [3, 6, 7]), (15, [6, 7]), (16, [81, 1, 3, 5, 6, 7, 47]), (17, [6, 7]), (18, [91, 1, 3, 5, 6, 7, 47]), (19, [6, 7]), (20, [103, 1, 3, 5, 6, 7, 47]), (21, [9, 1, 3, 6, 7, 8]), (22, [114, 1, 3, 6, 7, 8]), (23, [6, 7]), (24, [6, 7]), (25, [126, 1, 3, 5, 6, 7, 47]), (26, [126, 1, 3, 5, 6, 7, 47]), (27, [126, 1, 3, 5, 6, 7, 47]), (28, [6, 7]), (29, [135, 1, 3, 5, 6, 7]), (30, [11, 3, 6, 7, 10]), (31, [3, 6, 7, 11]), (32, [6, 7]), (33, [6, 7])]
def keep23 : Nat → List Nat := fun2 [(0, [1]), (1, [3, 1]), (2, [4, 1, 3]), (3, [11, 1, 3, 4]), (4, [4, 1, 3]), (5, [1, 3, 4, 5]), (6, [24, 1, 3, 4, 5]), (7, [1, 3, 4, 5]), (8, [3, 1, 4]), (9, [2])]
def keep24 : Nat → List Nat := fun2 [(0, [1]), (1, [3, 1]), (2, [4, 1, 3]), (3, [12, 1, 3, 4]), (4, [4, 1, 3]), (5, [5, 1, 3, 4]), (6, [6, 1, 3, 4, 5]), (7, [21, 1, 3, 4, 5, 6]), (8, [6, 1, 3, 4, 5]), (9, [35, 1, 3, 4, 5, 6]), (10, [5, 1, 3, 4, 6]), (11, [7, 1, 3, 4, 5]), (12, [7, 1, 3, 4, 5]), (13, [7, 1, 4]), (14, [3, 1, 4]), (15, [2])]
def keep25 : Nat → List Nat := fun2 [(0, [0, 1]), (1, [10, 0, 1]), (2, [4]), (3, [5, 0, 1]), (4, [14, 0, 1, 5]), (5, [5, 0, 1]), (6, [25, 0, 1, 5]), (7, [4]), (8, [4])]
def keep26 : Nat → List Nat := fun2 [(0, [1]), (1, [3, 1]), (2, [4, 1, 3]), (3, [6, 1, 3, 4]), (4, [4, 1, 3]), (5, [12, 1, 3, 4]), (6, [3, 1, 4]), (7, [2])]
def keep27 : Nat → List Nat := fun2 [(0, [2, 3]), (1, [4])]
def keep28 : Nat → List Nat := fun2 [(0, [2, 0]), (1, [2])]
def keep29 : Nat → List Nat := fun2 [(0, [6, 0, 1, 5]), (1, [6])]
def keep30 : Nat → List Nat := fun2 [(0, [6, 0, 1, 5]), (1, [6])]
def keep31 : Nat → List Nat := fun2 [(0, [6, 0, 1, 5]), (1, [8, 0, 1, 6, 7]), (2, [18, 0, 1, 6, 7]), (3, [6]), (4, [6])]
def keep32 : Nat → List Nat := fun2 [(0, [6, 0, 1, 5]), (1, [8, 0, 5, 6, 7]), (2, [22, 0, 5, 6, 7, 8]), (3, [6]), (4, [10, 0, 5, 6, 7, 9]), (5, [32, 0, 5, 6, 7, 9]), (6, [6]), (7, [0, 5, 6, 7, 9, 11]), (8, [44, 0, 5, 6, 7, 9, 11]), (9, [12, 0, 5, 6, 7, 9, 11]), (10, [0, 5, 6, 7, 9, 12]), (11, [0, 5, 6, 7, 9]), (12, [5, 6]), (13, [6]), (14, [0, 5, 6, 11, 13]), (15, [85, 0, 5, 6, 11, 13]), (16, [6]), (17, [0, 5, 6, 13]), (18, [6, 13]), (19, [6])]
def keep33 : Nat → List Nat := fun2 [(0, [6, 0, 1, 5]), (1, [8, 0, 5, 6, 7]), (2, [16, 0, 5, 6, 7, 8]), (3, [6]), (4, [21, 0, 6, 7]), (5, [6]), (6, [6]), (7, [6])]
def keep34 : Nat → List Nat := fun2 [(0, [6, 0, 1, 5]), (1, [8, 0, 5, 6, 7]), (2, [16, 0, 5, 6, 7, 8]), (3, [6]), (4, [21, 0, 5, 6, 7]), (5, [6]), (6, [6]), (7, [6])]
def keep35 : Nat → List Nat := fun2 [(0, [6, 0, 1, 5]), (1, [8, 0, 5, 6, 7]), (2, [16, 0, 5, 6, 7, 8]), (3, [6]), (4, [21, 0, 5, 6, 7]), (5, [6]), (6, [6])]
def keep36 : Nat → List Nat := fun2 [(0, [6, 0, 5]), (1, [8, 0, 5, 6]), (2, [19, 0, 5, 6]), (3, [6]), (4, [10, 0, 5, 6]), (5, [31, 0, 5, 6]), (6, [6]), (7, [38, 0, 5, 6]), (8, [6]), (9, [0, 5, 6, 11]), (10, [46, 0, 5, 6, 11]), (11, [6, 11]), (12, [6])]
def keep37 : Nat → List Nat := fun2 [(0, [6, 0, 5]), (1, [8, 0, 5, 6]), (2, [18, 0, 5, 6]), (3, [6]), (4, [10, 6, 9]), (5, [31, 6, 9]), (6, [6]), (7, [6])]
def keep38 : Nat → List Nat := fun2 [(0, [6, 0, 1, 5]), (1, [0, 5, 6, 7]), (2, [14, 0, 5, 6, 7]), (3, [6]), (4, [0, 6, 7]), (5, [6]), (6, [6])]
def keep39 : Nat → List Nat := fun2 [(0, [6, 0, 1, 5]), (1, [8, 0, 6, 7]), (2, [17, 0, 6, 7, 8]), (3, [6]), (4, [6]), (5, [6])]
def keep40 : Nat → List Nat := fun2 [(0, [6, 0, 1, 5]), (1, [8, 0, 5, 6, 7]), (2, [16, 0, 5, 6, 7, 8]), (3, [6]), (4, [21, 0, 5, 6, 7]), (5, [6]), (6, [31, 0, 5, 6, 7]), (7, [6]), (8, [6]), (9, [6])]
def keep41 : Nat → List Nat := fun2 [(0, [6, 0, 5]), (1, [8, 0, 5, 6, 7]), (2, [19, 0, 5, 6, 7, 8]), (3, [6]), (4, [30, 0, 5, 6, 7]), (5, [6]), (6, [0, 6, 7]), (7, [0, 6]), (8, [6]), (9, [6])]
def keep42 : Nat → List Nat := fun2 [(0, [6, 0, 4]), (1, [12, 0, 4, 6]), (2, [6]), (3, [6]), (4, [6])]
def keep43 : Nat → List Nat := fun2 [(0, [6, 0, 1]), (1, [12, 0, 1, 6]), (2, [6]), (3, [6]), (4, [6])]
def keep44 : Nat → List Nat := fun2 [(0, [1, 2]), (1, [5, 1, 2]), (2, [6, 1, 2, 5]), (3, [11, 1, 2, 5, 6]), (4, [6, 1, 2, 5]), (5, [20, 1, 2, 5, 6]), (6, [5, 1, 2, 6]), (7, [33, 1, 5]), (8, [4]), (9, [4])]
def keep45 : Nat → List Nat := fun2 [(0, [2, 0]), (1, [11, 0, 2, 9, 10]), (2, [12, 0, 2, 9, 10, 11]), (3, [0, 2, 4, 9, 10, 11]), (4, [5, 0, 2, 4, 9, 10, 11]), (5, [32, 0, 2, 4, 5, 9, 10, 11]), (6, [0, 2, 9, 10, 11]), (7, [2, 0, 9, 10, 11]), (8, [11, 0, 2, 9, 10]), (9, [])]
def keep46 : Nat → List Nat := fun2 [(0, [4, 1, 2]), (1, [1, 2, 4, 5]), (2, [1, 2, 4]), (3, [2, 4]), (4, [4])]
def keep49 : Nat → List Nat := fun2 [(0, [2, 3]), (1, [4])]
def keep50 : Nat → List Nat := fun2 [(0, [0, 1]), (1, [5, 0, 1]), (2, [6, 0, 1, 5]), (3, [11, 0, 1, 6]), (4, [12]), (5, [4]), (6, [4]), (7, [13, 0, 1]), (8, [4]), (9, [16, 0, 1]), (10, [4]), (11, [19]), (12, [4]), (13, [4])]
def keep51 : Nat → List Nat := fun2 [(0, [0, 1]), (1, [4])]
def keep52 : Nat → List Nat := fun2 [(0, [2, 0]), (1, [0, 2, 3]), (2, [0, 2, 3]), (3, [2])]
def keep53 : Nat → List Nat := fun2 [(0, [5, 1, 2, 4]), (1, [4, 5])]
def keep54 : Nat → List Nat := fun2 [(0, [9, 1, 2, 3, 4, 8]), (1, [12, 2, 4, 8, 9, 10, 11]), (2, [24, 2, 4, 8, 9, 10, 11, 12]), (3, [8, 9]), (4, [2, 4, 8, 9, 11]), (5, [4, 8, 9, 11]), (6, [8, 9])]
def keep55 : Nat → List Nat := fun2 [(0, [0, 1]), (1, [13, 0, 1]), (2, [5, 4]), (3, [5, 4])]
def keep56 : Nat → List Nat := fun2 [(0, [5, 2, 3, 4]), (1, [7, 2, 3, 4, 5]), (2, [21, 2, 3, 4, 5]), (3, [4, 5]), (4, [8, 2, 3, 4, 5]), (5, [32, 2, 3, 4, 5, 8]), (6, [34, 2, 3, 4, 5, 8]), (7, [4, 5]), (8, [9, 2, 3, 4, 5, 8]), (9, [47, 2, 4, 5, 8, 9]), (10, [4, 5]), (11, [10, 2, 4, 5, 8, 9]), (12, [10, 2, 4, 5, 9]), (13, [2, 4, 5, 9]), (14, [4, 5]), (15, [71, 2, 3, 4, 5]), (16, [4, 5]), (17, [79, 2, 3, 4, 5]), (18, [4, 5]), (19, [3, 4, 5, 11, 12]), (20, [93, 3, 4, 5, 11, 12]), (21, [13, 3, 4, 5, 11, 12]), (22, [13, 4, 5, 11, 12]), (23, [4, 5, 11, 12]), (24, [4, 5])]
def keep57 : Nat → List Nat := fun2 [(0, [1, 2, 3, 6]), (1, [18, 1, 2, 3, 6]), (2, [7, 6]), (3, [9, 1, 2, 3, 6, 8]), (4, [33, 1, 3, 6, 8]), (5, [7, 6]), (6, [1, 3, 6, 8, 10]), (7, [3, 6, 8, 10]), (8, [11, 3, 6, 8, 10]), (9, [11, 3, 6, 8]), (10, [3, 6, 11]), (11, [3, 6]), (12, [7, 6])]
def keep58 : Nat → List Nat := fun2 [(0, [7, 1, 3, 5, 6]), (1, [9, 3, 5, 6, 7, 8]), (2, [23, 3, 5, 6, 7, 8, 9]), (3, [6, 7]), (4, [10, 3, 5, 6, 7, 8]), (5, [34, 3, 5, 6, 7, 8, 10]), (6, [35, 3, 5, 6, 7, 8, 10, 34]), (7, [13, 3, 5, 6, 7, 10, 11, 12]), (8, [49, 3, 5, 6, 7, 10, 11, 12, 13]), (9, [6, 7]), (10, [3, 5, 6, 7, 10, 12]), (11, [3, 6, 7, 12]), (12, [6, 7]), (13, [73, 3, 5, 6, 7, 8, 10, 34]), (14, [79, 3, 5, 6, 7]), (15, [6, 7]), (16, [6, 7]), (17, [89, 3, 5, 6, 7, 8, 10, 34]), (18, [6, 7]), (19, [95, 3, 5, 6, 7, 8, 10]), (20, [104, 3, 5, 6, 7, 8]), (21, [6, 7]), (22, [114, 3, 5, 6, 7, 8]), (23, [6, 7]), (24, [6, 7]), (25, [131, 3, 5, 6, 7, 10]), (26, [6, 7]), (27, [138, 3, 5, 6, 7, 10]), (28, [6, 7]), (29, [14, 3, 5, 6, 7]), (30, [3, 5, 6, 7, 14]), (31, [3, 6, 7]), (32, [6, 7])]
def keep59 : Nat → List Nat := fun2 [(0, [1, 2]), (1, [5, 1, 2]), (2, [10, 1, 2, 5]), (3, [5, 1, 2]), (4, [20, 1, 2, 5]), (5, [4]), (6, [4])]
def keep60 : Nat → List Nat := fun2 [(0, [0, 1]), (1, [10, 0, 1]), (2, [4]), (3, [5, 0, 1]), (4, [14, 0, 1, 5]), (5, [5, 0, 1]), (6, [25, 0, 1, 5]), (7, [4]), (8, [4])]
def keep61 : Nat → List Nat := fun2 [(0, [8, 0, 1, 2, 3]), (1, [10, 0, 1, 2, 3, 8]), (2, [36, 0, 1, 2, 3, 8]), (3, [8]), (4, [12, 0, 1, 2, 3, 8, 11]), (5, [44, 0, 1, 2, 3, 8, 11]), (6, [8]), (7, [13, 0, 1, 2, 3, 8, 11]), (8, [51, 0, 1, 2, 3, 8, 11, 13, 49, 50]), (9, [52, 0, 1, 2, 3, 8, 11, 13, 49, 50, 51]), (10, [0, 1, 2, 3, 8, 11, 13, 14, 15, 49, 50, 51]), (11, [16, 0, 1, 2, 3, 8, 11, 13, 14, 15, 49, 50, 51]), (12, [93, 0, 1, 2, 3, 8, 11, 13, 14, 49, 50, 51]), (13, [13, 0, 1, 2, 3, 8, 11, 49, 50, 51]), (14, [51, 0, 1, 2, 3, 8, 11, 13, 49, 50]), (15, [97, 0, 1, 2, 3, 8, 11, 13]), (16, [8]), (17, [0, 1, 2, 3, 8, 11, 13, 17]), (18, [18, 0, 1, 2, 8, 11, 13, 17]), (19, [19, 0, 1, 2, 8, 11, 13, 17, 18]), (20, [111, 0, 1, 2, 8, 11, 13, 17, 18, 19]), (21, [19, 0, 1, 2, 8, 11, 13, 17, 18]), (22, [0, 8, 11, 13, 19, 20]), (23, [21, 0, 8, 11, 13, 19, 20]), (24, [138, 0, 8, 11, 13, 19, 20, 21]), (25, [0, 8, 11, 13, 19, 20, 21]), (26, [19, 0, 8, 13, 20]), (27, [19, 0, 8, 13, 20]), (28, [8, 20]), (29, [8])]
def keep62 : Nat → List Nat := fun2 [(0, [0, 1]), (1, [7, 6]), (2, [15, 7]), (3, [5, 4]), (4, [5, 4])]
def keep63 : Nat → List Nat := fun2 [(0, [0, 1, 3, 6]), (1, [10, 0, 1, 3]), (2, [15, 0, 1, 3, 10]), (3, [9, 8]), (4, [19, 10]), (5, [9, 8]), (6, [9, 8])]
def keep64 : Nat → List Nat := fun2 [(0, [0]), (1, [5, 4]), (2, [13, 4]), (3, [3, 2]), (4, [3, 2])]
def keep65 : Nat → List Nat := fun2 [(0, [0]), (1, [2])]
def keep66 : Nat → List Nat := fun2 [(0, [0, 1, 2, 6]), (1, [7, 0, 1, 2, 6]), (2, [20, 0, 1, 2, 6, 7]), (3, [0, 1, 2, 6, 7]), (4, [0]), (5, [])]
def keep67 : Nat → List Nat := fun2 [(0, [0, 3]), (1, [4])]
def keep68 : Nat → List Nat := fun2 [(0, [0]), (1, [])]
def keep69 : Nat → List Nat := fun2 [(0, [0, 1]), (1, [4])]
def keep71 : Nat → List Nat := fun2 [(0, [0, 1]), (1, [7, 6]), (2, [15, 6]), (3, [5, 4]), (4, [5, 4])]
def keep72 : Nat → List Nat := fun2 [(0, [0, 1]), (1, [4])]
def keep73 : Nat → List Nat := fun2 [(0, [1, 2]), (1, [3])]
def keep74 : Nat → List Nat := fun2 [(0, [1, 2, 4]), (1, [6, 2, 4]), (2, [14, 2, 4, 6]), (3, [5, 4]), (4, [7, 2, 4, 6]), (5, [8, 2, 4, 6, 7]), (6, [27, 2, 4, 6, 7, 8]), (7, [2, 4, 6, 7]), (8, [2, 4, 6, 7, 9]), (9, [2, 4, 6, 7, 9]), (10, [2, 4, 7]), (11, [2, 4]), (12, [5, 4])]
def keep75 : Nat → List Nat := fun2 [(0, [0, 1]), (1, [5, 0, 1]), (2, [6, 0, 1, 5]), (3, [10, 0, 1, 5, 6]), (4, [6, 0, 1, 5]), (5, [19, 0, 1, 5, 6]), (6, [5, 0, 1, 6]), (7, [4])]
def keep78 : Nat → List Nat := fun2 [(0, [0]), (1, [2])]
def keep79 : Nat → List Nat := fun2 [(0, [1, 2, 3, 4, 8]), (1, [24, 1, 2, 3, 4, 8]), (2, [10, 8, 9]), (3, [14, 1, 2, 4, 8, 11, 12, 13]), (4, [36, 1, 2, 4, 8, 11, 12, 13, 14]), (5, [10, 8, 9]), (6, [1, 2, 4, 8, 11, 12, 13, 15]), (7, [16, 1, 2, 4, 8, 11, 12, 13, 15]), (8, [51, 1, 2, 4, 8, 11, 12, 13, 15, 16]), (9, [16, 1, 2, 4, 8, 11, 12, 13, 15]), (10, [17, 1, 2, 4, 8, 11, 12, 13, 15, 16]), (11, [1, 4, 8, 11, 13, 16, 17, 18]), (12, [1, 4, 8, 11, 13, 16, 17, 18]), (13, [1, 4, 8, 11, 13, 16, 17, 18]), (14, [1, 4, 8, 11, 13, 16, 17, 18]), (15, [81, 1, 4, 8, 11, 13, 16, 17, 18]), (16, [1, 4, 8, 11, 13, 16, 17, 18]), (17, [16, 1, 4, 8, 11, 13, 17, 18]), (18, [92, 1, 4, 8, 11, 13, 16, 17, 18]), (19, [16, 1, 4, 8, 11, 18]), (20, [16, 1, 4, 8, 18]), (21, [1, 4, 8, 18]), (22, [112, 1, 4, 8, 18]), (23, [4, 8, 18]), (24, [10, 8, 9])]
def keep80 : Nat → List Nat := fun2 [(0, [0, 1, 2]), (1, [7, 1, 2]), (2, [7]), (3, [6])]
def keep81 : Nat → List Nat := fun2 [(0, [0, 1]), (1, [5, 0, 1]), (2, [6, 0, 1, 5]), (3, [10, 0, 1, 5, 6]), (4, [6, 0, 1, 5]), (5, [7, 0, 1, 5, 6]), (6, [17, 0, 1, 5, 6, 7]), (7, [7, 0, 1, 5, 6]), (8, [5, 0, 1, 6]), (9, [4])]
def keep82 : Nat → List Nat := fun2 [(0, [0]), (1, [5, 0]), (2, [2]), (3, [2])]
def keep83 : Nat → List Nat := fun2 [(0, [0, 2]), (1, [14, 0, 2]), (2, [3, 2]), (3, [4, 2]), (4, [5, 2, 4]), (5, [6, 2, 4, 5]), (6, [27, 2, 4, 5, 6]), (7, [6, 2, 4, 5]), (8, [2, 4, 5, 6]), (9, [3, 2])]
def keep84 : Nat → List Nat := fun2 [(0, [1, 2, 3]), (1, [7, 1, 2, 3]), (2, [12, 1, 2, 3, 7]), (3, [7, 1, 2, 3]), (4, [32, 1, 2, 3, 7]), (5, [6]), (6, [6])]
def keep85 : Nat → List Nat := fun2 [(0, [0, 1]), (1, [9, 0, 1]), (2, [5, 4]), (3, [5, 4])]
def keep86 : Nat → List Nat := fun2 [(0, [0]), (1, [3, 0]), (2, [4, 0, 3]), (3, [10, 0, 3, 4]), (4, [4, 0, 3]), (5, [5, 0, 3, 4]), (6, [35, 0, 3, 4, 5]), (7, [0, 3, 4, 5, 6]), (8, [0, 3, 4, 5, 6]), (9, [0, 3, 4]), (10, [3, 0, 4]), (11, [2])]
def keep87 : Nat → List Nat := fun2 [(0, [1, 3, 5]), (1, [8, 1, 3, 5]), (2, [17, 1, 3, 5, 8]), (3, [7, 6]), (4, [9, 1, 5, 8]), (5, [10, 1, 8, 9]), (6, [51, 8]), (7, [7, 6]), (8, [7, 6])]
def keep88 : Nat → List Nat := fun2 [(0, [1, 2, 3, 6]), (1, [9, 1, 2, 3, 6]), (2, [25, 1, 2, 3, 6, 9]), (3, [8, 6, 7]), (4, [11, 1, 2, 3, 6, 9, 10]), (5, [33, 1, 2, 3, 6, 9, 10]), (6, [8, 6, 7]), (7, [43, 1, 2, 3, 6, 9, 10]), (8, [12, 1, 2, 3, 6, 9, 10]), (9, [1, 2, 3, 6, 9, 10, 12, 13]), (10, [1, 3, 6, 9, 10, 12, 13]), (11, [1, 3, 6, 10, 12]), (12, [1, 3, 6, 10]), (13, [1, 6, 14]), (14, [8, 6, 7]), (15, [18, 1, 3, 6, 16, 17]), (16, [84, 1, 3, 6, 16, 17, 18]), (17, [8, 6, 7]), (18, [6, 17, 19]), (19, [8, 6, 7])]
def keep89 : Nat → List Nat := fun2 [(0, [6, 1, 2, 3]), (1, [7, 1, 2, 3, 6]), (2, [1, 2, 3, 6, 7, 8]), (3, [9, 1, 2, 3, 6, 7, 8]), (4, [23, 1, 2, 3, 6, 7, 8, 9]), (5, [1, 2, 3, 6, 7, 8]), (6, [39, 1, 2, 3, 6, 7, 8]), (7, [1, 2, 3, 6, 7, 8]), (8, [1, 3, 6, 7, 8]), (9, [3, 6, 7]), (10, [3, 6]), (11, [6])]
def keep90 : Nat → List Nat := fun2 [(0, [0, 1]), (1, [8, 0, 1]), (2, [5, 4]), (3, [13, 0, 1]), (4, [5, 4]), (5, [5, 4])]
def keep91 : Nat → List Nat := fun2 [(0, [0, 1]), (1, [5, 1]), (2, [13, 1, 5]), (3, [4]), (4, [5, 6]), (5, [4])]
def keep95 : Nat → List Nat := fun2 [(0, [0, 1]), (1, [8, 0, 1, 7]), (2, [9, 0, 1, 7, 8]), (3, [5, 0, 1, 7, 8]), (4, [16, 0, 1, 5, 7, 8]), (5, [4]), (6, [8, 0, 1, 7]), (7, [4])]
def keep96 : Nat → List Nat := fun2 [(0, [1, 2]), (1, [3])]
def keep97 : Nat → List Nat := fun2 [(0, [0, 1]), (1, [4])]
def keep102 : Nat → List Nat := fun2 [(0, [1, 2]), (1, [5, 1, 2]), (2, [10, 1, 2, 5]), (3, [5, 1, 2]), (4, [30, 1, 2, 5]), (5, [4]), (6, [4])]
def keep103 : Nat → List Nat := fun2 [(0, [0, 1]), (1, [5, 0, 1]), (2, [6, 0, 1, 5]), (3, [10, 0, 1, 5, 6]), (4, [6, 0, 1, 5]), (5, [18, 0, 1, 5, 6]), (6, [5, 0, 1, 6]), (7, [4])]
def keep114 : Nat → List Nat := fun2 [(0, [1, 2, 3]), (1, [17, 1, 2, 3]), (2, [9, 6, 7, 8]), (3, [11, 2, 3, 10]), (4, [24, 2, 3, 10]), (5, [9, 6, 7, 8]), (6, [12, 2, 3, 10]), (7, [13, 2, 3, 10, 12]), (8, [29, 2, 3, 10, 12, 13]), (9, [13, 2, 3, 10, 12]), (10, [2, 3, 10, 12, 13, 14]), (11, [58, 2, 3, 10, 12, 13, 14]), (12, [73, 2, 3, 10, 12, 13]), (13, [12, 2, 3, 10, 13]), (14, [76, 2, 3, 10, 12]), (15, [9, 6, 7, 8]), (16, [9, 6, 7, 8])]
def keep115 : Nat → List Nat := fun2 [(0, [4, 0, 1]), (1, [1, 4, 5]), (2, [4, 5]), (3, [4])]
def keep116 : Nat → List Nat := fun2 [(0, [0, 1]), (1, [5]), (2, [4])]
def keep117 : Nat → List Nat := fun2 [(0, [0]), (1, [5, 4]), (2, [13, 4]), (3, [3, 2]), (4, [3, 2])]
def keep118 : Nat → List Nat := fun2 [(0, [1, 2, 3, 6]), (1, [8, 2, 3, 6]), (2, [18, 2, 3, 6, 8]), (3, [7, 6]), (4, [2, 3, 6, 8, 9]), (5, [2, 3, 6, 8, 9, 10]), (6, [49, 2, 3, 6, 8, 9]), (7, [7, 6]), (8, [56, 2, 3, 6, 8, 9]), (9, [7, 6]), (10, [12, 2, 3, 6, 8, 9]), (11, [2, 3, 6, 8, 9, 12, 13]), (12, [2, 3, 6, 8, 9, 12, 13]), (13, [3, 6, 8, 9, 12, 13]), (14, [12, 3, 6, 8]), (15, [12, 3, 6]), (16, [3, 6]), (17, [7, 6])]
def keep119 : Nat → List Nat := fun2 [(0, [0, 1]), (1, [5, 0, 1]), (2, [6, 0, 1, 5]), (3, [10, 0, 1, 5, 6]), (4, [6, 0, 1, 5]), (5, [18, 0, 1, 5, 6]), (6, [5, 0, 1, 6]), (7, [4])]
def keep124 : Nat → List Nat := fun2 [(0, [0, 1]), (1, [8, 0, 1, 7]), (2, [9, 0, 1, 7, 8]), (3, [5, 0, 1, 7, 8]), (4, [16, 0, 1, 5, 7, 8]), (5, [4]), (6, [8, 0, 1, 7]), (7, [4])]
def keep132 : Nat → List Nat := fun2 [(0, [0]), (1, [4, 0, 3]), (2, [2])]
def keep133 : Nat → List Nat := fun2 [(0, [0, 1]), (1, [5, 0, 1]), (2, [20, 0, 1, 5]), (3, [5, 0, 1]), (4, [4])]
def keep134 : Nat → List Nat := fun2 [(0, [0, 1]), (1, [8, 0, 1]), (2, [5, 4]), (3, [12, 0, 1]), (4, [5, 4]), (5, [5, 4])]
def keep137 : Nat → List Nat := fun2 [(0, [0]), (1, [9, 0]), (2, [0]), (3, [2])]
attribute [go_sem] keep3 keep4 keep5 keep6 keep7 keep8 keep9 keep10 keep11 keep12 keep13 keep14 keep15 keep16 keep17 keep18 keep19 keep20 keep21 keep22 keep23 keep24 keep25 keep26 keep27 keep28 keep29 keep30 keep31 keep32 keep33 keep34 keep35 keep36 keep37 keep38 keep39 keep40 keep41 keep42 keep43 keep44 keep45 keep46 keep49 keep50 keep51 keep52 keep53 keep54 keep55 keep56 keep57 keep58 keep59 keep60 keep61 keep62 keep63 keep64 keep65 keep66 keep67 keep68 keep69 keep71 keep72 keep73 keep74 keep75 keep78 keep79 keep80 keep81 keep82 keep83 keep84 keep85 keep86 keep87 keep88 keep89 keep90 keep91 keep95 keep96 keep97 keep102 keep103 keep114 keep115 keep116 keep117 keep118 keep119 keep124 keep132 keep133 keep134 keep137
end Go.Proofs.YtapdaefpkddioaaGreat.Pe
