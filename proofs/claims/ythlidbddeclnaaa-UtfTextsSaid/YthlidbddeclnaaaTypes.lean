/- What is known of each type of the program (printed by a program of ours off the loaded program's own rows). No statement is proved here. -/
import Derived.Test.YthlidbddeclnaaaAmMem
import Derived.Test.YthlidbddeclnaaaProg
namespace Go.Proofs.Ythlidbddeclnaaa
open Go.RowKit
set_option maxRecDepth 100000
theorem ti1 : tinfo Try.prog 1 = some ⟨false, 1, [Go.Value.nilFunc], .other⟩ := by kernel_rfl
theorem ti2 : tinfo Try.prog 2 = some ⟨false, 1, [Go.Value.int Go.IntKind.i64 0], .int Go.IntKind.i64⟩ := by kernel_rfl
theorem ti3 : tinfo Try.prog 3 = some ⟨false, 1, [Go.Value.int Go.IntKind.i64 0], .int Go.IntKind.i64⟩ := by kernel_rfl
theorem ti4 : tinfo Try.prog 4 = some ⟨false, 1, [Go.Value.bool false], .bool⟩ := by kernel_rfl
theorem ti5 : tinfo Try.prog 5 = some ⟨false, 1, [Go.Value.int Go.IntKind.u8 0], .int Go.IntKind.u8⟩ := by kernel_rfl
theorem ti9 : tinfo Try.prog 9 = some ⟨false, 1, [Go.Value.string ⟨#[]⟩], .string⟩ := by kernel_rfl
theorem ti12 : tinfo Try.prog 12 = some ⟨false, 1, [Go.Value.int Go.IntKind.u64 0], .int Go.IntKind.u64⟩ := by kernel_rfl
theorem ti13 : tinfo Try.prog 13 = some ⟨true, 2, [Go.Value.string ⟨#[]⟩, Go.Value.int Go.IntKind.u64 0], .struct [(0, 1, false), (1, 1, false)]⟩ := by kernel_rfl
theorem ti21 : tinfo Try.prog 21 = some ⟨false, 1, [Go.Value.int Go.IntKind.i32 0], .int Go.IntKind.i32⟩ := by kernel_rfl
theorem ti22 : tinfo Try.prog 22 = some ⟨false, 1, [Go.Value.slice none 0 0], .slice 3 1 8 [Go.Value.int Go.IntKind.i64 0]⟩ := by kernel_rfl
theorem ti23 : tinfo Try.prog 23 = some ⟨false, 1, [Go.Value.slice none 0 0], .slice 5 1 1 [Go.Value.int Go.IntKind.u8 0]⟩ := by kernel_rfl
theorem ti24 : tinfo Try.prog 24 = some ⟨false, 1, [Go.Value.nilFunc], .other⟩ := by kernel_rfl
theorem ti25 : tinfo Try.prog 25 = some ⟨false, 1, [Go.Value.nilFunc], .other⟩ := by kernel_rfl
theorem ti26 : tinfo Try.prog 26 = some ⟨false, 1, [Go.Value.nilFunc], .other⟩ := by kernel_rfl
theorem ti27 : tinfo Try.prog 27 = some ⟨false, 1, [Go.Value.nilFunc], .other⟩ := by kernel_rfl
theorem ti28 : tinfo Try.prog 28 = some ⟨false, 1, [Go.Value.nilFunc], .other⟩ := by kernel_rfl
theorem ti29 : tinfo Try.prog 29 = some ⟨false, 1, [Go.Value.nilFunc], .other⟩ := by kernel_rfl
theorem ti30 : tinfo Try.prog 30 = some ⟨false, 1, [Go.Value.nilFunc], .other⟩ := by kernel_rfl
theorem ti31 : tinfo Try.prog 31 = some ⟨false, 1, [Go.Value.nilFunc], .other⟩ := by kernel_rfl
theorem ti32 : tinfo Try.prog 32 = some ⟨false, 1, [Go.Value.nilFunc], .other⟩ := by kernel_rfl
theorem ti33 : tinfo Try.prog 33 = some ⟨false, 1, [Go.Value.nilFunc], .other⟩ := by kernel_rfl
theorem ti34 : tinfo Try.prog 34 = some ⟨false, 1, [Go.Value.nilFunc], .other⟩ := by kernel_rfl
theorem ti35 : tinfo Try.prog 35 = some ⟨false, 1, [Go.Value.nilFunc], .other⟩ := by kernel_rfl
theorem ti36 : tinfo Try.prog 36 = some ⟨false, 1, [Go.Value.nilFunc], .other⟩ := by kernel_rfl
theorem ti38 : tinfo Try.prog 38 = some ⟨false, 1, [Go.Value.nilFunc], .other⟩ := by kernel_rfl
theorem ti39 : tinfo Try.prog 39 = some ⟨false, 1, [Go.Value.nilFunc], .other⟩ := by kernel_rfl
theorem ti41 : tinfo Try.prog 41 = some ⟨false, 1, [Go.Value.nilFunc], .other⟩ := by kernel_rfl
theorem ti43 : tinfo Try.prog 43 = some ⟨false, 1, [Go.Value.nilFunc], .other⟩ := by kernel_rfl
theorem ti44 : tinfo Try.prog 44 = some ⟨false, 1, [Go.Value.nilFunc], .other⟩ := by kernel_rfl
theorem ti45 : tinfo Try.prog 45 = some ⟨false, 1, [Go.Value.nilFunc], .other⟩ := by kernel_rfl
theorem ti46 : tinfo Try.prog 46 = some ⟨false, 1, [Go.Value.nilFunc], .other⟩ := by kernel_rfl
theorem ti47 : tinfo Try.prog 47 = some ⟨false, 1, [Go.Value.nilFunc], .other⟩ := by kernel_rfl
theorem ti48 : tinfo Try.prog 48 = some ⟨false, 1, [Go.Value.nilFunc], .other⟩ := by kernel_rfl
theorem ti49 : tinfo Try.prog 49 = some ⟨false, 1, [Go.Value.nilFunc], .other⟩ := by kernel_rfl
theorem ti50 : tinfo Try.prog 50 = some ⟨false, 1, [Go.Value.nilFunc], .other⟩ := by kernel_rfl
theorem ti51 : tinfo Try.prog 51 = some ⟨false, 1, [Go.Value.nilFunc], .other⟩ := by kernel_rfl
theorem ti52 : tinfo Try.prog 52 = some ⟨false, 1, [Go.Value.nilFunc], .other⟩ := by kernel_rfl
theorem ti53 : tinfo Try.prog 53 = some ⟨false, 1, [Go.Value.nilFunc], .other⟩ := by kernel_rfl
theorem ti54 : tinfo Try.prog 54 = some ⟨false, 1, [Go.Value.int Go.IntKind.u32 0], .int Go.IntKind.u32⟩ := by kernel_rfl
theorem ti55 : tinfo Try.prog 55 = some ⟨false, 1, [Go.Value.nilFunc], .other⟩ := by kernel_rfl
theorem ti56 : tinfo Try.prog 56 = some ⟨false, 1, [Go.Value.nilFunc], .other⟩ := by kernel_rfl
theorem ti57 : tinfo Try.prog 57 = some ⟨false, 1, [Go.Value.int Go.IntKind.u64 0], .int Go.IntKind.u64⟩ := by kernel_rfl
theorem ti58 : tinfo Try.prog 58 = some ⟨false, 1, [Go.Value.int Go.IntKind.u64 0], .int Go.IntKind.u64⟩ := by kernel_rfl
theorem ti60 : tinfo Try.prog 60 = some ⟨false, 1, [Go.Value.nilFunc], .other⟩ := by kernel_rfl
theorem ti61 : tinfo Try.prog 61 = some ⟨false, 1, [Go.Value.nilFunc], .other⟩ := by kernel_rfl
theorem ti62 : tinfo Try.prog 62 = some ⟨false, 1, [Go.Value.nilFunc], .other⟩ := by kernel_rfl
theorem ti63 : tinfo Try.prog 63 = some ⟨false, 1, [Go.Value.nilFunc], .other⟩ := by kernel_rfl
theorem ti64 : tinfo Try.prog 64 = some ⟨false, 1, [Go.Value.nilFunc], .other⟩ := by kernel_rfl
theorem ti65 : tinfo Try.prog 65 = some ⟨false, 1, [Go.Value.nilFunc], .other⟩ := by kernel_rfl
theorem ti66 : tinfo Try.prog 66 = some ⟨false, 1, [Go.Value.nilFunc], .other⟩ := by kernel_rfl
theorem ti67 : tinfo Try.prog 67 = some ⟨false, 1, [Go.Value.nilFunc], .other⟩ := by kernel_rfl
theorem ti68 : tinfo Try.prog 68 = some ⟨false, 1, [Go.Value.nilFunc], .other⟩ := by kernel_rfl
theorem ti74 : tinfo Try.prog 74 = some ⟨false, 1, [Go.Value.nilFunc], .other⟩ := by kernel_rfl
theorem ti77 : tinfo Try.prog 77 = some ⟨false, 1, [Go.Value.nilFunc], .other⟩ := by kernel_rfl
theorem ti78 : tinfo Try.prog 78 = some ⟨false, 1, [Go.Value.pointer none], .pointer⟩ := by kernel_rfl
attribute [push_cast] ti2 ti3 ti4 ti5 ti9 ti12 ti13 ti21 ti22 ti23 ti54 ti57 ti58 ti78
end Go.Proofs.Ythlidbddeclnaaa
