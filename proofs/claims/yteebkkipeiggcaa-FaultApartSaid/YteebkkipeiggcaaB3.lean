/- The closed facts on the types and functions of this translation that the abstract machine asks for. Written by a program (vm.py) off the translation. -/
import Derived.Test.YteebkkipeiggcaaProg
import Derived.Test.YteebkkipeiggcaaB2
set_option linter.unusedVariables false
set_option linter.unusedSimpArgs false
namespace Go.Proofs.Yteebkkipeiggcaa
open Go Go.Vm

@[simp] theorem ty1 : tabOf Try.prog 1 = some { desc := (.func #[] #[] false), size := 1, bytes := 8, zero := .nilFunc } := by kernel_rfl
@[simp] theorem ty2 : tabOf Try.prog 2 = some { desc := (.int .i64), size := 1, bytes := 8, zero := .int .i64 0 } := by kernel_rfl
@[simp] theorem ty3 : tabOf Try.prog 3 = some { desc := (.int .i64), size := 1, bytes := 8, zero := .int .i64 0 } := by kernel_rfl
@[simp] theorem ty4 : tabOf Try.prog 4 = some { desc := .bool, size := 1, bytes := 1, zero := .bool false } := by kernel_rfl
@[simp] theorem ty5 : tabOf Try.prog 5 = some { desc := (.int .u8), size := 1, bytes := 1, zero := .int .u8 0 } := by kernel_rfl
@[simp] theorem ty6 : tabOf Try.prog 6 = some { desc := (.int .u8), size := 1, bytes := 1, zero := .int .u8 0 } := by kernel_rfl
@[simp] theorem ty7 : tabOf Try.prog 7 = some { desc := (.struct #[⟨ "x", 2, 0, false, "", "runtime", 0⟩, ⟨ "y", 3, 1, false, "", "runtime", 8⟩, ⟨ "signed", 4, 2, false, "", "runtime", 16⟩, ⟨ "code", 6, 3, false, "", "runtime", 17⟩]), size := 4, bytes := 24, zero := .agg #[.int .i64 0, .int .i64 0, .bool false, .int .u8 0] } := by kernel_rfl
@[simp] theorem ty8 : tabOf Try.prog 8 = some { desc := (.struct #[⟨ "x", 2, 0, false, "", "runtime", 0⟩, ⟨ "y", 3, 1, false, "", "runtime", 8⟩, ⟨ "signed", 4, 2, false, "", "runtime", 16⟩, ⟨ "code", 6, 3, false, "", "runtime", 17⟩]), size := 4, bytes := 24, zero := .agg #[.int .i64 0, .int .i64 0, .bool false, .int .u8 0] } := by kernel_rfl
@[simp] theorem ty9 : tabOf Try.prog 9 = some { desc := .string, size := 1, bytes := 16, zero := .string ⟨#[]⟩ } := by kernel_rfl
@[simp] theorem ty10 : tabOf Try.prog 10 = some { desc := .string, size := 1, bytes := 16, zero := .string ⟨#[]⟩ } := by kernel_rfl
@[simp] theorem ty11 : tabOf Try.prog 11 = some { desc := .string, size := 1, bytes := 16, zero := .string ⟨#[]⟩ } := by kernel_rfl
@[simp] theorem ty12 : tabOf Try.prog 12 = some { desc := (.int .u64), size := 1, bytes := 8, zero := .int .u64 0 } := by kernel_rfl
@[simp] theorem ty13 : tabOf Try.prog 13 = some { desc := (.struct #[⟨ "msg", 9, 0, false, "", "runtime", 0⟩, ⟨ "addr", 12, 1, false, "", "runtime", 16⟩]), size := 2, bytes := 24, zero := .agg #[.string ⟨#[]⟩, .int .u64 0] } := by kernel_rfl
@[simp] theorem ty14 : tabOf Try.prog 14 = some { desc := (.struct #[⟨ "msg", 9, 0, false, "", "runtime", 0⟩, ⟨ "addr", 12, 1, false, "", "runtime", 16⟩]), size := 2, bytes := 24, zero := .agg #[.string ⟨#[]⟩, .int .u64 0] } := by kernel_rfl
@[simp] theorem ty15 : tabOf Try.prog 15 = some { desc := (.pointer 137), size := 1, bytes := 8, zero := .pointer none } := by kernel_rfl
@[simp] theorem ty16 : tabOf Try.prog 16 = some { desc := (.pointer 140), size := 1, bytes := 8, zero := .pointer none } := by kernel_rfl
@[simp] theorem ty17 : tabOf Try.prog 17 = some { desc := (.pointer 150), size := 1, bytes := 8, zero := .pointer none } := by kernel_rfl
@[simp] theorem ty18 : tabOf Try.prog 18 = some { desc := (.struct #[⟨ "typ", 17, 0, false, "", "internal/runtime/maps", 0⟩]), size := 1, bytes := 8, zero := .agg #[.pointer none] } := by kernel_rfl
@[simp] theorem ty19 : tabOf Try.prog 19 = some { desc := (.struct #[⟨ "typ", 17, 0, false, "", "internal/runtime/maps", 0⟩]), size := 1, bytes := 8, zero := .agg #[.pointer none] } := by kernel_rfl
@[simp] theorem ty20 : tabOf Try.prog 20 = some { desc := (.interface #[]), size := 1, bytes := 16, zero := .nilIface } := by kernel_rfl
@[simp] theorem ty21 : tabOf Try.prog 21 = some { desc := (.int .i32), size := 1, bytes := 4, zero := .int .i32 0 } := by kernel_rfl
@[simp] theorem ty22 : tabOf Try.prog 22 = some { desc := (.slice 107), size := 1, bytes := 24, zero := .slice none 0 0 } := by kernel_rfl
@[simp] theorem ty23 : tabOf Try.prog 23 = some { desc := (.struct #[⟨ "E", 3, 0, false, "", "", 0⟩, ⟨ "What", 9, 1, false, "", "", 8⟩, ⟨ "L", 22, 2, false, "", "", 24⟩, ⟨ "Args", 3, 3, false, "", "", 48⟩]), size := 4, bytes := 56, zero := .agg #[.int .i64 0, .string ⟨#[]⟩, .slice none 0 0, .int .i64 0] } := by kernel_rfl
@[simp] theorem ty24 : tabOf Try.prog 24 = some { desc := (.struct #[⟨ "E", 3, 0, false, "", "", 0⟩, ⟨ "What", 9, 1, false, "", "", 8⟩, ⟨ "L", 22, 2, false, "", "", 24⟩, ⟨ "Args", 3, 3, false, "", "", 48⟩]), size := 4, bytes := 56, zero := .agg #[.int .i64 0, .string ⟨#[]⟩, .slice none 0 0, .int .i64 0] } := by kernel_rfl
@[simp] theorem ty25 : tabOf Try.prog 25 = some { desc := (.func #[] #[4] false), size := 1, bytes := 8, zero := .nilFunc } := by kernel_rfl
@[simp] theorem ty26 : tabOf Try.prog 26 = some { desc := (.func #[22] #[4] false), size := 1, bytes := 8, zero := .nilFunc } := by kernel_rfl
@[simp] theorem ty27 : tabOf Try.prog 27 = some { desc := (.slice 29), size := 1, bytes := 24, zero := .slice none 0 0 } := by kernel_rfl
@[simp] theorem ty28 : tabOf Try.prog 28 = some { desc := (.struct #[⟨ "Kind", 3, 0, false, "", "", 0⟩, ⟨ "N", 2, 1, false, "", "", 8⟩, ⟨ "S", 9, 2, false, "", "", 16⟩, ⟨ "Args", 27, 3, false, "", "", 32⟩]), size := 4, bytes := 56, zero := .agg #[.int .i64 0, .int .i64 0, .string ⟨#[]⟩, .slice none 0 0] } := by kernel_rfl
@[simp] theorem ty29 : tabOf Try.prog 29 = some { desc := (.struct #[⟨ "Kind", 3, 0, false, "", "", 0⟩, ⟨ "N", 2, 1, false, "", "", 8⟩, ⟨ "S", 9, 2, false, "", "", 16⟩, ⟨ "Args", 27, 3, false, "", "", 32⟩]), size := 4, bytes := 56, zero := .agg #[.int .i64 0, .int .i64 0, .string ⟨#[]⟩, .slice none 0 0] } := by kernel_rfl
@[simp] theorem ty30 : tabOf Try.prog 30 = some { desc := (.func #[22] #[29] false), size := 1, bytes := 8, zero := .nilFunc } := by kernel_rfl
@[simp] theorem ty31 : tabOf Try.prog 31 = some { desc := (.func #[32, 9, 29] #[29] false), size := 1, bytes := 8, zero := .nilFunc } := by kernel_rfl
@[simp] theorem ty32 : tabOf Try.prog 32 = some { desc := (.int .i64), size := 1, bytes := 8, zero := .int .i64 0 } := by kernel_rfl
@[simp] theorem ty33 : tabOf Try.prog 33 = some { desc := (.func #[29, 29] #[4] false), size := 1, bytes := 8, zero := .nilFunc } := by kernel_rfl
@[simp] theorem ty34 : tabOf Try.prog 34 = some { desc := (.func #[29, 9, 3] #[29] false), size := 1, bytes := 8, zero := .nilFunc } := by kernel_rfl
@[simp] theorem ty35 : tabOf Try.prog 35 = some { desc := (.func #[9, 3] #[29] false), size := 1, bytes := 8, zero := .nilFunc } := by kernel_rfl
@[simp] theorem ty36 : tabOf Try.prog 36 = some { desc := (.func #[9, 9, 3] #[29] false), size := 1, bytes := 8, zero := .nilFunc } := by kernel_rfl
@[simp] theorem ty37 : tabOf Try.prog 37 = some { desc := (.func #[24] #[4] false), size := 1, bytes := 8, zero := .nilFunc } := by kernel_rfl
@[simp] theorem ty38 : tabOf Try.prog 38 = some { desc := (.func #[9, 5] #[4] false), size := 1, bytes := 8, zero := .nilFunc } := by kernel_rfl
@[simp] theorem ty39 : tabOf Try.prog 39 = some { desc := (.func #[29, 29] #[3] false), size := 1, bytes := 8, zero := .nilFunc } := by kernel_rfl
@[simp] theorem ty40 : tabOf Try.prog 40 = some { desc := (.func #[22, 22, 22] #[4] false), size := 1, bytes := 8, zero := .nilFunc } := by kernel_rfl
@[simp] theorem ty41 : tabOf Try.prog 41 = some { desc := (.func #[29] #[29] false), size := 1, bytes := 8, zero := .nilFunc } := by kernel_rfl
@[simp] theorem ty42 : tabOf Try.prog 42 = some { desc := (.slice 2), size := 1, bytes := 24, zero := .slice none 0 0 } := by kernel_rfl
@[simp] theorem ty43 : tabOf Try.prog 43 = some { desc := (.func #[29] #[42] false), size := 1, bytes := 8, zero := .nilFunc } := by kernel_rfl
@[simp] theorem ty44 : tabOf Try.prog 44 = some { desc := (.func #[29] #[3] false), size := 1, bytes := 8, zero := .nilFunc } := by kernel_rfl
@[simp] theorem ty45 : tabOf Try.prog 45 = some { desc := (.func #[9, 27] #[29] true), size := 1, bytes := 8, zero := .nilFunc } := by kernel_rfl
@[simp] theorem ty46 : tabOf Try.prog 46 = some { desc := (.func #[22, 22] #[4] false), size := 1, bytes := 8, zero := .nilFunc } := by kernel_rfl
@[simp] theorem ty48 : tabOf Try.prog 48 = some { desc := (.func #[29] #[27, 29] false), size := 1, bytes := 8, zero := .nilFunc } := by kernel_rfl
@[simp] theorem ty49 : tabOf Try.prog 49 = some { desc := (.func #[27, 27] #[4] false), size := 1, bytes := 8, zero := .nilFunc } := by kernel_rfl
@[simp] theorem ty50 : tabOf Try.prog 50 = some { desc := (.array 7 32), size := 7, bytes := 56, zero := .agg #[.int .i64 0, .int .i64 0, .int .i64 0, .int .i64 0, .int .i64 0, .int .i64 0, .int .i64 0] } := by kernel_rfl
@[simp] theorem ty51 : tabOf Try.prog 51 = some { desc := (.func #[29] #[32] false), size := 1, bytes := 8, zero := .nilFunc } := by kernel_rfl
@[simp] theorem ty52 : tabOf Try.prog 52 = some { desc := (.slice 32), size := 1, bytes := 24, zero := .slice none 0 0 } := by kernel_rfl
@[simp] theorem ty53 : tabOf Try.prog 53 = some { desc := (.func #[9, 22] #[4] false), size := 1, bytes := 8, zero := .nilFunc } := by kernel_rfl
@[simp] theorem ty54 : tabOf Try.prog 54 = some { desc := (.slice 22), size := 1, bytes := 24, zero := .slice none 0 0 } := by kernel_rfl
@[simp] theorem ty55 : tabOf Try.prog 55 = some { desc := (.func #[27, 29] #[29] false), size := 1, bytes := 8, zero := .nilFunc } := by kernel_rfl
@[simp] theorem ty56 : tabOf Try.prog 56 = some { desc := (.func #[54, 22] #[4] false), size := 1, bytes := 8, zero := .nilFunc } := by kernel_rfl
@[simp] theorem ty58 : tabOf Try.prog 58 = some { desc := (.func #[29] #[2, 32, 29] false), size := 1, bytes := 8, zero := .nilFunc } := by kernel_rfl
@[simp] theorem ty60 : tabOf Try.prog 60 = some { desc := (.func #[9, 2, 2] #[2, 32] false), size := 1, bytes := 8, zero := .nilFunc } := by kernel_rfl
@[simp] theorem ty61 : tabOf Try.prog 61 = some { desc := (.func #[2] #[29] false), size := 1, bytes := 8, zero := .nilFunc } := by kernel_rfl
@[simp] theorem ty62 : tabOf Try.prog 62 = some { desc := (.func #[9, 22, 22] #[4] false), size := 1, bytes := 8, zero := .nilFunc } := by kernel_rfl
@[simp] theorem ty64 : tabOf Try.prog 64 = some { desc := (.func #[22] #[29, 3] false), size := 1, bytes := 8, zero := .nilFunc } := by kernel_rfl
@[simp] theorem ty65 : tabOf Try.prog 65 = some { desc := (.array 4 29), size := 16, bytes := 224, zero := .agg #[.int .i64 0, .int .i64 0, .string ⟨#[]⟩, .slice none 0 0, .int .i64 0, .int .i64 0, .string ⟨#[]⟩, .slice none 0 0, .int .i64 0, .int .i64 0, .string ⟨#[]⟩, .slice none 0 0, .int .i64 0, .int .i64 0, .string ⟨#[]⟩, .slice none 0 0] } := by kernel_rfl
@[simp] theorem ty67 : tabOf Try.prog 67 = some { desc := (.func #[9, 29, 29] #[4, 32, 29] false), size := 1, bytes := 8, zero := .nilFunc } := by kernel_rfl
@[simp] theorem ty68 : tabOf Try.prog 68 = some { desc := (.func #[22, 22, 9] #[4] false), size := 1, bytes := 8, zero := .nilFunc } := by kernel_rfl
@[simp] theorem ty69 : tabOf Try.prog 69 = some { desc := (.array 6 4), size := 6, bytes := 6, zero := .agg #[.bool false, .bool false, .bool false, .bool false, .bool false, .bool false] } := by kernel_rfl
@[simp] theorem ty70 : tabOf Try.prog 70 = some { desc := (.array 6 9), size := 6, bytes := 96, zero := .agg #[.string ⟨#[]⟩, .string ⟨#[]⟩, .string ⟨#[]⟩, .string ⟨#[]⟩, .string ⟨#[]⟩, .string ⟨#[]⟩] } := by kernel_rfl
@[simp] theorem ty71 : tabOf Try.prog 71 = some { desc := (.slice 4), size := 1, bytes := 24, zero := .slice none 0 0 } := by kernel_rfl
@[simp] theorem ty72 : tabOf Try.prog 72 = some { desc := (.struct #[⟨ "name", 9, 0, false, "", "prolix/fault", 0⟩, ⟨ "takes", 3, 1, false, "", "prolix/fault", 16⟩, ⟨ "own", 9, 2, false, "", "prolix/fault", 24⟩]), size := 3, bytes := 40, zero := .agg #[.string ⟨#[]⟩, .int .i64 0, .string ⟨#[]⟩] } := by kernel_rfl
@[simp] theorem ty73 : tabOf Try.prog 73 = some { desc := (.struct #[⟨ "name", 9, 0, false, "", "prolix/fault", 0⟩, ⟨ "takes", 3, 1, false, "", "prolix/fault", 16⟩, ⟨ "own", 9, 2, false, "", "prolix/fault", 24⟩]), size := 3, bytes := 40, zero := .agg #[.string ⟨#[]⟩, .int .i64 0, .string ⟨#[]⟩] } := by kernel_rfl
@[simp] theorem ty75 : tabOf Try.prog 75 = some { desc := (.map 32 73), size := 1, bytes := 8, zero := .map none } := by kernel_rfl
@[simp] theorem ty76 : tabOf Try.prog 76 = some { desc := (.func #[] #[75] false), size := 1, bytes := 8, zero := .nilFunc } := by kernel_rfl
@[simp] theorem ty77 : tabOf Try.prog 77 = some { desc := (.func #[9] #[29] false), size := 1, bytes := 8, zero := .nilFunc } := by kernel_rfl
@[simp] theorem ty78 : tabOf Try.prog 78 = some { desc := (.func #[3, 3] #[3] false), size := 1, bytes := 8, zero := .nilFunc } := by kernel_rfl
@[simp] theorem ty79 : tabOf Try.prog 79 = some { desc := (.func #[2, 2] #[3] false), size := 1, bytes := 8, zero := .nilFunc } := by kernel_rfl
@[simp] theorem ty80 : tabOf Try.prog 80 = some { desc := (.func #[116] #[3] true), size := 1, bytes := 8, zero := .nilFunc } := by kernel_rfl
@[simp] theorem ty81 : tabOf Try.prog 81 = some { desc := (.func #[9, 9] #[3] false), size := 1, bytes := 8, zero := .nilFunc } := by kernel_rfl
@[simp] theorem ty82 : tabOf Try.prog 82 = some { desc := (.func #[27, 27, 39] #[3] false), size := 1, bytes := 8, zero := .nilFunc } := by kernel_rfl
@[simp] theorem ty83 : tabOf Try.prog 83 = some { desc := (.pointer 86), size := 1, bytes := 8, zero := .pointer none } := by kernel_rfl
@[simp] theorem ty84 : tabOf Try.prog 84 = some { desc := (.map 2 2), size := 1, bytes := 8, zero := .map none } := by kernel_rfl
@[simp] theorem ty85 : tabOf Try.prog 85 = some { desc := (.struct #[⟨ "l", 42, 0, false, "", "prolix/term", 0⟩, ⟨ "at", 84, 1, false, "", "prolix/term", 24⟩]), size := 2, bytes := 32, zero := .agg #[.slice none 0 0, .map none] } := by kernel_rfl
@[simp] theorem ty86 : tabOf Try.prog 86 = some { desc := (.struct #[⟨ "l", 42, 0, false, "", "prolix/term", 0⟩, ⟨ "at", 84, 1, false, "", "prolix/term", 24⟩]), size := 2, bytes := 32, zero := .agg #[.slice none 0 0, .map none] } := by kernel_rfl
@[simp] theorem ty87 : tabOf Try.prog 87 = some { desc := (.func #[29, 88] #[29] false), size := 1, bytes := 8, zero := .nilFunc } := by kernel_rfl
@[simp] theorem ty88 : tabOf Try.prog 88 = some { desc := (.func #[2] #[2] false), size := 1, bytes := 8, zero := .nilFunc } := by kernel_rfl
@[simp] theorem ty89 : tabOf Try.prog 89 = some { desc := (.func #[42, 2] #[3] false), size := 1, bytes := 8, zero := .nilFunc } := by kernel_rfl
@[simp] theorem ty90 : tabOf Try.prog 90 = some { desc := (.func #[29] #[4] false), size := 1, bytes := 8, zero := .nilFunc } := by kernel_rfl
@[simp] theorem ty91 : tabOf Try.prog 91 = some { desc := (.func #[29, 42] #[29] false), size := 1, bytes := 8, zero := .nilFunc } := by kernel_rfl
@[simp] theorem ty92 : tabOf Try.prog 92 = some { desc := (.func #[29, 90] #[4] false), size := 1, bytes := 8, zero := .nilFunc } := by kernel_rfl
@[simp] theorem ty93 : tabOf Try.prog 93 = some { desc := (.func #[119] #[] false), size := 1, bytes := 8, zero := .nilFunc } := by kernel_rfl
@[simp] theorem ty94 : tabOf Try.prog 94 = some { desc := (.func #[119] #[] false), size := 1, bytes := 8, zero := .nilFunc } := by kernel_rfl
@[simp] theorem ty95 : tabOf Try.prog 95 = some { desc := (.func #[27] #[94] false), size := 1, bytes := 8, zero := .nilFunc } := by kernel_rfl
@[simp] theorem ty96 : tabOf Try.prog 96 = some { desc := (.func #[97, 98] #[] false), size := 1, bytes := 8, zero := .nilFunc } := by kernel_rfl
@[simp] theorem ty97 : tabOf Try.prog 97 = some { desc := (.pointer 32), size := 1, bytes := 8, zero := .pointer none } := by kernel_rfl
@[simp] theorem ty98 : tabOf Try.prog 98 = some { desc := (.pointer 29), size := 1, bytes := 8, zero := .pointer none } := by kernel_rfl
@[simp] theorem ty99 : tabOf Try.prog 99 = some { desc := (.func #[29] #[2] false), size := 1, bytes := 8, zero := .nilFunc } := by kernel_rfl
@[simp] theorem ty100 : tabOf Try.prog 100 = some { desc := (.func #[103] #[2, 32] false), size := 1, bytes := 8, zero := .nilFunc } := by kernel_rfl
@[simp] theorem ty101 : tabOf Try.prog 101 = some { desc := (.func #[] #[2, 32] false), size := 1, bytes := 8, zero := .nilFunc } := by kernel_rfl
@[simp] theorem ty102 : tabOf Try.prog 102 = some { desc := (.struct #[⟨ "a", 2, 0, false, "", "prolix/num", 0⟩, ⟨ "b", 2, 1, false, "", "prolix/num", 8⟩]), size := 2, bytes := 16, zero := .agg #[.int .i64 0, .int .i64 0] } := by kernel_rfl
@[simp] theorem ty103 : tabOf Try.prog 103 = some { desc := (.struct #[⟨ "a", 2, 0, false, "", "prolix/num", 0⟩, ⟨ "b", 2, 1, false, "", "prolix/num", 8⟩]), size := 2, bytes := 16, zero := .agg #[.int .i64 0, .int .i64 0] } := by kernel_rfl
@[simp] theorem ty104 : tabOf Try.prog 104 = some { desc := (.map 9 100), size := 1, bytes := 8, zero := .map none } := by kernel_rfl
@[simp] theorem ty106 : tabOf Try.prog 106 = some { desc := (.struct #[⟨ "Kind", 3, 0, false, "", "", 0⟩, ⟨ "N", 2, 1, false, "", "", 8⟩, ⟨ "S", 9, 2, false, "", "", 16⟩, ⟨ "Args", 5, 3, false, "", "", 32⟩]), size := 4, bytes := 40, zero := .agg #[.int .i64 0, .int .i64 0, .string ⟨#[]⟩, .int .u8 0] } := by kernel_rfl
@[simp] theorem ty107 : tabOf Try.prog 107 = some { desc := (.struct #[⟨ "Kind", 3, 0, false, "", "", 0⟩, ⟨ "N", 2, 1, false, "", "", 8⟩, ⟨ "S", 9, 2, false, "", "", 16⟩, ⟨ "Args", 5, 3, false, "", "", 32⟩]), size := 4, bytes := 40, zero := .agg #[.int .i64 0, .int .i64 0, .string ⟨#[]⟩, .int .u8 0] } := by kernel_rfl
@[simp] theorem ty108 : tabOf Try.prog 108 = some { desc := (.func #[110] #[4] false), size := 1, bytes := 8, zero := .nilFunc } := by kernel_rfl
@[simp] theorem ty109 : tabOf Try.prog 109 = some { desc := (.struct #[⟨ "a", 2, 0, false, "", "prolix/arith", 0⟩, ⟨ "b", 2, 1, false, "", "prolix/arith", 8⟩]), size := 2, bytes := 16, zero := .agg #[.int .i64 0, .int .i64 0] } := by kernel_rfl
@[simp] theorem ty110 : tabOf Try.prog 110 = some { desc := (.struct #[⟨ "a", 2, 0, false, "", "prolix/arith", 0⟩, ⟨ "b", 2, 1, false, "", "prolix/arith", 8⟩]), size := 2, bytes := 16, zero := .agg #[.int .i64 0, .int .i64 0] } := by kernel_rfl
@[simp] theorem ty111 : tabOf Try.prog 111 = some { desc := (.map 9 108), size := 1, bytes := 8, zero := .map none } := by kernel_rfl
@[simp] theorem ty113 : tabOf Try.prog 113 = some { desc := (.func #[27] #[27] false), size := 1, bytes := 8, zero := .nilFunc } := by kernel_rfl
@[simp] theorem ty114 : tabOf Try.prog 114 = some { desc := (.func #[3] #[4] false), size := 1, bytes := 8, zero := .nilFunc } := by kernel_rfl
@[simp] theorem ty115 : tabOf Try.prog 115 = some { desc := (.func #[2] #[4] false), size := 1, bytes := 8, zero := .nilFunc } := by kernel_rfl
@[simp] theorem ty116 : tabOf Try.prog 116 = some { desc := (.slice 3), size := 1, bytes := 24, zero := .slice none 0 0 } := by kernel_rfl
@[simp] theorem ty118 : tabOf Try.prog 118 = some { desc := (.func #[27, 90] #[4] false), size := 1, bytes := 8, zero := .nilFunc } := by kernel_rfl
@[simp] theorem ty119 : tabOf Try.prog 119 = some { desc := (.func #[3, 29] #[4] false), size := 1, bytes := 8, zero := .nilFunc } := by kernel_rfl
@[simp] theorem ty120 : tabOf Try.prog 120 = some { desc := (.struct #[⟨ "e", 32, 0, false, "", "prolix/arith", 0⟩, ⟨ "t", 29, 1, false, "", "prolix/arith", 8⟩]), size := 5, bytes := 64, zero := .agg #[.int .i64 0, .int .i64 0, .int .i64 0, .string ⟨#[]⟩, .slice none 0 0] } := by kernel_rfl
@[simp] theorem ty121 : tabOf Try.prog 121 = some { desc := (.struct #[⟨ "e", 32, 0, false, "", "prolix/arith", 0⟩, ⟨ "t", 29, 1, false, "", "prolix/arith", 8⟩]), size := 5, bytes := 64, zero := .agg #[.int .i64 0, .int .i64 0, .int .i64 0, .string ⟨#[]⟩, .slice none 0 0] } := by kernel_rfl
@[simp] theorem ty122 : tabOf Try.prog 122 = some { desc := (.func #[9, 3] #[4] false), size := 1, bytes := 8, zero := .nilFunc } := by kernel_rfl
@[simp] theorem ty123 : tabOf Try.prog 123 = some { desc := (.func #[9, 2] #[2, 32] false), size := 1, bytes := 8, zero := .nilFunc } := by kernel_rfl
@[simp] theorem ty124 : tabOf Try.prog 124 = some { desc := (.int .u64), size := 1, bytes := 8, zero := .int .u64 0 } := by kernel_rfl
@[simp] theorem ty126 : tabOf Try.prog 126 = some { desc := (.func #[124, 124] #[124, 124] false), size := 1, bytes := 8, zero := .nilFunc } := by kernel_rfl
@[simp] theorem ty127 : tabOf Try.prog 127 = some { desc := (.func #[2] #[124] false), size := 1, bytes := 8, zero := .nilFunc } := by kernel_rfl
@[simp] theorem ty128 : tabOf Try.prog 128 = some { desc := (.func #[4, 124] #[2, 32] false), size := 1, bytes := 8, zero := .nilFunc } := by kernel_rfl
@[simp] theorem ty129 : tabOf Try.prog 129 = some { desc := (.func #[27, 90] #[3] false), size := 1, bytes := 8, zero := .nilFunc } := by kernel_rfl
@[simp] theorem ty130 : tabOf Try.prog 130 = some { desc := (.int .u64), size := 1, bytes := 8, zero := .int .u64 0 } := by kernel_rfl
@[simp] theorem ty131 : tabOf Try.prog 131 = some { desc := (.func #[2, 4] #[2, 32] false), size := 1, bytes := 8, zero := .nilFunc } := by kernel_rfl
@[simp] theorem ty132 : tabOf Try.prog 132 = some { desc := (.func #[2, 2] #[2, 4] false), size := 1, bytes := 8, zero := .nilFunc } := by kernel_rfl
@[simp] theorem ty133 : tabOf Try.prog 133 = some { desc := (.func #[9, 2, 2] #[2] false), size := 1, bytes := 8, zero := .nilFunc } := by kernel_rfl
@[simp] theorem ty134 : tabOf Try.prog 134 = some { desc := (.func #[2, 3] #[2] false), size := 1, bytes := 8, zero := .nilFunc } := by kernel_rfl
@[simp] theorem ty135 : tabOf Try.prog 135 = some { desc := (.func #[] #[9] false), size := 1, bytes := 8, zero := .nilFunc } := by kernel_rfl
@[simp] theorem ty136 : tabOf Try.prog 136 = some { desc := (.struct #[⟨ "_interface", 17, 0, false, "", "runtime", 0⟩, ⟨ "concrete", 17, 1, false, "", "runtime", 8⟩, ⟨ "asserted", 17, 2, false, "", "runtime", 16⟩, ⟨ "missingMethod", 9, 3, false, "", "runtime", 24⟩]), size := 4, bytes := 40, zero := .agg #[.pointer none, .pointer none, .pointer none, .string ⟨#[]⟩] } := by kernel_rfl
@[simp] theorem ty137 : tabOf Try.prog 137 = some { desc := (.struct #[⟨ "_interface", 17, 0, false, "", "runtime", 0⟩, ⟨ "concrete", 17, 1, false, "", "runtime", 8⟩, ⟨ "asserted", 17, 2, false, "", "runtime", 16⟩, ⟨ "missingMethod", 9, 3, false, "", "runtime", 24⟩]), size := 4, bytes := 40, zero := .agg #[.pointer none, .pointer none, .pointer none, .string ⟨#[]⟩] } := by kernel_rfl
@[simp] theorem ty138 : tabOf Try.prog 138 = some { desc := (.array 0 16), size := 0, bytes := 0, zero := .agg #[] } := by kernel_rfl
@[simp] theorem ty139 : tabOf Try.prog 139 = some { desc := (.struct #[⟨ "_", 138, 0, false, "", "runtime", 0⟩]), size := 0, bytes := 0, zero := .agg #[] } := by kernel_rfl
@[simp] theorem ty140 : tabOf Try.prog 140 = some { desc := (.struct #[⟨ "_", 138, 0, false, "", "runtime", 0⟩]), size := 0, bytes := 0, zero := .agg #[] } := by kernel_rfl
@[simp] theorem ty141 : tabOf Try.prog 141 = some { desc := (.func #[] #[3] false), size := 1, bytes := 8, zero := .nilFunc } := by kernel_rfl
@[simp] theorem ty142 : tabOf Try.prog 142 = some { desc := (.int .u32), size := 1, bytes := 4, zero := .int .u32 0 } := by kernel_rfl
@[simp] theorem ty143 : tabOf Try.prog 143 = some { desc := (.int .u8), size := 1, bytes := 1, zero := .int .u8 0 } := by kernel_rfl
@[simp] theorem ty144 : tabOf Try.prog 144 = some { desc := (.int .u8), size := 1, bytes := 1, zero := .int .u8 0 } := by kernel_rfl
@[simp] theorem ty145 : tabOf Try.prog 145 = some { desc := (.func #[151, 151] #[4] false), size := 1, bytes := 8, zero := .nilFunc } := by kernel_rfl
@[simp] theorem ty146 : tabOf Try.prog 146 = some { desc := (.pointer 5), size := 1, bytes := 8, zero := .pointer none } := by kernel_rfl
@[simp] theorem ty147 : tabOf Try.prog 147 = some { desc := (.int .i32), size := 1, bytes := 4, zero := .int .i32 0 } := by kernel_rfl
@[simp] theorem ty148 : tabOf Try.prog 148 = some { desc := (.int .i32), size := 1, bytes := 4, zero := .int .i32 0 } := by kernel_rfl
@[simp] theorem ty149 : tabOf Try.prog 149 = some { desc := (.struct #[⟨ "Size_", 12, 0, false, "", "", 0⟩, ⟨ "PtrBytes", 12, 1, false, "", "", 8⟩, ⟨ "Hash", 142, 2, false, "", "", 16⟩, ⟨ "TFlag", 143, 3, false, "", "", 20⟩, ⟨ "Align_", 5, 4, false, "", "", 21⟩, ⟨ "FieldAlign_", 5, 5, false, "", "", 22⟩, ⟨ "Kind_", 144, 6, false, "", "", 23⟩, ⟨ "Equal", 145, 7, false, "", "", 24⟩, ⟨ "GCData", 146, 8, false, "", "", 32⟩, ⟨ "Str", 147, 9, false, "", "", 40⟩, ⟨ "PtrToThis", 148, 10, false, "", "", 44⟩]), size := 11, bytes := 48, zero := .agg #[.int .u64 0, .int .u64 0, .int .u32 0, .int .u8 0, .int .u8 0, .int .u8 0, .int .u8 0, .nilFunc, .pointer none, .int .i32 0, .int .i32 0] } := by kernel_rfl
@[simp] theorem ty150 : tabOf Try.prog 150 = some { desc := (.struct #[⟨ "Size_", 12, 0, false, "", "", 0⟩, ⟨ "PtrBytes", 12, 1, false, "", "", 8⟩, ⟨ "Hash", 142, 2, false, "", "", 16⟩, ⟨ "TFlag", 143, 3, false, "", "", 20⟩, ⟨ "Align_", 5, 4, false, "", "", 21⟩, ⟨ "FieldAlign_", 5, 5, false, "", "", 22⟩, ⟨ "Kind_", 144, 6, false, "", "", 23⟩, ⟨ "Equal", 145, 7, false, "", "", 24⟩, ⟨ "GCData", 146, 8, false, "", "", 32⟩, ⟨ "Str", 147, 9, false, "", "", 40⟩, ⟨ "PtrToThis", 148, 10, false, "", "", 44⟩]), size := 11, bytes := 48, zero := .agg #[.int .u64 0, .int .u64 0, .int .u32 0, .int .u8 0, .int .u8 0, .int .u8 0, .int .u8 0, .nilFunc, .pointer none, .int .i32 0, .int .i32 0] } := by kernel_rfl
@[simp] theorem ty151 : tabOf Try.prog 151 = some { desc := .unsafePointer, size := 1, bytes := 8, zero := .pointer none } := by kernel_rfl
@[simp] theorem fn3 : fnOf Try.prog 3 = some ⟨Try.f3.ntmps, Try.f3.results.toList, Try.f3.body.getD .skip⟩ := by kernel_rfl
@[simp] theorem fn4 : fnOf Try.prog 4 = some ⟨Try.f4.ntmps, Try.f4.results.toList, Try.f4.body.getD .skip⟩ := by kernel_rfl
@[simp] theorem fn5 : fnOf Try.prog 5 = some ⟨Try.f5.ntmps, Try.f5.results.toList, Try.f5.body.getD .skip⟩ := by kernel_rfl
@[simp] theorem fn6 : fnOf Try.prog 6 = some ⟨Try.f6.ntmps, Try.f6.results.toList, Try.f6.body.getD .skip⟩ := by kernel_rfl
@[simp] theorem fn7 : fnOf Try.prog 7 = some ⟨Try.f7.ntmps, Try.f7.results.toList, Try.f7.body.getD .skip⟩ := by kernel_rfl
@[simp] theorem fn8 : fnOf Try.prog 8 = some ⟨Try.f8.ntmps, Try.f8.results.toList, Try.f8.body.getD .skip⟩ := by kernel_rfl
@[simp] theorem fn9 : fnOf Try.prog 9 = some ⟨Try.f9.ntmps, Try.f9.results.toList, Try.f9.body.getD .skip⟩ := by kernel_rfl
@[simp] theorem fn10 : fnOf Try.prog 10 = some ⟨Try.f10.ntmps, Try.f10.results.toList, Try.f10.body.getD .skip⟩ := by kernel_rfl
@[simp] theorem fn11 : fnOf Try.prog 11 = some ⟨Try.f11.ntmps, Try.f11.results.toList, Try.f11.body.getD .skip⟩ := by kernel_rfl
@[simp] theorem fn12 : fnOf Try.prog 12 = some ⟨Try.f12.ntmps, Try.f12.results.toList, Try.f12.body.getD .skip⟩ := by kernel_rfl
@[simp] theorem fn13 : fnOf Try.prog 13 = some ⟨Try.f13.ntmps, Try.f13.results.toList, Try.f13.body.getD .skip⟩ := by kernel_rfl
@[simp] theorem fn14 : fnOf Try.prog 14 = some ⟨Try.f14.ntmps, Try.f14.results.toList, Try.f14.body.getD .skip⟩ := by kernel_rfl
@[simp] theorem fn15 : fnOf Try.prog 15 = some ⟨Try.f15.ntmps, Try.f15.results.toList, Try.f15.body.getD .skip⟩ := by kernel_rfl
@[simp] theorem fn16 : fnOf Try.prog 16 = some ⟨Try.f16.ntmps, Try.f16.results.toList, Try.f16.body.getD .skip⟩ := by kernel_rfl
@[simp] theorem fn17 : fnOf Try.prog 17 = some ⟨Try.f17.ntmps, Try.f17.results.toList, Try.f17.body.getD .skip⟩ := by kernel_rfl
@[simp] theorem fn18 : fnOf Try.prog 18 = some ⟨Try.f18.ntmps, Try.f18.results.toList, Try.f18.body.getD .skip⟩ := by kernel_rfl
@[simp] theorem fn19 : fnOf Try.prog 19 = some ⟨Try.f19.ntmps, Try.f19.results.toList, Try.f19.body.getD .skip⟩ := by kernel_rfl
@[simp] theorem fn20 : fnOf Try.prog 20 = some ⟨Try.f20.ntmps, Try.f20.results.toList, Try.f20.body.getD .skip⟩ := by kernel_rfl
@[simp] theorem fn21 : fnOf Try.prog 21 = some ⟨Try.f21.ntmps, Try.f21.results.toList, Try.f21.body.getD .skip⟩ := by kernel_rfl
@[simp] theorem fn22 : fnOf Try.prog 22 = some ⟨Try.f22.ntmps, Try.f22.results.toList, Try.f22.body.getD .skip⟩ := by kernel_rfl
@[simp] theorem fn23 : fnOf Try.prog 23 = some ⟨Try.f23.ntmps, Try.f23.results.toList, Try.f23.body.getD .skip⟩ := by kernel_rfl
@[simp] theorem fn24 : fnOf Try.prog 24 = some ⟨Try.f24.ntmps, Try.f24.results.toList, Try.f24.body.getD .skip⟩ := by kernel_rfl
@[simp] theorem fn25 : fnOf Try.prog 25 = some ⟨Try.f25.ntmps, Try.f25.results.toList, Try.f25.body.getD .skip⟩ := by kernel_rfl
@[simp] theorem fn26 : fnOf Try.prog 26 = some ⟨Try.f26.ntmps, Try.f26.results.toList, Try.f26.body.getD .skip⟩ := by kernel_rfl
@[simp] theorem fn27 : fnOf Try.prog 27 = some ⟨Try.f27.ntmps, Try.f27.results.toList, Try.f27.body.getD .skip⟩ := by kernel_rfl
@[simp] theorem fn28 : fnOf Try.prog 28 = some ⟨Try.f28.ntmps, Try.f28.results.toList, Try.f28.body.getD .skip⟩ := by kernel_rfl
@[simp] theorem fn29 : fnOf Try.prog 29 = some ⟨Try.f29.ntmps, Try.f29.results.toList, Try.f29.body.getD .skip⟩ := by kernel_rfl
@[simp] theorem fn30 : fnOf Try.prog 30 = some ⟨Try.f30.ntmps, Try.f30.results.toList, Try.f30.body.getD .skip⟩ := by kernel_rfl
@[simp] theorem fn31 : fnOf Try.prog 31 = some ⟨Try.f31.ntmps, Try.f31.results.toList, Try.f31.body.getD .skip⟩ := by kernel_rfl
@[simp] theorem fn32 : fnOf Try.prog 32 = some ⟨Try.f32.ntmps, Try.f32.results.toList, Try.f32.body.getD .skip⟩ := by kernel_rfl
@[simp] theorem fn33 : fnOf Try.prog 33 = some ⟨Try.f33.ntmps, Try.f33.results.toList, Try.f33.body.getD .skip⟩ := by kernel_rfl
@[simp] theorem fn34 : fnOf Try.prog 34 = some ⟨Try.f34.ntmps, Try.f34.results.toList, Try.f34.body.getD .skip⟩ := by kernel_rfl
@[simp] theorem fn35 : fnOf Try.prog 35 = some ⟨Try.f35.ntmps, Try.f35.results.toList, Try.f35.body.getD .skip⟩ := by kernel_rfl
@[simp] theorem fn36 : fnOf Try.prog 36 = some ⟨Try.f36.ntmps, Try.f36.results.toList, Try.f36.body.getD .skip⟩ := by kernel_rfl
@[simp] theorem fn37 : fnOf Try.prog 37 = some ⟨Try.f37.ntmps, Try.f37.results.toList, Try.f37.body.getD .skip⟩ := by kernel_rfl
@[simp] theorem fn38 : fnOf Try.prog 38 = some ⟨Try.f38.ntmps, Try.f38.results.toList, Try.f38.body.getD .skip⟩ := by kernel_rfl
@[simp] theorem fn39 : fnOf Try.prog 39 = some ⟨Try.f39.ntmps, Try.f39.results.toList, Try.f39.body.getD .skip⟩ := by kernel_rfl
@[simp] theorem fn40 : fnOf Try.prog 40 = some ⟨Try.f40.ntmps, Try.f40.results.toList, Try.f40.body.getD .skip⟩ := by kernel_rfl
@[simp] theorem fn41 : fnOf Try.prog 41 = some ⟨Try.f41.ntmps, Try.f41.results.toList, Try.f41.body.getD .skip⟩ := by kernel_rfl
@[simp] theorem fn42 : fnOf Try.prog 42 = some ⟨Try.f42.ntmps, Try.f42.results.toList, Try.f42.body.getD .skip⟩ := by kernel_rfl
@[simp] theorem fn43 : fnOf Try.prog 43 = some ⟨Try.f43.ntmps, Try.f43.results.toList, Try.f43.body.getD .skip⟩ := by kernel_rfl
@[simp] theorem fn44 : fnOf Try.prog 44 = some ⟨Try.f44.ntmps, Try.f44.results.toList, Try.f44.body.getD .skip⟩ := by kernel_rfl
@[simp] theorem fn45 : fnOf Try.prog 45 = some ⟨Try.f45.ntmps, Try.f45.results.toList, Try.f45.body.getD .skip⟩ := by kernel_rfl
@[simp] theorem fn46 : fnOf Try.prog 46 = some ⟨Try.f46.ntmps, Try.f46.results.toList, Try.f46.body.getD .skip⟩ := by kernel_rfl
@[simp] theorem fn47 : fnOf Try.prog 47 = some ⟨Try.f47.ntmps, Try.f47.results.toList, Try.f47.body.getD .skip⟩ := by kernel_rfl
@[simp] theorem fn48 : fnOf Try.prog 48 = some ⟨Try.f48.ntmps, Try.f48.results.toList, Try.f48.body.getD .skip⟩ := by kernel_rfl
@[simp] theorem fn49 : fnOf Try.prog 49 = some ⟨Try.f49.ntmps, Try.f49.results.toList, Try.f49.body.getD .skip⟩ := by kernel_rfl
@[simp] theorem fn50 : fnOf Try.prog 50 = some ⟨Try.f50.ntmps, Try.f50.results.toList, Try.f50.body.getD .skip⟩ := by kernel_rfl
@[simp] theorem fn51 : fnOf Try.prog 51 = some ⟨Try.f51.ntmps, Try.f51.results.toList, Try.f51.body.getD .skip⟩ := by kernel_rfl
@[simp] theorem fn52 : fnOf Try.prog 52 = some ⟨Try.f52.ntmps, Try.f52.results.toList, Try.f52.body.getD .skip⟩ := by kernel_rfl
@[simp] theorem fn53 : fnOf Try.prog 53 = some ⟨Try.f53.ntmps, Try.f53.results.toList, Try.f53.body.getD .skip⟩ := by kernel_rfl
@[simp] theorem fn54 : fnOf Try.prog 54 = some ⟨Try.f54.ntmps, Try.f54.results.toList, Try.f54.body.getD .skip⟩ := by kernel_rfl
@[simp] theorem fn55 : fnOf Try.prog 55 = some ⟨Try.f55.ntmps, Try.f55.results.toList, Try.f55.body.getD .skip⟩ := by kernel_rfl
@[simp] theorem fn56 : fnOf Try.prog 56 = some ⟨Try.f56.ntmps, Try.f56.results.toList, Try.f56.body.getD .skip⟩ := by kernel_rfl
@[simp] theorem fn57 : fnOf Try.prog 57 = some ⟨Try.f57.ntmps, Try.f57.results.toList, Try.f57.body.getD .skip⟩ := by kernel_rfl
@[simp] theorem fn58 : fnOf Try.prog 58 = some ⟨Try.f58.ntmps, Try.f58.results.toList, Try.f58.body.getD .skip⟩ := by kernel_rfl
@[simp] theorem fn59 : fnOf Try.prog 59 = some ⟨Try.f59.ntmps, Try.f59.results.toList, Try.f59.body.getD .skip⟩ := by kernel_rfl
@[simp] theorem fn60 : fnOf Try.prog 60 = some ⟨Try.f60.ntmps, Try.f60.results.toList, Try.f60.body.getD .skip⟩ := by kernel_rfl
@[simp] theorem fn61 : fnOf Try.prog 61 = some ⟨Try.f61.ntmps, Try.f61.results.toList, Try.f61.body.getD .skip⟩ := by kernel_rfl
@[simp] theorem fn62 : fnOf Try.prog 62 = some ⟨Try.f62.ntmps, Try.f62.results.toList, Try.f62.body.getD .skip⟩ := by kernel_rfl
@[simp] theorem fn63 : fnOf Try.prog 63 = some ⟨Try.f63.ntmps, Try.f63.results.toList, Try.f63.body.getD .skip⟩ := by kernel_rfl
@[simp] theorem fn64 : fnOf Try.prog 64 = some ⟨Try.f64.ntmps, Try.f64.results.toList, Try.f64.body.getD .skip⟩ := by kernel_rfl
@[simp] theorem fn65 : fnOf Try.prog 65 = some ⟨Try.f65.ntmps, Try.f65.results.toList, Try.f65.body.getD .skip⟩ := by kernel_rfl
@[simp] theorem fn66 : fnOf Try.prog 66 = some ⟨Try.f66.ntmps, Try.f66.results.toList, Try.f66.body.getD .skip⟩ := by kernel_rfl
@[simp] theorem fn67 : fnOf Try.prog 67 = some ⟨Try.f67.ntmps, Try.f67.results.toList, Try.f67.body.getD .skip⟩ := by kernel_rfl
@[simp] theorem fn68 : fnOf Try.prog 68 = some ⟨Try.f68.ntmps, Try.f68.results.toList, Try.f68.body.getD .skip⟩ := by kernel_rfl
@[simp] theorem fn69 : fnOf Try.prog 69 = some ⟨Try.f69.ntmps, Try.f69.results.toList, Try.f69.body.getD .skip⟩ := by kernel_rfl
@[simp] theorem fn70 : fnOf Try.prog 70 = some ⟨Try.f70.ntmps, Try.f70.results.toList, Try.f70.body.getD .skip⟩ := by kernel_rfl
@[simp] theorem fn71 : fnOf Try.prog 71 = some ⟨Try.f71.ntmps, Try.f71.results.toList, Try.f71.body.getD .skip⟩ := by kernel_rfl
@[simp] theorem fn72 : fnOf Try.prog 72 = some ⟨Try.f72.ntmps, Try.f72.results.toList, Try.f72.body.getD .skip⟩ := by kernel_rfl
@[simp] theorem fn73 : fnOf Try.prog 73 = some ⟨Try.f73.ntmps, Try.f73.results.toList, Try.f73.body.getD .skip⟩ := by kernel_rfl
@[simp] theorem fn74 : fnOf Try.prog 74 = some ⟨Try.f74.ntmps, Try.f74.results.toList, Try.f74.body.getD .skip⟩ := by kernel_rfl
@[simp] theorem fn75 : fnOf Try.prog 75 = some ⟨Try.f75.ntmps, Try.f75.results.toList, Try.f75.body.getD .skip⟩ := by kernel_rfl
@[simp] theorem fn76 : fnOf Try.prog 76 = some ⟨Try.f76.ntmps, Try.f76.results.toList, Try.f76.body.getD .skip⟩ := by kernel_rfl
@[simp] theorem fn77 : fnOf Try.prog 77 = some ⟨Try.f77.ntmps, Try.f77.results.toList, Try.f77.body.getD .skip⟩ := by kernel_rfl
@[simp] theorem fn78 : fnOf Try.prog 78 = some ⟨Try.f78.ntmps, Try.f78.results.toList, Try.f78.body.getD .skip⟩ := by kernel_rfl
@[simp] theorem fn79 : fnOf Try.prog 79 = some ⟨Try.f79.ntmps, Try.f79.results.toList, Try.f79.body.getD .skip⟩ := by kernel_rfl
@[simp] theorem fn80 : fnOf Try.prog 80 = some ⟨Try.f80.ntmps, Try.f80.results.toList, Try.f80.body.getD .skip⟩ := by kernel_rfl
@[simp] theorem fn81 : fnOf Try.prog 81 = some ⟨Try.f81.ntmps, Try.f81.results.toList, Try.f81.body.getD .skip⟩ := by kernel_rfl
@[simp] theorem fn82 : fnOf Try.prog 82 = some ⟨Try.f82.ntmps, Try.f82.results.toList, Try.f82.body.getD .skip⟩ := by kernel_rfl
@[simp] theorem fn83 : fnOf Try.prog 83 = some ⟨Try.f83.ntmps, Try.f83.results.toList, Try.f83.body.getD .skip⟩ := by kernel_rfl
@[simp] theorem fn84 : fnOf Try.prog 84 = some ⟨Try.f84.ntmps, Try.f84.results.toList, Try.f84.body.getD .skip⟩ := by kernel_rfl
@[simp] theorem fn85 : fnOf Try.prog 85 = some ⟨Try.f85.ntmps, Try.f85.results.toList, Try.f85.body.getD .skip⟩ := by kernel_rfl
@[simp] theorem fn86 : fnOf Try.prog 86 = some ⟨Try.f86.ntmps, Try.f86.results.toList, Try.f86.body.getD .skip⟩ := by kernel_rfl
@[simp] theorem fn87 : fnOf Try.prog 87 = some ⟨Try.f87.ntmps, Try.f87.results.toList, Try.f87.body.getD .skip⟩ := by kernel_rfl
@[simp] theorem fn88 : fnOf Try.prog 88 = some ⟨Try.f88.ntmps, Try.f88.results.toList, Try.f88.body.getD .skip⟩ := by kernel_rfl
@[simp] theorem fn89 : fnOf Try.prog 89 = some ⟨Try.f89.ntmps, Try.f89.results.toList, Try.f89.body.getD .skip⟩ := by kernel_rfl
@[simp] theorem fn90 : fnOf Try.prog 90 = some ⟨Try.f90.ntmps, Try.f90.results.toList, Try.f90.body.getD .skip⟩ := by kernel_rfl
@[simp] theorem fn91 : fnOf Try.prog 91 = some ⟨Try.f91.ntmps, Try.f91.results.toList, Try.f91.body.getD .skip⟩ := by kernel_rfl
@[simp] theorem fn92 : fnOf Try.prog 92 = some ⟨Try.f92.ntmps, Try.f92.results.toList, Try.f92.body.getD .skip⟩ := by kernel_rfl
@[simp] theorem fn93 : fnOf Try.prog 93 = some ⟨Try.f93.ntmps, Try.f93.results.toList, Try.f93.body.getD .skip⟩ := by kernel_rfl
@[simp] theorem fn94 : fnOf Try.prog 94 = some ⟨Try.f94.ntmps, Try.f94.results.toList, Try.f94.body.getD .skip⟩ := by kernel_rfl
@[simp] theorem fn95 : fnOf Try.prog 95 = some ⟨Try.f95.ntmps, Try.f95.results.toList, Try.f95.body.getD .skip⟩ := by kernel_rfl
@[simp] theorem fn96 : fnOf Try.prog 96 = some ⟨Try.f96.ntmps, Try.f96.results.toList, Try.f96.body.getD .skip⟩ := by kernel_rfl
@[simp] theorem fn97 : fnOf Try.prog 97 = some ⟨Try.f97.ntmps, Try.f97.results.toList, Try.f97.body.getD .skip⟩ := by kernel_rfl
@[simp] theorem fn98 : fnOf Try.prog 98 = some ⟨Try.f98.ntmps, Try.f98.results.toList, Try.f98.body.getD .skip⟩ := by kernel_rfl
@[simp] theorem fn99 : fnOf Try.prog 99 = some ⟨Try.f99.ntmps, Try.f99.results.toList, Try.f99.body.getD .skip⟩ := by kernel_rfl
@[simp] theorem fn100 : fnOf Try.prog 100 = some ⟨Try.f100.ntmps, Try.f100.results.toList, Try.f100.body.getD .skip⟩ := by kernel_rfl
@[simp] theorem fn101 : fnOf Try.prog 101 = some ⟨Try.f101.ntmps, Try.f101.results.toList, Try.f101.body.getD .skip⟩ := by kernel_rfl
@[simp] theorem fn102 : fnOf Try.prog 102 = some ⟨Try.f102.ntmps, Try.f102.results.toList, Try.f102.body.getD .skip⟩ := by kernel_rfl
@[simp] theorem fn103 : fnOf Try.prog 103 = some ⟨Try.f103.ntmps, Try.f103.results.toList, Try.f103.body.getD .skip⟩ := by kernel_rfl
@[simp] theorem fn104 : fnOf Try.prog 104 = some ⟨Try.f104.ntmps, Try.f104.results.toList, Try.f104.body.getD .skip⟩ := by kernel_rfl
@[simp] theorem fn105 : fnOf Try.prog 105 = some ⟨Try.f105.ntmps, Try.f105.results.toList, Try.f105.body.getD .skip⟩ := by kernel_rfl
@[simp] theorem fn106 : fnOf Try.prog 106 = some ⟨Try.f106.ntmps, Try.f106.results.toList, Try.f106.body.getD .skip⟩ := by kernel_rfl
@[simp] theorem fn107 : fnOf Try.prog 107 = some ⟨Try.f107.ntmps, Try.f107.results.toList, Try.f107.body.getD .skip⟩ := by kernel_rfl
@[simp] theorem fn108 : fnOf Try.prog 108 = some ⟨Try.f108.ntmps, Try.f108.results.toList, Try.f108.body.getD .skip⟩ := by kernel_rfl
@[simp] theorem fn109 : fnOf Try.prog 109 = some ⟨Try.f109.ntmps, Try.f109.results.toList, Try.f109.body.getD .skip⟩ := by kernel_rfl
@[simp] theorem fn110 : fnOf Try.prog 110 = some ⟨Try.f110.ntmps, Try.f110.results.toList, Try.f110.body.getD .skip⟩ := by kernel_rfl
@[simp] theorem fn111 : fnOf Try.prog 111 = some ⟨Try.f111.ntmps, Try.f111.results.toList, Try.f111.body.getD .skip⟩ := by kernel_rfl
@[simp] theorem fn112 : fnOf Try.prog 112 = some ⟨Try.f112.ntmps, Try.f112.results.toList, Try.f112.body.getD .skip⟩ := by kernel_rfl
@[simp] theorem fn113 : fnOf Try.prog 113 = some ⟨Try.f113.ntmps, Try.f113.results.toList, Try.f113.body.getD .skip⟩ := by kernel_rfl
@[simp] theorem fn114 : fnOf Try.prog 114 = some ⟨Try.f114.ntmps, Try.f114.results.toList, Try.f114.body.getD .skip⟩ := by kernel_rfl
@[simp] theorem fn115 : fnOf Try.prog 115 = some ⟨Try.f115.ntmps, Try.f115.results.toList, Try.f115.body.getD .skip⟩ := by kernel_rfl
@[simp] theorem fn116 : fnOf Try.prog 116 = some ⟨Try.f116.ntmps, Try.f116.results.toList, Try.f116.body.getD .skip⟩ := by kernel_rfl
@[simp] theorem fn117 : fnOf Try.prog 117 = some ⟨Try.f117.ntmps, Try.f117.results.toList, Try.f117.body.getD .skip⟩ := by kernel_rfl
@[simp] theorem fn118 : fnOf Try.prog 118 = some ⟨Try.f118.ntmps, Try.f118.results.toList, Try.f118.body.getD .skip⟩ := by kernel_rfl
@[simp] theorem fn119 : fnOf Try.prog 119 = some ⟨Try.f119.ntmps, Try.f119.results.toList, Try.f119.body.getD .skip⟩ := by kernel_rfl
@[simp] theorem fn120 : fnOf Try.prog 120 = some ⟨Try.f120.ntmps, Try.f120.results.toList, Try.f120.body.getD .skip⟩ := by kernel_rfl
@[simp] theorem fn122 : fnOf Try.prog 122 = some ⟨Try.f122.ntmps, Try.f122.results.toList, Try.f122.body.getD .skip⟩ := by kernel_rfl
@[simp] theorem fn123 : fnOf Try.prog 123 = some ⟨Try.f123.ntmps, Try.f123.results.toList, Try.f123.body.getD .skip⟩ := by kernel_rfl
@[simp] theorem fn124 : fnOf Try.prog 124 = some ⟨Try.f124.ntmps, Try.f124.results.toList, Try.f124.body.getD .skip⟩ := by kernel_rfl
@[simp] theorem fn125 : fnOf Try.prog 125 = some ⟨Try.f125.ntmps, Try.f125.results.toList, Try.f125.body.getD .skip⟩ := by kernel_rfl
@[simp] theorem fn126 : fnOf Try.prog 126 = some ⟨Try.f126.ntmps, Try.f126.results.toList, Try.f126.body.getD .skip⟩ := by kernel_rfl
@[simp] theorem fn127 : fnOf Try.prog 127 = some ⟨Try.f127.ntmps, Try.f127.results.toList, Try.f127.body.getD .skip⟩ := by kernel_rfl
@[simp] theorem fn128 : fnOf Try.prog 128 = some ⟨Try.f128.ntmps, Try.f128.results.toList, Try.f128.body.getD .skip⟩ := by kernel_rfl
@[simp] theorem fn129 : fnOf Try.prog 129 = some ⟨Try.f129.ntmps, Try.f129.results.toList, Try.f129.body.getD .skip⟩ := by kernel_rfl
@[simp] theorem fn130 : fnOf Try.prog 130 = some ⟨Try.f130.ntmps, Try.f130.results.toList, Try.f130.body.getD .skip⟩ := by kernel_rfl
theorem mixed : Try.prog.follows .mixedOrders = true := by kernel_rfl

end Go.Proofs.Yteebkkipeiggcaa
