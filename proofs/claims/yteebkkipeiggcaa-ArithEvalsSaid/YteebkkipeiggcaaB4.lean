/- The closed facts on the types and functions of this translation that the abstract machine asks for. Written by a program (vm.py) off the translation. -/
import Derived.Test.YteebkkipeiggcaaProg
import Derived.Test.YteebkkipeiggcaaB2
import Derived.Test.YteebkkipeiggcaaRows
import Derived.Test.YteebkkipeiggcaaB3
import Derived.Lib.Strings
import Derived.Lib.Slices
import Derived.Lib.Walk
import Derived.Lib.Bytealg
set_option linter.unusedVariables false
set_option linter.unusedSimpArgs false
namespace Go.Proofs.Yteebkkipeiggcaa
open Go Go.Vm

@[simp] theorem ty1 : tabOf Try.prog 1 = some { desc := (.func #[] #[] false), size := 1, bytes := 8, zero := .nilFunc } := by kernel_rfl
@[simp] theorem ty2 : tabOf Try.prog 2 = some { desc := (.int .i64), size := 1, bytes := 8, zero := .int .i64 0 } := by kernel_rfl
@[simp] theorem ty3 : tabOf Try.prog 3 = some { desc := (.int .i64), size := 1, bytes := 8, zero := .int .i64 0 } := by kernel_rfl
@[simp] theorem ty4 : tabOf Try.prog 4 = some { desc := .bool, size := 1, bytes := 1, zero := .bool false } := by kernel_rfl
@[simp] theorem ty5 : tabOf Try.prog 5 = some { desc := (.int .u8), size := 1, bytes := 1, zero := .int .u8 0 } := by kernel_rfl
@[simp] theorem ty6 : tabOf Try.prog 6 = some { desc := (.int .u8), size := 1, bytes := 1, zero := .int .u8 0 } := by kernel_rfl
@[simp] theorem ty7 : tabOf Try.prog 7 = some { desc := (.struct #[⟨ "x", 2, 0, false, "", "runtime", 0⟩, ⟨ "y", 3, 1, false, "", "runtime", 8⟩, ⟨ "signed", 4, 2, false, "", "runtime", 16⟩, ⟨ "code", 6, 3, false, "", "runtime", 17⟩]), size := 4, bytes := 24, zero := .agg #[.int .i64 0, .int .i64 0, .bool false, .int .u8 0] } := by kernel_rfl
@[simp] theorem ty8 : tabOf Try.prog 8 = some { desc := (.struct #[⟨ "x", 2, 0, false, "", "runtime", 0⟩, ⟨ "y", 3, 1, false, "", "runtime", 8⟩, ⟨ "signed", 4, 2, false, "", "runtime", 16⟩, ⟨ "code", 6, 3, false, "", "runtime", 17⟩]), size := 4, bytes := 24, zero := .agg #[.int .i64 0, .int .i64 0, .bool false, .int .u8 0] } := by kernel_rfl
@[simp] theorem ty9 : tabOf Try.prog 9 = some { desc := .string, size := 1, bytes := 16, zero := .string ⟨#[]⟩ } := by kernel_rfl
@[simp] theorem ty10 : tabOf Try.prog 10 = some { desc := .string, size := 1, bytes := 16, zero := .string ⟨#[]⟩ } := by kernel_rfl
@[simp] theorem ty11 : tabOf Try.prog 11 = some { desc := .string, size := 1, bytes := 16, zero := .string ⟨#[]⟩ } := by kernel_rfl
@[simp] theorem ty12 : tabOf Try.prog 12 = some { desc := (.int .u64), size := 1, bytes := 8, zero := .int .u64 0 } := by kernel_rfl
@[simp] theorem ty13 : tabOf Try.prog 13 = some { desc := (.struct #[⟨ "msg", 9, 0, false, "", "runtime", 0⟩, ⟨ "addr", 12, 1, false, "", "runtime", 16⟩]), size := 2, bytes := 24, zero := .agg #[.string ⟨#[]⟩, .int .u64 0] } := by kernel_rfl
@[simp] theorem ty14 : tabOf Try.prog 14 = some { desc := (.struct #[⟨ "msg", 9, 0, false, "", "runtime", 0⟩, ⟨ "addr", 12, 1, false, "", "runtime", 16⟩]), size := 2, bytes := 24, zero := .agg #[.string ⟨#[]⟩, .int .u64 0] } := by kernel_rfl
@[simp] theorem ty15 : tabOf Try.prog 15 = some { desc := (.pointer 137), size := 1, bytes := 8, zero := .pointer none } := by kernel_rfl
@[simp] theorem ty16 : tabOf Try.prog 16 = some { desc := (.pointer 140), size := 1, bytes := 8, zero := .pointer none } := by kernel_rfl
@[simp] theorem ty17 : tabOf Try.prog 17 = some { desc := (.pointer 150), size := 1, bytes := 8, zero := .pointer none } := by kernel_rfl
@[simp] theorem ty18 : tabOf Try.prog 18 = some { desc := (.struct #[⟨ "typ", 17, 0, false, "", "internal/runtime/maps", 0⟩]), size := 1, bytes := 8, zero := .agg #[.pointer none] } := by kernel_rfl
@[simp] theorem ty19 : tabOf Try.prog 19 = some { desc := (.struct #[⟨ "typ", 17, 0, false, "", "internal/runtime/maps", 0⟩]), size := 1, bytes := 8, zero := .agg #[.pointer none] } := by kernel_rfl
@[simp] theorem ty20 : tabOf Try.prog 20 = some { desc := (.interface #[]), size := 1, bytes := 16, zero := .nilIface } := by kernel_rfl
@[simp] theorem ty21 : tabOf Try.prog 21 = some { desc := (.int .i32), size := 1, bytes := 4, zero := .int .i32 0 } := by kernel_rfl
@[simp] theorem ty22 : tabOf Try.prog 22 = some { desc := (.slice 107), size := 1, bytes := 24, zero := .slice none 0 0 } := by kernel_rfl
@[simp] theorem ty23 : tabOf Try.prog 23 = some { desc := (.struct #[⟨ "E", 3, 0, false, "", "", 0⟩, ⟨ "What", 9, 1, false, "", "", 8⟩, ⟨ "L", 22, 2, false, "", "", 24⟩, ⟨ "Args", 3, 3, false, "", "", 48⟩]), size := 4, bytes := 56, zero := .agg #[.int .i64 0, .string ⟨#[]⟩, .slice none 0 0, .int .i64 0] } := by kernel_rfl
@[simp] theorem ty24 : tabOf Try.prog 24 = some { desc := (.struct #[⟨ "E", 3, 0, false, "", "", 0⟩, ⟨ "What", 9, 1, false, "", "", 8⟩, ⟨ "L", 22, 2, false, "", "", 24⟩, ⟨ "Args", 3, 3, false, "", "", 48⟩]), size := 4, bytes := 56, zero := .agg #[.int .i64 0, .string ⟨#[]⟩, .slice none 0 0, .int .i64 0] } := by kernel_rfl
@[simp] theorem ty25 : tabOf Try.prog 25 = some { desc := (.func #[] #[4] false), size := 1, bytes := 8, zero := .nilFunc } := by kernel_rfl
@[simp] theorem ty26 : tabOf Try.prog 26 = some { desc := (.func #[22] #[4] false), size := 1, bytes := 8, zero := .nilFunc } := by kernel_rfl
@[simp] theorem ty27 : tabOf Try.prog 27 = some { desc := (.slice 29), size := 1, bytes := 24, zero := .slice none 0 0 } := by kernel_rfl
@[simp] theorem ty28 : tabOf Try.prog 28 = some { desc := (.struct #[⟨ "Kind", 3, 0, false, "", "", 0⟩, ⟨ "N", 2, 1, false, "", "", 8⟩, ⟨ "S", 9, 2, false, "", "", 16⟩, ⟨ "Args", 27, 3, false, "", "", 32⟩]), size := 4, bytes := 56, zero := .agg #[.int .i64 0, .int .i64 0, .string ⟨#[]⟩, .slice none 0 0] } := by kernel_rfl
@[simp] theorem ty29 : tabOf Try.prog 29 = some { desc := (.struct #[⟨ "Kind", 3, 0, false, "", "", 0⟩, ⟨ "N", 2, 1, false, "", "", 8⟩, ⟨ "S", 9, 2, false, "", "", 16⟩, ⟨ "Args", 27, 3, false, "", "", 32⟩]), size := 4, bytes := 56, zero := .agg #[.int .i64 0, .int .i64 0, .string ⟨#[]⟩, .slice none 0 0] } := by kernel_rfl
@[simp] theorem ty30 : tabOf Try.prog 30 = some { desc := (.func #[22] #[29] false), size := 1, bytes := 8, zero := .nilFunc } := by kernel_rfl
@[simp] theorem ty31 : tabOf Try.prog 31 = some { desc := (.func #[32, 9, 29] #[29] false), size := 1, bytes := 8, zero := .nilFunc } := by kernel_rfl
@[simp] theorem ty32 : tabOf Try.prog 32 = some { desc := (.int .i64), size := 1, bytes := 8, zero := .int .i64 0 } := by kernel_rfl
@[simp] theorem ty33 : tabOf Try.prog 33 = some { desc := (.func #[29, 29] #[4] false), size := 1, bytes := 8, zero := .nilFunc } := by kernel_rfl
@[simp] theorem ty34 : tabOf Try.prog 34 = some { desc := (.func #[29, 9, 3] #[29] false), size := 1, bytes := 8, zero := .nilFunc } := by kernel_rfl
@[simp] theorem ty35 : tabOf Try.prog 35 = some { desc := (.func #[9, 3] #[29] false), size := 1, bytes := 8, zero := .nilFunc } := by kernel_rfl
@[simp] theorem ty36 : tabOf Try.prog 36 = some { desc := (.func #[9, 9, 3] #[29] false), size := 1, bytes := 8, zero := .nilFunc } := by kernel_rfl
@[simp] theorem ty37 : tabOf Try.prog 37 = some { desc := (.func #[24] #[4] false), size := 1, bytes := 8, zero := .nilFunc } := by kernel_rfl
@[simp] theorem ty38 : tabOf Try.prog 38 = some { desc := (.func #[9, 5] #[4] false), size := 1, bytes := 8, zero := .nilFunc } := by kernel_rfl
@[simp] theorem ty39 : tabOf Try.prog 39 = some { desc := (.func #[29, 29] #[3] false), size := 1, bytes := 8, zero := .nilFunc } := by kernel_rfl
@[simp] theorem ty40 : tabOf Try.prog 40 = some { desc := (.func #[22, 22, 22] #[4] false), size := 1, bytes := 8, zero := .nilFunc } := by kernel_rfl
@[simp] theorem ty41 : tabOf Try.prog 41 = some { desc := (.func #[29] #[29] false), size := 1, bytes := 8, zero := .nilFunc } := by kernel_rfl
@[simp] theorem ty42 : tabOf Try.prog 42 = some { desc := (.slice 2), size := 1, bytes := 24, zero := .slice none 0 0 } := by kernel_rfl
@[simp] theorem ty43 : tabOf Try.prog 43 = some { desc := (.func #[29] #[42] false), size := 1, bytes := 8, zero := .nilFunc } := by kernel_rfl
@[simp] theorem ty44 : tabOf Try.prog 44 = some { desc := (.func #[29] #[3] false), size := 1, bytes := 8, zero := .nilFunc } := by kernel_rfl
@[simp] theorem ty45 : tabOf Try.prog 45 = some { desc := (.func #[9, 27] #[29] true), size := 1, bytes := 8, zero := .nilFunc } := by kernel_rfl
@[simp] theorem ty46 : tabOf Try.prog 46 = some { desc := (.func #[22, 22] #[4] false), size := 1, bytes := 8, zero := .nilFunc } := by kernel_rfl
@[simp] theorem ty48 : tabOf Try.prog 48 = some { desc := (.func #[29] #[27, 29] false), size := 1, bytes := 8, zero := .nilFunc } := by kernel_rfl
@[simp] theorem ty49 : tabOf Try.prog 49 = some { desc := (.func #[27, 27] #[4] false), size := 1, bytes := 8, zero := .nilFunc } := by kernel_rfl
@[simp] theorem ty50 : tabOf Try.prog 50 = some { desc := (.array 7 32), size := 7, bytes := 56, zero := .agg #[.int .i64 0, .int .i64 0, .int .i64 0, .int .i64 0, .int .i64 0, .int .i64 0, .int .i64 0] } := by kernel_rfl
@[simp] theorem ty51 : tabOf Try.prog 51 = some { desc := (.func #[29] #[32] false), size := 1, bytes := 8, zero := .nilFunc } := by kernel_rfl
@[simp] theorem ty52 : tabOf Try.prog 52 = some { desc := (.slice 32), size := 1, bytes := 24, zero := .slice none 0 0 } := by kernel_rfl
@[simp] theorem ty53 : tabOf Try.prog 53 = some { desc := (.func #[9, 22] #[4] false), size := 1, bytes := 8, zero := .nilFunc } := by kernel_rfl
@[simp] theorem ty54 : tabOf Try.prog 54 = some { desc := (.slice 22), size := 1, bytes := 24, zero := .slice none 0 0 } := by kernel_rfl
@[simp] theorem ty55 : tabOf Try.prog 55 = some { desc := (.func #[27, 29] #[29] false), size := 1, bytes := 8, zero := .nilFunc } := by kernel_rfl
@[simp] theorem ty56 : tabOf Try.prog 56 = some { desc := (.func #[54, 22] #[4] false), size := 1, bytes := 8, zero := .nilFunc } := by kernel_rfl
@[simp] theorem ty58 : tabOf Try.prog 58 = some { desc := (.func #[29] #[2, 32, 29] false), size := 1, bytes := 8, zero := .nilFunc } := by kernel_rfl
@[simp] theorem ty60 : tabOf Try.prog 60 = some { desc := (.func #[9, 2, 2] #[2, 32] false), size := 1, bytes := 8, zero := .nilFunc } := by kernel_rfl
@[simp] theorem ty61 : tabOf Try.prog 61 = some { desc := (.func #[2] #[29] false), size := 1, bytes := 8, zero := .nilFunc } := by kernel_rfl
@[simp] theorem ty62 : tabOf Try.prog 62 = some { desc := (.func #[9, 22, 22] #[4] false), size := 1, bytes := 8, zero := .nilFunc } := by kernel_rfl
@[simp] theorem ty64 : tabOf Try.prog 64 = some { desc := (.func #[22] #[29, 3] false), size := 1, bytes := 8, zero := .nilFunc } := by kernel_rfl
@[simp] theorem ty65 : tabOf Try.prog 65 = some { desc := (.array 4 29), size := 16, bytes := 224, zero := .agg #[.int .i64 0, .int .i64 0, .string ⟨#[]⟩, .slice none 0 0, .int .i64 0, .int .i64 0, .string ⟨#[]⟩, .slice none 0 0, .int .i64 0, .int .i64 0, .string ⟨#[]⟩, .slice none 0 0, .int .i64 0, .int .i64 0, .string ⟨#[]⟩, .slice none 0 0] } := by kernel_rfl
@[simp] theorem ty67 : tabOf Try.prog 67 = some { desc := (.func #[9, 29, 29] #[4, 32, 29] false), size := 1, bytes := 8, zero := .nilFunc } := by kernel_rfl
@[simp] theorem ty68 : tabOf Try.prog 68 = some { desc := (.func #[22, 22, 9] #[4] false), size := 1, bytes := 8, zero := .nilFunc } := by kernel_rfl
@[simp] theorem ty69 : tabOf Try.prog 69 = some { desc := (.array 6 4), size := 6, bytes := 6, zero := .agg #[.bool false, .bool false, .bool false, .bool false, .bool false, .bool false] } := by kernel_rfl
@[simp] theorem ty70 : tabOf Try.prog 70 = some { desc := (.array 6 9), size := 6, bytes := 96, zero := .agg #[.string ⟨#[]⟩, .string ⟨#[]⟩, .string ⟨#[]⟩, .string ⟨#[]⟩, .string ⟨#[]⟩, .string ⟨#[]⟩] } := by kernel_rfl
@[simp] theorem ty71 : tabOf Try.prog 71 = some { desc := (.slice 4), size := 1, bytes := 24, zero := .slice none 0 0 } := by kernel_rfl
@[simp] theorem ty72 : tabOf Try.prog 72 = some { desc := (.struct #[⟨ "name", 9, 0, false, "", "prolix/fault", 0⟩, ⟨ "takes", 3, 1, false, "", "prolix/fault", 16⟩, ⟨ "own", 9, 2, false, "", "prolix/fault", 24⟩]), size := 3, bytes := 40, zero := .agg #[.string ⟨#[]⟩, .int .i64 0, .string ⟨#[]⟩] } := by kernel_rfl
@[simp] theorem ty73 : tabOf Try.prog 73 = some { desc := (.struct #[⟨ "name", 9, 0, false, "", "prolix/fault", 0⟩, ⟨ "takes", 3, 1, false, "", "prolix/fault", 16⟩, ⟨ "own", 9, 2, false, "", "prolix/fault", 24⟩]), size := 3, bytes := 40, zero := .agg #[.string ⟨#[]⟩, .int .i64 0, .string ⟨#[]⟩] } := by kernel_rfl
@[simp] theorem ty75 : tabOf Try.prog 75 = some { desc := (.map 32 73), size := 1, bytes := 8, zero := .map none } := by kernel_rfl
@[simp] theorem ty76 : tabOf Try.prog 76 = some { desc := (.func #[] #[75] false), size := 1, bytes := 8, zero := .nilFunc } := by kernel_rfl
@[simp] theorem ty77 : tabOf Try.prog 77 = some { desc := (.func #[9] #[29] false), size := 1, bytes := 8, zero := .nilFunc } := by kernel_rfl
@[simp] theorem ty78 : tabOf Try.prog 78 = some { desc := (.func #[3, 3] #[3] false), size := 1, bytes := 8, zero := .nilFunc } := by kernel_rfl
@[simp] theorem ty79 : tabOf Try.prog 79 = some { desc := (.func #[2, 2] #[3] false), size := 1, bytes := 8, zero := .nilFunc } := by kernel_rfl
@[simp] theorem ty80 : tabOf Try.prog 80 = some { desc := (.func #[116] #[3] true), size := 1, bytes := 8, zero := .nilFunc } := by kernel_rfl
@[simp] theorem ty81 : tabOf Try.prog 81 = some { desc := (.func #[9, 9] #[3] false), size := 1, bytes := 8, zero := .nilFunc } := by kernel_rfl
@[simp] theorem ty82 : tabOf Try.prog 82 = some { desc := (.func #[27, 27, 39] #[3] false), size := 1, bytes := 8, zero := .nilFunc } := by kernel_rfl
@[simp] theorem ty83 : tabOf Try.prog 83 = some { desc := (.pointer 86), size := 1, bytes := 8, zero := .pointer none } := by kernel_rfl
@[simp] theorem ty84 : tabOf Try.prog 84 = some { desc := (.map 2 2), size := 1, bytes := 8, zero := .map none } := by kernel_rfl
@[simp] theorem ty85 : tabOf Try.prog 85 = some { desc := (.struct #[⟨ "l", 42, 0, false, "", "prolix/term", 0⟩, ⟨ "at", 84, 1, false, "", "prolix/term", 24⟩]), size := 2, bytes := 32, zero := .agg #[.slice none 0 0, .map none] } := by kernel_rfl
@[simp] theorem ty86 : tabOf Try.prog 86 = some { desc := (.struct #[⟨ "l", 42, 0, false, "", "prolix/term", 0⟩, ⟨ "at", 84, 1, false, "", "prolix/term", 24⟩]), size := 2, bytes := 32, zero := .agg #[.slice none 0 0, .map none] } := by kernel_rfl
@[simp] theorem ty87 : tabOf Try.prog 87 = some { desc := (.func #[29, 88] #[29] false), size := 1, bytes := 8, zero := .nilFunc } := by kernel_rfl
@[simp] theorem ty88 : tabOf Try.prog 88 = some { desc := (.func #[2] #[2] false), size := 1, bytes := 8, zero := .nilFunc } := by kernel_rfl
@[simp] theorem ty89 : tabOf Try.prog 89 = some { desc := (.func #[42, 2] #[3] false), size := 1, bytes := 8, zero := .nilFunc } := by kernel_rfl
@[simp] theorem ty90 : tabOf Try.prog 90 = some { desc := (.func #[29] #[4] false), size := 1, bytes := 8, zero := .nilFunc } := by kernel_rfl
@[simp] theorem ty91 : tabOf Try.prog 91 = some { desc := (.func #[29, 42] #[29] false), size := 1, bytes := 8, zero := .nilFunc } := by kernel_rfl
@[simp] theorem ty92 : tabOf Try.prog 92 = some { desc := (.func #[29, 90] #[4] false), size := 1, bytes := 8, zero := .nilFunc } := by kernel_rfl
@[simp] theorem ty93 : tabOf Try.prog 93 = some { desc := (.func #[119] #[] false), size := 1, bytes := 8, zero := .nilFunc } := by kernel_rfl
@[simp] theorem ty94 : tabOf Try.prog 94 = some { desc := (.func #[119] #[] false), size := 1, bytes := 8, zero := .nilFunc } := by kernel_rfl
@[simp] theorem ty95 : tabOf Try.prog 95 = some { desc := (.func #[27] #[94] false), size := 1, bytes := 8, zero := .nilFunc } := by kernel_rfl
@[simp] theorem ty96 : tabOf Try.prog 96 = some { desc := (.func #[97, 98] #[] false), size := 1, bytes := 8, zero := .nilFunc } := by kernel_rfl
@[simp] theorem ty97 : tabOf Try.prog 97 = some { desc := (.pointer 32), size := 1, bytes := 8, zero := .pointer none } := by kernel_rfl
@[simp] theorem ty98 : tabOf Try.prog 98 = some { desc := (.pointer 29), size := 1, bytes := 8, zero := .pointer none } := by kernel_rfl
@[simp] theorem ty99 : tabOf Try.prog 99 = some { desc := (.func #[29] #[2] false), size := 1, bytes := 8, zero := .nilFunc } := by kernel_rfl
@[simp] theorem ty100 : tabOf Try.prog 100 = some { desc := (.func #[103] #[2, 32] false), size := 1, bytes := 8, zero := .nilFunc } := by kernel_rfl
@[simp] theorem ty101 : tabOf Try.prog 101 = some { desc := (.func #[] #[2, 32] false), size := 1, bytes := 8, zero := .nilFunc } := by kernel_rfl
@[simp] theorem ty102 : tabOf Try.prog 102 = some { desc := (.struct #[⟨ "a", 2, 0, false, "", "prolix/num", 0⟩, ⟨ "b", 2, 1, false, "", "prolix/num", 8⟩]), size := 2, bytes := 16, zero := .agg #[.int .i64 0, .int .i64 0] } := by kernel_rfl
@[simp] theorem ty103 : tabOf Try.prog 103 = some { desc := (.struct #[⟨ "a", 2, 0, false, "", "prolix/num", 0⟩, ⟨ "b", 2, 1, false, "", "prolix/num", 8⟩]), size := 2, bytes := 16, zero := .agg #[.int .i64 0, .int .i64 0] } := by kernel_rfl
@[simp] theorem ty104 : tabOf Try.prog 104 = some { desc := (.map 9 100), size := 1, bytes := 8, zero := .map none } := by kernel_rfl
@[simp] theorem ty106 : tabOf Try.prog 106 = some { desc := (.struct #[⟨ "Kind", 3, 0, false, "", "", 0⟩, ⟨ "N", 2, 1, false, "", "", 8⟩, ⟨ "S", 9, 2, false, "", "", 16⟩, ⟨ "Args", 5, 3, false, "", "", 32⟩]), size := 4, bytes := 40, zero := .agg #[.int .i64 0, .int .i64 0, .string ⟨#[]⟩, .int .u8 0] } := by kernel_rfl
@[simp] theorem ty107 : tabOf Try.prog 107 = some { desc := (.struct #[⟨ "Kind", 3, 0, false, "", "", 0⟩, ⟨ "N", 2, 1, false, "", "", 8⟩, ⟨ "S", 9, 2, false, "", "", 16⟩, ⟨ "Args", 5, 3, false, "", "", 32⟩]), size := 4, bytes := 40, zero := .agg #[.int .i64 0, .int .i64 0, .string ⟨#[]⟩, .int .u8 0] } := by kernel_rfl
@[simp] theorem ty108 : tabOf Try.prog 108 = some { desc := (.func #[110] #[4] false), size := 1, bytes := 8, zero := .nilFunc } := by kernel_rfl
@[simp] theorem ty109 : tabOf Try.prog 109 = some { desc := (.struct #[⟨ "a", 2, 0, false, "", "prolix/arith", 0⟩, ⟨ "b", 2, 1, false, "", "prolix/arith", 8⟩]), size := 2, bytes := 16, zero := .agg #[.int .i64 0, .int .i64 0] } := by kernel_rfl
@[simp] theorem ty110 : tabOf Try.prog 110 = some { desc := (.struct #[⟨ "a", 2, 0, false, "", "prolix/arith", 0⟩, ⟨ "b", 2, 1, false, "", "prolix/arith", 8⟩]), size := 2, bytes := 16, zero := .agg #[.int .i64 0, .int .i64 0] } := by kernel_rfl
@[simp] theorem ty111 : tabOf Try.prog 111 = some { desc := (.map 9 108), size := 1, bytes := 8, zero := .map none } := by kernel_rfl
@[simp] theorem ty113 : tabOf Try.prog 113 = some { desc := (.func #[27] #[27] false), size := 1, bytes := 8, zero := .nilFunc } := by kernel_rfl
@[simp] theorem ty114 : tabOf Try.prog 114 = some { desc := (.func #[3] #[4] false), size := 1, bytes := 8, zero := .nilFunc } := by kernel_rfl
@[simp] theorem ty115 : tabOf Try.prog 115 = some { desc := (.func #[2] #[4] false), size := 1, bytes := 8, zero := .nilFunc } := by kernel_rfl
@[simp] theorem ty116 : tabOf Try.prog 116 = some { desc := (.slice 3), size := 1, bytes := 24, zero := .slice none 0 0 } := by kernel_rfl
@[simp] theorem ty118 : tabOf Try.prog 118 = some { desc := (.func #[27, 90] #[4] false), size := 1, bytes := 8, zero := .nilFunc } := by kernel_rfl
@[simp] theorem ty119 : tabOf Try.prog 119 = some { desc := (.func #[3, 29] #[4] false), size := 1, bytes := 8, zero := .nilFunc } := by kernel_rfl
@[simp] theorem ty120 : tabOf Try.prog 120 = some { desc := (.struct #[⟨ "e", 32, 0, false, "", "prolix/arith", 0⟩, ⟨ "t", 29, 1, false, "", "prolix/arith", 8⟩]), size := 5, bytes := 64, zero := .agg #[.int .i64 0, .int .i64 0, .int .i64 0, .string ⟨#[]⟩, .slice none 0 0] } := by kernel_rfl
@[simp] theorem ty121 : tabOf Try.prog 121 = some { desc := (.struct #[⟨ "e", 32, 0, false, "", "prolix/arith", 0⟩, ⟨ "t", 29, 1, false, "", "prolix/arith", 8⟩]), size := 5, bytes := 64, zero := .agg #[.int .i64 0, .int .i64 0, .int .i64 0, .string ⟨#[]⟩, .slice none 0 0] } := by kernel_rfl
@[simp] theorem ty122 : tabOf Try.prog 122 = some { desc := (.func #[9, 3] #[4] false), size := 1, bytes := 8, zero := .nilFunc } := by kernel_rfl
@[simp] theorem ty123 : tabOf Try.prog 123 = some { desc := (.func #[9, 2] #[2, 32] false), size := 1, bytes := 8, zero := .nilFunc } := by kernel_rfl
@[simp] theorem ty124 : tabOf Try.prog 124 = some { desc := (.int .u64), size := 1, bytes := 8, zero := .int .u64 0 } := by kernel_rfl
@[simp] theorem ty126 : tabOf Try.prog 126 = some { desc := (.func #[124, 124] #[124, 124] false), size := 1, bytes := 8, zero := .nilFunc } := by kernel_rfl
@[simp] theorem ty127 : tabOf Try.prog 127 = some { desc := (.func #[2] #[124] false), size := 1, bytes := 8, zero := .nilFunc } := by kernel_rfl
@[simp] theorem ty128 : tabOf Try.prog 128 = some { desc := (.func #[4, 124] #[2, 32] false), size := 1, bytes := 8, zero := .nilFunc } := by kernel_rfl
@[simp] theorem ty129 : tabOf Try.prog 129 = some { desc := (.func #[27, 90] #[3] false), size := 1, bytes := 8, zero := .nilFunc } := by kernel_rfl
@[simp] theorem ty130 : tabOf Try.prog 130 = some { desc := (.int .u64), size := 1, bytes := 8, zero := .int .u64 0 } := by kernel_rfl
@[simp] theorem ty131 : tabOf Try.prog 131 = some { desc := (.func #[2, 4] #[2, 32] false), size := 1, bytes := 8, zero := .nilFunc } := by kernel_rfl
@[simp] theorem ty132 : tabOf Try.prog 132 = some { desc := (.func #[2, 2] #[2, 4] false), size := 1, bytes := 8, zero := .nilFunc } := by kernel_rfl
@[simp] theorem ty133 : tabOf Try.prog 133 = some { desc := (.func #[9, 2, 2] #[2] false), size := 1, bytes := 8, zero := .nilFunc } := by kernel_rfl
@[simp] theorem ty134 : tabOf Try.prog 134 = some { desc := (.func #[2, 3] #[2] false), size := 1, bytes := 8, zero := .nilFunc } := by kernel_rfl
@[simp] theorem ty135 : tabOf Try.prog 135 = some { desc := (.func #[] #[9] false), size := 1, bytes := 8, zero := .nilFunc } := by kernel_rfl
@[simp] theorem ty136 : tabOf Try.prog 136 = some { desc := (.struct #[⟨ "_interface", 17, 0, false, "", "runtime", 0⟩, ⟨ "concrete", 17, 1, false, "", "runtime", 8⟩, ⟨ "asserted", 17, 2, false, "", "runtime", 16⟩, ⟨ "missingMethod", 9, 3, false, "", "runtime", 24⟩]), size := 4, bytes := 40, zero := .agg #[.pointer none, .pointer none, .pointer none, .string ⟨#[]⟩] } := by kernel_rfl
@[simp] theorem ty137 : tabOf Try.prog 137 = some { desc := (.struct #[⟨ "_interface", 17, 0, false, "", "runtime", 0⟩, ⟨ "concrete", 17, 1, false, "", "runtime", 8⟩, ⟨ "asserted", 17, 2, false, "", "runtime", 16⟩, ⟨ "missingMethod", 9, 3, false, "", "runtime", 24⟩]), size := 4, bytes := 40, zero := .agg #[.pointer none, .pointer none, .pointer none, .string ⟨#[]⟩] } := by kernel_rfl
@[simp] theorem ty138 : tabOf Try.prog 138 = some { desc := (.array 0 16), size := 0, bytes := 0, zero := .agg #[] } := by kernel_rfl
@[simp] theorem ty139 : tabOf Try.prog 139 = some { desc := (.struct #[⟨ "_", 138, 0, false, "", "runtime", 0⟩]), size := 0, bytes := 0, zero := .agg #[] } := by kernel_rfl
@[simp] theorem ty140 : tabOf Try.prog 140 = some { desc := (.struct #[⟨ "_", 138, 0, false, "", "runtime", 0⟩]), size := 0, bytes := 0, zero := .agg #[] } := by kernel_rfl
@[simp] theorem ty141 : tabOf Try.prog 141 = some { desc := (.func #[] #[3] false), size := 1, bytes := 8, zero := .nilFunc } := by kernel_rfl
@[simp] theorem ty142 : tabOf Try.prog 142 = some { desc := (.int .u32), size := 1, bytes := 4, zero := .int .u32 0 } := by kernel_rfl
@[simp] theorem ty143 : tabOf Try.prog 143 = some { desc := (.int .u8), size := 1, bytes := 1, zero := .int .u8 0 } := by kernel_rfl
@[simp] theorem ty144 : tabOf Try.prog 144 = some { desc := (.int .u8), size := 1, bytes := 1, zero := .int .u8 0 } := by kernel_rfl
@[simp] theorem ty145 : tabOf Try.prog 145 = some { desc := (.func #[151, 151] #[4] false), size := 1, bytes := 8, zero := .nilFunc } := by kernel_rfl
@[simp] theorem ty146 : tabOf Try.prog 146 = some { desc := (.pointer 5), size := 1, bytes := 8, zero := .pointer none } := by kernel_rfl
@[simp] theorem ty147 : tabOf Try.prog 147 = some { desc := (.int .i32), size := 1, bytes := 4, zero := .int .i32 0 } := by kernel_rfl
@[simp] theorem ty148 : tabOf Try.prog 148 = some { desc := (.int .i32), size := 1, bytes := 4, zero := .int .i32 0 } := by kernel_rfl
@[simp] theorem ty149 : tabOf Try.prog 149 = some { desc := (.struct #[⟨ "Size_", 12, 0, false, "", "", 0⟩, ⟨ "PtrBytes", 12, 1, false, "", "", 8⟩, ⟨ "Hash", 142, 2, false, "", "", 16⟩, ⟨ "TFlag", 143, 3, false, "", "", 20⟩, ⟨ "Align_", 5, 4, false, "", "", 21⟩, ⟨ "FieldAlign_", 5, 5, false, "", "", 22⟩, ⟨ "Kind_", 144, 6, false, "", "", 23⟩, ⟨ "Equal", 145, 7, false, "", "", 24⟩, ⟨ "GCData", 146, 8, false, "", "", 32⟩, ⟨ "Str", 147, 9, false, "", "", 40⟩, ⟨ "PtrToThis", 148, 10, false, "", "", 44⟩]), size := 11, bytes := 48, zero := .agg #[.int .u64 0, .int .u64 0, .int .u32 0, .int .u8 0, .int .u8 0, .int .u8 0, .int .u8 0, .nilFunc, .pointer none, .int .i32 0, .int .i32 0] } := by kernel_rfl
@[simp] theorem ty150 : tabOf Try.prog 150 = some { desc := (.struct #[⟨ "Size_", 12, 0, false, "", "", 0⟩, ⟨ "PtrBytes", 12, 1, false, "", "", 8⟩, ⟨ "Hash", 142, 2, false, "", "", 16⟩, ⟨ "TFlag", 143, 3, false, "", "", 20⟩, ⟨ "Align_", 5, 4, false, "", "", 21⟩, ⟨ "FieldAlign_", 5, 5, false, "", "", 22⟩, ⟨ "Kind_", 144, 6, false, "", "", 23⟩, ⟨ "Equal", 145, 7, false, "", "", 24⟩, ⟨ "GCData", 146, 8, false, "", "", 32⟩, ⟨ "Str", 147, 9, false, "", "", 40⟩, ⟨ "PtrToThis", 148, 10, false, "", "", 44⟩]), size := 11, bytes := 48, zero := .agg #[.int .u64 0, .int .u64 0, .int .u32 0, .int .u8 0, .int .u8 0, .int .u8 0, .int .u8 0, .nilFunc, .pointer none, .int .i32 0, .int .i32 0] } := by kernel_rfl
@[simp] theorem ty151 : tabOf Try.prog 151 = some { desc := .unsafePointer, size := 1, bytes := 8, zero := .pointer none } := by kernel_rfl
@[simp] theorem fn3 : fnOf Try.prog 3 = some ⟨Try.f3.ntmps, Try.f3.results.toList, Try.f3.body.getD .skip⟩ := by kernel_rfl
@[simp] theorem fn4 : fnOf Try.prog 4 = some ⟨Try.f4.ntmps, Try.f4.results.toList, Try.f4.body.getD .skip⟩ := by kernel_rfl
@[simp] theorem fn5 : fnOf Try.prog 5 = some ⟨Try.f5.ntmps, Try.f5.results.toList, Try.f5.body.getD .skip⟩ := by kernel_rfl
@[simp] theorem fn6 : fnOf Try.prog 6 = some ⟨Try.f6.ntmps, Try.f6.results.toList, Try.f6.body.getD .skip⟩ := by kernel_rfl
@[simp] theorem fn7 : fnOf Try.prog 7 = some ⟨Try.f7.ntmps, Try.f7.results.toList, Try.f7.body.getD .skip⟩ := by kernel_rfl
@[simp] theorem fn8 : fnOf Try.prog 8 = some ⟨Try.f8.ntmps, Try.f8.results.toList, Try.f8.body.getD .skip⟩ := by kernel_rfl
@[simp] theorem fn9 : fnOf Try.prog 9 = some ⟨Try.f9.ntmps, Try.f9.results.toList, Try.f9.body.getD .skip⟩ := by kernel_rfl
@[simp] theorem fn10 : fnOf Try.prog 10 = some ⟨Try.f10.ntmps, Try.f10.results.toList, Try.f10.body.getD .skip⟩ := by kernel_rfl
@[simp] theorem fn11 : fnOf Try.prog 11 = some ⟨Try.f11.ntmps, Try.f11.results.toList, Try.f11.body.getD .skip⟩ := by kernel_rfl
@[simp] theorem fn12 : fnOf Try.prog 12 = some ⟨Try.f12.ntmps, Try.f12.results.toList, Try.f12.body.getD .skip⟩ := by kernel_rfl
@[simp] theorem fn13 : fnOf Try.prog 13 = some ⟨Try.f13.ntmps, Try.f13.results.toList, Try.f13.body.getD .skip⟩ := by kernel_rfl
@[simp] theorem fn14 : fnOf Try.prog 14 = some ⟨Try.f14.ntmps, Try.f14.results.toList, Try.f14.body.getD .skip⟩ := by kernel_rfl
@[simp] theorem fn15 : fnOf Try.prog 15 = some ⟨Try.f15.ntmps, Try.f15.results.toList, Try.f15.body.getD .skip⟩ := by kernel_rfl
@[simp] theorem fn16 : fnOf Try.prog 16 = some ⟨Try.f16.ntmps, Try.f16.results.toList, Try.f16.body.getD .skip⟩ := by kernel_rfl
@[simp] theorem fn17 : fnOf Try.prog 17 = some ⟨Try.f17.ntmps, Try.f17.results.toList, Try.f17.body.getD .skip⟩ := by kernel_rfl
@[simp] theorem fn18 : fnOf Try.prog 18 = some ⟨Try.f18.ntmps, Try.f18.results.toList, Try.f18.body.getD .skip⟩ := by kernel_rfl
@[simp] theorem fn19 : fnOf Try.prog 19 = some ⟨Try.f19.ntmps, Try.f19.results.toList, Try.f19.body.getD .skip⟩ := by kernel_rfl
@[simp] theorem fn20 : fnOf Try.prog 20 = some ⟨Try.f20.ntmps, Try.f20.results.toList, Try.f20.body.getD .skip⟩ := by kernel_rfl
@[simp] theorem fn21 : fnOf Try.prog 21 = some ⟨Try.f21.ntmps, Try.f21.results.toList, Try.f21.body.getD .skip⟩ := by kernel_rfl
@[simp] theorem fn22 : fnOf Try.prog 22 = some ⟨Try.f22.ntmps, Try.f22.results.toList, Try.f22.body.getD .skip⟩ := by kernel_rfl
@[simp] theorem fn23 : fnOf Try.prog 23 = some ⟨Try.f23.ntmps, Try.f23.results.toList, Try.f23.body.getD .skip⟩ := by kernel_rfl
@[simp] theorem fn24 : fnOf Try.prog 24 = some ⟨Try.f24.ntmps, Try.f24.results.toList, Try.f24.body.getD .skip⟩ := by kernel_rfl
@[simp] theorem fn25 : fnOf Try.prog 25 = some ⟨Try.f25.ntmps, Try.f25.results.toList, Try.f25.body.getD .skip⟩ := by kernel_rfl
@[simp] theorem fn26 : fnOf Try.prog 26 = some ⟨Try.f26.ntmps, Try.f26.results.toList, Try.f26.body.getD .skip⟩ := by kernel_rfl
@[simp] theorem fn27 : fnOf Try.prog 27 = some ⟨Try.f27.ntmps, Try.f27.results.toList, Try.f27.body.getD .skip⟩ := by kernel_rfl
@[simp] theorem fn28 : fnOf Try.prog 28 = some ⟨Try.f28.ntmps, Try.f28.results.toList, Try.f28.body.getD .skip⟩ := by kernel_rfl
@[simp] theorem fn29 : fnOf Try.prog 29 = some ⟨Try.f29.ntmps, Try.f29.results.toList, Try.f29.body.getD .skip⟩ := by kernel_rfl
@[simp] theorem fn30 : fnOf Try.prog 30 = some ⟨Try.f30.ntmps, Try.f30.results.toList, Try.f30.body.getD .skip⟩ := by kernel_rfl
@[simp] theorem fn31 : fnOf Try.prog 31 = some ⟨Try.f31.ntmps, Try.f31.results.toList, Try.f31.body.getD .skip⟩ := by kernel_rfl
@[simp] theorem fn32 : fnOf Try.prog 32 = some ⟨Try.f32.ntmps, Try.f32.results.toList, Try.f32.body.getD .skip⟩ := by kernel_rfl
@[simp] theorem fn33 : fnOf Try.prog 33 = some ⟨Try.f33.ntmps, Try.f33.results.toList, Try.f33.body.getD .skip⟩ := by kernel_rfl
@[simp] theorem fn34 : fnOf Try.prog 34 = some ⟨Try.f34.ntmps, Try.f34.results.toList, Try.f34.body.getD .skip⟩ := by kernel_rfl
@[simp] theorem fn35 : fnOf Try.prog 35 = some ⟨Try.f35.ntmps, Try.f35.results.toList, Try.f35.body.getD .skip⟩ := by kernel_rfl
@[simp] theorem fn36 : fnOf Try.prog 36 = some ⟨Try.f36.ntmps, Try.f36.results.toList, Try.f36.body.getD .skip⟩ := by kernel_rfl
@[simp] theorem fn37 : fnOf Try.prog 37 = some ⟨Try.f37.ntmps, Try.f37.results.toList, Try.f37.body.getD .skip⟩ := by kernel_rfl
@[simp] theorem fn38 : fnOf Try.prog 38 = some ⟨Try.f38.ntmps, Try.f38.results.toList, Try.f38.body.getD .skip⟩ := by kernel_rfl
@[simp] theorem fn39 : fnOf Try.prog 39 = some ⟨Try.f39.ntmps, Try.f39.results.toList, Try.f39.body.getD .skip⟩ := by kernel_rfl
@[simp] theorem fn40 : fnOf Try.prog 40 = some ⟨Try.f40.ntmps, Try.f40.results.toList, Try.f40.body.getD .skip⟩ := by kernel_rfl
@[simp] theorem fn41 : fnOf Try.prog 41 = some ⟨Try.f41.ntmps, Try.f41.results.toList, Try.f41.body.getD .skip⟩ := by kernel_rfl
@[simp] theorem fn42 : fnOf Try.prog 42 = some ⟨Try.f42.ntmps, Try.f42.results.toList, Try.f42.body.getD .skip⟩ := by kernel_rfl
@[simp] theorem fn43 : fnOf Try.prog 43 = some ⟨Try.f43.ntmps, Try.f43.results.toList, Try.f43.body.getD .skip⟩ := by kernel_rfl
@[simp] theorem fn44 : fnOf Try.prog 44 = some ⟨Try.f44.ntmps, Try.f44.results.toList, Try.f44.body.getD .skip⟩ := by kernel_rfl
@[simp] theorem fn45 : fnOf Try.prog 45 = some ⟨Try.f45.ntmps, Try.f45.results.toList, Try.f45.body.getD .skip⟩ := by kernel_rfl
@[simp] theorem fn46 : fnOf Try.prog 46 = some ⟨Try.f46.ntmps, Try.f46.results.toList, Try.f46.body.getD .skip⟩ := by kernel_rfl
@[simp] theorem fn47 : fnOf Try.prog 47 = some ⟨Try.f47.ntmps, Try.f47.results.toList, Try.f47.body.getD .skip⟩ := by kernel_rfl
@[simp] theorem fn48 : fnOf Try.prog 48 = some ⟨Try.f48.ntmps, Try.f48.results.toList, Try.f48.body.getD .skip⟩ := by kernel_rfl
@[simp] theorem fn49 : fnOf Try.prog 49 = some ⟨Try.f49.ntmps, Try.f49.results.toList, Try.f49.body.getD .skip⟩ := by kernel_rfl
@[simp] theorem fn50 : fnOf Try.prog 50 = some ⟨Try.f50.ntmps, Try.f50.results.toList, Try.f50.body.getD .skip⟩ := by kernel_rfl
@[simp] theorem fn51 : fnOf Try.prog 51 = some ⟨Try.f51.ntmps, Try.f51.results.toList, Try.f51.body.getD .skip⟩ := by kernel_rfl
@[simp] theorem fn52 : fnOf Try.prog 52 = some ⟨Try.f52.ntmps, Try.f52.results.toList, Try.f52.body.getD .skip⟩ := by kernel_rfl
@[simp] theorem fn53 : fnOf Try.prog 53 = some ⟨Try.f53.ntmps, Try.f53.results.toList, Try.f53.body.getD .skip⟩ := by kernel_rfl
@[simp] theorem fn54 : fnOf Try.prog 54 = some ⟨Try.f54.ntmps, Try.f54.results.toList, Try.f54.body.getD .skip⟩ := by kernel_rfl
@[simp] theorem fn55 : fnOf Try.prog 55 = some ⟨Try.f55.ntmps, Try.f55.results.toList, Try.f55.body.getD .skip⟩ := by kernel_rfl
@[simp] theorem fn56 : fnOf Try.prog 56 = some ⟨Try.f56.ntmps, Try.f56.results.toList, Try.f56.body.getD .skip⟩ := by kernel_rfl
@[simp] theorem fn57 : fnOf Try.prog 57 = some ⟨Try.f57.ntmps, Try.f57.results.toList, Try.f57.body.getD .skip⟩ := by kernel_rfl
@[simp] theorem fn58 : fnOf Try.prog 58 = some ⟨Try.f58.ntmps, Try.f58.results.toList, Try.f58.body.getD .skip⟩ := by kernel_rfl
@[simp] theorem fn59 : fnOf Try.prog 59 = some ⟨Try.f59.ntmps, Try.f59.results.toList, Try.f59.body.getD .skip⟩ := by kernel_rfl
@[simp] theorem fn60 : fnOf Try.prog 60 = some ⟨Try.f60.ntmps, Try.f60.results.toList, Try.f60.body.getD .skip⟩ := by kernel_rfl
@[simp] theorem fn61 : fnOf Try.prog 61 = some ⟨Try.f61.ntmps, Try.f61.results.toList, Try.f61.body.getD .skip⟩ := by kernel_rfl
@[simp] theorem fn62 : fnOf Try.prog 62 = some ⟨Try.f62.ntmps, Try.f62.results.toList, Try.f62.body.getD .skip⟩ := by kernel_rfl
@[simp] theorem fn63 : fnOf Try.prog 63 = some ⟨Try.f63.ntmps, Try.f63.results.toList, Try.f63.body.getD .skip⟩ := by kernel_rfl
@[simp] theorem fn64 : fnOf Try.prog 64 = some ⟨Try.f64.ntmps, Try.f64.results.toList, Try.f64.body.getD .skip⟩ := by kernel_rfl
@[simp] theorem fn65 : fnOf Try.prog 65 = some ⟨Try.f65.ntmps, Try.f65.results.toList, Try.f65.body.getD .skip⟩ := by kernel_rfl
@[simp] theorem fn66 : fnOf Try.prog 66 = some ⟨Try.f66.ntmps, Try.f66.results.toList, Try.f66.body.getD .skip⟩ := by kernel_rfl
@[simp] theorem fn67 : fnOf Try.prog 67 = some ⟨Try.f67.ntmps, Try.f67.results.toList, Try.f67.body.getD .skip⟩ := by kernel_rfl
@[simp] theorem fn68 : fnOf Try.prog 68 = some ⟨Try.f68.ntmps, Try.f68.results.toList, Try.f68.body.getD .skip⟩ := by kernel_rfl
@[simp] theorem fn69 : fnOf Try.prog 69 = some ⟨Try.f69.ntmps, Try.f69.results.toList, Try.f69.body.getD .skip⟩ := by kernel_rfl
@[simp] theorem fn70 : fnOf Try.prog 70 = some ⟨Try.f70.ntmps, Try.f70.results.toList, Try.f70.body.getD .skip⟩ := by kernel_rfl
@[simp] theorem fn71 : fnOf Try.prog 71 = some ⟨Try.f71.ntmps, Try.f71.results.toList, Try.f71.body.getD .skip⟩ := by kernel_rfl
@[simp] theorem fn72 : fnOf Try.prog 72 = some ⟨Try.f72.ntmps, Try.f72.results.toList, Try.f72.body.getD .skip⟩ := by kernel_rfl
@[simp] theorem fn73 : fnOf Try.prog 73 = some ⟨Try.f73.ntmps, Try.f73.results.toList, Try.f73.body.getD .skip⟩ := by kernel_rfl
@[simp] theorem fn74 : fnOf Try.prog 74 = some ⟨Try.f74.ntmps, Try.f74.results.toList, Try.f74.body.getD .skip⟩ := by kernel_rfl
@[simp] theorem fn75 : fnOf Try.prog 75 = some ⟨Try.f75.ntmps, Try.f75.results.toList, Try.f75.body.getD .skip⟩ := by kernel_rfl
@[simp] theorem fn76 : fnOf Try.prog 76 = some ⟨Try.f76.ntmps, Try.f76.results.toList, Try.f76.body.getD .skip⟩ := by kernel_rfl
@[simp] theorem fn77 : fnOf Try.prog 77 = some ⟨Try.f77.ntmps, Try.f77.results.toList, Try.f77.body.getD .skip⟩ := by kernel_rfl
@[simp] theorem fn78 : fnOf Try.prog 78 = some ⟨Try.f78.ntmps, Try.f78.results.toList, Try.f78.body.getD .skip⟩ := by kernel_rfl
@[simp] theorem fn79 : fnOf Try.prog 79 = some ⟨Try.f79.ntmps, Try.f79.results.toList, Try.f79.body.getD .skip⟩ := by kernel_rfl
@[simp] theorem fn80 : fnOf Try.prog 80 = some ⟨Try.f80.ntmps, Try.f80.results.toList, Try.f80.body.getD .skip⟩ := by kernel_rfl
@[simp] theorem fn81 : fnOf Try.prog 81 = some ⟨Try.f81.ntmps, Try.f81.results.toList, Try.f81.body.getD .skip⟩ := by kernel_rfl
@[simp] theorem fn82 : fnOf Try.prog 82 = some ⟨Try.f82.ntmps, Try.f82.results.toList, Try.f82.body.getD .skip⟩ := by kernel_rfl
@[simp] theorem fn83 : fnOf Try.prog 83 = some ⟨Try.f83.ntmps, Try.f83.results.toList, Try.f83.body.getD .skip⟩ := by kernel_rfl
@[simp] theorem fn84 : fnOf Try.prog 84 = some ⟨Try.f84.ntmps, Try.f84.results.toList, Try.f84.body.getD .skip⟩ := by kernel_rfl
@[simp] theorem fn85 : fnOf Try.prog 85 = some ⟨Try.f85.ntmps, Try.f85.results.toList, Try.f85.body.getD .skip⟩ := by kernel_rfl
@[simp] theorem fn86 : fnOf Try.prog 86 = some ⟨Try.f86.ntmps, Try.f86.results.toList, Try.f86.body.getD .skip⟩ := by kernel_rfl
@[simp] theorem fn87 : fnOf Try.prog 87 = some ⟨Try.f87.ntmps, Try.f87.results.toList, Try.f87.body.getD .skip⟩ := by kernel_rfl
@[simp] theorem fn88 : fnOf Try.prog 88 = some ⟨Try.f88.ntmps, Try.f88.results.toList, Try.f88.body.getD .skip⟩ := by kernel_rfl
@[simp] theorem fn89 : fnOf Try.prog 89 = some ⟨Try.f89.ntmps, Try.f89.results.toList, Try.f89.body.getD .skip⟩ := by kernel_rfl
@[simp] theorem fn90 : fnOf Try.prog 90 = some ⟨Try.f90.ntmps, Try.f90.results.toList, Try.f90.body.getD .skip⟩ := by kernel_rfl
@[simp] theorem fn91 : fnOf Try.prog 91 = some ⟨Try.f91.ntmps, Try.f91.results.toList, Try.f91.body.getD .skip⟩ := by kernel_rfl
@[simp] theorem fn92 : fnOf Try.prog 92 = some ⟨Try.f92.ntmps, Try.f92.results.toList, Try.f92.body.getD .skip⟩ := by kernel_rfl
@[simp] theorem fn93 : fnOf Try.prog 93 = some ⟨Try.f93.ntmps, Try.f93.results.toList, Try.f93.body.getD .skip⟩ := by kernel_rfl
@[simp] theorem fn94 : fnOf Try.prog 94 = some ⟨Try.f94.ntmps, Try.f94.results.toList, Try.f94.body.getD .skip⟩ := by kernel_rfl
@[simp] theorem fn95 : fnOf Try.prog 95 = some ⟨Try.f95.ntmps, Try.f95.results.toList, Try.f95.body.getD .skip⟩ := by kernel_rfl
@[simp] theorem fn96 : fnOf Try.prog 96 = some ⟨Try.f96.ntmps, Try.f96.results.toList, Try.f96.body.getD .skip⟩ := by kernel_rfl
@[simp] theorem fn97 : fnOf Try.prog 97 = some ⟨Try.f97.ntmps, Try.f97.results.toList, Try.f97.body.getD .skip⟩ := by kernel_rfl
@[simp] theorem fn98 : fnOf Try.prog 98 = some ⟨Try.f98.ntmps, Try.f98.results.toList, Try.f98.body.getD .skip⟩ := by kernel_rfl
@[simp] theorem fn99 : fnOf Try.prog 99 = some ⟨Try.f99.ntmps, Try.f99.results.toList, Try.f99.body.getD .skip⟩ := by kernel_rfl
@[simp] theorem fn100 : fnOf Try.prog 100 = some ⟨Try.f100.ntmps, Try.f100.results.toList, Try.f100.body.getD .skip⟩ := by kernel_rfl
@[simp] theorem fn101 : fnOf Try.prog 101 = some ⟨Try.f101.ntmps, Try.f101.results.toList, Try.f101.body.getD .skip⟩ := by kernel_rfl
@[simp] theorem fn102 : fnOf Try.prog 102 = some ⟨Try.f102.ntmps, Try.f102.results.toList, Try.f102.body.getD .skip⟩ := by kernel_rfl
@[simp] theorem fn103 : fnOf Try.prog 103 = some ⟨Try.f103.ntmps, Try.f103.results.toList, Try.f103.body.getD .skip⟩ := by kernel_rfl
@[simp] theorem fn104 : fnOf Try.prog 104 = some ⟨Try.f104.ntmps, Try.f104.results.toList, Try.f104.body.getD .skip⟩ := by kernel_rfl
@[simp] theorem fn105 : fnOf Try.prog 105 = some ⟨Try.f105.ntmps, Try.f105.results.toList, Try.f105.body.getD .skip⟩ := by kernel_rfl
@[simp] theorem fn106 : fnOf Try.prog 106 = some ⟨Try.f106.ntmps, Try.f106.results.toList, Try.f106.body.getD .skip⟩ := by kernel_rfl
@[simp] theorem fn107 : fnOf Try.prog 107 = some ⟨Try.f107.ntmps, Try.f107.results.toList, Try.f107.body.getD .skip⟩ := by kernel_rfl
@[simp] theorem fn108 : fnOf Try.prog 108 = some ⟨Try.f108.ntmps, Try.f108.results.toList, Try.f108.body.getD .skip⟩ := by kernel_rfl
@[simp] theorem fn109 : fnOf Try.prog 109 = some ⟨Try.f109.ntmps, Try.f109.results.toList, Try.f109.body.getD .skip⟩ := by kernel_rfl
@[simp] theorem fn110 : fnOf Try.prog 110 = some ⟨Try.f110.ntmps, Try.f110.results.toList, Try.f110.body.getD .skip⟩ := by kernel_rfl
@[simp] theorem fn111 : fnOf Try.prog 111 = some ⟨Try.f111.ntmps, Try.f111.results.toList, Try.f111.body.getD .skip⟩ := by kernel_rfl
@[simp] theorem fn112 : fnOf Try.prog 112 = some ⟨Try.f112.ntmps, Try.f112.results.toList, Try.f112.body.getD .skip⟩ := by kernel_rfl
@[simp] theorem fn113 : fnOf Try.prog 113 = some ⟨Try.f113.ntmps, Try.f113.results.toList, Try.f113.body.getD .skip⟩ := by kernel_rfl
@[simp] theorem fn114 : fnOf Try.prog 114 = some ⟨Try.f114.ntmps, Try.f114.results.toList, Try.f114.body.getD .skip⟩ := by kernel_rfl
@[simp] theorem fn115 : fnOf Try.prog 115 = some ⟨Try.f115.ntmps, Try.f115.results.toList, Try.f115.body.getD .skip⟩ := by kernel_rfl
@[simp] theorem fn116 : fnOf Try.prog 116 = some ⟨Try.f116.ntmps, Try.f116.results.toList, Try.f116.body.getD .skip⟩ := by kernel_rfl
@[simp] theorem fn117 : fnOf Try.prog 117 = some ⟨Try.f117.ntmps, Try.f117.results.toList, Try.f117.body.getD .skip⟩ := by kernel_rfl
@[simp] theorem fn118 : fnOf Try.prog 118 = some ⟨Try.f118.ntmps, Try.f118.results.toList, Try.f118.body.getD .skip⟩ := by kernel_rfl
@[simp] theorem fn119 : fnOf Try.prog 119 = some ⟨Try.f119.ntmps, Try.f119.results.toList, Try.f119.body.getD .skip⟩ := by kernel_rfl
@[simp] theorem fn120 : fnOf Try.prog 120 = some ⟨Try.f120.ntmps, Try.f120.results.toList, Try.f120.body.getD .skip⟩ := by kernel_rfl
@[simp] theorem fn122 : fnOf Try.prog 122 = some ⟨Try.f122.ntmps, Try.f122.results.toList, Try.f122.body.getD .skip⟩ := by kernel_rfl
@[simp] theorem fn123 : fnOf Try.prog 123 = some ⟨Try.f123.ntmps, Try.f123.results.toList, Try.f123.body.getD .skip⟩ := by kernel_rfl
@[simp] theorem fn124 : fnOf Try.prog 124 = some ⟨Try.f124.ntmps, Try.f124.results.toList, Try.f124.body.getD .skip⟩ := by kernel_rfl
@[simp] theorem fn125 : fnOf Try.prog 125 = some ⟨Try.f125.ntmps, Try.f125.results.toList, Try.f125.body.getD .skip⟩ := by kernel_rfl
@[simp] theorem fn126 : fnOf Try.prog 126 = some ⟨Try.f126.ntmps, Try.f126.results.toList, Try.f126.body.getD .skip⟩ := by kernel_rfl
@[simp] theorem fn127 : fnOf Try.prog 127 = some ⟨Try.f127.ntmps, Try.f127.results.toList, Try.f127.body.getD .skip⟩ := by kernel_rfl
@[simp] theorem fn128 : fnOf Try.prog 128 = some ⟨Try.f128.ntmps, Try.f128.results.toList, Try.f128.body.getD .skip⟩ := by kernel_rfl
@[simp] theorem fn129 : fnOf Try.prog 129 = some ⟨Try.f129.ntmps, Try.f129.results.toList, Try.f129.body.getD .skip⟩ := by kernel_rfl
@[simp] theorem fn130 : fnOf Try.prog 130 = some ⟨Try.f130.ntmps, Try.f130.results.toList, Try.f130.body.getD .skip⟩ := by kernel_rfl
theorem mixed : Try.prog.follows .mixedOrders = true := by kernel_rfl

end Go.Proofs.Yteebkkipeiggcaa


/- What all rows of this seat use. -/
namespace Go.Proofs.Yteebkkipeiggcaa
open Go Go.Vm Go.ChangeShapes Go.WideShapes Go.ChangeAt Go.RowKit Go.ChangeMaps

theorem Try.own : ownKnob Try.prog.godebug = none := by kernel_rfl
theorem Try.laidOut : laidOutB Try.prog = true := by kernel_rfl

theorem part_cells {H : Type} {enc : TypeId × Value → H} {W : World} : ∀ n r y, DataW.trod enc Try.prog W 0 (fun _ => true) true n 107 r = some y → ∃ p : Pt, r = [.int .i64 p.kind, .int .i64 p.n, .string p.s, .int .u8 p.args] ∧ PtOk p :=
  fun n r y h => by
    obtain ⟨p, e, h1, h2, h3, h4, h5, h6, h7⟩ := open_part (P := Try.prog) Try.underlying107 Try.underlying3 Try.underlying2 Try.underlying9 Try.underlying5 (by kernel_rfl) (by kernel_rfl) (by kernel_rfl) (by kernel_rfl) (by kernel_rfl) h
    exact ⟨p, e, h1, h2, h3, h4, h5, h6, h7⟩

set_option maxRecDepth 100000 in
/-- An argument that is a list of parts. -/
theorem arg_parts {H : Type} {enc : TypeId × Value → H} {W : World} {v : Value} {d : DataW H} {ps : List MemPlace} (hval : Value.okWide Try.prog W .any 0 22 v) (h : DataW.Trod enc Try.prog W 0 (fun _ => true) true 22 v d ps) :
    ∃ l : List Pt, VR (startCx W) (.ro 4 (encP l)) v ∧ ∀ p ∈ l, 0 ≤ p.args ∧ p.args ≤ 255 := by
  obtain ⟨l, h1, _, h2⟩ := open_parts_arg Try.underlying22 (by kernel_rfl) hval h part_cells
  exact ⟨l, h1, fun p hp => ⟨(h2 p hp).1, (h2 p hp).2.1⟩⟩

set_option maxRecDepth 100000 in
/-- The same, with the numbers' bounds. -/
theorem arg_parts2 {H : Type} {enc : TypeId × Value → H} {W : World} {v : Value} {d : DataW H} {ps : List MemPlace} (hval : Value.okWide Try.prog W .any 0 22 v) (h : DataW.Trod enc Try.prog W 0 (fun _ => true) true 22 v d ps) :
    ∃ l : List Pt, VR (startCx W) (.ro 4 (encP l)) v ∧ ∀ p ∈ l, (0 ≤ p.args ∧ p.args ≤ 255) ∧ In64 p.n := by
  obtain ⟨l, h1, _, h2⟩ := open_parts_arg Try.underlying22 (by kernel_rfl) hval h part_cells
  exact ⟨l, h1, fun p hp => ⟨⟨(h2 p hp).1, (h2 p hp).2.1⟩, (h2 p hp).2.2.2.2.2.1, (h2 p hp).2.2.2.2.2.2⟩⟩

end Go.Proofs.Yteebkkipeiggcaa


/- Contracts: package num's operators. -/
namespace Go.Proofs.Yteebkkipeiggcaa
open Go Go.Vm

set_option maxRecDepth 20000
set_option maxHeartbeats 1000000

theorem num_size_ok (n : Int) (hn : In64 n) : ACalls Try.prog 114 [.int .i64 n] [] (fun r _ => r = .ret (.int .u64 n.natAbs)) := by
  unfold In64 at hn
  by_cases h : n < 0
  · have e : IntKind.u64.wrap (-IntKind.u64.wrap n) = n.natAbs := by rw [wrapU, wrapU]; omega
    refine ACalls.post (calls_tree 400 fn114 (by simp [Try.f114]) ?_); simp (maxSteps := 3000000) [Tr.map, Try.f114, h]
    (try simp [Tm.enc, e]); (first | (refine .done ?_; simp [Tm.enc, e]; done) | (refine Tn.wkRet ?_; simp (maxDischargeDepth := 20)) | (refine Tn.wkPan ?_; simp (maxDischargeDepth := 20)))
  · have e : IntKind.u64.wrap n = n.natAbs := by rw [wrapU]; omega
    refine ACalls.post (calls_tree 400 fn114 (by simp [Try.f114]) ?_); simp (maxSteps := 3000000) [Tr.map, Try.f114, h]
    (try simp [Tm.enc, e]); (first | (refine .done ?_; simp [Tm.enc, e]; done) | (refine Tn.wkRet ?_; simp (maxDischargeDepth := 20)) | (refine Tn.wkPan ?_; simp (maxDischargeDepth := 20)))

theorem num_fit_ok (g : Bool) (m : Int) (hm : 0 ≤ m ∧ m < 18446744073709551616) : ACalls Try.prog 115 [.bool g, .int .u64 m] [] (fun r _ => r = .ret (.tup [.int .i64 (fitZ (if g then -m else m)).1, .int .i64 (fitZ (if g then -m else m)).2])) := by
  cases g with
  | false =>
    by_cases h : m ≤ 9223372036854775807
    · have e : IntKind.i64.wrap m = m := wrapI_id ⟨by omega, by omega⟩
      have h2 : fitZ m = (m, 0) := fitZ_in ⟨by omega, by omega⟩
      refine ACalls.post (calls_tree 400 fn115 (by simp [Try.f115]) ?_); simp (maxSteps := 3000000) [Tr.map, Try.f115, h, e]
      (try simp [Tm.enc, h2]); (first | (refine .done ?_; simp [Tm.enc, h2]; done) | (refine Tn.wkRet ?_; simp (maxDischargeDepth := 20)) | (refine Tn.wkPan ?_; simp (maxDischargeDepth := 20)))
    · have h2 : fitZ m = (0, 11) := fitZ_out (fun h => by unfold In64 at h; omega)
      refine ACalls.post (calls_tree 400 fn115 (by simp [Try.f115]) ?_); simp (maxSteps := 3000000) [Tr.map, Try.f115, h]
      (try simp [Tm.enc, h2]); (first | (refine .done ?_; simp [Tm.enc, h2]; done) | (refine Tn.wkRet ?_; simp (maxDischargeDepth := 20)) | (refine Tn.wkPan ?_; simp (maxDischargeDepth := 20)))
  | true =>
    by_cases h : m ≤ 9223372036854775808
    · have e : IntKind.i64.wrap (IntKind.u64.wrap (-m)) = -m := by rw [wrapU, wrapI]; split <;> omega
      have h2 : fitZ (-m) = (-m, 0) := fitZ_in ⟨by omega, by omega⟩
      refine ACalls.post (calls_tree 400 fn115 (by simp [Try.f115]) ?_); simp (maxSteps := 3000000) [Tr.map, Try.f115, h, e]
      (try simp [Tm.enc, h2, e]); (first | (refine .done ?_; simp [Tm.enc, h2, e]; done) | (refine Tn.wkRet ?_; simp (maxDischargeDepth := 20)) | (refine Tn.wkPan ?_; simp (maxDischargeDepth := 20)))
    · have h2 : fitZ (-m) = (0, 11) := fitZ_out (fun h => by unfold In64 at h; omega)
      refine ACalls.post (calls_tree 400 fn115 (by simp [Try.f115]) ?_); simp (maxSteps := 3000000) [Tr.map, Try.f115, h]
      (try simp [Tm.enc, h2]); (first | (refine .done ?_; simp [Tm.enc, h2]; done) | (refine Tn.wkRet ?_; simp (maxDischargeDepth := 20)) | (refine Tn.wkPan ?_; simp (maxDischargeDepth := 20)))

theorem mul64_ok (a b : Int) (ha : 0 ≤ a ∧ a < 18446744073709551616) (hb : 0 ≤ b ∧ b < 18446744073709551616) :
    ACalls Try.prog 113 [.int .u64 a, .int .u64 b] [] (fun r _ => r = .ret (.tup [.int .u64 (a * b / 18446744073709551616), .int .u64 (a * b % 18446744073709551616)])) := by
  refine ACalls.post (calls_tree 400 fn113 (by simp [Try.f113]) ?_); simp (maxSteps := 3000000) [Tr.map, Try.f113, landK_low, fdiv_low, mul_high ha hb]
  (try simp [Tm.enc, landK_low, fdiv_low, mul_high ha hb, wrapU]); (first | (refine .done ?_; simp [Tm.enc, landK_low, fdiv_low, mul_high ha hb, wrapU]; done) | (refine Tn.wkRet ?_; simp (maxDischargeDepth := 20)) | (refine Tn.wkPan ?_; simp (maxDischargeDepth := 20)))

theorem num_plus_ok (a b : Int) (ha : In64 a) (hb : In64 b) : ACalls Try.prog 79 [.agg [.int .i64 a, .int .i64 b]] [] (fun r _ => r = .ret (.tup [.int .i64 (fitZ (a + b)).1, .int .i64 (fitZ (a + b)).2])) := by
  have h := plus_law ha hb
  generalize fitZ (a + b) = R at *
  generalize hn : IntKind.i64.wrap (a + b) = n at *
  by_cases h1 : a < 0 <;> by_cases h2 : b < 0 <;> by_cases h3 : n < 0
  all_goals
    simp [h1, h2, h3] at h
    subst h
    refine ACalls.post (calls_tree 400 fn79 (by simp [Try.f79]) ?_); simp (maxSteps := 3000000) [Tr.map, Try.f79, hn, h1, h2, h3]
    (try simp [Tm.enc]); (first | (refine .done ?_; simp [Tm.enc]; done) | (refine Tn.wkRet ?_; simp (maxDischargeDepth := 20)) | (refine Tn.wkPan ?_; simp (maxDischargeDepth := 20)))

theorem num_minus_ok (a b : Int) (ha : In64 a) (hb : In64 b) : ACalls Try.prog 80 [.agg [.int .i64 a, .int .i64 b]] [] (fun r _ => r = .ret (.tup [.int .i64 (fitZ (a - b)).1, .int .i64 (fitZ (a - b)).2])) := by
  have h := minus_law ha hb
  generalize fitZ (a - b) = R at *
  generalize hn : IntKind.i64.wrap (a - b) = n at *
  by_cases h1 : a < 0 <;> by_cases h2 : b < 0 <;> by_cases h3 : n < 0
  all_goals
    simp [h1, h2, h3] at h
    subst h
    refine ACalls.post (calls_tree 400 fn80 (by simp [Try.f80]) ?_); simp (maxSteps := 3000000) [Tr.map, Try.f80, hn, h1, h2, h3]
    (try simp [Tm.enc]); (first | (refine .done ?_; simp [Tm.enc]; done) | (refine Tn.wkRet ?_; simp (maxDischargeDepth := 20)) | (refine Tn.wkPan ?_; simp (maxDischargeDepth := 20)))

/-- A number of two, told with what is wrong. -/
abbrev oute (p : Int × Int) : AV := .tup [.int .i64 p.1, .int .i64 p.2]
abbrev prE (a b : Int) : AV := .agg [.int .i64 a, .int .i64 b]

theorem absB {a : Int} (ha : In64 a) : (0 : Int) ≤ a.natAbs ∧ (a.natAbs : Int) ≤ 9223372036854775808 := by unfold In64 at ha; omega

theorem num_times_ok (a b : Int) (ha : In64 a) (hb : In64 b) : ACalls Try.prog 81 [prE a b] [] (fun r _ => r = .ret (oute (fitZ (a * b)))) := by
  have z1 := num_size_ok a ha
  have z2 := num_size_ok b hb
  have b1 := absB ha
  have b2 := absB hb
  have hs := times_sign a b
  have m := mul64_ok a.natAbs b.natAbs ⟨b1.1, by omega⟩ ⟨b2.1, by omega⟩
  have hM : 0 ≤ (a.natAbs : Int) * b.natAbs := Int.mul_nonneg b1.1 b2.1
  generalize a * b = T at *
  generalize (a.natAbs : Int) = A at *
  generalize (b.natAbs : Int) = B at *
  generalize A * B = M at *
  by_cases h0 : M / 18446744073709551616 = 0
  · have hl : M % 18446744073709551616 = M := by omega
    have f := fun g => num_fit_ok g M ⟨hM, by omega⟩
    by_cases h1 : a < 0 <;> by_cases h2 : b < 0
    all_goals
      simp [h1, h2] at hs
      have f' := f (decide (a < 0) != decide (b < 0))
      simp [h1, h2] at f'
      subst hs
      refine ACalls.post (calls_tree 400 fn81 (by simp [Try.f81]) ?_); simp (maxSteps := 3000000) [Tr.map, Try.f81]
      refine stk_draw mixed (tabOf_ok _) (fnOf_ok _) 11 (by kernel_rfl) ?_; simp (maxSteps := 3000000) [Tr.map]
      (have hc_ := z1); (try simp at hc_); refine QCall.introW hc_ (by simp (maxDischargeDepth := 20)) (by simp (maxDischargeDepth := 12)) (by simp (maxDischargeDepth := 12)) ?_; clear hc_; (try simp (maxSteps := 3000000) [Tr.map])
      (have hc_ := z2); (try simp at hc_); refine QCall.introW hc_ (by simp (maxDischargeDepth := 20)) (by simp (maxDischargeDepth := 12)) (by simp (maxDischargeDepth := 12)) ?_; clear hc_; (try simp (maxSteps := 3000000) [Tr.map])
      (have hc_ := m); (try simp at hc_); refine QCall.introW hc_ (by simp (maxDischargeDepth := 20)) (by simp (maxDischargeDepth := 12)) (by simp (maxDischargeDepth := 12)) ?_; clear hc_; (try simp (maxSteps := 3000000) [Tr.map, h0])
      refine stk_run 400 ?_; simp (maxSteps := 3000000) [Tr.map, h0, hl, h1, h2]
      (have hc_ := f'); (try simp at hc_); refine ACalls.retW hc_ (by simp (maxDischargeDepth := 20)) (by simp (maxDischargeDepth := 12)) (by simp (maxDischargeDepth := 12)) ?_; clear hc_; (try simp (maxSteps := 3000000) [Tr.map])
      (try simp [Tm.enc]); (first | (refine .done ?_; simp [Tm.enc]; done) | (refine Tn.wkRet ?_; simp (maxDischargeDepth := 20)) | (refine Tn.wkPan ?_; simp (maxDischargeDepth := 20)))
  · have ho : fitZ T = (0, 11) := fitZ_out (fun h => by unfold In64 at h; split at hs <;> omega)
    rw [ho]
    refine ACalls.post (calls_tree 400 fn81 (by simp [Try.f81]) ?_); simp (maxSteps := 3000000) [Tr.map, Try.f81]
    refine stk_draw mixed (tabOf_ok _) (fnOf_ok _) 11 (by kernel_rfl) ?_; simp (maxSteps := 3000000) [Tr.map]
    (have hc_ := z1); (try simp at hc_); refine QCall.introW hc_ (by simp (maxDischargeDepth := 20)) (by simp (maxDischargeDepth := 12)) (by simp (maxDischargeDepth := 12)) ?_; clear hc_; (try simp (maxSteps := 3000000) [Tr.map])
    (have hc_ := z2); (try simp at hc_); refine QCall.introW hc_ (by simp (maxDischargeDepth := 20)) (by simp (maxDischargeDepth := 12)) (by simp (maxDischargeDepth := 12)) ?_; clear hc_; (try simp (maxSteps := 3000000) [Tr.map])
    (have hc_ := m); (try simp at hc_); refine QCall.introW hc_ (by simp (maxDischargeDepth := 20)) (by simp (maxDischargeDepth := 12)) (by simp (maxDischargeDepth := 12)) ?_; clear hc_; (try simp (maxSteps := 3000000) [Tr.map, h0])
    refine stk_run 400 ?_; simp (maxSteps := 3000000) [Tr.map, h0]
    (try simp [Tm.enc]); (first | (refine .done ?_; simp [Tm.enc]; done) | (refine Tn.wkRet ?_; simp (maxDischargeDepth := 20)) | (refine Tn.wkPan ?_; simp (maxDischargeDepth := 20)))

theorem num_quo_ok (a b : Int) (ha : In64 a) (hb : In64 b) : ACalls Try.prog 82 [prE a b] [] (fun r _ => r = .ret (oute (quoZ a b))) := by
  by_cases h0 : b = 0
  · subst h0
    refine ACalls.post (calls_tree 400 fn82 (by simp [Try.f82]) ?_); simp (maxSteps := 3000000) [Tr.map, Try.f82]
    (try simp [Tm.enc, quoZ]); (first | (refine .done ?_; simp [Tm.enc, quoZ]; done) | (refine Tn.wkRet ?_; simp (maxDischargeDepth := 20)) | (refine Tn.wkPan ?_; simp (maxDischargeDepth := 20)))
  have z1 := num_size_ok a ha
  have z2 := num_size_ok b hb
  have b1 := absB ha
  have b2 := absB hb
  have hs := quo_sign a b
  have hz : (b.natAbs : Int) ≠ 0 := by omega
  have hR : quoZ a b = fitZ (a.tdiv b) := if_neg h0
  rw [hR]
  have hq := Int.tdiv_eq_ediv_of_nonneg (b := (b.natAbs : Int)) b1.1
  have hq1 : 0 ≤ (a.natAbs : Int) / b.natAbs := Int.ediv_nonneg b1.1 b2.1
  have hq2 : (a.natAbs : Int) / b.natAbs ≤ a.natAbs := Int.ediv_le_self _ b1.1
  generalize a.tdiv b = T at *
  generalize (a.natAbs : Int) = A at *
  generalize (b.natAbs : Int) = B at *
  generalize A / B = M at *
  have hw : IntKind.u64.wrap M = M := by rw [wrapU]; omega
  have f := fun g => num_fit_ok g M ⟨hq1, by omega⟩
  clear hR
  by_cases h1 : a < 0 <;> by_cases h2 : b < 0
  all_goals
    simp [h1, h2] at hs
    have f' := f (decide (a < 0) != decide (b < 0))
    simp [h1, h2] at f'
    subst hs
    refine ACalls.post (calls_tree 400 fn82 (by simp [Try.f82]) ?_); simp (maxSteps := 3000000) [Tr.map, Try.f82, h0]
    refine stk_draw mixed (tabOf_ok _) (fnOf_ok _) 17 (by kernel_rfl) ?_; simp (maxSteps := 3000000) [Tr.map]
    simp (maxSteps := 3000000) [Tr.map, h1, h2]
    (have hc_ := z1); (try simp at hc_); refine QCall.introW hc_ (by simp (maxDischargeDepth := 20)) (by simp (maxDischargeDepth := 12)) (by simp (maxDischargeDepth := 12)) ?_; clear hc_; (try simp (maxSteps := 3000000) [Tr.map])
    (have hc_ := z2); (try simp at hc_); refine QCall.introW hc_ (by simp (maxDischargeDepth := 20)) (by simp (maxDischargeDepth := 12)) (by simp (maxDischargeDepth := 12)) ?_; clear hc_; (try simp (maxSteps := 3000000) [Tr.map, hz, hq, hw])
    (have hc_ := f'); (try simp at hc_); refine QCall.introW hc_ (by simp (maxDischargeDepth := 20)) (by simp (maxDischargeDepth := 12)) (by simp (maxDischargeDepth := 12)) ?_; clear hc_; (try simp (maxSteps := 3000000) [Tr.map])
    refine stk_run 400 ?_; simp (maxSteps := 3000000) [Tr.map]
    (try simp [Tm.enc]); (first | (refine .done ?_; simp [Tm.enc]; done) | (refine Tn.wkRet ?_; simp (maxDischargeDepth := 20)) | (refine Tn.wkPan ?_; simp (maxDischargeDepth := 20)))

theorem num_rem_ok (a b : Int) (ha : In64 a) (hb : In64 b) : ACalls Try.prog 83 [prE a b] [] (fun r _ => r = .ret (oute (remZ a b))) := by
  by_cases h0 : b = 0
  · subst h0
    refine ACalls.post (calls_tree 400 fn83 (by simp [Try.f83]) ?_); simp (maxSteps := 3000000) [Tr.map, Try.f83]
    (try simp [Tm.enc, remZ]); (first | (refine .done ?_; simp [Tm.enc, remZ]; done) | (refine Tn.wkRet ?_; simp (maxDischargeDepth := 20)) | (refine Tn.wkPan ?_; simp (maxDischargeDepth := 20)))
  have z1 := num_size_ok a ha
  have z2 := num_size_ok b hb
  have b1 := absB ha
  have b2 := absB hb
  have hs := rem_sign a b
  have hz : (b.natAbs : Int) ≠ 0 := by omega
  have hR : remZ a b = fitZ (a.tmod b) := by rw [fitZ_in (tmod_in ha h0)]; exact if_neg h0
  rw [hR]
  have hq := Int.tmod_eq_emod_of_nonneg (b := (b.natAbs : Int)) b1.1
  have hq1 := Int.emod_nonneg (a.natAbs : Int) hz
  have hq2 := Int.emod_lt_of_pos (a.natAbs : Int) (show (0 : Int) < b.natAbs by omega)
  clear hR
  generalize a.tmod b = T at *
  generalize (a.natAbs : Int) = A at *
  generalize (b.natAbs : Int) = B at *
  generalize A % B = M at *
  have f := fun g => num_fit_ok g M ⟨hq1, by omega⟩
  by_cases h1 : a < 0
  all_goals
    simp [h1] at hs
    have f' := f (decide (a < 0))
    simp [h1] at f'
    subst hs
    refine ACalls.post (calls_tree 400 fn83 (by simp [Try.f83]) ?_); simp (maxSteps := 3000000) [Tr.map, Try.f83, h0]
    refine stk_draw mixed (tabOf_ok _) (fnOf_ok _) 13 (by kernel_rfl) ?_; simp (maxSteps := 3000000) [Tr.map]
    simp (maxSteps := 3000000) [Tr.map, h1]
    (have hc_ := z1); (try simp at hc_); refine QCall.introW hc_ (by simp (maxDischargeDepth := 20)) (by simp (maxDischargeDepth := 12)) (by simp (maxDischargeDepth := 12)) ?_; clear hc_; (try simp (maxSteps := 3000000) [Tr.map])
    (have hc_ := z2); (try simp at hc_); refine QCall.introW hc_ (by simp (maxDischargeDepth := 20)) (by simp (maxDischargeDepth := 12)) (by simp (maxDischargeDepth := 12)) ?_; clear hc_; (try simp (maxSteps := 3000000) [Tr.map, hz, hq])
    (have hc_ := f'); (try simp at hc_); refine QCall.introW hc_ (by simp (maxDischargeDepth := 20)) (by simp (maxDischargeDepth := 12)) (by simp (maxDischargeDepth := 12)) ?_; clear hc_; (try simp (maxSteps := 3000000) [Tr.map])
    refine stk_run 400 ?_; simp (maxSteps := 3000000) [Tr.map]
    (try simp [Tm.enc]); (first | (refine .done ?_; simp [Tm.enc]; done) | (refine Tn.wkRet ?_; simp (maxDischargeDepth := 20)) | (refine Tn.wkPan ?_; simp (maxDischargeDepth := 20)))

end Go.Proofs.Yteebkkipeiggcaa


/- Contracts: package num's operators, the others; Two and One. -/
namespace Go.Proofs.Yteebkkipeiggcaa
open Go Go.Vm

set_option maxRecDepth 20000
set_option maxHeartbeats 1000000

theorem num_mod_ok (a b : Int) (ha : In64 a) (hb : In64 b) : ACalls Try.prog 84 [prE a b] [] (fun r _ => r = .ret (oute (modZ a b))) := by
  have k := num_rem_ok a b ha hb
  by_cases h0 : b = 0
  · subst h0
    simp [remZ] at k
    refine ACalls.post (calls_tree 400 fn84 (by simp [Try.f84]) ?_); simp (maxSteps := 3000000) [Tr.map, Try.f84]
    (have hc_ := k); (try simp at hc_); refine ACalls.retW hc_ (by simp (maxDischargeDepth := 20)) (by simp (maxDischargeDepth := 12)) (by simp (maxDischargeDepth := 12)) ?_; clear hc_; (try simp (maxSteps := 3000000) [Tr.map])
    (try simp [Tm.enc, modZ]); (first | (refine .done ?_; simp [Tm.enc, modZ]; done) | (refine Tn.wkRet ?_; simp (maxDischargeDepth := 20)) | (refine Tn.wkPan ?_; simp (maxDischargeDepth := 20)))
  simp only [remZ, if_neg h0] at k
  have hR : modZ a b = (a.fmod b, 0) := if_neg h0
  have hl := fmod_law (a := a) h0
  rw [hR]
  have hi := tmod_in ha h0
  generalize a.fmod b = R at *
  generalize a.tmod b = T at *
  clear hR
  by_cases h1 : T = 0
  · subst h1
    simp at hl; subst hl
    refine ACalls.post (calls_tree 400 fn84 (by simp [Try.f84]) ?_); simp (maxSteps := 3000000) [Tr.map, Try.f84]
    (have hc_ := k); (try simp at hc_); refine ACalls.retW hc_ (by simp (maxDischargeDepth := 20)) (by simp (maxDischargeDepth := 12)) (by simp (maxDischargeDepth := 12)) ?_; clear hc_; (try simp (maxSteps := 3000000) [Tr.map])
    (try simp [Tm.enc]); (first | (refine .done ?_; simp [Tm.enc]; done) | (refine Tn.wkRet ?_; simp (maxDischargeDepth := 20)) | (refine Tn.wkPan ?_; simp (maxDischargeDepth := 20)))
  have hw : ∀ (_ : (T < 0) ≠ (b < 0)), IntKind.i64.wrap (T + b) = T + b := fun h => wrapI_id (by unfold In64 at *; by_cases q : T < 0 <;> by_cases q' : b < 0 <;> simp [q, q'] at h <;> omega)
  by_cases h2 : T < 0 <;> by_cases h3 : b < 0
  all_goals
    simp [h1, h2, h3] at hl
    simp [h2, h3] at hw
    subst hl
    refine ACalls.post (calls_tree 400 fn84 (by simp [Try.f84]) ?_); simp (maxSteps := 3000000) [Tr.map, Try.f84]
    (have hc_ := k); (try simp at hc_); refine ACalls.retW hc_ (by simp (maxDischargeDepth := 20)) (by simp (maxDischargeDepth := 12)) (by simp (maxDischargeDepth := 12)) ?_; clear hc_; (try simp (maxSteps := 3000000) [Tr.map, h1, h2, h3, hw])
    (try simp [Tm.enc]); (first | (refine .done ?_; simp [Tm.enc]; done) | (refine Tn.wkRet ?_; simp (maxDischargeDepth := 20)) | (refine Tn.wkPan ?_; simp (maxDischargeDepth := 20)))

theorem num_div_ok (a b : Int) (ha : In64 a) (hb : In64 b) : ACalls Try.prog 85 [prE a b] [] (fun r _ => r = .ret (oute (divZ a b))) := by
  have k := num_rem_ok a b ha hb
  have k2 := num_quo_ok a b ha hb
  by_cases h0 : b = 0
  · subst h0
    simp [remZ] at k
    simp [quoZ] at k2
    refine ACalls.post (calls_tree 400 fn85 (by simp [Try.f85]) ?_); simp (maxSteps := 3000000) [Tr.map, Try.f85]
    (have hc_ := k2); (try simp at hc_); refine ACalls.retW hc_ (by simp (maxDischargeDepth := 20)) (by simp (maxDischargeDepth := 12)) (by simp (maxDischargeDepth := 12)) ?_; clear hc_; (try simp (maxSteps := 3000000) [Tr.map])
    (have hc_ := k); (try simp at hc_); refine ACalls.retW hc_ (by simp (maxDischargeDepth := 20)) (by simp (maxDischargeDepth := 12)) (by simp (maxDischargeDepth := 12)) ?_; clear hc_; (try simp (maxSteps := 3000000) [Tr.map])
    (try simp [Tm.enc, divZ]); (first | (refine .done ?_; simp [Tm.enc, divZ]; done) | (refine Tn.wkRet ?_; simp (maxDischargeDepth := 20)) | (refine Tn.wkPan ?_; simp (maxDischargeDepth := 20)))
  simp only [remZ, if_neg h0] at k
  simp only [quoZ, if_neg h0] at k2
  have hR : divZ a b = fitZ (a.fdiv b) := if_neg h0
  rw [hR, fitZ_fdiv ha h0]
  by_cases hq : In64 (a.tdiv b)
  · rw [if_pos hq]
    rw [fitZ_in hq] at k2
    have hi := fdiv_in ha h0 hq
    have hl := fdiv_law (a := a) h0
    generalize a.fdiv b = R at *
    generalize a.tmod b = T at *
    generalize a.tdiv b = Q at *
    clear hR
    by_cases h1 : T = 0
    · subst h1
      simp at hl; subst hl
      refine ACalls.post (calls_tree 400 fn85 (by simp [Try.f85]) ?_); simp (maxSteps := 3000000) [Tr.map, Try.f85]
      (have hc_ := k2); (try simp at hc_); refine ACalls.retW hc_ (by simp (maxDischargeDepth := 20)) (by simp (maxDischargeDepth := 12)) (by simp (maxDischargeDepth := 12)) ?_; clear hc_; (try simp (maxSteps := 3000000) [Tr.map])
      (have hc_ := k); (try simp at hc_); refine ACalls.retW hc_ (by simp (maxDischargeDepth := 20)) (by simp (maxDischargeDepth := 12)) (by simp (maxDischargeDepth := 12)) ?_; clear hc_; (try simp (maxSteps := 3000000) [Tr.map])
      (try simp [Tm.enc]); (first | (refine .done ?_; simp [Tm.enc]; done) | (refine Tn.wkRet ?_; simp (maxDischargeDepth := 20)) | (refine Tn.wkPan ?_; simp (maxDischargeDepth := 20)))
    by_cases h2 : T < 0 <;> by_cases h3 : b < 0
    all_goals
      simp [h1, h2, h3] at hl
      have hw := wrapI_id hi
      subst hl
      refine ACalls.post (calls_tree 400 fn85 (by simp [Try.f85]) ?_); simp (maxSteps := 3000000) [Tr.map, Try.f85]
      (have hc_ := k2); (try simp at hc_); refine ACalls.retW hc_ (by simp (maxDischargeDepth := 20)) (by simp (maxDischargeDepth := 12)) (by simp (maxDischargeDepth := 12)) ?_; clear hc_; (try simp (maxSteps := 3000000) [Tr.map])
      (have hc_ := k); (try simp at hc_); refine ACalls.retW hc_ (by simp (maxDischargeDepth := 20)) (by simp (maxDischargeDepth := 12)) (by simp (maxDischargeDepth := 12)) ?_; clear hc_; (try simp (maxSteps := 3000000) [Tr.map, h1, h2, h3, hw])
      (try simp [Tm.enc]); (first | (refine .done ?_; simp [Tm.enc]; done) | (refine Tn.wkRet ?_; simp (maxDischargeDepth := 20)) | (refine Tn.wkPan ?_; simp (maxDischargeDepth := 20)))
  · rw [if_neg hq]
    rw [fitZ_out hq] at k2
    generalize a.tmod b = T at *
    refine ACalls.post (calls_tree 400 fn85 (by simp [Try.f85]) ?_); simp (maxSteps := 3000000) [Tr.map, Try.f85]
    (have hc_ := k2); (try simp at hc_); refine ACalls.retW hc_ (by simp (maxDischargeDepth := 20)) (by simp (maxDischargeDepth := 12)) (by simp (maxDischargeDepth := 12)) ?_; clear hc_; (try simp (maxSteps := 3000000) [Tr.map])
    (have hc_ := k); (try simp at hc_); refine ACalls.retW hc_ (by simp (maxDischargeDepth := 20)) (by simp (maxDischargeDepth := 12)) (by simp (maxDischargeDepth := 12)) ?_; clear hc_; (try simp (maxSteps := 3000000) [Tr.map])
    (try simp [Tm.enc]); (first | (refine .done ?_; simp [Tm.enc]; done) | (refine Tn.wkRet ?_; simp (maxDischargeDepth := 20)) | (refine Tn.wkPan ?_; simp (maxDischargeDepth := 20)))

theorem num_min_ok (a b : Int) : ACalls Try.prog 86 [prE a b] [] (fun r _ => r = .ret (oute (min a b, 0))) := by
  by_cases h : b < a
  · have e : min a b = b := by omega
    rw [e]
    refine ACalls.post (calls_tree 400 fn86 (by simp [Try.f86]) ?_); simp (maxSteps := 3000000) [Tr.map, Try.f86, h]
    (try simp [Tm.enc]); (first | (refine .done ?_; simp [Tm.enc]; done) | (refine Tn.wkRet ?_; simp (maxDischargeDepth := 20)) | (refine Tn.wkPan ?_; simp (maxDischargeDepth := 20)))
  · have e : min a b = a := by omega
    rw [e]
    refine ACalls.post (calls_tree 400 fn86 (by simp [Try.f86]) ?_); simp (maxSteps := 3000000) [Tr.map, Try.f86, h]
    (try simp [Tm.enc]); (first | (refine .done ?_; simp [Tm.enc]; done) | (refine Tn.wkRet ?_; simp (maxDischargeDepth := 20)) | (refine Tn.wkPan ?_; simp (maxDischargeDepth := 20)))
theorem num_max_ok (a b : Int) : ACalls Try.prog 87 [prE a b] [] (fun r _ => r = .ret (oute (max a b, 0))) := by
  by_cases h : a < b
  · have e : max a b = b := by omega
    rw [e]
    refine ACalls.post (calls_tree 400 fn87 (by simp [Try.f87]) ?_); simp (maxSteps := 3000000) [Tr.map, Try.f87, h]
    (try simp [Tm.enc]); (first | (refine .done ?_; simp [Tm.enc]; done) | (refine Tn.wkRet ?_; simp (maxDischargeDepth := 20)) | (refine Tn.wkPan ?_; simp (maxDischargeDepth := 20)))
  · have e : max a b = a := by omega
    rw [e]
    refine ACalls.post (calls_tree 400 fn87 (by simp [Try.f87]) ?_); simp (maxSteps := 3000000) [Tr.map, Try.f87, h]
    (try simp [Tm.enc]); (first | (refine .done ?_; simp [Tm.enc]; done) | (refine Tn.wkRet ?_; simp (maxDischargeDepth := 20)) | (refine Tn.wkPan ?_; simp (maxDischargeDepth := 20)))
theorem num_and_ok (a b : Int) : ACalls Try.prog 88 [prE a b] [] (fun r _ => r = .ret (oute (andZ a b, 0))) := by
  refine ACalls.post (calls_tree 400 fn88 (by simp [Try.f88]) ?_); simp (maxSteps := 3000000) [Tr.map, Try.f88, landK_i64]
  (try simp [Tm.enc]); (first | (refine .done ?_; simp [Tm.enc]; done) | (refine Tn.wkRet ?_; simp (maxDischargeDepth := 20)) | (refine Tn.wkPan ?_; simp (maxDischargeDepth := 20)))
theorem num_or_ok (a b : Int) : ACalls Try.prog 89 [prE a b] [] (fun r _ => r = .ret (oute (orZ a b, 0))) := by
  refine ACalls.post (calls_tree 400 fn89 (by simp [Try.f89]) ?_); simp (maxSteps := 3000000) [Tr.map, Try.f89, lorK_i64]
  (try simp [Tm.enc]); (first | (refine .done ?_; simp [Tm.enc]; done) | (refine Tn.wkRet ?_; simp (maxDischargeDepth := 20)) | (refine Tn.wkPan ?_; simp (maxDischargeDepth := 20)))
theorem num_xor_ok (a b : Int) : ACalls Try.prog 90 [prE a b] [] (fun r _ => r = .ret (oute (xorZ a b, 0))) := by
  refine ACalls.post (calls_tree 400 fn90 (by simp [Try.f90]) ?_); simp (maxSteps := 3000000) [Tr.map, Try.f90, lxorK_i64]
  (try simp [Tm.enc]); (first | (refine .done ?_; simp [Tm.enc]; done) | (refine Tn.wkRet ?_; simp (maxDischargeDepth := 20)) | (refine Tn.wkPan ?_; simp (maxDischargeDepth := 20)))

theorem num_left_ok (a b : Int) : ACalls Try.prog 91 [prE a b] [] (fun r _ => r = .ret (oute (leftZ a b))) := by
  by_cases h1 : b < 0
  · have hR : leftZ a b = (0, 11) := if_pos (.inl h1)
    rw [hR]
    refine ACalls.post (calls_tree 400 fn91 (by simp [Try.f91]) ?_); simp (maxSteps := 3000000) [Tr.map, Try.f91]
    refine stk_draw mixed (tabOf_ok _) (fnOf_ok _) 19 (by kernel_rfl) ?_; simp (maxSteps := 3000000) [Tr.map, h1]
    refine stk_run 400 ?_; simp (maxSteps := 3000000) [Tr.map]
    (try simp [Tm.enc]); (first | (refine .done ?_; simp [Tm.enc]; done) | (refine Tn.wkRet ?_; simp (maxDischargeDepth := 20)) | (refine Tn.wkPan ?_; simp (maxDischargeDepth := 20)))
  by_cases h2 : 63 < b
  · have hR : leftZ a b = (0, 11) := if_pos (.inr h2)
    rw [hR]
    refine ACalls.post (calls_tree 400 fn91 (by simp [Try.f91]) ?_); simp (maxSteps := 3000000) [Tr.map, Try.f91]
    refine stk_draw mixed (tabOf_ok _) (fnOf_ok _) 19 (by kernel_rfl) ?_; simp (maxSteps := 3000000) [Tr.map, h1, h2]
    refine stk_run 400 ?_; simp (maxSteps := 3000000) [Tr.map]
    (try simp [Tm.enc]); (first | (refine .done ?_; simp [Tm.enc]; done) | (refine Tn.wkRet ?_; simp (maxDischargeDepth := 20)) | (refine Tn.wkPan ?_; simp (maxDischargeDepth := 20)))
  have hR : leftZ a b = fitZ (a * 2 ^ b.toNat) := if_neg (by omega)
  rw [hR]
  obtain ⟨k, rfl⟩ : ∃ k : Nat, b = k := ⟨b.toNat, by omega⟩
  have hk : min k 64 = k := by omega
  have hP : (0 : Int) < 2 ^ k ∧ (2 : Int) ^ k ≤ 9223372036854775808 := by
    refine ⟨Int.pow_pos (by decide), ?_⟩
    have h := Nat.pow_le_pow_right (show 0 < 2 by decide) (show k ≤ 63 by omega)
    have e : ((2 ^ k : Nat) : Int) = (2 : Int) ^ k := by simp
    rw [← e]; omega
  have hl := left_law (a := a) hP
  simp only [Int.toNat_natCast]
  clear hR
  generalize hk2 : (2 : Int) ^ k = P at *
  by_cases h3 : In64 (a * P)
  · have hw := wrapI_id h3
    have hf := hl.2 h3
    rw [hw] at hf
    rw [fitZ_in h3]
    refine ACalls.post (calls_tree 400 fn91 (by simp [Try.f91]) ?_); simp (maxSteps := 3000000) [Tr.map, Try.f91]
    refine stk_draw mixed (tabOf_ok _) (fnOf_ok _) 19 (by kernel_rfl) ?_; simp (maxSteps := 3000000) [Tr.map, h1, h2, hk, hk2]
    refine stk_run 400 ?_; simp (maxSteps := 3000000) [Tr.map, hw, hf, hk, hk2]
    (try simp [Tm.enc, hk, hk2, hw]); (first | (refine .done ?_; simp [Tm.enc, hk, hk2, hw]; done) | (refine Tn.wkRet ?_; simp (maxDischargeDepth := 20)) | (refine Tn.wkPan ?_; simp (maxDischargeDepth := 20)))
  · rw [fitZ_out h3]
    have hf : ¬ (IntKind.i64.wrap (a * P)).fdiv P = a := fun e => h3 (hl.1 e)
    refine ACalls.post (calls_tree 400 fn91 (by simp [Try.f91]) ?_); simp (maxSteps := 3000000) [Tr.map, Try.f91]
    refine stk_draw mixed (tabOf_ok _) (fnOf_ok _) 19 (by kernel_rfl) ?_; simp (maxSteps := 3000000) [Tr.map, h1, h2, hk, hk2]
    refine stk_run 400 ?_; simp (maxSteps := 3000000) [Tr.map, hf, hk, hk2]
    (try simp [Tm.enc]); (first | (refine .done ?_; simp [Tm.enc]; done) | (refine Tn.wkRet ?_; simp (maxDischargeDepth := 20)) | (refine Tn.wkPan ?_; simp (maxDischargeDepth := 20)))

theorem num_right_ok (a b : Int) : ACalls Try.prog 92 [prE a b] [] (fun r _ => r = .ret (oute (rightZ a b))) := by
  by_cases h1 : b < 0
  · have hR : rightZ a b = (0, 11) := if_pos h1
    rw [hR]
    refine ACalls.post (calls_tree 400 fn92 (by simp [Try.f92]) ?_); simp (maxSteps := 3000000) [Tr.map, Try.f92, h1]
    (try simp [Tm.enc]); (first | (refine .done ?_; simp [Tm.enc]; done) | (refine Tn.wkRet ?_; simp (maxDischargeDepth := 20)) | (refine Tn.wkPan ?_; simp (maxDischargeDepth := 20)))
  have hR : rightZ a b = (a.fdiv (2 ^ (min b 63).toNat), 0) := if_neg h1
  rw [hR]
  by_cases h2 : 63 < b
  · have e : min b 63 = 63 := by omega
    rw [e]
    refine ACalls.post (calls_tree 400 fn92 (by simp [Try.f92]) ?_); simp (maxSteps := 3000000) [Tr.map, Try.f92, h1, h2]
    (try simp [Tm.enc]); (first | (refine .done ?_; simp [Tm.enc]; done) | (refine Tn.wkRet ?_; simp (maxDischargeDepth := 20)) | (refine Tn.wkPan ?_; simp (maxDischargeDepth := 20)))
  · have e : min b 63 = b := by omega
    have e2 : min b.toNat 64 = b.toNat := by omega
    rw [e]
    refine ACalls.post (calls_tree 400 fn92 (by simp [Try.f92]) ?_); simp (maxSteps := 3000000) [Tr.map, Try.f92, h1, h2, e2]
    (try simp [Tm.enc]); (first | (refine .done ?_; simp [Tm.enc]; done) | (refine Tn.wkRet ?_; simp (maxDischargeDepth := 20)) | (refine Tn.wkPan ?_; simp (maxDischargeDepth := 20)))

theorem pow_grow {a : Int} (h1 : a ≠ 1) (h2 : a ≠ -1) (h3 : a ≠ 0) (k : Nat) : (a ^ k).natAbs ≤ (a ^ (k + 1)).natAbs := by
  rw [Int.pow_succ, Int.natAbs_mul]
  have : 1 ≤ a.natAbs := by omega
  exact Nat.le_mul_of_pos_right _ (by omega)

theorem pow_dbl {a : Int} (h1 : a ≠ 1) (h2 : a ≠ -1) (h3 : a ≠ 0) (k : Nat) : (a ^ k).natAbs * 2 ≤ (a ^ (k + 1)).natAbs := by
  rw [Int.pow_succ, Int.natAbs_mul]
  exact Nat.mul_le_mul_left _ (by omega)
theorem pow_stays {a : Int} (h1 : a ≠ 1) (h2 : a ≠ -1) (h3 : a ≠ 0) {i k : Nat} (hik : i < k) (hk : In64 (a ^ k)) : In64 (a ^ i) := by
  have hmono : ∀ j, (a ^ (i + 1)).natAbs ≤ (a ^ (i + 1 + j)).natAbs := by
    intro j
    induction j with
    | zero => exact Nat.le_refl _
    | succ j ih => exact Nat.le_trans ih (pow_grow h1 h2 h3 _)
  have h9 := hmono (k - (i + 1))
  rw [show i + 1 + (k - (i + 1)) = k by omega] at h9
  have h8 := pow_dbl h1 h2 h3 i
  unfold In64 at *
  omega

theorem num_power_ok (a b : Int) (ha : In64 a) (hb : In64 b) : ACalls Try.prog 93 [prE a b] [] (fun r _ => r = .ret (oute (powZ a b))) := by
  have hR : powZ a b = if a = 1 then (1, 0) else if a = -1 then (1 - 2 * (b % 2), 0) else if a = 0 ∧ 0 < b then (0, 0) else if a = 0 ∧ b < 0 then (0, 10) else if b < 0 ∨ 63 < b then (0, 11) else fitZ (a ^ b.toNat) := rfl
  by_cases h1 : a = 1
  · subst h1
    refine ACalls.post (calls_tree 400 fn93 (by simp [Try.f93]) ?_); simp (maxSteps := 3000000) [Tr.map, Try.f93]
    (try simp [Tm.enc, powZ]); (first | (refine .done ?_; simp [Tm.enc, powZ]; done) | (refine Tn.wkRet ?_; simp (maxDischargeDepth := 20)) | (refine Tn.wkPan ?_; simp (maxDischargeDepth := 20)))
  by_cases h2 : a = -1
  · subst h2
    have e : IntKind.i64.wrap (1 - IntKind.i64.wrap (2 * (b % 2))) = 1 - 2 * (b % 2) := by rw [wrap64 (n := 2 * (b % 2)) (by omega) (by omega), wrap64 (by omega) (by omega)]
    have e2 := and_one hb
    refine ACalls.post (calls_tree 400 fn93 (by simp [Try.f93]) ?_); simp (maxSteps := 3000000) [Tr.map, Try.f93, landK_i64, e2, e]
    (try simp [Tm.enc, powZ, e]); (first | (refine .done ?_; simp [Tm.enc, powZ, e]; done) | (refine Tn.wkRet ?_; simp (maxDischargeDepth := 20)) | (refine Tn.wkPan ?_; simp (maxDischargeDepth := 20)))
  by_cases h3 : a = 0
  · subst h3
    by_cases h4 : 0 < b
    · simp [h4] at hR
      rw [hR]
      refine ACalls.post (calls_tree 400 fn93 (by simp [Try.f93]) ?_); simp (maxSteps := 3000000) [Tr.map, Try.f93, h4]
      (try simp [Tm.enc]); (first | (refine .done ?_; simp [Tm.enc]; done) | (refine Tn.wkRet ?_; simp (maxDischargeDepth := 20)) | (refine Tn.wkPan ?_; simp (maxDischargeDepth := 20)))
    by_cases h5 : b < 0
    · simp [h4, h5] at hR
      rw [hR]
      refine ACalls.post (calls_tree 400 fn93 (by simp [Try.f93]) ?_); simp (maxSteps := 3000000) [Tr.map, Try.f93, h4, h5]
      (try simp [Tm.enc]); (first | (refine .done ?_; simp [Tm.enc]; done) | (refine Tn.wkRet ?_; simp (maxDischargeDepth := 20)) | (refine Tn.wkPan ?_; simp (maxDischargeDepth := 20)))
    have hb0 : b = 0 := by omega
    subst hb0
    refine ACalls.post (calls_tree 400 fn93 (by simp [Try.f93]) ?_); simp (maxSteps := 3000000) [Tr.map, Try.f93]
    refine AStk.liveT [1, 4, 48, 49] ?_; simp [Tr.map]
    refine AStk.round ?_
    refine stk_run 400 ?_; simp (maxSteps := 3000000) [Tr.map]
    (try simp [Tm.enc, powZ, fitZ, In64]); (first | (refine .done ?_; simp [Tm.enc, powZ, fitZ, In64]; done) | (refine Tn.wkRet ?_; simp (maxDischargeDepth := 20)) | (refine Tn.wkPan ?_; simp (maxDischargeDepth := 20)))
  by_cases h4 : b < 0
  · simp [h1, h2, h3, h4] at hR
    rw [hR]
    refine ACalls.post (calls_tree 400 fn93 (by simp [Try.f93]) ?_); simp (maxSteps := 3000000) [Tr.map, Try.f93, h1, h2, h3, h4]
    (try simp [Tm.enc]); (first | (refine .done ?_; simp [Tm.enc]; done) | (refine Tn.wkRet ?_; simp (maxDischargeDepth := 20)) | (refine Tn.wkPan ?_; simp (maxDischargeDepth := 20)))
  by_cases h5 : 63 < b
  · simp [h1, h2, h3, h4, h5] at hR
    rw [hR]
    refine ACalls.post (calls_tree 400 fn93 (by simp [Try.f93]) ?_); simp (maxSteps := 3000000) [Tr.map, Try.f93, h1, h2, h3, h4, h5]
    (try simp [Tm.enc]); (first | (refine .done ?_; simp [Tm.enc]; done) | (refine Tn.wkRet ?_; simp (maxDischargeDepth := 20)) | (refine Tn.wkPan ?_; simp (maxDischargeDepth := 20)))
  simp only [h1, h2, h3, h4, h5, if_false, false_and, or_self] at hR
  rw [hR]
  clear hR
  obtain ⟨k, rfl⟩ : ∃ k : Nat, b = k := ⟨b.toNat, by omega⟩
  simp only [Int.toNat_natCast]
  refine ACalls.post (calls_tree 400 fn93 (by simp [Try.f93]) ?_); simp (maxSteps := 3000000) [Tr.map, Try.f93, h1, h2, h3, h4, h5]
  refine AStk.liveT [1, 4, 48, 49] ?_; simp [Tr.map]
  refine AStk.indE (fun d_ a_ h_ => ∃ (i : Nat), (i ≤ k ∧ In64 (a ^ i)) ∧ d_ = k - i ∧ a_ = ⟨toL 65 (mkT [(1, .ptr 0 0), (4, .int .i64 (a ^ i)), (48, .int .i64 k), (49, .int .i64 i)] (.e .any)), []⟩ ∧ h_ = [.var [.int .i64 a, .int .i64 k]]) ?_ ?_
  · exact ⟨_, 0, ⟨by omega, by simp [In64]⟩, rfl, by simp [Tr.map], by simp⟩
  rintro d_ a_ h_ ⟨i, ⟨hi, hin⟩, rfl, rfl, rfl⟩ IH
  by_cases hlt : i < k
  · have hlt' : (i : Int) < k := by omega
    have m := num_times_ok (a ^ i) a hin ha
    rw [← Int.pow_succ] at m
    by_cases hf : In64 (a ^ (i + 1))
    · rw [fitZ_in hf] at m
      refine stk_run 400 ?_; simp (maxSteps := 3000000) [Tr.map, hlt']
      (have hc_ := m); (try simp at hc_); refine ACalls.retW hc_ (by simp (maxDischargeDepth := 20)) (by simp (maxDischargeDepth := 12)) (by simp (maxDischargeDepth := 12)) ?_; clear hc_; (try simp (maxSteps := 3000000) [Tr.map])
      (try simp (disch := omega) only [wrap64])
      refine AStk.liveT [1, 4, 48, 49] ?_; simp [Tr.map]
      exact IH _ _ _ (by omega) ⟨i + 1, ⟨by omega, hf⟩, rfl, by simp [Tr.map], by simp⟩
    · have hfin : ¬ In64 (a ^ k) := by
        intro hk
        by_cases e : i + 1 = k
        · rw [e] at hf; exact hf hk
        · exact hf (pow_stays h1 h2 h3 (by omega) hk)
      rw [fitZ_out hf] at m
      rw [fitZ_out hfin]
      refine stk_run 400 ?_; simp (maxSteps := 3000000) [Tr.map, hlt']
      (have hc_ := m); (try simp at hc_); refine ACalls.retW hc_ (by simp (maxDischargeDepth := 20)) (by simp (maxDischargeDepth := 12)) (by simp (maxDischargeDepth := 12)) ?_; clear hc_; (try simp (maxSteps := 3000000) [Tr.map])
      (try simp [Tm.enc]); (first | (refine .done ?_; simp [Tm.enc]; done) | (refine Tn.wkRet ?_; simp (maxDischargeDepth := 20)) | (refine Tn.wkPan ?_; simp (maxDischargeDepth := 20)))
  · have hik : i = k := by omega
    subst hik
    rw [fitZ_in hin]
    refine stk_run 400 ?_; simp (maxSteps := 3000000) [Tr.map]
    (try simp [Tm.enc]); (first | (refine .done ?_; simp [Tm.enc]; done) | (refine Tn.wkRet ?_; simp (maxDischargeDepth := 20)) | (refine Tn.wkPan ?_; simp (maxDischargeDepth := 20)))

end Go.Proofs.Yteebkkipeiggcaa


/- Contracts: num.Two and num.One. -/
namespace Go.Vm
open Go
/-- What an operator of two numbers makes of them: the number, what is wrong. -/
def twoT (op : ByteArray) (a b : Int) : Int × Int :=
  if op = ⟨#[43]⟩ then fitZ (a + b) else if op = ⟨#[45]⟩ then fitZ (a - b) else if op = ⟨#[42]⟩ then fitZ (a * b) else if op = ⟨#[47, 47]⟩ then quoZ a b else if op = ⟨#[114, 101, 109]⟩ then remZ a b else if op = ⟨#[109, 111, 100]⟩ then modZ a b
  else if op = ⟨#[100, 105, 118]⟩ then divZ a b else if op = ⟨#[109, 105, 110]⟩ then (min a b, 0) else if op = ⟨#[109, 97, 120]⟩ then (max a b, 0) else if op = ⟨#[47, 92]⟩ then (andZ a b, 0) else if op = ⟨#[92, 47]⟩ then (orZ a b, 0) else if op = ⟨#[120, 111, 114]⟩ then (xorZ a b, 0)
  else if op = ⟨#[60, 60]⟩ then leftZ a b else if op = ⟨#[62, 62]⟩ then rightZ a b else if op = ⟨#[42, 42]⟩ then powZ a b else if op = ⟨#[94]⟩ then powZ a b else (0, 8)
def oneT (op : ByteArray) (a : Int) : Int × Int :=
  if op = ⟨#[43]⟩ then (a, 0) else if op = ⟨#[45]⟩ then fitZ (0 - a) else if op = ⟨#[97, 98, 115]⟩ then fitZ a.natAbs else if op = ⟨#[115, 105, 103, 110]⟩ then (min (max a (-1)) 1, 0) else if op = ⟨#[92]⟩ then (notZ a, 0) else (0, 8)
end Go.Vm
namespace Go.Proofs.Yteebkkipeiggcaa
open Go Go.Vm

set_option maxRecDepth 20000
set_option maxHeartbeats 2000000

theorem two_add (a b : Int) (ha : In64 a) (hb : In64 b) : ACalls Try.prog 47 [.str ⟨#[43]⟩, .int .i64 a, .int .i64 b] [] (fun r _ => r = .ret (oute (twoT ⟨#[43]⟩ a b))) := by
  have h1 := by first | exact num_plus_ok a b ha hb | exact num_plus_ok a b
  simp only [twoT]
  refine ACalls.post (calls_tree 400 fn47 (by simp [Try.f47]) ?_); simp (maxSteps := 3000000) [Tr.map, Try.f47]
  (have hc_ := h1); (try simp at hc_); refine ACalls.retW hc_ (by simp (maxDischargeDepth := 20)) (by simp (maxDischargeDepth := 12)) (by simp (maxDischargeDepth := 12)) ?_; clear hc_; (try simp (maxSteps := 3000000) [Tr.map])
  (try simp [Tm.enc]); (first | (refine .done ?_; simp [Tm.enc]; done) | (refine Tn.wkRet ?_; simp (maxDischargeDepth := 20)) | (refine Tn.wkPan ?_; simp (maxDischargeDepth := 20)))
theorem two_sub (a b : Int) (ha : In64 a) (hb : In64 b) : ACalls Try.prog 47 [.str ⟨#[45]⟩, .int .i64 a, .int .i64 b] [] (fun r _ => r = .ret (oute (twoT ⟨#[45]⟩ a b))) := by
  have h1 := by first | exact num_minus_ok a b ha hb | exact num_minus_ok a b
  simp only [twoT]
  refine ACalls.post (calls_tree 400 fn47 (by simp [Try.f47]) ?_); simp (maxSteps := 3000000) [Tr.map, Try.f47]
  (have hc_ := h1); (try simp at hc_); refine ACalls.retW hc_ (by simp (maxDischargeDepth := 20)) (by simp (maxDischargeDepth := 12)) (by simp (maxDischargeDepth := 12)) ?_; clear hc_; (try simp (maxSteps := 3000000) [Tr.map])
  (try simp [Tm.enc]); (first | (refine .done ?_; simp [Tm.enc]; done) | (refine Tn.wkRet ?_; simp (maxDischargeDepth := 20)) | (refine Tn.wkPan ?_; simp (maxDischargeDepth := 20)))
theorem two_mul (a b : Int) (ha : In64 a) (hb : In64 b) : ACalls Try.prog 47 [.str ⟨#[42]⟩, .int .i64 a, .int .i64 b] [] (fun r _ => r = .ret (oute (twoT ⟨#[42]⟩ a b))) := by
  have h1 := by first | exact num_times_ok a b ha hb | exact num_times_ok a b
  simp only [twoT]
  refine ACalls.post (calls_tree 400 fn47 (by simp [Try.f47]) ?_); simp (maxSteps := 3000000) [Tr.map, Try.f47]
  (have hc_ := h1); (try simp at hc_); refine ACalls.retW hc_ (by simp (maxDischargeDepth := 20)) (by simp (maxDischargeDepth := 12)) (by simp (maxDischargeDepth := 12)) ?_; clear hc_; (try simp (maxSteps := 3000000) [Tr.map])
  (try simp [Tm.enc]); (first | (refine .done ?_; simp [Tm.enc]; done) | (refine Tn.wkRet ?_; simp (maxDischargeDepth := 20)) | (refine Tn.wkPan ?_; simp (maxDischargeDepth := 20)))
theorem two_quo (a b : Int) (ha : In64 a) (hb : In64 b) : ACalls Try.prog 47 [.str ⟨#[47, 47]⟩, .int .i64 a, .int .i64 b] [] (fun r _ => r = .ret (oute (twoT ⟨#[47, 47]⟩ a b))) := by
  have h1 := by first | exact num_quo_ok a b ha hb | exact num_quo_ok a b
  simp only [twoT]
  refine ACalls.post (calls_tree 400 fn47 (by simp [Try.f47]) ?_); simp (maxSteps := 3000000) [Tr.map, Try.f47]
  (have hc_ := h1); (try simp at hc_); refine ACalls.retW hc_ (by simp (maxDischargeDepth := 20)) (by simp (maxDischargeDepth := 12)) (by simp (maxDischargeDepth := 12)) ?_; clear hc_; (try simp (maxSteps := 3000000) [Tr.map])
  (try simp [Tm.enc]); (first | (refine .done ?_; simp [Tm.enc]; done) | (refine Tn.wkRet ?_; simp (maxDischargeDepth := 20)) | (refine Tn.wkPan ?_; simp (maxDischargeDepth := 20)))
theorem two_rem (a b : Int) (ha : In64 a) (hb : In64 b) : ACalls Try.prog 47 [.str ⟨#[114, 101, 109]⟩, .int .i64 a, .int .i64 b] [] (fun r _ => r = .ret (oute (twoT ⟨#[114, 101, 109]⟩ a b))) := by
  have h1 := by first | exact num_rem_ok a b ha hb | exact num_rem_ok a b
  simp only [twoT]
  refine ACalls.post (calls_tree 400 fn47 (by simp [Try.f47]) ?_); simp (maxSteps := 3000000) [Tr.map, Try.f47]
  (have hc_ := h1); (try simp at hc_); refine ACalls.retW hc_ (by simp (maxDischargeDepth := 20)) (by simp (maxDischargeDepth := 12)) (by simp (maxDischargeDepth := 12)) ?_; clear hc_; (try simp (maxSteps := 3000000) [Tr.map])
  (try simp [Tm.enc]); (first | (refine .done ?_; simp [Tm.enc]; done) | (refine Tn.wkRet ?_; simp (maxDischargeDepth := 20)) | (refine Tn.wkPan ?_; simp (maxDischargeDepth := 20)))
theorem two_mod (a b : Int) (ha : In64 a) (hb : In64 b) : ACalls Try.prog 47 [.str ⟨#[109, 111, 100]⟩, .int .i64 a, .int .i64 b] [] (fun r _ => r = .ret (oute (twoT ⟨#[109, 111, 100]⟩ a b))) := by
  have h1 := by first | exact num_mod_ok a b ha hb | exact num_mod_ok a b
  simp only [twoT]
  refine ACalls.post (calls_tree 400 fn47 (by simp [Try.f47]) ?_); simp (maxSteps := 3000000) [Tr.map, Try.f47]
  (have hc_ := h1); (try simp at hc_); refine ACalls.retW hc_ (by simp (maxDischargeDepth := 20)) (by simp (maxDischargeDepth := 12)) (by simp (maxDischargeDepth := 12)) ?_; clear hc_; (try simp (maxSteps := 3000000) [Tr.map])
  (try simp [Tm.enc]); (first | (refine .done ?_; simp [Tm.enc]; done) | (refine Tn.wkRet ?_; simp (maxDischargeDepth := 20)) | (refine Tn.wkPan ?_; simp (maxDischargeDepth := 20)))
theorem two_div (a b : Int) (ha : In64 a) (hb : In64 b) : ACalls Try.prog 47 [.str ⟨#[100, 105, 118]⟩, .int .i64 a, .int .i64 b] [] (fun r _ => r = .ret (oute (twoT ⟨#[100, 105, 118]⟩ a b))) := by
  have h1 := by first | exact num_div_ok a b ha hb | exact num_div_ok a b
  simp only [twoT]
  refine ACalls.post (calls_tree 400 fn47 (by simp [Try.f47]) ?_); simp (maxSteps := 3000000) [Tr.map, Try.f47]
  (have hc_ := h1); (try simp at hc_); refine ACalls.retW hc_ (by simp (maxDischargeDepth := 20)) (by simp (maxDischargeDepth := 12)) (by simp (maxDischargeDepth := 12)) ?_; clear hc_; (try simp (maxSteps := 3000000) [Tr.map])
  (try simp [Tm.enc]); (first | (refine .done ?_; simp [Tm.enc]; done) | (refine Tn.wkRet ?_; simp (maxDischargeDepth := 20)) | (refine Tn.wkPan ?_; simp (maxDischargeDepth := 20)))
theorem two_min (a b : Int) (ha : In64 a) (hb : In64 b) : ACalls Try.prog 47 [.str ⟨#[109, 105, 110]⟩, .int .i64 a, .int .i64 b] [] (fun r _ => r = .ret (oute (twoT ⟨#[109, 105, 110]⟩ a b))) := by
  have h1 := by first | exact num_min_ok a b ha hb | exact num_min_ok a b
  simp only [twoT]
  refine ACalls.post (calls_tree 400 fn47 (by simp [Try.f47]) ?_); simp (maxSteps := 3000000) [Tr.map, Try.f47]
  (have hc_ := h1); (try simp at hc_); refine ACalls.retW hc_ (by simp (maxDischargeDepth := 20)) (by simp (maxDischargeDepth := 12)) (by simp (maxDischargeDepth := 12)) ?_; clear hc_; (try simp (maxSteps := 3000000) [Tr.map])
  (try simp [Tm.enc]); (first | (refine .done ?_; simp [Tm.enc]; done) | (refine Tn.wkRet ?_; simp (maxDischargeDepth := 20)) | (refine Tn.wkPan ?_; simp (maxDischargeDepth := 20)))
theorem two_max (a b : Int) (ha : In64 a) (hb : In64 b) : ACalls Try.prog 47 [.str ⟨#[109, 97, 120]⟩, .int .i64 a, .int .i64 b] [] (fun r _ => r = .ret (oute (twoT ⟨#[109, 97, 120]⟩ a b))) := by
  have h1 := by first | exact num_max_ok a b ha hb | exact num_max_ok a b
  simp only [twoT]
  refine ACalls.post (calls_tree 400 fn47 (by simp [Try.f47]) ?_); simp (maxSteps := 3000000) [Tr.map, Try.f47]
  (have hc_ := h1); (try simp at hc_); refine ACalls.retW hc_ (by simp (maxDischargeDepth := 20)) (by simp (maxDischargeDepth := 12)) (by simp (maxDischargeDepth := 12)) ?_; clear hc_; (try simp (maxSteps := 3000000) [Tr.map])
  (try simp [Tm.enc]); (first | (refine .done ?_; simp [Tm.enc]; done) | (refine Tn.wkRet ?_; simp (maxDischargeDepth := 20)) | (refine Tn.wkPan ?_; simp (maxDischargeDepth := 20)))
theorem two_and (a b : Int) (ha : In64 a) (hb : In64 b) : ACalls Try.prog 47 [.str ⟨#[47, 92]⟩, .int .i64 a, .int .i64 b] [] (fun r _ => r = .ret (oute (twoT ⟨#[47, 92]⟩ a b))) := by
  have h1 := by first | exact num_and_ok a b ha hb | exact num_and_ok a b
  simp only [twoT]
  refine ACalls.post (calls_tree 400 fn47 (by simp [Try.f47]) ?_); simp (maxSteps := 3000000) [Tr.map, Try.f47]
  (have hc_ := h1); (try simp at hc_); refine ACalls.retW hc_ (by simp (maxDischargeDepth := 20)) (by simp (maxDischargeDepth := 12)) (by simp (maxDischargeDepth := 12)) ?_; clear hc_; (try simp (maxSteps := 3000000) [Tr.map])
  (try simp [Tm.enc]); (first | (refine .done ?_; simp [Tm.enc]; done) | (refine Tn.wkRet ?_; simp (maxDischargeDepth := 20)) | (refine Tn.wkPan ?_; simp (maxDischargeDepth := 20)))
theorem two_or (a b : Int) (ha : In64 a) (hb : In64 b) : ACalls Try.prog 47 [.str ⟨#[92, 47]⟩, .int .i64 a, .int .i64 b] [] (fun r _ => r = .ret (oute (twoT ⟨#[92, 47]⟩ a b))) := by
  have h1 := by first | exact num_or_ok a b ha hb | exact num_or_ok a b
  simp only [twoT]
  refine ACalls.post (calls_tree 400 fn47 (by simp [Try.f47]) ?_); simp (maxSteps := 3000000) [Tr.map, Try.f47]
  (have hc_ := h1); (try simp at hc_); refine ACalls.retW hc_ (by simp (maxDischargeDepth := 20)) (by simp (maxDischargeDepth := 12)) (by simp (maxDischargeDepth := 12)) ?_; clear hc_; (try simp (maxSteps := 3000000) [Tr.map])
  (try simp [Tm.enc]); (first | (refine .done ?_; simp [Tm.enc]; done) | (refine Tn.wkRet ?_; simp (maxDischargeDepth := 20)) | (refine Tn.wkPan ?_; simp (maxDischargeDepth := 20)))
theorem two_xor (a b : Int) (ha : In64 a) (hb : In64 b) : ACalls Try.prog 47 [.str ⟨#[120, 111, 114]⟩, .int .i64 a, .int .i64 b] [] (fun r _ => r = .ret (oute (twoT ⟨#[120, 111, 114]⟩ a b))) := by
  have h1 := by first | exact num_xor_ok a b ha hb | exact num_xor_ok a b
  simp only [twoT]
  refine ACalls.post (calls_tree 400 fn47 (by simp [Try.f47]) ?_); simp (maxSteps := 3000000) [Tr.map, Try.f47]
  (have hc_ := h1); (try simp at hc_); refine ACalls.retW hc_ (by simp (maxDischargeDepth := 20)) (by simp (maxDischargeDepth := 12)) (by simp (maxDischargeDepth := 12)) ?_; clear hc_; (try simp (maxSteps := 3000000) [Tr.map])
  (try simp [Tm.enc]); (first | (refine .done ?_; simp [Tm.enc]; done) | (refine Tn.wkRet ?_; simp (maxDischargeDepth := 20)) | (refine Tn.wkPan ?_; simp (maxDischargeDepth := 20)))
theorem two_shl (a b : Int) (ha : In64 a) (hb : In64 b) : ACalls Try.prog 47 [.str ⟨#[60, 60]⟩, .int .i64 a, .int .i64 b] [] (fun r _ => r = .ret (oute (twoT ⟨#[60, 60]⟩ a b))) := by
  have h1 := by first | exact num_left_ok a b ha hb | exact num_left_ok a b
  simp only [twoT]
  refine ACalls.post (calls_tree 400 fn47 (by simp [Try.f47]) ?_); simp (maxSteps := 3000000) [Tr.map, Try.f47]
  (have hc_ := h1); (try simp at hc_); refine ACalls.retW hc_ (by simp (maxDischargeDepth := 20)) (by simp (maxDischargeDepth := 12)) (by simp (maxDischargeDepth := 12)) ?_; clear hc_; (try simp (maxSteps := 3000000) [Tr.map])
  (try simp [Tm.enc]); (first | (refine .done ?_; simp [Tm.enc]; done) | (refine Tn.wkRet ?_; simp (maxDischargeDepth := 20)) | (refine Tn.wkPan ?_; simp (maxDischargeDepth := 20)))
theorem two_shr (a b : Int) (ha : In64 a) (hb : In64 b) : ACalls Try.prog 47 [.str ⟨#[62, 62]⟩, .int .i64 a, .int .i64 b] [] (fun r _ => r = .ret (oute (twoT ⟨#[62, 62]⟩ a b))) := by
  have h1 := by first | exact num_right_ok a b ha hb | exact num_right_ok a b
  simp only [twoT]
  refine ACalls.post (calls_tree 400 fn47 (by simp [Try.f47]) ?_); simp (maxSteps := 3000000) [Tr.map, Try.f47]
  (have hc_ := h1); (try simp at hc_); refine ACalls.retW hc_ (by simp (maxDischargeDepth := 20)) (by simp (maxDischargeDepth := 12)) (by simp (maxDischargeDepth := 12)) ?_; clear hc_; (try simp (maxSteps := 3000000) [Tr.map])
  (try simp [Tm.enc]); (first | (refine .done ?_; simp [Tm.enc]; done) | (refine Tn.wkRet ?_; simp (maxDischargeDepth := 20)) | (refine Tn.wkPan ?_; simp (maxDischargeDepth := 20)))
theorem two_pow (a b : Int) (ha : In64 a) (hb : In64 b) : ACalls Try.prog 47 [.str ⟨#[42, 42]⟩, .int .i64 a, .int .i64 b] [] (fun r _ => r = .ret (oute (twoT ⟨#[42, 42]⟩ a b))) := by
  have h1 := by first | exact num_power_ok a b ha hb | exact num_power_ok a b
  simp only [twoT]
  refine ACalls.post (calls_tree 400 fn47 (by simp [Try.f47]) ?_); simp (maxSteps := 3000000) [Tr.map, Try.f47]
  (have hc_ := h1); (try simp at hc_); refine ACalls.retW hc_ (by simp (maxDischargeDepth := 20)) (by simp (maxDischargeDepth := 12)) (by simp (maxDischargeDepth := 12)) ?_; clear hc_; (try simp (maxSteps := 3000000) [Tr.map])
  (try simp [Tm.enc]); (first | (refine .done ?_; simp [Tm.enc]; done) | (refine Tn.wkRet ?_; simp (maxDischargeDepth := 20)) | (refine Tn.wkPan ?_; simp (maxDischargeDepth := 20)))
theorem two_pow2 (a b : Int) (ha : In64 a) (hb : In64 b) : ACalls Try.prog 47 [.str ⟨#[94]⟩, .int .i64 a, .int .i64 b] [] (fun r _ => r = .ret (oute (twoT ⟨#[94]⟩ a b))) := by
  have h1 := by first | exact num_power_ok a b ha hb | exact num_power_ok a b
  simp only [twoT]
  refine ACalls.post (calls_tree 400 fn47 (by simp [Try.f47]) ?_); simp (maxSteps := 3000000) [Tr.map, Try.f47]
  (have hc_ := h1); (try simp at hc_); refine ACalls.retW hc_ (by simp (maxDischargeDepth := 20)) (by simp (maxDischargeDepth := 12)) (by simp (maxDischargeDepth := 12)) ?_; clear hc_; (try simp (maxSteps := 3000000) [Tr.map])
  (try simp [Tm.enc]); (first | (refine .done ?_; simp [Tm.enc]; done) | (refine Tn.wkRet ?_; simp (maxDischargeDepth := 20)) | (refine Tn.wkPan ?_; simp (maxDischargeDepth := 20)))
theorem num_two_ok (op : ByteArray) (a b : Int) (ha : In64 a) (hb : In64 b) : ACalls Try.prog 47 [.str op, .int .i64 a, .int .i64 b] [] (fun r _ => r = .ret (oute (twoT op a b))) := by
  by_cases hadd : op = ⟨#[43]⟩
  · subst hadd; exact two_add a b ha hb
  by_cases hsub : op = ⟨#[45]⟩
  · subst hsub; exact two_sub a b ha hb
  by_cases hmul : op = ⟨#[42]⟩
  · subst hmul; exact two_mul a b ha hb
  by_cases hquo : op = ⟨#[47, 47]⟩
  · subst hquo; exact two_quo a b ha hb
  by_cases hrem : op = ⟨#[114, 101, 109]⟩
  · subst hrem; exact two_rem a b ha hb
  by_cases hmod : op = ⟨#[109, 111, 100]⟩
  · subst hmod; exact two_mod a b ha hb
  by_cases hdiv : op = ⟨#[100, 105, 118]⟩
  · subst hdiv; exact two_div a b ha hb
  by_cases hmin : op = ⟨#[109, 105, 110]⟩
  · subst hmin; exact two_min a b ha hb
  by_cases hmax : op = ⟨#[109, 97, 120]⟩
  · subst hmax; exact two_max a b ha hb
  by_cases hand : op = ⟨#[47, 92]⟩
  · subst hand; exact two_and a b ha hb
  by_cases hor : op = ⟨#[92, 47]⟩
  · subst hor; exact two_or a b ha hb
  by_cases hxor : op = ⟨#[120, 111, 114]⟩
  · subst hxor; exact two_xor a b ha hb
  by_cases hshl : op = ⟨#[60, 60]⟩
  · subst hshl; exact two_shl a b ha hb
  by_cases hshr : op = ⟨#[62, 62]⟩
  · subst hshr; exact two_shr a b ha hb
  by_cases hpow : op = ⟨#[42, 42]⟩
  · subst hpow; exact two_pow a b ha hb
  by_cases hpow2 : op = ⟨#[94]⟩
  · subst hpow2; exact two_pow2 a b ha hb
  have gadd := Ne.symm hadd
  have gsub := Ne.symm hsub
  have gmul := Ne.symm hmul
  have gquo := Ne.symm hquo
  have grem := Ne.symm hrem
  have gmod := Ne.symm hmod
  have gdiv := Ne.symm hdiv
  have gmin := Ne.symm hmin
  have gmax := Ne.symm hmax
  have gand := Ne.symm hand
  have gor := Ne.symm hor
  have gxor := Ne.symm hxor
  have gshl := Ne.symm hshl
  have gshr := Ne.symm hshr
  have gpow := Ne.symm hpow
  have gpow2 := Ne.symm hpow2
  refine ACalls.post (calls_tree 400 fn47 (by simp [Try.f47]) ?_); simp (maxSteps := 3000000) [Tr.map, Try.f47, hadd, hsub, hmul, hquo, hrem, hmod, hdiv, hmin, hmax, hand, hor, hxor, hshl, hshr, hpow, hpow2, gadd, gsub, gmul, gquo, grem, gmod, gdiv, gmin, gmax, gand, gor, gxor, gshl, gshr, gpow, gpow2]
  (try simp [Tm.enc, twoT, hadd, hsub, hmul, hquo, hrem, hmod, hdiv, hmin, hmax, hand, hor, hxor, hshl, hshr, hpow, hpow2]); (first | (refine .done ?_; simp [Tm.enc, twoT, hadd, hsub, hmul, hquo, hrem, hmod, hdiv, hmin, hmax, hand, hor, hxor, hshl, hshr, hpow, hpow2]; done) | (refine Tn.wkRet ?_; simp (maxDischargeDepth := 20)) | (refine Tn.wkPan ?_; simp (maxDischargeDepth := 20)))

theorem num_one_ok (op : ByteArray) (a : Int) (ha : In64 a) : ACalls Try.prog 112 [.str op, .int .i64 a] [] (fun r _ => r = .ret (oute (oneT op a))) := by
  by_cases h1 : op = ⟨#[43]⟩
  · subst h1
    refine ACalls.post (calls_tree 400 fn112 (by simp [Try.f112]) ?_); simp (maxSteps := 3000000) [Tr.map, Try.f112]
    (try simp [Tm.enc, oneT]); (first | (refine .done ?_; simp [Tm.enc, oneT]; done) | (refine Tn.wkRet ?_; simp (maxDischargeDepth := 20)) | (refine Tn.wkPan ?_; simp (maxDischargeDepth := 20)))
  by_cases h2 : op = ⟨#[45]⟩
  · subst h2
    have m := num_minus_ok 0 a (by decide) ha
    refine ACalls.post (calls_tree 400 fn112 (by simp [Try.f112]) ?_); simp (maxSteps := 3000000) [Tr.map, Try.f112]
    (have hc_ := m); (try simp at hc_); refine ACalls.retW hc_ (by simp (maxDischargeDepth := 20)) (by simp (maxDischargeDepth := 12)) (by simp (maxDischargeDepth := 12)) ?_; clear hc_; (try simp (maxSteps := 3000000) [Tr.map])
    (try simp [Tm.enc, oneT]); (first | (refine .done ?_; simp [Tm.enc, oneT]; done) | (refine Tn.wkRet ?_; simp (maxDischargeDepth := 20)) | (refine Tn.wkPan ?_; simp (maxDischargeDepth := 20)))
  by_cases h3 : op = ⟨#[97, 98, 115]⟩
  · subst h3
    have b1 := absB ha
    have z := num_size_ok a ha
    have f := num_fit_ok false a.natAbs ⟨b1.1, by omega⟩
    simp only [oneT]
    generalize (a.natAbs : Int) = A at *
    refine ACalls.post (calls_tree 400 fn112 (by simp [Try.f112]) ?_); simp (maxSteps := 3000000) [Tr.map, Try.f112]
    (have hc_ := z); (try simp at hc_); refine ACalls.retW hc_ (by simp (maxDischargeDepth := 20)) (by simp (maxDischargeDepth := 12)) (by simp (maxDischargeDepth := 12)) ?_; clear hc_; (try simp (maxSteps := 3000000) [Tr.map])
    (have hc_ := f); (try simp at hc_); refine ACalls.retW hc_ (by simp (maxDischargeDepth := 20)) (by simp (maxDischargeDepth := 12)) (by simp (maxDischargeDepth := 12)) ?_; clear hc_; (try simp (maxSteps := 3000000) [Tr.map])
    (try simp [Tm.enc]); (first | (refine .done ?_; simp [Tm.enc]; done) | (refine Tn.wkRet ?_; simp (maxDischargeDepth := 20)) | (refine Tn.wkPan ?_; simp (maxDischargeDepth := 20)))
  by_cases h4 : op = ⟨#[115, 105, 103, 110]⟩
  · subst h4
    by_cases g1 : a < -1
    · have e : min (max a (-1)) 1 = -1 := by omega
      refine ACalls.post (calls_tree 400 fn112 (by simp [Try.f112]) ?_); simp (maxSteps := 3000000) [Tr.map, Try.f112, g1]
      (try simp [Tm.enc, oneT, e]); (first | (refine .done ?_; simp [Tm.enc, oneT, e]; done) | (refine Tn.wkRet ?_; simp (maxDischargeDepth := 20)) | (refine Tn.wkPan ?_; simp (maxDischargeDepth := 20)))
    by_cases g2 : 1 < a
    · have e : min (max a (-1)) 1 = 1 := by omega
      refine ACalls.post (calls_tree 400 fn112 (by simp [Try.f112]) ?_); simp (maxSteps := 3000000) [Tr.map, Try.f112, g1, g2]
      (try simp [Tm.enc, oneT, e]); (first | (refine .done ?_; simp [Tm.enc, oneT, e]; done) | (refine Tn.wkRet ?_; simp (maxDischargeDepth := 20)) | (refine Tn.wkPan ?_; simp (maxDischargeDepth := 20)))
    · have e : min (max a (-1)) 1 = a := by omega
      refine ACalls.post (calls_tree 400 fn112 (by simp [Try.f112]) ?_); simp (maxSteps := 3000000) [Tr.map, Try.f112, g1, g2]
      (try simp [Tm.enc, oneT, e]); (first | (refine .done ?_; simp [Tm.enc, oneT, e]; done) | (refine Tn.wkRet ?_; simp (maxDischargeDepth := 20)) | (refine Tn.wkPan ?_; simp (maxDischargeDepth := 20)))
  by_cases h5 : op = ⟨#[92]⟩
  · subst h5
    have e : lxorK .i64 (-1) a = notZ a := by rw [lxorK_i64]; exact notZ_law ha
    refine ACalls.post (calls_tree 400 fn112 (by simp [Try.f112]) ?_); simp (maxSteps := 3000000) [Tr.map, Try.f112, e]
    (try simp [Tm.enc, oneT]); (first | (refine .done ?_; simp [Tm.enc, oneT]; done) | (refine Tn.wkRet ?_; simp (maxDischargeDepth := 20)) | (refine Tn.wkPan ?_; simp (maxDischargeDepth := 20)))
  refine ACalls.post (calls_tree 400 fn112 (by simp [Try.f112]) ?_); simp (maxSteps := 3000000) [Tr.map, Try.f112, h1, h2, h3, h4, h5]
  (try simp [Tm.enc, oneT, h1, h2, h3, h4, h5]); (first | (refine .done ?_; simp [Tm.enc, oneT, h1, h2, h3, h4, h5]; done) | (refine Tn.wkRet ?_; simp (maxDischargeDepth := 20)) | (refine Tn.wkPan ?_; simp (maxDischargeDepth := 20)))

end Go.Proofs.Yteebkkipeiggcaa


/- Contracts: the document's operators of numbers. -/
namespace Go.Vm
open Go
def toldZ (v : Int) (ok : Bool) : Int × Int := if ok = true then (v, 0) else (0, 11)
theorem toldZ_in {n : Int} (h : In64 n) : toldZ n true = fitZ n := by rw [fitZ_in h]; rfl
theorem toldZ_out {n v : Int} (h : ¬ In64 n) : toldZ v false = fitZ n := by rw [fitZ_out h]; rfl
theorem tmod_small {n b : Int} (hb : b ≠ 0) : (n.tmod b).natAbs < b.natAbs := by
  rw [rem_sign]
  have h1 := Int.emod_lt_of_pos (n.natAbs : Int) (show (0 : Int) < b.natAbs by omega)
  have h2 := Int.emod_nonneg (n.natAbs : Int) (show (b.natAbs : Int) ≠ 0 by omega)
  split <;> omega
theorem mul_quo {a b : Int} (hb : In64 b) (h0 : b ≠ 0) : (IntKind.i64.wrap (a * b)).tdiv b = a ↔ In64 (a * b) := by
  constructor
  · intro h
    obtain ⟨k, hk⟩ := wrapI_mod (a * b)
    have h1 := Int.mul_tdiv_add_tmod (IntKind.i64.wrap (a * b)) b
    have h2 := tmod_small (n := IntKind.i64.wrap (a * b)) h0
    rw [h, Int.mul_comm b a] at h1
    rw [← wrapI_iff]
    unfold In64 at hb
    omega
  · intro h
    rw [wrapI_id h, Int.mul_tdiv_cancel _ h0]
end Go.Vm
namespace Go.Proofs.Yteebkkipeiggcaa
open Go Go.Vm

set_option maxRecDepth 20000
set_option maxHeartbeats 2000000

abbrev okO (v : Int) (ok : Bool) : AV := .tup [.int .i64 v, .bool ok]

theorem ref_told_ok (v : Int) (ok : Bool) : ACalls Try.prog 123 [.int .i64 v, .bool ok] [] (fun r _ => r = .ret (oute (toldZ v ok))) := by
  cases ok
  · refine ACalls.post (calls_tree 400 fn123 (by simp [Try.f123]) ?_); simp (maxSteps := 3000000) [Tr.map, Try.f123]
    (try simp [Tm.enc, toldZ]); (first | (refine .done ?_; simp [Tm.enc, toldZ]; done) | (refine Tn.wkRet ?_; simp (maxDischargeDepth := 20)) | (refine Tn.wkPan ?_; simp (maxDischargeDepth := 20)))
  · refine ACalls.post (calls_tree 400 fn123 (by simp [Try.f123]) ?_); simp (maxSteps := 3000000) [Tr.map, Try.f123]
    (try simp [Tm.enc, toldZ]); (first | (refine .done ?_; simp [Tm.enc, toldZ]; done) | (refine Tn.wkRet ?_; simp (maxDischargeDepth := 20)) | (refine Tn.wkPan ?_; simp (maxDischargeDepth := 20)))

theorem ref_add_ok (a b : Int) (ha : In64 a) (hb : In64 b) : ∃ v ok, toldZ v ok = fitZ (a + b) ∧ (ok = true → v = a + b) ∧ ACalls Try.prog 124 [.int .i64 a, .int .i64 b] [] (fun r _ => r = .ret (okO v ok)) := by
  unfold In64 at ha hb
  by_cases h1 : 0 < b
  · have w1 : IntKind.i64.wrap (9223372036854775807 - b) = 9223372036854775807 - b := wrap64 (by omega) (by omega)
    by_cases h2 : 9223372036854775807 - b < a
    · refine ⟨0, false, toldZ_out (fun h => by unfold In64 at h; omega), by simp, ?_⟩
      refine ACalls.post (calls_tree 400 fn124 (by simp [Try.f124]) ?_); simp (maxSteps := 3000000) [Tr.map, Try.f124, h1, w1, h2]
      (try simp [Tm.enc]); (first | (refine .done ?_; simp [Tm.enc]; done) | (refine Tn.wkRet ?_; simp (maxDischargeDepth := 20)) | (refine Tn.wkPan ?_; simp (maxDischargeDepth := 20)))
    · have w2 : IntKind.i64.wrap (a + b) = a + b := wrap64 (by omega) (by omega)
      have h3 : ¬ b < 0 := by omega
      refine ⟨a + b, true, toldZ_in ⟨by omega, by omega⟩, fun _ => rfl, ?_⟩
      refine ACalls.post (calls_tree 400 fn124 (by simp [Try.f124]) ?_); simp (maxSteps := 3000000) [Tr.map, Try.f124, h1, w1, h2, h3, w2]
      (try simp [Tm.enc, w2]); (first | (refine .done ?_; simp [Tm.enc, w2]; done) | (refine Tn.wkRet ?_; simp (maxDischargeDepth := 20)) | (refine Tn.wkPan ?_; simp (maxDischargeDepth := 20)))
  · by_cases h2 : b < 0
    · have w1 : IntKind.i64.wrap (-9223372036854775808 - b) = -9223372036854775808 - b := wrap64 (by omega) (by omega)
      by_cases h3 : a < -9223372036854775808 - b
      · refine ⟨0, false, toldZ_out (fun h => by unfold In64 at h; omega), by simp, ?_⟩
        refine ACalls.post (calls_tree 400 fn124 (by simp [Try.f124]) ?_); simp (maxSteps := 3000000) [Tr.map, Try.f124, h1, w1, h2, h3]
        (try simp [Tm.enc]); (first | (refine .done ?_; simp [Tm.enc]; done) | (refine Tn.wkRet ?_; simp (maxDischargeDepth := 20)) | (refine Tn.wkPan ?_; simp (maxDischargeDepth := 20)))
      · have w2 : IntKind.i64.wrap (a + b) = a + b := wrap64 (by omega) (by omega)
        refine ⟨a + b, true, toldZ_in ⟨by omega, by omega⟩, fun _ => rfl, ?_⟩
        refine ACalls.post (calls_tree 400 fn124 (by simp [Try.f124]) ?_); simp (maxSteps := 3000000) [Tr.map, Try.f124, h1, w1, h2, h3, w2]
        (try simp [Tm.enc, w2]); (first | (refine .done ?_; simp [Tm.enc, w2]; done) | (refine Tn.wkRet ?_; simp (maxDischargeDepth := 20)) | (refine Tn.wkPan ?_; simp (maxDischargeDepth := 20)))
    · have w2 : IntKind.i64.wrap (a + b) = a + b := wrap64 (by omega) (by omega)
      refine ⟨a + b, true, toldZ_in ⟨by omega, by omega⟩, fun _ => rfl, ?_⟩
      refine ACalls.post (calls_tree 400 fn124 (by simp [Try.f124]) ?_); simp (maxSteps := 3000000) [Tr.map, Try.f124, h1, h2, w2]
      (try simp [Tm.enc, w2]); (first | (refine .done ?_; simp [Tm.enc, w2]; done) | (refine Tn.wkRet ?_; simp (maxDischargeDepth := 20)) | (refine Tn.wkPan ?_; simp (maxDischargeDepth := 20)))

theorem ref_mul_ok (a b : Int) (ha : In64 a) (hb : In64 b) : ∃ v ok, toldZ v ok = fitZ (a * b) ∧ (ok = true → v = a * b) ∧ ACalls Try.prog 125 [.int .i64 a, .int .i64 b] [] (fun r _ => r = .ret (okO v ok)) := by
  by_cases h1 : a = 0
  · subst h1
    refine ⟨0, true, by rw [Int.zero_mul]; rfl, by simp, ?_⟩
    refine ACalls.post (calls_tree 400 fn125 (by simp [Try.f125]) ?_); simp (maxSteps := 3000000) [Tr.map, Try.f125]
    (try simp [Tm.enc]); (first | (refine .done ?_; simp [Tm.enc]; done) | (refine Tn.wkRet ?_; simp (maxDischargeDepth := 20)) | (refine Tn.wkPan ?_; simp (maxDischargeDepth := 20)))
  by_cases h2 : b = 0
  · subst h2
    refine ⟨0, true, by rw [Int.mul_zero]; rfl, by simp, ?_⟩
    refine ACalls.post (calls_tree 400 fn125 (by simp [Try.f125]) ?_); simp (maxSteps := 3000000) [Tr.map, Try.f125, h1]
    (try simp [Tm.enc]); (first | (refine .done ?_; simp [Tm.enc]; done) | (refine Tn.wkRet ?_; simp (maxDischargeDepth := 20)) | (refine Tn.wkPan ?_; simp (maxDischargeDepth := 20)))
  by_cases h3 : a = -1
  · subst h3
    by_cases h4 : b = -9223372036854775808
    · subst h4
      have wq : IntKind.i64.wrap 9223372036854775808 = -9223372036854775808 := by decide
      refine ⟨-9223372036854775808, false, by decide, by simp, ?_⟩
      refine ACalls.post (calls_tree 400 fn125 (by simp [Try.f125]) ?_); simp (maxSteps := 3000000) [Tr.map, Try.f125, wq]
      (try simp [Tm.enc, wq]); (first | (refine .done ?_; simp [Tm.enc, wq]; done) | (refine Tn.wkRet ?_; simp (maxDischargeDepth := 20)) | (refine Tn.wkPan ?_; simp (maxDischargeDepth := 20)))
    · have hi : In64 (-1 * b) := by unfold In64 at *; omega
      have w : IntKind.i64.wrap (b * -1) = -1 * b := by rw [Int.mul_comm]; exact wrapI_id hi
      have w' : IntKind.i64.wrap (-b) = -b := by have := wrapI_id hi; rwa [show -1 * b = -b by omega] at this
      refine ⟨-1 * b, true, toldZ_in hi, fun _ => rfl, ?_⟩
      have hn := bne_yes h4
      refine ACalls.post (calls_tree 400 fn125 (by simp [Try.f125]) ?_); simp (maxSteps := 3000000) [Tr.map, Try.f125, h2, h4, w, w', hn]
      (try simp [Tm.enc, w, w', hn]); (first | (refine .done ?_; simp [Tm.enc, w, w', hn]; done) | (refine Tn.wkRet ?_; simp (maxDischargeDepth := 20)) | (refine Tn.wkPan ?_; simp (maxDischargeDepth := 20)))
  by_cases h4 : b = -1
  · subst h4
    by_cases h5 : a = -9223372036854775808
    · subst h5
      have wq : IntKind.i64.wrap 9223372036854775808 = -9223372036854775808 := by decide
      refine ⟨-9223372036854775808, false, by decide, by simp, ?_⟩
      refine ACalls.post (calls_tree 400 fn125 (by simp [Try.f125]) ?_); simp (maxSteps := 3000000) [Tr.map, Try.f125, wq]
      (try simp [Tm.enc, wq]); (first | (refine .done ?_; simp [Tm.enc, wq]; done) | (refine Tn.wkRet ?_; simp (maxDischargeDepth := 20)) | (refine Tn.wkPan ?_; simp (maxDischargeDepth := 20)))
    · have hi : In64 (a * -1) := by unfold In64 at *; omega
      have w : IntKind.i64.wrap (a * -1) = a * -1 := wrapI_id hi
      have w' : IntKind.i64.wrap (-a) = -a := by have := wrapI_id hi; rwa [show a * -1 = -a by omega] at this
      refine ⟨a * -1, true, toldZ_in hi, fun _ => rfl, ?_⟩
      have hn := bne_yes h5
      refine ACalls.post (calls_tree 400 fn125 (by simp [Try.f125]) ?_); simp (maxSteps := 3000000) [Tr.map, Try.f125, h1, h3, h5, w, w', hn]
      (try simp [Tm.enc, w, w', hn]); (first | (refine .done ?_; simp [Tm.enc, w, w', hn]; done) | (refine Tn.wkRet ?_; simp (maxDischargeDepth := 20)) | (refine Tn.wkPan ?_; simp (maxDischargeDepth := 20)))
  have hq := mul_quo (a := a) hb h2
  by_cases h5 : In64 (a * b)
  · have w := wrapI_id h5
    have hq' := hq.2 h5
    rw [w] at hq'
    refine ⟨a * b, true, toldZ_in h5, fun _ => rfl, ?_⟩
    refine ACalls.post (calls_tree 400 fn125 (by simp [Try.f125]) ?_); simp (maxSteps := 3000000) [Tr.map, Try.f125, h1, h2, h3, h4, w, hq', wrapI_id ha]
    (try simp [Tm.enc, w]); (first | (refine .done ?_; simp [Tm.enc, w]; done) | (refine Tn.wkRet ?_; simp (maxDischargeDepth := 20)) | (refine Tn.wkPan ?_; simp (maxDischargeDepth := 20)))
  · have hq' : ¬ (IntKind.i64.wrap (a * b)).tdiv b = a := fun e => h5 (hq.1 e)
    have hi : In64 ((IntKind.i64.wrap (a * b)).tdiv b) := by
      rcases quo_bound (wrapI_in (a * b)) h2 with ⟨e, _⟩ | ⟨_, e⟩ | ⟨e1, e2⟩
      · exact absurd e h4
      · rw [e]; exact wrapI_in _
      · exact ⟨by omega, by omega⟩
    have w := wrapI_id hi
    refine ⟨0, false, toldZ_out h5, by simp, ?_⟩
    refine ACalls.post (calls_tree 400 fn125 (by simp [Try.f125]) ?_); simp (maxSteps := 3000000) [Tr.map, Try.f125, h1, h2, h3, h4, w, hq']
    (try simp [Tm.enc]); (first | (refine .done ?_; simp [Tm.enc]; done) | (refine Tn.wkRet ?_; simp (maxDischargeDepth := 20)) | (refine Tn.wkPan ?_; simp (maxDischargeDepth := 20)))

theorem ref_quo_ok (a b : Int) (ha : In64 a) (h0 : b ≠ 0) : ∃ v ok, toldZ v ok = fitZ (a.tdiv b) ∧ (ok = true → v = a.tdiv b) ∧ (b ≠ -1 → ok = true) ∧ ACalls Try.prog 126 [.int .i64 a, .int .i64 b] [] (fun r _ => r = .ret (okO v ok)) := by
  by_cases h1 : b = -1
  · subst h1
    obtain ⟨v, ok, m1, m2, m3⟩ := ref_mul_ok a (-1) ha (by decide)
    have e : a * -1 = a.tdiv (-1) := by rw [Int.tdiv_neg, Int.tdiv_one]; omega
    rw [e] at m1 m2
    refine ⟨v, ok, m1, m2, by simp, ?_⟩
    refine ACalls.post (calls_tree 400 fn126 (by simp [Try.f126]) ?_); simp (maxSteps := 3000000) [Tr.map, Try.f126]
    (have hc_ := m3); (try simp at hc_); refine ACalls.retW hc_ (by simp (maxDischargeDepth := 20)) (by simp (maxDischargeDepth := 12)) (by simp (maxDischargeDepth := 12)) ?_; clear hc_; (try simp (maxSteps := 3000000) [Tr.map])
    (try simp [Tm.enc]); (first | (refine .done ?_; simp [Tm.enc]; done) | (refine Tn.wkRet ?_; simp (maxDischargeDepth := 20)) | (refine Tn.wkPan ?_; simp (maxDischargeDepth := 20)))
  · have hi : In64 (a.tdiv b) := by
      rcases quo_bound ha h0 with ⟨e, _⟩ | ⟨_, e⟩ | ⟨e1, e2⟩
      · exact absurd e h1
      · rw [e]; exact ha
      · exact ⟨by omega, by omega⟩
    have w := wrapI_id hi
    refine ⟨a.tdiv b, true, toldZ_in hi, fun _ => rfl, fun _ => rfl, ?_⟩
    refine ACalls.post (calls_tree 400 fn126 (by simp [Try.f126]) ?_); simp (maxSteps := 3000000) [Tr.map, Try.f126, h0, h1, w]
    (try simp [Tm.enc, w]); (first | (refine .done ?_; simp [Tm.enc, w]; done) | (refine Tn.wkRet ?_; simp (maxDischargeDepth := 20)) | (refine Tn.wkPan ?_; simp (maxDischargeDepth := 20)))

theorem ref_down_ok (a b : Int) (ha : In64 a) (h0 : b ≠ 0) : ∃ v ok, toldZ v ok = fitZ (a.fdiv b) ∧ (ok = true → v = a.fdiv b) ∧ (b ≠ -1 → ok = true) ∧ ACalls Try.prog 127 [.int .i64 a, .int .i64 b] [] (fun r _ => r = .ret (okO v ok)) := by
  obtain ⟨v, ok, m1, m2, m3, m4⟩ := ref_quo_ok a b ha h0
  have hf := fitZ_fdiv ha h0
  have hl := fdiv_law (a := a) h0
  by_cases h1 : b = -1
  · subst h1
    have e : a.fdiv (-1) = a.tdiv (-1) := by rw [hl, if_neg]; rw [Int.tmod_neg, Int.tmod_one]; simp
    rw [e]
    refine ⟨v, ok, m1, m2, by simp, ?_⟩
    cases ok
    · refine ACalls.post (calls_tree 400 fn127 (by simp [Try.f127]) ?_); simp (maxSteps := 3000000) [Tr.map, Try.f127]
      (have hc_ := m4); (try simp at hc_); refine ACalls.retW hc_ (by simp (maxDischargeDepth := 20)) (by simp (maxDischargeDepth := 12)) (by simp (maxDischargeDepth := 12)) ?_; clear hc_; (try simp (maxSteps := 3000000) [Tr.map])
      (try simp [Tm.enc]); (first | (refine .done ?_; simp [Tm.enc]; done) | (refine Tn.wkRet ?_; simp (maxDischargeDepth := 20)) | (refine Tn.wkPan ?_; simp (maxDischargeDepth := 20)))
    · refine ACalls.post (calls_tree 400 fn127 (by simp [Try.f127]) ?_); simp (maxSteps := 3000000) [Tr.map, Try.f127]
      (have hc_ := m4); (try simp at hc_); refine ACalls.retW hc_ (by simp (maxDischargeDepth := 20)) (by simp (maxDischargeDepth := 12)) (by simp (maxDischargeDepth := 12)) ?_; clear hc_; (try simp (maxSteps := 3000000) [Tr.map])
      (try simp [Tm.enc]); (first | (refine .done ?_; simp [Tm.enc]; done) | (refine Tn.wkRet ?_; simp (maxDischargeDepth := 20)) | (refine Tn.wkPan ?_; simp (maxDischargeDepth := 20)))
  have hok := m3 h1
  subst hok
  have hv := m2 rfl
  subst hv
  have hi : In64 (a.tdiv b) := by
    rcases quo_bound ha h0 with ⟨e, _⟩ | ⟨_, e⟩ | ⟨e1, e2⟩
    · exact absurd e h1
    · rw [e]; exact ha
    · exact ⟨by omega, by omega⟩
  have hfi := fdiv_in ha h0 hi
  refine ⟨a.fdiv b, true, toldZ_in hfi, fun _ => rfl, fun _ => rfl, ?_⟩
  have hs := rem_sign a b
  have hm := Int.emod_nonneg (a.natAbs : Int) (show (b.natAbs : Int) ≠ 0 by omega)
  have w := wrapI_id hfi
  generalize (a.natAbs : Int) % b.natAbs = m at *
  generalize a.fdiv b = D at *
  generalize a.tdiv b = Q at *
  by_cases h2 : a.tmod b = 0
  · rw [h2] at hl
    simp at hl
    subst hl
    refine ACalls.post (calls_tree 400 fn127 (by simp [Try.f127]) ?_); simp (maxSteps := 3000000) [Tr.map, Try.f127]
    (have hc_ := m4); (try simp at hc_); refine ACalls.retW hc_ (by simp (maxDischargeDepth := 20)) (by simp (maxDischargeDepth := 12)) (by simp (maxDischargeDepth := 12)) ?_; clear hc_; (try simp (maxSteps := 3000000) [Tr.map, h0, h1, h2])
    (try simp [Tm.enc]); (first | (refine .done ?_; simp [Tm.enc]; done) | (refine Tn.wkRet ?_; simp (maxDischargeDepth := 20)) | (refine Tn.wkPan ?_; simp (maxDischargeDepth := 20)))
  · by_cases h3 : a < 0 <;> by_cases h4 : b < 0
    all_goals
      have h5 : (a.tmod b < 0) = (a < 0) := by simp [h3] at hs ⊢; omega
      simp only [h5] at hl
      simp [h2, h3, h4] at hl
      subst hl
      refine ACalls.post (calls_tree 400 fn127 (by simp [Try.f127]) ?_); simp (maxSteps := 3000000) [Tr.map, Try.f127]
      (have hc_ := m4); (try simp at hc_); refine ACalls.retW hc_ (by simp (maxDischargeDepth := 20)) (by simp (maxDischargeDepth := 12)) (by simp (maxDischargeDepth := 12)) ?_; clear hc_; (try simp (maxSteps := 3000000) [Tr.map, h0, h1, h2, h3, h4, w])
      (try simp [Tm.enc, w]); (first | (refine .done ?_; simp [Tm.enc, w]; done) | (refine Tn.wkRet ?_; simp (maxDischargeDepth := 20)) | (refine Tn.wkPan ?_; simp (maxDischargeDepth := 20)))

end Go.Proofs.Yteebkkipeiggcaa


/- Contracts: the document's powers and bits. -/
namespace Go.Vm
open Go
theorem fdiv_pos' (a : Int) {P : Int} (hP : 0 < P) : a.fdiv P = a / P := Int.fdiv_eq_ediv_of_nonneg _ (by omega)
theorem ediv_in {a P : Int} (ha : In64 a) (hP : 0 < P) : In64 (a / P) := by
  have h1 := Int.ediv_mul_le a (b := P) (by omega)
  have h2 := Int.lt_ediv_add_one_mul_self a hP
  unfold In64 at *
  by_cases hq : 0 ≤ a / P
  · have h3 : a / P * 1 ≤ a / P * P := Int.mul_le_mul_of_nonneg_left (by omega) hq
    omega
  · have h3 : (a / P + 1) * P ≤ (a / P + 1) * 1 := Int.mul_le_mul_of_nonpos_left (by omega) (by omega)
    omega
/-- A bit of a number. -/
def bitZ (a : Int) (i : Nat) : Int := (a / 2 ^ i) % 2
theorem bitZ_lsb {a : Int} {i : Nat} (hi : i < 64) : bitZ a i = if (BitVec.ofInt 64 a).getLsbD i then 1 else 0 := by
  have h1 : (BitVec.ofInt 64 a).getLsbD i = decide ((BitVec.ofInt 64 a).toNat / 2 ^ i % 2 = 1) := by
    rw [BitVec.getLsbD, Nat.testBit_eq_decide_div_mod_eq]
  rw [h1, BitVec.toNat_ofInt]
  unfold bitZ
  have hp : (0 : Int) < 2 ^ i := Int.pow_pos (by decide)
  have hs : (2 : Int) ^ 64 = 2 ^ i * (2 * 2 ^ (63 - i)) := by
    rw [← Int.mul_assoc, ← Int.pow_succ, ← Int.pow_add]
    congr 1; omega
  have e1 : (((a % ((2 ^ 64 : Nat) : Int)).toNat / 2 ^ i % 2 : Nat) : Int) = (a % 2 ^ 64) / 2 ^ i % 2 := by
    have h0 : 0 ≤ a % ((2 ^ 64 : Nat) : Int) := Int.emod_nonneg _ (by decide)
    simp only [Int.natCast_emod, Int.natCast_ediv, Int.toNat_of_nonneg h0]
    norm_cast
  have e2 : (a % 2 ^ 64) / 2 ^ i % 2 = a / 2 ^ i % 2 := by
    have hd := Int.mul_ediv_add_emod a (2 ^ 64)
    generalize a % 2 ^ 64 = r at *
    generalize a / 2 ^ 64 = q at *
    rw [hs] at hd
    have : a = r + 2 ^ i * (2 * (2 ^ (63 - i) * q)) := by rw [← hd]; grind
    rw [this, Int.add_mul_ediv_left _ _ (by omega)]
    omega
  rw [← e2, ← e1]
  by_cases h : (a % ((2 ^ 64 : Nat) : Int)).toNat / 2 ^ i % 2 = 1
  · rw [h]; simp
  · have : (a % ((2 ^ 64 : Nat) : Int)).toNat / 2 ^ i % 2 = 0 := by omega
    rw [this]; simp
/-- The low bits, one more. -/
theorem low_succ (x : BitVec 64) (i : Nat) : ((x.toNat % 2 ^ (i + 1) : Nat) : Int) = ((x.toNat % 2 ^ i : Nat) : Int) + (if x.getLsbD i then ((2 ^ i : Nat) : Int) else 0) := by
  have hm : x.toNat % 2 ^ (i + 1) = 2 ^ i * (x.toNat.testBit i).toNat + x.toNat % (2 ^ i) := by rw [Nat.mod_pow_succ, Nat.add_comm, Nat.toNat_testBit]
  have : x.getLsbD i = x.toNat.testBit i := rfl
  rw [this, hm]
  cases x.toNat.testBit i
  · simp
  · simp; omega
theorem lor_bit {n i : Nat} (hn : n < 2 ^ i) (hi : i < 64) : lorK .u64 (n : Int) ((2 ^ i : Nat) : Int) = ((n + 2 ^ i : Nat) : Int) := by
  have h2 : 2 ^ (i + 1) ≤ 2 ^ 64 := Nat.pow_le_pow_right (by decide) (by omega)
  have h3 : 2 ^ (i + 1) = 2 ^ i * 2 := Nat.pow_succ ..
  have ho : (BitVec.ofInt 64 (n : Int) ||| BitVec.ofInt 64 ((2 ^ i : Nat) : Int)).toNat = n + 2 ^ i := by
    rw [BitVec.toNat_or, BitVec.ofInt_natCast, BitVec.ofInt_natCast, BitVec.toNat_ofNat, BitVec.toNat_ofNat, Nat.mod_eq_of_lt (by omega), Nat.mod_eq_of_lt (by omega), Nat.or_comm]
    have := Nat.two_pow_add_eq_or_of_lt hn 1
    rw [Nat.mul_one] at this
    omega
  show IntKind.u64.wrap ((BitVec.ofInt 64 (n : Int) ||| BitVec.ofInt 64 ((2 ^ i : Nat) : Int)).toNat : Int) = _
  rw [ho, wrapU]
  omega
end Go.Vm
namespace Go.Proofs.Yteebkkipeiggcaa
open Go Go.Vm

set_option maxRecDepth 20000
set_option maxHeartbeats 2000000

theorem ref_bit_ok (a : Int) (i : Nat) (ha : In64 a) (hi : i < 64) : ACalls Try.prog 130 [.int .i64 a, .int .i64 i] [] (fun r _ => r = .ret (.int .i64 (bitZ a i))) := by
  have hp : (0 : Int) < 2 ^ i := Int.pow_pos (by decide)
  have w : IntKind.u64.wrap (i : Int) = i := by rw [wrapU]; omega
  have hm : min i 64 = i := by omega
  have hf := fdiv_pos' a hp
  have e := and_one (ediv_in ha hp)
  unfold bitZ
  generalize hP : (2 : Int) ^ i = P at *
  refine ACalls.post (calls_tree 400 fn130 (by simp [Try.f130]) ?_); simp (maxSteps := 3000000) [Tr.map, Try.f130, w, hm, hP, hf, landK_i64, e]
  (try simp [Tm.enc, w, hm, hP, hf, landK_i64, e]); (first | (refine .done ?_; simp [Tm.enc, w, hm, hP, hf, landK_i64, e]; done) | (refine Tn.wkRet ?_; simp (maxDischargeDepth := 20)) | (refine Tn.wkPan ?_; simp (maxDischargeDepth := 20)))

/-- What the loop over the bits makes. -/
def opB (op : ByteArray) (a b : Int) : BitVec 64 := if op = ⟨#[47, 92]⟩ then BitVec.ofInt 64 a &&& BitVec.ofInt 64 b else if op = ⟨#[92, 47]⟩ then BitVec.ofInt 64 a ||| BitVec.ofInt 64 b else BitVec.ofInt 64 a ^^^ BitVec.ofInt 64 b
theorem opB_bit (op : ByteArray) (a b : Int) (i : Nat) : (opB op a b).getLsbD i = if op = ⟨#[47, 92]⟩ then ((BitVec.ofInt 64 a).getLsbD i && (BitVec.ofInt 64 b).getLsbD i) else if op = ⟨#[92, 47]⟩ then ((BitVec.ofInt 64 a).getLsbD i || (BitVec.ofInt 64 b).getLsbD i) else ((BitVec.ofInt 64 a).getLsbD i ^^ (BitVec.ofInt 64 b).getLsbD i) := by
  unfold opB
  split
  · rw [BitVec.getLsbD_and]
  split
  · rw [BitVec.getLsbD_or]
  · rw [BitVec.getLsbD_xor]
theorem ref_bits_ok (op : ByteArray) (hop : op = ⟨#[47, 92]⟩ ∨ op = ⟨#[92, 47]⟩ ∨ op = ⟨#[120, 111, 114]⟩) (a b : Int) (ha : In64 a) (hb : In64 b) : ACalls Try.prog 128 [.str op, .int .i64 a, .int .i64 b] [] (fun r _ => r = .ret (.int .i64 (opB op a b).toInt)) := by
  have hB := opB_bit op a b
  generalize hX : opB op a b = X at *
  clear hX
  refine ACalls.post (calls_tree 400 fn128 (by simp [Try.f128]) ?_); simp (maxSteps := 3000000) [Tr.map, Try.f128]
  refine AStk.liveT [0, 1, 2, 7, 8] ?_; simp [Tr.map]
  refine AStk.indE (fun d_ a_ h_ => ∃ (i : Nat), (i ≤ 64) ∧ d_ = 64 - i ∧ a_ = ⟨toL 56 (mkT [(0, .str op), (1, .int .i64 a), (2, .int .i64 b), (7, .int .u64 ((X.toNat % 2 ^ i : Nat) : Int)), (8, .int .i64 i)] (.e .any)), []⟩ ∧ h_ = []) ?_ ?_
  · exact ⟨_, 0, by omega, rfl, by simp [Tr.map, Nat.mod_one], by simp⟩
  rintro d_ a_ h_ ⟨i, hi, rfl, rfl, rfl⟩ IH
  by_cases hlt : i < 64
  · have hlt' : (i : Int) < 64 := by omega
    have k1 := ref_bit_ok a i ha hlt
    have k2 := ref_bit_ok b i hb hlt
    rw [bitZ_lsb hlt] at k1 k2
    have hs := low_succ X i
    rw [hB i] at hs
    have hn : X.toNat % 2 ^ i < 2 ^ i := Nat.mod_lt _ (Nat.pow_pos (by decide))
    have hlor := lor_bit hn hlt
    have w1 : IntKind.u64.wrap (i : Int) = i := by rw [wrapU]; omega
    have hm : min i 64 = i := by omega
    have w2 : IntKind.u64.wrap (2 ^ i) = 2 ^ i := by
      have h2 : 2 ^ i ≤ 2 ^ 63 := Nat.pow_le_pow_right (by decide) (by omega)
      have e : ((2 ^ i : Nat) : Int) = (2 : Int) ^ i := by simp
      rw [wrapU, ← e]; omega
    have e : ((2 ^ i : Nat) : Int) = (2 : Int) ^ i := by simp
    have wi : IntKind.i64.wrap ((i : Int) + 1) = ((i + 1 : Nat) : Int) := by rw [wrap64 (by omega) (by omega)]; omega
    rw [e] at hlor hs
    rw [Int.natCast_add, e] at hlor
    generalize hP : (2 : Int) ^ i = P at *
    generalize ((X.toNat % 2 ^ i : Nat) : Int) = n at *
    generalize hn1 : ((X.toNat % 2 ^ (i + 1) : Nat) : Int) = n1 at *
    generalize (BitVec.ofInt 64 a).getLsbD i = x at *
    generalize (BitVec.ofInt 64 b).getLsbD i = y at *
    clear hB
    rcases hop with rfl | rfl | rfl <;> cases x <;> cases y
    all_goals
      simp at hs k1 k2
      refine stk_run 400 ?_; simp (maxSteps := 3000000) [Tr.map, hlt']
      (have hc_ := k1); (try simp at hc_); refine ACalls.retW hc_ (by simp (maxDischargeDepth := 20)) (by simp (maxDischargeDepth := 12)) (by simp (maxDischargeDepth := 12)) ?_; clear hc_; (try simp (maxSteps := 3000000) [Tr.map])
      (have hc_ := k2); (try simp at hc_); refine ACalls.retW hc_ (by simp (maxDischargeDepth := 20)) (by simp (maxDischargeDepth := 12)) (by simp (maxDischargeDepth := 12)) ?_; clear hc_; (try simp (maxSteps := 3000000) [Tr.map, w1, hm, hP, w2, hlor])
      refine AStk.liveT [0, 1, 2, 7, 8] ?_; simp [Tr.map]
      exact IH _ _ _ (by omega) ⟨i + 1, by omega, rfl, by simp [Tr.map, hn1, hs, wi, hP, w2, hlor], by simp⟩
  · have hii : i = 64 := by omega
    subst hii
    have hfin : IntKind.i64.wrap ((X.toNat % 2 ^ 64 : Nat) : Int) = X.toInt := by
      rw [Nat.mod_eq_of_lt X.isLt]; exact wrapB X
    generalize ((X.toNat % 2 ^ 64 : Nat) : Int) = n at *
    refine stk_run 400 ?_; simp (maxSteps := 3000000) [Tr.map]
    (try simp [Tm.enc, hfin]); (first | (refine .done ?_; simp [Tm.enc, hfin]; done) | (refine Tn.wkRet ?_; simp (maxDischargeDepth := 20)) | (refine Tn.wkPan ?_; simp (maxDischargeDepth := 20)))

theorem ref_power_ok (a b : Int) (ha : In64 a) (hb : In64 b) (h0 : 0 ≤ b) : ∃ v ok, toldZ v ok = powZ a b ∧ ACalls Try.prog 129 [.int .i64 a, .int .i64 b] [] (fun r _ => r = .ret (okO v ok)) := by
  by_cases h1 : a = 0
  · subst h1
    by_cases h2 : b = 0
    · subst h2
      refine ⟨1, true, by decide, ?_⟩
      refine ACalls.post (calls_tree 400 fn129 (by simp [Try.f129]) ?_); simp (maxSteps := 3000000) [Tr.map, Try.f129]
      (try simp [Tm.enc]); (first | (refine .done ?_; simp [Tm.enc]; done) | (refine Tn.wkRet ?_; simp (maxDischargeDepth := 20)) | (refine Tn.wkPan ?_; simp (maxDischargeDepth := 20)))
    · refine ⟨0, true, by have : 0 < b := by omega
                          simp [powZ, toldZ, this], ?_⟩
      refine ACalls.post (calls_tree 400 fn129 (by simp [Try.f129]) ?_); simp (maxSteps := 3000000) [Tr.map, Try.f129, h2]
      (try simp [Tm.enc]); (first | (refine .done ?_; simp [Tm.enc]; done) | (refine Tn.wkRet ?_; simp (maxDischargeDepth := 20)) | (refine Tn.wkPan ?_; simp (maxDischargeDepth := 20)))
  by_cases h2 : a = 1
  · subst h2
    by_cases h3 : b = 0
    · subst h3
      refine ⟨1, true, by decide, ?_⟩
      refine ACalls.post (calls_tree 400 fn129 (by simp [Try.f129]) ?_); simp (maxSteps := 3000000) [Tr.map, Try.f129]
      (try simp [Tm.enc]); (first | (refine .done ?_; simp [Tm.enc]; done) | (refine Tn.wkRet ?_; simp (maxDischargeDepth := 20)) | (refine Tn.wkPan ?_; simp (maxDischargeDepth := 20)))
    · refine ⟨1, true, by simp [powZ, toldZ], ?_⟩
      refine ACalls.post (calls_tree 400 fn129 (by simp [Try.f129]) ?_); simp (maxSteps := 3000000) [Tr.map, Try.f129, h3]
      (try simp [Tm.enc]); (first | (refine .done ?_; simp [Tm.enc]; done) | (refine Tn.wkRet ?_; simp (maxDischargeDepth := 20)) | (refine Tn.wkPan ?_; simp (maxDischargeDepth := 20)))
  by_cases h3 : a = -1
  · subst h3
    have hmod : b.tmod 2 = b % 2 := Int.tmod_eq_emod_of_nonneg h0
    by_cases h4 : b = 0
    · subst h4
      refine ⟨1, true, by decide, ?_⟩
      refine ACalls.post (calls_tree 400 fn129 (by simp [Try.f129]) ?_); simp (maxSteps := 3000000) [Tr.map, Try.f129]
      (try simp [Tm.enc]); (first | (refine .done ?_; simp [Tm.enc]; done) | (refine Tn.wkRet ?_; simp (maxDischargeDepth := 20)) | (refine Tn.wkPan ?_; simp (maxDischargeDepth := 20)))
    by_cases h5 : b % 2 = 0
    · refine ⟨1, true, by simp [powZ, toldZ, h5], ?_⟩
      refine ACalls.post (calls_tree 400 fn129 (by simp [Try.f129]) ?_); simp (maxSteps := 3000000) [Tr.map, Try.f129, h4, hmod, h5]
      (try simp [Tm.enc]); (first | (refine .done ?_; simp [Tm.enc]; done) | (refine Tn.wkRet ?_; simp (maxDischargeDepth := 20)) | (refine Tn.wkPan ?_; simp (maxDischargeDepth := 20)))
    · have h6 : b % 2 = 1 := by omega
      refine ⟨-1, true, by simp [powZ, toldZ, h6], ?_⟩
      refine ACalls.post (calls_tree 400 fn129 (by simp [Try.f129]) ?_); simp (maxSteps := 3000000) [Tr.map, Try.f129, h4, hmod, h6]
      (try simp [Tm.enc]); (first | (refine .done ?_; simp [Tm.enc]; done) | (refine Tn.wkRet ?_; simp (maxDischargeDepth := 20)) | (refine Tn.wkPan ?_; simp (maxDischargeDepth := 20)))
  obtain ⟨k, rfl⟩ : ∃ k : Nat, b = k := ⟨b.toNat, by omega⟩
  have hpow : powZ a k = if In64 (a ^ k) then (a ^ k, 0) else (0, 11) := by
    unfold powZ
    rw [if_neg h2, if_neg h3, if_neg (by omega), if_neg (by omega)]
    by_cases hk : 63 < (k : Int)
    · rw [if_pos (.inr hk), if_neg]
      intro hin
      have h64 : In64 (a ^ 64) := by
        by_cases e : 64 = k
        · rw [e]; exact hin
        · exact pow_stays h2 h3 h1 (by omega) hin
      have hgrow : ∀ j : Nat, 2 ^ j ≤ (a ^ j).natAbs := by
        intro j
        induction j with
        | zero => simp
        | succ j ih => have := pow_dbl h2 h3 h1 j; rw [Nat.pow_succ]; omega
      have := hgrow 64
      unfold In64 at h64
      omega
    · rw [if_neg (by omega)]
      simp only [Int.toNat_natCast, fitZ]
  rw [hpow]
  by_cases hin : In64 (a ^ k)
  · refine ⟨a ^ k, true, by rw [if_pos hin]; rfl, ?_⟩
    clear hpow
    refine ACalls.post (calls_tree 400 fn129 (by simp [Try.f129]) ?_); simp (maxSteps := 3000000) [Tr.map, Try.f129, h1, h2, h3]
    refine AStk.liveT [0, 1, 6] ?_; simp [Tr.map]
    refine AStk.indE (fun d_ a_ h_ => ∃ (i : Nat), (i ≤ k) ∧ d_ = k - i ∧ a_ = ⟨toL 45 (mkT [(0, .int .i64 a), (1, .int .i64 ((k : Int) - i)), (6, .int .i64 (a ^ i))] (.e .any)), []⟩ ∧ h_ = []) ?_ ?_
    · exact ⟨_, 0, by omega, rfl, by simp [Tr.map], by simp⟩
    rintro d_ a_ h_ ⟨i, hi, rfl, rfl, rfl⟩ IH
    by_cases hlt : i < k
    · have hlt' : 0 < (k : Int) - i := by omega
      have hlt2 : (i : Int) < k := by omega
      have hni : In64 (a ^ i) := pow_stays h2 h3 h1 hlt hin
      have hns : In64 (a ^ (i + 1)) := by
        by_cases e : i + 1 = k
        · rw [e]; exact hin
        · exact pow_stays h2 h3 h1 (by omega) hin
      obtain ⟨v, ok, m1, m2, m3⟩ := ref_mul_ok (a ^ i) a hni ha
      rw [← Int.pow_succ] at m1 m2
      rw [fitZ_in hns] at m1
      cases ok with
      | false => simp [toldZ] at m1
      | true =>
        have hv := m2 rfl
        subst hv
        have wi : IntKind.i64.wrap ((k : Int) - i - 1) = (k : Int) - (i + 1 : Nat) := by unfold In64 at hb; rw [wrap64 (by omega) (by omega)]; omega
        refine stk_run 400 ?_; simp (maxSteps := 3000000) [Tr.map, hlt', hlt2]
        (have hc_ := m3); (try simp at hc_); refine ACalls.retW hc_ (by simp (maxDischargeDepth := 20)) (by simp (maxDischargeDepth := 12)) (by simp (maxDischargeDepth := 12)) ?_; clear hc_; (try simp (maxSteps := 3000000) [Tr.map])
        refine AStk.liveT [0, 1, 6] ?_; simp [Tr.map]
        exact IH _ _ _ (by omega) ⟨i + 1, by omega, rfl, by simp [Tr.map, wi], by simp⟩
    · have hii : i = k := by omega
      subst hii
      refine stk_run 400 ?_; simp (maxSteps := 3000000) [Tr.map]
      (try simp [Tm.enc]); (first | (refine .done ?_; simp [Tm.enc]; done) | (refine Tn.wkRet ?_; simp (maxDischargeDepth := 20)) | (refine Tn.wkPan ?_; simp (maxDischargeDepth := 20)))
  · refine ⟨0, false, by rw [if_neg hin]; rfl, ?_⟩
    clear hpow
    refine ACalls.post (calls_tree 400 fn129 (by simp [Try.f129]) ?_); simp (maxSteps := 3000000) [Tr.map, Try.f129, h1, h2, h3]
    refine AStk.liveT [0, 1, 6] ?_; simp [Tr.map]
    refine AStk.indE (fun d_ a_ h_ => ∃ (i : Nat), (i ≤ k ∧ In64 (a ^ i)) ∧ d_ = k - i ∧ a_ = ⟨toL 45 (mkT [(0, .int .i64 a), (1, .int .i64 ((k : Int) - i)), (6, .int .i64 (a ^ i))] (.e .any)), []⟩ ∧ h_ = []) ?_ ?_
    · exact ⟨_, 0, ⟨by omega, by simp [In64]⟩, rfl, by simp [Tr.map], by simp⟩
    rintro d_ a_ h_ ⟨i, ⟨hi, hni⟩, rfl, rfl, rfl⟩ IH
    by_cases hlt : i < k
    · have hlt' : 0 < (k : Int) - i := by omega
      have hlt2 : (i : Int) < k := by omega
      obtain ⟨v, ok, m1, m2, m3⟩ := ref_mul_ok (a ^ i) a hni ha
      rw [← Int.pow_succ] at m1 m2
      cases ok with
      | false =>
        refine stk_run 400 ?_; simp (maxSteps := 3000000) [Tr.map, hlt', hlt2]
        (have hc_ := m3); (try simp at hc_); refine ACalls.retW hc_ (by simp (maxDischargeDepth := 20)) (by simp (maxDischargeDepth := 12)) (by simp (maxDischargeDepth := 12)) ?_; clear hc_; (try simp (maxSteps := 3000000) [Tr.map])
        (try simp [Tm.enc]); (first | (refine .done ?_; simp [Tm.enc]; done) | (refine Tn.wkRet ?_; simp (maxDischargeDepth := 20)) | (refine Tn.wkPan ?_; simp (maxDischargeDepth := 20)))
      | true =>
        have hv := m2 rfl
        subst hv
        have hns : In64 (a ^ (i + 1)) := by
          rcases fitZ_cases (a ^ (i + 1)) with ⟨h, e⟩ | ⟨h, e⟩
          · exact h
          · rw [e] at m1; simp [toldZ] at m1
        have wi : IntKind.i64.wrap ((k : Int) - i - 1) = (k : Int) - (i + 1 : Nat) := by unfold In64 at hb; rw [wrap64 (by omega) (by omega)]; omega
        refine stk_run 400 ?_; simp (maxSteps := 3000000) [Tr.map, hlt', hlt2]
        (have hc_ := m3); (try simp at hc_); refine ACalls.retW hc_ (by simp (maxDischargeDepth := 20)) (by simp (maxDischargeDepth := 12)) (by simp (maxDischargeDepth := 12)) ?_; clear hc_; (try simp (maxSteps := 3000000) [Tr.map])
        refine AStk.liveT [0, 1, 6] ?_; simp [Tr.map]
        exact IH _ _ _ (by omega) ⟨i + 1, ⟨by omega, hns⟩, rfl, by simp [Tr.map, wi], by simp⟩
    · have hii : i = k := by omega
      subst hii
      exact absurd hni hin

end Go.Proofs.Yteebkkipeiggcaa


/- Contracts: the document's Two and One. -/
namespace Go.Proofs.Yteebkkipeiggcaa
open Go Go.Vm

set_option maxRecDepth 20000
set_option maxHeartbeats 2000000

theorem rtwo_add (a b : Int) (ha : In64 a) (hb : In64 b) : ACalls Try.prog 119 [.str ⟨#[43]⟩, .int .i64 a, .int .i64 b] [] (fun r _ => r = .ret (oute (fitZ (a + b)))) := by
  obtain ⟨v, ok, m1, _, m3⟩ := ref_add_ok a b ha hb
  rw [← m1]
  refine ACalls.post (calls_tree 400 fn119 (by simp [Try.f119]) ?_); simp (maxSteps := 3000000) [Tr.map, Try.f119]
  (have hc_ := m3); (try simp at hc_); refine ACalls.retW hc_ (by simp (maxDischargeDepth := 20)) (by simp (maxDischargeDepth := 12)) (by simp (maxDischargeDepth := 12)) ?_; clear hc_; (try simp (maxSteps := 3000000) [Tr.map])
  (have hc_ := ref_told_ok v ok); (try simp at hc_); refine ACalls.retW hc_ (by simp (maxDischargeDepth := 20)) (by simp (maxDischargeDepth := 12)) (by simp (maxDischargeDepth := 12)) ?_; clear hc_; (try simp (maxSteps := 3000000) [Tr.map])
  (try simp [Tm.enc]); (first | (refine .done ?_; simp [Tm.enc]; done) | (refine Tn.wkRet ?_; simp (maxDischargeDepth := 20)) | (refine Tn.wkPan ?_; simp (maxDischargeDepth := 20)))
theorem rtwo_sub (a b : Int) (ha : In64 a) (hb : In64 b) : ACalls Try.prog 119 [.str ⟨#[45]⟩, .int .i64 a, .int .i64 b] [] (fun r _ => r = .ret (oute (fitZ (a - b)))) := by
  by_cases h1 : b = -9223372036854775808
  · subst h1
    by_cases h2 : a < 0
    · have w : IntKind.i64.wrap (a - -9223372036854775808) = a - -9223372036854775808 := by unfold In64 at ha; exact wrap64 (by omega) (by omega)
      have w' : IntKind.i64.wrap (a + 9223372036854775808) = a - -9223372036854775808 := by unfold In64 at ha; rw [wrap64 (by omega) (by omega)]; omega
      have e : toldZ (a - -9223372036854775808) true = fitZ (a - -9223372036854775808) := toldZ_in (by unfold In64 at *; omega)
      have t := ref_told_ok (a - -9223372036854775808) true
      rw [e] at t
      generalize fitZ (a - -9223372036854775808) = R at *
      generalize a - -9223372036854775808 = X at *
      refine ACalls.post (calls_tree 400 fn119 (by simp [Try.f119]) ?_); simp (maxSteps := 3000000) [Tr.map, Try.f119, h2, w, w']
      (have hc_ := t); (try simp at hc_); refine ACalls.retW hc_ (by simp (maxDischargeDepth := 20)) (by simp (maxDischargeDepth := 12)) (by simp (maxDischargeDepth := 12)) ?_; clear hc_; (try simp (maxSteps := 3000000) [Tr.map])
      (try simp [Tm.enc]); (first | (refine .done ?_; simp [Tm.enc]; done) | (refine Tn.wkRet ?_; simp (maxDischargeDepth := 20)) | (refine Tn.wkPan ?_; simp (maxDischargeDepth := 20)))
    · have e : fitZ (a - -9223372036854775808) = (0, 11) := fitZ_out (by unfold In64 at *; omega)
      rw [e]
      have t := ref_told_ok (IntKind.i64.wrap (a + 9223372036854775808)) false
      have e2 : a - -9223372036854775808 = a + 9223372036854775808 := by omega
      refine ACalls.post (calls_tree 400 fn119 (by simp [Try.f119]) ?_); simp (maxSteps := 3000000) [Tr.map, Try.f119, h2, e2]
      (have hc_ := t); (try simp at hc_); refine ACalls.retW hc_ (by simp (maxDischargeDepth := 20)) (by simp (maxDischargeDepth := 12)) (by simp (maxDischargeDepth := 12)) ?_; clear hc_; (try simp (maxSteps := 3000000) [Tr.map])
      (try simp [Tm.enc, toldZ]); (first | (refine .done ?_; simp [Tm.enc, toldZ]; done) | (refine Tn.wkRet ?_; simp (maxDischargeDepth := 20)) | (refine Tn.wkPan ?_; simp (maxDischargeDepth := 20)))
  · have hi : In64 (-b) := by unfold In64 at *; omega
    have w := wrapI_id hi
    obtain ⟨v, ok, m1, _, m3⟩ := ref_add_ok a (-b) ha hi
    rw [show a - b = a + -b by omega, ← m1]
    refine ACalls.post (calls_tree 400 fn119 (by simp [Try.f119]) ?_); simp (maxSteps := 3000000) [Tr.map, Try.f119, h1, w]
    (have hc_ := m3); (try simp at hc_); refine ACalls.retW hc_ (by simp (maxDischargeDepth := 20)) (by simp (maxDischargeDepth := 12)) (by simp (maxDischargeDepth := 12)) ?_; clear hc_; (try simp (maxSteps := 3000000) [Tr.map])
    (have hc_ := ref_told_ok v ok); (try simp at hc_); refine ACalls.retW hc_ (by simp (maxDischargeDepth := 20)) (by simp (maxDischargeDepth := 12)) (by simp (maxDischargeDepth := 12)) ?_; clear hc_; (try simp (maxSteps := 3000000) [Tr.map])
    (try simp [Tm.enc]); (first | (refine .done ?_; simp [Tm.enc]; done) | (refine Tn.wkRet ?_; simp (maxDischargeDepth := 20)) | (refine Tn.wkPan ?_; simp (maxDischargeDepth := 20)))
theorem rtwo_mul (a b : Int) (ha : In64 a) (hb : In64 b) : ACalls Try.prog 119 [.str ⟨#[42]⟩, .int .i64 a, .int .i64 b] [] (fun r _ => r = .ret (oute (fitZ (a * b)))) := by
  obtain ⟨v, ok, m1, _, m3⟩ := ref_mul_ok a b ha hb
  rw [← m1]
  refine ACalls.post (calls_tree 400 fn119 (by simp [Try.f119]) ?_); simp (maxSteps := 3000000) [Tr.map, Try.f119]
  (have hc_ := m3); (try simp at hc_); refine ACalls.retW hc_ (by simp (maxDischargeDepth := 20)) (by simp (maxDischargeDepth := 12)) (by simp (maxDischargeDepth := 12)) ?_; clear hc_; (try simp (maxSteps := 3000000) [Tr.map])
  (have hc_ := ref_told_ok v ok); (try simp at hc_); refine ACalls.retW hc_ (by simp (maxDischargeDepth := 20)) (by simp (maxDischargeDepth := 12)) (by simp (maxDischargeDepth := 12)) ?_; clear hc_; (try simp (maxSteps := 3000000) [Tr.map])
  (try simp [Tm.enc]); (first | (refine .done ?_; simp [Tm.enc]; done) | (refine Tn.wkRet ?_; simp (maxDischargeDepth := 20)) | (refine Tn.wkPan ?_; simp (maxDischargeDepth := 20)))
theorem rtwo_quo (a b : Int) (ha : In64 a) (hb : In64 b) : ACalls Try.prog 119 [.str ⟨#[47, 47]⟩, .int .i64 a, .int .i64 b] [] (fun r _ => r = .ret (oute (quoZ a b))) := by
  by_cases h0 : b = 0
  · subst h0
    refine ACalls.post (calls_tree 400 fn119 (by simp [Try.f119]) ?_); simp (maxSteps := 3000000) [Tr.map, Try.f119]
    (try simp [Tm.enc, quoZ]); (first | (refine .done ?_; simp [Tm.enc, quoZ]; done) | (refine Tn.wkRet ?_; simp (maxDischargeDepth := 20)) | (refine Tn.wkPan ?_; simp (maxDischargeDepth := 20)))
  obtain ⟨v, ok, m1, _, _, m3⟩ := ref_quo_ok a b ha h0
  have e : quoZ a b = toldZ v ok := by rw [m1]; exact if_neg h0
  rw [e]
  refine ACalls.post (calls_tree 400 fn119 (by simp [Try.f119]) ?_); simp (maxSteps := 3000000) [Tr.map, Try.f119, h0]
  (have hc_ := m3); (try simp at hc_); refine ACalls.retW hc_ (by simp (maxDischargeDepth := 20)) (by simp (maxDischargeDepth := 12)) (by simp (maxDischargeDepth := 12)) ?_; clear hc_; (try simp (maxSteps := 3000000) [Tr.map])
  (have hc_ := ref_told_ok v ok); (try simp at hc_); refine ACalls.retW hc_ (by simp (maxDischargeDepth := 20)) (by simp (maxDischargeDepth := 12)) (by simp (maxDischargeDepth := 12)) ?_; clear hc_; (try simp (maxSteps := 3000000) [Tr.map])
  (try simp [Tm.enc]); (first | (refine .done ?_; simp [Tm.enc]; done) | (refine Tn.wkRet ?_; simp (maxDischargeDepth := 20)) | (refine Tn.wkPan ?_; simp (maxDischargeDepth := 20)))
theorem rtwo_div (a b : Int) (ha : In64 a) (hb : In64 b) : ACalls Try.prog 119 [.str ⟨#[100, 105, 118]⟩, .int .i64 a, .int .i64 b] [] (fun r _ => r = .ret (oute (divZ a b))) := by
  by_cases h0 : b = 0
  · subst h0
    refine ACalls.post (calls_tree 400 fn119 (by simp [Try.f119]) ?_); simp (maxSteps := 3000000) [Tr.map, Try.f119]
    (try simp [Tm.enc, divZ]); (first | (refine .done ?_; simp [Tm.enc, divZ]; done) | (refine Tn.wkRet ?_; simp (maxDischargeDepth := 20)) | (refine Tn.wkPan ?_; simp (maxDischargeDepth := 20)))
  obtain ⟨v, ok, m1, _, _, m3⟩ := ref_down_ok a b ha h0
  have e : divZ a b = toldZ v ok := by rw [m1]; exact if_neg h0
  rw [e]
  refine ACalls.post (calls_tree 400 fn119 (by simp [Try.f119]) ?_); simp (maxSteps := 3000000) [Tr.map, Try.f119, h0]
  (have hc_ := m3); (try simp at hc_); refine ACalls.retW hc_ (by simp (maxDischargeDepth := 20)) (by simp (maxDischargeDepth := 12)) (by simp (maxDischargeDepth := 12)) ?_; clear hc_; (try simp (maxSteps := 3000000) [Tr.map])
  (have hc_ := ref_told_ok v ok); (try simp at hc_); refine ACalls.retW hc_ (by simp (maxDischargeDepth := 20)) (by simp (maxDischargeDepth := 12)) (by simp (maxDischargeDepth := 12)) ?_; clear hc_; (try simp (maxSteps := 3000000) [Tr.map])
  (try simp [Tm.enc]); (first | (refine .done ?_; simp [Tm.enc]; done) | (refine Tn.wkRet ?_; simp (maxDischargeDepth := 20)) | (refine Tn.wkPan ?_; simp (maxDischargeDepth := 20)))
theorem rtwo_rem (a b : Int) (ha : In64 a) (hb : In64 b) : ACalls Try.prog 119 [.str ⟨#[114, 101, 109]⟩, .int .i64 a, .int .i64 b] [] (fun r _ => r = .ret (oute (remZ a b))) := by
  by_cases h0 : b = 0
  · subst h0
    refine ACalls.post (calls_tree 400 fn119 (by simp [Try.f119]) ?_); simp (maxSteps := 3000000) [Tr.map, Try.f119]
    (try simp [Tm.enc, remZ]); (first | (refine .done ?_; simp [Tm.enc, remZ]; done) | (refine Tn.wkRet ?_; simp (maxDischargeDepth := 20)) | (refine Tn.wkPan ?_; simp (maxDischargeDepth := 20)))
  by_cases h1 : b = -1
  · subst h1
    have e : remZ a (-1) = (0, 0) := by unfold remZ; rw [if_neg (by decide), Int.tmod_neg, Int.tmod_one]
    rw [e]
    refine ACalls.post (calls_tree 400 fn119 (by simp [Try.f119]) ?_); simp (maxSteps := 3000000) [Tr.map, Try.f119]
    (try simp [Tm.enc]); (first | (refine .done ?_; simp [Tm.enc]; done) | (refine Tn.wkRet ?_; simp (maxDischargeDepth := 20)) | (refine Tn.wkPan ?_; simp (maxDischargeDepth := 20)))
  refine ACalls.post (calls_tree 400 fn119 (by simp [Try.f119]) ?_); simp (maxSteps := 3000000) [Tr.map, Try.f119, h0, h1]
  (try simp [Tm.enc, remZ, h0]); (first | (refine .done ?_; simp [Tm.enc, remZ, h0]; done) | (refine Tn.wkRet ?_; simp (maxDischargeDepth := 20)) | (refine Tn.wkPan ?_; simp (maxDischargeDepth := 20)))
theorem rtwo_mod (a b : Int) (ha : In64 a) (hb : In64 b) : ACalls Try.prog 119 [.str ⟨#[109, 111, 100]⟩, .int .i64 a, .int .i64 b] [] (fun r _ => r = .ret (oute (modZ a b))) := by
  by_cases h0 : b = 0
  · subst h0
    refine ACalls.post (calls_tree 400 fn119 (by simp [Try.f119]) ?_); simp (maxSteps := 3000000) [Tr.map, Try.f119]
    (try simp [Tm.enc, modZ]); (first | (refine .done ?_; simp [Tm.enc, modZ]; done) | (refine Tn.wkRet ?_; simp (maxDischargeDepth := 20)) | (refine Tn.wkPan ?_; simp (maxDischargeDepth := 20)))
  have hR : modZ a b = (a.fmod b, 0) := if_neg h0
  have hl := fmod_law (a := a) h0
  rw [hR]
  by_cases h1 : b = -1
  · subst h1
    have e : a.tmod (-1) = 0 := by rw [Int.tmod_neg, Int.tmod_one]
    rw [e] at hl
    simp at hl
    have hl' : a.fmod (-1) = 0 := by rw [fmod_law (by decide), e]; simp
    refine ACalls.post (calls_tree 400 fn119 (by simp [Try.f119]) ?_); simp (maxSteps := 3000000) [Tr.map, Try.f119]
    (try simp [Tm.enc, hl']); (first | (refine .done ?_; simp [Tm.enc, hl']; done) | (refine Tn.wkRet ?_; simp (maxDischargeDepth := 20)) | (refine Tn.wkPan ?_; simp (maxDischargeDepth := 20)))
  have hi := tmod_in ha h0
  generalize a.fmod b = R at *
  generalize hT : a.tmod b = T at *
  clear hR
  by_cases h4 : T = 0
  · subst h4
    simp at hl; subst hl
    refine ACalls.post (calls_tree 400 fn119 (by simp [Try.f119]) ?_); simp (maxSteps := 3000000) [Tr.map, Try.f119, h0, h1, hT]
    (try simp [Tm.enc]); (first | (refine .done ?_; simp [Tm.enc]; done) | (refine Tn.wkRet ?_; simp (maxDischargeDepth := 20)) | (refine Tn.wkPan ?_; simp (maxDischargeDepth := 20)))
  have hw : ∀ (_ : (T < 0) ≠ (b < 0)), IntKind.i64.wrap (T + b) = T + b := fun h => wrapI_id (by unfold In64 at *; by_cases q : T < 0 <;> by_cases q' : b < 0 <;> simp [q, q'] at h <;> omega)
  by_cases h2 : T < 0 <;> by_cases h3 : b < 0
  all_goals
    simp [h4, h2, h3] at hl
    simp [h2, h3] at hw
    subst hl
    refine ACalls.post (calls_tree 400 fn119 (by simp [Try.f119]) ?_); simp (maxSteps := 3000000) [Tr.map, Try.f119, h0, h1, hT, h4, h2, h3, hw]
    (try simp [Tm.enc, hw]); (first | (refine .done ?_; simp [Tm.enc, hw]; done) | (refine Tn.wkRet ?_; simp (maxDischargeDepth := 20)) | (refine Tn.wkPan ?_; simp (maxDischargeDepth := 20)))
theorem rtwo_min (a b : Int) : ACalls Try.prog 119 [.str ⟨#[109, 105, 110]⟩, .int .i64 a, .int .i64 b] [] (fun r _ => r = .ret (oute (min a b, 0))) := by
  by_cases h : b < a
  · have e : min a b = b := by omega
    rw [e]
    refine ACalls.post (calls_tree 400 fn119 (by simp [Try.f119]) ?_); simp (maxSteps := 3000000) [Tr.map, Try.f119, h]
    (try simp [Tm.enc]); (first | (refine .done ?_; simp [Tm.enc]; done) | (refine Tn.wkRet ?_; simp (maxDischargeDepth := 20)) | (refine Tn.wkPan ?_; simp (maxDischargeDepth := 20)))
  · have e : min a b = a := by omega
    rw [e]
    refine ACalls.post (calls_tree 400 fn119 (by simp [Try.f119]) ?_); simp (maxSteps := 3000000) [Tr.map, Try.f119, h]
    (try simp [Tm.enc]); (first | (refine .done ?_; simp [Tm.enc]; done) | (refine Tn.wkRet ?_; simp (maxDischargeDepth := 20)) | (refine Tn.wkPan ?_; simp (maxDischargeDepth := 20)))
theorem rtwo_max (a b : Int) : ACalls Try.prog 119 [.str ⟨#[109, 97, 120]⟩, .int .i64 a, .int .i64 b] [] (fun r _ => r = .ret (oute (max a b, 0))) := by
  by_cases h : a < b
  · have e : max a b = b := by omega
    rw [e]
    refine ACalls.post (calls_tree 400 fn119 (by simp [Try.f119]) ?_); simp (maxSteps := 3000000) [Tr.map, Try.f119, h]
    (try simp [Tm.enc]); (first | (refine .done ?_; simp [Tm.enc]; done) | (refine Tn.wkRet ?_; simp (maxDischargeDepth := 20)) | (refine Tn.wkPan ?_; simp (maxDischargeDepth := 20)))
  · have e : max a b = a := by omega
    rw [e]
    refine ACalls.post (calls_tree 400 fn119 (by simp [Try.f119]) ?_); simp (maxSteps := 3000000) [Tr.map, Try.f119, h]
    (try simp [Tm.enc]); (first | (refine .done ?_; simp [Tm.enc]; done) | (refine Tn.wkRet ?_; simp (maxDischargeDepth := 20)) | (refine Tn.wkPan ?_; simp (maxDischargeDepth := 20)))
theorem rtwo_and (a b : Int) (ha : In64 a) (hb : In64 b) : ACalls Try.prog 119 [.str ⟨#[47, 92]⟩, .int .i64 a, .int .i64 b] [] (fun r _ => r = .ret (oute (andZ a b, 0))) := by
  have k := ref_bits_ok ⟨#[47, 92]⟩ (by decide) a b ha hb
  have e : (opB ⟨#[47, 92]⟩ a b).toInt = andZ a b := by simp [opB, andZ]
  rw [e] at k
  refine ACalls.post (calls_tree 400 fn119 (by simp [Try.f119]) ?_); simp (maxSteps := 3000000) [Tr.map, Try.f119]
  (have hc_ := k); (try simp at hc_); refine ACalls.retW hc_ (by simp (maxDischargeDepth := 20)) (by simp (maxDischargeDepth := 12)) (by simp (maxDischargeDepth := 12)) ?_; clear hc_; (try simp (maxSteps := 3000000) [Tr.map])
  (try simp [Tm.enc]); (first | (refine .done ?_; simp [Tm.enc]; done) | (refine Tn.wkRet ?_; simp (maxDischargeDepth := 20)) | (refine Tn.wkPan ?_; simp (maxDischargeDepth := 20)))
theorem rtwo_or (a b : Int) (ha : In64 a) (hb : In64 b) : ACalls Try.prog 119 [.str ⟨#[92, 47]⟩, .int .i64 a, .int .i64 b] [] (fun r _ => r = .ret (oute (orZ a b, 0))) := by
  have k := ref_bits_ok ⟨#[92, 47]⟩ (by decide) a b ha hb
  have e : (opB ⟨#[92, 47]⟩ a b).toInt = orZ a b := by simp [opB, orZ]
  rw [e] at k
  refine ACalls.post (calls_tree 400 fn119 (by simp [Try.f119]) ?_); simp (maxSteps := 3000000) [Tr.map, Try.f119]
  (have hc_ := k); (try simp at hc_); refine ACalls.retW hc_ (by simp (maxDischargeDepth := 20)) (by simp (maxDischargeDepth := 12)) (by simp (maxDischargeDepth := 12)) ?_; clear hc_; (try simp (maxSteps := 3000000) [Tr.map])
  (try simp [Tm.enc]); (first | (refine .done ?_; simp [Tm.enc]; done) | (refine Tn.wkRet ?_; simp (maxDischargeDepth := 20)) | (refine Tn.wkPan ?_; simp (maxDischargeDepth := 20)))
theorem rtwo_xor (a b : Int) (ha : In64 a) (hb : In64 b) : ACalls Try.prog 119 [.str ⟨#[120, 111, 114]⟩, .int .i64 a, .int .i64 b] [] (fun r _ => r = .ret (oute (xorZ a b, 0))) := by
  have k := ref_bits_ok ⟨#[120, 111, 114]⟩ (by decide) a b ha hb
  have e : (opB ⟨#[120, 111, 114]⟩ a b).toInt = xorZ a b := by simp [opB, xorZ]
  rw [e] at k
  refine ACalls.post (calls_tree 400 fn119 (by simp [Try.f119]) ?_); simp (maxSteps := 3000000) [Tr.map, Try.f119]
  (have hc_ := k); (try simp at hc_); refine ACalls.retW hc_ (by simp (maxDischargeDepth := 20)) (by simp (maxDischargeDepth := 12)) (by simp (maxDischargeDepth := 12)) ?_; clear hc_; (try simp (maxSteps := 3000000) [Tr.map])
  (try simp [Tm.enc]); (first | (refine .done ?_; simp [Tm.enc]; done) | (refine Tn.wkRet ?_; simp (maxDischargeDepth := 20)) | (refine Tn.wkPan ?_; simp (maxDischargeDepth := 20)))
theorem rtwo_shl (a b : Int) (ha : In64 a) : ACalls Try.prog 119 [.str ⟨#[60, 60]⟩, .int .i64 a, .int .i64 b] [] (fun r _ => r = .ret (oute (leftZ a b))) := by
  by_cases h1 : b < 0
  · have hR : leftZ a b = (0, 11) := if_pos (.inl h1)
    rw [hR]
    refine ACalls.post (calls_tree 400 fn119 (by simp [Try.f119]) ?_); simp (maxSteps := 3000000) [Tr.map, Try.f119, h1]
    (try simp [Tm.enc]); (first | (refine .done ?_; simp [Tm.enc]; done) | (refine Tn.wkRet ?_; simp (maxDischargeDepth := 20)) | (refine Tn.wkPan ?_; simp (maxDischargeDepth := 20)))
  by_cases h2 : 63 < b
  · have hR : leftZ a b = (0, 11) := if_pos (.inr h2)
    rw [hR]
    refine ACalls.post (calls_tree 400 fn119 (by simp [Try.f119]) ?_); simp (maxSteps := 3000000) [Tr.map, Try.f119, h1, h2]
    (try simp [Tm.enc]); (first | (refine .done ?_; simp [Tm.enc]; done) | (refine Tn.wkRet ?_; simp (maxDischargeDepth := 20)) | (refine Tn.wkPan ?_; simp (maxDischargeDepth := 20)))
  have hR : leftZ a b = fitZ (a * 2 ^ b.toNat) := if_neg (by omega)
  rw [hR]
  clear hR
  obtain ⟨k, rfl⟩ : ∃ k : Nat, b = k := ⟨b.toNat, by omega⟩
  simp only [Int.toNat_natCast]
  have stays : ∀ i, i ≤ k → In64 (a * 2 ^ k) → In64 (a * 2 ^ i) := by
    intro i hi h
    obtain ⟨j, rfl⟩ : ∃ j, k = i + j := ⟨k - i, by omega⟩
    rw [Int.pow_add, ← Int.mul_assoc] at h
    have hp : (1 : Int) ≤ 2 ^ j := Int.pow_pos (by decide)
    generalize a * 2 ^ i = m at *
    generalize (2 : Int) ^ j = P at *
    unfold In64 at *
    by_cases q : 0 ≤ m
    · have := Int.mul_le_mul_of_nonneg_left hp q; omega
    · have := Int.mul_le_mul_of_nonpos_left (show m ≤ 0 by omega) hp; omega
  refine ACalls.post (calls_tree 400 fn119 (by simp [Try.f119]) ?_); simp (maxSteps := 3000000) [Tr.map, Try.f119, h1, h2]
  refine AStk.liveT [1, 2] ?_; simp [Tr.map]
  refine AStk.indE (fun d_ a_ h_ => ∃ (i : Nat), (i ≤ k ∧ In64 (a * 2 ^ i)) ∧ d_ = k - i ∧ a_ = ⟨toL 197 (mkT [(1, .int .i64 (a * 2 ^ i)), (2, .int .i64 ((k : Int) - i))] (.e .any)), []⟩ ∧ h_ = []) ?_ ?_
  · exact ⟨_, 0, ⟨by omega, by simpa using ha⟩, rfl, by simp [Tr.map], by simp⟩
  rintro d_ a_ h_ ⟨i, ⟨hi, hni⟩, rfl, rfl, rfl⟩ IH
  by_cases hlt : i < k
  · have hlt' : 0 < (k : Int) - i := by omega
    have hlt2 : (i : Int) < k := by omega
    obtain ⟨v, ok, m1, m2, m3⟩ := ref_add_ok _ _ hni hni
    have e : a * 2 ^ i + a * 2 ^ i = a * 2 ^ (i + 1) := by rw [Int.pow_succ]; grind
    rw [e] at m1 m2
    have wi : IntKind.i64.wrap ((k : Int) - i - 1) = (k : Int) - (i + 1 : Nat) := by rw [wrap64 (by omega) (by omega)]; omega
    cases ok with
    | false =>
      have hno : ¬ In64 (a * 2 ^ (i + 1)) := by
        intro h
        rw [fitZ_in h] at m1
        simp [toldZ] at m1
      have hR : fitZ (a * 2 ^ k) = (0, 11) := fitZ_out fun h => hno (stays _ (by omega) h)
      rw [hR]
      refine stk_run 400 ?_; simp (maxSteps := 3000000) [Tr.map, hlt', hlt2]
      (have hc_ := m3); (try simp at hc_); refine ACalls.retW hc_ (by simp (maxDischargeDepth := 20)) (by simp (maxDischargeDepth := 12)) (by simp (maxDischargeDepth := 12)) ?_; clear hc_; (try simp (maxSteps := 3000000) [Tr.map])
      (try simp [Tm.enc]); (first | (refine .done ?_; simp [Tm.enc]; done) | (refine Tn.wkRet ?_; simp (maxDischargeDepth := 20)) | (refine Tn.wkPan ?_; simp (maxDischargeDepth := 20)))
    | true =>
      have hv := m2 rfl
      subst hv
      have hns : In64 (a * 2 ^ (i + 1)) := by
        rcases fitZ_cases (a * 2 ^ (i + 1)) with ⟨h, e⟩ | ⟨h, e⟩
        · exact h
        · rw [e] at m1; simp [toldZ] at m1
      refine stk_run 400 ?_; simp (maxSteps := 3000000) [Tr.map, hlt', hlt2]
      (have hc_ := m3); (try simp at hc_); refine ACalls.retW hc_ (by simp (maxDischargeDepth := 20)) (by simp (maxDischargeDepth := 12)) (by simp (maxDischargeDepth := 12)) ?_; clear hc_; (try simp (maxSteps := 3000000) [Tr.map])
      refine AStk.liveT [1, 2] ?_; simp [Tr.map]
      exact IH _ _ _ (by omega) ⟨i + 1, ⟨by omega, hns⟩, rfl, by simp [Tr.map, wi], by simp⟩
  · have hii : i = k := by omega
    subst hii
    rw [fitZ_in hni]
    refine stk_run 400 ?_; simp (maxSteps := 3000000) [Tr.map]
    (try simp [Tm.enc]); (first | (refine .done ?_; simp [Tm.enc]; done) | (refine Tn.wkRet ?_; simp (maxDischargeDepth := 20)) | (refine Tn.wkPan ?_; simp (maxDischargeDepth := 20)))

end Go.Proofs.Yteebkkipeiggcaa


/- Contracts: the document's Two and One, put together. -/
namespace Go.Proofs.Yteebkkipeiggcaa
open Go Go.Vm

set_option maxRecDepth 20000
set_option maxHeartbeats 2000000

theorem rtwo_shr (a b : Int) (ha : In64 a) : ACalls Try.prog 119 [.str ⟨#[62, 62]⟩, .int .i64 a, .int .i64 b] [] (fun r _ => r = .ret (oute (rightZ a b))) := by
  by_cases h1 : b < 0
  · have hR : rightZ a b = (0, 11) := if_pos h1
    rw [hR]
    refine ACalls.post (calls_tree 400 fn119 (by simp [Try.f119]) ?_); simp (maxSteps := 3000000) [Tr.map, Try.f119, h1]
    (try simp [Tm.enc]); (first | (refine .done ?_; simp [Tm.enc]; done) | (refine Tn.wkRet ?_; simp (maxDischargeDepth := 20)) | (refine Tn.wkPan ?_; simp (maxDischargeDepth := 20)))
  have hR : rightZ a b = (a.fdiv (2 ^ (min b 63).toNat), 0) := if_neg h1
  rw [hR]
  clear hR
  obtain ⟨k, hk, hk2⟩ : ∃ k : Nat, min b 63 = k ∧ k ≤ 63 := ⟨(min b 63).toNat, by omega, by omega⟩
  rw [hk]
  simp only [Int.toNat_natCast]
  have hf : a.fdiv (2 ^ k) = a / 2 ^ k := fdiv_pos' a (Int.pow_pos (by decide))
  rw [hf]
  have hin : ∀ i : Nat, In64 (a / 2 ^ i) := fun i => ediv_in ha (Int.pow_pos (by decide))
  have hb : (if (63 : Int) < b then 63 else b) = (k : Int) := by split <;> omega
  by_cases h2 : 63 < b
  all_goals
    simp only [h2, if_true, if_false] at hb
    refine ACalls.post (calls_tree 400 fn119 (by simp [Try.f119]) ?_); simp (maxSteps := 3000000) [Tr.map, Try.f119, h1, h2]
    refine AStk.liveT [1, 2] ?_; simp [Tr.map]
    refine AStk.indE (fun d_ a_ h_ => ∃ (i : Nat), (i ≤ k) ∧ d_ = k - i ∧ a_ = ⟨toL 197 (mkT [(1, .int .i64 (a / 2 ^ i)), (2, .int .i64 ((k : Int) - i))] (.e .any)), []⟩ ∧ h_ = []) ?_ ?_
    · exact ⟨_, 0, by omega, rfl, by simp [Tr.map, ← hb], by simp⟩
    rintro d_ a_ h_ ⟨i, hi, rfl, rfl, rfl⟩ IH
    by_cases hlt : i < k
    · have hlt' : 0 < (k : Int) - i := by omega
      have hlt2 : (i : Int) < k := by omega
      obtain ⟨v, ok, m1, m2, m3, m4⟩ := ref_down_ok (a / 2 ^ i) 2 (hin i) (by decide)
      have hok := m3 (by decide)
      subst hok
      have hv := m2 rfl
      subst hv
      have e : (a / 2 ^ i).fdiv 2 = a / 2 ^ (i + 1) := by
        have hpp : (0 : Int) < 2 ^ i := Int.pow_pos (by decide)
        rw [fdiv_pos' _ (by decide), Int.pow_succ, Int.ediv_ediv, if_neg (by omega), Int.sub_zero]
      rw [e] at m4
      have wi : IntKind.i64.wrap ((k : Int) - i - 1) = (k : Int) - (i + 1 : Nat) := by rw [wrap64 (by omega) (by omega)]; omega
      refine stk_run 400 ?_; simp (maxSteps := 3000000) [Tr.map, hlt', hlt2]
      (have hc_ := m4); (try simp at hc_); refine ACalls.retW hc_ (by simp (maxDischargeDepth := 20)) (by simp (maxDischargeDepth := 12)) (by simp (maxDischargeDepth := 12)) ?_; clear hc_; (try simp (maxSteps := 3000000) [Tr.map])
      refine AStk.liveT [1, 2] ?_; simp [Tr.map]
      exact IH _ _ _ (by omega) ⟨i + 1, by omega, rfl, by simp [Tr.map, wi], by simp⟩
    · have hii : i = k := by omega
      subst hii
      refine stk_run 400 ?_; simp (maxSteps := 3000000) [Tr.map]
      (try simp [Tm.enc]); (first | (refine .done ?_; simp [Tm.enc]; done) | (refine Tn.wkRet ?_; simp (maxDischargeDepth := 20)) | (refine Tn.wkPan ?_; simp (maxDischargeDepth := 20)))

theorem rtwo_pow (a b : Int) (ha : In64 a) (hb : In64 b) : ACalls Try.prog 119 [.str ⟨#[42, 42]⟩, .int .i64 a, .int .i64 b] [] (fun r _ => r = .ret (oute (powZ a b))) := by
  by_cases h0 : 0 ≤ b
  · obtain ⟨v, ok, m1, m3⟩ := ref_power_ok a b ha hb h0
    rw [← m1]
    refine ACalls.post (calls_tree 400 fn119 (by simp [Try.f119]) ?_); simp (maxSteps := 3000000) [Tr.map, Try.f119, h0]
    (have hc_ := m3); (try simp at hc_); refine ACalls.retW hc_ (by simp (maxDischargeDepth := 20)) (by simp (maxDischargeDepth := 12)) (by simp (maxDischargeDepth := 12)) ?_; clear hc_; (try simp (maxSteps := 3000000) [Tr.map])
    (have hc_ := ref_told_ok v ok); (try simp at hc_); refine ACalls.retW hc_ (by simp (maxDischargeDepth := 20)) (by simp (maxDischargeDepth := 12)) (by simp (maxDischargeDepth := 12)) ?_; clear hc_; (try simp (maxSteps := 3000000) [Tr.map])
    (try simp [Tm.enc]); (first | (refine .done ?_; simp [Tm.enc]; done) | (refine Tn.wkRet ?_; simp (maxDischargeDepth := 20)) | (refine Tn.wkPan ?_; simp (maxDischargeDepth := 20)))
  have h0' : b < 0 := by omega
  have h0p : ¬ 0 < b := by omega
  by_cases h1 : a = 0
  · subst h1
    refine ACalls.post (calls_tree 400 fn119 (by simp [Try.f119]) ?_); simp (maxSteps := 3000000) [Tr.map, Try.f119, h0]
    (try simp [Tm.enc, powZ, h0', h0p]); (first | (refine .done ?_; simp [Tm.enc, powZ, h0', h0p]; done) | (refine Tn.wkRet ?_; simp (maxDischargeDepth := 20)) | (refine Tn.wkPan ?_; simp (maxDischargeDepth := 20)))
  by_cases h2 : a = 1
  · subst h2
    refine ACalls.post (calls_tree 400 fn119 (by simp [Try.f119]) ?_); simp (maxSteps := 3000000) [Tr.map, Try.f119, h0]
    (try simp [Tm.enc, powZ]); (first | (refine .done ?_; simp [Tm.enc, powZ]; done) | (refine Tn.wkRet ?_; simp (maxDischargeDepth := 20)) | (refine Tn.wkPan ?_; simp (maxDischargeDepth := 20)))
  by_cases h3 : a = -1
  · subst h3
    have ht := rem_sign b 2
    rw [if_pos h0', show ((Int.natAbs 2 : Nat) : Int) = 2 from rfl] at ht
    by_cases h4 : b % 2 = 0
    · have ht0 : b.tmod 2 = 0 := by omega
      refine ACalls.post (calls_tree 400 fn119 (by simp [Try.f119]) ?_); simp (maxSteps := 3000000) [Tr.map, Try.f119, h0, ht0]
      (try simp [Tm.enc, powZ, h4]); (first | (refine .done ?_; simp [Tm.enc, powZ, h4]; done) | (refine Tn.wkRet ?_; simp (maxDischargeDepth := 20)) | (refine Tn.wkPan ?_; simp (maxDischargeDepth := 20)))
    · have ht0 : ¬ b.tmod 2 = 0 := by omega
      have h5 : b % 2 = 1 := by omega
      refine ACalls.post (calls_tree 400 fn119 (by simp [Try.f119]) ?_); simp (maxSteps := 3000000) [Tr.map, Try.f119, h0, ht0]
      (try simp [Tm.enc, powZ, h5]); (first | (refine .done ?_; simp [Tm.enc, powZ, h5]; done) | (refine Tn.wkRet ?_; simp (maxDischargeDepth := 20)) | (refine Tn.wkPan ?_; simp (maxDischargeDepth := 20)))
  refine ACalls.post (calls_tree 400 fn119 (by simp [Try.f119]) ?_); simp (maxSteps := 3000000) [Tr.map, Try.f119, h0, h1, h2, h3]
  (try simp [Tm.enc, powZ, h1, h2, h3, h0']); (first | (refine .done ?_; simp [Tm.enc, powZ, h1, h2, h3, h0']; done) | (refine Tn.wkRet ?_; simp (maxDischargeDepth := 20)) | (refine Tn.wkPan ?_; simp (maxDischargeDepth := 20)))
theorem rtwo_pow2 (a b : Int) (ha : In64 a) (hb : In64 b) : ACalls Try.prog 119 [.str ⟨#[94]⟩, .int .i64 a, .int .i64 b] [] (fun r _ => r = .ret (oute (powZ a b))) := by
  by_cases h0 : 0 ≤ b
  · obtain ⟨v, ok, m1, m3⟩ := ref_power_ok a b ha hb h0
    rw [← m1]
    refine ACalls.post (calls_tree 400 fn119 (by simp [Try.f119]) ?_); simp (maxSteps := 3000000) [Tr.map, Try.f119, h0]
    (have hc_ := m3); (try simp at hc_); refine ACalls.retW hc_ (by simp (maxDischargeDepth := 20)) (by simp (maxDischargeDepth := 12)) (by simp (maxDischargeDepth := 12)) ?_; clear hc_; (try simp (maxSteps := 3000000) [Tr.map])
    (have hc_ := ref_told_ok v ok); (try simp at hc_); refine ACalls.retW hc_ (by simp (maxDischargeDepth := 20)) (by simp (maxDischargeDepth := 12)) (by simp (maxDischargeDepth := 12)) ?_; clear hc_; (try simp (maxSteps := 3000000) [Tr.map])
    (try simp [Tm.enc]); (first | (refine .done ?_; simp [Tm.enc]; done) | (refine Tn.wkRet ?_; simp (maxDischargeDepth := 20)) | (refine Tn.wkPan ?_; simp (maxDischargeDepth := 20)))
  have h0' : b < 0 := by omega
  have h0p : ¬ 0 < b := by omega
  by_cases h1 : a = 0
  · subst h1
    refine ACalls.post (calls_tree 400 fn119 (by simp [Try.f119]) ?_); simp (maxSteps := 3000000) [Tr.map, Try.f119, h0]
    (try simp [Tm.enc, powZ, h0', h0p]); (first | (refine .done ?_; simp [Tm.enc, powZ, h0', h0p]; done) | (refine Tn.wkRet ?_; simp (maxDischargeDepth := 20)) | (refine Tn.wkPan ?_; simp (maxDischargeDepth := 20)))
  by_cases h2 : a = 1
  · subst h2
    refine ACalls.post (calls_tree 400 fn119 (by simp [Try.f119]) ?_); simp (maxSteps := 3000000) [Tr.map, Try.f119, h0]
    (try simp [Tm.enc, powZ]); (first | (refine .done ?_; simp [Tm.enc, powZ]; done) | (refine Tn.wkRet ?_; simp (maxDischargeDepth := 20)) | (refine Tn.wkPan ?_; simp (maxDischargeDepth := 20)))
  by_cases h3 : a = -1
  · subst h3
    have ht := rem_sign b 2
    rw [if_pos h0', show ((Int.natAbs 2 : Nat) : Int) = 2 from rfl] at ht
    by_cases h4 : b % 2 = 0
    · have ht0 : b.tmod 2 = 0 := by omega
      refine ACalls.post (calls_tree 400 fn119 (by simp [Try.f119]) ?_); simp (maxSteps := 3000000) [Tr.map, Try.f119, h0, ht0]
      (try simp [Tm.enc, powZ, h4]); (first | (refine .done ?_; simp [Tm.enc, powZ, h4]; done) | (refine Tn.wkRet ?_; simp (maxDischargeDepth := 20)) | (refine Tn.wkPan ?_; simp (maxDischargeDepth := 20)))
    · have ht0 : ¬ b.tmod 2 = 0 := by omega
      have h5 : b % 2 = 1 := by omega
      refine ACalls.post (calls_tree 400 fn119 (by simp [Try.f119]) ?_); simp (maxSteps := 3000000) [Tr.map, Try.f119, h0, ht0]
      (try simp [Tm.enc, powZ, h5]); (first | (refine .done ?_; simp [Tm.enc, powZ, h5]; done) | (refine Tn.wkRet ?_; simp (maxDischargeDepth := 20)) | (refine Tn.wkPan ?_; simp (maxDischargeDepth := 20)))
  refine ACalls.post (calls_tree 400 fn119 (by simp [Try.f119]) ?_); simp (maxSteps := 3000000) [Tr.map, Try.f119, h0, h1, h2, h3]
  (try simp [Tm.enc, powZ, h1, h2, h3, h0']); (first | (refine .done ?_; simp [Tm.enc, powZ, h1, h2, h3, h0']; done) | (refine Tn.wkRet ?_; simp (maxDischargeDepth := 20)) | (refine Tn.wkPan ?_; simp (maxDischargeDepth := 20)))
theorem ref_two_ok (op : ByteArray) (a b : Int) (ha : In64 a) (hb : In64 b) : ACalls Try.prog 119 [.str op, .int .i64 a, .int .i64 b] [] (fun r _ => r = .ret (oute (twoT op a b))) := by
  by_cases hadd : op = ⟨#[43]⟩
  · subst hadd
    simp only [twoT]
    first | exact rtwo_add a b ha hb | exact rtwo_add a b ha | exact rtwo_add a b
  by_cases hsub : op = ⟨#[45]⟩
  · subst hsub
    simp only [twoT]
    first | exact rtwo_sub a b ha hb | exact rtwo_sub a b ha | exact rtwo_sub a b
  by_cases hmul : op = ⟨#[42]⟩
  · subst hmul
    simp only [twoT]
    first | exact rtwo_mul a b ha hb | exact rtwo_mul a b ha | exact rtwo_mul a b
  by_cases hquo : op = ⟨#[47, 47]⟩
  · subst hquo
    simp only [twoT]
    first | exact rtwo_quo a b ha hb | exact rtwo_quo a b ha | exact rtwo_quo a b
  by_cases hrem : op = ⟨#[114, 101, 109]⟩
  · subst hrem
    simp only [twoT]
    first | exact rtwo_rem a b ha hb | exact rtwo_rem a b ha | exact rtwo_rem a b
  by_cases hmod : op = ⟨#[109, 111, 100]⟩
  · subst hmod
    simp only [twoT]
    first | exact rtwo_mod a b ha hb | exact rtwo_mod a b ha | exact rtwo_mod a b
  by_cases hdiv : op = ⟨#[100, 105, 118]⟩
  · subst hdiv
    simp only [twoT]
    first | exact rtwo_div a b ha hb | exact rtwo_div a b ha | exact rtwo_div a b
  by_cases hmin : op = ⟨#[109, 105, 110]⟩
  · subst hmin
    simp only [twoT]
    first | exact rtwo_min a b ha hb | exact rtwo_min a b ha | exact rtwo_min a b
  by_cases hmax : op = ⟨#[109, 97, 120]⟩
  · subst hmax
    simp only [twoT]
    first | exact rtwo_max a b ha hb | exact rtwo_max a b ha | exact rtwo_max a b
  by_cases hand : op = ⟨#[47, 92]⟩
  · subst hand
    simp only [twoT]
    first | exact rtwo_and a b ha hb | exact rtwo_and a b ha | exact rtwo_and a b
  by_cases hor : op = ⟨#[92, 47]⟩
  · subst hor
    simp only [twoT]
    first | exact rtwo_or a b ha hb | exact rtwo_or a b ha | exact rtwo_or a b
  by_cases hxor : op = ⟨#[120, 111, 114]⟩
  · subst hxor
    simp only [twoT]
    first | exact rtwo_xor a b ha hb | exact rtwo_xor a b ha | exact rtwo_xor a b
  by_cases hshl : op = ⟨#[60, 60]⟩
  · subst hshl
    simp only [twoT]
    first | exact rtwo_shl a b ha hb | exact rtwo_shl a b ha | exact rtwo_shl a b
  by_cases hshr : op = ⟨#[62, 62]⟩
  · subst hshr
    simp only [twoT]
    first | exact rtwo_shr a b ha hb | exact rtwo_shr a b ha | exact rtwo_shr a b
  by_cases hpow : op = ⟨#[42, 42]⟩
  · subst hpow
    simp only [twoT]
    first | exact rtwo_pow a b ha hb | exact rtwo_pow a b ha | exact rtwo_pow a b
  by_cases hpow2 : op = ⟨#[94]⟩
  · subst hpow2
    simp only [twoT]
    first | exact rtwo_pow2 a b ha hb | exact rtwo_pow2 a b ha | exact rtwo_pow2 a b
  refine ACalls.post (calls_tree 400 fn119 (by simp [Try.f119]) ?_); simp (maxSteps := 3000000) [Tr.map, Try.f119, hadd, hsub, hmul, hquo, hrem, hmod, hdiv, hmin, hmax, hand, hor, hxor, hshl, hshr, hpow, hpow2]
  (try simp [Tm.enc, twoT, hadd, hsub, hmul, hquo, hrem, hmod, hdiv, hmin, hmax, hand, hor, hxor, hshl, hshr, hpow, hpow2]); (first | (refine .done ?_; simp [Tm.enc, twoT, hadd, hsub, hmul, hquo, hrem, hmod, hdiv, hmin, hmax, hand, hor, hxor, hshl, hshr, hpow, hpow2]; done) | (refine Tn.wkRet ?_; simp (maxDischargeDepth := 20)) | (refine Tn.wkPan ?_; simp (maxDischargeDepth := 20)))

theorem ref_one_ok (op : ByteArray) (a : Int) (ha : In64 a) : ACalls Try.prog 120 [.str op, .int .i64 a] [] (fun r _ => r = .ret (oute (oneT op a))) := by
  have m := rtwo_sub 0 a (by decide) ha
  by_cases h2 : op = ⟨#[45]⟩
  · subst h2
    refine ACalls.post (calls_tree 400 fn120 (by simp [Try.f120]) ?_); simp (maxSteps := 3000000) [Tr.map, Try.f120]
    (have hc_ := m); (try simp at hc_); refine ACalls.retW hc_ (by simp (maxDischargeDepth := 20)) (by simp (maxDischargeDepth := 12)) (by simp (maxDischargeDepth := 12)) ?_; clear hc_; (try simp (maxSteps := 3000000) [Tr.map])
    (try simp [Tm.enc, oneT]); (first | (refine .done ?_; simp [Tm.enc, oneT]; done) | (refine Tn.wkRet ?_; simp (maxDischargeDepth := 20)) | (refine Tn.wkPan ?_; simp (maxDischargeDepth := 20)))
  by_cases h1 : op = ⟨#[43]⟩
  · subst h1
    refine ACalls.post (calls_tree 400 fn120 (by simp [Try.f120]) ?_); simp (maxSteps := 3000000) [Tr.map, Try.f120]
    (try simp [Tm.enc, oneT]); (first | (refine .done ?_; simp [Tm.enc, oneT]; done) | (refine Tn.wkRet ?_; simp (maxDischargeDepth := 20)) | (refine Tn.wkPan ?_; simp (maxDischargeDepth := 20)))
  by_cases h3 : op = ⟨#[97, 98, 115]⟩
  · subst h3
    by_cases g : a < 0
    · have e : ((a.natAbs : Nat) : Int) = 0 - a := by omega
      refine ACalls.post (calls_tree 400 fn120 (by simp [Try.f120]) ?_); simp (maxSteps := 3000000) [Tr.map, Try.f120, g]
      (have hc_ := m); (try simp at hc_); refine ACalls.retW hc_ (by simp (maxDischargeDepth := 20)) (by simp (maxDischargeDepth := 12)) (by simp (maxDischargeDepth := 12)) ?_; clear hc_; (try simp (maxSteps := 3000000) [Tr.map])
      (try simp [Tm.enc, oneT, e]); (first | (refine .done ?_; simp [Tm.enc, oneT, e]; done) | (refine Tn.wkRet ?_; simp (maxDischargeDepth := 20)) | (refine Tn.wkPan ?_; simp (maxDischargeDepth := 20)))
    · have e : fitZ ((a.natAbs : Nat) : Int) = (a, 0) := by rw [show ((a.natAbs : Nat) : Int) = a by omega]; exact fitZ_in ha
      refine ACalls.post (calls_tree 400 fn120 (by simp [Try.f120]) ?_); simp (maxSteps := 3000000) [Tr.map, Try.f120, g]
      (try simp [Tm.enc, oneT, e]); (first | (refine .done ?_; simp [Tm.enc, oneT, e]; done) | (refine Tn.wkRet ?_; simp (maxDischargeDepth := 20)) | (refine Tn.wkPan ?_; simp (maxDischargeDepth := 20)))
  by_cases h4 : op = ⟨#[115, 105, 103, 110]⟩
  · subst h4
    by_cases g1 : 0 < a
    · have e : min (max a (-1)) 1 = 1 := by omega
      refine ACalls.post (calls_tree 400 fn120 (by simp [Try.f120]) ?_); simp (maxSteps := 3000000) [Tr.map, Try.f120, g1]
      (try simp [Tm.enc, oneT, e]); (first | (refine .done ?_; simp [Tm.enc, oneT, e]; done) | (refine Tn.wkRet ?_; simp (maxDischargeDepth := 20)) | (refine Tn.wkPan ?_; simp (maxDischargeDepth := 20)))
    by_cases g2 : a < 0
    · have e : min (max a (-1)) 1 = -1 := by omega
      refine ACalls.post (calls_tree 400 fn120 (by simp [Try.f120]) ?_); simp (maxSteps := 3000000) [Tr.map, Try.f120, g1, g2]
      (try simp [Tm.enc, oneT, e]); (first | (refine .done ?_; simp [Tm.enc, oneT, e]; done) | (refine Tn.wkRet ?_; simp (maxDischargeDepth := 20)) | (refine Tn.wkPan ?_; simp (maxDischargeDepth := 20)))
    · have e : min (max a (-1)) 1 = 0 := by omega
      refine ACalls.post (calls_tree 400 fn120 (by simp [Try.f120]) ?_); simp (maxSteps := 3000000) [Tr.map, Try.f120, g1, g2]
      (try simp [Tm.enc, oneT, e]); (first | (refine .done ?_; simp [Tm.enc, oneT, e]; done) | (refine Tn.wkRet ?_; simp (maxDischargeDepth := 20)) | (refine Tn.wkPan ?_; simp (maxDischargeDepth := 20)))
  by_cases h5 : op = ⟨#[92]⟩
  · subst h5
    have e : IntKind.i64.wrap (-1 - a) = notZ a := by unfold In64 at ha; rw [wrap64 (by omega) (by omega)]; rfl
    refine ACalls.post (calls_tree 400 fn120 (by simp [Try.f120]) ?_); simp (maxSteps := 3000000) [Tr.map, Try.f120, e]
    (try simp [Tm.enc, oneT, e]); (first | (refine .done ?_; simp [Tm.enc, oneT, e]; done) | (refine Tn.wkRet ?_; simp (maxDischargeDepth := 20)) | (refine Tn.wkPan ?_; simp (maxDischargeDepth := 20)))
  refine ACalls.post (calls_tree 400 fn120 (by simp [Try.f120]) ?_); simp (maxSteps := 3000000) [Tr.map, Try.f120, h1, h2, h3, h4, h5]
  (try simp [Tm.enc, oneT, h1, h2, h3, h4, h5]); (first | (refine .done ?_; simp [Tm.enc, oneT, h1, h2, h3, h4, h5]; done) | (refine Tn.wkRet ?_; simp (maxDischargeDepth := 20)) | (refine Tn.wkPan ?_; simp (maxDischargeDepth := 20)))

end Go.Proofs.Yteebkkipeiggcaa


/- Contracts: package prolixref03's small functions, and those of package term that are alike. -/
namespace Go.Proofs.Yteebkkipeiggcaa
open Go Go.Vm

set_option maxRecDepth 20000
set_option maxHeartbeats 1000000

theorem term_Size_ok (t : Tm) (hk : t.size ≤ 1000000) : ACalls Try.prog 33 [.agg t.enc] [] (fun r _ => r = .ret (.int .i64 t.size)) := by
  induction t using Tm.ind with | _ t ih
  have hmem : ∀ u ∈ t.args, ACalls Try.prog 33 [.agg u.enc] [] (fun r _ => r = .ret (.int .i64 u.size)) := fun u hu => ih u hu (by have := Tm.size_lt hu; omega)
  rw [t.size_eq] at hk ⊢
  generalize ha : t.args = args at *
  have hl := length_le_sizes args
  clear ih
  refine ACalls.post (calls_tree 400 fn33 (by simp [Try.f33]) ?_); simp (maxSteps := 3000000) [Tr.map, Try.f33]
  refine AStk.liveT [3, 7, 8, 9] (AStk.gc [] (by simp) (by simp) (by simp) ?_); simp [Tr.map]
  refine AStk.indE (fun d_ a_ h_ => ∃ (ds es : List Tm), (args = ds ++ es) ∧ d_ = es.length ∧ a_ = ⟨toL 19 (mkT [(3, .int .i64 (1 + sizes ds)), (7, .ro 4 (encs args)), (8, .int .i64 args.length), (9, .int .i64 ds.length)] (.e .any)), []⟩ ∧ h_ = []) ?_ ?_
  · exact ⟨_, [], args, rfl, rfl, by simp [Tr.map, ha], rfl⟩
  rintro d a h ⟨ds, es, hsp, rfl, rfl, rfl⟩ IH
  cases es with
  | nil =>
    simp at hsp; subst hsp
    refine stk_run 400 ?_; simp (maxSteps := 3000000) [Tr.map]
    (try simp [Tm.enc]); (first | (refine .done ?_; simp [Tm.enc]; done) | (refine Tn.wkRet ?_; simp (maxDischargeDepth := 20)) | (refine Tn.wkPan ?_; simp (maxDischargeDepth := 20)))
  | cons u es =>
    have hlt : (ds.length : Int) < args.length := by rw [hsp]; simp; omega
    have g1 : (encs args)[ds.length]? = some u.enc := by rw [hsp]; simp
    refine stk_run 400 ?_; simp (maxSteps := 3000000) [Tr.map, hlt, g1]
    (have hc_ := hmem u (by simp [hsp])); (try simp at hc_); refine ACalls.retW hc_ (by simp (maxDischargeDepth := 20)) (by simp (maxDischargeDepth := 12)) (by simp (maxDischargeDepth := 12)) ?_; clear hc_; (try simp (maxSteps := 3000000) [Tr.map])
    have hz := congrArg sizes hsp
    have hy := congrArg List.length hsp
    simp at hz hy
    (try simp (disch := omega) only [wrap64])
    refine AStk.liveT [3, 7, 8, 9] (AStk.gc [] (by simp) (by simp) (by simp) ?_); simp [Tr.map]
    exact IH _ _ _ (by simp) ⟨ds ++ [u], es, by simp [hsp], rfl, by simp [Tr.map, Int.add_assoc, Int.add_comm, Int.add_left_comm], by simp⟩

theorem prolixref03_Size_ok (t : Tm) (hk : t.size ≤ 1000000) : ACalls Try.prog 118 [.agg t.enc] [] (fun r _ => r = .ret (.int .i64 t.size)) := by
  induction t using Tm.ind with | _ t ih
  have hmem : ∀ u ∈ t.args, ACalls Try.prog 118 [.agg u.enc] [] (fun r _ => r = .ret (.int .i64 u.size)) := fun u hu => ih u hu (by have := Tm.size_lt hu; omega)
  rw [t.size_eq] at hk ⊢
  generalize ha : t.args = args at *
  have hl := length_le_sizes args
  clear ih
  refine ACalls.post (calls_tree 400 fn118 (by simp [Try.f118]) ?_); simp (maxSteps := 3000000) [Tr.map, Try.f118]
  refine AStk.liveT [3, 7, 8, 9] (AStk.gc [] (by simp) (by simp) (by simp) ?_); simp [Tr.map]
  refine AStk.indE (fun d_ a_ h_ => ∃ (ds es : List Tm), (args = ds ++ es) ∧ d_ = es.length ∧ a_ = ⟨toL 19 (mkT [(3, .int .i64 (1 + sizes ds)), (7, .ro 4 (encs args)), (8, .int .i64 args.length), (9, .int .i64 ds.length)] (.e .any)), []⟩ ∧ h_ = []) ?_ ?_
  · exact ⟨_, [], args, rfl, rfl, by simp [Tr.map, ha], rfl⟩
  rintro d a h ⟨ds, es, hsp, rfl, rfl, rfl⟩ IH
  cases es with
  | nil =>
    simp at hsp; subst hsp
    refine stk_run 400 ?_; simp (maxSteps := 3000000) [Tr.map]
    (try simp [Tm.enc]); (first | (refine .done ?_; simp [Tm.enc]; done) | (refine Tn.wkRet ?_; simp (maxDischargeDepth := 20)) | (refine Tn.wkPan ?_; simp (maxDischargeDepth := 20)))
  | cons u es =>
    have hlt : (ds.length : Int) < args.length := by rw [hsp]; simp; omega
    have g1 : (encs args)[ds.length]? = some u.enc := by rw [hsp]; simp
    refine stk_run 400 ?_; simp (maxSteps := 3000000) [Tr.map, hlt, g1]
    (have hc_ := hmem u (by simp [hsp])); (try simp at hc_); refine ACalls.retW hc_ (by simp (maxDischargeDepth := 20)) (by simp (maxDischargeDepth := 12)) (by simp (maxDischargeDepth := 12)) ?_; clear hc_; (try simp (maxSteps := 3000000) [Tr.map])
    have hz := congrArg sizes hsp
    have hy := congrArg List.length hsp
    simp at hz hy
    (try simp (disch := omega) only [wrap64])
    refine AStk.liveT [3, 7, 8, 9] (AStk.gc [] (by simp) (by simp) (by simp) ?_); simp [Tr.map]
    exact IH _ _ _ (by simp) ⟨ds ++ [u], es, by simp [hsp], rfl, by simp [Tr.map, Int.add_assoc, Int.add_comm, Int.add_left_comm], by simp⟩

theorem term_Deep_ok (t : Tm) (hk : t.size ≤ 1000000) : ACalls Try.prog 34 [.agg t.enc] [] (fun r _ => r = .ret (.int .i64 t.deep)) := by
  induction t using Tm.ind with | _ t ih
  have hmem : ∀ u ∈ t.args, ACalls Try.prog 34 [.agg u.enc] [] (fun r _ => r = .ret (.int .i64 u.deep)) := fun u hu => ih u hu (by have := Tm.size_lt hu; omega)
  have hd := deep_le_size t
  rw [t.deep_eq] at hd ⊢
  have hsz := t.size_eq
  generalize ha : t.args = args at *
  have hl := length_le_sizes args
  clear ih
  refine ACalls.post (calls_tree 400 fn34 (by simp [Try.f34]) ?_); simp (maxSteps := 3000000) [Tr.map, Try.f34]
  refine AStk.liveT [3, 7, 8, 9] (AStk.gc [] (by simp) (by simp) (by simp) ?_); simp [Tr.map]
  refine AStk.indE (fun d_ a_ h_ => ∃ (ds es : List Tm), (args = ds ++ es) ∧ d_ = es.length ∧ a_ = ⟨toL 20 (mkT [(3, .int .i64 (deeps ds)), (7, .ro 4 (encs args)), (8, .int .i64 args.length), (9, .int .i64 ds.length)] (.e .any)), []⟩ ∧ h_ = []) ?_ ?_
  · exact ⟨_, [], args, rfl, rfl, by simp [Tr.map, ha], rfl⟩
  rintro d a h ⟨ds, es, hsp, rfl, rfl, rfl⟩ IH
  cases es with
  | nil =>
    simp at hsp; subst hsp
    refine stk_run 400 ?_; simp (maxSteps := 3000000) [Tr.map]
    (try simp (disch := omega) only [wrap64])
    (try simp [Tm.enc]); (first | (refine .done ?_; simp [Tm.enc]; done) | (refine Tn.wkRet ?_; simp (maxDischargeDepth := 20)) | (refine Tn.wkPan ?_; simp (maxDischargeDepth := 20)))
  | cons u es =>
    have hlt : (ds.length : Int) < args.length := by rw [hsp]; simp; omega
    have g1 : (encs args)[ds.length]? = some u.enc := by rw [hsp]; simp
    refine stk_run 400 ?_; simp (maxSteps := 3000000) [Tr.map, hlt, g1]
    (have hc_ := hmem u (by simp [hsp])); (try simp at hc_); refine ACalls.retW hc_ (by simp (maxDischargeDepth := 20)) (by simp (maxDischargeDepth := 12)) (by simp (maxDischargeDepth := 12)) ?_; clear hc_; (try simp (maxSteps := 3000000) [Tr.map])
    have hy := congrArg List.length hsp
    simp at hy
    (try simp (disch := omega) only [wrap64])
    refine AStk.liveT [3, 7, 8, 9] (AStk.gc [] (by simp) (by simp) (by simp) ?_); simp [Tr.map]
    have hmx : (if deeps ds < u.deep then ((u.deep : Nat) : Int) else ((deeps ds : Nat) : Int)) = ((max (deeps ds) u.deep : Nat) : Int) := by split <;> omega
    exact IH _ _ _ (by simp) ⟨ds ++ [u], es, by simp [hsp], rfl, by simp [Tr.map, Int.add_assoc, Int.add_comm, Int.add_left_comm, hmx], by simp [hmx]⟩

theorem prolixref03_Deep_ok (t : Tm) (hk : t.size ≤ 1000000) : ACalls Try.prog 117 [.agg t.enc] [] (fun r _ => r = .ret (.int .i64 t.deep)) := by
  induction t using Tm.ind with | _ t ih
  have hmem : ∀ u ∈ t.args, ACalls Try.prog 117 [.agg u.enc] [] (fun r _ => r = .ret (.int .i64 u.deep)) := fun u hu => ih u hu (by have := Tm.size_lt hu; omega)
  have hd := deep_le_size t
  rw [t.deep_eq] at hd ⊢
  have hsz := t.size_eq
  generalize ha : t.args = args at *
  have hl := length_le_sizes args
  clear ih
  refine ACalls.post (calls_tree 400 fn117 (by simp [Try.f117]) ?_); simp (maxSteps := 3000000) [Tr.map, Try.f117]
  refine AStk.liveT [3, 7, 8, 9] (AStk.gc [] (by simp) (by simp) (by simp) ?_); simp [Tr.map]
  refine AStk.indE (fun d_ a_ h_ => ∃ (ds es : List Tm), (args = ds ++ es) ∧ d_ = es.length ∧ a_ = ⟨toL 20 (mkT [(3, .int .i64 (deeps ds)), (7, .ro 4 (encs args)), (8, .int .i64 args.length), (9, .int .i64 ds.length)] (.e .any)), []⟩ ∧ h_ = []) ?_ ?_
  · exact ⟨_, [], args, rfl, rfl, by simp [Tr.map, ha], rfl⟩
  rintro d a h ⟨ds, es, hsp, rfl, rfl, rfl⟩ IH
  cases es with
  | nil =>
    simp at hsp; subst hsp
    refine stk_run 400 ?_; simp (maxSteps := 3000000) [Tr.map]
    (try simp (disch := omega) only [wrap64])
    (try simp [Tm.enc]); (first | (refine .done ?_; simp [Tm.enc]; done) | (refine Tn.wkRet ?_; simp (maxDischargeDepth := 20)) | (refine Tn.wkPan ?_; simp (maxDischargeDepth := 20)))
  | cons u es =>
    have hlt : (ds.length : Int) < args.length := by rw [hsp]; simp; omega
    have g1 : (encs args)[ds.length]? = some u.enc := by rw [hsp]; simp
    refine stk_run 400 ?_; simp (maxSteps := 3000000) [Tr.map, hlt, g1]
    (have hc_ := hmem u (by simp [hsp])); (try simp at hc_); refine ACalls.retW hc_ (by simp (maxDischargeDepth := 20)) (by simp (maxDischargeDepth := 12)) (by simp (maxDischargeDepth := 12)) ?_; clear hc_; (try simp (maxSteps := 3000000) [Tr.map])
    have hy := congrArg List.length hsp
    simp at hy
    (try simp (disch := omega) only [wrap64])
    refine AStk.liveT [3, 7, 8, 9] (AStk.gc [] (by simp) (by simp) (by simp) ?_); simp [Tr.map]
    have hmx : (if deeps ds < u.deep then ((u.deep : Nat) : Int) else ((deeps ds : Nat) : Int)) = ((max (deeps ds) u.deep : Nat) : Int) := by split <;> omega
    exact IH _ _ _ (by simp) ⟨ds ++ [u], es, by simp [hsp], rfl, by simp [Tr.map, Int.add_assoc, Int.add_comm, Int.add_left_comm, hmx], by simp [hmx]⟩

theorem great_ok (l : List Pt) (hl : l.length < 9000000000000000000) : ACalls Try.prog 16 [.ro 4 (encP l)] [] (fun r _ => r = .ret (.bool (decide ((60 : Int) < l.length)))) := by
  refine ACalls.post (calls_tree 400 fn16 (by simp [Try.f16]) ?_); simp (maxSteps := 3000000) [Tr.map, Try.f16]
  (try simp [Tm.enc]); (first | (refine .done ?_; simp [Tm.enc]; done) | (refine Tn.wkRet ?_; simp (maxDischargeDepth := 20)) | (refine Tn.wkPan ?_; simp (maxDischargeDepth := 20)))

theorem great_big (l : List Pt) (hl : 60 < l.length) : ACalls Try.prog 16 [.ro 4 (encP l)] [] (fun r _ => r = .ret (.bool true)) := by
  have h : (60 : Int) < l.length := by omega
  refine ACalls.post (calls_tree 400 fn16 (by simp [Try.f16]) ?_); simp (maxSteps := 3000000) [Tr.map, Try.f16, h]
  (try simp [Tm.enc]); (first | (refine .done ?_; simp [Tm.enc]; done) | (refine Tn.wkRet ?_; simp (maxDischargeDepth := 20)) | (refine Tn.wkPan ?_; simp (maxDischargeDepth := 20)))

theorem great_small (l : List Pt) (hl : l.length ≤ 60) : ACalls Try.prog 16 [.ro 4 (encP l)] [] (fun r _ => r = .ret (.bool false)) := by
  have h : ¬ (60 : Int) < l.length := by omega
  refine ACalls.post (calls_tree 400 fn16 (by simp [Try.f16]) ?_); simp (maxSteps := 3000000) [Tr.map, Try.f16, h]
  (try simp [Tm.enc]); (first | (refine .done ?_; simp [Tm.enc]; done) | (refine Tn.wkRet ?_; simp (maxDischargeDepth := 20)) | (refine Tn.wkPan ?_; simp (maxDischargeDepth := 20)))

theorem same_ok (t u : Tm) (hk : t.size ≤ 1000000) : ACalls Try.prog 20 [.agg t.enc, .agg u.enc] [] (fun r _ => r = .ret (.bool (t.eqb u))) := by
  induction t using Tm.ind generalizing u with | _ t ih
  have hmem : ∀ v ∈ t.args, ∀ w, ACalls Try.prog 20 [.agg v.enc, .agg w.enc] [] (fun r _ => r = .ret (.bool (v.eqb w))) := fun v hv w => ih v hv w (by have := Tm.size_lt hv; omega)
  have hlen := t.length_lt
  clear ih
  by_cases h1 : t.kind = u.kind
  · by_cases h2 : t.n = u.n
    · by_cases h3 : t.s = u.s
      · by_cases h4 : t.args.length = u.args.length
        · refine ACalls.post (calls_tree 400 fn20 (by simp [Try.f20]) ?_); simp (maxSteps := 3000000) [Tr.map, Try.f20, h1, h2, h3, h4]
          refine AStk.liveT [2, 3, 36, 37] ?_; simp [Tr.map]
          refine AStk.indE (fun d_ a_ h_ => ∃ (ds es ds' es' : List Tm), (t.args = ds ++ es ∧ u.args = ds' ++ es' ∧ ds.length = ds'.length ∧ ds = ds') ∧ d_ = es.length ∧ a_ = ⟨toL 53 (mkT [(2, .ptr 0 0), (3, .ptr 1 0), (36, .int .i64 u.args.length), (37, .int .i64 ds.length)] (.e .any)), []⟩ ∧ h_ = [.var t.enc, .var u.enc]) ?_ ?_
          · exact ⟨_, [], t.args, [], u.args, ⟨rfl, rfl, rfl, rfl⟩, rfl, by simp [Tr.map], rfl⟩
          rintro d a h ⟨ds, es, ds', es', ⟨e1, e2, e3, rfl⟩, rfl, rfl, rfl⟩ IH
          cases es with
          | nil =>
            have e6 : es' = [] := by have := congrArg List.length e1; have := congrArg List.length e2; simp at *; exact List.length_eq_zero_iff.1 (by omega)
            subst e6
            have heq : t = u := Tm.ext4 h1 h2 h3 (by rw [e1, e2])
            have hlt : ¬ (ds.length : Int) < u.args.length := by rw [e2]; simp
            subst heq
            refine stk_run 400 ?_; simp (maxSteps := 3000000) [Tr.map, hlt]
            (try simp [Tm.enc]); (first | (refine .done ?_; simp [Tm.enc]; done) | (refine Tn.wkRet ?_; simp (maxDischargeDepth := 20)) | (refine Tn.wkPan ?_; simp (maxDischargeDepth := 20)))
          | cons v es =>
            obtain ⟨w, es', rfl⟩ : ∃ w m, es' = w :: m := by
              cases es' with
              | nil => have := congrArg List.length e1; have := congrArg List.length e2; simp at *; omega
              | cons w m => exact ⟨w, m, rfl⟩
            obtain ⟨p1, p2, p3, p4, p5⟩ := mid_facts e1
            obtain ⟨q1, q2, q3, q4, q5⟩ := mid_facts e2
            refine stk_run 400 ?_; simp (maxSteps := 3000000) [Tr.map, q2]
            refine stk_draw mixed (tabOf_ok _) (fnOf_ok _) 10 (by kernel_rfl) ?_; simp (maxSteps := 3000000) [Tr.map, p1, p2, p3, p4, q1, q2, q3, q4]
            refine stk_run 400 ?_; simp (maxSteps := 3000000) [Tr.map]
            (have hc_ := hmem v (by simp [e1]) w); (try simp at hc_); refine ACalls.retW hc_ (by simp (maxDischargeDepth := 20)) (by simp (maxDischargeDepth := 12)) (by simp (maxDischargeDepth := 12)) ?_; clear hc_; (try simp (maxSteps := 3000000) [Tr.map])
            by_cases hvw : v = w
            · subst hvw
              simp [Tr.map]
              (try simp (disch := omega) only [wrap64])
              refine AStk.liveT [2, 3, 36, 37] ?_; simp [Tr.map]
              exact IH _ _ _ (by simp) ⟨ds ++ [v], es, ds ++ [v], es', ⟨by simp [e1], by simp [e2], by simp, rfl⟩, rfl, by simp [Tr.map, Int.add_assoc, Int.add_comm, Int.add_left_comm], by simp⟩
            · have hne : t.eqb u = false := Tm.eqb_ne fun e => hvw (by rw [e, e2] at e1; simp at e1; exact e1.1.symm)
              simp [Tr.map, Tm.eqb_ne hvw, hne]
              (try simp [Tm.enc]); (first | (refine .done ?_; simp [Tm.enc]; done) | (refine Tn.wkRet ?_; simp (maxDischargeDepth := 20)) | (refine Tn.wkPan ?_; simp (maxDischargeDepth := 20)))
        · have hne : t.eqb u = false := Tm.eqb_ne fun e => h4 (by rw [e])
          have h4' : ¬ (t.args.length : Int) = u.args.length := by omega
          refine ACalls.post (calls_tree 400 fn20 (by simp [Try.f20]) ?_); simp (maxSteps := 3000000) [Tr.map, Try.f20, h1, h2, h3, h4, h4', hne]
          (try simp [Tm.enc]); (first | (refine .done ?_; simp [Tm.enc]; done) | (refine Tn.wkRet ?_; simp (maxDischargeDepth := 20)) | (refine Tn.wkPan ?_; simp (maxDischargeDepth := 20)))
      · have hne : t.eqb u = false := Tm.eqb_ne fun e => h3 (by rw [e])
        refine ACalls.post (calls_tree 400 fn20 (by simp [Try.f20]) ?_); simp (maxSteps := 3000000) [Tr.map, Try.f20, h1, h2, h3, hne]
        (try simp [Tm.enc]); (first | (refine .done ?_; simp [Tm.enc]; done) | (refine Tn.wkRet ?_; simp (maxDischargeDepth := 20)) | (refine Tn.wkPan ?_; simp (maxDischargeDepth := 20)))
    · have hne : t.eqb u = false := Tm.eqb_ne fun e => h2 (by rw [e])
      refine ACalls.post (calls_tree 400 fn20 (by simp [Try.f20]) ?_); simp (maxSteps := 3000000) [Tr.map, Try.f20, h1, h2, hne]
      (try simp [Tm.enc]); (first | (refine .done ?_; simp [Tm.enc]; done) | (refine Tn.wkRet ?_; simp (maxDischargeDepth := 20)) | (refine Tn.wkPan ?_; simp (maxDischargeDepth := 20)))
  · have hne : t.eqb u = false := Tm.eqb_ne fun e => h1 (by rw [e])
    refine ACalls.post (calls_tree 400 fn20 (by simp [Try.f20]) ?_); simp (maxSteps := 3000000) [Tr.map, Try.f20, h1, hne]
    (try simp [Tm.enc]); (first | (refine .done ?_; simp [Tm.enc]; done) | (refine Tn.wkRet ?_; simp (maxDischargeDepth := 20)) | (refine Tn.wkPan ?_; simp (maxDischargeDepth := 20)))

theorem same_self (t : Tm) (hk : t.size ≤ 1000000) : ACalls Try.prog 20 [.agg t.enc, .agg t.enc] [] (fun r _ => r = .ret (.bool true)) := by
  have := same_ok t t hk
  rwa [Tm.eqb_self] at this

end Go.Proofs.Yteebkkipeiggcaa


/- Contracts: how a term is built of parts, and mended. -/
namespace Go.Proofs.Yteebkkipeiggcaa
open Go Go.Vm

set_option maxRecDepth 20000
set_option maxHeartbeats 1000000

def atomA : Tm := ⟨3, 0, ⟨#[97]⟩, []⟩

def kidsF (g : List Pt → Tm × Nat) : Nat → List Pt → List Tm × Nat
  | 0, _ => ([], 0)
  | k + 1, l => ((g l).1 :: (kidsF g k (l.drop (g l).2)).1, (g l).2 + (kidsF g k (l.drop (g l).2)).2)

def ofF : Nat → List Pt → Tm × Nat
  | 0, _ => (atomA, 0)
  | _ + 1, [] => (atomA, 0)
  | f + 1, p :: l => (⟨p.kind, p.n, p.s, (kidsF (ofF f) (p.args % 8).toNat l).1⟩, 1 + (kidsF (ofF f) (p.args % 8).toNat l).2)

theorem kidsF_le {g : List Pt → Tm × Nat} (hg : ∀ l, (g l).2 ≤ l.length) : ∀ k l, (kidsF g k l).2 ≤ l.length
  | 0, l => by simp [kidsF]
  | k + 1, l => by
    have h1 := hg l
    have h2 := kidsF_le hg k (l.drop (g l).2)
    simp [kidsF] at h2 ⊢
    omega

theorem ofF_le : ∀ f l, (ofF f l).2 ≤ l.length
  | 0, l => by simp [ofF]
  | f + 1, [] => by simp [ofF]
  | f + 1, p :: l => by
    have := kidsF_le (ofF_le f) (p.args % 8).toNat l
    simp [ofF]; omega

theorem kidsF_size {g : List Pt → Tm × Nat} (hg : ∀ l, (g l).1.size ≤ 1 + 7 * (g l).2) : ∀ k l, sizes (kidsF g k l).1 ≤ k + 7 * (kidsF g k l).2
  | 0, l => by simp [kidsF]
  | k + 1, l => by
    have h1 := hg l
    have h2 := kidsF_size hg k (l.drop (g l).2)
    simp [kidsF] at h2 ⊢
    omega

theorem ofF_size : ∀ f l, (ofF f l).1.size ≤ 1 + 7 * (ofF f l).2
  | 0, l => by simp [ofF, atomA, Tm.size_eq]
  | f + 1, [] => by simp [ofF, atomA, Tm.size_eq]
  | f + 1, p :: l => by
    have := kidsF_size (ofF_size f) (p.args % 8).toNat l
    simp [ofF, Tm.size_eq]; omega

theorem kidsF_add (g : List Pt → Tm × Nat) : ∀ j k l, (kidsF g (j + k) l) = ((kidsF g j l).1 ++ (kidsF g k (l.drop (kidsF g j l).2)).1, (kidsF g j l).2 + (kidsF g k (l.drop (kidsF g j l).2)).2)
  | 0, k, l => by simp [kidsF]
  | j + 1, k, l => by
    rw [show j + 1 + k = (j + k) + 1 by omega]
    simp [kidsF, kidsF_add g j k, Nat.add_assoc]

theorem kidsF_length (g : List Pt → Tm × Nat) : ∀ k l, (kidsF g k l).1.length = k
  | 0, l => by simp [kidsF]
  | k + 1, l => by simp [kidsF, kidsF_length g k]

theorem of_ok : ∀ (f : Nat) (l : List Pt), l.length < f → l.length ≤ 60 → (∀ p ∈ l, 0 ≤ p.args ∧ p.args ≤ 255) → ACalls Try.prog 49 [.ro 4 (encP l)] [] (fun r _ => r = .ret (.tup [.agg (ofF f l).1.enc, .int .i64 (ofF f l).2])) := by
  intro f
  induction f with
  | zero => intro l h; omega
  | succ f ih =>
  intro l hl h60 hb
  cases l with
  | nil =>
    refine ACalls.post (calls_tree 400 fn49 (by simp [Try.f49]) ?_); simp (maxSteps := 3000000) [Tr.map, Try.f49]
    simp [ofF, atomA]
    (try simp [Tm.enc]); (first | (refine .done ?_; simp [Tm.enc]; done) | (refine Tn.wkRet ?_; simp (maxDischargeDepth := 20)) | (refine Tn.wkPan ?_; simp (maxDischargeDepth := 20)))
  | cons p l =>
    have hsub : ∀ i, 1 ≤ i → ACalls Try.prog 49 [.ro 4 (encP ((p :: l).drop i))] [] (fun r _ => r = .ret (.tup [.agg (ofF f ((p :: l).drop i)).1.enc, .int .i64 (ofF f ((p :: l).drop i)).2])) := fun i hi =>
      ih _ (by simp at hl ⊢; omega) (by simp at h60 ⊢; omega) (fun q hq => hb q (List.mem_of_mem_drop hq))
    clear ih
    have hp := hb p (by simp)
    have hm : p.args.tmod 8 = p.args % 8 := Int.tmod_eq_emod_of_nonneg hp.1
    simp at h60
    have hz : ¬ (l.length : Int) + 1 = 0 := by omega
    generalize hR : ofF (f + 1) (p :: l) = R
    refine ACalls.post (calls_tree 400 fn49 (by simp [Try.f49]) ?_); simp (maxSteps := 3000000) [Tr.map, Try.f49, hm, hz]
    refine AStk.pad ?_
    refine AStk.liveT [0, 2, 4, 5, 6, 7] (AStk.gc [0, 1, 2, 3] (by simp) (by simp) (by simp) ?_); simp [Tr.map]
    generalize hk : (p.args % 8).toNat = k
    have hk8 : p.args % 8 = k := by omega
    have hw : IntKind.i64.wrap (p.args % 8) = k := by rw [hk8]; exact wrap64 (by omega) (by omega)
    refine AStk.indE (fun d_ a_ h_ => ∃ (ds : List Tm) (at_ j : Nat), ((kidsF (ofF f) k l).1 = ds ++ (kidsF (ofF f) j (l.drop at_)).1 ∧ (kidsF (ofF f) k l).2 = at_ + (kidsF (ofF f) j (l.drop at_)).2 ∧ ds.length + j = k) ∧ d_ = j ∧ a_ = ⟨toL 50 (mkT [(0, .ro 4 (p.enc :: encP l)), (2, .ptr 0 0), (4, .ptr 1 0), (5, .ptr 2 0), (6, .int .i64 (at_ + 1)), (7, .int .i64 ds.length)] (.e .any)), []⟩ ∧ h_ = [.var [.int .i64 0, .int .i64 0, .str ⟨#[]⟩, .nils], .var [.int .i64 p.kind, .int .i64 p.n, .str p.s, .int .u8 p.args], .var [.int .i64 p.kind, .int .i64 p.n, .str p.s, accS 4 3 (encs ds)], accB 4 (encs ds)]) ?_ ?_
    · exact ⟨_, [], 0, k, ⟨by simp, by simp, by simp⟩, rfl, by simp [Tr.map], by simp⟩
    rintro d a h ⟨ds, at_, j, ⟨e1, e2, e3⟩, rfl, rfl, rfl⟩ IH
    have hle := kidsF_le (ofF_le f) k l
    cases d with
    | zero =>
      have hlt : ¬ (ds.length : Int) < k := by omega
      simp [kidsF] at e1 e2
      have hof : ofF (f + 1) (p :: l) = (⟨p.kind, p.n, p.s, ds⟩, at_ + 1) := by simp [ofF, hk, e1, e2]; omega
      rw [hof] at hR; subst hR
      refine stk_run 400 ?_; simp (maxSteps := 3000000) [Tr.map, hm, hw, hlt]
      rcases ds with _ | ⟨d0, ds⟩
      · simp
        (try simp [Tm.enc]); (first | (refine .done ?_; simp [Tm.enc]; done) | (refine Tn.wkRet ?_; simp (maxDischargeDepth := 20)) | (refine Tn.wkPan ?_; simp (maxDischargeDepth := 20)))
      · simp
        refine .fz 3 rfl ?_; simp
        (try simp [Tm.enc]); (first | (refine .done ?_; simp [Tm.enc]; done) | (refine Tn.wkRet ?_; simp (maxDischargeDepth := 20)) | (refine Tn.wkPan ?_; simp (maxDischargeDepth := 20)))
    | succ j =>
      have hlt : (ds.length : Int) < k := by omega
      have hjk : ((kidsF (ofF f) (j + 1) (l.drop at_))).2 = (ofF f (l.drop at_)).2 + (kidsF (ofF f) j ((l.drop at_).drop (ofF f (l.drop at_)).2)).2 := rfl
      have hsl : at_ ≤ l.length := by omega
      have hs0 : (0 : Int) ≤ (at_ : Int) + 1 := by omega
      have hn := ofF_le f (l.drop at_)
      have e1' : (kidsF (ofF f) k l).fst = ds ++ ((ofF f (l.drop at_)).1 :: (kidsF (ofF f) j ((l.drop at_).drop (ofF f (l.drop at_)).2)).1) := e1
      have hroom : (ds.length + 1) * 56 ≤ 140737488355328 := by omega
      have hc := hsub (at_ + 1) (by omega)
      simp at hc hn
      generalize hq : ofF f (l.drop at_) = q at *
      obtain ⟨t, n⟩ := q
      simp only at hc hn e1' hjk
      refine stk_run 400 ?_; simp (maxSteps := 3000000) [Tr.map, hm, hw, hlt, hsl, hs0]
      (have hc_ := hc); (try simp at hc_); refine ACalls.retW hc_ (by simp (maxDischargeDepth := 20)) (by simp (maxDischargeDepth := 12)) (by simp (maxDischargeDepth := 12)) ?_; clear hc_; (try simp (maxSteps := 3000000) [Tr.map, hroom])
      (try simp (disch := omega) only [wrap64])
      refine AStk.liveT [0, 2, 4, 5, 6, 7] (AStk.gc [0, 1, 2, 6] (by simp) (by simp) (by simp) ?_); simp [Tr.map]
      rw [hjk] at e2
      rw [List.drop_drop] at e1' e2
      exact IH _ _ _ (by simp) ⟨ds ++ [t], at_ + n, j, ⟨by simp [e1'], by omega, by simp; omega⟩, rfl, by simp [Tr.map, Int.add_assoc, Int.add_comm, Int.add_left_comm], by simp⟩


def mendF : Tm → Tm
  | ⟨k, n, s, a⟩ => if 20 < s.size then atomA else if k = 1 then ⟨1, max 0 n, ⟨#[]⟩, []⟩ else if k = 2 then ⟨2, n, ⟨#[]⟩, []⟩ else if k = 3 then ⟨3, 0, s, []⟩ else if k = 4 then
      if a = [] then atomA else ⟨4, 0, s, mends a⟩
    else atomA
where mends : List Tm → List Tm
  | [] => []
  | t :: l => mendF t :: mends l

theorem mendF_eq (t : Tm) : mendF t = if 20 < t.s.size then atomA else if t.kind = 1 then ⟨1, max 0 t.n, ⟨#[]⟩, []⟩ else if t.kind = 2 then ⟨2, t.n, ⟨#[]⟩, []⟩ else if t.kind = 3 then ⟨3, 0, t.s, []⟩ else if t.kind = 4 then
      if t.args = [] then atomA else ⟨4, 0, t.s, mendF.mends t.args⟩
    else atomA := by cases t; simp [mendF]
theorem mends_map (l : List Tm) : mendF.mends l = l.map mendF := by induction l <;> simp [mendF.mends, *]

theorem mend_ok (t : Tm) (hk : t.size ≤ 1000000) : ACalls Try.prog 50 [.agg t.enc] [] (fun r _ => r = .ret (.agg (mendF t).enc)) := by
  induction t using Tm.ind with | _ t ih
  have hmem : ∀ u ∈ t.args, ACalls Try.prog 50 [.agg u.enc] [] (fun r _ => r = .ret (.agg (mendF u).enc)) := fun u hu => ih u hu (by have := Tm.size_lt hu; omega)
  have hlen := t.length_lt
  clear ih
  have hm := mendF_eq t
  generalize hR : mendF t = R at *
  clear hR
  refine ACalls.post (calls_tree 400 fn50 (by simp [Try.f50]) ?_); simp (maxSteps := 3000000) [Tr.map, Try.f50]
  split
  · have h20 : 20 < t.s.size := by omega
    simp [h20] at hm; subst hm; (try simp [Tm.enc, atomA]); (first | (refine .done ?_; simp [Tm.enc, atomA]; done) | (refine Tn.wkRet ?_; simp (maxDischargeDepth := 20)) | (refine Tn.wkPan ?_; simp (maxDischargeDepth := 20)))
  have h20 : ¬ 20 < t.s.size := by omega
  split
  · rename_i k1; simp [h20, k1] at hm; subst hm
    have hmx : (if 0 < t.n then t.n else 0) = max 0 t.n := by split <;> omega
    (try simp [Tm.enc, hmx]); (first | (refine .done ?_; simp [Tm.enc, hmx]; done) | (refine Tn.wkRet ?_; simp (maxDischargeDepth := 20)) | (refine Tn.wkPan ?_; simp (maxDischargeDepth := 20)))
  split
  · rename_i k1 k2; simp [h20, k2] at hm; subst hm; (try simp [Tm.enc]); (first | (refine .done ?_; simp [Tm.enc]; done) | (refine Tn.wkRet ?_; simp (maxDischargeDepth := 20)) | (refine Tn.wkPan ?_; simp (maxDischargeDepth := 20)))
  split
  · rename_i k1 k2 k3; simp [h20, k3] at hm; subst hm; (try simp [Tm.enc]); (first | (refine .done ?_; simp [Tm.enc]; done) | (refine Tn.wkRet ?_; simp (maxDischargeDepth := 20)) | (refine Tn.wkPan ?_; simp (maxDischargeDepth := 20)))
  split
  · rename_i k1 k2 k3 k4; simp [h20, k4] at hm
    split
    · rename_i ha; simp [ha] at hm; subst hm; (try simp [Tm.enc, atomA]); (first | (refine .done ?_; simp [Tm.enc, atomA]; done) | (refine Tn.wkRet ?_; simp (maxDischargeDepth := 20)) | (refine Tn.wkPan ?_; simp (maxDischargeDepth := 20)))
    rename_i ha
    simp [ha, mends_map] at hm
    generalize hargs : t.args = args at *
    refine AStk.pad ?_
    refine AStk.liveT [2, 4, 42, 43, 44] (AStk.gc [1, 3, 4] (by simp) (by simp) (by simp) ?_); simp [Tr.map]
    refine AStk.indE (fun d_ a_ h_ => ∃ (ds es : List Tm), (args = ds ++ es) ∧ d_ = es.length ∧ a_ = ⟨toL 58 (mkT [(2, .ptr 0 0), (4, .ptr 1 0), (42, .ro 4 (encs args)), (43, .int .i64 args.length), (44, .int .i64 ds.length)] (.e .any)), []⟩ ∧ h_ = [.var [.int .i64 0, .int .i64 0, .str ⟨#[]⟩, .nils], .var [.int .i64 4, .int .i64 0, .str t.s, accS 4 2 (encs (ds.map mendF))], accB 4 (encs (ds.map mendF))]) ?_ ?_
    · exact ⟨_, [], args, rfl, rfl, by simp [Tr.map], by simp⟩
    rintro d a h ⟨ds, es, hsp, rfl, rfl, rfl⟩ IH
    cases es with
    | nil =>
      simp at hsp; subst hsp
      refine stk_run 400 ?_; simp (maxSteps := 3000000) [Tr.map]
      subst hm
      rcases args with _ | ⟨a0, args⟩
      · exact absurd rfl ha
      · simp
        refine .fz 2 rfl ?_; simp
        (try simp [Tm.enc, List.take_of_length_le]); (first | (refine .done ?_; simp [Tm.enc, List.take_of_length_le]; done) | (refine Tn.wkRet ?_; simp (maxDischargeDepth := 20)) | (refine Tn.wkPan ?_; simp (maxDischargeDepth := 20)))
    | cons u es =>
      obtain ⟨p1, p2, p3, p4, p5⟩ := mid_facts hsp
      have hroom : (ds.length + 1) * 56 ≤ 140737488355328 := by omega
      refine stk_run 400 ?_; simp (maxSteps := 3000000) [Tr.map, p2, p3, p4]
      refine stk_draw mixed (tabOf_ok _) (fnOf_ok _) 5 (by kernel_rfl) ?_; simp (maxSteps := 3000000) [Tr.map]
      (have hc_ := hmem u (by simp [hsp])); (try simp at hc_); refine QCall.introW hc_ (by simp (maxDischargeDepth := 20)) (by simp (maxDischargeDepth := 12)) (by simp (maxDischargeDepth := 12)) ?_; clear hc_; (try simp (maxSteps := 3000000) [Tr.map, hroom])
      refine stk_run 400 ?_; simp (maxSteps := 3000000) [Tr.map, hroom]
      (try simp (disch := omega) only [wrap64])
      refine AStk.liveT [2, 4, 42, 43, 44] (AStk.gc [0, 1, 4] (by simp) (by simp) (by simp) ?_); simp [Tr.map]
      exact IH _ _ _ (by simp) ⟨ds ++ [u], es, by simp [hsp], rfl, by simp [Tr.map, Int.add_assoc, Int.add_comm, Int.add_left_comm], by simp⟩
  · rename_i k1 k2 k3 k4; simp [h20, k1, k2, k3, k4] at hm; subst hm; (try simp [Tm.enc, atomA]); (first | (refine .done ?_; simp [Tm.enc, atomA]; done) | (refine Tn.wkRet ?_; simp (maxDischargeDepth := 20)) | (refine Tn.wkPan ?_; simp (maxDischargeDepth := 20)))

def goodT (l : List Pt) : Tm := mendF (ofF (l.length + 1) l).1

theorem good_ok (l : List Pt) (h60 : l.length ≤ 60) (hb : ∀ p ∈ l, 0 ≤ p.args ∧ p.args ≤ 255) : ACalls Try.prog 17 [.ro 4 (encP l)] [] (fun r _ => r = .ret (.agg (goodT l).enc)) := by
  have h1 := of_ok (l.length + 1) l (by omega) h60 hb
  have h2 := ofF_size (l.length + 1) l
  have h3 := ofF_le (l.length + 1) l
  generalize hR : goodT l = R
  unfold goodT at hR
  generalize ofF (l.length + 1) l = q at *
  obtain ⟨t, n⟩ := q
  simp only at h1 h2 h3 hR
  refine ACalls.post (calls_tree 400 fn17 (by simp [Try.f17]) ?_); simp (maxSteps := 3000000) [Tr.map, Try.f17]
  (have hc_ := h1); (try simp at hc_); refine ACalls.retW hc_ (by simp (maxDischargeDepth := 20)) (by simp (maxDischargeDepth := 12)) (by simp (maxDischargeDepth := 12)) ?_; clear hc_; (try simp (maxSteps := 3000000) [Tr.map])
  (have hc_ := mend_ok t (by omega)); (try simp at hc_); refine ACalls.retW hc_ (by simp (maxDischargeDepth := 20)) (by simp (maxDischargeDepth := 12)) (by simp (maxDischargeDepth := 12)) ?_; clear hc_; (try simp (maxSteps := 3000000) [Tr.map])
  subst hR
  (try simp [Tm.enc]); (first | (refine .done ?_; simp [Tm.enc]; done) | (refine Tn.wkRet ?_; simp (maxDischargeDepth := 20)) | (refine Tn.wkPan ?_; simp (maxDischargeDepth := 20)))

/-- The same in plain words. -/
inductive Fine : Tm → Prop
  | var (n : Int) (h : 0 ≤ n) : Fine ⟨1, n, ⟨#[]⟩, []⟩
  | int (n : Int) : Fine ⟨2, n, ⟨#[]⟩, []⟩
  | atom (s : ByteArray) (h : s.size ≤ 20) : Fine ⟨3, 0, s, []⟩
  | comp (s : ByteArray) (h : s.size ≤ 20) (l : List Tm) (hl : l ≠ []) (hs : ∀ t ∈ l, Fine t) : Fine ⟨4, 0, s, l⟩

theorem mendF_fine (t : Tm) : Fine (mendF t) := by
  induction t using Tm.ind with | _ t ih
  have ha : Fine atomA := .atom _ (by decide)
  rw [mendF_eq]
  split
  · exact ha
  split
  · exact .var _ (by omega)
  split
  · exact .int _
  split
  · exact .atom _ (by omega)
  split
  · split
    · exact ha
    · rename_i hne
      refine .comp _ (by omega) _ (by simpa [mends_map] using hne) fun u hu => ?_
      rw [mends_map, List.mem_map] at hu
      obtain ⟨v, hv, rfl⟩ := hu
      exact ih v hv
  · exact ha

theorem mendF_size (t : Tm) : (mendF t).size ≤ t.size := by
  induction t using Tm.ind with | _ t ih
  have ha : atomA.size = 1 := by simp [atomA, Tm.size_eq]
  have hp := t.size_pos
  have hl : ∀ l : List Tm, (∀ u ∈ l, (mendF u).size ≤ u.size) → sizes (l.map mendF) ≤ sizes l := by
    intro l hl
    induction l with
    | nil => simp
    | cons u l ihl => have := hl u (by simp); have := ihl (fun v hv => hl v (by simp [hv])); simp; omega
  rw [mendF_eq]
  (repeat' split) <;> (try simp [Tm.size_eq, ha]) <;> (try (simp [atomA]; done)) <;> (try omega)
  · rw [mends_map]; exact hl t.args ih

theorem goodT_size (l : List Pt) (h60 : l.length ≤ 60) : (goodT l).size ≤ 421 := by
  have h2 := ofF_size (l.length + 1) l
  have h3 := ofF_le (l.length + 1) l
  have := mendF_size (ofF (l.length + 1) l).1
  unfold goodT; omega

theorem goodT_fine (l : List Pt) : Fine (goodT l) := mendF_fine _

end Go.Proofs.Yteebkkipeiggcaa


/- Contracts: comparisons out of Go's library. -/
namespace Go.Proofs

set_option maxHeartbeats 1000000 in
set_option maxRecDepth 100000 in
theorem Try.bytealg_CompareString (a b : ByteArray) (w : World) :
    Calls Try.prog 105 #[.string a, .string b] w fun e w' => e = .returned (.int .i64 (Lib.compareBytes a.data.toList b.data.toList)) ∧ w' = w := by
  go_enter Try.func105, Try.ntmps105
  go_wp2
  rw [run_callFunc_extern Try.func121 (by kernel_rfl) (by kernel_rfl) (by kernel_rfl) (e := Extern.BytealgCompare.compare) (by kernel_rfl), Lib.run_compareString]
  simp only [Result.andThen]
  rw [Oper.upon_value]
  go_wp2
  go_ret
  exact ⟨rfl, rfl⟩

end Go.Proofs

namespace Go.Proofs.Yteebkkipeiggcaa
open Go Go.Vm

set_option maxRecDepth 20000
set_option maxHeartbeats 1000000

def cmpS (a b : ByteArray) : Int := Lib.compareBytes a.data.toList b.data.toList
def cmpI (a b : Int) : Int := if a < b then -1 else if a > b then 1 else 0

theorem comparestring_ok (a b : ByteArray) : ACalls Try.prog 105 [.str a, .str b] [] (fun r _ => r = .ret (.int .i64 (cmpS a b))) :=
  ACalls.of_calls0 fun c vs hv => by
    have e : vs = #[.string a, .string b] := Array.ext' (VRs.str2 hv)
    subst e
    exact ⟨_, (Try.bytealg_CompareString a b c.w).mono fun e w' ⟨h1, h2⟩ => ⟨h1, by subst h2; exact Grew.refl _⟩, fun _ => .int⟩

theorem strings_compare_ok (a b : ByteArray) : ACalls Try.prog 65 [.str a, .str b] [] (fun r _ => r = .ret (.int .i64 (cmpS a b))) := by
  refine ACalls.post (calls_tree 400 fn65 (by simp [Try.f65]) ?_); simp (maxSteps := 3000000) [Tr.map, Try.f65]
  (have hc_ := comparestring_ok a b); (try simp at hc_); refine ACalls.retW hc_ (by simp (maxDischargeDepth := 20)) (by simp (maxDischargeDepth := 12)) (by simp (maxDischargeDepth := 12)) ?_; clear hc_; (try simp (maxSteps := 3000000) [Tr.map])
  (try simp [Tm.enc]); (first | (refine .done ?_; simp [Tm.enc]; done) | (refine Tn.wkRet ?_; simp (maxDischargeDepth := 20)) | (refine Tn.wkPan ?_; simp (maxDischargeDepth := 20)))

theorem isnan_int_ok (a : Int) : ACalls Try.prog 103 [.int .i64 a] [] (fun r _ => r = .ret (.bool false)) := by
  refine ACalls.post (calls_tree 400 fn103 (by simp [Try.f103]) ?_); simp (maxSteps := 3000000) [Tr.map, Try.f103]
  (try simp [Tm.enc]); (first | (refine .done ?_; simp [Tm.enc]; done) | (refine Tn.wkRet ?_; simp (maxDischargeDepth := 20)) | (refine Tn.wkPan ?_; simp (maxDischargeDepth := 20)))

theorem compare_int_ok (a b : Int) : ACalls Try.prog 62 [.int .i64 a, .int .i64 b] [] (fun r _ => r = .ret (.int .i64 (cmpI a b))) := by
  refine ACalls.post (calls_tree 400 fn62 (by simp [Try.f62]) ?_); simp (maxSteps := 3000000) [Tr.map, Try.f62]
  (have hc_ := isnan_int_ok a); (try simp at hc_); refine ACalls.retW hc_ (by simp (maxDischargeDepth := 20)) (by simp (maxDischargeDepth := 12)) (by simp (maxDischargeDepth := 12)) ?_; clear hc_; (try simp (maxSteps := 3000000) [Tr.map])
  (have hc_ := isnan_int_ok b); (try simp at hc_); refine ACalls.retW hc_ (by simp (maxDischargeDepth := 20)) (by simp (maxDischargeDepth := 12)) (by simp (maxDischargeDepth := 12)) ?_; clear hc_; (try simp (maxSteps := 3000000) [Tr.map])
  unfold cmpI
  split
  · rename_i h; (try simp [Tm.enc, h]); (first | (refine .done ?_; simp [Tm.enc, h]; done) | (refine Tn.wkRet ?_; simp (maxDischargeDepth := 20)) | (refine Tn.wkPan ?_; simp (maxDischargeDepth := 20)))
  split
  · rename_i h1 h2; (try simp [Tm.enc, h1, h2]); (first | (refine .done ?_; simp [Tm.enc, h1, h2]; done) | (refine Tn.wkRet ?_; simp (maxDischargeDepth := 20)) | (refine Tn.wkPan ?_; simp (maxDischargeDepth := 20)))
  · rename_i h1 h2; (try simp [Tm.enc, h1, h2]); (first | (refine .done ?_; simp [Tm.enc, h1, h2]; done) | (refine Tn.wkRet ?_; simp (maxDischargeDepth := 20)) | (refine Tn.wkPan ?_; simp (maxDischargeDepth := 20)))

theorem isnan_int64_ok (a : Int) : ACalls Try.prog 104 [.int .i64 a] [] (fun r _ => r = .ret (.bool false)) := by
  refine ACalls.post (calls_tree 400 fn104 (by simp [Try.f104]) ?_); simp (maxSteps := 3000000) [Tr.map, Try.f104]
  (try simp [Tm.enc]); (first | (refine .done ?_; simp [Tm.enc]; done) | (refine Tn.wkRet ?_; simp (maxDischargeDepth := 20)) | (refine Tn.wkPan ?_; simp (maxDischargeDepth := 20)))

theorem compare_int64_ok (a b : Int) : ACalls Try.prog 63 [.int .i64 a, .int .i64 b] [] (fun r _ => r = .ret (.int .i64 (cmpI a b))) := by
  refine ACalls.post (calls_tree 400 fn63 (by simp [Try.f63]) ?_); simp (maxSteps := 3000000) [Tr.map, Try.f63]
  (have hc_ := isnan_int64_ok a); (try simp at hc_); refine ACalls.retW hc_ (by simp (maxDischargeDepth := 20)) (by simp (maxDischargeDepth := 12)) (by simp (maxDischargeDepth := 12)) ?_; clear hc_; (try simp (maxSteps := 3000000) [Tr.map])
  (have hc_ := isnan_int64_ok b); (try simp at hc_); refine ACalls.retW hc_ (by simp (maxDischargeDepth := 20)) (by simp (maxDischargeDepth := 12)) (by simp (maxDischargeDepth := 12)) ?_; clear hc_; (try simp (maxSteps := 3000000) [Tr.map])
  unfold cmpI
  split
  · rename_i h; (try simp [Tm.enc, h]); (first | (refine .done ?_; simp [Tm.enc, h]; done) | (refine Tn.wkRet ?_; simp (maxDischargeDepth := 20)) | (refine Tn.wkPan ?_; simp (maxDischargeDepth := 20)))
  split
  · rename_i h1 h2; (try simp [Tm.enc, h1, h2]); (first | (refine .done ?_; simp [Tm.enc, h1, h2]; done) | (refine Tn.wkRet ?_; simp (maxDischargeDepth := 20)) | (refine Tn.wkPan ?_; simp (maxDischargeDepth := 20)))
  · rename_i h1 h2; (try simp [Tm.enc, h1, h2]); (first | (refine .done ?_; simp [Tm.enc, h1, h2]; done) | (refine Tn.wkRet ?_; simp (maxDischargeDepth := 20)) | (refine Tn.wkPan ?_; simp (maxDischargeDepth := 20)))

/-- The first that isn't 0. -/
def orI : List Int → Int
  | [] => 0
  | n :: l => if n = 0 then orI l else n

theorem or_ok (l : List Int) (hl : l.length < 1000) : ACalls Try.prog 64 [.ro 1 (encI l)] [] (fun r _ => r = .ret (.int .i64 (orI l))) := by
  refine ACalls.post (calls_tree 400 fn64 (by simp [Try.f64]) ?_); simp (maxSteps := 3000000) [Tr.map, Try.f64]
  refine AStk.liveT [3, 6, 7, 8] (AStk.gc [] (by simp) (by simp) (by simp) ?_); simp [Tr.map]
  refine AStk.indE (fun d_ a_ h_ => ∃ (ds es : List Int), (l = ds ++ es ∧ orI l = orI es) ∧ d_ = es.length ∧ a_ = ⟨toL 18 (mkT [(3, .int .i64 0), (6, .ro 1 (encI l)), (7, .int .i64 l.length), (8, .int .i64 ds.length)] (.e .any)), []⟩ ∧ h_ = []) ?_ ?_
  · exact ⟨_, [], l, ⟨rfl, rfl⟩, rfl, by simp [Tr.map], rfl⟩
  rintro d a h ⟨ds, es, ⟨hsp, hor⟩, rfl, rfl, rfl⟩ IH
  cases es with
  | nil =>
    simp at hsp; subst hsp
    refine stk_run 400 ?_; simp (maxSteps := 3000000) [Tr.map]
    (try simp [Tm.enc, hor, orI]); (first | (refine .done ?_; simp [Tm.enc, hor, orI]; done) | (refine Tn.wkRet ?_; simp (maxDischargeDepth := 20)) | (refine Tn.wkPan ?_; simp (maxDischargeDepth := 20)))
  | cons n es =>
    obtain ⟨p1, p2, p3, p4, p5⟩ := mid_facts hsp
    by_cases hn : n = 0
    · subst hn
      refine stk_run 400 ?_; simp (maxSteps := 3000000) [Tr.map, p2, p3, p4]
      (try simp (disch := omega) only [wrap64])
      refine AStk.liveT [3, 6, 7, 8] (AStk.gc [] (by simp) (by simp) (by simp) ?_); simp [Tr.map]
      exact IH _ _ _ (by simp) ⟨ds ++ [0], es, ⟨by simp [hsp], by rw [hor]; simp [orI]⟩, rfl, by simp [Tr.map, Int.add_assoc, Int.add_comm, Int.add_left_comm], by simp⟩
    · refine stk_run 400 ?_; simp (maxSteps := 3000000) [Tr.map, p2, p3, p4, hn]
      (try simp [Tm.enc, hor, orI, hn]); (first | (refine .done ?_; simp [Tm.enc, hor, orI, hn]; done) | (refine Tn.wkRet ?_; simp (maxDischargeDepth := 20)) | (refine Tn.wkPan ?_; simp (maxDischargeDepth := 20)))

mutual
def cmpT : Tm → Tm → Int
  | ⟨k, n, s, a⟩, u => if k ≠ u.kind then cmpI k u.kind else if k = 1 ∨ k = 2 then cmpI n u.n else orI [cmpI a.length u.args.length, cmpS s u.s, cmpL a u.args]
def cmpL : List Tm → List Tm → Int
  | [], [] => 0
  | [], _ :: _ => -1
  | _ :: _, [] => 1
  | x :: a, y :: b => if cmpT x y = 0 then cmpL a b else cmpT x y
end

theorem cmpT_eq (t u : Tm) : cmpT t u = if t.kind ≠ u.kind then cmpI t.kind u.kind else if t.kind = 1 ∨ t.kind = 2 then cmpI t.n u.n else orI [cmpI t.args.length u.args.length, cmpS t.s u.s, cmpL t.args u.args] := by
  cases t; simp [cmpT]

theorem cmpfunc_ok (a b : List Tm) (hl : a.length ≤ 1000000) (hm : ∀ x ∈ a, ∀ y, ACalls Try.prog 30 [.agg x.enc, .agg y.enc] [] (fun r _ => r = .ret (.int .i64 (cmpT x y)))) :
    ACalls Try.prog 66 [.ro 4 (encs a), .ro 4 (encs b), .fn (.func 30) [] []] [] (fun r _ => r = .ret (.int .i64 (cmpL a b))) := by
  refine ACalls.post (calls_tree 400 fn66 (by simp [Try.f66]) ?_); simp (maxSteps := 3000000) [Tr.map, Try.f66]
  refine AStk.liveT [0, 1, 2, 11, 12, 13] (AStk.gc [] (by simp) (by simp) (by simp) ?_); simp [Tr.map]
  refine AStk.indE (fun d_ a_ h_ => ∃ (ds es fs gs : List Tm), (a = ds ++ es ∧ b = fs ++ gs ∧ ds.length = fs.length ∧ cmpL a b = cmpL es gs) ∧ d_ = es.length ∧ a_ = ⟨toL 39 (mkT [(0, .ro 4 (encs a)), (1, .ro 4 (encs b)), (2, .fn (.func 30) [] []), (11, .ro 4 (encs a)), (12, .int .i64 a.length), (13, .int .i64 ds.length)] (.e .any)), []⟩ ∧ h_ = []) ?_ ?_
  · exact ⟨_, [], a, [], b, ⟨rfl, rfl, rfl, rfl⟩, rfl, by simp [Tr.map], rfl⟩
  rintro d a_ h_ ⟨ds, es, fs, gs, ⟨e1, e2, e3, e4⟩, rfl, rfl, rfl⟩ IH
  cases es with
  | nil =>
    simp at e1; subst e1
    cases gs with
    | nil =>
      simp at e2; subst e2
      have h3 : ¬ a.length < b.length := by omega
      refine stk_run 400 ?_; simp (maxSteps := 3000000) [Tr.map, h3, e3]
      (try simp [Tm.enc, e4, cmpL, e3]); (first | (refine .done ?_; simp [Tm.enc, e4, cmpL, e3]; done) | (refine Tn.wkRet ?_; simp (maxDischargeDepth := 20)) | (refine Tn.wkPan ?_; simp (maxDischargeDepth := 20)))
    | cons g gs =>
      have h3 : a.length < b.length := by rw [e2]; simp; omega
      refine stk_run 400 ?_; simp (maxSteps := 3000000) [Tr.map, h3]
      (try simp [Tm.enc, e4, cmpL, h3]); (first | (refine .done ?_; simp [Tm.enc, e4, cmpL, h3]; done) | (refine Tn.wkRet ?_; simp (maxDischargeDepth := 20)) | (refine Tn.wkPan ?_; simp (maxDischargeDepth := 20)))
  | cons x es =>
    obtain ⟨p1, p2, p3, p4, p5⟩ := mid_facts e1
    cases gs with
    | nil =>
      simp at e2; subst e2
      have h3 : b.length ≤ ds.length := by omega
      refine stk_run 400 ?_; simp (maxSteps := 3000000) [Tr.map, p2, p3, p4, h3]
      (try simp [Tm.enc, e4, cmpL, h3]); (first | (refine .done ?_; simp [Tm.enc, e4, cmpL, h3]; done) | (refine Tn.wkRet ?_; simp (maxDischargeDepth := 20)) | (refine Tn.wkPan ?_; simp (maxDischargeDepth := 20)))
    | cons y gs =>
      obtain ⟨q1, q2, q3, q4, q5⟩ := mid_facts e2
      rw [← e3] at q1 q2 q3 q4
      have h3 : ¬ b.length ≤ ds.length := by omega
      refine stk_run 400 ?_; simp (maxSteps := 3000000) [Tr.map, p2, p3, p4, h3, q1, q2, q3, q4]
      (have hc_ := hm x (by simp [e1]) y); (try simp at hc_); refine ACalls.retW hc_ (by simp (maxDischargeDepth := 20)) (by simp (maxDischargeDepth := 12)) (by simp (maxDischargeDepth := 12)) ?_; clear hc_; (try simp (maxSteps := 3000000) [Tr.map])
      by_cases hc : cmpT x y = 0
      · simp [hc]
        (try simp (disch := omega) only [wrap64])
        refine AStk.liveT [0, 1, 2, 11, 12, 13] (AStk.gc [] (by simp) (by simp) (by simp) ?_); simp [Tr.map]
        exact IH _ _ _ (by simp) ⟨ds ++ [x], es, fs ++ [y], gs, ⟨by simp [e1], by simp [e2], by simp [e3], by rw [e4]; simp [cmpL, hc]⟩, rfl, by simp [Tr.map, Int.add_assoc, Int.add_comm, Int.add_left_comm], by simp⟩
      · simp [hc]
        (try simp [Tm.enc, e4, cmpL, hc]); (first | (refine .done ?_; simp [Tm.enc, e4, cmpL, hc]; done) | (refine Tn.wkRet ?_; simp (maxDischargeDepth := 20)) | (refine Tn.wkPan ?_; simp (maxDischargeDepth := 20)))

theorem cmp_ok (t u : Tm) (hk : t.size ≤ 1000000) : ACalls Try.prog 30 [.agg t.enc, .agg u.enc] [] (fun r _ => r = .ret (.int .i64 (cmpT t u))) := by
  induction t using Tm.ind generalizing u with | _ t ih
  have hmem : ∀ v ∈ t.args, ∀ w, ACalls Try.prog 30 [.agg v.enc, .agg w.enc] [] (fun r _ => r = .ret (.int .i64 (cmpT v w))) := fun v hv w => ih v hv w (by have := Tm.size_lt hv; omega)
  have hlen := t.length_lt
  clear ih
  have hc := cmpT_eq t u
  generalize hR : cmpT t u = R at *
  clear hR
  by_cases hkk : t.kind = u.kind
  · have h0 : cmpI u.kind u.kind = 0 := by simp [cmpI]
    have h0' := compare_int_ok t.kind u.kind
    rw [hkk, h0] at h0'
    simp [hkk] at hc
    by_cases k1 : u.kind = 1
    · simp [k1] at hc; subst hc
      rw [k1] at hkk h0'
      refine ACalls.post (calls_tree 400 fn30 (by simp [Try.f30]) ?_); simp (maxSteps := 3000000) [Tr.map, Try.f30, hkk, k1]
      (have hc_ := h0'); (try simp at hc_); refine ACalls.retW hc_ (by simp (maxDischargeDepth := 20)) (by simp (maxDischargeDepth := 12)) (by simp (maxDischargeDepth := 12)) ?_; clear hc_; (try simp (maxSteps := 3000000) [Tr.map, hkk, k1])
      (have hc_ := compare_int64_ok t.n u.n); (try simp at hc_); refine ACalls.retW hc_ (by simp (maxDischargeDepth := 20)) (by simp (maxDischargeDepth := 12)) (by simp (maxDischargeDepth := 12)) ?_; clear hc_; (try simp (maxSteps := 3000000) [Tr.map, hkk, k1])
      (try simp [Tm.enc]); (first | (refine .done ?_; simp [Tm.enc]; done) | (refine Tn.wkRet ?_; simp (maxDischargeDepth := 20)) | (refine Tn.wkPan ?_; simp (maxDischargeDepth := 20)))
    by_cases k2 : u.kind = 2
    · simp [k2] at hc; subst hc
      rw [k2] at hkk h0'
      refine ACalls.post (calls_tree 400 fn30 (by simp [Try.f30]) ?_); simp (maxSteps := 3000000) [Tr.map, Try.f30, hkk, k2]
      (have hc_ := h0'); (try simp at hc_); refine ACalls.retW hc_ (by simp (maxDischargeDepth := 20)) (by simp (maxDischargeDepth := 12)) (by simp (maxDischargeDepth := 12)) ?_; clear hc_; (try simp (maxSteps := 3000000) [Tr.map, hkk, k2])
      (have hc_ := compare_int64_ok t.n u.n); (try simp at hc_); refine ACalls.retW hc_ (by simp (maxDischargeDepth := 20)) (by simp (maxDischargeDepth := 12)) (by simp (maxDischargeDepth := 12)) ?_; clear hc_; (try simp (maxSteps := 3000000) [Tr.map, hkk, k2])
      (try simp [Tm.enc]); (first | (refine .done ?_; simp [Tm.enc]; done) | (refine Tn.wkRet ?_; simp (maxDischargeDepth := 20)) | (refine Tn.wkPan ?_; simp (maxDischargeDepth := 20)))
    simp [k1, k2] at hc
    refine ACalls.post (calls_tree 400 fn30 (by simp [Try.f30]) ?_); simp (maxSteps := 3000000) [Tr.map, Try.f30, hkk]
    (have hc_ := h0'); (try simp at hc_); refine ACalls.retW hc_ (by simp (maxDischargeDepth := 20)) (by simp (maxDischargeDepth := 12)) (by simp (maxDischargeDepth := 12)) ?_; clear hc_; (try simp (maxSteps := 3000000) [Tr.map, hkk, k1, k2])
    refine stk_draw mixed (tabOf_ok _) (fnOf_ok _) 16 (by kernel_rfl) ?_; simp (maxSteps := 3000000) [Tr.map, hkk, k1, k2]
    (have hc_ := compare_int_ok t.args.length u.args.length); (try simp at hc_); refine QCall.introW hc_ (by simp (maxDischargeDepth := 20)) (by simp (maxDischargeDepth := 12)) (by simp (maxDischargeDepth := 12)) ?_; clear hc_; (try simp (maxSteps := 3000000) [Tr.map])
    (have hc_ := strings_compare_ok t.s u.s); (try simp at hc_); refine QCall.introW hc_ (by simp (maxDischargeDepth := 20)) (by simp (maxDischargeDepth := 12)) (by simp (maxDischargeDepth := 12)) ?_; clear hc_; (try simp (maxSteps := 3000000) [Tr.map])
    refine stk_run 400 ?_; simp (maxSteps := 3000000) [Tr.map]
    (have hc_ := cmpfunc_ok t.args u.args (by omega) hmem); (try simp at hc_); refine ACalls.retW hc_ (by simp (maxDischargeDepth := 20)) (by simp (maxDischargeDepth := 12)) (by simp (maxDischargeDepth := 12)) ?_; clear hc_; (try simp (maxSteps := 3000000) [Tr.map])
    refine ACalls.freeze 2 rfl ?_; simp
    (have hc_ := or_ok [cmpI t.args.length u.args.length, cmpS t.s u.s, cmpL t.args u.args] (by simp)); (try simp at hc_); refine ACalls.retW hc_ (by simp (maxDischargeDepth := 20)) (by simp (maxDischargeDepth := 12)) (by simp (maxDischargeDepth := 12)) ?_; clear hc_; (try simp (maxSteps := 3000000) [Tr.map])
    subst hc
    (try simp [Tm.enc]); (first | (refine .done ?_; simp [Tm.enc]; done) | (refine Tn.wkRet ?_; simp (maxDischargeDepth := 20)) | (refine Tn.wkPan ?_; simp (maxDischargeDepth := 20)))
  · have h0 : cmpI t.kind u.kind ≠ 0 := by unfold cmpI; split <;> (try split) <;> omega
    simp [hkk] at hc
    subst hc
    refine ACalls.post (calls_tree 400 fn30 (by simp [Try.f30]) ?_); simp (maxSteps := 3000000) [Tr.map, Try.f30]
    (have hc_ := compare_int_ok t.kind u.kind); (try simp at hc_); refine ACalls.retW hc_ (by simp (maxDischargeDepth := 20)) (by simp (maxDischargeDepth := 12)) (by simp (maxDischargeDepth := 12)) ?_; clear hc_; (try simp (maxSteps := 3000000) [Tr.map, h0])
    (try simp [Tm.enc]); (first | (refine .done ?_; simp [Tm.enc]; done) | (refine Tn.wkRet ?_; simp (maxDischargeDepth := 20)) | (refine Tn.wkPan ?_; simp (maxDischargeDepth := 20)))

end Go.Proofs.Yteebkkipeiggcaa


/- Contracts: what a term may be (package term). -/
namespace Go.Proofs.Yteebkkipeiggcaa
open Go Go.Vm

set_option maxRecDepth 20000
set_option maxHeartbeats 1000000

def mayB (t : Tm) : Bool := decide (t.kind = 1 ∧ 0 ≤ t.n ∧ t.s = ⟨#[]⟩ ∧ t.args.length = 0 ∨ t.kind = 2 ∧ t.s = ⟨#[]⟩ ∧ t.args.length = 0 ∨ t.kind = 3 ∧ t.n = 0 ∧ t.s.size ≤ 1000 ∧ t.args.length = 0 ∨ t.kind = 4 ∧ t.n = 0 ∧ t.s.size ≤ 1000 ∧ 0 < t.args.length ∧ t.args.length ≤ 255)

theorem may_ok (t : Tm) (hl : t.args.length ≤ 1000000) : ACalls Try.prog 75 [.agg t.enc] [] (fun r _ => r = .ret (.bool (mayB t))) := by
  by_cases k1 : t.kind = 1
  · by_cases a : t.n < 0
    · have hm : mayB t = false := by simp [mayB, k1]; omega
      refine ACalls.post (calls_tree 400 fn75 (by simp [Try.f75]) ?_); simp (maxSteps := 3000000) [Tr.map, Try.f75, k1, a]
      (try simp [Tm.enc, hm]); (first | (refine .done ?_; simp [Tm.enc, hm]; done) | (refine Tn.wkRet ?_; simp (maxDischargeDepth := 20)) | (refine Tn.wkPan ?_; simp (maxDischargeDepth := 20)))
    by_cases b : t.s = ⟨#[]⟩
    · by_cases c : t.args.length = 0
      · have hm : mayB t = true := by simp [mayB, k1, b, c]; omega
        refine ACalls.post (calls_tree 400 fn75 (by simp [Try.f75]) ?_); simp (maxSteps := 3000000) [Tr.map, Try.f75, k1, a, b, c]
        (try simp [Tm.enc, hm]); (first | (refine .done ?_; simp [Tm.enc, hm]; done) | (refine Tn.wkRet ?_; simp (maxDischargeDepth := 20)) | (refine Tn.wkPan ?_; simp (maxDischargeDepth := 20)))
      · have c' : ¬ t.args = [] := fun e => c (by simp [e])
        have hm : mayB t = false := by simp [mayB, k1, b, c']
        refine ACalls.post (calls_tree 400 fn75 (by simp [Try.f75]) ?_); simp (maxSteps := 3000000) [Tr.map, Try.f75, k1, a, b, c, c']
        (try simp [Tm.enc, hm]); (first | (refine .done ?_; simp [Tm.enc, hm]; done) | (refine Tn.wkRet ?_; simp (maxDischargeDepth := 20)) | (refine Tn.wkPan ?_; simp (maxDischargeDepth := 20)))
    · have hm : mayB t = false := by simp [mayB, k1, b]
      refine ACalls.post (calls_tree 400 fn75 (by simp [Try.f75]) ?_); simp (maxSteps := 3000000) [Tr.map, Try.f75, k1, a, b]
      (try simp [Tm.enc, hm]); (first | (refine .done ?_; simp [Tm.enc, hm]; done) | (refine Tn.wkRet ?_; simp (maxDischargeDepth := 20)) | (refine Tn.wkPan ?_; simp (maxDischargeDepth := 20)))
  by_cases k2 : t.kind = 2
  · by_cases b : t.s = ⟨#[]⟩
    · by_cases c : t.args.length = 0
      · have hm : mayB t = true := by simp [mayB, k2, b, c]
        refine ACalls.post (calls_tree 400 fn75 (by simp [Try.f75]) ?_); simp (maxSteps := 3000000) [Tr.map, Try.f75, k2, b, c]
        (try simp [Tm.enc, hm]); (first | (refine .done ?_; simp [Tm.enc, hm]; done) | (refine Tn.wkRet ?_; simp (maxDischargeDepth := 20)) | (refine Tn.wkPan ?_; simp (maxDischargeDepth := 20)))
      · have c' : ¬ t.args = [] := fun e => c (by simp [e])
        have hm : mayB t = false := by simp [mayB, k2, b, c']
        refine ACalls.post (calls_tree 400 fn75 (by simp [Try.f75]) ?_); simp (maxSteps := 3000000) [Tr.map, Try.f75, k2, b, c, c']
        (try simp [Tm.enc, hm]); (first | (refine .done ?_; simp [Tm.enc, hm]; done) | (refine Tn.wkRet ?_; simp (maxDischargeDepth := 20)) | (refine Tn.wkPan ?_; simp (maxDischargeDepth := 20)))
    · have hm : mayB t = false := by simp [mayB, k2, b]
      refine ACalls.post (calls_tree 400 fn75 (by simp [Try.f75]) ?_); simp (maxSteps := 3000000) [Tr.map, Try.f75, k2, b]
      (try simp [Tm.enc, hm]); (first | (refine .done ?_; simp [Tm.enc, hm]; done) | (refine Tn.wkRet ?_; simp (maxDischargeDepth := 20)) | (refine Tn.wkPan ?_; simp (maxDischargeDepth := 20)))
  by_cases k3 : t.kind = 3
  · by_cases a : t.n = 0
    · by_cases b : 1000 < t.s.size
      · have b' : (1000 : Int) < t.s.size := by omega
        have hm : mayB t = false := by simp [mayB, k3]; omega
        refine ACalls.post (calls_tree 400 fn75 (by simp [Try.f75]) ?_); simp (maxSteps := 3000000) [Tr.map, Try.f75, k3, a, b, b']
        (try simp [Tm.enc, hm]); (first | (refine .done ?_; simp [Tm.enc, hm]; done) | (refine Tn.wkRet ?_; simp (maxDischargeDepth := 20)) | (refine Tn.wkPan ?_; simp (maxDischargeDepth := 20)))
      · have b' : ¬ (1000 : Int) < t.s.size := by omega
        by_cases c : t.args.length = 0
        · have hm : mayB t = decide ((3 : Int) = 3) := by simp [mayB, k3, a, c]; try omega
          refine ACalls.post (calls_tree 400 fn75 (by simp [Try.f75]) ?_); simp (maxSteps := 3000000) [Tr.map, Try.f75, k3, a, b, b', c]
          (try simp [Tm.enc, hm]); (first | (refine .done ?_; simp [Tm.enc, hm]; done) | (refine Tn.wkRet ?_; simp (maxDischargeDepth := 20)) | (refine Tn.wkPan ?_; simp (maxDischargeDepth := 20)))
        · have c' : ¬ t.args = [] := fun e => c (by simp [e])
          have c2 : 0 < t.args.length := by omega
          by_cases d : 255 < t.args.length
          · have d' : ¬ (t.args.length : Int) ≤ 255 := by omega
            have hm : mayB t = false := by simp [mayB, k3, a, c']; try omega
            refine ACalls.post (calls_tree 400 fn75 (by simp [Try.f75]) ?_); simp (maxSteps := 3000000) [Tr.map, Try.f75, k3, a, b, b', c, c', c2, d, d']
            (try simp [Tm.enc, hm]); (first | (refine .done ?_; simp [Tm.enc, hm]; done) | (refine Tn.wkRet ?_; simp (maxDischargeDepth := 20)) | (refine Tn.wkPan ?_; simp (maxDischargeDepth := 20)))
          · have d' : (t.args.length : Int) ≤ 255 := by omega
            have hm : mayB t = decide ((3 : Int) = 4) := by simp [mayB, k3, a, c', c2]; try omega
            refine ACalls.post (calls_tree 400 fn75 (by simp [Try.f75]) ?_); simp (maxSteps := 3000000) [Tr.map, Try.f75, k3, a, b, b', c, c', c2, d, d']
            (try simp [Tm.enc, hm]); (first | (refine .done ?_; simp [Tm.enc, hm]; done) | (refine Tn.wkRet ?_; simp (maxDischargeDepth := 20)) | (refine Tn.wkPan ?_; simp (maxDischargeDepth := 20)))
    · have hm : mayB t = false := by simp [mayB, k3, a]
      refine ACalls.post (calls_tree 400 fn75 (by simp [Try.f75]) ?_); simp (maxSteps := 3000000) [Tr.map, Try.f75, k3, a]
      (try simp [Tm.enc, hm]); (first | (refine .done ?_; simp [Tm.enc, hm]; done) | (refine Tn.wkRet ?_; simp (maxDischargeDepth := 20)) | (refine Tn.wkPan ?_; simp (maxDischargeDepth := 20)))
  by_cases k4 : t.kind = 4
  · by_cases a : t.n = 0
    · by_cases b : 1000 < t.s.size
      · have b' : (1000 : Int) < t.s.size := by omega
        have hm : mayB t = false := by simp [mayB, k4]; omega
        refine ACalls.post (calls_tree 400 fn75 (by simp [Try.f75]) ?_); simp (maxSteps := 3000000) [Tr.map, Try.f75, k4, a, b, b']
        (try simp [Tm.enc, hm]); (first | (refine .done ?_; simp [Tm.enc, hm]; done) | (refine Tn.wkRet ?_; simp (maxDischargeDepth := 20)) | (refine Tn.wkPan ?_; simp (maxDischargeDepth := 20)))
      · have b' : ¬ (1000 : Int) < t.s.size := by omega
        by_cases c : t.args.length = 0
        · have hm : mayB t = decide ((4 : Int) = 3) := by simp [mayB, k4, a, c]; try omega
          refine ACalls.post (calls_tree 400 fn75 (by simp [Try.f75]) ?_); simp (maxSteps := 3000000) [Tr.map, Try.f75, k4, a, b, b', c]
          (try simp [Tm.enc, hm]); (first | (refine .done ?_; simp [Tm.enc, hm]; done) | (refine Tn.wkRet ?_; simp (maxDischargeDepth := 20)) | (refine Tn.wkPan ?_; simp (maxDischargeDepth := 20)))
        · have c' : ¬ t.args = [] := fun e => c (by simp [e])
          have c2 : 0 < t.args.length := by omega
          by_cases d : 255 < t.args.length
          · have d' : ¬ (t.args.length : Int) ≤ 255 := by omega
            have hm : mayB t = false := by simp [mayB, k4, a, c']; try omega
            refine ACalls.post (calls_tree 400 fn75 (by simp [Try.f75]) ?_); simp (maxSteps := 3000000) [Tr.map, Try.f75, k4, a, b, b', c, c', c2, d, d']
            (try simp [Tm.enc, hm]); (first | (refine .done ?_; simp [Tm.enc, hm]; done) | (refine Tn.wkRet ?_; simp (maxDischargeDepth := 20)) | (refine Tn.wkPan ?_; simp (maxDischargeDepth := 20)))
          · have d' : (t.args.length : Int) ≤ 255 := by omega
            have hm : mayB t = decide ((4 : Int) = 4) := by simp [mayB, k4, a, c', c2]; try omega
            refine ACalls.post (calls_tree 400 fn75 (by simp [Try.f75]) ?_); simp (maxSteps := 3000000) [Tr.map, Try.f75, k4, a, b, b', c, c', c2, d, d']
            (try simp [Tm.enc, hm]); (first | (refine .done ?_; simp [Tm.enc, hm]; done) | (refine Tn.wkRet ?_; simp (maxDischargeDepth := 20)) | (refine Tn.wkPan ?_; simp (maxDischargeDepth := 20)))
    · have hm : mayB t = false := by simp [mayB, k4, a]
      refine ACalls.post (calls_tree 400 fn75 (by simp [Try.f75]) ?_); simp (maxSteps := 3000000) [Tr.map, Try.f75, k4, a]
      (try simp [Tm.enc, hm]); (first | (refine .done ?_; simp [Tm.enc, hm]; done) | (refine Tn.wkRet ?_; simp (maxDischargeDepth := 20)) | (refine Tn.wkPan ?_; simp (maxDischargeDepth := 20)))
  have hm : mayB t = false := by simp [mayB, k1, k2, k3, k4]
  refine ACalls.post (calls_tree 400 fn75 (by simp [Try.f75]) ?_); simp (maxSteps := 3000000) [Tr.map, Try.f75, k1, k2, k3, k4]
  (try simp [Tm.enc, hm]); (first | (refine .done ?_; simp [Tm.enc, hm]; done) | (refine Tn.wkRet ?_; simp (maxDischargeDepth := 20)) | (refine Tn.wkPan ?_; simp (maxDischargeDepth := 20)))

end Go.Proofs.Yteebkkipeiggcaa
