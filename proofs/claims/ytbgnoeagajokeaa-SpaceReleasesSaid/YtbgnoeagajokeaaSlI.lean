/- The types of this translation as a table (printed by a program from the translation's table). -/
import Derived.Test.YtbgnoeagajokeaaSlC
import Derived.Test.YtbgnoeagajokeaaProg
import Derived.KernelRfl
namespace Go.Proofs.Ytbgnoeagajokeaa
open Go.Gh
@[reducible] def te0 : TE := ⟨.other, 1, 0, some (.tuple ⟨[]⟩)⟩
theorem ty0 : teOf Try.prog 0 = some te0 := by kernel_rfl
@[reducible] def te1 : TE := ⟨.other, 1, 8, some (.nilFunc)⟩
theorem ty1 : teOf Try.prog 1 = some te1 := by kernel_rfl
@[reducible] def te2 : TE := ⟨.int .i64, 1, 8, some (.int .i64 0)⟩
theorem ty2 : teOf Try.prog 2 = some te2 := by kernel_rfl
@[reducible] def te3 : TE := ⟨.int .i64, 1, 8, some (.int .i64 0)⟩
theorem ty3 : teOf Try.prog 3 = some te3 := by kernel_rfl
@[reducible] def te4 : TE := ⟨.bool, 1, 1, some (.bool false)⟩
theorem ty4 : teOf Try.prog 4 = some te4 := by kernel_rfl
@[reducible] def te5 : TE := ⟨.int .u8, 1, 1, some (.int .u8 0)⟩
theorem ty5 : teOf Try.prog 5 = some te5 := by kernel_rfl
@[reducible] def te6 : TE := ⟨.int .u8, 1, 1, some (.int .u8 0)⟩
theorem ty6 : teOf Try.prog 6 = some te6 := by kernel_rfl
@[reducible] def te7 : TE := ⟨.st [(2, 0), (3, 1), (4, 2), (6, 3)], 4, 24, some (.agg ⟨[.int .i64 0, .int .i64 0, .bool false, .int .u8 0]⟩)⟩
theorem ty7 : teOf Try.prog 7 = some te7 := by kernel_rfl
@[reducible] def te8 : TE := ⟨.st [(2, 0), (3, 1), (4, 2), (6, 3)], 4, 24, some (.agg ⟨[.int .i64 0, .int .i64 0, .bool false, .int .u8 0]⟩)⟩
theorem ty8 : teOf Try.prog 8 = some te8 := by kernel_rfl
@[reducible] def te9 : TE := ⟨.str, 1, 16, some (.string ⟨⟨[]⟩⟩)⟩
theorem ty9 : teOf Try.prog 9 = some te9 := by kernel_rfl
@[reducible] def te10 : TE := ⟨.str, 1, 16, some (.string ⟨⟨[]⟩⟩)⟩
theorem ty10 : teOf Try.prog 10 = some te10 := by kernel_rfl
@[reducible] def te11 : TE := ⟨.str, 1, 16, some (.string ⟨⟨[]⟩⟩)⟩
theorem ty11 : teOf Try.prog 11 = some te11 := by kernel_rfl
@[reducible] def te12 : TE := ⟨.int .u64, 1, 8, some (.int .u64 0)⟩
theorem ty12 : teOf Try.prog 12 = some te12 := by kernel_rfl
@[reducible] def te13 : TE := ⟨.st [(9, 0), (12, 1)], 2, 24, some (.agg ⟨[.string ⟨⟨[]⟩⟩, .int .u64 0]⟩)⟩
theorem ty13 : teOf Try.prog 13 = some te13 := by kernel_rfl
@[reducible] def te14 : TE := ⟨.st [(9, 0), (12, 1)], 2, 24, some (.agg ⟨[.string ⟨⟨[]⟩⟩, .int .u64 0]⟩)⟩
theorem ty14 : teOf Try.prog 14 = some te14 := by kernel_rfl
@[reducible] def te15 : TE := ⟨.ptr 85, 1, 8, some (.pointer none)⟩
theorem ty15 : teOf Try.prog 15 = some te15 := by kernel_rfl
@[reducible] def te16 : TE := ⟨.ptr 88, 1, 8, some (.pointer none)⟩
theorem ty16 : teOf Try.prog 16 = some te16 := by kernel_rfl
@[reducible] def te17 : TE := ⟨.ptr 97, 1, 8, some (.pointer none)⟩
theorem ty17 : teOf Try.prog 17 = some te17 := by kernel_rfl
@[reducible] def te18 : TE := ⟨.st [(17, 0)], 1, 8, some (.agg ⟨[.pointer none]⟩)⟩
theorem ty18 : teOf Try.prog 18 = some te18 := by kernel_rfl
@[reducible] def te19 : TE := ⟨.st [(17, 0)], 1, 8, some (.agg ⟨[.pointer none]⟩)⟩
theorem ty19 : teOf Try.prog 19 = some te19 := by kernel_rfl
@[reducible] def te20 : TE := ⟨.other, 1, 16, some (.nilIface)⟩
theorem ty20 : teOf Try.prog 20 = some te20 := by kernel_rfl
@[reducible] def te21 : TE := ⟨.int .i32, 1, 4, some (.int .i32 0)⟩
theorem ty21 : teOf Try.prog 21 = some te21 := by kernel_rfl
@[reducible] def te22 : TE := ⟨.slice 25, 1, 24, some (.slice none 0 0)⟩
theorem ty22 : teOf Try.prog 22 = some te22 := by kernel_rfl
@[reducible] def te23 : TE := ⟨.other, 1, 8, some (.nilFunc)⟩
theorem ty23 : teOf Try.prog 23 = some te23 := by kernel_rfl
@[reducible] def te24 : TE := ⟨.st [(3, 0), (3, 1)], 2, 16, some (.agg ⟨[.int .i64 0, .int .i64 0]⟩)⟩
theorem ty24 : teOf Try.prog 24 = some te24 := by kernel_rfl
@[reducible] def te25 : TE := ⟨.st [(3, 0), (3, 1)], 2, 16, some (.agg ⟨[.int .i64 0, .int .i64 0]⟩)⟩
theorem ty25 : teOf Try.prog 25 = some te25 := by kernel_rfl
@[reducible] def te26 : TE := ⟨.int .i64, 1, 8, some (.int .i64 0)⟩
theorem ty26 : teOf Try.prog 26 = some te26 := by kernel_rfl
@[reducible] def te27 : TE := ⟨.other, 1, 0, some (.tuple ⟨[.agg ⟨[.int .i64 0, .int .i64 0]⟩, .int .i64 0]⟩)⟩
theorem ty27 : teOf Try.prog 27 = some te27 := by kernel_rfl
@[reducible] def te28 : TE := ⟨.other, 1, 8, some (.nilFunc)⟩
theorem ty28 : teOf Try.prog 28 = some te28 := by kernel_rfl
@[reducible] def te29 : TE := ⟨.other, 1, 8, some (.nilFunc)⟩
theorem ty29 : teOf Try.prog 29 = some te29 := by kernel_rfl
@[reducible] def te30 : TE := ⟨.other, 1, 8, some (.nilFunc)⟩
theorem ty30 : teOf Try.prog 30 = some te30 := by kernel_rfl
@[reducible] def te31 : TE := ⟨.other, 1, 8, some (.nilFunc)⟩
theorem ty31 : teOf Try.prog 31 = some te31 := by kernel_rfl
@[reducible] def te32 : TE := ⟨.other, 1, 8, some (.nilFunc)⟩
theorem ty32 : teOf Try.prog 32 = some te32 := by kernel_rfl
@[reducible] def te33 : TE := ⟨.other, 1, 8, some (.nilFunc)⟩
theorem ty33 : teOf Try.prog 33 = some te33 := by kernel_rfl
@[reducible] def te34 : TE := ⟨.slice 3, 1, 24, some (.slice none 0 0)⟩
theorem ty34 : teOf Try.prog 34 = some te34 := by kernel_rfl
@[reducible] def te35 : TE := ⟨.other, 1, 8, some (.nilFunc)⟩
theorem ty35 : teOf Try.prog 35 = some te35 := by kernel_rfl
@[reducible] def te36 : TE := ⟨.other, 1, 8, some (.nilFunc)⟩
theorem ty36 : teOf Try.prog 36 = some te36 := by kernel_rfl
@[reducible] def te37 : TE := ⟨.other, 1, 8, some (.nilFunc)⟩
theorem ty37 : teOf Try.prog 37 = some te37 := by kernel_rfl
@[reducible] def te38 : TE := ⟨.other, 1, 8, some (.nilFunc)⟩
theorem ty38 : teOf Try.prog 38 = some te38 := by kernel_rfl
@[reducible] def te39 : TE := ⟨.other, 1, 8, some (.nilFunc)⟩
theorem ty39 : teOf Try.prog 39 = some te39 := by kernel_rfl
@[reducible] def te40 : TE := ⟨.other, 1, 8, some (.nilFunc)⟩
theorem ty40 : teOf Try.prog 40 = some te40 := by kernel_rfl
@[reducible] def te41 : TE := ⟨.other, 1, 8, some (.nilFunc)⟩
theorem ty41 : teOf Try.prog 41 = some te41 := by kernel_rfl
@[reducible] def te42 : TE := ⟨.other, 1, 8, some (.nilFunc)⟩
theorem ty42 : teOf Try.prog 42 = some te42 := by kernel_rfl
@[reducible] def te43 : TE := ⟨.other, 1, 8, some (.nilFunc)⟩
theorem ty43 : teOf Try.prog 43 = some te43 := by kernel_rfl
@[reducible] def te44 : TE := ⟨.other, 1, 8, some (.nilFunc)⟩
theorem ty44 : teOf Try.prog 44 = some te44 := by kernel_rfl
@[reducible] def te45 : TE := ⟨.other, 1, 0, some (.tuple ⟨[.slice none 0 0, .int .i64 0]⟩)⟩
theorem ty45 : teOf Try.prog 45 = some te45 := by kernel_rfl
@[reducible] def te46 : TE := ⟨.other, 1, 8, some (.nilFunc)⟩
theorem ty46 : teOf Try.prog 46 = some te46 := by kernel_rfl
@[reducible] def te47 : TE := ⟨.other, 1, 8, some (.nilFunc)⟩
theorem ty47 : teOf Try.prog 47 = some te47 := by kernel_rfl
@[reducible] def te48 : TE := ⟨.other, 1, 8, some (.nilFunc)⟩
theorem ty48 : teOf Try.prog 48 = some te48 := by kernel_rfl
@[reducible] def te49 : TE := ⟨.other, 1, 8, some (.nilFunc)⟩
theorem ty49 : teOf Try.prog 49 = some te49 := by kernel_rfl
@[reducible] def te50 : TE := ⟨.slice 4, 1, 24, some (.slice none 0 0)⟩
theorem ty50 : teOf Try.prog 50 = some te50 := by kernel_rfl
@[reducible] def te51 : TE := ⟨.other, 1, 0, some (.tuple ⟨[.slice none 0 0, .bool false]⟩)⟩
theorem ty51 : teOf Try.prog 51 = some te51 := by kernel_rfl
@[reducible] def te52 : TE := ⟨.other, 1, 8, some (.nilFunc)⟩
theorem ty52 : teOf Try.prog 52 = some te52 := by kernel_rfl
@[reducible] def te53 : TE := ⟨.other, 1, 8, some (.nilFunc)⟩
theorem ty53 : teOf Try.prog 53 = some te53 := by kernel_rfl
@[reducible] def te54 : TE := ⟨.other, 1, 8, some (.nilFunc)⟩
theorem ty54 : teOf Try.prog 54 = some te54 := by kernel_rfl
@[reducible] def te55 : TE := ⟨.other, 1, 8, some (.nilFunc)⟩
theorem ty55 : teOf Try.prog 55 = some te55 := by kernel_rfl
@[reducible] def te56 : TE := ⟨.other, 1, 8, some (.nilFunc)⟩
theorem ty56 : teOf Try.prog 56 = some te56 := by kernel_rfl
@[reducible] def te57 : TE := ⟨.other, 1, 8, some (.nilFunc)⟩
theorem ty57 : teOf Try.prog 57 = some te57 := by kernel_rfl
@[reducible] def te58 : TE := ⟨.other, 1, 8, some (.nilFunc)⟩
theorem ty58 : teOf Try.prog 58 = some te58 := by kernel_rfl
@[reducible] def te59 : TE := ⟨.other, 1, 8, some (.nilFunc)⟩
theorem ty59 : teOf Try.prog 59 = some te59 := by kernel_rfl
@[reducible] def te60 : TE := ⟨.other, 1, 8, some (.nilFunc)⟩
theorem ty60 : teOf Try.prog 60 = some te60 := by kernel_rfl
@[reducible] def te61 : TE := ⟨.int .u64, 1, 8, some (.int .u64 0)⟩
theorem ty61 : teOf Try.prog 61 = some te61 := by kernel_rfl
@[reducible] def te62 : TE := ⟨.other, 1, 8, some (.nilFunc)⟩
theorem ty62 : teOf Try.prog 62 = some te62 := by kernel_rfl
@[reducible] def te63 : TE := ⟨.int .i64, 1, 8, some (.int .i64 0)⟩
theorem ty63 : teOf Try.prog 63 = some te63 := by kernel_rfl
@[reducible] def te64 : TE := ⟨.other, 1, 0, some (.tuple ⟨[.int .i64 0, .int .i64 0]⟩)⟩
theorem ty64 : teOf Try.prog 64 = some te64 := by kernel_rfl
@[reducible] def te65 : TE := ⟨.other, 1, 8, some (.nilFunc)⟩
theorem ty65 : teOf Try.prog 65 = some te65 := by kernel_rfl
@[reducible] def te66 : TE := ⟨.other, 1, 8, some (.nilFunc)⟩
theorem ty66 : teOf Try.prog 66 = some te66 := by kernel_rfl
@[reducible] def te67 : TE := ⟨.other, 1, 8, some (.nilFunc)⟩
theorem ty67 : teOf Try.prog 67 = some te67 := by kernel_rfl
@[reducible] def te68 : TE := ⟨.other, 1, 0, some (.tuple ⟨[.int .i64 0, .bool false]⟩)⟩
theorem ty68 : teOf Try.prog 68 = some te68 := by kernel_rfl
@[reducible] def te69 : TE := ⟨.other, 1, 8, some (.nilFunc)⟩
theorem ty69 : teOf Try.prog 69 = some te69 := by kernel_rfl
@[reducible] def te70 : TE := ⟨.other, 1, 8, some (.nilFunc)⟩
theorem ty70 : teOf Try.prog 70 = some te70 := by kernel_rfl
@[reducible] def te71 : TE := ⟨.int .u32, 1, 4, some (.int .u32 0)⟩
theorem ty71 : teOf Try.prog 71 = some te71 := by kernel_rfl
@[reducible] def te72 : TE := ⟨.other, 1, 8, some (.nilFunc)⟩
theorem ty72 : teOf Try.prog 72 = some te72 := by kernel_rfl
@[reducible] def te73 : TE := ⟨.int .u64, 1, 8, some (.int .u64 0)⟩
theorem ty73 : teOf Try.prog 73 = some te73 := by kernel_rfl
@[reducible] def te74 : TE := ⟨.int .u64, 1, 8, some (.int .u64 0)⟩
theorem ty74 : teOf Try.prog 74 = some te74 := by kernel_rfl
@[reducible] def te75 : TE := ⟨.other, 1, 8, some (.nilFunc)⟩
theorem ty75 : teOf Try.prog 75 = some te75 := by kernel_rfl
@[reducible] def te76 : TE := ⟨.other, 1, 8, some (.nilFunc)⟩
theorem ty76 : teOf Try.prog 76 = some te76 := by kernel_rfl
@[reducible] def te77 : TE := ⟨.other, 1, 8, some (.nilFunc)⟩
theorem ty77 : teOf Try.prog 77 = some te77 := by kernel_rfl
@[reducible] def te78 : TE := ⟨.ptr 3, 1, 8, some (.pointer none)⟩
theorem ty78 : teOf Try.prog 78 = some te78 := by kernel_rfl
@[reducible] def te79 : TE := ⟨.other, 1, 8, some (.nilFunc)⟩
theorem ty79 : teOf Try.prog 79 = some te79 := by kernel_rfl
@[reducible] def te80 : TE := ⟨.ptr 74, 1, 8, some (.pointer none)⟩
theorem ty80 : teOf Try.prog 80 = some te80 := by kernel_rfl
@[reducible] def te81 : TE := ⟨.other, 1, 0, some (.tuple ⟨[.int .i64 0, .int .i64 0]⟩)⟩
theorem ty81 : teOf Try.prog 81 = some te81 := by kernel_rfl
@[reducible] def te82 : TE := ⟨.other, 1, 8, some (.nilFunc)⟩
theorem ty82 : teOf Try.prog 82 = some te82 := by kernel_rfl
@[reducible] def te83 : TE := ⟨.other, 1, 8, some (.nilFunc)⟩
theorem ty83 : teOf Try.prog 83 = some te83 := by kernel_rfl
@[reducible] def te84 : TE := ⟨.st [(17, 0), (17, 1), (17, 2), (9, 3)], 4, 40, some (.agg ⟨[.pointer none, .pointer none, .pointer none, .string ⟨⟨[]⟩⟩]⟩)⟩
theorem ty84 : teOf Try.prog 84 = some te84 := by kernel_rfl
@[reducible] def te85 : TE := ⟨.st [(17, 0), (17, 1), (17, 2), (9, 3)], 4, 40, some (.agg ⟨[.pointer none, .pointer none, .pointer none, .string ⟨⟨[]⟩⟩]⟩)⟩
theorem ty85 : teOf Try.prog 85 = some te85 := by kernel_rfl
@[reducible] def te86 : TE := ⟨.arr 0 16, 0, 0, some (.agg ⟨[]⟩)⟩
theorem ty86 : teOf Try.prog 86 = some te86 := by kernel_rfl
@[reducible] def te87 : TE := ⟨.st [(86, 0)], 0, 0, some (.agg ⟨[]⟩)⟩
theorem ty87 : teOf Try.prog 87 = some te87 := by kernel_rfl
@[reducible] def te88 : TE := ⟨.st [(86, 0)], 0, 0, some (.agg ⟨[]⟩)⟩
theorem ty88 : teOf Try.prog 88 = some te88 := by kernel_rfl
@[reducible] def te89 : TE := ⟨.other, 1, 8, some (.nilFunc)⟩
theorem ty89 : teOf Try.prog 89 = some te89 := by kernel_rfl
@[reducible] def te90 : TE := ⟨.int .u8, 1, 1, some (.int .u8 0)⟩
theorem ty90 : teOf Try.prog 90 = some te90 := by kernel_rfl
@[reducible] def te91 : TE := ⟨.int .u8, 1, 1, some (.int .u8 0)⟩
theorem ty91 : teOf Try.prog 91 = some te91 := by kernel_rfl
@[reducible] def te92 : TE := ⟨.other, 1, 8, some (.nilFunc)⟩
theorem ty92 : teOf Try.prog 92 = some te92 := by kernel_rfl
@[reducible] def te93 : TE := ⟨.ptr 5, 1, 8, some (.pointer none)⟩
theorem ty93 : teOf Try.prog 93 = some te93 := by kernel_rfl
@[reducible] def te94 : TE := ⟨.int .i32, 1, 4, some (.int .i32 0)⟩
theorem ty94 : teOf Try.prog 94 = some te94 := by kernel_rfl
@[reducible] def te95 : TE := ⟨.int .i32, 1, 4, some (.int .i32 0)⟩
theorem ty95 : teOf Try.prog 95 = some te95 := by kernel_rfl
@[reducible] def te96 : TE := ⟨.st [(12, 0), (12, 1), (71, 2), (90, 3), (5, 4), (5, 5), (91, 6), (92, 7), (93, 8), (94, 9), (95, 10)], 11, 48, some (.agg ⟨[.int .u64 0, .int .u64 0, .int .u32 0, .int .u8 0, .int .u8 0, .int .u8 0, .int .u8 0, .nilFunc, .pointer none, .int .i32 0, .int .i32 0]⟩)⟩
theorem ty96 : teOf Try.prog 96 = some te96 := by kernel_rfl
@[reducible] def te97 : TE := ⟨.st [(12, 0), (12, 1), (71, 2), (90, 3), (5, 4), (5, 5), (91, 6), (92, 7), (93, 8), (94, 9), (95, 10)], 11, 48, some (.agg ⟨[.int .u64 0, .int .u64 0, .int .u32 0, .int .u8 0, .int .u8 0, .int .u8 0, .int .u8 0, .nilFunc, .pointer none, .int .i32 0, .int .i32 0]⟩)⟩
theorem ty97 : teOf Try.prog 97 = some te97 := by kernel_rfl
@[reducible] def te98 : TE := ⟨.other, 1, 8, some (.pointer none)⟩
theorem ty98 : teOf Try.prog 98 = some te98 := by kernel_rfl
def tyT : TT := (.node (.node (.node (.node (.node (.node (.node .leaf 0 te0 .leaf) 1 te1 (.node .leaf 2 te2 .leaf)) 3 te3 (.node (.node .leaf 4 te4 .leaf) 5 te5 .leaf)) 6 te6 (.node (.node (.node .leaf 7 te7 .leaf) 8 te8 .leaf) 9 te9 (.node (.node .leaf 10 te10 .leaf) 11 te11 .leaf))) 12 te12 (.node (.node (.node (.node .leaf 13 te13 .leaf) 14 te14 .leaf) 15 te15 (.node (.node .leaf 16 te16 .leaf) 17 te17 .leaf)) 18 te18 (.node (.node (.node .leaf 19 te19 .leaf) 20 te20 .leaf) 21 te21 (.node (.node .leaf 22 te22 .leaf) 23 te23 .leaf)))) 24 te24 (.node (.node (.node (.node (.node .leaf 25 te25 .leaf) 26 te26 (.node .leaf 27 te27 .leaf)) 28 te28 (.node (.node .leaf 29 te29 .leaf) 30 te30 .leaf)) 31 te31 (.node (.node (.node .leaf 32 te32 .leaf) 33 te33 .leaf) 34 te34 (.node (.node .leaf 35 te35 .leaf) 36 te36 .leaf))) 37 te37 (.node (.node (.node (.node .leaf 38 te38 .leaf) 39 te39 .leaf) 40 te40 (.node (.node .leaf 41 te41 .leaf) 42 te42 .leaf)) 43 te43 (.node (.node (.node .leaf 44 te44 .leaf) 45 te45 .leaf) 46 te46 (.node (.node .leaf 47 te47 .leaf) 48 te48 .leaf))))) 49 te49 (.node (.node (.node (.node (.node (.node .leaf 50 te50 .leaf) 51 te51 (.node .leaf 52 te52 .leaf)) 53 te53 (.node (.node .leaf 54 te54 .leaf) 55 te55 .leaf)) 56 te56 (.node (.node (.node .leaf 57 te57 .leaf) 58 te58 .leaf) 59 te59 (.node (.node .leaf 60 te60 .leaf) 61 te61 .leaf))) 62 te62 (.node (.node (.node (.node .leaf 63 te63 .leaf) 64 te64 .leaf) 65 te65 (.node (.node .leaf 66 te66 .leaf) 67 te67 .leaf)) 68 te68 (.node (.node (.node .leaf 69 te69 .leaf) 70 te70 .leaf) 71 te71 (.node (.node .leaf 72 te72 .leaf) 73 te73 .leaf)))) 74 te74 (.node (.node (.node (.node (.node .leaf 75 te75 .leaf) 76 te76 (.node .leaf 77 te77 .leaf)) 78 te78 (.node (.node .leaf 79 te79 .leaf) 80 te80 .leaf)) 81 te81 (.node (.node (.node .leaf 82 te82 .leaf) 83 te83 .leaf) 84 te84 (.node (.node .leaf 85 te85 .leaf) 86 te86 .leaf))) 87 te87 (.node (.node (.node (.node .leaf 88 te88 .leaf) 89 te89 .leaf) 90 te90 (.node (.node .leaf 91 te91 .leaf) 92 te92 .leaf)) 93 te93 (.node (.node (.node .leaf 94 te94 .leaf) 95 te95 .leaf) 96 te96 (.node (.node .leaf 97 te97 .leaf) 98 te98 .leaf))))))
theorem tyOk : tyT.Ok Try.prog := ⟨⟨⟨⟨⟨⟨⟨trivial, ty0, trivial⟩, ty1, ⟨trivial, ty2, trivial⟩⟩, ty3, ⟨⟨trivial, ty4, trivial⟩, ty5, trivial⟩⟩, ty6, ⟨⟨⟨trivial, ty7, trivial⟩, ty8, trivial⟩, ty9, ⟨⟨trivial, ty10, trivial⟩, ty11, trivial⟩⟩⟩, ty12, ⟨⟨⟨⟨trivial, ty13, trivial⟩, ty14, trivial⟩, ty15, ⟨⟨trivial, ty16, trivial⟩, ty17, trivial⟩⟩, ty18, ⟨⟨⟨trivial, ty19, trivial⟩, ty20, trivial⟩, ty21, ⟨⟨trivial, ty22, trivial⟩, ty23, trivial⟩⟩⟩⟩, ty24, ⟨⟨⟨⟨⟨trivial, ty25, trivial⟩, ty26, ⟨trivial, ty27, trivial⟩⟩, ty28, ⟨⟨trivial, ty29, trivial⟩, ty30, trivial⟩⟩, ty31, ⟨⟨⟨trivial, ty32, trivial⟩, ty33, trivial⟩, ty34, ⟨⟨trivial, ty35, trivial⟩, ty36, trivial⟩⟩⟩, ty37, ⟨⟨⟨⟨trivial, ty38, trivial⟩, ty39, trivial⟩, ty40, ⟨⟨trivial, ty41, trivial⟩, ty42, trivial⟩⟩, ty43, ⟨⟨⟨trivial, ty44, trivial⟩, ty45, trivial⟩, ty46, ⟨⟨trivial, ty47, trivial⟩, ty48, trivial⟩⟩⟩⟩⟩, ty49, ⟨⟨⟨⟨⟨⟨trivial, ty50, trivial⟩, ty51, ⟨trivial, ty52, trivial⟩⟩, ty53, ⟨⟨trivial, ty54, trivial⟩, ty55, trivial⟩⟩, ty56, ⟨⟨⟨trivial, ty57, trivial⟩, ty58, trivial⟩, ty59, ⟨⟨trivial, ty60, trivial⟩, ty61, trivial⟩⟩⟩, ty62, ⟨⟨⟨⟨trivial, ty63, trivial⟩, ty64, trivial⟩, ty65, ⟨⟨trivial, ty66, trivial⟩, ty67, trivial⟩⟩, ty68, ⟨⟨⟨trivial, ty69, trivial⟩, ty70, trivial⟩, ty71, ⟨⟨trivial, ty72, trivial⟩, ty73, trivial⟩⟩⟩⟩, ty74, ⟨⟨⟨⟨⟨trivial, ty75, trivial⟩, ty76, ⟨trivial, ty77, trivial⟩⟩, ty78, ⟨⟨trivial, ty79, trivial⟩, ty80, trivial⟩⟩, ty81, ⟨⟨⟨trivial, ty82, trivial⟩, ty83, trivial⟩, ty84, ⟨⟨trivial, ty85, trivial⟩, ty86, trivial⟩⟩⟩, ty87, ⟨⟨⟨⟨trivial, ty88, trivial⟩, ty89, trivial⟩, ty90, ⟨⟨trivial, ty91, trivial⟩, ty92, trivial⟩⟩, ty93, ⟨⟨⟨trivial, ty94, trivial⟩, ty95, trivial⟩, ty96, ⟨⟨trivial, ty97, trivial⟩, ty98, trivial⟩⟩⟩⟩⟩⟩
theorem pl7 : placesOf Try.prog 7 = some [(0, 1), (1, 1), (2, 1), (3, 1)] := by kernel_rfl
theorem pl8 : placesOf Try.prog 8 = some [(0, 1), (1, 1), (2, 1), (3, 1)] := by kernel_rfl
theorem pl13 : placesOf Try.prog 13 = some [(0, 1), (1, 1)] := by kernel_rfl
theorem pl14 : placesOf Try.prog 14 = some [(0, 1), (1, 1)] := by kernel_rfl
theorem pl18 : placesOf Try.prog 18 = some [(0, 1)] := by kernel_rfl
theorem pl19 : placesOf Try.prog 19 = some [(0, 1)] := by kernel_rfl
theorem pl24 : placesOf Try.prog 24 = some [(0, 1), (1, 1)] := by kernel_rfl
theorem pl25 : placesOf Try.prog 25 = some [(0, 1), (1, 1)] := by kernel_rfl
theorem pl84 : placesOf Try.prog 84 = some [(0, 1), (1, 1), (2, 1), (3, 1)] := by kernel_rfl
theorem pl85 : placesOf Try.prog 85 = some [(0, 1), (1, 1), (2, 1), (3, 1)] := by kernel_rfl
theorem pl87 : placesOf Try.prog 87 = some [(0, 0)] := by kernel_rfl
theorem pl88 : placesOf Try.prog 88 = some [(0, 0)] := by kernel_rfl
theorem pl96 : placesOf Try.prog 96 = some [(0, 1), (1, 1), (2, 1), (3, 1), (4, 1), (5, 1), (6, 1), (7, 1), (8, 1), (9, 1), (10, 1)] := by kernel_rfl
theorem pl97 : placesOf Try.prog 97 = some [(0, 1), (1, 1), (2, 1), (3, 1), (4, 1), (5, 1), (6, 1), (7, 1), (8, 1), (9, 1), (10, 1)] := by kernel_rfl
end Go.Proofs.Ytbgnoeagajokeaa
