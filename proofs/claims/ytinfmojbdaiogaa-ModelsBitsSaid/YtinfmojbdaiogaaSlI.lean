/- The types of this translation as a table (printed by a program from the translation's table). -/
import Derived.Test.YtinfmojbdaiogaaSlC
import Derived.Test.YtinfmojbdaiogaaProg
import Derived.KernelRfl
namespace Go.Proofs.Ytinfmojbdaiogaa
open Go.Gh
@[reducible] def te0 : TE := ⟨.other, 1, 0, some (.tuple ⟨[]⟩)⟩
theorem ty0 : teOf Try.prog 0 = some te0 := by kernel_rfl
@[reducible] def te1 : TE := ⟨.other, 1, 8, some (.nilFunc)⟩
theorem ty1 : teOf Try.prog 1 = some te1 := by kernel_rfl
@[reducible] def te2 : TE := ⟨.int .i64, 1, 8, some (.int .i64 0)⟩
theorem ty2 : teOf Try.prog 2 = some te2 := by kernel_rfl
@[reducible] def te3 : TE := ⟨.int .i64, 1, 8, some (.int .i64 0)⟩
theorem ty3 : teOf Try.prog 3 = some te3 := by kernel_rfl
@[reducible] def te4 : TE := ⟨.bool, 1, 1, some (.bool false)⟩
theorem ty4 : teOf Try.prog 4 = some te4 := by kernel_rfl
@[reducible] def te5 : TE := ⟨.int .u8, 1, 1, some (.int .u8 0)⟩
theorem ty5 : teOf Try.prog 5 = some te5 := by kernel_rfl
@[reducible] def te6 : TE := ⟨.int .u8, 1, 1, some (.int .u8 0)⟩
theorem ty6 : teOf Try.prog 6 = some te6 := by kernel_rfl
@[reducible] def te7 : TE := ⟨.st [(2, 0), (3, 1), (4, 2), (6, 3)], 4, 24, some (.agg ⟨[.int .i64 0, .int .i64 0, .bool false, .int .u8 0]⟩)⟩
theorem ty7 : teOf Try.prog 7 = some te7 := by kernel_rfl
@[reducible] def te8 : TE := ⟨.st [(2, 0), (3, 1), (4, 2), (6, 3)], 4, 24, some (.agg ⟨[.int .i64 0, .int .i64 0, .bool false, .int .u8 0]⟩)⟩
theorem ty8 : teOf Try.prog 8 = some te8 := by kernel_rfl
@[reducible] def te9 : TE := ⟨.str, 1, 16, some (.string ⟨⟨[]⟩⟩)⟩
theorem ty9 : teOf Try.prog 9 = some te9 := by kernel_rfl
@[reducible] def te10 : TE := ⟨.str, 1, 16, some (.string ⟨⟨[]⟩⟩)⟩
theorem ty10 : teOf Try.prog 10 = some te10 := by kernel_rfl
@[reducible] def te11 : TE := ⟨.str, 1, 16, some (.string ⟨⟨[]⟩⟩)⟩
theorem ty11 : teOf Try.prog 11 = some te11 := by kernel_rfl
@[reducible] def te12 : TE := ⟨.int .u64, 1, 8, some (.int .u64 0)⟩
theorem ty12 : teOf Try.prog 12 = some te12 := by kernel_rfl
@[reducible] def te13 : TE := ⟨.st [(9, 0), (12, 1)], 2, 24, some (.agg ⟨[.string ⟨⟨[]⟩⟩, .int .u64 0]⟩)⟩
theorem ty13 : teOf Try.prog 13 = some te13 := by kernel_rfl
@[reducible] def te14 : TE := ⟨.st [(9, 0), (12, 1)], 2, 24, some (.agg ⟨[.string ⟨⟨[]⟩⟩, .int .u64 0]⟩)⟩
theorem ty14 : teOf Try.prog 14 = some te14 := by kernel_rfl
@[reducible] def te15 : TE := ⟨.ptr 159, 1, 8, some (.pointer none)⟩
theorem ty15 : teOf Try.prog 15 = some te15 := by kernel_rfl
@[reducible] def te16 : TE := ⟨.ptr 162, 1, 8, some (.pointer none)⟩
theorem ty16 : teOf Try.prog 16 = some te16 := by kernel_rfl
@[reducible] def te17 : TE := ⟨.ptr 169, 1, 8, some (.pointer none)⟩
theorem ty17 : teOf Try.prog 17 = some te17 := by kernel_rfl
@[reducible] def te18 : TE := ⟨.st [(17, 0)], 1, 8, some (.agg ⟨[.pointer none]⟩)⟩
theorem ty18 : teOf Try.prog 18 = some te18 := by kernel_rfl
@[reducible] def te19 : TE := ⟨.st [(17, 0)], 1, 8, some (.agg ⟨[.pointer none]⟩)⟩
theorem ty19 : teOf Try.prog 19 = some te19 := by kernel_rfl
@[reducible] def te20 : TE := ⟨.other, 1, 16, some (.nilIface)⟩
theorem ty20 : teOf Try.prog 20 = some te20 := by kernel_rfl
@[reducible] def te21 : TE := ⟨.int .i32, 1, 4, some (.int .i32 0)⟩
theorem ty21 : teOf Try.prog 21 = some te21 := by kernel_rfl
@[reducible] def te22 : TE := ⟨.other, 1, 8, some (.nilFunc)⟩
theorem ty22 : teOf Try.prog 22 = some te22 := by kernel_rfl
@[reducible] def te23 : TE := ⟨.other, 1, 8, some (.nilFunc)⟩
theorem ty23 : teOf Try.prog 23 = some te23 := by kernel_rfl
@[reducible] def te24 : TE := ⟨.other, 1, 8, some (.nilFunc)⟩
theorem ty24 : teOf Try.prog 24 = some te24 := by kernel_rfl
@[reducible] def te25 : TE := ⟨.int .i64, 1, 8, some (.int .i64 0)⟩
theorem ty25 : teOf Try.prog 25 = some te25 := by kernel_rfl
@[reducible] def te26 : TE := ⟨.other, 1, 0, some (.tuple ⟨[.string ⟨⟨[]⟩⟩, .int .i64 0]⟩)⟩
theorem ty26 : teOf Try.prog 26 = some te26 := by kernel_rfl
@[reducible] def te27 : TE := ⟨.other, 1, 8, some (.nilFunc)⟩
theorem ty27 : teOf Try.prog 27 = some te27 := by kernel_rfl
@[reducible] def te28 : TE := ⟨.other, 1, 8, some (.nilFunc)⟩
theorem ty28 : teOf Try.prog 28 = some te28 := by kernel_rfl
@[reducible] def te29 : TE := ⟨.other, 1, 8, some (.nilFunc)⟩
theorem ty29 : teOf Try.prog 29 = some te29 := by kernel_rfl
@[reducible] def te30 : TE := ⟨.slice 3, 1, 24, some (.slice none 0 0)⟩
theorem ty30 : teOf Try.prog 30 = some te30 := by kernel_rfl
@[reducible] def te31 : TE := ⟨.slice 4, 1, 24, some (.slice none 0 0)⟩
theorem ty31 : teOf Try.prog 31 = some te31 := by kernel_rfl
@[reducible] def te32 : TE := ⟨.ptr 93, 1, 8, some (.pointer none)⟩
theorem ty32 : teOf Try.prog 32 = some te32 := by kernel_rfl
@[reducible] def te33 : TE := ⟨.other, 1, 8, some (.nilFunc)⟩
theorem ty33 : teOf Try.prog 33 = some te33 := by kernel_rfl
@[reducible] def te34 : TE := ⟨.ptr 100, 1, 8, some (.pointer none)⟩
theorem ty34 : teOf Try.prog 34 = some te34 := by kernel_rfl
@[reducible] def te35 : TE := ⟨.other, 1, 8, some (.nilFunc)⟩
theorem ty35 : teOf Try.prog 35 = some te35 := by kernel_rfl
@[reducible] def te36 : TE := ⟨.ptr 102, 1, 8, some (.pointer none)⟩
theorem ty36 : teOf Try.prog 36 = some te36 := by kernel_rfl
@[reducible] def te37 : TE := ⟨.other, 1, 8, some (.nilFunc)⟩
theorem ty37 : teOf Try.prog 37 = some te37 := by kernel_rfl
@[reducible] def te38 : TE := ⟨.other, 1, 8, some (.nilFunc)⟩
theorem ty38 : teOf Try.prog 38 = some te38 := by kernel_rfl
@[reducible] def te39 : TE := ⟨.other, 1, 8, some (.nilFunc)⟩
theorem ty39 : teOf Try.prog 39 = some te39 := by kernel_rfl
@[reducible] def te40 : TE := ⟨.ptr 107, 1, 8, some (.pointer none)⟩
theorem ty40 : teOf Try.prog 40 = some te40 := by kernel_rfl
@[reducible] def te41 : TE := ⟨.other, 1, 8, some (.nilFunc)⟩
theorem ty41 : teOf Try.prog 41 = some te41 := by kernel_rfl
@[reducible] def te42 : TE := ⟨.other, 1, 8, some (.nilFunc)⟩
theorem ty42 : teOf Try.prog 42 = some te42 := by kernel_rfl
@[reducible] def te43 : TE := ⟨.other, 1, 8, some (.nilFunc)⟩
theorem ty43 : teOf Try.prog 43 = some te43 := by kernel_rfl
@[reducible] def te44 : TE := ⟨.other, 1, 8, some (.nilFunc)⟩
theorem ty44 : teOf Try.prog 44 = some te44 := by kernel_rfl
@[reducible] def te45 : TE := ⟨.other, 1, 8, some (.nilFunc)⟩
theorem ty45 : teOf Try.prog 45 = some te45 := by kernel_rfl
@[reducible] def te46 : TE := ⟨.other, 1, 8, some (.nilFunc)⟩
theorem ty46 : teOf Try.prog 46 = some te46 := by kernel_rfl
@[reducible] def te47 : TE := ⟨.ptr 95, 1, 8, some (.pointer none)⟩
theorem ty47 : teOf Try.prog 47 = some te47 := by kernel_rfl
@[reducible] def te48 : TE := ⟨.other, 1, 0, some (.tuple ⟨[.pointer none, .int .i64 0]⟩)⟩
theorem ty48 : teOf Try.prog 48 = some te48 := by kernel_rfl
@[reducible] def te49 : TE := ⟨.other, 1, 8, some (.nilFunc)⟩
theorem ty49 : teOf Try.prog 49 = some te49 := by kernel_rfl
@[reducible] def te50 : TE := ⟨.slice 5, 1, 24, some (.slice none 0 0)⟩
theorem ty50 : teOf Try.prog 50 = some te50 := by kernel_rfl
@[reducible] def te51 : TE := ⟨.st [(50, 0), (3, 1), (3, 2)], 3, 40, some (.agg ⟨[.slice none 0 0, .int .i64 0, .int .i64 0]⟩)⟩
theorem ty51 : teOf Try.prog 51 = some te51 := by kernel_rfl
@[reducible] def te52 : TE := ⟨.st [(50, 0), (3, 1), (3, 2)], 3, 40, some (.agg ⟨[.slice none 0 0, .int .i64 0, .int .i64 0]⟩)⟩
theorem ty52 : teOf Try.prog 52 = some te52 := by kernel_rfl
@[reducible] def te53 : TE := ⟨.other, 1, 8, some (.nilFunc)⟩
theorem ty53 : teOf Try.prog 53 = some te53 := by kernel_rfl
@[reducible] def te54 : TE := ⟨.slice 3, 1, 24, some (.slice none 0 0)⟩
theorem ty54 : teOf Try.prog 54 = some te54 := by kernel_rfl
@[reducible] def te55 : TE := ⟨.other, 1, 8, some (.nilFunc)⟩
theorem ty55 : teOf Try.prog 55 = some te55 := by kernel_rfl
@[reducible] def te56 : TE := ⟨.other, 1, 8, some (.nilFunc)⟩
theorem ty56 : teOf Try.prog 56 = some te56 := by kernel_rfl
@[reducible] def te57 : TE := ⟨.other, 1, 8, some (.nilFunc)⟩
theorem ty57 : teOf Try.prog 57 = some te57 := by kernel_rfl
@[reducible] def te58 : TE := ⟨.other, 1, 0, some (.tuple ⟨[.agg ⟨[.slice none 0 0, .int .i64 0, .int .i64 0]⟩, .slice none 0 0]⟩)⟩
theorem ty58 : teOf Try.prog 58 = some te58 := by kernel_rfl
@[reducible] def te59 : TE := ⟨.other, 1, 8, some (.nilFunc)⟩
theorem ty59 : teOf Try.prog 59 = some te59 := by kernel_rfl
@[reducible] def te60 : TE := ⟨.other, 1, 8, some (.nilFunc)⟩
theorem ty60 : teOf Try.prog 60 = some te60 := by kernel_rfl
@[reducible] def te61 : TE := ⟨.other, 1, 8, some (.nilFunc)⟩
theorem ty61 : teOf Try.prog 61 = some te61 := by kernel_rfl
@[reducible] def te62 : TE := ⟨.other, 1, 8, some (.nilFunc)⟩
theorem ty62 : teOf Try.prog 62 = some te62 := by kernel_rfl
@[reducible] def te63 : TE := ⟨.other, 1, 8, some (.nilFunc)⟩
theorem ty63 : teOf Try.prog 63 = some te63 := by kernel_rfl
@[reducible] def te64 : TE := ⟨.other, 1, 0, some (.tuple ⟨[.slice none 0 0, .int .i64 0]⟩)⟩
theorem ty64 : teOf Try.prog 64 = some te64 := by kernel_rfl
@[reducible] def te65 : TE := ⟨.other, 1, 8, some (.nilFunc)⟩
theorem ty65 : teOf Try.prog 65 = some te65 := by kernel_rfl
@[reducible] def te66 : TE := ⟨.other, 1, 8, some (.nilFunc)⟩
theorem ty66 : teOf Try.prog 66 = some te66 := by kernel_rfl
@[reducible] def te67 : TE := ⟨.other, 1, 8, some (.nilFunc)⟩
theorem ty67 : teOf Try.prog 67 = some te67 := by kernel_rfl
@[reducible] def te68 : TE := ⟨.other, 1, 8, some (.nilFunc)⟩
theorem ty68 : teOf Try.prog 68 = some te68 := by kernel_rfl
@[reducible] def te69 : TE := ⟨.other, 1, 8, some (.nilFunc)⟩
theorem ty69 : teOf Try.prog 69 = some te69 := by kernel_rfl
@[reducible] def te70 : TE := ⟨.int .u16, 1, 2, some (.int .u16 0)⟩
theorem ty70 : teOf Try.prog 70 = some te70 := by kernel_rfl
@[reducible] def te71 : TE := ⟨.other, 1, 8, some (.nilFunc)⟩
theorem ty71 : teOf Try.prog 71 = some te71 := by kernel_rfl
@[reducible] def te72 : TE := ⟨.other, 1, 8, some (.nilFunc)⟩
theorem ty72 : teOf Try.prog 72 = some te72 := by kernel_rfl
@[reducible] def te73 : TE := ⟨.other, 1, 8, some (.nilFunc)⟩
theorem ty73 : teOf Try.prog 73 = some te73 := by kernel_rfl
@[reducible] def te74 : TE := ⟨.other, 1, 8, some (.nilFunc)⟩
theorem ty74 : teOf Try.prog 74 = some te74 := by kernel_rfl
@[reducible] def te75 : TE := ⟨.slice 54, 1, 24, some (.slice none 0 0)⟩
theorem ty75 : teOf Try.prog 75 = some te75 := by kernel_rfl
@[reducible] def te76 : TE := ⟨.st [(75, 0), (5, 1)], 2, 32, some (.agg ⟨[.slice none 0 0, .int .u8 0]⟩)⟩
theorem ty76 : teOf Try.prog 76 = some te76 := by kernel_rfl
@[reducible] def te77 : TE := ⟨.st [(75, 0), (5, 1)], 2, 32, some (.agg ⟨[.slice none 0 0, .int .u8 0]⟩)⟩
theorem ty77 : teOf Try.prog 77 = some te77 := by kernel_rfl
@[reducible] def te78 : TE := ⟨.other, 1, 8, some (.nilFunc)⟩
theorem ty78 : teOf Try.prog 78 = some te78 := by kernel_rfl
@[reducible] def te79 : TE := ⟨.other, 1, 0, some (.tuple ⟨[.agg ⟨[.slice none 0 0, .int .i64 0, .int .i64 0]⟩, .agg ⟨[.slice none 0 0, .int .u8 0]⟩]⟩)⟩
theorem ty79 : teOf Try.prog 79 = some te79 := by kernel_rfl
@[reducible] def te80 : TE := ⟨.other, 1, 8, some (.nilFunc)⟩
theorem ty80 : teOf Try.prog 80 = some te80 := by kernel_rfl
@[reducible] def te81 : TE := ⟨.other, 1, 0, some (.tuple ⟨[.slice none 0 0, .int .i64 0]⟩)⟩
theorem ty81 : teOf Try.prog 81 = some te81 := by kernel_rfl
@[reducible] def te82 : TE := ⟨.other, 1, 8, some (.nilFunc)⟩
theorem ty82 : teOf Try.prog 82 = some te82 := by kernel_rfl
@[reducible] def te83 : TE := ⟨.other, 1, 0, some (.tuple ⟨[.int .i64 0, .string ⟨⟨[]⟩⟩, .int .i64 0]⟩)⟩
theorem ty83 : teOf Try.prog 83 = some te83 := by kernel_rfl
@[reducible] def te84 : TE := ⟨.other, 1, 8, some (.nilFunc)⟩
theorem ty84 : teOf Try.prog 84 = some te84 := by kernel_rfl
@[reducible] def te85 : TE := ⟨.st [(9, 0), (3, 1), (3, 2), (4, 3), (4, 4)], 5, 40, some (.agg ⟨[.string ⟨⟨[]⟩⟩, .int .i64 0, .int .i64 0, .bool false, .bool false]⟩)⟩
theorem ty85 : teOf Try.prog 85 = some te85 := by kernel_rfl
@[reducible] def te86 : TE := ⟨.st [(9, 0), (3, 1), (3, 2), (4, 3), (4, 4)], 5, 40, some (.agg ⟨[.string ⟨⟨[]⟩⟩, .int .i64 0, .int .i64 0, .bool false, .bool false]⟩)⟩
theorem ty86 : teOf Try.prog 86 = some te86 := by kernel_rfl
@[reducible] def te87 : TE := ⟨.other, 1, 8, some (.nilFunc)⟩
theorem ty87 : teOf Try.prog 87 = some te87 := by kernel_rfl
@[reducible] def te88 : TE := ⟨.other, 1, 0, some (.tuple ⟨[.agg ⟨[.string ⟨⟨[]⟩⟩, .int .i64 0, .int .i64 0, .bool false, .bool false]⟩, .agg ⟨[.slice none 0 0, .int .u8 0]⟩, .int .u8 0]⟩)⟩
theorem ty88 : teOf Try.prog 88 = some te88 := by kernel_rfl
@[reducible] def te89 : TE := ⟨.other, 1, 8, some (.nilFunc)⟩
theorem ty89 : teOf Try.prog 89 = some te89 := by kernel_rfl
@[reducible] def te90 : TE := ⟨.other, 1, 8, some (.nilFunc)⟩
theorem ty90 : teOf Try.prog 90 = some te90 := by kernel_rfl
@[reducible] def te91 : TE := ⟨.int .u32, 1, 4, some (.int .u32 0)⟩
theorem ty91 : teOf Try.prog 91 = some te91 := by kernel_rfl
@[reducible] def te92 : TE := ⟨.st [(50, 0), (91, 1), (91, 2)], 3, 32, some (.agg ⟨[.slice none 0 0, .int .u32 0, .int .u32 0]⟩)⟩
theorem ty92 : teOf Try.prog 92 = some te92 := by kernel_rfl
@[reducible] def te93 : TE := ⟨.st [(50, 0), (91, 1), (91, 2)], 3, 32, some (.agg ⟨[.slice none 0 0, .int .u32 0, .int .u32 0]⟩)⟩
theorem ty93 : teOf Try.prog 93 = some te93 := by kernel_rfl
@[reducible] def te94 : TE := ⟨.st [(3, 0), (30, 1)], 2, 32, some (.agg ⟨[.int .i64 0, .slice none 0 0]⟩)⟩
theorem ty94 : teOf Try.prog 94 = some te94 := by kernel_rfl
@[reducible] def te95 : TE := ⟨.st [(3, 0), (30, 1)], 2, 32, some (.agg ⟨[.int .i64 0, .slice none 0 0]⟩)⟩
theorem ty95 : teOf Try.prog 95 = some te95 := by kernel_rfl
@[reducible] def te96 : TE := ⟨.arr 8 95, 16, 256, some (.agg ⟨[.int .i64 0, .slice none 0 0, .int .i64 0, .slice none 0 0, .int .i64 0, .slice none 0 0, .int .i64 0, .slice none 0 0, .int .i64 0, .slice none 0 0, .int .i64 0, .slice none 0 0, .int .i64 0, .slice none 0 0, .int .i64 0, .slice none 0 0]⟩)⟩
theorem ty96 : teOf Try.prog 96 = some te96 := by kernel_rfl
@[reducible] def te97 : TE := ⟨.slice 95, 1, 24, some (.slice none 0 0)⟩
theorem ty97 : teOf Try.prog 97 = some te97 := by kernel_rfl
@[reducible] def te98 : TE := ⟨.other, 1, 8, some (.nilFunc)⟩
theorem ty98 : teOf Try.prog 98 = some te98 := by kernel_rfl
@[reducible] def te99 : TE := ⟨.st [(96, 0), (5, 16)], 17, 264, some (.agg ⟨[.int .i64 0, .slice none 0 0, .int .i64 0, .slice none 0 0, .int .i64 0, .slice none 0 0, .int .i64 0, .slice none 0 0, .int .i64 0, .slice none 0 0, .int .i64 0, .slice none 0 0, .int .i64 0, .slice none 0 0, .int .i64 0, .slice none 0 0, .int .u8 0]⟩)⟩
theorem ty99 : teOf Try.prog 99 = some te99 := by kernel_rfl
@[reducible] def te100 : TE := ⟨.st [(96, 0), (5, 16)], 17, 264, some (.agg ⟨[.int .i64 0, .slice none 0 0, .int .i64 0, .slice none 0 0, .int .i64 0, .slice none 0 0, .int .i64 0, .slice none 0 0, .int .i64 0, .slice none 0 0, .int .i64 0, .slice none 0 0, .int .i64 0, .slice none 0 0, .int .i64 0, .slice none 0 0, .int .u8 0]⟩)⟩
theorem ty100 : teOf Try.prog 100 = some te100 := by kernel_rfl
@[reducible] def te101 : TE := ⟨.st [(95, 0)], 2, 32, some (.agg ⟨[.int .i64 0, .slice none 0 0]⟩)⟩
theorem ty101 : teOf Try.prog 101 = some te101 := by kernel_rfl
@[reducible] def te102 : TE := ⟨.st [(95, 0)], 2, 32, some (.agg ⟨[.int .i64 0, .slice none 0 0]⟩)⟩
theorem ty102 : teOf Try.prog 102 = some te102 := by kernel_rfl
@[reducible] def te103 : TE := ⟨.int .u64, 1, 8, some (.int .u64 0)⟩
theorem ty103 : teOf Try.prog 103 = some te103 := by kernel_rfl
@[reducible] def te104 : TE := ⟨.other, 1, 8, some (.nilFunc)⟩
theorem ty104 : teOf Try.prog 104 = some te104 := by kernel_rfl
@[reducible] def te105 : TE := ⟨.other, 1, 8, some (.nilFunc)⟩
theorem ty105 : teOf Try.prog 105 = some te105 := by kernel_rfl
@[reducible] def te106 : TE := ⟨.st [(9, 0), (91, 1), (91, 2), (4, 3), (4, 4)], 5, 32, some (.agg ⟨[.string ⟨⟨[]⟩⟩, .int .u32 0, .int .u32 0, .bool false, .bool false]⟩)⟩
theorem ty106 : teOf Try.prog 106 = some te106 := by kernel_rfl
@[reducible] def te107 : TE := ⟨.st [(9, 0), (91, 1), (91, 2), (4, 3), (4, 4)], 5, 32, some (.agg ⟨[.string ⟨⟨[]⟩⟩, .int .u32 0, .int .u32 0, .bool false, .bool false]⟩)⟩
theorem ty107 : teOf Try.prog 107 = some te107 := by kernel_rfl
@[reducible] def te108 : TE := ⟨.arr 4 5, 4, 4, some (.agg ⟨[.int .u8 0, .int .u8 0, .int .u8 0, .int .u8 0]⟩)⟩
theorem ty108 : teOf Try.prog 108 = some te108 := by kernel_rfl
@[reducible] def te109 : TE := ⟨.other, 1, 8, some (.nilFunc)⟩
theorem ty109 : teOf Try.prog 109 = some te109 := by kernel_rfl
@[reducible] def te110 : TE := ⟨.other, 1, 8, some (.nilFunc)⟩
theorem ty110 : teOf Try.prog 110 = some te110 := by kernel_rfl
@[reducible] def te111 : TE := ⟨.other, 1, 8, some (.nilFunc)⟩
theorem ty111 : teOf Try.prog 111 = some te111 := by kernel_rfl
@[reducible] def te112 : TE := ⟨.other, 1, 8, some (.nilFunc)⟩
theorem ty112 : teOf Try.prog 112 = some te112 := by kernel_rfl
@[reducible] def te113 : TE := ⟨.other, 1, 0, some (.tuple ⟨[.agg ⟨[.string ⟨⟨[]⟩⟩, .int .i64 0, .int .i64 0, .bool false, .bool false]⟩, .slice none 0 0, .int .i64 0]⟩)⟩
theorem ty113 : teOf Try.prog 113 = some te113 := by kernel_rfl
@[reducible] def te114 : TE := ⟨.other, 1, 8, some (.nilFunc)⟩
theorem ty114 : teOf Try.prog 114 = some te114 := by kernel_rfl
@[reducible] def te115 : TE := ⟨.other, 1, 0, some (.tuple ⟨[.int .u64 0, .int .u64 0]⟩)⟩
theorem ty115 : teOf Try.prog 115 = some te115 := by kernel_rfl
@[reducible] def te116 : TE := ⟨.other, 1, 8, some (.nilFunc)⟩
theorem ty116 : teOf Try.prog 116 = some te116 := by kernel_rfl
@[reducible] def te117 : TE := ⟨.other, 1, 8, some (.nilFunc)⟩
theorem ty117 : teOf Try.prog 117 = some te117 := by kernel_rfl
@[reducible] def te118 : TE := ⟨.ptr 120, 1, 8, some (.pointer none)⟩
theorem ty118 : teOf Try.prog 118 = some te118 := by kernel_rfl
@[reducible] def te119 : TE := ⟨.st [(118, 0), (50, 1)], 2, 32, some (.agg ⟨[.pointer none, .slice none 0 0]⟩)⟩
theorem ty119 : teOf Try.prog 119 = some te119 := by kernel_rfl
@[reducible] def te120 : TE := ⟨.st [(118, 0), (50, 1)], 2, 32, some (.agg ⟨[.pointer none, .slice none 0 0]⟩)⟩
theorem ty120 : teOf Try.prog 120 = some te120 := by kernel_rfl
@[reducible] def te121 : TE := ⟨.other, 1, 8, some (.nilFunc)⟩
theorem ty121 : teOf Try.prog 121 = some te121 := by kernel_rfl
@[reducible] def te122 : TE := ⟨.other, 1, 16, some (.nilIface)⟩
theorem ty122 : teOf Try.prog 122 = some te122 := by kernel_rfl
@[reducible] def te123 : TE := ⟨.other, 1, 16, some (.nilIface)⟩
theorem ty123 : teOf Try.prog 123 = some te123 := by kernel_rfl
@[reducible] def te124 : TE := ⟨.other, 1, 0, some (.tuple ⟨[.int .i64 0, .nilIface]⟩)⟩
theorem ty124 : teOf Try.prog 124 = some te124 := by kernel_rfl
@[reducible] def te125 : TE := ⟨.other, 1, 8, some (.nilFunc)⟩
theorem ty125 : teOf Try.prog 125 = some te125 := by kernel_rfl
@[reducible] def te126 : TE := ⟨.other, 1, 8, some (.nilFunc)⟩
theorem ty126 : teOf Try.prog 126 = some te126 := by kernel_rfl
@[reducible] def te127 : TE := ⟨.other, 1, 16, some (.nilIface)⟩
theorem ty127 : teOf Try.prog 127 = some te127 := by kernel_rfl
@[reducible] def te128 : TE := ⟨.other, 1, 16, some (.nilIface)⟩
theorem ty128 : teOf Try.prog 128 = some te128 := by kernel_rfl
@[reducible] def te129 : TE := ⟨.other, 1, 8, some (.nilFunc)⟩
theorem ty129 : teOf Try.prog 129 = some te129 := by kernel_rfl
@[reducible] def te130 : TE := ⟨.ptr 150, 1, 8, some (.pointer none)⟩
theorem ty130 : teOf Try.prog 130 = some te130 := by kernel_rfl
@[reducible] def te131 : TE := ⟨.other, 1, 8, some (.nilFunc)⟩
theorem ty131 : teOf Try.prog 131 = some te131 := by kernel_rfl
@[reducible] def te132 : TE := ⟨.other, 1, 0, some (.tuple ⟨[.int .i64 0, .int .i64 0]⟩)⟩
theorem ty132 : teOf Try.prog 132 = some te132 := by kernel_rfl
@[reducible] def te133 : TE := ⟨.other, 1, 8, some (.nilFunc)⟩
theorem ty133 : teOf Try.prog 133 = some te133 := by kernel_rfl
@[reducible] def te134 : TE := ⟨.other, 1, 8, some (.nilFunc)⟩
theorem ty134 : teOf Try.prog 134 = some te134 := by kernel_rfl
@[reducible] def te135 : TE := ⟨.other, 1, 8, some (.nilFunc)⟩
theorem ty135 : teOf Try.prog 135 = some te135 := by kernel_rfl
@[reducible] def te136 : TE := ⟨.other, 1, 8, some (.nilFunc)⟩
theorem ty136 : teOf Try.prog 136 = some te136 := by kernel_rfl
@[reducible] def te137 : TE := ⟨.int .u64, 1, 8, some (.int .u64 0)⟩
theorem ty137 : teOf Try.prog 137 = some te137 := by kernel_rfl
@[reducible] def te138 : TE := ⟨.other, 1, 8, some (.nilFunc)⟩
theorem ty138 : teOf Try.prog 138 = some te138 := by kernel_rfl
@[reducible] def te139 : TE := ⟨.other, 1, 8, some (.nilFunc)⟩
theorem ty139 : teOf Try.prog 139 = some te139 := by kernel_rfl
@[reducible] def te140 : TE := ⟨.other, 1, 16, some (.nilIface)⟩
theorem ty140 : teOf Try.prog 140 = some te140 := by kernel_rfl
@[reducible] def te141 : TE := ⟨.other, 1, 16, some (.nilIface)⟩
theorem ty141 : teOf Try.prog 141 = some te141 := by kernel_rfl
@[reducible] def te142 : TE := ⟨.other, 1, 0, some (.tuple ⟨[.agg ⟨[.string ⟨⟨[]⟩⟩, .int .i64 0, .int .i64 0, .bool false, .bool false]⟩, .int .i64 0]⟩)⟩
theorem ty142 : teOf Try.prog 142 = some te142 := by kernel_rfl
@[reducible] def te143 : TE := ⟨.other, 1, 8, some (.nilFunc)⟩
theorem ty143 : teOf Try.prog 143 = some te143 := by kernel_rfl
@[reducible] def te144 : TE := ⟨.other, 1, 0, some (.tuple ⟨[.int .u32 0, .int .u32 0]⟩)⟩
theorem ty144 : teOf Try.prog 144 = some te144 := by kernel_rfl
@[reducible] def te145 : TE := ⟨.other, 1, 8, some (.nilFunc)⟩
theorem ty145 : teOf Try.prog 145 = some te145 := by kernel_rfl
@[reducible] def te146 : TE := ⟨.other, 1, 0, some (.tuple ⟨[.int .u64 0, .int .u64 0]⟩)⟩
theorem ty146 : teOf Try.prog 146 = some te146 := by kernel_rfl
@[reducible] def te147 : TE := ⟨.other, 1, 8, some (.nilFunc)⟩
theorem ty147 : teOf Try.prog 147 = some te147 := by kernel_rfl
@[reducible] def te148 : TE := ⟨.ptr 5, 1, 8, some (.pointer none)⟩
theorem ty148 : teOf Try.prog 148 = some te148 := by kernel_rfl
@[reducible] def te149 : TE := ⟨.st [(9, 0), (25, 1)], 2, 24, some (.agg ⟨[.string ⟨⟨[]⟩⟩, .int .i64 0]⟩)⟩
theorem ty149 : teOf Try.prog 149 = some te149 := by kernel_rfl
@[reducible] def te150 : TE := ⟨.st [(9, 0), (25, 1)], 2, 24, some (.agg ⟨[.string ⟨⟨[]⟩⟩, .int .i64 0]⟩)⟩
theorem ty150 : teOf Try.prog 150 = some te150 := by kernel_rfl
@[reducible] def te151 : TE := ⟨.other, 1, 8, some (.nilFunc)⟩
theorem ty151 : teOf Try.prog 151 = some te151 := by kernel_rfl
@[reducible] def te152 : TE := ⟨.other, 1, 8, some (.nilFunc)⟩
theorem ty152 : teOf Try.prog 152 = some te152 := by kernel_rfl
@[reducible] def te153 : TE := ⟨.other, 1, 8, some (.pointer none)⟩
theorem ty153 : teOf Try.prog 153 = some te153 := by kernel_rfl
@[reducible] def te154 : TE := ⟨.other, 1, 8, some (.nilFunc)⟩
theorem ty154 : teOf Try.prog 154 = some te154 := by kernel_rfl
@[reducible] def te155 : TE := ⟨.other, 1, 8, some (.nilFunc)⟩
theorem ty155 : teOf Try.prog 155 = some te155 := by kernel_rfl
@[reducible] def te156 : TE := ⟨.other, 1, 0, some (.tuple ⟨[.int .i64 0, .int .i64 0, .bool false]⟩)⟩
theorem ty156 : teOf Try.prog 156 = some te156 := by kernel_rfl
@[reducible] def te157 : TE := ⟨.other, 1, 8, some (.nilFunc)⟩
theorem ty157 : teOf Try.prog 157 = some te157 := by kernel_rfl
@[reducible] def te158 : TE := ⟨.st [(17, 0), (17, 1), (17, 2), (9, 3)], 4, 40, some (.agg ⟨[.pointer none, .pointer none, .pointer none, .string ⟨⟨[]⟩⟩]⟩)⟩
theorem ty158 : teOf Try.prog 158 = some te158 := by kernel_rfl
@[reducible] def te159 : TE := ⟨.st [(17, 0), (17, 1), (17, 2), (9, 3)], 4, 40, some (.agg ⟨[.pointer none, .pointer none, .pointer none, .string ⟨⟨[]⟩⟩]⟩)⟩
theorem ty159 : teOf Try.prog 159 = some te159 := by kernel_rfl
@[reducible] def te160 : TE := ⟨.arr 0 16, 0, 0, some (.agg ⟨[]⟩)⟩
theorem ty160 : teOf Try.prog 160 = some te160 := by kernel_rfl
@[reducible] def te161 : TE := ⟨.st [(160, 0)], 0, 0, some (.agg ⟨[]⟩)⟩
theorem ty161 : teOf Try.prog 161 = some te161 := by kernel_rfl
@[reducible] def te162 : TE := ⟨.st [(160, 0)], 0, 0, some (.agg ⟨[]⟩)⟩
theorem ty162 : teOf Try.prog 162 = some te162 := by kernel_rfl
@[reducible] def te163 : TE := ⟨.int .u8, 1, 1, some (.int .u8 0)⟩
theorem ty163 : teOf Try.prog 163 = some te163 := by kernel_rfl
@[reducible] def te164 : TE := ⟨.int .u8, 1, 1, some (.int .u8 0)⟩
theorem ty164 : teOf Try.prog 164 = some te164 := by kernel_rfl
@[reducible] def te165 : TE := ⟨.other, 1, 8, some (.nilFunc)⟩
theorem ty165 : teOf Try.prog 165 = some te165 := by kernel_rfl
@[reducible] def te166 : TE := ⟨.int .i32, 1, 4, some (.int .i32 0)⟩
theorem ty166 : teOf Try.prog 166 = some te166 := by kernel_rfl
@[reducible] def te167 : TE := ⟨.int .i32, 1, 4, some (.int .i32 0)⟩
theorem ty167 : teOf Try.prog 167 = some te167 := by kernel_rfl
@[reducible] def te168 : TE := ⟨.st [(12, 0), (12, 1), (91, 2), (163, 3), (5, 4), (5, 5), (164, 6), (165, 7), (148, 8), (166, 9), (167, 10)], 11, 48, some (.agg ⟨[.int .u64 0, .int .u64 0, .int .u32 0, .int .u8 0, .int .u8 0, .int .u8 0, .int .u8 0, .nilFunc, .pointer none, .int .i32 0, .int .i32 0]⟩)⟩
theorem ty168 : teOf Try.prog 168 = some te168 := by kernel_rfl
@[reducible] def te169 : TE := ⟨.st [(12, 0), (12, 1), (91, 2), (163, 3), (5, 4), (5, 5), (164, 6), (165, 7), (148, 8), (166, 9), (167, 10)], 11, 48, some (.agg ⟨[.int .u64 0, .int .u64 0, .int .u32 0, .int .u8 0, .int .u8 0, .int .u8 0, .int .u8 0, .nilFunc, .pointer none, .int .i32 0, .int .i32 0]⟩)⟩
theorem ty169 : teOf Try.prog 169 = some te169 := by kernel_rfl
def tyT : TT := (.node (.node (.node (.node (.node (.node (.node (.node .leaf 0 te0 .leaf) 1 te1 .leaf) 2 te2 (.node (.node .leaf 3 te3 .leaf) 4 te4 .leaf)) 5 te5 (.node (.node (.node .leaf 6 te6 .leaf) 7 te7 .leaf) 8 te8 (.node .leaf 9 te9 .leaf))) 10 te10 (.node (.node (.node (.node .leaf 11 te11 .leaf) 12 te12 .leaf) 13 te13 (.node (.node .leaf 14 te14 .leaf) 15 te15 .leaf)) 16 te16 (.node (.node (.node .leaf 17 te17 .leaf) 18 te18 .leaf) 19 te19 (.node .leaf 20 te20 .leaf)))) 21 te21 (.node (.node (.node (.node (.node .leaf 22 te22 .leaf) 23 te23 .leaf) 24 te24 (.node (.node .leaf 25 te25 .leaf) 26 te26 .leaf)) 27 te27 (.node (.node (.node .leaf 28 te28 .leaf) 29 te29 .leaf) 30 te30 (.node .leaf 31 te31 .leaf))) 32 te32 (.node (.node (.node (.node .leaf 33 te33 .leaf) 34 te34 .leaf) 35 te35 (.node .leaf 36 te36 .leaf)) 37 te37 (.node (.node (.node .leaf 38 te38 .leaf) 39 te39 .leaf) 40 te40 (.node .leaf 41 te41 .leaf))))) 42 te42 (.node (.node (.node (.node (.node (.node .leaf 43 te43 .leaf) 44 te44 .leaf) 45 te45 (.node (.node .leaf 46 te46 .leaf) 47 te47 .leaf)) 48 te48 (.node (.node (.node .leaf 49 te49 .leaf) 50 te50 .leaf) 51 te51 (.node .leaf 52 te52 .leaf))) 53 te53 (.node (.node (.node (.node .leaf 54 te54 .leaf) 55 te55 .leaf) 56 te56 (.node (.node .leaf 57 te57 .leaf) 58 te58 .leaf)) 59 te59 (.node (.node (.node .leaf 60 te60 .leaf) 61 te61 .leaf) 62 te62 (.node .leaf 63 te63 .leaf)))) 64 te64 (.node (.node (.node (.node (.node .leaf 65 te65 .leaf) 66 te66 .leaf) 67 te67 (.node (.node .leaf 68 te68 .leaf) 69 te69 .leaf)) 70 te70 (.node (.node (.node .leaf 71 te71 .leaf) 72 te72 .leaf) 73 te73 (.node .leaf 74 te74 .leaf))) 75 te75 (.node (.node (.node (.node .leaf 76 te76 .leaf) 77 te77 .leaf) 78 te78 (.node .leaf 79 te79 .leaf)) 80 te80 (.node (.node (.node .leaf 81 te81 .leaf) 82 te82 .leaf) 83 te83 (.node .leaf 84 te84 .leaf)))))) 85 te85 (.node (.node (.node (.node (.node (.node (.node .leaf 86 te86 .leaf) 87 te87 .leaf) 88 te88 (.node (.node .leaf 89 te89 .leaf) 90 te90 .leaf)) 91 te91 (.node (.node (.node .leaf 92 te92 .leaf) 93 te93 .leaf) 94 te94 (.node .leaf 95 te95 .leaf))) 96 te96 (.node (.node (.node (.node .leaf 97 te97 .leaf) 98 te98 .leaf) 99 te99 (.node (.node .leaf 100 te100 .leaf) 101 te101 .leaf)) 102 te102 (.node (.node (.node .leaf 103 te103 .leaf) 104 te104 .leaf) 105 te105 (.node .leaf 106 te106 .leaf)))) 107 te107 (.node (.node (.node (.node (.node .leaf 108 te108 .leaf) 109 te109 .leaf) 110 te110 (.node (.node .leaf 111 te111 .leaf) 112 te112 .leaf)) 113 te113 (.node (.node (.node .leaf 114 te114 .leaf) 115 te115 .leaf) 116 te116 (.node .leaf 117 te117 .leaf))) 118 te118 (.node (.node (.node (.node .leaf 119 te119 .leaf) 120 te120 .leaf) 121 te121 (.node .leaf 122 te122 .leaf)) 123 te123 (.node (.node (.node .leaf 124 te124 .leaf) 125 te125 .leaf) 126 te126 (.node .leaf 127 te127 .leaf))))) 128 te128 (.node (.node (.node (.node (.node (.node .leaf 129 te129 .leaf) 130 te130 .leaf) 131 te131 (.node (.node .leaf 132 te132 .leaf) 133 te133 .leaf)) 134 te134 (.node (.node (.node .leaf 135 te135 .leaf) 136 te136 .leaf) 137 te137 (.node .leaf 138 te138 .leaf))) 139 te139 (.node (.node (.node (.node .leaf 140 te140 .leaf) 141 te141 .leaf) 142 te142 (.node .leaf 143 te143 .leaf)) 144 te144 (.node (.node (.node .leaf 145 te145 .leaf) 146 te146 .leaf) 147 te147 (.node .leaf 148 te148 .leaf)))) 149 te149 (.node (.node (.node (.node (.node .leaf 150 te150 .leaf) 151 te151 .leaf) 152 te152 (.node (.node .leaf 153 te153 .leaf) 154 te154 .leaf)) 155 te155 (.node (.node (.node .leaf 156 te156 .leaf) 157 te157 .leaf) 158 te158 (.node .leaf 159 te159 .leaf))) 160 te160 (.node (.node (.node (.node .leaf 161 te161 .leaf) 162 te162 .leaf) 163 te163 (.node .leaf 164 te164 .leaf)) 165 te165 (.node (.node (.node .leaf 166 te166 .leaf) 167 te167 .leaf) 168 te168 (.node .leaf 169 te169 .leaf)))))))
theorem tyOk : tyT.Ok Try.prog := ⟨⟨⟨⟨⟨⟨⟨⟨trivial, ty0, trivial⟩, ty1, trivial⟩, ty2, ⟨⟨trivial, ty3, trivial⟩, ty4, trivial⟩⟩, ty5, ⟨⟨⟨trivial, ty6, trivial⟩, ty7, trivial⟩, ty8, ⟨trivial, ty9, trivial⟩⟩⟩, ty10, ⟨⟨⟨⟨trivial, ty11, trivial⟩, ty12, trivial⟩, ty13, ⟨⟨trivial, ty14, trivial⟩, ty15, trivial⟩⟩, ty16, ⟨⟨⟨trivial, ty17, trivial⟩, ty18, trivial⟩, ty19, ⟨trivial, ty20, trivial⟩⟩⟩⟩, ty21, ⟨⟨⟨⟨⟨trivial, ty22, trivial⟩, ty23, trivial⟩, ty24, ⟨⟨trivial, ty25, trivial⟩, ty26, trivial⟩⟩, ty27, ⟨⟨⟨trivial, ty28, trivial⟩, ty29, trivial⟩, ty30, ⟨trivial, ty31, trivial⟩⟩⟩, ty32, ⟨⟨⟨⟨trivial, ty33, trivial⟩, ty34, trivial⟩, ty35, ⟨trivial, ty36, trivial⟩⟩, ty37, ⟨⟨⟨trivial, ty38, trivial⟩, ty39, trivial⟩, ty40, ⟨trivial, ty41, trivial⟩⟩⟩⟩⟩, ty42, ⟨⟨⟨⟨⟨⟨trivial, ty43, trivial⟩, ty44, trivial⟩, ty45, ⟨⟨trivial, ty46, trivial⟩, ty47, trivial⟩⟩, ty48, ⟨⟨⟨trivial, ty49, trivial⟩, ty50, trivial⟩, ty51, ⟨trivial, ty52, trivial⟩⟩⟩, ty53, ⟨⟨⟨⟨trivial, ty54, trivial⟩, ty55, trivial⟩, ty56, ⟨⟨trivial, ty57, trivial⟩, ty58, trivial⟩⟩, ty59, ⟨⟨⟨trivial, ty60, trivial⟩, ty61, trivial⟩, ty62, ⟨trivial, ty63, trivial⟩⟩⟩⟩, ty64, ⟨⟨⟨⟨⟨trivial, ty65, trivial⟩, ty66, trivial⟩, ty67, ⟨⟨trivial, ty68, trivial⟩, ty69, trivial⟩⟩, ty70, ⟨⟨⟨trivial, ty71, trivial⟩, ty72, trivial⟩, ty73, ⟨trivial, ty74, trivial⟩⟩⟩, ty75, ⟨⟨⟨⟨trivial, ty76, trivial⟩, ty77, trivial⟩, ty78, ⟨trivial, ty79, trivial⟩⟩, ty80, ⟨⟨⟨trivial, ty81, trivial⟩, ty82, trivial⟩, ty83, ⟨trivial, ty84, trivial⟩⟩⟩⟩⟩⟩, ty85, ⟨⟨⟨⟨⟨⟨⟨trivial, ty86, trivial⟩, ty87, trivial⟩, ty88, ⟨⟨trivial, ty89, trivial⟩, ty90, trivial⟩⟩, ty91, ⟨⟨⟨trivial, ty92, trivial⟩, ty93, trivial⟩, ty94, ⟨trivial, ty95, trivial⟩⟩⟩, ty96, ⟨⟨⟨⟨trivial, ty97, trivial⟩, ty98, trivial⟩, ty99, ⟨⟨trivial, ty100, trivial⟩, ty101, trivial⟩⟩, ty102, ⟨⟨⟨trivial, ty103, trivial⟩, ty104, trivial⟩, ty105, ⟨trivial, ty106, trivial⟩⟩⟩⟩, ty107, ⟨⟨⟨⟨⟨trivial, ty108, trivial⟩, ty109, trivial⟩, ty110, ⟨⟨trivial, ty111, trivial⟩, ty112, trivial⟩⟩, ty113, ⟨⟨⟨trivial, ty114, trivial⟩, ty115, trivial⟩, ty116, ⟨trivial, ty117, trivial⟩⟩⟩, ty118, ⟨⟨⟨⟨trivial, ty119, trivial⟩, ty120, trivial⟩, ty121, ⟨trivial, ty122, trivial⟩⟩, ty123, ⟨⟨⟨trivial, ty124, trivial⟩, ty125, trivial⟩, ty126, ⟨trivial, ty127, trivial⟩⟩⟩⟩⟩, ty128, ⟨⟨⟨⟨⟨⟨trivial, ty129, trivial⟩, ty130, trivial⟩, ty131, ⟨⟨trivial, ty132, trivial⟩, ty133, trivial⟩⟩, ty134, ⟨⟨⟨trivial, ty135, trivial⟩, ty136, trivial⟩, ty137, ⟨trivial, ty138, trivial⟩⟩⟩, ty139, ⟨⟨⟨⟨trivial, ty140, trivial⟩, ty141, trivial⟩, ty142, ⟨trivial, ty143, trivial⟩⟩, ty144, ⟨⟨⟨trivial, ty145, trivial⟩, ty146, trivial⟩, ty147, ⟨trivial, ty148, trivial⟩⟩⟩⟩, ty149, ⟨⟨⟨⟨⟨trivial, ty150, trivial⟩, ty151, trivial⟩, ty152, ⟨⟨trivial, ty153, trivial⟩, ty154, trivial⟩⟩, ty155, ⟨⟨⟨trivial, ty156, trivial⟩, ty157, trivial⟩, ty158, ⟨trivial, ty159, trivial⟩⟩⟩, ty160, ⟨⟨⟨⟨trivial, ty161, trivial⟩, ty162, trivial⟩, ty163, ⟨trivial, ty164, trivial⟩⟩, ty165, ⟨⟨⟨trivial, ty166, trivial⟩, ty167, trivial⟩, ty168, ⟨trivial, ty169, trivial⟩⟩⟩⟩⟩⟩⟩
theorem pl7 : placesOf Try.prog 7 = some [(0, 1), (1, 1), (2, 1), (3, 1)] := by kernel_rfl
theorem pl8 : placesOf Try.prog 8 = some [(0, 1), (1, 1), (2, 1), (3, 1)] := by kernel_rfl
theorem pl13 : placesOf Try.prog 13 = some [(0, 1), (1, 1)] := by kernel_rfl
theorem pl14 : placesOf Try.prog 14 = some [(0, 1), (1, 1)] := by kernel_rfl
theorem pl18 : placesOf Try.prog 18 = some [(0, 1)] := by kernel_rfl
theorem pl19 : placesOf Try.prog 19 = some [(0, 1)] := by kernel_rfl
theorem pl51 : placesOf Try.prog 51 = some [(0, 1), (1, 1), (2, 1)] := by kernel_rfl
theorem pl52 : placesOf Try.prog 52 = some [(0, 1), (1, 1), (2, 1)] := by kernel_rfl
theorem pl76 : placesOf Try.prog 76 = some [(0, 1), (1, 1)] := by kernel_rfl
theorem pl77 : placesOf Try.prog 77 = some [(0, 1), (1, 1)] := by kernel_rfl
theorem pl85 : placesOf Try.prog 85 = some [(0, 1), (1, 1), (2, 1), (3, 1), (4, 1)] := by kernel_rfl
theorem pl86 : placesOf Try.prog 86 = some [(0, 1), (1, 1), (2, 1), (3, 1), (4, 1)] := by kernel_rfl
theorem pl92 : placesOf Try.prog 92 = some [(0, 1), (1, 1), (2, 1)] := by kernel_rfl
theorem pl93 : placesOf Try.prog 93 = some [(0, 1), (1, 1), (2, 1)] := by kernel_rfl
theorem pl94 : placesOf Try.prog 94 = some [(0, 1), (1, 1)] := by kernel_rfl
theorem pl95 : placesOf Try.prog 95 = some [(0, 1), (1, 1)] := by kernel_rfl
theorem pl99 : placesOf Try.prog 99 = some [(0, 16), (16, 1)] := by kernel_rfl
theorem pl100 : placesOf Try.prog 100 = some [(0, 16), (16, 1)] := by kernel_rfl
theorem pl101 : placesOf Try.prog 101 = some [(0, 2)] := by kernel_rfl
theorem pl102 : placesOf Try.prog 102 = some [(0, 2)] := by kernel_rfl
theorem pl106 : placesOf Try.prog 106 = some [(0, 1), (1, 1), (2, 1), (3, 1), (4, 1)] := by kernel_rfl
theorem pl107 : placesOf Try.prog 107 = some [(0, 1), (1, 1), (2, 1), (3, 1), (4, 1)] := by kernel_rfl
theorem pl119 : placesOf Try.prog 119 = some [(0, 1), (1, 1)] := by kernel_rfl
theorem pl120 : placesOf Try.prog 120 = some [(0, 1), (1, 1)] := by kernel_rfl
theorem pl149 : placesOf Try.prog 149 = some [(0, 1), (1, 1)] := by kernel_rfl
theorem pl150 : placesOf Try.prog 150 = some [(0, 1), (1, 1)] := by kernel_rfl
theorem pl158 : placesOf Try.prog 158 = some [(0, 1), (1, 1), (2, 1), (3, 1)] := by kernel_rfl
theorem pl159 : placesOf Try.prog 159 = some [(0, 1), (1, 1), (2, 1), (3, 1)] := by kernel_rfl
theorem pl161 : placesOf Try.prog 161 = some [(0, 0)] := by kernel_rfl
theorem pl162 : placesOf Try.prog 162 = some [(0, 0)] := by kernel_rfl
theorem pl168 : placesOf Try.prog 168 = some [(0, 1), (1, 1), (2, 1), (3, 1), (4, 1), (5, 1), (6, 1), (7, 1), (8, 1), (9, 1), (10, 1)] := by kernel_rfl
theorem pl169 : placesOf Try.prog 169 = some [(0, 1), (1, 1), (2, 1), (3, 1), (4, 1), (5, 1), (6, 1), (7, 1), (8, 1), (9, 1), (10, 1)] := by kernel_rfl
end Go.Proofs.Ytinfmojbdaiogaa
