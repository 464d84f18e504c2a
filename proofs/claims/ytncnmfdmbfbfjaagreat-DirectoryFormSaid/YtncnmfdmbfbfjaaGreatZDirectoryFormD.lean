/- Part 4 of the proof of the law DirectoryForm: texts merged. No condition. -/
import Derived.Test.YtncnmfdmbfbfjaaGreatZDirectoryFormC
import Derived.Test.YtncnmfdmbfbfjaaGreatProg
import Derived.KernelRfl
import Derived.Shelf.SlSortCmp.WholeK
import Derived.Shelf.Small.Bits
import Derived.Shelf.Strconv.Itoa0
import Derived.Ground.SlgcProg
import Derived.Shelf.SlicesG.Cmp
import Derived.Shelf.SlGeneric
import Derived.Ground.SlsfProg
import Derived.WalkKit
section
namespace Go.Proofs.YtncnmfdmbfbfjaaGreat
open Go.Gh
@[reducible] def te0 : TE := ⟨.other, 1, 0, some (.tuple ⟨[]⟩)⟩
theorem ty0 : teOf Tryz.prog 0 = some te0 := by kernel_rfl
@[reducible] def te1 : TE := ⟨.other, 1, 8, some (.nilFunc)⟩
theorem ty1 : teOf Tryz.prog 1 = some te1 := by kernel_rfl
@[reducible] def te2 : TE := ⟨.int .i64, 1, 8, some (.int .i64 0)⟩
theorem ty2 : teOf Tryz.prog 2 = some te2 := by kernel_rfl
@[reducible] def te3 : TE := ⟨.int .i64, 1, 8, some (.int .i64 0)⟩
theorem ty3 : teOf Tryz.prog 3 = some te3 := by kernel_rfl
@[reducible] def te4 : TE := ⟨.bool, 1, 1, some (.bool false)⟩
theorem ty4 : teOf Tryz.prog 4 = some te4 := by kernel_rfl
@[reducible] def te5 : TE := ⟨.int .u8, 1, 1, some (.int .u8 0)⟩
theorem ty5 : teOf Tryz.prog 5 = some te5 := by kernel_rfl
@[reducible] def te6 : TE := ⟨.int .u8, 1, 1, some (.int .u8 0)⟩
theorem ty6 : teOf Tryz.prog 6 = some te6 := by kernel_rfl
@[reducible] def te7 : TE := ⟨.st [(2, 0), (3, 1), (4, 2), (6, 3)], 4, 24, some (.agg ⟨[.int .i64 0, .int .i64 0, .bool false, .int .u8 0]⟩)⟩
theorem ty7 : teOf Tryz.prog 7 = some te7 := by kernel_rfl
@[reducible] def te8 : TE := ⟨.st [(2, 0), (3, 1), (4, 2), (6, 3)], 4, 24, some (.agg ⟨[.int .i64 0, .int .i64 0, .bool false, .int .u8 0]⟩)⟩
theorem ty8 : teOf Tryz.prog 8 = some te8 := by kernel_rfl
@[reducible] def te9 : TE := ⟨.str, 1, 16, some (.string ⟨⟨[]⟩⟩)⟩
theorem ty9 : teOf Tryz.prog 9 = some te9 := by kernel_rfl
@[reducible] def te10 : TE := ⟨.str, 1, 16, some (.string ⟨⟨[]⟩⟩)⟩
theorem ty10 : teOf Tryz.prog 10 = some te10 := by kernel_rfl
@[reducible] def te11 : TE := ⟨.str, 1, 16, some (.string ⟨⟨[]⟩⟩)⟩
theorem ty11 : teOf Tryz.prog 11 = some te11 := by kernel_rfl
@[reducible] def te12 : TE := ⟨.int .u64, 1, 8, some (.int .u64 0)⟩
theorem ty12 : teOf Tryz.prog 12 = some te12 := by kernel_rfl
@[reducible] def te13 : TE := ⟨.st [(9, 0), (12, 1)], 2, 24, some (.agg ⟨[.string ⟨⟨[]⟩⟩, .int .u64 0]⟩)⟩
theorem ty13 : teOf Tryz.prog 13 = some te13 := by kernel_rfl
@[reducible] def te14 : TE := ⟨.st [(9, 0), (12, 1)], 2, 24, some (.agg ⟨[.string ⟨⟨[]⟩⟩, .int .u64 0]⟩)⟩
theorem ty14 : teOf Tryz.prog 14 = some te14 := by kernel_rfl
@[reducible] def te15 : TE := ⟨.ptr 182, 1, 8, some (.pointer none)⟩
theorem ty15 : teOf Tryz.prog 15 = some te15 := by kernel_rfl
@[reducible] def te16 : TE := ⟨.ptr 185, 1, 8, some (.pointer none)⟩
theorem ty16 : teOf Tryz.prog 16 = some te16 := by kernel_rfl
@[reducible] def te17 : TE := ⟨.ptr 193, 1, 8, some (.pointer none)⟩
theorem ty17 : teOf Tryz.prog 17 = some te17 := by kernel_rfl
@[reducible] def te18 : TE := ⟨.st [(17, 0)], 1, 8, some (.agg ⟨[.pointer none]⟩)⟩
theorem ty18 : teOf Tryz.prog 18 = some te18 := by kernel_rfl
@[reducible] def te19 : TE := ⟨.st [(17, 0)], 1, 8, some (.agg ⟨[.pointer none]⟩)⟩
theorem ty19 : teOf Tryz.prog 19 = some te19 := by kernel_rfl
@[reducible] def te20 : TE := ⟨.other, 1, 16, some (.nilIface)⟩
theorem ty20 : teOf Tryz.prog 20 = some te20 := by kernel_rfl
@[reducible] def te21 : TE := ⟨.int .i32, 1, 4, some (.int .i32 0)⟩
theorem ty21 : teOf Tryz.prog 21 = some te21 := by kernel_rfl
@[reducible] def te22 : TE := ⟨.st [(3, 0), (3, 1), (3, 2)], 3, 24, some (.agg ⟨[.int .i64 0, .int .i64 0, .int .i64 0]⟩)⟩
theorem ty22 : teOf Tryz.prog 22 = some te22 := by kernel_rfl
@[reducible] def te23 : TE := ⟨.st [(3, 0), (3, 1), (3, 2)], 3, 24, some (.agg ⟨[.int .i64 0, .int .i64 0, .int .i64 0]⟩)⟩
theorem ty23 : teOf Tryz.prog 23 = some te23 := by kernel_rfl
@[reducible] def te24 : TE := ⟨.slice 48, 1, 24, some (.slice none 0 0)⟩
theorem ty24 : teOf Tryz.prog 24 = some te24 := by kernel_rfl
@[reducible] def te25 : TE := ⟨.st [(23, 0), (24, 3)], 4, 48, some (.agg ⟨[.int .i64 0, .int .i64 0, .int .i64 0, .slice none 0 0]⟩)⟩
theorem ty25 : teOf Tryz.prog 25 = some te25 := by kernel_rfl
@[reducible] def te26 : TE := ⟨.st [(23, 0), (24, 3)], 4, 48, some (.agg ⟨[.int .i64 0, .int .i64 0, .int .i64 0, .slice none 0 0]⟩)⟩
theorem ty26 : teOf Tryz.prog 26 = some te26 := by kernel_rfl
@[reducible] def te27 : TE := ⟨.other, 1, 8, some (.nilFunc)⟩
theorem ty27 : teOf Tryz.prog 27 = some te27 := by kernel_rfl
@[reducible] def te28 : TE := ⟨.other, 1, 8, some (.nilFunc)⟩
theorem ty28 : teOf Tryz.prog 28 = some te28 := by kernel_rfl
@[reducible] def te29 : TE := ⟨.int .i64, 1, 8, some (.int .i64 0)⟩
theorem ty29 : teOf Tryz.prog 29 = some te29 := by kernel_rfl
@[reducible] def te30 : TE := ⟨.other, 1, 0, some (.tuple ⟨[.string ⟨⟨[]⟩⟩, .int .i64 0]⟩)⟩
theorem ty30 : teOf Tryz.prog 30 = some te30 := by kernel_rfl
@[reducible] def te31 : TE := ⟨.other, 1, 8, some (.nilFunc)⟩
theorem ty31 : teOf Tryz.prog 31 = some te31 := by kernel_rfl
@[reducible] def te32 : TE := ⟨.other, 1, 8, some (.nilFunc)⟩
theorem ty32 : teOf Tryz.prog 32 = some te32 := by kernel_rfl
@[reducible] def te33 : TE := ⟨.slice 53, 1, 24, some (.slice none 0 0)⟩
theorem ty33 : teOf Tryz.prog 33 = some te33 := by kernel_rfl
@[reducible] def te34 : TE := ⟨.other, 1, 8, some (.nilFunc)⟩
theorem ty34 : teOf Tryz.prog 34 = some te34 := by kernel_rfl
@[reducible] def te35 : TE := ⟨.other, 1, 8, some (.nilFunc)⟩
theorem ty35 : teOf Tryz.prog 35 = some te35 := by kernel_rfl
@[reducible] def te36 : TE := ⟨.other, 1, 8, some (.nilFunc)⟩
theorem ty36 : teOf Tryz.prog 36 = some te36 := by kernel_rfl
@[reducible] def te37 : TE := ⟨.st [(3, 0), (9, 1)], 2, 24, some (.agg ⟨[.int .i64 0, .string ⟨⟨[]⟩⟩]⟩)⟩
theorem ty37 : teOf Tryz.prog 37 = some te37 := by kernel_rfl
@[reducible] def te38 : TE := ⟨.st [(3, 0), (9, 1)], 2, 24, some (.agg ⟨[.int .i64 0, .string ⟨⟨[]⟩⟩]⟩)⟩
theorem ty38 : teOf Tryz.prog 38 = some te38 := by kernel_rfl
@[reducible] def te39 : TE := ⟨.other, 1, 0, some (.tuple ⟨[.agg ⟨[.int .i64 0, .int .i64 0, .int .i64 0, .slice none 0 0]⟩, .int .i64 0]⟩)⟩
theorem ty39 : teOf Tryz.prog 39 = some te39 := by kernel_rfl
@[reducible] def te40 : TE := ⟨.other, 1, 8, some (.nilFunc)⟩
theorem ty40 : teOf Tryz.prog 40 = some te40 := by kernel_rfl
@[reducible] def te41 : TE := ⟨.other, 1, 8, some (.nilFunc)⟩
theorem ty41 : teOf Tryz.prog 41 = some te41 := by kernel_rfl
@[reducible] def te42 : TE := ⟨.other, 1, 8, some (.nilFunc)⟩
theorem ty42 : teOf Tryz.prog 42 = some te42 := by kernel_rfl
@[reducible] def te43 : TE := ⟨.other, 1, 0, some (.tuple ⟨[.int .i64 0, .bool false]⟩)⟩
theorem ty43 : teOf Tryz.prog 43 = some te43 := by kernel_rfl
@[reducible] def te44 : TE := ⟨.other, 1, 8, some (.nilFunc)⟩
theorem ty44 : teOf Tryz.prog 44 = some te44 := by kernel_rfl
@[reducible] def te45 : TE := ⟨.other, 1, 8, some (.nilFunc)⟩
theorem ty45 : teOf Tryz.prog 45 = some te45 := by kernel_rfl
@[reducible] def te46 : TE := ⟨.other, 1, 8, some (.nilFunc)⟩
theorem ty46 : teOf Tryz.prog 46 = some te46 := by kernel_rfl
@[reducible] def te47 : TE := ⟨.st [(3, 0), (3, 1), (3, 2), (3, 3), (23, 4)], 7, 56, some (.agg ⟨[.int .i64 0, .int .i64 0, .int .i64 0, .int .i64 0, .int .i64 0, .int .i64 0, .int .i64 0]⟩)⟩
theorem ty47 : teOf Tryz.prog 47 = some te47 := by kernel_rfl
@[reducible] def te48 : TE := ⟨.st [(3, 0), (3, 1), (3, 2), (3, 3), (23, 4)], 7, 56, some (.agg ⟨[.int .i64 0, .int .i64 0, .int .i64 0, .int .i64 0, .int .i64 0, .int .i64 0, .int .i64 0]⟩)⟩
theorem ty48 : teOf Tryz.prog 48 = some te48 := by kernel_rfl
@[reducible] def te49 : TE := ⟨.slice 3, 1, 24, some (.slice none 0 0)⟩
theorem ty49 : teOf Tryz.prog 49 = some te49 := by kernel_rfl
@[reducible] def te50 : TE := ⟨.other, 1, 8, some (.nilFunc)⟩
theorem ty50 : teOf Tryz.prog 50 = some te50 := by kernel_rfl
@[reducible] def te51 : TE := ⟨.other, 1, 8, some (.nilFunc)⟩
theorem ty51 : teOf Tryz.prog 51 = some te51 := by kernel_rfl
@[reducible] def te52 : TE := ⟨.st [(3, 0), (3, 1)], 2, 16, some (.agg ⟨[.int .i64 0, .int .i64 0]⟩)⟩
theorem ty52 : teOf Tryz.prog 52 = some te52 := by kernel_rfl
@[reducible] def te53 : TE := ⟨.st [(3, 0), (3, 1)], 2, 16, some (.agg ⟨[.int .i64 0, .int .i64 0]⟩)⟩
theorem ty53 : teOf Tryz.prog 53 = some te53 := by kernel_rfl
@[reducible] def te54 : TE := ⟨.other, 1, 8, some (.nilFunc)⟩
theorem ty54 : teOf Tryz.prog 54 = some te54 := by kernel_rfl
@[reducible] def te55 : TE := ⟨.other, 1, 8, some (.nilFunc)⟩
theorem ty55 : teOf Tryz.prog 55 = some te55 := by kernel_rfl
@[reducible] def te56 : TE := ⟨.other, 1, 8, some (.nilFunc)⟩
theorem ty56 : teOf Tryz.prog 56 = some te56 := by kernel_rfl
@[reducible] def te57 : TE := ⟨.other, 1, 0, some (.tuple ⟨[.slice none 0 0, .bool false]⟩)⟩
theorem ty57 : teOf Tryz.prog 57 = some te57 := by kernel_rfl
@[reducible] def te58 : TE := ⟨.other, 1, 8, some (.nilFunc)⟩
theorem ty58 : teOf Tryz.prog 58 = some te58 := by kernel_rfl
@[reducible] def te59 : TE := ⟨.other, 1, 8, some (.nilFunc)⟩
theorem ty59 : teOf Tryz.prog 59 = some te59 := by kernel_rfl
@[reducible] def te60 : TE := ⟨.other, 1, 8, some (.nilFunc)⟩
theorem ty60 : teOf Tryz.prog 60 = some te60 := by kernel_rfl
@[reducible] def te61 : TE := ⟨.other, 1, 8, some (.nilFunc)⟩
theorem ty61 : teOf Tryz.prog 61 = some te61 := by kernel_rfl
@[reducible] def te62 : TE := ⟨.other, 1, 8, some (.nilFunc)⟩
theorem ty62 : teOf Tryz.prog 62 = some te62 := by kernel_rfl
@[reducible] def te63 : TE := ⟨.other, 1, 8, some (.nilFunc)⟩
theorem ty63 : teOf Tryz.prog 63 = some te63 := by kernel_rfl
@[reducible] def te64 : TE := ⟨.slice 5, 1, 24, some (.slice none 0 0)⟩
theorem ty64 : teOf Tryz.prog 64 = some te64 := by kernel_rfl
@[reducible] def te65 : TE := ⟨.other, 1, 8, some (.nilFunc)⟩
theorem ty65 : teOf Tryz.prog 65 = some te65 := by kernel_rfl
@[reducible] def te66 : TE := ⟨.other, 1, 0, some (.tuple ⟨[.agg ⟨[.int .i64 0, .string ⟨⟨[]⟩⟩]⟩, .int .i64 0, .int .i64 0]⟩)⟩
theorem ty66 : teOf Tryz.prog 66 = some te66 := by kernel_rfl
@[reducible] def te67 : TE := ⟨.other, 1, 8, some (.nilFunc)⟩
theorem ty67 : teOf Tryz.prog 67 = some te67 := by kernel_rfl
@[reducible] def te68 : TE := ⟨.ptr 104, 1, 8, some (.pointer none)⟩
theorem ty68 : teOf Tryz.prog 68 = some te68 := by kernel_rfl
@[reducible] def te69 : TE := ⟨.other, 1, 8, some (.nilFunc)⟩
theorem ty69 : teOf Tryz.prog 69 = some te69 := by kernel_rfl
@[reducible] def te70 : TE := ⟨.other, 1, 8, some (.nilFunc)⟩
theorem ty70 : teOf Tryz.prog 70 = some te70 := by kernel_rfl
@[reducible] def te71 : TE := ⟨.other, 1, 8, some (.nilFunc)⟩
theorem ty71 : teOf Tryz.prog 71 = some te71 := by kernel_rfl
@[reducible] def te72 : TE := ⟨.other, 1, 8, some (.nilFunc)⟩
theorem ty72 : teOf Tryz.prog 72 = some te72 := by kernel_rfl
@[reducible] def te73 : TE := ⟨.other, 1, 8, some (.nilFunc)⟩
theorem ty73 : teOf Tryz.prog 73 = some te73 := by kernel_rfl
@[reducible] def te74 : TE := ⟨.other, 1, 0, some (.tuple ⟨[.agg ⟨[.int .i64 0, .int .i64 0]⟩, .bool false]⟩)⟩
theorem ty74 : teOf Tryz.prog 74 = some te74 := by kernel_rfl
@[reducible] def te75 : TE := ⟨.other, 1, 8, some (.nilFunc)⟩
theorem ty75 : teOf Tryz.prog 75 = some te75 := by kernel_rfl
@[reducible] def te76 : TE := ⟨.slice 4, 1, 24, some (.slice none 0 0)⟩
theorem ty76 : teOf Tryz.prog 76 = some te76 := by kernel_rfl
@[reducible] def te77 : TE := ⟨.other, 1, 0, some (.tuple ⟨[.slice none 0 0, .bool false]⟩)⟩
theorem ty77 : teOf Tryz.prog 77 = some te77 := by kernel_rfl
@[reducible] def te78 : TE := ⟨.other, 1, 8, some (.nilFunc)⟩
theorem ty78 : teOf Tryz.prog 78 = some te78 := by kernel_rfl
@[reducible] def te79 : TE := ⟨.other, 1, 8, some (.nilFunc)⟩
theorem ty79 : teOf Tryz.prog 79 = some te79 := by kernel_rfl
@[reducible] def te80 : TE := ⟨.slice 92, 1, 24, some (.slice none 0 0)⟩
theorem ty80 : teOf Tryz.prog 80 = some te80 := by kernel_rfl
@[reducible] def te81 : TE := ⟨.other, 1, 0, some (.tuple ⟨[.slice none 0 0, .int .i64 0]⟩)⟩
theorem ty81 : teOf Tryz.prog 81 = some te81 := by kernel_rfl
@[reducible] def te82 : TE := ⟨.other, 1, 8, some (.nilFunc)⟩
theorem ty82 : teOf Tryz.prog 82 = some te82 := by kernel_rfl
@[reducible] def te83 : TE := ⟨.ptr 120, 1, 8, some (.pointer none)⟩
theorem ty83 : teOf Tryz.prog 83 = some te83 := by kernel_rfl
@[reducible] def te84 : TE := ⟨.ptr 124, 1, 8, some (.pointer none)⟩
theorem ty84 : teOf Tryz.prog 84 = some te84 := by kernel_rfl
@[reducible] def te85 : TE := ⟨.ptr 127, 1, 8, some (.pointer none)⟩
theorem ty85 : teOf Tryz.prog 85 = some te85 := by kernel_rfl
@[reducible] def te86 : TE := ⟨.st [(83, 0), (84, 1), (85, 2), (85, 3)], 4, 32, some (.agg ⟨[.pointer none, .pointer none, .pointer none, .pointer none]⟩)⟩
theorem ty86 : teOf Tryz.prog 86 = some te86 := by kernel_rfl
@[reducible] def te87 : TE := ⟨.st [(83, 0), (84, 1), (85, 2), (85, 3)], 4, 32, some (.agg ⟨[.pointer none, .pointer none, .pointer none, .pointer none]⟩)⟩
theorem ty87 : teOf Tryz.prog 87 = some te87 := by kernel_rfl
@[reducible] def te88 : TE := ⟨.other, 1, 8, some (.nilFunc)⟩
theorem ty88 : teOf Tryz.prog 88 = some te88 := by kernel_rfl
@[reducible] def te89 : TE := ⟨.ptr 118, 1, 8, some (.pointer none)⟩
theorem ty89 : teOf Tryz.prog 89 = some te89 := by kernel_rfl
@[reducible] def te90 : TE := ⟨.other, 1, 8, some (.nilFunc)⟩
theorem ty90 : teOf Tryz.prog 90 = some te90 := by kernel_rfl
@[reducible] def te91 : TE := ⟨.st [(3, 0), (3, 1), (5, 2)], 3, 24, some (.agg ⟨[.int .i64 0, .int .i64 0, .int .u8 0]⟩)⟩
theorem ty91 : teOf Tryz.prog 91 = some te91 := by kernel_rfl
@[reducible] def te92 : TE := ⟨.st [(3, 0), (3, 1), (5, 2)], 3, 24, some (.agg ⟨[.int .i64 0, .int .i64 0, .int .u8 0]⟩)⟩
theorem ty92 : teOf Tryz.prog 92 = some te92 := by kernel_rfl
@[reducible] def te93 : TE := ⟨.other, 1, 8, some (.nilFunc)⟩
theorem ty93 : teOf Tryz.prog 93 = some te93 := by kernel_rfl
@[reducible] def te94 : TE := ⟨.other, 1, 8, some (.nilFunc)⟩
theorem ty94 : teOf Tryz.prog 94 = some te94 := by kernel_rfl
@[reducible] def te95 : TE := ⟨.other, 1, 8, some (.nilFunc)⟩
theorem ty95 : teOf Tryz.prog 95 = some te95 := by kernel_rfl
@[reducible] def te96 : TE := ⟨.other, 1, 8, some (.nilFunc)⟩
theorem ty96 : teOf Tryz.prog 96 = some te96 := by kernel_rfl
@[reducible] def te97 : TE := ⟨.int .u32, 1, 4, some (.int .u32 0)⟩
theorem ty97 : teOf Tryz.prog 97 = some te97 := by kernel_rfl
@[reducible] def te98 : TE := ⟨.other, 1, 8, some (.nilFunc)⟩
theorem ty98 : teOf Tryz.prog 98 = some te98 := by kernel_rfl
@[reducible] def te99 : TE := ⟨.int .u64, 1, 8, some (.int .u64 0)⟩
theorem ty99 : teOf Tryz.prog 99 = some te99 := by kernel_rfl
@[reducible] def te100 : TE := ⟨.int .u16, 1, 2, some (.int .u16 0)⟩
theorem ty100 : teOf Tryz.prog 100 = some te100 := by kernel_rfl
@[reducible] def te101 : TE := ⟨.other, 1, 0, some (.tuple ⟨[.agg ⟨[.int .i64 0, .string ⟨⟨[]⟩⟩]⟩, .int .i64 0, .bool false, .bool false]⟩)⟩
theorem ty101 : teOf Tryz.prog 101 = some te101 := by kernel_rfl
@[reducible] def te102 : TE := ⟨.other, 1, 8, some (.nilFunc)⟩
theorem ty102 : teOf Tryz.prog 102 = some te102 := by kernel_rfl
@[reducible] def te103 : TE := ⟨.st [(9, 0), (29, 1)], 2, 24, some (.agg ⟨[.string ⟨⟨[]⟩⟩, .int .i64 0]⟩)⟩
theorem ty103 : teOf Tryz.prog 103 = some te103 := by kernel_rfl
@[reducible] def te104 : TE := ⟨.st [(9, 0), (29, 1)], 2, 24, some (.agg ⟨[.string ⟨⟨[]⟩⟩, .int .i64 0]⟩)⟩
theorem ty104 : teOf Tryz.prog 104 = some te104 := by kernel_rfl
@[reducible] def te105 : TE := ⟨.other, 1, 8, some (.nilFunc)⟩
theorem ty105 : teOf Tryz.prog 105 = some te105 := by kernel_rfl
@[reducible] def te106 : TE := ⟨.other, 1, 8, some (.nilFunc)⟩
theorem ty106 : teOf Tryz.prog 106 = some te106 := by kernel_rfl
@[reducible] def te107 : TE := ⟨.other, 1, 8, some (.nilFunc)⟩
theorem ty107 : teOf Tryz.prog 107 = some te107 := by kernel_rfl
@[reducible] def te108 : TE := ⟨.other, 1, 8, some (.nilFunc)⟩
theorem ty108 : teOf Tryz.prog 108 = some te108 := by kernel_rfl
@[reducible] def te109 : TE := ⟨.other, 1, 8, some (.nilFunc)⟩
theorem ty109 : teOf Tryz.prog 109 = some te109 := by kernel_rfl
@[reducible] def te110 : TE := ⟨.other, 1, 8, some (.nilFunc)⟩
theorem ty110 : teOf Tryz.prog 110 = some te110 := by kernel_rfl
@[reducible] def te111 : TE := ⟨.st [(3, 0), (3, 1), (3, 2), (3, 3)], 4, 32, some (.agg ⟨[.int .i64 0, .int .i64 0, .int .i64 0, .int .i64 0]⟩)⟩
theorem ty111 : teOf Tryz.prog 111 = some te111 := by kernel_rfl
@[reducible] def te112 : TE := ⟨.st [(3, 0), (3, 1), (3, 2), (3, 3)], 4, 32, some (.agg ⟨[.int .i64 0, .int .i64 0, .int .i64 0, .int .i64 0]⟩)⟩
theorem ty112 : teOf Tryz.prog 112 = some te112 := by kernel_rfl
@[reducible] def te113 : TE := ⟨.other, 1, 0, some (.tuple ⟨[.pointer none, .int .i64 0]⟩)⟩
theorem ty113 : teOf Tryz.prog 113 = some te113 := by kernel_rfl
@[reducible] def te114 : TE := ⟨.other, 1, 8, some (.nilFunc)⟩
theorem ty114 : teOf Tryz.prog 114 = some te114 := by kernel_rfl
@[reducible] def te115 : TE := ⟨.other, 1, 8, some (.nilFunc)⟩
theorem ty115 : teOf Tryz.prog 115 = some te115 := by kernel_rfl
@[reducible] def te116 : TE := ⟨.other, 1, 8, some (.nilFunc)⟩
theorem ty116 : teOf Tryz.prog 116 = some te116 := by kernel_rfl
@[reducible] def te117 : TE := ⟨.st [(64, 0), (97, 1), (97, 2)], 3, 32, some (.agg ⟨[.slice none 0 0, .int .u32 0, .int .u32 0]⟩)⟩
theorem ty117 : teOf Tryz.prog 117 = some te117 := by kernel_rfl
@[reducible] def te118 : TE := ⟨.st [(64, 0), (97, 1), (97, 2)], 3, 32, some (.agg ⟨[.slice none 0 0, .int .u32 0, .int .u32 0]⟩)⟩
theorem ty118 : teOf Tryz.prog 118 = some te118 := by kernel_rfl
@[reducible] def te119 : TE := ⟨.st [(3, 0), (49, 1)], 2, 32, some (.agg ⟨[.int .i64 0, .slice none 0 0]⟩)⟩
theorem ty119 : teOf Tryz.prog 119 = some te119 := by kernel_rfl
@[reducible] def te120 : TE := ⟨.st [(3, 0), (49, 1)], 2, 32, some (.agg ⟨[.int .i64 0, .slice none 0 0]⟩)⟩
theorem ty120 : teOf Tryz.prog 120 = some te120 := by kernel_rfl
@[reducible] def te121 : TE := ⟨.other, 1, 8, some (.nilFunc)⟩
theorem ty121 : teOf Tryz.prog 121 = some te121 := by kernel_rfl
@[reducible] def te122 : TE := ⟨.arr 8 120, 16, 256, some (.agg ⟨[.int .i64 0, .slice none 0 0, .int .i64 0, .slice none 0 0, .int .i64 0, .slice none 0 0, .int .i64 0, .slice none 0 0, .int .i64 0, .slice none 0 0, .int .i64 0, .slice none 0 0, .int .i64 0, .slice none 0 0, .int .i64 0, .slice none 0 0]⟩)⟩
theorem ty122 : teOf Tryz.prog 122 = some te122 := by kernel_rfl
@[reducible] def te123 : TE := ⟨.st [(122, 0), (5, 16)], 17, 264, some (.agg ⟨[.int .i64 0, .slice none 0 0, .int .i64 0, .slice none 0 0, .int .i64 0, .slice none 0 0, .int .i64 0, .slice none 0 0, .int .i64 0, .slice none 0 0, .int .i64 0, .slice none 0 0, .int .i64 0, .slice none 0 0, .int .i64 0, .slice none 0 0, .int .u8 0]⟩)⟩
theorem ty123 : teOf Tryz.prog 123 = some te123 := by kernel_rfl
@[reducible] def te124 : TE := ⟨.st [(122, 0), (5, 16)], 17, 264, some (.agg ⟨[.int .i64 0, .slice none 0 0, .int .i64 0, .slice none 0 0, .int .i64 0, .slice none 0 0, .int .i64 0, .slice none 0 0, .int .i64 0, .slice none 0 0, .int .i64 0, .slice none 0 0, .int .i64 0, .slice none 0 0, .int .i64 0, .slice none 0 0, .int .u8 0]⟩)⟩
theorem ty124 : teOf Tryz.prog 124 = some te124 := by kernel_rfl
@[reducible] def te125 : TE := ⟨.other, 1, 8, some (.nilFunc)⟩
theorem ty125 : teOf Tryz.prog 125 = some te125 := by kernel_rfl
@[reducible] def te126 : TE := ⟨.st [(120, 0)], 2, 32, some (.agg ⟨[.int .i64 0, .slice none 0 0]⟩)⟩
theorem ty126 : teOf Tryz.prog 126 = some te126 := by kernel_rfl
@[reducible] def te127 : TE := ⟨.st [(120, 0)], 2, 32, some (.agg ⟨[.int .i64 0, .slice none 0 0]⟩)⟩
theorem ty127 : teOf Tryz.prog 127 = some te127 := by kernel_rfl
@[reducible] def te128 : TE := ⟨.arr 4 5, 4, 4, some (.agg ⟨[.int .u8 0, .int .u8 0, .int .u8 0, .int .u8 0]⟩)⟩
theorem ty128 : teOf Tryz.prog 128 = some te128 := by kernel_rfl
@[reducible] def te129 : TE := ⟨.other, 1, 8, some (.nilFunc)⟩
theorem ty129 : teOf Tryz.prog 129 = some te129 := by kernel_rfl
@[reducible] def te130 : TE := ⟨.other, 1, 8, some (.nilFunc)⟩
theorem ty130 : teOf Tryz.prog 130 = some te130 := by kernel_rfl
@[reducible] def te131 : TE := ⟨.other, 1, 8, some (.nilFunc)⟩
theorem ty131 : teOf Tryz.prog 131 = some te131 := by kernel_rfl
@[reducible] def te132 : TE := ⟨.other, 1, 8, some (.nilFunc)⟩
theorem ty132 : teOf Tryz.prog 132 = some te132 := by kernel_rfl
@[reducible] def te133 : TE := ⟨.other, 1, 0, some (.tuple ⟨[.int .i64 0, .int .i64 0, .bool false]⟩)⟩
theorem ty133 : teOf Tryz.prog 133 = some te133 := by kernel_rfl
@[reducible] def te134 : TE := ⟨.other, 1, 8, some (.nilFunc)⟩
theorem ty134 : teOf Tryz.prog 134 = some te134 := by kernel_rfl
@[reducible] def te135 : TE := ⟨.other, 1, 8, some (.nilFunc)⟩
theorem ty135 : teOf Tryz.prog 135 = some te135 := by kernel_rfl
@[reducible] def te136 : TE := ⟨.other, 1, 8, some (.nilFunc)⟩
theorem ty136 : teOf Tryz.prog 136 = some te136 := by kernel_rfl
@[reducible] def te137 : TE := ⟨.other, 1, 8, some (.nilFunc)⟩
theorem ty137 : teOf Tryz.prog 137 = some te137 := by kernel_rfl
@[reducible] def te138 : TE := ⟨.slice 140, 1, 24, some (.slice none 0 0)⟩
theorem ty138 : teOf Tryz.prog 138 = some te138 := by kernel_rfl
@[reducible] def te139 : TE := ⟨.st [(3, 0), (3, 1), (92, 2)], 5, 40, some (.agg ⟨[.int .i64 0, .int .i64 0, .int .i64 0, .int .i64 0, .int .u8 0]⟩)⟩
theorem ty139 : teOf Tryz.prog 139 = some te139 := by kernel_rfl
@[reducible] def te140 : TE := ⟨.st [(3, 0), (3, 1), (92, 2)], 5, 40, some (.agg ⟨[.int .i64 0, .int .i64 0, .int .i64 0, .int .i64 0, .int .u8 0]⟩)⟩
theorem ty140 : teOf Tryz.prog 140 = some te140 := by kernel_rfl
@[reducible] def te141 : TE := ⟨.other, 1, 8, some (.nilFunc)⟩
theorem ty141 : teOf Tryz.prog 141 = some te141 := by kernel_rfl
@[reducible] def te142 : TE := ⟨.slice 145, 1, 24, some (.slice none 0 0)⟩
theorem ty142 : teOf Tryz.prog 142 = some te142 := by kernel_rfl
@[reducible] def te143 : TE := ⟨.other, 1, 8, some (.nilFunc)⟩
theorem ty143 : teOf Tryz.prog 143 = some te143 := by kernel_rfl
@[reducible] def te144 : TE := ⟨.st [(3, 0), (3, 1)], 2, 16, some (.agg ⟨[.int .i64 0, .int .i64 0]⟩)⟩
theorem ty144 : teOf Tryz.prog 144 = some te144 := by kernel_rfl
@[reducible] def te145 : TE := ⟨.st [(3, 0), (3, 1)], 2, 16, some (.agg ⟨[.int .i64 0, .int .i64 0]⟩)⟩
theorem ty145 : teOf Tryz.prog 145 = some te145 := by kernel_rfl
@[reducible] def te146 : TE := ⟨.slice 120, 1, 24, some (.slice none 0 0)⟩
theorem ty146 : teOf Tryz.prog 146 = some te146 := by kernel_rfl
@[reducible] def te147 : TE := ⟨.other, 1, 8, some (.nilFunc)⟩
theorem ty147 : teOf Tryz.prog 147 = some te147 := by kernel_rfl
@[reducible] def te148 : TE := ⟨.other, 1, 8, some (.nilFunc)⟩
theorem ty148 : teOf Tryz.prog 148 = some te148 := by kernel_rfl
@[reducible] def te149 : TE := ⟨.other, 1, 8, some (.nilFunc)⟩
theorem ty149 : teOf Tryz.prog 149 = some te149 := by kernel_rfl
@[reducible] def te150 : TE := ⟨.other, 1, 8, some (.nilFunc)⟩
theorem ty150 : teOf Tryz.prog 150 = some te150 := by kernel_rfl
@[reducible] def te151 : TE := ⟨.int .u64, 1, 8, some (.int .u64 0)⟩
theorem ty151 : teOf Tryz.prog 151 = some te151 := by kernel_rfl
@[reducible] def te152 : TE := ⟨.other, 1, 8, some (.nilFunc)⟩
theorem ty152 : teOf Tryz.prog 152 = some te152 := by kernel_rfl
@[reducible] def te153 : TE := ⟨.other, 1, 0, some (.tuple ⟨[.string ⟨⟨[]⟩⟩, .bool false]⟩)⟩
theorem ty153 : teOf Tryz.prog 153 = some te153 := by kernel_rfl
@[reducible] def te154 : TE := ⟨.other, 1, 8, some (.nilFunc)⟩
theorem ty154 : teOf Tryz.prog 154 = some te154 := by kernel_rfl
@[reducible] def te155 : TE := ⟨.other, 1, 8, some (.nilFunc)⟩
theorem ty155 : teOf Tryz.prog 155 = some te155 := by kernel_rfl
@[reducible] def te156 : TE := ⟨.int .i64, 1, 8, some (.int .i64 0)⟩
theorem ty156 : teOf Tryz.prog 156 = some te156 := by kernel_rfl
@[reducible] def te157 : TE := ⟨.other, 1, 0, some (.tuple ⟨[.int .i64 0, .int .i64 0]⟩)⟩
theorem ty157 : teOf Tryz.prog 157 = some te157 := by kernel_rfl
@[reducible] def te158 : TE := ⟨.other, 1, 8, some (.nilFunc)⟩
theorem ty158 : teOf Tryz.prog 158 = some te158 := by kernel_rfl
@[reducible] def te159 : TE := ⟨.other, 1, 8, some (.nilFunc)⟩
theorem ty159 : teOf Tryz.prog 159 = some te159 := by kernel_rfl
@[reducible] def te160 : TE := ⟨.other, 1, 8, some (.nilFunc)⟩
theorem ty160 : teOf Tryz.prog 160 = some te160 := by kernel_rfl
@[reducible] def te161 : TE := ⟨.other, 1, 8, some (.nilFunc)⟩
theorem ty161 : teOf Tryz.prog 161 = some te161 := by kernel_rfl
@[reducible] def te162 : TE := ⟨.other, 1, 8, some (.nilFunc)⟩
theorem ty162 : teOf Tryz.prog 162 = some te162 := by kernel_rfl
@[reducible] def te163 : TE := ⟨.other, 1, 8, some (.nilFunc)⟩
theorem ty163 : teOf Tryz.prog 163 = some te163 := by kernel_rfl
@[reducible] def te164 : TE := ⟨.other, 1, 8, some (.nilFunc)⟩
theorem ty164 : teOf Tryz.prog 164 = some te164 := by kernel_rfl
@[reducible] def te165 : TE := ⟨.ptr 177, 1, 8, some (.pointer none)⟩
theorem ty165 : teOf Tryz.prog 165 = some te165 := by kernel_rfl
@[reducible] def te166 : TE := ⟨.other, 1, 8, some (.nilFunc)⟩
theorem ty166 : teOf Tryz.prog 166 = some te166 := by kernel_rfl
@[reducible] def te167 : TE := ⟨.other, 1, 8, some (.nilFunc)⟩
theorem ty167 : teOf Tryz.prog 167 = some te167 := by kernel_rfl
@[reducible] def te168 : TE := ⟨.other, 1, 8, some (.nilFunc)⟩
theorem ty168 : teOf Tryz.prog 168 = some te168 := by kernel_rfl
@[reducible] def te169 : TE := ⟨.int .u64, 1, 8, some (.int .u64 0)⟩
theorem ty169 : teOf Tryz.prog 169 = some te169 := by kernel_rfl
@[reducible] def te170 : TE := ⟨.other, 1, 8, some (.nilFunc)⟩
theorem ty170 : teOf Tryz.prog 170 = some te170 := by kernel_rfl
@[reducible] def te171 : TE := ⟨.other, 1, 8, some (.nilFunc)⟩
theorem ty171 : teOf Tryz.prog 171 = some te171 := by kernel_rfl
@[reducible] def te172 : TE := ⟨.other, 1, 8, some (.nilFunc)⟩
theorem ty172 : teOf Tryz.prog 172 = some te172 := by kernel_rfl
@[reducible] def te173 : TE := ⟨.ptr 3, 1, 8, some (.pointer none)⟩
theorem ty173 : teOf Tryz.prog 173 = some te173 := by kernel_rfl
@[reducible] def te174 : TE := ⟨.other, 1, 8, some (.nilFunc)⟩
theorem ty174 : teOf Tryz.prog 174 = some te174 := by kernel_rfl
@[reducible] def te175 : TE := ⟨.other, 1, 8, some (.nilFunc)⟩
theorem ty175 : teOf Tryz.prog 175 = some te175 := by kernel_rfl
@[reducible] def te176 : TE := ⟨.st [(9, 0), (97, 1), (97, 2), (4, 3), (4, 4)], 5, 32, some (.agg ⟨[.string ⟨⟨[]⟩⟩, .int .u32 0, .int .u32 0, .bool false, .bool false]⟩)⟩
theorem ty176 : teOf Tryz.prog 176 = some te176 := by kernel_rfl
@[reducible] def te177 : TE := ⟨.st [(9, 0), (97, 1), (97, 2), (4, 3), (4, 4)], 5, 32, some (.agg ⟨[.string ⟨⟨[]⟩⟩, .int .u32 0, .int .u32 0, .bool false, .bool false]⟩)⟩
theorem ty177 : teOf Tryz.prog 177 = some te177 := by kernel_rfl
@[reducible] def te178 : TE := ⟨.ptr 169, 1, 8, some (.pointer none)⟩
theorem ty178 : teOf Tryz.prog 178 = some te178 := by kernel_rfl
@[reducible] def te179 : TE := ⟨.other, 1, 0, some (.tuple ⟨[.int .i64 0, .int .i64 0]⟩)⟩
theorem ty179 : teOf Tryz.prog 179 = some te179 := by kernel_rfl
@[reducible] def te180 : TE := ⟨.other, 1, 8, some (.nilFunc)⟩
theorem ty180 : teOf Tryz.prog 180 = some te180 := by kernel_rfl
@[reducible] def te181 : TE := ⟨.st [(17, 0), (17, 1), (17, 2), (9, 3)], 4, 40, some (.agg ⟨[.pointer none, .pointer none, .pointer none, .string ⟨⟨[]⟩⟩]⟩)⟩
theorem ty181 : teOf Tryz.prog 181 = some te181 := by kernel_rfl
@[reducible] def te182 : TE := ⟨.st [(17, 0), (17, 1), (17, 2), (9, 3)], 4, 40, some (.agg ⟨[.pointer none, .pointer none, .pointer none, .string ⟨⟨[]⟩⟩]⟩)⟩
theorem ty182 : teOf Tryz.prog 182 = some te182 := by kernel_rfl
@[reducible] def te183 : TE := ⟨.arr 0 16, 0, 0, some (.agg ⟨[]⟩)⟩
theorem ty183 : teOf Tryz.prog 183 = some te183 := by kernel_rfl
@[reducible] def te184 : TE := ⟨.st [(183, 0)], 0, 0, some (.agg ⟨[]⟩)⟩
theorem ty184 : teOf Tryz.prog 184 = some te184 := by kernel_rfl
@[reducible] def te185 : TE := ⟨.st [(183, 0)], 0, 0, some (.agg ⟨[]⟩)⟩
theorem ty185 : teOf Tryz.prog 185 = some te185 := by kernel_rfl
@[reducible] def te186 : TE := ⟨.int .u8, 1, 1, some (.int .u8 0)⟩
theorem ty186 : teOf Tryz.prog 186 = some te186 := by kernel_rfl
@[reducible] def te187 : TE := ⟨.int .u8, 1, 1, some (.int .u8 0)⟩
theorem ty187 : teOf Tryz.prog 187 = some te187 := by kernel_rfl
@[reducible] def te188 : TE := ⟨.other, 1, 8, some (.nilFunc)⟩
theorem ty188 : teOf Tryz.prog 188 = some te188 := by kernel_rfl
@[reducible] def te189 : TE := ⟨.ptr 5, 1, 8, some (.pointer none)⟩
theorem ty189 : teOf Tryz.prog 189 = some te189 := by kernel_rfl
@[reducible] def te190 : TE := ⟨.int .i32, 1, 4, some (.int .i32 0)⟩
theorem ty190 : teOf Tryz.prog 190 = some te190 := by kernel_rfl
@[reducible] def te191 : TE := ⟨.int .i32, 1, 4, some (.int .i32 0)⟩
theorem ty191 : teOf Tryz.prog 191 = some te191 := by kernel_rfl
@[reducible] def te192 : TE := ⟨.st [(12, 0), (12, 1), (97, 2), (186, 3), (5, 4), (5, 5), (187, 6), (188, 7), (189, 8), (190, 9), (191, 10)], 11, 48, some (.agg ⟨[.int .u64 0, .int .u64 0, .int .u32 0, .int .u8 0, .int .u8 0, .int .u8 0, .int .u8 0, .nilFunc, .pointer none, .int .i32 0, .int .i32 0]⟩)⟩
theorem ty192 : teOf Tryz.prog 192 = some te192 := by kernel_rfl
@[reducible] def te193 : TE := ⟨.st [(12, 0), (12, 1), (97, 2), (186, 3), (5, 4), (5, 5), (187, 6), (188, 7), (189, 8), (190, 9), (191, 10)], 11, 48, some (.agg ⟨[.int .u64 0, .int .u64 0, .int .u32 0, .int .u8 0, .int .u8 0, .int .u8 0, .int .u8 0, .nilFunc, .pointer none, .int .i32 0, .int .i32 0]⟩)⟩
theorem ty193 : teOf Tryz.prog 193 = some te193 := by kernel_rfl
@[reducible] def te194 : TE := ⟨.other, 1, 8, some (.pointer none)⟩
theorem ty194 : teOf Tryz.prog 194 = some te194 := by kernel_rfl
def tyT : TT := (.node (.node (.node (.node (.node (.node (.node (.node .leaf 0 te0 .leaf) 1 te1 (.node .leaf 2 te2 .leaf)) 3 te3 (.node (.node .leaf 4 te4 .leaf) 5 te5 .leaf)) 6 te6 (.node (.node (.node .leaf 7 te7 .leaf) 8 te8 .leaf) 9 te9 (.node (.node .leaf 10 te10 .leaf) 11 te11 .leaf))) 12 te12 (.node (.node (.node (.node .leaf 13 te13 .leaf) 14 te14 .leaf) 15 te15 (.node (.node .leaf 16 te16 .leaf) 17 te17 .leaf)) 18 te18 (.node (.node (.node .leaf 19 te19 .leaf) 20 te20 .leaf) 21 te21 (.node (.node .leaf 22 te22 .leaf) 23 te23 .leaf)))) 24 te24 (.node (.node (.node (.node (.node .leaf 25 te25 .leaf) 26 te26 .leaf) 27 te27 (.node (.node .leaf 28 te28 .leaf) 29 te29 .leaf)) 30 te30 (.node (.node (.node .leaf 31 te31 .leaf) 32 te32 .leaf) 33 te33 (.node (.node .leaf 34 te34 .leaf) 35 te35 .leaf))) 36 te36 (.node (.node (.node (.node .leaf 37 te37 .leaf) 38 te38 .leaf) 39 te39 (.node (.node .leaf 40 te40 .leaf) 41 te41 .leaf)) 42 te42 (.node (.node (.node .leaf 43 te43 .leaf) 44 te44 .leaf) 45 te45 (.node (.node .leaf 46 te46 .leaf) 47 te47 .leaf))))) 48 te48 (.node (.node (.node (.node (.node (.node .leaf 49 te49 .leaf) 50 te50 (.node .leaf 51 te51 .leaf)) 52 te52 (.node (.node .leaf 53 te53 .leaf) 54 te54 .leaf)) 55 te55 (.node (.node (.node .leaf 56 te56 .leaf) 57 te57 .leaf) 58 te58 (.node (.node .leaf 59 te59 .leaf) 60 te60 .leaf))) 61 te61 (.node (.node (.node (.node .leaf 62 te62 .leaf) 63 te63 .leaf) 64 te64 (.node (.node .leaf 65 te65 .leaf) 66 te66 .leaf)) 67 te67 (.node (.node (.node .leaf 68 te68 .leaf) 69 te69 .leaf) 70 te70 (.node (.node .leaf 71 te71 .leaf) 72 te72 .leaf)))) 73 te73 (.node (.node (.node (.node (.node .leaf 74 te74 .leaf) 75 te75 .leaf) 76 te76 (.node (.node .leaf 77 te77 .leaf) 78 te78 .leaf)) 79 te79 (.node (.node (.node .leaf 80 te80 .leaf) 81 te81 .leaf) 82 te82 (.node (.node .leaf 83 te83 .leaf) 84 te84 .leaf))) 85 te85 (.node (.node (.node (.node .leaf 86 te86 .leaf) 87 te87 .leaf) 88 te88 (.node (.node .leaf 89 te89 .leaf) 90 te90 .leaf)) 91 te91 (.node (.node (.node .leaf 92 te92 .leaf) 93 te93 .leaf) 94 te94 (.node (.node .leaf 95 te95 .leaf) 96 te96 .leaf)))))) 97 te97 (.node (.node (.node (.node (.node (.node (.node .leaf 98 te98 .leaf) 99 te99 (.node .leaf 100 te100 .leaf)) 101 te101 (.node (.node .leaf 102 te102 .leaf) 103 te103 .leaf)) 104 te104 (.node (.node (.node .leaf 105 te105 .leaf) 106 te106 .leaf) 107 te107 (.node (.node .leaf 108 te108 .leaf) 109 te109 .leaf))) 110 te110 (.node (.node (.node (.node .leaf 111 te111 .leaf) 112 te112 .leaf) 113 te113 (.node (.node .leaf 114 te114 .leaf) 115 te115 .leaf)) 116 te116 (.node (.node (.node .leaf 117 te117 .leaf) 118 te118 .leaf) 119 te119 (.node (.node .leaf 120 te120 .leaf) 121 te121 .leaf)))) 122 te122 (.node (.node (.node (.node (.node .leaf 123 te123 .leaf) 124 te124 .leaf) 125 te125 (.node (.node .leaf 126 te126 .leaf) 127 te127 .leaf)) 128 te128 (.node (.node (.node .leaf 129 te129 .leaf) 130 te130 .leaf) 131 te131 (.node (.node .leaf 132 te132 .leaf) 133 te133 .leaf))) 134 te134 (.node (.node (.node (.node .leaf 135 te135 .leaf) 136 te136 .leaf) 137 te137 (.node (.node .leaf 138 te138 .leaf) 139 te139 .leaf)) 140 te140 (.node (.node (.node .leaf 141 te141 .leaf) 142 te142 .leaf) 143 te143 (.node (.node .leaf 144 te144 .leaf) 145 te145 .leaf))))) 146 te146 (.node (.node (.node (.node (.node (.node .leaf 147 te147 .leaf) 148 te148 (.node .leaf 149 te149 .leaf)) 150 te150 (.node (.node .leaf 151 te151 .leaf) 152 te152 .leaf)) 153 te153 (.node (.node (.node .leaf 154 te154 .leaf) 155 te155 .leaf) 156 te156 (.node (.node .leaf 157 te157 .leaf) 158 te158 .leaf))) 159 te159 (.node (.node (.node (.node .leaf 160 te160 .leaf) 161 te161 .leaf) 162 te162 (.node (.node .leaf 163 te163 .leaf) 164 te164 .leaf)) 165 te165 (.node (.node (.node .leaf 166 te166 .leaf) 167 te167 .leaf) 168 te168 (.node (.node .leaf 169 te169 .leaf) 170 te170 .leaf)))) 171 te171 (.node (.node (.node (.node (.node .leaf 172 te172 .leaf) 173 te173 .leaf) 174 te174 (.node (.node .leaf 175 te175 .leaf) 176 te176 .leaf)) 177 te177 (.node (.node (.node .leaf 178 te178 .leaf) 179 te179 .leaf) 180 te180 (.node (.node .leaf 181 te181 .leaf) 182 te182 .leaf))) 183 te183 (.node (.node (.node (.node .leaf 184 te184 .leaf) 185 te185 .leaf) 186 te186 (.node (.node .leaf 187 te187 .leaf) 188 te188 .leaf)) 189 te189 (.node (.node (.node .leaf 190 te190 .leaf) 191 te191 .leaf) 192 te192 (.node (.node .leaf 193 te193 .leaf) 194 te194 .leaf)))))))
theorem tyOk : tyT.Ok Tryz.prog := ⟨⟨⟨⟨⟨⟨⟨⟨trivial, ty0, trivial⟩, ty1, ⟨trivial, ty2, trivial⟩⟩, ty3, ⟨⟨trivial, ty4, trivial⟩, ty5, trivial⟩⟩, ty6, ⟨⟨⟨trivial, ty7, trivial⟩, ty8, trivial⟩, ty9, ⟨⟨trivial, ty10, trivial⟩, ty11, trivial⟩⟩⟩, ty12, ⟨⟨⟨⟨trivial, ty13, trivial⟩, ty14, trivial⟩, ty15, ⟨⟨trivial, ty16, trivial⟩, ty17, trivial⟩⟩, ty18, ⟨⟨⟨trivial, ty19, trivial⟩, ty20, trivial⟩, ty21, ⟨⟨trivial, ty22, trivial⟩, ty23, trivial⟩⟩⟩⟩, ty24, ⟨⟨⟨⟨⟨trivial, ty25, trivial⟩, ty26, trivial⟩, ty27, ⟨⟨trivial, ty28, trivial⟩, ty29, trivial⟩⟩, ty30, ⟨⟨⟨trivial, ty31, trivial⟩, ty32, trivial⟩, ty33, ⟨⟨trivial, ty34, trivial⟩, ty35, trivial⟩⟩⟩, ty36, ⟨⟨⟨⟨trivial, ty37, trivial⟩, ty38, trivial⟩, ty39, ⟨⟨trivial, ty40, trivial⟩, ty41, trivial⟩⟩, ty42, ⟨⟨⟨trivial, ty43, trivial⟩, ty44, trivial⟩, ty45, ⟨⟨trivial, ty46, trivial⟩, ty47, trivial⟩⟩⟩⟩⟩, ty48, ⟨⟨⟨⟨⟨⟨trivial, ty49, trivial⟩, ty50, ⟨trivial, ty51, trivial⟩⟩, ty52, ⟨⟨trivial, ty53, trivial⟩, ty54, trivial⟩⟩, ty55, ⟨⟨⟨trivial, ty56, trivial⟩, ty57, trivial⟩, ty58, ⟨⟨trivial, ty59, trivial⟩, ty60, trivial⟩⟩⟩, ty61, ⟨⟨⟨⟨trivial, ty62, trivial⟩, ty63, trivial⟩, ty64, ⟨⟨trivial, ty65, trivial⟩, ty66, trivial⟩⟩, ty67, ⟨⟨⟨trivial, ty68, trivial⟩, ty69, trivial⟩, ty70, ⟨⟨trivial, ty71, trivial⟩, ty72, trivial⟩⟩⟩⟩, ty73, ⟨⟨⟨⟨⟨trivial, ty74, trivial⟩, ty75, trivial⟩, ty76, ⟨⟨trivial, ty77, trivial⟩, ty78, trivial⟩⟩, ty79, ⟨⟨⟨trivial, ty80, trivial⟩, ty81, trivial⟩, ty82, ⟨⟨trivial, ty83, trivial⟩, ty84, trivial⟩⟩⟩, ty85, ⟨⟨⟨⟨trivial, ty86, trivial⟩, ty87, trivial⟩, ty88, ⟨⟨trivial, ty89, trivial⟩, ty90, trivial⟩⟩, ty91, ⟨⟨⟨trivial, ty92, trivial⟩, ty93, trivial⟩, ty94, ⟨⟨trivial, ty95, trivial⟩, ty96, trivial⟩⟩⟩⟩⟩⟩, ty97, ⟨⟨⟨⟨⟨⟨⟨trivial, ty98, trivial⟩, ty99, ⟨trivial, ty100, trivial⟩⟩, ty101, ⟨⟨trivial, ty102, trivial⟩, ty103, trivial⟩⟩, ty104, ⟨⟨⟨trivial, ty105, trivial⟩, ty106, trivial⟩, ty107, ⟨⟨trivial, ty108, trivial⟩, ty109, trivial⟩⟩⟩, ty110, ⟨⟨⟨⟨trivial, ty111, trivial⟩, ty112, trivial⟩, ty113, ⟨⟨trivial, ty114, trivial⟩, ty115, trivial⟩⟩, ty116, ⟨⟨⟨trivial, ty117, trivial⟩, ty118, trivial⟩, ty119, ⟨⟨trivial, ty120, trivial⟩, ty121, trivial⟩⟩⟩⟩, ty122, ⟨⟨⟨⟨⟨trivial, ty123, trivial⟩, ty124, trivial⟩, ty125, ⟨⟨trivial, ty126, trivial⟩, ty127, trivial⟩⟩, ty128, ⟨⟨⟨trivial, ty129, trivial⟩, ty130, trivial⟩, ty131, ⟨⟨trivial, ty132, trivial⟩, ty133, trivial⟩⟩⟩, ty134, ⟨⟨⟨⟨trivial, ty135, trivial⟩, ty136, trivial⟩, ty137, ⟨⟨trivial, ty138, trivial⟩, ty139, trivial⟩⟩, ty140, ⟨⟨⟨trivial, ty141, trivial⟩, ty142, trivial⟩, ty143, ⟨⟨trivial, ty144, trivial⟩, ty145, trivial⟩⟩⟩⟩⟩, ty146, ⟨⟨⟨⟨⟨⟨trivial, ty147, trivial⟩, ty148, ⟨trivial, ty149, trivial⟩⟩, ty150, ⟨⟨trivial, ty151, trivial⟩, ty152, trivial⟩⟩, ty153, ⟨⟨⟨trivial, ty154, trivial⟩, ty155, trivial⟩, ty156, ⟨⟨trivial, ty157, trivial⟩, ty158, trivial⟩⟩⟩, ty159, ⟨⟨⟨⟨trivial, ty160, trivial⟩, ty161, trivial⟩, ty162, ⟨⟨trivial, ty163, trivial⟩, ty164, trivial⟩⟩, ty165, ⟨⟨⟨trivial, ty166, trivial⟩, ty167, trivial⟩, ty168, ⟨⟨trivial, ty169, trivial⟩, ty170, trivial⟩⟩⟩⟩, ty171, ⟨⟨⟨⟨⟨trivial, ty172, trivial⟩, ty173, trivial⟩, ty174, ⟨⟨trivial, ty175, trivial⟩, ty176, trivial⟩⟩, ty177, ⟨⟨⟨trivial, ty178, trivial⟩, ty179, trivial⟩, ty180, ⟨⟨trivial, ty181, trivial⟩, ty182, trivial⟩⟩⟩, ty183, ⟨⟨⟨⟨trivial, ty184, trivial⟩, ty185, trivial⟩, ty186, ⟨⟨trivial, ty187, trivial⟩, ty188, trivial⟩⟩, ty189, ⟨⟨⟨trivial, ty190, trivial⟩, ty191, trivial⟩, ty192, ⟨⟨trivial, ty193, trivial⟩, ty194, trivial⟩⟩⟩⟩⟩⟩⟩
theorem pl23 : placesOf Tryz.prog 23 = some [(0, 1), (1, 1), (2, 1)] := by kernel_rfl
theorem pl26 : placesOf Tryz.prog 26 = some [(0, 3), (3, 1)] := by kernel_rfl
theorem pl38 : placesOf Tryz.prog 38 = some [(0, 1), (1, 1)] := by kernel_rfl
theorem pl48 : placesOf Tryz.prog 48 = some [(0, 1), (1, 1), (2, 1), (3, 1), (4, 3)] := by kernel_rfl
theorem pl53 : placesOf Tryz.prog 53 = some [(0, 1), (1, 1)] := by kernel_rfl
theorem pl87 : placesOf Tryz.prog 87 = some [(0, 1), (1, 1), (2, 1), (3, 1)] := by kernel_rfl
theorem pl92 : placesOf Tryz.prog 92 = some [(0, 1), (1, 1), (2, 1)] := by kernel_rfl
theorem pl104 : placesOf Tryz.prog 104 = some [(0, 1), (1, 1)] := by kernel_rfl
theorem pl112 : placesOf Tryz.prog 112 = some [(0, 1), (1, 1), (2, 1), (3, 1)] := by kernel_rfl
theorem pl118 : placesOf Tryz.prog 118 = some [(0, 1), (1, 1), (2, 1)] := by kernel_rfl
theorem pl120 : placesOf Tryz.prog 120 = some [(0, 1), (1, 1)] := by kernel_rfl
theorem pl124 : placesOf Tryz.prog 124 = some [(0, 16), (16, 1)] := by kernel_rfl
theorem pl127 : placesOf Tryz.prog 127 = some [(0, 2)] := by kernel_rfl
theorem pl140 : placesOf Tryz.prog 140 = some [(0, 1), (1, 1), (2, 3)] := by kernel_rfl
theorem pl145 : placesOf Tryz.prog 145 = some [(0, 1), (1, 1)] := by kernel_rfl
theorem pl177 : placesOf Tryz.prog 177 = some [(0, 1), (1, 1), (2, 1), (3, 1), (4, 1)] := by kernel_rfl
end Go.Proofs.YtncnmfdmbfbfjaaGreat
end
section
set_option linter.unusedVariables false
set_option linter.unusedSimpArgs false
set_option maxRecDepth 4000
namespace Go.Proofs.YtncnmfdmbfbfjaaGreat
open Go.Gh Go.RowKit

abbrev Rg := Int × Int
abbrev ok1 (t : Int) (x : Rg) : Prop := 0 ≤ x.1 ∧ 1 ≤ x.2 ∧ x.1 + x.2 ≤ t
abbrev apart (x y : Rg) : Prop := x.1 + x.2 ≤ y.1 ∨ y.1 + y.2 ≤ x.1
/-- Valid. -/
def svld (t : Int) (L : List Rg) : Prop := (0 ≤ t ∧ t ≤ 1024) ∧ (∀ x ∈ L, ok1 t x) ∧ L.Pairwise apart
instance (t : Int) (L : List Rg) : Decidable (svld t L) := inferInstanceAs (Decidable (_ ∧ _ ∧ _))
theorem vld_perm {t : Int} {L M : List Rg} (h : L.Perm M) : svld t L ↔ svld t M := by
  unfold svld
  rw [h.pairwise_iff (fun h => Or.symm h)]
  constructor
  · rintro ⟨h1, h2, h3⟩; exact ⟨h1, fun x hx => h2 x (h.mem_iff.2 hx), h3⟩
  · rintro ⟨h1, h2, h3⟩; exact ⟨h1, fun x hx => h2 x (h.mem_iff.1 hx), h3⟩
/-- As the program goes through the sorted regions. -/
def chn (t : Int) : Int → List Rg → Prop
  | _, [] => True
  | a, x :: r => (a ≤ x.1 ∧ 1 ≤ x.2 ∧ x.1 + x.2 ≤ t) ∧ chn t (x.1 + x.2) r
abbrev sbef (x y : Rg) : Prop := x.1 + x.2 ≤ y.1
theorem chn_iff {t : Int} : ∀ {L : List Rg} {a : Int}, chn t a L ↔ (∀ x ∈ L, a ≤ x.1 ∧ 1 ≤ x.2 ∧ x.1 + x.2 ≤ t) ∧ L.Pairwise sbef
  | [], a => by simp [chn]
  | x :: r, a => by
    unfold chn
    rw [chn_iff (L := r), List.pairwise_cons]
    constructor
    · rintro ⟨h1, h2, h3⟩
      refine ⟨fun y hy => ?_, fun y hy => (h2 y hy).1, h3⟩
      rcases List.mem_cons.1 hy with rfl | hy
      · exact h1
      · have := h2 y hy; omega
    · rintro ⟨h1, h2, h3⟩
      refine ⟨h1 x List.mem_cons_self, fun y hy => ?_, h3⟩
      have h4 := h1 y (List.mem_cons_of_mem _ hy)
      have h5 : x.1 + x.2 ≤ y.1 := h2 y hy
      omega
theorem asc_pair {L : List Rg} (h : ascL L) : L.Pairwise fun x y => x.1 ≤ y.1 := by
  rw [List.pairwise_iff_getElem]
  intro i j hi hj hij
  have := h i j hij hj
  rwa [getElem!_pos L i hi, getElem!_pos L j hj] at this
theorem bef_of {t : Int} : ∀ {L : List Rg}, (∀ x ∈ L, ok1 t x) → (L.Pairwise fun x y => x.1 ≤ y.1) → (L.Pairwise apart ↔ L.Pairwise sbef)
  | [], _, _ => by simp
  | x :: r, h1, h2 => by
    rw [List.pairwise_cons] at h2 ⊢
    rw [List.pairwise_cons, bef_of (L := r) (fun y hy => h1 y (List.mem_cons_of_mem _ hy)) h2.2]
    constructor
    · rintro ⟨h3, h4⟩
      refine ⟨fun y hy => ?_, h4⟩
      have h5 := h1 y (List.mem_cons_of_mem _ hy)
      have h6 := h2.1 y hy
      rcases h3 y hy with h | h
      · exact h
      · show x.1 + x.2 ≤ y.1; omega
    · rintro ⟨h3, h4⟩
      exact ⟨fun y hy => .inl (h3 y hy), h4⟩
theorem chn_vld {t : Int} {L M : List Rg} (hp : M.Perm L) (ha : ascL M) (ht : 0 ≤ t ∧ t ≤ 1024) : chn t 0 M ↔ svld t L := by
  rw [← vld_perm hp, chn_iff]
  unfold svld
  constructor
  · rintro ⟨h1, h2⟩
    exact ⟨ht, h1, (bef_of h1 (asc_pair ha)).2 h2⟩
  · rintro ⟨_, h1, h2⟩
    exact ⟨h1, (bef_of h1 (asc_pair ha)).1 h2⟩
theorem chn_step {t : Int} {L : List Rg} {i : Nat} {a : Int} (h : i < L.length) : chn t a (L.drop i) ↔ (a ≤ L[i]!.1 ∧ 1 ≤ L[i]!.2 ∧ L[i]!.1 + L[i]!.2 ≤ t) ∧ chn t (L[i]!.1 + L[i]!.2) (L.drop (i + 1)) := by
  rw [drop_bang h]; exact Iff.rfl
/-- Whether a sector is used. -/
def mkd (L : List Rg) (k : Int) : Bool := L.any fun x => decide (x.1 ≤ k ∧ k < x.1 + x.2)
theorem mkd_iff {L : List Rg} {k : Int} : mkd L k = true ↔ ∃ x ∈ L, x.1 ≤ k ∧ k < x.1 + x.2 := by
  unfold mkd; rw [List.any_eq_true]; simp only [decide_eq_true_eq]
theorem mkd_app (L M : List Rg) (k : Int) : mkd (L ++ M) k = (mkd L k || mkd M k) := List.any_append
def bm (T : Nat) (L : List Rg) : List Bool := (List.range T).map fun k : Nat => mkd L (k : Int)
theorem bm_len (T : Nat) (L : List Rg) : (bm T L).length = T := by simp [bm]
theorem bm_get {T : Nat} {L : List Rg} {k : Nat} (h : k < T) : (bm T L)[k]! = mkd L (k : Int) := by
  rw [getElem!_pos _ k (by rw [bm_len]; exact h)]; simp [bm]
theorem bm_congr {T : Nat} {L M : List Rg} (h : ∀ k : Nat, k < T → mkd L (k : Int) = mkd M (k : Int)) : bm T L = bm T M := by
  unfold bm
  exact List.map_congr_left fun k hk => h k (List.mem_range.1 hk)
theorem bm_none (T : Nat) : bm T [] = List.replicate T false := by
  unfold bm mkd
  apply List.ext_getElem (by simp)
  intro i h1 h2
  simp
theorem bm_set {T : Nat} {L : List Rg} {a : Int} {d : Nat} {k : Nat} (hk : (k : Int) = a + d) (hT : k < T) : (bm T (L ++ [(a, (d : Int))])).set k true = bm T (L ++ [(a, ((d + 1 : Nat) : Int))]) := by
  apply List.ext_getElem (by rw [List.length_set, bm_len, bm_len])
  intro i h1 h2
  rw [bm_len] at h2
  rw [List.getElem_set]
  have g1 : mkd [(a, ((d + 1 : Nat) : Int))] (i : Int) = decide (a ≤ (i : Int) ∧ (i : Int) < a + ((d + 1 : Nat) : Int)) := by simp [mkd]
  have g2 : mkd [(a, (d : Int))] (i : Int) = decide (a ≤ (i : Int) ∧ (i : Int) < a + (d : Int)) := by simp [mkd]
  have e1 : (bm T (L ++ [(a, ((d + 1 : Nat) : Int))]))[i]'(by rw [bm_len]; exact h2) = (mkd L i || decide (a ≤ (i : Int) ∧ (i : Int) < a + ((d + 1 : Nat) : Int))) := by
    rw [← g1, ← mkd_app]; simp [bm]
  have e2 : (bm T (L ++ [(a, (d : Int))]))[i]'(by rw [bm_len]; exact h2) = (mkd L i || decide (a ≤ (i : Int) ∧ (i : Int) < a + (d : Int))) := by
    rw [← g2, ← mkd_app]; simp [bm]
  rw [e1]
  split
  · rename_i e
    rw [decide_eq_true (by omega)]; simp
  · rename_i e
    rw [e2]
    congr 1
    rw [decide_eq_decide]
    omega
theorem mkd_zero (L : List Rg) (a : Int) (k : Int) : mkd (L ++ [(a, 0)]) k = mkd L k := by
  rw [mkd_app]
  have : mkd [(a, (0 : Int))] k = false := by simp [mkd]
  rw [this, Bool.or_false]
theorem bm_zero (T : Nat) (L : List Rg) (a : Int) : bm T (L ++ [(a, ((0 : Nat) : Int))]) = bm T L := bm_congr fun k _ => mkd_zero L a k
theorem pr_len (L : List Rg) : (recs prF L).length = 2 * L.length := by rw [recs_len (f := prF) (w := 2) (fun _ => rfl), Nat.mul_comm]
/-- The maximal runs of sectors that are not used, of the first ones. -/
def incr (l : List Rg) : List Rg := l.dropLast ++ [((l.getLast?.getD (0, 0)).1, (l.getLast?.getD (0, 0)).2 + 1)]
def runs (m : Int → Bool) : Nat → List Rg
  | 0 => []
  | i + 1 => if m (i : Int) = true then runs m i else if 0 < i ∧ m ((i : Int) - 1) = false then incr (runs m i) else runs m i ++ [((i : Int), 1)]
theorem incr_snoc (l : List Rg) (a c : Int) : incr (l ++ [(a, c)]) = l ++ [(a, c + 1)] := by
  unfold incr
  rw [List.dropLast_concat, List.getLast?_concat]; rfl
theorem runs_free {m : Int → Bool} {a : Nat} (h0 : a = 0 ∨ m ((a : Int) - 1) = true) : ∀ {d : Nat}, (∀ k : Nat, a ≤ k → k < a + d → m (k : Int) = false) → 0 < d → runs m (a + d) = runs m a ++ [((a : Int), (d : Int))]
  | 1, h, _ => by
    show (if m (a : Int) = true then runs m a else if 0 < a ∧ m ((a : Int) - 1) = false then incr (runs m a) else runs m a ++ [((a : Int), 1)]) = _
    rw [if_neg (by rw [h a (by omega) (by omega)]; simp), if_neg]
    · rfl
    · rintro ⟨g1, g2⟩
      rcases h0 with h0 | h0
      · omega
      · rw [h0] at g2; cases g2
  | d + 2, h, _ => by
    have ih := runs_free h0 (d := d + 1) (fun k h1 h2 => h k h1 (by omega)) (by omega)
    show (if m ((a + (d + 1) : Nat) : Int) = true then runs m (a + (d + 1)) else if 0 < a + (d + 1) ∧ m (((a + (d + 1) : Nat) : Int) - 1) = false then incr (runs m (a + (d + 1))) else runs m (a + (d + 1)) ++ [(((a + (d + 1) : Nat) : Int), 1)]) = _
    rw [if_neg (by rw [h _ (by omega) (by omega)]; simp), if_pos ⟨by omega, by
      rw [show ((a + (d + 1) : Nat) : Int) - 1 = ((a + d : Nat) : Int) by omega]; exact h _ (by omega) (by omega)⟩, ih, incr_snoc]
    congr 3
theorem runs_used {m : Int → Bool} {a : Nat} : ∀ {d : Nat}, (∀ k : Nat, a ≤ k → k < a + d → m (k : Int) = true) → runs m (a + d) = runs m a
  | 0, _ => rfl
  | d + 1, h => by
    show (if m ((a + d : Nat) : Int) = true then runs m (a + d) else _) = _
    rw [if_pos (h _ (by omega) (by omega)), runs_used fun k h1 h2 => h k h1 (by omega)]
/-- Free. -/
def free (t : Int) (L : List Rg) : List Rg := if svld t L then runs (mkd L) t.toNat else []
end Go.Proofs.YtncnmfdmbfbfjaaGreat
end
section
set_option linter.unusedVariables false
set_option linter.unusedSimpArgs false
set_option maxRecDepth 4000
namespace Go.Proofs.YtncnmfdmbfbfjaaGreat
open Go.Gh Go.RowKit

abbrev bV (b : Bool) : Value := .bool b
theorem stake_bang {α : Type} [Inhabited α] {l : List α} {i : Nat} (h : i < l.length) : l.take (i + 1) = l.take i ++ [l[i]!] := by
  rw [List.take_add_one, List.getElem?_eq_getElem h, getElem!_pos l i h]; rfl
theorem sbang_mem {α : Type} [Inhabited α] {l : List α} {i : Nat} (h : i < l.length) : l[i]! ∈ l := by rw [getElem!_pos l i h]; exact List.getElem_mem h
theorem cell_b {T : Nat} {L : List Rg} {k : Nat} {b : Bool} (hk : k < T) (hb : mkd L (k : Int) = b) : ((bm T L).map bV)[0 + k * 1]? = some (.bool b) := by
  rw [cell_map (by rw [bm_len]; exact hk), bm_get hk, hb]
theorem setAt_b {T : Nat} {L : List Rg} {k : Nat} {M : List Rg} (hk : k < T) (h : (bm T L).set k true = bm T M) : SetAt ((bm T L).map bV) (0 + k * 1) (.bool true) ((bm T M).map bV) := by
  rw [← h]; exact setAt_map (by rw [bm_len]; exact hk)
theorem marks_any (t : Int) (L : List Rg) (v : Value) (h : SH) (hv : Has h (recs prF L) 2 L.length v) (hL : L.length ≤ 9223372036854775807) :
    SRun Tryz.prog 45 [I t, v] h fun r q => (svld t L ∧ ∃ A, r = .tuple #[gsl A 0 (t.toNat * 1) t.toNat 1, B true] ∧ q = (A, ⟨(bm t.toNat L).map bV, false⟩) :: h) ∨ (¬ svld t L ∧ r = .tuple #[.slice none 0 0, B false] ∧ q = h) := by
  obtain ⟨ad, fl, rfl, hh⟩ := hv
  by_cases ht : 0 ≤ t ∧ t ≤ 1024
  · obtain ⟨T, rfl⟩ := Int.eq_ofNat_of_zero_le ht.1
    rw [Int.toNat_natCast]
    have hzr : zrow (.bool false) (T * 1) = (bm T []).map bV := by rw [bm_none]; exact map_zrow (f := bV) false rfl rfl T
    refine w_body2 Tryz.func45 rfl rfl ?_
    repeat' (first | apply w_seq | apply w_region | apply o_nil | (apply o_g tyOk; exact rfl; exact rfl) | (apply o_makeSlice tyOk; (iterate 6 exact rfl); (focus (decide)); (focus (first | omega)); (focus (first | exact hzr)); exact rfl) | (apply o_want; exact rfl; exact rfl) | (apply w_dF; exact rfl; (focus (first | omega))) | apply thenS_normal | apply w_skip | apply w_block | ((with_reducible apply Sd.mk); (first | exact True.intro)) | intro A)
    refine w_loop (S := Nat) (fun i => [(0, I T), (1, .slice ad L.length fl), (6, gsl A 0 (T * 1) T 1), (7, I i)]) (fun i => (A, ⟨(bm T (L.take i)).map bV, false⟩) :: h)
      (fun i => i ≤ L.length ∧ (∀ x ∈ L.take i, ok1 T x) ∧ (L.take i).Pairwise apart) (fun i => L.length - i) 0 ⟨Nat.zero_le _, fun x hx => by simp at hx, by simp⟩ (by repeat' (first | exact trivial | refine ⟨rfl, ?_⟩ | refine ⟨congrArg some ?_, ?_⟩)) (by repeat (first | with_reducible exact Take.nil | with_reducible apply Take.c | ((with_reducible apply Take.cE); (first | exact rfl | (apply blkE; (focus (first | exact rfl | exact recs_snocE rfl | exact map_snocE rfl | exact congrArg (fun v => [v]) (gslE rfl rfl (by first | rfl | exact ‹_› | omega | (simp ; first | done | omega)) (by first | rfl | exact ‹_› | omega | (simp ; first | done | omega)) rfl)))))) | with_reducible apply Take.drop)) ?_
    rintro i ⟨hi, hok, hap⟩
    by_cases hil : i < L.length
    · obtain ⟨A', ro, h1, rfl, hp⟩ := hh (by omega)
      have htb := stake_bang hil
      have hmem := sbang_mem hil
      obtain ⟨⟨xf, xc⟩, hx⟩ : ∃ x, x = L[i]! := ⟨_, rfl⟩
      have hrec : (prF L[i]!) = [I xf, I xc] := by rw [← hx]
      have hsub : SubAt (recs prF L) (0 + ((i : Int)).toNat * 2) [I xf, I xc] := by rw [← hrec]; exact subAt_recZ (fun _ => rfl) hil
      have hlr := pr_len L
      rw [← hx] at htb hmem
      by_cases hok1 : ok1 T (xf, xc)
      · obtain ⟨hx1, hx2, hx3⟩ := hok1
        dsimp only at hx1 hx2 hx3
        have hblm := bm_len T (L.take i)
        repeat' (first | apply w_seq | apply w_region | apply o_nil | (apply o_g tyOk; exact rfl; exact rfl) | (apply o_ar tyOk; exact rfl; exact rfl) | (apply o_load tyOk; (iterate 3 exact rfl); (focus (exact pk))) | (apply o_loads tyOk; (iterate 3 exact rfl); (focus (exact pk))) | (apply o_stores tyOk; (iterate 4 exact rfl); (focus (exact ⟨rfl⟩)); (focus (exact up))) | (apply o_alloc tyOk; iterate 5 exact rfl) | (apply o_want; exact rfl; exact rfl) | (apply o_gF; (iterate 3 exact rfl); (focus (first | omega))) | (apply w_dT; exact rfl; (focus (first | omega))) | (apply w_dF; exact rfl; (focus (first | omega))) | apply thenS_normal | apply w_skip | apply w_block | ((with_reducible apply Sd.mk); (first | exact True.intro | omega)) | ((with_reducible apply Ln.mk); (first | exact hlr | rfl)) | ((with_reducible apply Wr.mk); (first | exact IntWalk.i64_in _ (by omega))) | ((with_reducible apply Ce.mk); (first | rfl)) | ((with_reducible apply Pu.mk); (first | exact putAt_all rfl)) | ((with_reducible apply Su.mk); (first | exact hsub)) | exact True.intro | intro A | exact rfl)
        rename_i A2
        refine w_loop (S := Nat) (fun d => [(0, I T), (1, .slice (some ⟨A', 0, some (2 * L.length)⟩) L.length fl), (6, gsl A2 0 (T * 1) T 1), (7, I i), (8, gptr A 0 2), (9, I (xf + d))]) (fun d => (A, ⟨[I xf, I xc], false⟩) :: (A2, ⟨(bm T (L.take i ++ [(xf, (d : Int))])).map bV, false⟩) :: h)
          (fun d => (d : Int) ≤ xc ∧ ∀ k : Int, xf ≤ k → k < xf + d → mkd (L.take i) k = false) (fun d => xc.toNat - d) 0 ⟨by omega, fun k h1 h2 => by omega⟩ (by rw [show xf + ((0 : Nat) : Int) = xf by omega]; exact (by repeat' (first | exact trivial | refine ⟨rfl, ?_⟩ | refine ⟨congrArg some ?_, ?_⟩))) (by rw [bm_zero]; exact (by repeat (first | with_reducible exact Take.nil | with_reducible apply Take.c | with_reducible apply Take.drop))) ?_
        rintro d ⟨hd, hnm⟩
        by_cases hdc : (d : Int) < xc
        · obtain ⟨k, hk⟩ := Int.eq_ofNat_of_zero_le (show 0 ≤ xf + d by omega)
          have hkT : k < T := by omega
          have hpart : mkd (L.take i ++ [(xf, (d : Int))]) (k : Int) = mkd (L.take i) (k : Int) := by
            rw [mkd_app]
            have : mkd [(xf, (d : Int))] (k : Int) = false := by simp [mkd]; omega
            rw [this, Bool.or_false]
          have hset := bm_set (T := T) (L := L.take i) (a := xf) (d := d) (k := k) (by omega) hkT
          have hbl2 := bm_len T (L.take i ++ [(xf, (d : Int))])
          rw [hk]
          cases hmk : mkd (L.take i) (k : Int) with
          | true =>
            have hcell := cell_b hkT (hpart.trans hmk)
            have hno : ¬ svld T L := fun g => by
              obtain ⟨y, hy, h1, h2⟩ := mkd_iff.1 hmk
              have hpw : (L.take (i + 1)).Pairwise apart := g.2.2.sublist (List.take_sublist _ _)
              rw [htb, List.pairwise_append] at hpw
              have := hpw.2.2 y hy (xf, xc) (by simp)
              unfold apart at this
              dsimp only at this
              omega
            repeat' (first | apply w_seq | apply w_region | apply o_nil | (apply o_g tyOk; exact rfl; exact rfl) | (apply o_ar tyOk; exact rfl; exact rfl) | (apply o_load tyOk; (iterate 3 exact rfl); (focus (exact pk))) | (apply w_true; exact rfl) | (apply w_dT; exact rfl; (focus (first | omega))) | apply thenS_normal | apply thenS_ret | apply blockS_ret | apply w_skip | apply w_ret | apply w_block | ((with_reducible apply Sd.mk); (first | exact True.intro | omega)) | ((with_reducible apply Ln.mk); (first | rfl | (simp [hbl2]; first | done | omega))) | ((with_reducible apply Wr.mk); (first | exact IntWalk.i64_in _ (by omega))) | ((with_reducible apply Ce.mk); (first | rfl | exact hcell)) | exact True.intro | exact rfl)
            all_goals first
              | (exfalso; omega)
              | (apply s_fin; (exact (show ResS _ _ _ _ [_, _] from ⟨rfl, ⟨rfl, trivial⟩⟩)); (focus (exact .inr ⟨hno, rfl, rfl⟩)); (focus (repeat (first | with_reducible exact Take.nil | with_reducible apply Take.c | with_reducible apply Take.drop))))
              | trace_state
          | false =>
            have hcell := cell_b hkT (hpart.trans hmk)
            have hsa := setAt_b hkT hset
            repeat' (first | apply w_seq | apply w_region | apply o_nil | (apply o_g tyOk; exact rfl; exact rfl) | (apply o_ar tyOk; exact rfl; exact rfl) | (apply o_load tyOk; (iterate 3 exact rfl); (focus (exact pk))) | (apply o_store tyOk; (iterate 4 exact rfl); (focus (exact up))) | (apply w_false; exact rfl) | (apply w_dT; exact rfl; (focus (first | omega))) | apply thenS_normal | apply blockS_normal | apply w_skip | apply w_block | ((with_reducible apply Sd.mk); (first | exact True.intro | omega)) | ((with_reducible apply Ln.mk); (first | rfl | (simp [hbl2]; first | done | omega))) | ((with_reducible apply Wr.mk); (first | exact IntWalk.i64_in _ (by omega))) | ((with_reducible apply Ce.mk); (first | rfl | exact hcell)) | ((with_reducible apply Se.mk); (first | exact hsa)) | exact True.intro | exact rfl)
            all_goals first
              | (exfalso; omega)
              | exact ⟨d + 1, ⟨by omega, fun j h1 h2 => by
                  by_cases e : j = (k : Int)
                  · rw [e]; exact hmk
                  · exact hnm j h1 (by omega)⟩, by show xc.toNat - (d + 1) < xc.toNat - d; omega, (by rw [show xf + ((d + 1 : Nat) : Int) = (k : Int) + 1 by omega]; exact (by repeat' (first | exact trivial | refine ⟨rfl, ?_⟩ | refine ⟨congrArg some ?_, ?_⟩))), (by repeat (first | with_reducible exact Take.nil | with_reducible apply Take.c | with_reducible apply Take.drop))⟩
              | trace_state
        · obtain rfl : xc = d := by omega
          have hap2 : (L.take (i + 1)).Pairwise apart := by
            rw [htb, List.pairwise_append]
            refine ⟨hap, by simp, fun y hy z hz => ?_⟩
            obtain rfl : z = (xf, (d : Int)) := by simpa using hz
            have hy1 := hok y hy
            unfold apart
            dsimp only at hy1 ⊢
            by_cases g : y.1 + y.2 ≤ xf ∨ xf + d ≤ y.1
            · exact g
            · exfalso
              have := hnm (max xf y.1) (by omega) (by omega)
              have h2 := mkd_iff.2 ⟨y, hy, (by omega : y.1 ≤ max xf y.1), (by omega : max xf y.1 < y.1 + y.2)⟩
              rw [this] at h2; cases h2
          have hok2 : ∀ x ∈ L.take (i + 1), ok1 T x := fun x hx => by
            rw [htb] at hx
            rcases List.mem_append.1 hx with hx | hx
            · exact hok x hx
            · obtain rfl : x = (xf, (d : Int)) := by simpa using hx
              exact ⟨hx1, hx2, hx3⟩
          repeat' (first | apply w_seq | apply w_region | apply o_nil | (apply o_g tyOk; exact rfl; exact rfl) | (apply o_ar tyOk; exact rfl; exact rfl) | (apply o_load tyOk; (iterate 3 exact rfl); (focus (exact pk))) | (apply w_dF; exact rfl; (focus (first | omega))) | apply thenS_normal | apply thenS_exit | apply blockS_normal | apply blockS_exit | apply w_exit | ((with_reducible apply Sd.mk); (first | exact True.intro)) | ((with_reducible apply Ln.mk); (first | rfl)) | ((with_reducible apply Wr.mk); (first | exact IntWalk.i64_in _ (by omega))) | ((with_reducible apply Ce.mk); (first | rfl)) | exact True.intro | exact rfl)
          all_goals first
            | (exfalso; omega)
            | exact ⟨i + 1, ⟨hil, hok2, hap2⟩, by show L.length - (i + 1) < _; omega, (by repeat' (first | exact trivial | refine ⟨rfl, ?_⟩ | refine ⟨congrArg some ?_, ?_⟩)), by rw [htb]; exact (by repeat (first | with_reducible exact Take.nil | with_reducible apply Take.c | with_reducible apply Take.drop))⟩
            | trace_state
      · have hno : ¬ svld T L := fun g => hok1 (g.2.1 _ hmem)
        unfold ok1 at hok1
        dsimp only at hok1
        repeat' ((fail_if_success (show SWp _ _ (Code.seq (Code.region 10 _ _) _) _ _ _)); (fail_if_success (show SWp _ _ (Code.region 10 _ _) _ _ _)); first | apply w_seq | apply w_region | apply o_nil | (apply o_g tyOk; exact rfl; exact rfl) | (apply o_ar tyOk; exact rfl; exact rfl) | (apply o_load tyOk; (iterate 3 exact rfl); (focus (exact pk))) | (apply o_loads tyOk; (iterate 3 exact rfl); (focus (exact pk))) | (apply o_stores tyOk; (iterate 4 exact rfl); (focus (exact ⟨rfl⟩)); (focus (exact up))) | (apply o_alloc tyOk; iterate 5 exact rfl) | (apply o_want; exact rfl; exact rfl) | (apply o_skip; iterate 4 exact rfl) | (apply o_guardF; (iterate 3 exact rfl); all_goals intro hc) | (apply w_true; exact rfl) | (apply w_dT; exact rfl; (focus (first | omega))) | apply thenS_normal | apply thenS_ret | apply blockS_ret | apply w_skip | apply w_ret | apply w_block | ((with_reducible apply Sd.mk); (first | exact True.intro | omega)) | ((with_reducible apply Ln.mk); (first | exact hlr | rfl)) | ((with_reducible apply Wr.mk); (first | exact IntWalk.i64_in _ (by omega))) | ((with_reducible apply Ce.mk); (first | rfl)) | ((with_reducible apply Pu.mk); (first | exact putAt_all rfl)) | ((with_reducible apply Su.mk); (first | exact hsub)) | exact True.intro | intro A | exact rfl)
        all_goals first
          | (apply s_fin; (exact (show ResS _ _ _ _ [_, _] from ⟨rfl, ⟨rfl, trivial⟩⟩)); (focus (exact .inr ⟨hno, rfl, rfl⟩)); (focus (repeat (first | with_reducible exact Take.nil | with_reducible apply Take.c | with_reducible apply Take.drop))))
          | (exfalso; omega)
          | trace_state
    · obtain rfl : i = L.length := by omega
      rw [List.take_length] at hok hap ⊢
      repeat' (first | apply w_seq | apply w_region | apply o_nil | (apply o_g tyOk; exact rfl; exact rfl) | (apply w_dF; exact rfl; (focus (first | omega))) | apply thenS_normal | apply thenS_exit | apply blockS_exit | apply w_ret | apply w_exit | ((with_reducible apply Sd.mk); (first | exact True.intro)))
      all_goals first
        | (exfalso; omega)
        | (apply s_fin; (exact (show ResS _ _ _ _ [_, _] from ⟨rfl, ⟨rfl, trivial⟩⟩)); (focus (exact .inl ⟨⟨ht, hok, hap⟩, A, rfl, rfl⟩)); (focus (repeat (first | with_reducible exact Take.nil | with_reducible apply Take.c | with_reducible apply Take.drop))))
        | trace_state
  · have hno : ¬ svld t L := fun g => ht g.1
    refine w_body2 Tryz.func45 rfl rfl ?_
    repeat' ((fail_if_success (show SWp _ _ (Code.seq (Code.region 3 _ _) _) _ _ _)); (fail_if_success (show SWp _ _ (Code.region 3 _ _) _ _ _)); first | apply w_seq | apply w_region | apply o_nil | (apply o_g tyOk; exact rfl; exact rfl) | (apply o_want; exact rfl; exact rfl) | (apply o_skip; iterate 4 exact rfl) | (apply o_guardF; (iterate 3 exact rfl); all_goals intro hc) | (apply w_true; exact rfl) | (apply w_dT; exact rfl; (focus (first | omega))) | apply thenS_normal | apply thenS_ret | apply w_ret | ((with_reducible apply Sd.mk); (first | exact True.intro)))
    all_goals first
      | (exfalso; omega)
      | (apply s_fin; (exact (show ResS _ _ _ _ [_, _] from ⟨rfl, ⟨rfl, trivial⟩⟩)); (focus (exact .inr ⟨hno, rfl, rfl⟩)); (focus (repeat (first | with_reducible exact Take.nil | with_reducible apply Take.c | with_reducible apply Take.drop))))
      | trace_state
end Go.Proofs.YtncnmfdmbfbfjaaGreat
end
section
set_option linter.unusedVariables false
set_option linter.unusedSimpArgs false
set_option maxRecDepth 4000
namespace Go.Proofs.YtncnmfdmbfbfjaaGreat
open Go.Gh Go.RowKit

theorem rSValid_any (t : Int) (L : List Rg) (v : Value) (h : SH) (hv : Has h (recs prF L) 2 L.length v) (hL : L.length ≤ 9223372036854775807) :
    SRun Tryz.prog 30 [I t, v] h fun r q => r = B (decide (svld t L)) ∧ q = h := by
  refine w_body2 Tryz.func30 rfl rfl ?_
  repeat' (first | apply w_seq | apply w_region | apply o_nil | (apply o_g tyOk; exact rfl; exact rfl) | (apply o_call; exact rfl; exact rfl; (focus (first | exact rfl)); exact rfl; (focus (exact ⟨_, marks_any t L v _ hv hL, by repeat (first | with_reducible exact Take.nil)⟩)); rintro _ _ ((⟨hvl, A, rfl, rfl⟩ | ⟨hvl, rfl, rfl⟩))) | apply thenS_normal | apply w_ret | ((with_reducible apply Sd.mk); (first | exact True.intro)))
  · (apply s_fin; (exact (show ResS _ _ _ _ [_] from ⟨rfl, trivial⟩)); (focus (exact ⟨congrArg B (decide_eq_true hvl).symm, rfl⟩)); (focus (repeat (first | with_reducible exact Take.nil | with_reducible apply Take.c | with_reducible apply Take.drop))))
  · (apply s_fin; (exact (show ResS _ _ _ _ [_] from ⟨rfl, trivial⟩)); (focus (exact ⟨congrArg B (decide_eq_false hvl).symm, rfl⟩)); (focus (repeat (first | with_reducible exact Take.nil | with_reducible apply Take.c | with_reducible apply Take.drop))))
end Go.Proofs.YtncnmfdmbfbfjaaGreat
end
section
set_option linter.unusedVariables false
set_option linter.unusedSimpArgs false
set_option maxRecDepth 4000
namespace Go.Gh
open Go.RowKit

theorem vrel_det {φ : Nat → Loc} {L : Lens} {as0 : List Value} {vs : Array Value} (hc : as0.all constOk = true) (h : VRel φ L as0 vs) : vs = as0.toArray := by
  obtain ⟨hs, hg⟩ := h
  refine Array.ext (by simpa using hs) fun i hi hi' => ?_
  have hl : i < as0.length := by simpa using hi'
  obtain ⟨v, g1, g2⟩ := hg i as0[i] (by simp [hl])
  have := Val.det ((List.all_eq_true.1 hc) as0[i] (List.getElem_mem hl)) g2
  rw [Array.getElem?_eq_getElem hi] at g1
  simp only [Option.some.injEq] at g1
  rw [g1, this]; simp
/-- A call that hands back a value without addresses and makes new blocks alone. -/
theorem srun_lib {P : Program} {f : FuncId} {as0 : List Value} {v : Value} {h : SH} (hc : as0.all constOk = true) (hv : constOk v = true)
    (k : ∀ w : World, Calls P f as0.toArray w fun e w' => e = .returned v ∧ Below w.heap.size w w') : SRun P f as0 h fun r q => r = v ∧ q = h := by
  unfold SRun
  intro H i
  unfold Run
  intro B0 w0 φs Ls φ w vs he hr hvs
  rw [vrel_det hc hvs]
  refine (k w).mono ?_
  rintro e w' ⟨rfl, hb⟩
  exact ⟨φ, v, H, v, he, hr.later hb, rfl, Val.const hv, h, ⟨rfl, rfl⟩, i⟩
end Go.Gh
end
section
set_option linter.unusedVariables false
set_option linter.unusedSimpArgs false
set_option maxRecDepth 4000
namespace Go.Gh
open Go.RowKit Go.Proofs Go.Sort

theorem flat_pr (L : List (Int × Int)) (j : Nat) (hj : j < L.length * 2) : (recs prF L)[j]? = some ((flatK prF 2 L.toArray)[j]!) := by
  have h1 := recs_get (f := prF) (l := L) (w := 2) (fun _ => rfl) (i := j / 2) (j := j % 2) (by omega) (by omega)
  rw [show j / 2 * 2 + j % 2 = j by omega] at h1
  rw [h1, get_flatK prF 2 L.toArray j (by simpa using hj)]
  have e : L.toArray[j / 2]! = L[j / 2]! := by simp
  rw [e]
  rcases (show j % 2 = 0 ∨ j % 2 = 1 by omega) with g | g <;> rw [g] <;> rfl
theorem srun_sort {P : Program} {f g : FuncId} {A n : Nat} {L : List (Int × Int)} {lt : Int × Int → Int × Int → Bool} {h : SH} (hn : L.length = n) (hlt : ∀ x y, lt x y = decide (x.1 < y.1))
    (k : ∀ (w : World) (blk cap : Nat), HoldsK prF 2 w blk 0 L.toArray → blk < w.heap.size → Calls P f #[.slice (some ⟨blk, 0, none⟩) L.toArray.size cap, .func (.func g) #[] #[]] w fun e w' =>
      e = .returned (.tuple #[]) ∧ ∃ d' m os, Sort.PermIn 0 L.toArray.size L.toArray d' ∧ Sort.SortedIn lt 0 L.toArray.size d' ∧ w' = sortWorldK prF 2 w blk 0 m d' os) :
    SRun P f [gsl A 0 (n * 2) n 2, .func (.func g) ⟨[]⟩ ⟨[]⟩] ((A, ⟨recs prF L, false⟩) :: h) fun r q => ∃ L' : List (Int × Int), L'.Perm L ∧ ascL L' ∧ r = .tuple #[] ∧ q = (A, ⟨recs prF L', false⟩) :: h := by
  unfold SRun
  intro H i
  unfold Run
  intro B0 w0 φs Ls φ w vs he hr hvs
  have hA := i.look .head
  have hcl : (recs prF L).length = n * 2 := by rw [recs_len (f := prF) (w := 2) (fun _ => rfl), hn]
  obtain ⟨hs, hg⟩ := hvs
  obtain ⟨u0, g0, e0⟩ := hg 0 _ rfl
  obtain ⟨u1, g1, e1⟩ := hg 1 _ rfl
  have hu : u1 = .func (.func g) #[] #[] := by
    cases e1 with
    | func _ _ b _ d q1 q2 q3 q4 =>
      have h1 : b = #[] := Array.eq_empty_of_size_eq_zero (by simpa using q1.symm)
      have h2 : d = #[] := Array.eq_empty_of_size_eq_zero (by simpa using q3.symm)
      rw [h1, h2]
  rw [hu] at g1
  have hlen : lens H A = some (n * 2) := by unfold lens; rw [hA]; simp [hcl]
  cases e0 with
  | slc _ _ _ m _ _ cap c hL hvn hc hm hx =>
    rw [hlen] at hL
    cases hL
    obtain ⟨rfl, _, hmp⟩ := hx rfl
    obtain ⟨hB0, hbase⟩ := hr.own A _ hA rfl
    rw [hbase] at g0
    have hvs : vs = #[.slice (some ⟨(φ A).b, 0, none⟩) L.toArray.size cap, .func (.func g) #[] #[]] := by
      refine Array.ext (by simpa using hs) fun j h1 h2 => ?_
      match j, h2 with
      | 0, _ => rw [Array.getElem?_eq_getElem (by omega)] at g0; rw [Option.some.inj g0]; simp [hn]
      | 1, _ => rw [Array.getElem?_eq_getElem (by omega)] at g1; exact Option.some.inj g1
    rw [hvs]
    obtain ⟨c, T, fz, q1, q2, q3, q4, q5⟩ := (hr.blk A _ hA).ex hmp
    rw [hbase, Nat.zero_add] at q3
    have hcell : ∀ j, j < L.length * 2 → c[j]? = some ((flatK prF 2 L.toArray)[j]!) := fun j hj => by
      have hf := flat_pr L j hj
      obtain ⟨v', k1, k2⟩ := q5 j _ hf
      rw [hbase, Nat.zero_add] at k1
      have hcv : constOk ((flatK prF 2 L.toArray)[j]!) = true := by
        rw [get_flatK prF 2 L.toArray j (by simpa using hj)]
        rcases (show j % 2 = 0 ∨ j % 2 = 1 by omega) with g | g <;> rw [g] <;> rfl
      rw [k1, Val.det hcv k2]
    have hH : HoldsK prF 2 w (φ A).b 0 L.toArray := fun j hj => by
      rw [size_flatK] at hj
      have hj' : j < L.length * 2 := by simpa using hj
      refine ⟨?_, ?_⟩
      · unfold World.cell?
        rw [q1]
        simp only [Nat.zero_add]
        exact hcell j hj'
      · unfold World.frozen?
        rw [q1]
        have := q4 rfl j (by simp only at q3; omega)
        simp only [Nat.zero_add, Bool.and_eq_false_iff, decide_eq_false_iff_not]
        omega
    refine (k w (φ A).b cap hH (hr.lt hA)).mono ?_
    rintro e w' ⟨rfl, d', mm, os, hp, hsrt, rfl⟩
    obtain ⟨p1, p2, p3⟩ := hp
    have hsz : d'.toList.length = L.length := by simpa using p1
    have hperm : d'.toList.Perm L := by
      have e1 : (d'.extract 0 L.toArray.size).toList = d'.toList := by
        rw [← p1]; simp
      have e2 : (L.toArray.extract 0 L.toArray.size).toList = L := by simp
      rw [e1, e2] at p3
      exact p3
    have hasc : ascL d'.toList := fun a b hab hb => by
      have := hsrt a b (Nat.zero_le _) hab (by simpa [← p1] using hb)
      rw [hlt] at this
      have h2 := of_decide_eq_false this
      simp only [Array.getElem!_toList] at *
      omega
    have hlt0 := hr.lt hA
    have hheap : (sortWorldK prF 2 w (φ A).b 0 mm d' os).heap = (w.heap.modify (φ A).b (onCells (putCells id 0 (flatK prF 2 d')))) ++ os := rfl
    have hnew : (sortWorldK prF 2 w (φ A).b 0 mm d' os).heap[(φ A).b]? = some (.cells (putCells id 0 (flatK prF 2 d') c) T fz) := by
      rw [hheap, Array.getElem?_append_left (by simpa using hlt0), Array.getElem?_modify, if_pos rfl, q1]
      rfl
    have hps : (putCells id 0 (flatK prF 2 d') c).size = c.size := by simp [putCells]
    obtain ⟨x1, x2⟩ := rel_setO (w' := sortWorldK prF 2 w (φ A).b 0 mm d' os) (g' := ⟨recs prF d'.toList, false⟩) (l' := φ A) hr hA rfl rfl rfl rfl
      (by rw [hheap]; simp)
      (fun q hq hne => by
        rw [hheap, Array.getElem?_append_left (by simpa using hq), Array.getElem?_modify, if_neg (fun e => hne e.symm)])
      (.inl rfl) hbase (.inl ⟨by simp only [recs_len (f := prF) (w := 2) (fun _ => rfl), hsz], rfl⟩)
      (fun hext => by
        refine ⟨_, _, hnew, .cells hmp (by rw [hps]; exact q2) (fun _ => by rw [hps]; exact q4 rfl), ?_, fun j v hj => ?_⟩
        · rw [hbase, hps]; simp only [recs_len (f := prF) (w := 2) (fun _ => rfl), hsz] at q3 ⊢; omega
        · have hj2 := (List.getElem?_eq_some_iff.1 hj).1
          rw [recs_len (f := prF) (w := 2) (fun _ => rfl), hsz] at hj2
          have hf := flat_pr d'.toList j (by omega)
          rw [hf] at hj
          obtain rfl := Option.some.inj hj
          have hcv : constOk ((flatK prF 2 d'.toList.toArray)[j]!) = true := by
            have hd : d'.toList.toArray.size = L.length := by simpa using p1
            rw [get_flatK prF 2 d'.toList.toArray j (by rw [hd]; exact hj2)]
            rcases (show j % 2 = 0 ∨ j % 2 = 1 by omega) with g | g <;> rw [g] <;> rfl
          refine ⟨_, ?_, Val.const hcv⟩
          rw [hbase, Nat.zero_add]
          unfold putCells
          rw [Array.getElem?_mapIdx, hcell j (by omega)]
          simp only [Option.map_some, Nat.zero_le, Nat.zero_add, true_and, Nat.sub_zero, id]
          rw [if_pos (by rw [size_flatK]; have : d'.size = L.length := by simpa using p1
                         omega)])
    have hupd : upd φ A (φ A) = φ := by funext B; unfold upd; split <;> simp_all
    rw [hupd] at x1 x2
    refine ⟨φ, .tuple #[], _, .tuple #[], he.trans x1, x2, rfl, Val.const rfl, (A, ⟨recs prF d'.toList, false⟩) :: h, ⟨d'.toList, hperm, hasc, rfl, rfl⟩, i.upd .head⟩
end Go.Gh
end
section
namespace Go.Proofs
open Go.Shelf
def Tryz.lays125_ren : Go.Shelf.Ren := ⟨fun | 125 => 74 | 128 => 96 | 129 => 97 | n => n, fun | 46 => 99 | 3 => 3 | 51 => 97 | 53 => 151 | 4 => 4 | 5 => 5 | 9 => 9 | n => n, fun | n => n⟩
theorem Tryz.lays125 : Go.Proofs.Lays.n125 Tryz.prog Tryz.lays125_ren := {
  mixed := by kernel_rfl
  f125 := Tryz.func74.trans (congrArg some (by kernel_rfl))
  f128 := Tryz.func96.trans (congrArg some (by kernel_rfl))
  f129 := Tryz.func97.trans (congrArg some (by kernel_rfl))
  t3 := Tryz.underlying3
  a3 := Tryz.isAgg3
  z3 := Tryz.sizeOf3
  v3 := Tryz.zeroValue3
  t4 := Tryz.underlying4
  a4 := Tryz.isAgg4
  z4 := Tryz.sizeOf4
  v4 := Tryz.zeroValue4
  t5 := Tryz.underlying5
  a5 := Tryz.isAgg5
  z5 := Tryz.sizeOf5
  v5 := Tryz.zeroValue5
  t9 := Tryz.underlying9
  a9 := Tryz.isAgg9
  z9 := Tryz.sizeOf9
  v9 := Tryz.zeroValue9
  t46 := Tryz.underlying99
  a46 := Tryz.isAgg99
  z46 := Tryz.sizeOf99
  v46 := Tryz.zeroValue99
  t51 := Tryz.underlying97
  a51 := Tryz.isAgg97
  z51 := Tryz.sizeOf97
  v51 := Tryz.zeroValue97
  t53 := Tryz.underlying151
  a53 := Tryz.isAgg151
  z53 := Tryz.sizeOf151
  v53 := Tryz.zeroValue151 }
/-- bits.Len: "Len returns the minimum number of bits required to represent x; the result is 0 for x == 0.": IT RETURNS 'Lib.bitLen x'; the world is as it was. (A uint has 64 bits in the model.) ITS CALLEE bits.Len64 IS MET BY ITS OWN CONTRACT OFF THE SHELF (lay that first). (LAID: no walk: one application.) -/
theorem Tryz.bits_Len (x : Int) (w : World) (h0 : 0 ≤ x) (h1 : x ≤ 18446744073709551615) :
    Calls Tryz.prog 74 #[.int .u64 x] w fun e w' => e = .returned (.int .i64 (Lib.bitLen x.toNat)) ∧ w' = w := Any.bits_Len Tryz.lays125 x w h0 h1
def Tryz.laysSlC25_f66_ren : Go.Shelf.Ren := ⟨fun | 5 => 66 | 7 => 86 | n => n, fun | 22 => 3 | 3 => 3 | 4 => 4 | n => n, fun | n => n⟩
theorem Tryz.laysSlC25_f66 : Go.Proofs.SlLaysC2.n5 Tryz.prog Tryz.laysSlC25_f66_ren := {
  mixed := by kernel_rfl
  f5 := ⟨Tryz.f66.name, by decide, Tryz.func66.trans (congrArg some (by kernel_rfl))⟩
  f7 := ⟨Tryz.f86.name, by decide, Tryz.func86.trans (congrArg some (by kernel_rfl))⟩
  t3 := Tryz.underlying3
  a3 := Tryz.isAgg3
  z3 := Tryz.sizeOf3
  v3 := Tryz.zeroValue3
  t4 := Tryz.underlying4
  a4 := Tryz.isAgg4
  z4 := Tryz.sizeOf4
  v4 := Tryz.zeroValue4
  t22 := Tryz.underlying3
  a22 := Tryz.isAgg3
  z22 := Tryz.sizeOf3
  v22 := Tryz.zeroValue3 }
open Go.Lib in
/-- cmp.Compare at an int under a name: "Compare returns -1 if x is less than y, 0 if x equals y, +1 if x is greater than y.": IT RETURNS 'Lib.compareInt x y'; the world is as it was. (LAID AT THE INSTANCE 'cmp.Compare[int]': no walk: one application.) -/
theorem Tryz.cmp_Compare_int (x y : Int) (w : World) :
    Calls Tryz.prog 66 #[.int .i64 x, .int .i64 y] w fun e w' => e = .returned (.int .i64 (Lib.compareInt x y)) ∧ w' = w := AnyG.cmp_Compare_int Tryz.laysSlC25_f66 x y w
def Tryz.sortIv_ren : Go.Shelf.Ren := ⟨fun | 6 => 64 | 15 => 74 | 14 => 85 | 28 => 96 | 29 => 97 | 20 => 101 | 21 => 102 | 22 => 103 | 23 => 104 | 24 => 105 | 25 => 106 | 26 => 107 | 27 => 108 | 46 => 116 | 47 => 117 | 48 => 118 | 49 => 119 | 50 => 120 | 57 => 126 | n => n, fun | 22 => 33 | 24 => 53 | 25 => 109 | 3 => 3 | 39 => 99 | 0 => 0 | 53 => 97 | 55 => 151 | 4 => 4 | 46 => 157 | 45 => 156 | 50 => 43 | 5 => 5 | 9 => 9 | 66 => 169 | 70 => 173 | 76 => 178 | 77 => 179 | n => n, fun | n => n⟩
theorem Tryz.sortIv : Go.Proofs.SlLaysF0.n6 Tryz.prog Tryz.sortIv_ren := {
  mixed := by kernel_rfl
  f6 := ⟨Tryz.f64.name, by decide, Tryz.func64.trans (congrArg some (by kernel_rfl))⟩
  f14 := ⟨Tryz.f85.name, by decide, Tryz.func85.trans (congrArg some (by kernel_rfl))⟩
  f15 := Tryz.func74.trans (congrArg some (by kernel_rfl))
  f20 := ⟨Tryz.f101.name, by decide, Tryz.func101.trans (congrArg some (by kernel_rfl))⟩
  f21 := ⟨Tryz.f102.name, by decide, Tryz.func102.trans (congrArg some (by kernel_rfl))⟩
  f22 := ⟨Tryz.f103.name, by decide, Tryz.func103.trans (congrArg some (by kernel_rfl))⟩
  f23 := ⟨Tryz.f104.name, by decide, Tryz.func104.trans (congrArg some (by kernel_rfl))⟩
  f24 := ⟨Tryz.f105.name, by decide, Tryz.func105.trans (congrArg some (by kernel_rfl))⟩
  f25 := ⟨Tryz.f106.name, by decide, Tryz.func106.trans (congrArg some (by kernel_rfl))⟩
  f26 := ⟨Tryz.f107.name, by decide, Tryz.func107.trans (congrArg some (by kernel_rfl))⟩
  f27 := ⟨Tryz.f108.name, by decide, Tryz.func108.trans (congrArg some (by kernel_rfl))⟩
  f28 := Tryz.func96.trans (congrArg some (by kernel_rfl))
  f29 := Tryz.func97.trans (congrArg some (by kernel_rfl))
  f46 := ⟨Tryz.f116.name, by decide, Tryz.func116.trans (congrArg some (by kernel_rfl))⟩
  f47 := Tryz.func117.trans (congrArg some (by kernel_rfl))
  f48 := Tryz.func118.trans (congrArg some (by kernel_rfl))
  f49 := ⟨Tryz.f119.name, by decide, Tryz.func119.trans (congrArg some (by kernel_rfl))⟩
  f50 := ⟨Tryz.f120.name, by decide, Tryz.func120.trans (congrArg some (by kernel_rfl))⟩
  f57 := ⟨Tryz.f126.name, by decide, Tryz.func126.trans (congrArg some (by kernel_rfl))⟩
  t0 := Tryz.underlying0
  a0 := Tryz.isAgg0
  z0 := Tryz.sizeOf0
  v0 := Tryz.zeroValue0
  t3 := Tryz.underlying3
  a3 := Tryz.isAgg3
  z3 := Tryz.sizeOf3
  v3 := Tryz.zeroValue3
  t4 := Tryz.underlying4
  a4 := Tryz.isAgg4
  z4 := Tryz.sizeOf4
  v4 := Tryz.zeroValue4
  t5 := Tryz.underlying5
  a5 := Tryz.isAgg5
  z5 := Tryz.sizeOf5
  v5 := Tryz.zeroValue5
  t9 := Tryz.underlying9
  a9 := Tryz.isAgg9
  z9 := Tryz.sizeOf9
  v9 := Tryz.zeroValue9
  t22 := Tryz.underlying33
  a22 := Tryz.isAgg33
  z22 := Tryz.sizeOf33
  v22 := Tryz.zeroValue33
  t25 := Tryz.underlying109
  a25 := Tryz.isAgg109
  z25 := Tryz.sizeOf109
  v25 := Tryz.zeroValue109
  t39 := Tryz.underlying99
  a39 := Tryz.isAgg99
  z39 := Tryz.sizeOf99
  v39 := Tryz.zeroValue99
  t45 := Tryz.underlying156
  a45 := Tryz.isAgg156
  z45 := Tryz.sizeOf156
  v45 := Tryz.zeroValue156
  t46 := Tryz.underlying157
  a46 := Tryz.isAgg157
  z46 := Tryz.sizeOf157
  v46 := Tryz.zeroValue157
  t50 := Tryz.underlying43
  a50 := Tryz.isAgg43
  z50 := Tryz.sizeOf43
  v50 := Tryz.zeroValue43
  t53 := Tryz.underlying97
  a53 := Tryz.isAgg97
  z53 := Tryz.sizeOf97
  v53 := Tryz.zeroValue97
  t55 := Tryz.underlying151
  a55 := Tryz.isAgg151
  z55 := Tryz.sizeOf151
  v55 := Tryz.zeroValue151
  t66 := Tryz.underlying169
  a66 := Tryz.isAgg169
  z66 := Tryz.sizeOf169
  v66 := Tryz.zeroValue169
  t70 := Tryz.underlying173
  a70 := Tryz.isAgg173
  z70 := Tryz.sizeOf173
  v70 := Tryz.zeroValue173
  t76 := Tryz.underlying178
  a76 := Tryz.isAgg178
  z76 := Tryz.sizeOf178
  v76 := Tryz.zeroValue178
  t77 := Tryz.underlying179
  a77 := Tryz.isAgg179
  z77 := Tryz.sizeOf179
  v77 := Tryz.zeroValue179 }
def Tryz.cmpInt_ren : Go.Shelf.Ren := ⟨fun | 5 => 66 | 7 => 86 | n => n, fun | 22 => 3 | 3 => 3 | 4 => 4 | n => n, fun | n => n⟩
theorem Tryz.cmpInt : Go.Proofs.SlLaysC2.n5 Tryz.prog Tryz.cmpInt_ren := {
  mixed := by kernel_rfl
  f5 := ⟨Tryz.f66.name, by decide, Tryz.func66.trans (congrArg some (by kernel_rfl))⟩
  f7 := ⟨Tryz.f86.name, by decide, Tryz.func86.trans (congrArg some (by kernel_rfl))⟩
  t3 := Tryz.underlying3
  a3 := Tryz.isAgg3
  z3 := Tryz.sizeOf3
  v3 := Tryz.zeroValue3
  t4 := Tryz.underlying4
  a4 := Tryz.isAgg4
  z4 := Tryz.sizeOf4
  v4 := Tryz.zeroValue4
  t22 := Tryz.underlying3
  a22 := Tryz.isAgg3
  z22 := Tryz.sizeOf3
  v22 := Tryz.zeroValue3 }
end Go.Proofs
end
section
set_option linter.unusedVariables false
set_option linter.unusedSimpArgs false
set_option maxRecDepth 4000
namespace Go.Proofs
open Go.Shelf Go.RowKit Go.Lib Go.Sort

theorem Tryz.ltLo (x y : Int × Int) : ltOf (fun x y : Int × Int => Lib.compareInt x.1 y.1) x y = decide (x.1 < y.1) := by
  unfold ltOf Lib.compareInt
  by_cases h1 : x.1 < y.1
  · simp [h1]
  · by_cases h2 : y.1 < x.1 <;> simp [h1, h2]
theorem Tryz.swoLo : SWO (ltOf fun x y : Int × Int => Lib.compareInt x.1 y.1) where
  irrefl x := by rw [Tryz.ltLo]; simp
  trans x y z h1 h2 := by rw [Tryz.ltLo] at *; simp at *; omega
  ntrans x y z h1 h2 := by rw [Tryz.ltLo] at *; simp at *; omega
set_option maxHeartbeats 1000000 in
/-- The closure that compares two regions: two blocks are laid. -/
theorem Tryz.closure36 (x y : Int × Int) (W : World) : Calls Tryz.prog 65 #[.agg #[.int .i64 x.1, .int .i64 x.2], .agg #[.int .i64 y.1, .int .i64 y.2]] W fun e w' => e = .returned (.int .i64 (Lib.compareInt x.1 y.1)) ∧ ∃ q os', w' = grow (W.drewN q) os' := by
  have hcon := fun W' => AnyG.cmp_Compare_int Tryz.cmpInt x.1 y.1 W'
  change ∀ W', Calls Tryz.prog 66 _ _ _ at hcon
  generalize Lib.compareInt x.1 y.1 = r at hcon ⊢
  go_enter Tryz.func65, Tryz.ntmps65
  go_wp2_with (go_at_call 66; refine (hcon _).mono ?_; rintro e w' ⟨rfl, rfl⟩)
  go_ret
  exact ⟨rfl, 0, _, by rw [alloc_eq_grow, alloc_eq_grow, grow_grow]; rfl⟩
theorem Tryz.cmpLays36 (blk off size : Nat) (w : World) : CmpLays Tryz.prog 65 #[] Go.Gh.prF 2 (fun x y => Lib.compareInt x.1 y.1) blk off size w :=
  fun _ _ _ _ x y => Tryz.closure36 x y _
end Go.Proofs
namespace Go.Proofs.YtncnmfdmbfbfjaaGreat
open Go.Gh Go.RowKit

theorem SortFunc_any (L : List (Int × Int)) (A n : Nat) (h : SH) (hn : L.length = n) (hb : n ≤ 100000) :
    SRun Tryz.prog 64 [gsl A 0 (n * 2) n 2, .func (.func 65) ⟨[]⟩ ⟨[]⟩] ((A, ⟨recs prF L, false⟩) :: h) fun r q => ∃ L' : List (Int × Int), L'.Perm L ∧ ascL L' ∧ r = .tuple #[] ∧ q = (A, ⟨recs prF L', false⟩) :: h := by
  have eg : ∀ args w, (callFunc 65 args).run Tryz.prog w = .ok (.enter 65 args) w := enters_of Tryz.func65 (by kernel_rfl) rfl
  refine srun_sort (lt := ltOf fun x y : Int × Int => Lib.compareInt x.1 y.1) hn Tryz.ltLo fun w blk cap hH hblk => ?_
  have hcon := AnyQ.slices_SortFunc Tryz.sortIv 2 Tryz.isAgg53 Tryz.sizeOf53 prF (fun _ => rfl) (fun x v hv => by simp at hv; rcases hv with rfl | rfl <;> rfl) (fun x y => Lib.compareInt x.1 y.1) Tryz.swoLo 65 #[] blk 0 cap L.toArray w eg (Tryz.cmpLays36 blk 0 L.toArray.size w) hH hblk (by simp; omega)
  exact hcon
end Go.Proofs.YtncnmfdmbfbfjaaGreat
end
section
set_option linter.unusedVariables false
set_option linter.unusedSimpArgs false
set_option maxRecDepth 4000
namespace Go.Proofs.YtncnmfdmbfbfjaaGreat
open Go.Gh Go.RowKit

/-- A slice of regions of its own block, or none. -/
def OwnR (q h : SH) (L : List Rg) (r : Value) : Prop := (r = .slice none 0 0 ∧ L = [] ∧ q = h) ∨ ∃ A, r = gsl A 0 (L.length * 2) L.length 2 ∧ q = (A, ⟨recs prF L, false⟩) :: h
theorem Clone_any (L : List Rg) (v : Value) (h : SH) (hv : Has h (recs prF L) 2 L.length v) (hL : L.length ≤ 100000) :
    SRun Tryz.prog 63 [v] h fun r q => OwnR q h L r := by
  obtain ⟨ad, fl, rfl, hh⟩ := hv
  by_cases h0 : L.length = 0
  · obtain rfl : L = [] := List.length_eq_zero_iff.1 h0
    refine w_body1 Tryz.func63 rfl rfl ?_
    repeat' (first | apply w_seq | apply w_region | apply o_nil | (apply o_slnil tyOk; iterate 4 exact rfl) | (apply o_g tyOk; exact rfl; exact rfl) | (apply o_buildSlice tyOk; (iterate 5 exact rfl); (focus (decide)); exact rfl; (focus (decide)); (focus (repeat (first | exact CatR.nil))); exact rfl) | (apply o_append_zero tyOk; (iterate 4 exact rfl); (focus (exact pk))) | (apply w_ifB; exact rfl; all_goals intro hc) | apply thenS_normal | apply thenS_ret | apply w_skip | apply w_ret | ((with_reducible apply Sd.mk); (first | exact True.intro)) | ((with_reducible apply Ln.mk); (first | rfl)) | exact True.intro | intro A | exact rfl)
    all_goals first
      | (apply s_fin; (exact (show ResS _ _ _ _ [_] from ⟨rfl, trivial⟩)); (focus (exact .inl ⟨rfl, rfl, rfl⟩)); (focus (repeat (first | with_reducible exact Take.nil | with_reducible apply Take.c | with_reducible apply Take.drop))))
      | (apply s_fin; (exact (show ResS _ _ _ _ [_] from ⟨rfl, trivial⟩)); (focus (exact .inr ⟨_, rfl, rfl⟩)); (focus (repeat (first | with_reducible exact Take.nil | with_reducible apply Take.c | ((with_reducible apply Take.cE); (first | exact rfl | (apply blkE; (focus (first | exact rfl | exact recs_snocE rfl | exact map_snocE rfl | exact congrArg (fun v => [v]) (gslE rfl rfl (by first | rfl | exact ‹_› | omega | (simp ; first | done | omega)) (by first | rfl | exact ‹_› | omega | (simp ; first | done | omega)) rfl)))))) | with_reducible apply Take.drop))))
      | trace_state
  · obtain ⟨A', ro, h1, rfl, hp⟩ := hh h0
    have hlr := pr_len L
    refine w_body1 Tryz.func63 rfl rfl ?_
    repeat' (first | apply w_seq | apply w_region | apply o_nil | (apply o_slnil tyOk; iterate 4 exact rfl) | (apply o_g tyOk; exact rfl; exact rfl) | (apply o_buildSlice tyOk; (iterate 5 exact rfl); (focus (decide)); exact rfl; (focus (decide)); (focus (repeat (first | exact CatR.nil))); exact rfl) | (apply o_append tyOk; (iterate 5 exact rfl); (focus (exact ⟨by decide⟩)); (focus (exact up)); (focus (exact pk))) | (apply w_false; exact rfl) | apply thenS_normal | apply w_skip | apply w_ret | ((with_reducible apply Sd.mk); (first | exact True.intro | (constructor <;> first | omega | (unfold maxLen; omega)))) | ((with_reducible apply Ln.mk); (first | rfl | omega | (simp [hlr]; first | done | omega))) | ((with_reducible apply Su.mk); (first | exact subAt_all)) | exact recs_all (fun _ => rfl) | exact True.intro | intro A | exact rfl)
    all_goals first
      | (apply s_fin; (exact (show ResS _ _ _ _ [_] from ⟨rfl, trivial⟩)); (focus (exact .inr ⟨_, congrArg (fun v => v) (gslE rfl rfl (by omega) (by omega) rfl), rfl⟩)); (focus (repeat (first | with_reducible exact Take.nil | with_reducible apply Take.c | with_reducible apply Take.drop))))
      | trace_state
theorem bitsLen0_any (h : SH) : SRun Tryz.prog 74 [.int .u64 0] h fun r q => r = I 0 ∧ q = h :=
  srun_lib rfl rfl fun w => (Tryz.bits_Len 0 w (by decide) (by decide)).mono fun _ _ ⟨he, hw⟩ => ⟨by rw [he]; rfl, by rw [hw]; exact Below.refl _ _⟩
theorem insert_nil (f : Value) (h : SH) : SRun Tryz.prog 101 [.slice none 0 0, I 0, I 0, f] h fun r q => r = .tuple #[] ∧ q = h := by
  refine w_body4 Tryz.func101 rfl rfl ?_
  repeat' (first | apply w_seq | apply w_region | apply o_nil | (apply o_g tyOk; exact rfl; exact rfl) | (apply o_ar tyOk; exact rfl; exact rfl) | apply thenS_normal | apply w_block | ((with_reducible apply Sd.mk); (first | exact True.intro)) | ((with_reducible apply Wr.mk); (first | exact IntWalk.i64_in _ (by omega))))
  refine w_loop (S := Nat) (fun _ => [(0, .slice none 0 0), (2, I 0), (8, I 1)]) (fun _ => h) (fun _ => True) (fun i => i) 0 trivial (by repeat' (first | exact trivial | refine ⟨rfl, ?_⟩ | refine ⟨congrArg some ?_, ?_⟩)) (by repeat (first | with_reducible exact Take.nil | with_reducible apply Take.c | with_reducible apply Take.drop)) ?_
  intro i _
  repeat' (first | apply w_seq | apply w_region | apply o_nil | (apply o_g tyOk; exact rfl; exact rfl) | (apply w_false; exact rfl) | apply thenS_normal | apply thenS_exit | apply blockS_exit | apply w_exit | ((with_reducible apply Sd.mk); (first | exact True.intro)))
  all_goals first
    | (exfalso; omega)
    | (apply s_finN; (exact (show ResS _ _ _ _ [] from trivial)); (focus (exact ⟨rfl, rfl⟩)); (focus (repeat (first | with_reducible exact Take.nil | with_reducible apply Take.c | with_reducible apply Take.drop))))
    | trace_state
theorem pdq_nil (f : Value) (h : SH) : SRun Tryz.prog 85 [.slice none 0 0, I 0, I 0, I 0, f] h fun r q => r = .tuple #[] ∧ q = h := by
  refine w_body5 Tryz.func85 rfl rfl ?_
  repeat' (first | apply w_seq | apply w_region | apply o_nil | (apply o_g tyOk; exact rfl; exact rfl) | apply thenS_normal | apply w_block | ((with_reducible apply Sd.mk); (first | exact True.intro)))
  refine w_loop (S := Nat) (fun _ => [(0, .slice none 0 0), (1, I 0), (2, I 0), (3, I 0), (4, f)]) (fun _ => h) (fun _ => True) (fun i => i) 0 trivial (by repeat' (first | exact trivial | refine ⟨rfl, ?_⟩ | refine ⟨congrArg some ?_, ?_⟩)) (by repeat (first | with_reducible exact Take.nil | with_reducible apply Take.c | with_reducible apply Take.drop)) ?_
  intro i _
  repeat' ((fail_if_success (show SWp _ _ (Code.seq (Code.region 5 _ _) _) _ _ _)); (fail_if_success (show SWp _ _ (Code.region 5 _ _) _ _ _)); first | apply w_seq | apply w_region | apply o_nil | (apply o_g tyOk; exact rfl; exact rfl) | (apply o_ar tyOk; exact rfl; exact rfl) | (apply o_call; exact rfl; exact rfl; (focus (first | exact rfl)); exact rfl; (focus (exact ⟨_, insert_nil f _, by repeat (first | with_reducible exact Take.nil)⟩)); rintro _ _ ⟨rfl, rfl⟩) | (apply w_true; exact rfl) | apply thenS_normal | apply thenS_ret | apply blockS_ret | apply w_ret | apply w_block | ((with_reducible apply Sd.mk); (first | exact True.intro)) | ((with_reducible apply Wr.mk); (first | exact IntWalk.i64_in _ (by omega))))
  all_goals first
    | (exfalso; omega)
    | (apply s_fin; (exact (show ResS _ _ _ _ [] from trivial)); (focus (exact ⟨rfl, rfl⟩)); (focus (repeat (first | with_reducible exact Take.nil | with_reducible apply Take.c | with_reducible apply Take.drop))))
    | trace_state
theorem SortFunc_nil (f : Value) (h : SH) : SRun Tryz.prog 64 [.slice none 0 0, f] h fun r q => r = .tuple #[] ∧ q = h := by
  refine w_body2 Tryz.func64 rfl rfl ?_
  repeat' (first | apply w_seq | apply w_region | apply o_nil | (apply o_g tyOk; exact rfl; exact rfl) | (apply o_ar tyOk; exact rfl; exact rfl) | (apply o_call; exact rfl; exact rfl; (focus (first | exact rfl)); exact rfl; (focus (exact ⟨_, bitsLen0_any _, by repeat (first | with_reducible exact Take.nil)⟩)); rintro _ _ ⟨rfl, rfl⟩) | (apply o_call; exact rfl; exact rfl; (focus (first | exact rfl)); exact rfl; (focus (exact ⟨_, pdq_nil f _, by repeat (first | with_reducible exact Take.nil)⟩)); rintro _ _ ⟨rfl, rfl⟩) | apply thenS_normal | ((with_reducible apply Sd.mk); (first | exact True.intro)) | ((with_reducible apply Wr.mk); (first | exact rfl)))
  all_goals first
    | (apply s_finN; (exact (show ResS _ _ _ _ [] from trivial)); (focus (exact ⟨rfl, rfl⟩)); (focus (repeat (first | with_reducible exact Take.nil | with_reducible apply Take.c | with_reducible apply Take.drop))))
    | trace_state
theorem sorted_any (L : List Rg) (v : Value) (h : SH) (hv : Has h (recs prF L) 2 L.length v) (hL : L.length ≤ 100000) :
    SRun Tryz.prog 43 [v] h fun r q => ∃ M : List Rg, M.Perm L ∧ ascL M ∧ OwnR q h M r := by
  refine w_body1 Tryz.func43 rfl rfl ?_
  repeat' (first | apply w_seq | apply w_region | apply o_nil | (apply o_g tyOk; exact rfl; exact rfl) | (apply o_call; exact rfl; exact rfl; (focus (first | exact rfl)); exact rfl; (focus (exact ⟨_, Clone_any L v _ hv hL, by repeat (first | with_reducible exact Take.nil)⟩)); rintro _ _ ((⟨rfl, hl, rfl⟩ | ⟨A, rfl, rfl⟩))) | (apply o_call; exact rfl; exact rfl; (focus (first | exact rfl)); exact rfl; (focus (exact ⟨_, SortFunc_nil _ _, by repeat (first | with_reducible exact Take.nil)⟩)); rintro _ _ ⟨rfl, rfl⟩) | (apply o_call; exact rfl; exact rfl; (focus (first | exact rfl)); exact rfl; (focus (exact ⟨_, SortFunc_any L _ L.length _ rfl hL, by repeat (first | with_reducible exact Take.nil)⟩)); rintro _ _ ⟨M, hperm, hasc, rfl, rfl⟩) | apply thenS_normal | apply w_ret | ((with_reducible apply Sd.mk); (first | exact True.intro)))
  · subst hl
    (apply s_fin; (exact (show ResS _ _ _ _ [_] from ⟨rfl, trivial⟩)); (focus (exact ⟨[], .refl _, fun i j _ hj => by simp at hj, .inl ⟨rfl, rfl, rfl⟩⟩)); (focus (repeat (first | with_reducible exact Take.nil | with_reducible apply Take.c | with_reducible apply Take.drop))))
  · have hml := hperm.length_eq
    (apply s_fin; (exact (show ResS _ _ _ _ [_] from ⟨rfl, trivial⟩)); (focus (exact ⟨M, hperm, hasc, .inr ⟨A, by rw [hml]; rfl, rfl⟩⟩)); (focus (repeat (first | with_reducible exact Take.nil | with_reducible apply Take.c | with_reducible apply Take.drop))))
end Go.Proofs.YtncnmfdmbfbfjaaGreat
end
section
set_option linter.unusedVariables false
set_option linter.unusedSimpArgs false
set_option maxRecDepth 4000
namespace Go.Proofs.YtncnmfdmbfbfjaaGreat
open Go.Gh Go.RowKit

theorem OwnR.has {q h : SH} {L : List Rg} {r : Value} (k : OwnR q h L r) : Has q (recs prF L) 2 L.length r ∧ Take q h := by
  rcases k with ⟨rfl, rfl, rfl⟩ | ⟨A, rfl, rfl⟩
  · exact ⟨⟨none, 0, rfl, fun g => absurd rfl g⟩, .nil⟩
  · exact ⟨⟨_, _, rfl, fun _ => ⟨A, _, _, by rw [Nat.mul_comm], .head⟩⟩, .drop .nil⟩
theorem sorted_has (L : List Rg) (v : Value) (h : SH) (hv : Has h (recs prF L) 2 L.length v) (hL : L.length ≤ 100000) :
    SRun Tryz.prog 43 [v] h fun r q => ∃ M : List Rg, M.Perm L ∧ ascL M ∧ Has q (recs prF M) 2 M.length r ∧ Take q h :=
  (sorted_any L v h hv hL).mono fun _ _ ⟨M, h1, h2, h3⟩ => ⟨M, h1, h2, h3.has⟩
theorem Valid_any (t : Int) (L : List Rg) (v : Value) (h : SH) (hv : Has h (recs prF L) 2 L.length v) (hL : L.length ≤ 100000) :
    SRun Tryz.prog 26 [I t, v] h fun r q => r = B (decide (svld t L)) ∧ q = h := by
  by_cases ht : 0 ≤ t ∧ t ≤ 1024
  · refine w_body2 Tryz.func26 rfl rfl ?_
    repeat' (first | apply w_seq | apply w_region | apply o_nil | (apply o_g tyOk; exact rfl; exact rfl) | (apply o_call; exact rfl; exact rfl; (focus (first | exact rfl)); exact rfl; (focus (exact ⟨_, sorted_has L v _ hv hL, by repeat (first | with_reducible exact Take.nil)⟩)); rintro _ _ ⟨M, hperm, hasc, ⟨ad, fl, rfl, hh⟩, htk⟩) | (apply o_want; exact rfl; exact rfl) | (apply o_gF; (iterate 3 exact rfl); (focus (first | omega))) | (apply w_dF; exact rfl; (focus (first | omega))) | apply thenS_normal | apply w_skip | apply w_block | ((with_reducible apply Sd.mk); (first | exact True.intro)))
    rename_i q
    have hml := hperm.length_eq
    have hcv := chn_vld hperm hasc ht
    refine w_loop (S := Nat × Int) (fun x => [(0, I t), (15, .slice ad M.length fl), (16, I M.length), (17, I x.1), (5, I x.2)]) (fun _ => q)
      (fun x => x.1 ≤ M.length ∧ 0 ≤ x.2 ∧ x.2 ≤ t ∧ (chn t x.2 (M.drop x.1) ↔ svld t L)) (fun x => M.length - x.1) (0, 0) ⟨Nat.zero_le _, Int.le_refl _, ht.1, hcv⟩ (by repeat' (first | exact trivial | refine ⟨rfl, ?_⟩ | refine ⟨congrArg some ?_, ?_⟩)) (by repeat (first | with_reducible exact Take.nil | with_reducible apply Take.c | with_reducible apply Take.drop)) ?_
    rintro ⟨i, a⟩ ⟨h1, h2, h3, h4⟩
    dsimp only at h1 h2 h3 h4 ⊢
    by_cases hil : i < M.length
    · obtain ⟨A', ro, hx1, rfl, hp⟩ := hh (by omega)
      rw [chn_step hil] at h4
      obtain ⟨⟨xf, xc⟩, hx⟩ : ∃ x, x = M[i]! := ⟨_, rfl⟩
      have hsub : SubAt (recs prF M) (0 + ((i : Int)).toNat * 2) [I xf, I xc] := by rw [show [I xf, I xc] = prF M[i]! by rw [← hx]]; exact subAt_recZ (fun _ => rfl) hil
      have hlr := pr_len M
      rw [← hx] at h4
      dsimp only at h4
      by_cases hc1 : a ≤ xf ∧ 1 ≤ xc ∧ xf + xc ≤ t
      · have h5 : chn t (xf + xc) (M.drop (i + 1)) ↔ svld t L := ⟨fun g => h4.1 ⟨hc1, g⟩, fun g => (h4.2 g).2⟩
        obtain ⟨c1, c2, c3⟩ := hc1
        repeat' (first | apply w_seq | apply w_region | apply o_nil | (apply o_g tyOk; exact rfl; exact rfl) | (apply o_ar tyOk; exact rfl; exact rfl) | (apply o_load tyOk; (iterate 3 exact rfl); (focus (exact pk))) | (apply o_loads tyOk; (iterate 3 exact rfl); (focus (exact pk))) | (apply o_stores tyOk; (iterate 4 exact rfl); (focus (exact ⟨rfl⟩)); (focus (exact up))) | (apply o_alloc tyOk; iterate 5 exact rfl) | (apply o_want; exact rfl; exact rfl) | (apply o_gF; (iterate 3 exact rfl); (focus (first | omega))) | (apply w_dT; exact rfl; (focus (first | omega))) | (apply w_dF; exact rfl; (focus (first | omega))) | apply thenS_normal | apply blockS_normal | apply w_skip | apply w_block | ((with_reducible apply Sd.mk); (first | exact True.intro | omega)) | ((with_reducible apply Ln.mk); (first | exact hlr | rfl)) | ((with_reducible apply Wr.mk); (first | exact IntWalk.i64_in _ (by omega))) | ((with_reducible apply Ce.mk); (first | rfl)) | ((with_reducible apply Pu.mk); (first | exact putAt_all rfl)) | ((with_reducible apply Su.mk); (first | exact hsub)) | exact True.intro | intro A | exact rfl)
        all_goals first
          | (exfalso; omega)
          | exact ⟨(i + 1, xf + xc), ⟨hil, by show 0 ≤ xf + xc; omega, c3, h5⟩, by show M.length - (i + 1) < M.length - i; omega, (by repeat' (first | exact trivial | refine ⟨rfl, ?_⟩ | refine ⟨congrArg some ?_, ?_⟩)), .drop .nil⟩
          | trace_state
      · have hno : ¬ svld t L := fun g => hc1 (h4.2 g).1
        rw [decide_eq_false hno]
        repeat' ((fail_if_success (show SWp _ _ (Code.seq (Code.region 9 _ _) _) _ _ _)); (fail_if_success (show SWp _ _ (Code.region 9 _ _) _ _ _)); first | apply w_seq | apply w_region | apply o_nil | (apply o_g tyOk; exact rfl; exact rfl) | (apply o_ar tyOk; exact rfl; exact rfl) | (apply o_load tyOk; (iterate 3 exact rfl); (focus (exact pk))) | (apply o_loads tyOk; (iterate 3 exact rfl); (focus (exact pk))) | (apply o_stores tyOk; (iterate 4 exact rfl); (focus (exact ⟨rfl⟩)); (focus (exact up))) | (apply o_alloc tyOk; iterate 5 exact rfl) | (apply o_want; exact rfl; exact rfl) | (apply o_skip; iterate 4 exact rfl) | (apply o_guardF; (iterate 3 exact rfl); all_goals intro hc) | (apply w_true; exact rfl) | (apply w_dT; exact rfl; (focus (first | omega))) | apply thenS_normal | apply thenS_ret | apply blockS_ret | apply w_skip | apply w_ret | apply w_block | ((with_reducible apply Sd.mk); (first | exact True.intro | omega)) | ((with_reducible apply Ln.mk); (first | exact hlr | rfl)) | ((with_reducible apply Wr.mk); (first | exact IntWalk.i64_in _ (by omega))) | ((with_reducible apply Ce.mk); (first | rfl)) | ((with_reducible apply Pu.mk); (first | exact putAt_all rfl)) | ((with_reducible apply Su.mk); (first | exact hsub)) | exact True.intro | intro A | exact rfl)
        all_goals first
          | (apply s_fin; (exact (show ResS _ _ _ _ [_] from ⟨rfl, trivial⟩)); (focus (exact ⟨rfl, rfl⟩)); (focus (repeat (first | with_reducible exact Take.nil | exact .drop htk | with_reducible apply Take.c | with_reducible apply Take.drop))))
          | (exfalso; omega)
          | trace_state
    · rw [List.drop_of_length_le (by omega)] at h4
      have hyes : svld t L := h4.1 trivial
      rw [decide_eq_true hyes]
      repeat' (first | apply w_seq | apply w_region | apply o_nil | (apply o_g tyOk; exact rfl; exact rfl) | (apply w_dF; exact rfl; (focus (first | omega))) | apply thenS_normal | apply thenS_exit | apply blockS_exit | apply w_ret | apply w_exit | ((with_reducible apply Sd.mk); (first | exact True.intro)))
      all_goals first
        | (exfalso; omega)
        | (apply s_fin; (exact (show ResS _ _ _ _ [_] from ⟨rfl, trivial⟩)); (focus (exact ⟨rfl, rfl⟩)); (focus (repeat (first | with_reducible exact Take.nil | exact htk | with_reducible apply Take.c | with_reducible apply Take.drop))))
        | trace_state
  · have hno : ¬ svld t L := fun g => ht g.1
    rw [decide_eq_false hno]
    refine w_body2 Tryz.func26 rfl rfl ?_
    repeat' ((fail_if_success (show SWp _ _ (Code.seq (Code.region 3 _ _) _) _ _ _)); (fail_if_success (show SWp _ _ (Code.region 3 _ _) _ _ _)); first | apply w_seq | apply w_region | apply o_nil | (apply o_g tyOk; exact rfl; exact rfl) | (apply o_want; exact rfl; exact rfl) | (apply o_skip; iterate 4 exact rfl) | (apply o_guardF; (iterate 3 exact rfl); all_goals intro hc) | (apply w_true; exact rfl) | (apply w_dT; exact rfl; (focus (first | omega))) | apply thenS_normal | apply thenS_ret | apply w_ret | ((with_reducible apply Sd.mk); (first | exact True.intro)))
    all_goals first
      | (exfalso; omega)
      | (apply s_fin; (exact (show ResS _ _ _ _ [_] from ⟨rfl, trivial⟩)); (focus (exact ⟨rfl, rfl⟩)); (focus (repeat (first | with_reducible exact Take.nil | with_reducible apply Take.c | with_reducible apply Take.drop))))
      | trace_state
end Go.Proofs.YtncnmfdmbfbfjaaGreat
end
section
set_option linter.unusedVariables false
set_option linter.unusedSimpArgs false
set_option maxRecDepth 4000
namespace Go.Proofs.YtncnmfdmbfbfjaaGreat
open Go.Gh Go.RowKit

theorem runs_to {m : Int → Bool} {a b : Int} (ha : 0 ≤ a) (hab : a < b) (h0 : a = 0 ∨ m (a - 1) = true) (hf : ∀ k : Int, a ≤ k → k < b → m k = false) : runs m b.toNat = runs m a.toNat ++ [(a, b - a)] := by
  have := runs_free (m := m) (a := a.toNat) (d := (b - a).toNat) (by
    rcases h0 with h | h
    · left; omega
    · right; rw [show ((a.toNat : Nat) : Int) - 1 = a - 1 by omega]; exact h) (fun k h1 h2 => hf k (by omega) (by omega)) (by omega)
  rw [show a.toNat + (b - a).toNat = b.toNat by omega] at this
  rw [this]
  congr 3 <;> omega
theorem runs_over {m : Int → Bool} {a b : Int} (ha : 0 ≤ a) (hab : a ≤ b) (hf : ∀ k : Int, a ≤ k → k < b → m k = true) : runs m b.toNat = runs m a.toNat := by
  have := runs_used (m := m) (a := a.toNat) (d := (b - a).toNat) (fun k h1 h2 => hf k (by omega) (by omega))
  rwa [show a.toNat + (b - a).toNat = b.toNat by omega] at this
/-- Where the program stands, among the sorted regions. -/
structure At (t : Int) (M : List Rg) (i : Nat) (a : Int) (R : List Rg) : Prop where
  a0 : 0 ≤ a
  at' : a ≤ t
  ch : chn t a (M.drop i)
  pre : ∀ x ∈ M.take i, x.1 + x.2 ≤ a
  last : a = 0 ∨ mkd M (a - 1) = true
  rn : R = runs (mkd M) a.toNat
theorem At.free {t : Int} {M : List Rg} {i : Nat} {a : Int} {R : List Rg} (k : At t M i a R) {b : Int} (hb : ∀ x ∈ M.drop i, b ≤ x.1) : ∀ q : Int, a ≤ q → q < b → mkd M q = false := fun q h1 h2 => by
  cases hm : mkd M q with
  | false => rfl
  | true =>
    obtain ⟨x, hx, e1, e2⟩ := mkd_iff.1 hm
    rw [← List.take_append_drop i M] at hx
    rcases List.mem_append.1 hx with hx | hx
    · have := k.pre x hx; omega
    · have := hb x hx; omega
theorem At.next {t : Int} {M : List Rg} {i : Nat} {a : Int} {R : List Rg} (k : At t M i a R) (hi : i < M.length) {xf xc : Int} (hx : (xf, xc) = M[i]!) :
    (a ≤ xf ∧ 1 ≤ xc ∧ xf + xc ≤ t) ∧ (a < xf → At t M (i + 1) (xf + xc) (R ++ [(a, xf - a)])) ∧ (¬ a < xf → At t M (i + 1) (xf + xc) R) := by
  have h1 := (chn_step hi).1 k.ch
  rw [← hx] at h1
  obtain ⟨⟨c1, c2, c3⟩, c4⟩ := h1
  dsimp only at c1 c2 c3 c4
  have hmem : (xf, xc) ∈ M := by rw [hx]; exact sbang_mem hi
  have hd : ∀ x ∈ M.drop i, xf ≤ x.1 := fun y hy => by
    rw [drop_bang hi, ← hx] at hy
    rcases List.mem_cons.1 hy with rfl | hy
    · exact Int.le_refl _
    · have := (chn_iff.1 c4).1 y hy; omega
  have hfr := k.free hd
  have hus : ∀ q : Int, xf ≤ q → q < xf + xc → mkd M q = true := fun q h1 h2 => mkd_iff.2 ⟨_, hmem, h1, h2⟩
  have hov := runs_over (m := mkd M) (a := xf) (b := xf + xc) (by have := k.a0; omega) (by omega) hus
  have hpre : ∀ x ∈ M.take (i + 1), x.1 + x.2 ≤ xf + xc := fun y hy => by
    rw [stake_bang hi, ← hx] at hy
    rcases List.mem_append.1 hy with hy | hy
    · have := k.pre y hy; omega
    · obtain rfl : y = (xf, xc) := by simpa using hy
      exact Int.le_refl _
  have hlast : xf + xc = 0 ∨ mkd M (xf + xc - 1) = true := .inr (hus _ (by omega) (by omega))
  have ha0 := k.a0
  refine ⟨⟨c1, c2, c3⟩, fun hlt => ⟨by omega, c3, c4, hpre, hlast, ?_⟩, fun hge => ⟨by omega, c3, c4, hpre, hlast, ?_⟩⟩
  · rw [hov, runs_to ha0 hlt k.last hfr, ← k.rn]
  · rw [hov, show xf = a by omega, ← k.rn]
theorem At.fin {t : Int} {M : List Rg} {a : Int} {R : List Rg} (k : At t M M.length a R) : (a < t → R ++ [(a, t - a)] = runs (mkd M) t.toNat) ∧ (¬ a < t → R = runs (mkd M) t.toNat) := by
  have hfr := k.free (b := t) (fun x hx => by rw [List.drop_length] at hx; cases hx)
  refine ⟨fun h => ?_, fun h => ?_⟩
  · rw [runs_to k.a0 h k.last hfr, ← k.rn]
  · rw [show t = a by have := k.at'; omega]; exact k.rn
end Go.Proofs.YtncnmfdmbfbfjaaGreat
end
section
set_option linter.unusedVariables false
set_option linter.unusedSimpArgs false
set_option maxRecDepth 4000
namespace Go.Proofs.YtncnmfdmbfbfjaaGreat
open Go.Gh Go.RowKit

abbrev isFree (R : List Rg) : Prop := R.length ≤ 1024 ∧ ∀ x ∈ R, 0 ≤ x.1 ∧ 1 ≤ x.2 ∧ x.1 + x.2 ≤ 1024
theorem isFree.at' {R : List Rg} (h : isFree R) {i : Nat} (hi : i < R.length) : 0 ≤ R[i]!.1 ∧ 1 ≤ R[i]!.2 ∧ R[i]!.1 + R[i]!.2 ≤ 1024 := h.2 _ (sbang_mem hi)
end Go.Proofs.YtncnmfdmbfbfjaaGreat
end
section
set_option linter.unusedVariables false
set_option linter.unusedSimpArgs false
set_option maxRecDepth 4000
namespace Go.Gh
open Go.RowKit

theorem two_pow_pos (k : Nat) : (0 : Int) < 2 ^ k := Int.pow_pos (by decide)
end Go.Gh
end
section
set_option linter.unusedVariables false
set_option linter.unusedSimpArgs false
set_option maxRecDepth 4000
namespace Go.Proofs.YtncnmfdmbfbfjaaGreat
open Go.Gh Go.RowKit

theorem prEq {x y : Rg} : cellsEqB (prF x) (prF y) = true ↔ x = y := by
  obtain ⟨a, b⟩ := x
  obtain ⟨c, d⟩ := y
  constructor
  · intro h
    have h2 : (a = c) ∧ (b = d) := by simpa [cellsEqB] using h
    rw [h2.1, h2.2]
  · intro h
    cases h
    simp [cellsEqB]
theorem Same_any (a b : List Rg) (v w : Value) (h : SH) (hv : Has h (recs prF a) 2 a.length v) (hw : Has h (recs prF b) 2 b.length w) (ha : a.length ≤ 100000) (hb : b.length ≤ 100000) :
    SRun Tryz.prog 14 [v, w] h fun r q => r = B (decide (a = b)) ∧ q = h := by
  obtain ⟨ad, fl, rfl, hh⟩ := hv
  obtain ⟨bd, gl, rfl, hk⟩ := hw
  by_cases hl : a.length = b.length
  · refine w_body2 Tryz.func14 rfl rfl ?_
    repeat' (first | apply w_seq | apply w_region | apply o_nil | (apply o_g tyOk; exact rfl; exact rfl) | (apply w_dF; exact rfl; (focus (first | omega))) | apply thenS_normal | apply w_skip | apply w_block | ((with_reducible apply Sd.mk); (first | exact True.intro)))
    all_goals first | (exfalso; omega) | skip
    refine w_loop (S := Nat) (fun i => [(0, .slice ad a.length fl), (1, .slice bd b.length gl), (5, I i)]) (fun _ => h) (fun i => i ≤ a.length ∧ ∀ j : Nat, j < i → a[j]! = b[j]!) (fun i => a.length - i) 0 ⟨Nat.zero_le _, fun j hj => by omega⟩ (by repeat' (first | exact trivial | refine ⟨rfl, ?_⟩ | refine ⟨congrArg some ?_, ?_⟩)) (by repeat (first | with_reducible exact Take.nil | with_reducible apply Take.c | with_reducible apply Take.drop)) ?_
    rintro i ⟨hi, he⟩
    by_cases hil : i < a.length
    · obtain ⟨A', ro, hx1, rfl, hp⟩ := hh (by omega)
      obtain ⟨B', ro2, hx2, rfl, hp2⟩ := hk (by omega)
      obtain ⟨⟨xf, xc⟩, hx⟩ : ∃ x, x = a[i]! := ⟨_, rfl⟩
      obtain ⟨⟨yf, yc⟩, hy⟩ : ∃ x, x = b[i]! := ⟨_, rfl⟩
      have hs1 : SubAt (recs prF a) (0 + ((i : Int)).toNat * 2) [I xf, I xc] := by rw [show [I xf, I xc] = prF a[i]! by rw [← hx]]; exact subAt_recZ (fun _ => rfl) hil
      have hs2 : SubAt (recs prF b) (0 + ((i : Int)).toNat * 2) [I yf, I yc] := by rw [show [I yf, I yc] = prF b[i]! by rw [← hy]]; exact subAt_recZ (fun _ => rfl) (by omega)
      have hl1 := pr_len a
      have hl2 := pr_len b
      have hq : cellsEqB [I xf, I xc] [I yf, I yc] = true ↔ ((xf, xc) : Rg) = (yf, yc) := prEq (x := (xf, xc)) (y := (yf, yc))
      rw [hx, hy] at hq
      repeat' (first | apply w_seq | apply w_region | apply o_nil | (apply w_draw; (focus (kernel_rfl)); (focus (kernel_rfl))) | (apply o_g tyOk; exact rfl; exact rfl) | (apply o_ar tyOk; exact rfl; exact rfl) | (apply o_loads tyOk; (iterate 3 exact rfl); (focus (exact pk))) | (apply o_neqs; (iterate 3 exact rfl); (focus (kernel_rfl)); exact rfl; exact rfl; (focus (kernel_rfl)); exact rfl) | (apply w_dT; exact rfl; (focus (first | omega))) | (apply w_ifN; exact rfl; all_goals intro hc) | apply thenS_normal | apply thenS_ret | apply blockS_normal | apply blockS_ret | apply w_skip | apply w_ret | apply w_block | ((with_reducible apply Sd.mk); (first | exact True.intro | omega)) | ((with_reducible apply Ln.mk); (first | rfl | omega)) | ((with_reducible apply Wr.mk); (first | exact IntWalk.i64_in _ (by omega))) | ((with_reducible apply Su.mk); (first | exact hs1 | exact hs2)) | exact True.intro | exact rfl)
      all_goals first
        | (exfalso; omega)
        | (have hne := fun g => hc (hq.2 g)
           (apply s_fin; (exact (show ResS _ _ _ _ [_] from ⟨rfl, trivial⟩)); (focus (exact ⟨congrArg B (decide_eq_false (fun g => hne (by rw [g]))).symm, rfl⟩)); (focus (repeat (first | with_reducible exact Take.nil | with_reducible apply Take.c | with_reducible apply Take.drop)))))
        | (have heq := hq.1 (by simpa using hc)
           exact ⟨i + 1, ⟨hil, fun j hj => by
             by_cases e : j = i
             · subst e; exact heq
             · exact he j (by omega)⟩, by show a.length - (i + 1) < a.length - i; omega, (by repeat' (first | exact trivial | refine ⟨rfl, ?_⟩ | refine ⟨congrArg some ?_, ?_⟩)), (by repeat (first | with_reducible exact Take.nil | with_reducible apply Take.c | with_reducible apply Take.drop))⟩)
        | trace_state
    · have hab : a = b := List.ext_getElem hl fun j h1 h2 => by
        have := he j (by omega)
        rwa [getElem!_pos a j h1, getElem!_pos b j h2] at this
      rw [decide_eq_true hab]
      repeat' (first | apply w_seq | apply w_region | apply o_nil | (apply o_g tyOk; exact rfl; exact rfl) | (apply w_dF; exact rfl; (focus (first | omega))) | apply thenS_normal | apply thenS_exit | apply blockS_exit | apply w_ret | apply w_exit | ((with_reducible apply Sd.mk); (first | exact True.intro)))
      all_goals first
        | (exfalso; omega)
        | (apply s_fin; (exact (show ResS _ _ _ _ [_] from ⟨rfl, trivial⟩)); (focus (exact ⟨rfl, rfl⟩)); (focus (repeat (first | with_reducible exact Take.nil | with_reducible apply Take.c | with_reducible apply Take.drop))))
        | trace_state
  · rw [decide_eq_false (fun g => hl (by rw [g]))]
    refine w_body2 Tryz.func14 rfl rfl ?_
    repeat' (first | apply w_seq | apply w_region | apply o_nil | (apply o_g tyOk; exact rfl; exact rfl) | (apply w_dT; exact rfl; (focus (first | omega))) | apply thenS_normal | apply thenS_ret | apply w_ret | ((with_reducible apply Sd.mk); (first | exact True.intro)))
    all_goals first
      | (exfalso; omega)
      | (apply s_fin; (exact (show ResS _ _ _ _ [_] from ⟨rfl, trivial⟩)); (focus (exact ⟨rfl, rfl⟩)); (focus (repeat (first | with_reducible exact Take.nil | with_reducible apply Take.c | with_reducible apply Take.drop))))
      | trace_state
def cl (x : Int) : Int := max (-1099511627776) (min x 1099511627776)
def ovl (a b : Rg) : Prop := 1 ≤ a.2 ∧ 1 ≤ b.2 ∧ cl a.1 < cl b.1 + cl b.2 ∧ cl b.1 < cl a.1 + cl a.2
instance (a b : Rg) : Decidable (ovl a b) := inferInstanceAs (Decidable (_ ∧ _ ∧ _ ∧ _))
def sct (b : Int) : Int := if b < 1 then 0 else (b - 1) / 64 + 1
theorem sw_quoI {m n : Int} (hm : 0 ≤ m) (h : 0 ≤ m / n ∧ m / n ≤ 9223372036854775807) : IntKind.i64.wrap (m.tdiv n) = m / n := by rw [Int.tdiv_eq_ediv_of_nonneg hm]; exact IntWalk.i64_in _ (by omega)
theorem Sectors_any (b : Int) (h : SH) (hb : b ≤ 9223372036854775807) : SRun Tryz.prog 46 [I b] h fun r q => r = I (sct b) ∧ q = h := by
  unfold sct
  refine w_body1 Tryz.func46 rfl rfl ?_
  repeat' (first | apply w_seq | apply w_region | apply o_nil | (apply o_g tyOk; exact rfl; exact rfl) | (apply o_ar tyOk; exact rfl; exact rfl) | (apply w_if; exact rfl; all_goals intro hc) | apply thenS_normal | apply thenS_ret | apply w_skip | apply w_ret | ((with_reducible apply Sd.mk); (first | exact True.intro | omega)) | ((with_reducible apply Wr.mk); (first | exact sw_quoI (by omega) (by omega) | exact IntWalk.i64_in _ (by omega))))
  · (apply s_fin; (exact (show ResS _ _ _ _ [_] from ⟨rfl, trivial⟩)); (focus (exact ⟨by rw [if_pos (by omega)]; rfl, rfl⟩)); (focus (repeat (first | with_reducible exact Take.nil | with_reducible apply Take.c | with_reducible apply Take.drop))))
  · (apply s_fin; (exact (show ResS _ _ _ _ [_] from ⟨rfl, trivial⟩)); (focus (exact ⟨by rw [if_neg (by omega)]; rfl, rfl⟩)); (focus (repeat (first | with_reducible exact Take.nil | with_reducible apply Take.c | with_reducible apply Take.drop))))
theorem rSectors_any (b : Int) (h : SH) (hb : b ≤ 9223372036854775807) : SRun Tryz.prog 67 [I b] h fun r q => r = I (sct b) ∧ q = h := by
  unfold sct
  refine w_body1 Tryz.func67 rfl rfl ?_
  repeat' (first | apply w_seq | apply w_region | apply o_nil | (apply o_g tyOk; exact rfl; exact rfl) | (apply o_ar tyOk; exact rfl; exact rfl) | (apply w_if; exact rfl; all_goals intro hc) | apply thenS_normal | apply thenS_ret | apply w_skip | apply w_ret | ((with_reducible apply Sd.mk); (first | exact True.intro | omega)) | ((with_reducible apply Wr.mk); (first | exact sw_quoI (by omega) (by omega) | exact IntWalk.i64_in _ (by omega))))
  · (apply s_fin; (exact (show ResS _ _ _ _ [_] from ⟨rfl, trivial⟩)); (focus (exact ⟨by rw [if_pos (by omega)]; rfl, rfl⟩)); (focus (repeat (first | with_reducible exact Take.nil | with_reducible apply Take.c | with_reducible apply Take.drop))))
  · (apply s_fin; (exact (show ResS _ _ _ _ [_] from ⟨rfl, trivial⟩)); (focus (exact ⟨by rw [if_neg (by omega)]; rfl, rfl⟩)); (focus (repeat (first | with_reducible exact Take.nil | with_reducible apply Take.c | with_reducible apply Take.drop))))
end Go.Proofs.YtncnmfdmbfbfjaaGreat
end
section
set_option linter.unusedVariables false
set_option linter.unusedSimpArgs false
set_option maxRecDepth 4000
namespace Go.Proofs.YtncnmfdmbfbfjaaGreat
open Go.Gh Go.RowKit

section
variable {P : Program} {tt : TT} {sz : Nat} {ops : Array Oper} {Q : SPost} {rest : List Oper} {a : AF} {h h1 : SH} {m : Gh.Mode} {t : Nat} {ty : TypeId} {pos : String} {aft : Array Edge}
/-- The first three cells of a block are loaded (a struct at the front of a struct). -/
theorem o_loadH {T : Nat} {x : Operand} {A off n : Nat} {v1 v2 v3 v4 : Value} {r : List Value} {ro : Bool} {e : TE} (ht : tt.Ok P) (hx : ev a x = some (gptr A off n)) (hT : tt.get T = some e) (hk : e.k.agg = true) (h3 : 3 = e.sz) (h0 : off = 0) (hp : Pick h A ⟨v1 :: v2 :: v3 :: v4 :: r, ro⟩ h1)
    (hN : Nat.blt t sz = true) (hn : Ln ((v1 :: v2 :: v3 :: v4 :: r).length = n)) (hok : m.rdOk ops fun h' => Rc (∃ g h1, Pick h' A g h1 ∧ Ln (g.cells.length = n) ∧ Su (SubAt g.cells off [v1, v2, v3])))
    (k : GO (m.rd fun h' => Rc (∃ g h1, Pick h' A g h1 ∧ Ln (g.cells.length = n) ∧ Su (SubAt g.cells off [v1, v2, v3]))) P sz ops Q rest ((t, .agg ⟨[v1, v2, v3]⟩) :: a) h) : GO m P sz ops Q (⟨some t, .load T x, ty, pos, aft, none⟩ :: rest) a h := by
  subst h0
  have hsub : SubAt (v1 :: v2 :: v3 :: v4 :: r) 0 [v1, v2, v3] := fun i u hu => by
    match i, hu with
    | 0, hu => exact hu
    | 1, hu => exact hu
    | 2, hu => exact hu
  exact o_loads ht hx hT hk hp hN hn ⟨hsub⟩ ⟨h3⟩ hok k
end
/-- An extent: sector, length, sum. -/
abbrev Ex3 := Int × Int × Int
/-- An entry: from, to, level, step, place. -/
abbrev Eny := Int × Int × Int × Int × Ex3
abbrev exF (x : Ex3) : List Value := [I x.1, I x.2.1, I x.2.2]
abbrev enF (x : Eny) : List Value := [I x.1, I x.2.1, I x.2.2.1, I x.2.2.2.1, I x.2.2.2.2.1, I x.2.2.2.2.2.1, I x.2.2.2.2.2.2]
abbrev plc (x : Eny) : Ex3 := x.2.2.2.2
abbrev drV (x : Ex3) (v : Value) : Value := .agg ⟨[I x.1, I x.2.1, I x.2.2, v]⟩
/-- An extent is valid. -/
def fit (x : Ex3) : Prop := 1 ≤ x.2.1 ∧ x.2.1 ≤ 16384 ∧ 0 ≤ x.2.2 ∧ x.2.2 < 4294967296 ∧ 4 ≤ x.1 ∧ x.1 < 1024 ∧ sct x.2.1 ≤ 1024 - x.1
instance (x : Ex3) : Decidable (fit x) := inferInstanceAs (Decidable (_ ∧ _ ∧ _ ∧ _ ∧ _ ∧ _ ∧ _))
def rgn (x : Ex3) : Rg := (x.1, sct x.2.1)
theorem sct_in {b : Int} (h : 1 ≤ b) : 1 ≤ sct b ∧ (sct b - 1) * 64 < b ∧ b ≤ sct b * 64 := by
  unfold sct
  rw [if_neg (by omega)]
  omega
theorem fits_any (x : Ex3) (h : SH) : SRun Tryz.prog 32 [.agg ⟨exF x⟩] h fun r q => r = B (decide (fit x)) ∧ q = h := by
  obtain ⟨a, b, c⟩ := x
  unfold fit
  dsimp only
  show SRun _ _ [.agg ⟨[I a, I b, I c]⟩] h _
  refine w_body1 Tryz.func32 rfl rfl ?_
  repeat' (first | apply w_seq | apply w_region | apply o_nil | (apply w_draw; (focus (kernel_rfl)); (focus (kernel_rfl))) | (apply o_g tyOk; exact rfl; exact rfl) | (apply o_ar tyOk; exact rfl; exact rfl) | (apply o_load tyOk; (iterate 3 exact rfl); (focus (exact pk))) | (apply o_box (tt := tyT); iterate 5 exact rfl) | (apply o_callD; (iterate 4 exact rfl); (focus (exact ⟨_, Sectors_any b _ (by omega), by repeat (first | with_reducible exact Take.nil)⟩)); (focus (exact fun _ _ h => h.1)); (focus ((repeat (first | exact Flat.c rfl))))) | (apply o_want; exact rfl; exact rfl) | (apply o_skip; iterate 4 exact rfl) | (apply o_guardT; (iterate 3 exact rfl); all_goals intro hc) | apply thenS_normal | apply w_ret | ((with_reducible apply Sd.mk); (first | exact True.intro)) | ((with_reducible apply Ln.mk); (first | rfl)) | ((with_reducible apply Wr.mk); (first | exact IntWalk.i64_in _ (by omega))) | ((with_reducible apply Ce.mk); (first | rfl)) | exact True.intro | intro A | exact rfl)
  all_goals first
    | (exfalso; omega)
    | (apply s_fin; (exact (show ResS _ _ _ _ [_] from ⟨rfl, trivial⟩)); (focus (exact ⟨congrArg B (decide_eq_decide.2 (by omega)), rfl⟩)); (focus (repeat (first | with_reducible exact Take.nil | with_reducible apply Take.c | with_reducible apply Take.drop))))
    | (apply s_fin; (exact (show ResS _ _ _ _ [_] from ⟨rfl, trivial⟩)); (focus (exact ⟨congrArg B (decide_eq_false (by omega)).symm, rfl⟩)); (focus (repeat (first | with_reducible exact Take.nil | with_reducible apply Take.c | with_reducible apply Take.drop))))
    | (apply s_fin; (exact (show ResS _ _ _ _ [_] from ⟨rfl, trivial⟩)); (focus (exact ⟨congrArg B (decide_eq_true (by omega)).symm, rfl⟩)); (focus (repeat (first | with_reducible exact Take.nil | with_reducible apply Take.c | with_reducible apply Take.drop))))
    | trace_state
theorem region_any (x : Ex3) (h : SH) (hb : x.2.1 ≤ 9223372036854775807) : SRun Tryz.prog 47 [.agg ⟨exF x⟩] h fun r q => r = .agg ⟨prF (rgn x)⟩ ∧ q = h := by
  obtain ⟨a, b, c⟩ := x
  show SRun _ _ [.agg ⟨[I a, I b, I c]⟩] h _
  refine w_body1 Tryz.func47 rfl rfl ?_
  repeat' (first | apply w_seq | apply w_region | apply o_nil | (apply w_draw; (focus (kernel_rfl)); (focus (kernel_rfl))) | (apply o_g tyOk; exact rfl; exact rfl) | (apply o_load tyOk; (iterate 3 exact rfl); (focus (exact pk))) | (apply o_stores tyOk; (iterate 4 exact rfl); (focus (exact ⟨rfl⟩)); (focus (exact up))) | (apply o_alloc tyOk; iterate 5 exact rfl) | (apply o_box (tt := tyT); iterate 5 exact rfl) | (apply o_build tyOk; exact rfl; exact rfl; (focus (first | with_reducible exact pl53)); exact rfl; (focus (repeat (first | exact BuildR.nil | (apply BuildR.one; exact rfl; exact rfl; (first | (focus ((repeat (first | exact SetAt.zero | apply SetAt.succ)); done))))))); exact rfl) | (apply o_callD; (iterate 4 exact rfl); (focus (exact ⟨_, Sectors_any b _ hb, by repeat (first | with_reducible exact Take.nil)⟩)); (focus (exact fun _ _ h => h.1)); (focus ((repeat (first | exact Flat.c rfl))))) | apply thenS_normal | apply w_ret | ((with_reducible apply Sd.mk); (first | exact True.intro)) | ((with_reducible apply Ln.mk); (first | rfl)) | ((with_reducible apply Ce.mk); (first | rfl)) | ((with_reducible apply Pu.mk); (first | exact putAt_all rfl)) | exact True.intro | exact Or.inl rfl | apply And.intro | intro A | exact rfl)
  all_goals first
    | (apply s_fin; (exact (show ResS _ _ _ _ [_] from (res_cell tyOk rfl rfl rfl (by exact pk) (by first | rfl | exact ‹_› | omega | (simp ; first | done | omega)) (by first | rfl | exact ‹_› | omega | (simp ; first | done | omega)) trivial))); (focus (exact ⟨rfl, rfl⟩)); (focus (repeat (first | with_reducible exact Take.nil | with_reducible apply Take.c | with_reducible apply Take.drop))))
    | trace_state
/-- The regions of the header and of the places. -/
def rgs (d : Ex3) (l : List Eny) : List Rg := rgn d :: l.map fun e => rgn (plc e)
theorem en_len (l : List Eny) : (recs enF l).length = 7 * l.length := by rw [recs_len (f := enF) (w := 7) (fun _ => rfl), Nat.mul_comm]
theorem regions_any (d : Ex3) (l : List Eny) (v : Value) (h : SH) (hv : Has h (recs enF l) 7 l.length v) (hl : l.length ≤ 1000) (hd : fit d) (hp : ∀ e ∈ l, fit (plc e)) :
    SRun Tryz.prog 33 [drV d v] h fun r q => ∃ A, r = gsl A 0 ((rgs d l).length * 2) (rgs d l).length 2 ∧ q = (A, ⟨recs prF (rgs d l), false⟩) :: h := by
  obtain ⟨ad, fl, rfl, hh⟩ := hv
  have hd2 : d.2.1 ≤ 9223372036854775807 := by have := hd.2.1; omega
  have hlb := en_len l
  have hr0 : ∀ h, SRun Tryz.prog 47 [.agg ⟨exF d⟩] h fun r q => r = .agg ⟨prF (rgn d)⟩ ∧ q = h := fun h => region_any d h hd2
  obtain ⟨d1, d2, d3⟩ := d
  have hr0 : ∀ h, SRun Tryz.prog 47 [.agg ⟨[I d1, I d2, I d3]⟩] h fun r q => r = .agg ⟨[I (rgn (d1, d2, d3)).1, I (rgn (d1, d2, d3)).2]⟩ ∧ q = h := hr0
  show SRun _ _ [.agg ⟨[I d1, I d2, I d3, .slice ad l.length fl]⟩] h _
  have hrl : (rgs (d1, d2, d3) l).length = l.length + 1 := by simp [rgs]
  have hrs : rgs (d1, d2, d3) l = rgn (d1, d2, d3) :: (l.take l.length).map (fun e => rgn (plc e)) := by rw [List.take_length]; rfl
  refine w_body1 Tryz.func33 rfl rfl ?_
  repeat' (first | apply w_seq | apply w_region | apply o_nil | (apply o_loadH tyOk; (iterate 5 exact rfl); (focus (exact pk))) | (apply o_g tyOk; exact rfl; exact rfl) | (apply o_load tyOk; (iterate 3 exact rfl); (focus (exact pk))) | (apply o_box (tt := tyT); iterate 5 exact rfl) | (apply o_buildSlice tyOk; (iterate 5 exact rfl); (focus (decide)); exact rfl; (focus (decide)); (focus (repeat (first | exact CatR.last rfl))); exact rfl) | (apply o_call; exact rfl; exact rfl; (focus (first | exact rfl)); exact rfl; (focus (exact ⟨_, hr0 _, by repeat (first | with_reducible exact Take.nil)⟩)); rintro _ _ ⟨rfl, rfl⟩) | apply thenS_normal | apply w_block | ((with_reducible apply Sd.mk); (first | exact True.intro)) | ((with_reducible apply Ln.mk); (first | rfl)) | ((with_reducible apply Ce.mk); (first | rfl)) | exact True.intro | intro A | exact rfl)
  rename_i A1
  revert A; intro A2
  refine w_loop (S := Nat) (fun i => [(3, gsl A2 0 ((i + 1) * 2) (i + 1) 2), (11, .slice ad l.length fl), (12, I l.length), (13, I i)])
    (fun i => (A2, ⟨recs prF (rgn (d1, d2, d3) :: (l.take i).map fun e => rgn (plc e)), false⟩) :: h) (fun i => i ≤ l.length) (fun i => l.length - i) 0 (Nat.zero_le _) (by repeat' (first | exact trivial | refine ⟨rfl, ?_⟩ | refine ⟨congrArg some ?_, ?_⟩)) (by repeat (first | with_reducible exact Take.nil | with_reducible apply Take.c | ((with_reducible apply Take.cE); (first | exact rfl | (apply blkE; (focus (first | exact rfl | exact recs_snocE rfl | exact map_snocE rfl | exact congrArg (fun v => [v]) (gslE rfl rfl (by first | rfl | exact ‹_› | omega | (simp ; first | done | omega)) (by first | rfl | exact ‹_› | omega | (simp ; first | done | omega)) rfl)))))) | with_reducible apply Take.drop)) ?_
  rintro i hi
  by_cases hil : i < l.length
  · obtain ⟨A', ro, h1, rfl, hp1⟩ := hh (by omega)
    have htb := stake_bang hil
    have hmem := sbang_mem hil
    have hfp := hp _ hmem
    have hrg := fun h => region_any (plc l[i]!) h (by have := hfp.2.1; omega)
    have hrec : enF l[i]! = [I l[i]!.1, I l[i]!.2.1, I l[i]!.2.2.1, I l[i]!.2.2.2.1, I l[i]!.2.2.2.2.1, I l[i]!.2.2.2.2.2.1, I l[i]!.2.2.2.2.2.2] := rfl
    obtain ⟨x, hx⟩ : ∃ x, x = l[i]! := ⟨_, rfl⟩
    rw [← hx] at htb hrg
    obtain ⟨x1, x2, x3, x4, y1, y2, y3⟩ := x
    have hsub : SubAt (recs enF l) (0 + ((i : Int)).toNat * 7) [I x1, I x2, I x3, I x4, I y1, I y2, I y3] := by rw [show [I x1, I x2, I x3, I x4, I y1, I y2, I y3] = enF l[i]! by rw [← hx]]; exact subAt_recZ (fun _ => rfl) hil
    have hrg : ∀ h, SRun Tryz.prog 47 [.agg ⟨[I y1, I y2, I y3]⟩] h fun r q => r = .agg ⟨[I (rgn (y1, y2, y3)).1, I (rgn (y1, y2, y3)).2]⟩ ∧ q = h := hrg
    have hs3 : SubAt [I x1, I x2, I x3, I x4, I y1, I y2, I y3] 4 [I y1, I y2, I y3] := fun j u hj => by
      match j, hj with
      | 0, hj => exact hj
      | 1, hj => exact hj
      | 2, hj => exact hj
    have hpl := pr_len (rgn (d1, d2, d3) :: (l.take i).map fun e => rgn (plc e))
    have hll : (rgn (d1, d2, d3) :: (l.take i).map fun e => rgn (plc e)).length = i + 1 := by simp; omega
    repeat' (first | apply w_seq | apply w_region | apply o_nil | (apply o_g tyOk; exact rfl; exact rfl) | (apply o_ar tyOk; exact rfl; exact rfl) | (apply o_loads tyOk; (iterate 3 exact rfl); (focus (exact pk))) | (apply o_stores tyOk; (iterate 4 exact rfl); (focus (exact ⟨rfl⟩)); (focus (exact up))) | (apply o_alloc tyOk; iterate 5 exact rfl) | (apply o_buildSlice tyOk; (iterate 5 exact rfl); (focus (decide)); exact rfl; (focus (decide)); (focus (repeat (first | exact CatR.last rfl))); exact rfl) | (apply o_append tyOk; (iterate 5 exact rfl); (focus (exact ⟨by decide⟩)); (focus (exact up)); (focus (exact pk))) | (apply o_call; exact rfl; exact rfl; (focus (first | exact rfl)); exact rfl; (focus (exact ⟨_, hrg _, by repeat (first | with_reducible exact Take.nil)⟩)); rintro _ _ ⟨rfl, rfl⟩) | (apply w_dT; exact rfl; (focus (first | omega))) | apply thenS_normal | apply blockS_normal | apply w_skip | apply w_block | ((with_reducible apply Sd.mk); (first | exact True.intro | omega | (constructor <;> first | omega | (unfold maxLen; omega)))) | ((with_reducible apply Ln.mk); (first | rfl | omega)) | ((with_reducible apply Wr.mk); (first | exact IntWalk.i64_in _ (by omega))) | ((with_reducible apply Pu.mk); (first | exact putAt_all rfl)) | ((with_reducible apply Su.mk); (first | exact hsub | exact hs3 | exact subAt_all)) | exact True.intro | intro A | exact rfl)
    all_goals first
      | (exfalso; omega)
      | exact ⟨i + 1, hil, by show l.length - (i + 1) < l.length - i; omega, ⟨congrArg some (gslE rfl rfl (by omega) rfl rfl), rfl, rfl, rfl, trivial⟩, by rw [htb, List.map_append, ← List.cons_append]; exact (by repeat (first | with_reducible exact Take.nil | with_reducible apply Take.c | ((with_reducible apply Take.cE); (first | exact rfl | (apply blkE; (focus (first | exact rfl | exact recs_snocE rfl | exact map_snocE rfl | exact congrArg (fun v => [v]) (gslE rfl rfl (by first | rfl | exact ‹_› | omega | (simp ; first | done | omega)) (by first | rfl | exact ‹_› | omega | (simp ; first | done | omega)) rfl)))))) | with_reducible apply Take.drop))⟩
      | trace_state
  · obtain rfl : i = l.length := by omega
    rw [← hrs]
    repeat' (first | apply w_seq | apply w_region | apply o_nil | (apply o_g tyOk; exact rfl; exact rfl) | (apply w_dF; exact rfl; (focus (first | omega))) | apply thenS_normal | apply thenS_exit | apply blockS_exit | apply w_ret | apply w_exit | ((with_reducible apply Sd.mk); (first | exact True.intro)))
    all_goals first
      | (exfalso; omega)
      | (apply s_fin; (exact (show ResS _ _ _ _ [_] from ⟨rfl, trivial⟩)); (focus (exact ⟨A2, by rw [hrl]; rfl, rfl⟩)); (focus (repeat (first | with_reducible exact Take.nil | with_reducible apply Take.c | with_reducible apply Take.drop))))
      | trace_state
/-- The region of an extent, as the reference gives it. -/
def bad (x : Ex3) : Prop := x.2.1 < 1 ∨ 16384 < x.2.1 ∨ x.2.2 < 0 ∨ 4294967296 ≤ x.2.2 ∨ x.1 < 4 ∨ 1024 < x.1
instance (x : Ex3) : Decidable (bad x) := inferInstanceAs (Decidable (_ ∨ _ ∨ _ ∨ _ ∨ _ ∨ _))
def rrg (x : Ex3) : Rg := if bad x then (0, 0) else rgn x
theorem rrg_fit {x : Ex3} (h : fit x) : rrg x = rgn x := if_neg (by unfold bad; unfold fit at h; omega)
theorem rRegion_any (x : Ex3) (h : SH) : SRun Tryz.prog 44 [.agg ⟨exF x⟩] h fun r q => r = .tuple #[.agg ⟨prF (rrg x)⟩, B (decide (fit x))] ∧ q = h := by
  obtain ⟨a, b, c⟩ := x
  unfold rrg
  by_cases hb : bad (a, b, c)
  · have hf : ¬ fit (a, b, c) := by unfold fit; unfold bad at hb; dsimp only at hb ⊢; omega
    rw [if_pos hb, decide_eq_false hf]
    unfold bad at hb
    dsimp only at hb
    show SRun _ _ [.agg ⟨[I a, I b, I c]⟩] h _
    refine w_body1 Tryz.func44 rfl rfl ?_
    repeat' ((fail_if_success (show SWp _ _ (Code.seq (Code.region 3 _ _) _) _ _ _)); (fail_if_success (show SWp _ _ (Code.region 3 _ _) _ _ _)); first | apply w_seq | apply w_region | apply o_nil | (apply o_g tyOk; exact rfl; exact rfl) | (apply o_load tyOk; (iterate 3 exact rfl); (focus (exact pk))) | (apply o_stores tyOk; (iterate 4 exact rfl); (focus (exact ⟨rfl⟩)); (focus (exact up))) | (apply o_alloc tyOk; iterate 5 exact rfl) | (apply o_box (tt := tyT); iterate 5 exact rfl) | (apply o_build tyOk; exact rfl; exact rfl; (focus (first | with_reducible exact pl53)); exact rfl; (focus (repeat (first | exact BuildR.nil))); exact rfl) | (apply o_want; exact rfl; exact rfl) | (apply o_skip; iterate 4 exact rfl) | (apply o_guardF; (iterate 3 exact rfl); all_goals intro hc) | (apply w_true; exact rfl) | (apply w_dT; exact rfl; (focus (first | omega))) | apply thenS_normal | apply thenS_ret | apply w_ret | ((with_reducible apply Sd.mk); (first | exact True.intro)) | ((with_reducible apply Ln.mk); (first | rfl)) | ((with_reducible apply Ce.mk); (first | rfl)) | ((with_reducible apply Pu.mk); (first | exact putAt_all rfl)) | exact True.intro | intro A | exact rfl)
    all_goals first
      | (exfalso; omega)
      | (apply s_fin; (exact (show ResS _ _ _ _ [_, _] from (res_cell tyOk rfl rfl rfl (by exact pk) (by first | rfl | exact ‹_› | omega | (simp ; first | done | omega)) (by first | rfl | exact ‹_› | omega | (simp ; first | done | omega)) ⟨rfl, trivial⟩))); (focus (exact ⟨rfl, rfl⟩)); (focus (repeat (first | with_reducible exact Take.nil | with_reducible apply Take.c | with_reducible apply Take.drop))))
      | trace_state
  · rw [if_neg hb]
    unfold bad at hb
    unfold fit rgn
    dsimp only at hb ⊢
    have h1 := sct_in (b := b) (by omega)
    show SRun _ _ [.agg ⟨[I a, I b, I c]⟩] h _
    refine w_body1 Tryz.func44 rfl rfl ?_
    repeat' (first | apply w_seq | apply w_region | apply o_nil | (apply w_draw; (focus (kernel_rfl)); (focus (kernel_rfl))) | (apply o_g tyOk; exact rfl; exact rfl) | (apply o_ar tyOk; exact rfl; exact rfl) | (apply o_load tyOk; (iterate 3 exact rfl); (focus (exact pk))) | (apply o_stores tyOk; (iterate 4 exact rfl); (focus (exact ⟨rfl⟩)); (focus (exact up))) | (apply o_alloc tyOk; iterate 5 exact rfl) | (apply o_box (tt := tyT); iterate 5 exact rfl) | (apply o_build tyOk; exact rfl; exact rfl; (focus (first | with_reducible exact pl53)); exact rfl; (focus (repeat (first | exact BuildR.nil | (apply BuildR.one; exact rfl; exact rfl; (first | (focus ((repeat (first | exact SetAt.zero | apply SetAt.succ)); done))))))); exact rfl) | (apply o_call; exact rfl; exact rfl; (focus (first | exact rfl)); exact rfl; (focus (exact ⟨_, rSectors_any b _ (by omega), by repeat (first | with_reducible exact Take.nil)⟩)); rintro _ _ ⟨rfl, rfl⟩) | (apply o_want; exact rfl; exact rfl) | (apply o_gF; (iterate 3 exact rfl); (focus (first | omega))) | (apply w_dF; exact rfl; (focus (first | omega))) | apply thenS_normal | apply w_skip | apply w_ret | ((with_reducible apply Sd.mk); (first | exact True.intro)) | ((with_reducible apply Ln.mk); (first | rfl)) | ((with_reducible apply Wr.mk); (first | exact IntWalk.i64_in _ (by omega))) | ((with_reducible apply Ce.mk); (first | rfl)) | ((with_reducible apply Pu.mk); (first | exact putAt_all rfl)) | exact True.intro | refine Rc.mk ⟨_, _, pk, ?_⟩ | exact Or.inl rfl | apply And.intro | apply Or.inr | intro A | exact rfl)
    all_goals first
      | (exfalso; omega)
      | (apply s_fin; (exact (show ResS _ _ _ _ [_, _] from (res_cell tyOk rfl rfl rfl (by exact pk) (by first | rfl | exact ‹_› | omega | (simp ; first | done | omega)) (by first | rfl | exact ‹_› | omega | (simp ; first | done | omega)) ⟨rfl, trivial⟩))); (focus (exact ⟨congrArg (fun z : Bool => Value.tuple #[.agg ⟨[I a, I (sct b)]⟩, B z]) (decide_eq_decide.2 (by omega)), rfl⟩)); (focus (repeat (first | with_reducible exact Take.nil | with_reducible apply Take.c | with_reducible apply Take.drop))))
      | trace_state
/-- All extents are valid. -/
def fitAll (d : Ex3) (l : List Eny) : Prop := fit d ∧ ∀ e ∈ l, fit (plc e)
instance (d : Ex3) (l : List Eny) : Decidable (fitAll d l) := inferInstanceAs (Decidable (_ ∧ _))
def rrgs (d : Ex3) (l : List Eny) : List Rg := rrg d :: l.map fun e => rrg (plc e)
theorem rrgs_fit {d : Ex3} {l : List Eny} (h : fitAll d l) : rrgs d l = rgs d l := by
  unfold rrgs rgs
  rw [rrg_fit h.1]
  exact congrArg _ (List.map_congr_left fun e he => rrg_fit (h.2 e he))
theorem rregions_any (d : Ex3) (l : List Eny) (v : Value) (h : SH) (hv : Has h (recs enF l) 7 l.length v) (hl : l.length ≤ 1000) :
    SRun Tryz.prog 29 [drV d v] h fun r q => ∃ A, r = .tuple #[gsl A 0 ((rrgs d l).length * 2) (rrgs d l).length 2, B (decide (fitAll d l))] ∧ q = (A, ⟨recs prF (rrgs d l), false⟩) :: h := by
  obtain ⟨ad, fl, rfl, hh⟩ := hv
  have hlb := en_len l
  have hr0 : ∀ h, SRun Tryz.prog 44 [.agg ⟨exF d⟩] h fun r q => r = .tuple #[.agg ⟨[I (rrg d).1, I (rrg d).2]⟩, B (decide (fit d))] ∧ q = h := fun h => rRegion_any d h
  have hrl : (rrgs d l).length = l.length + 1 := by simp [rrgs]
  have hrs : rrgs d l = rrg d :: (l.take l.length).map (fun e => rrg (plc e)) := by rw [List.take_length]; rfl
  have hfa : decide (fitAll d l) = decide (fitAll d (l.take l.length)) := by rw [List.take_length]
  have hf0 : decide (fit d) = decide (fitAll d (l.take 0)) := decide_eq_decide.2 (by unfold fitAll; simp)
  rw [hf0] at hr0
  obtain ⟨d1, d2, d3⟩ := d
  show SRun _ _ [.agg ⟨[I d1, I d2, I d3, .slice ad l.length fl]⟩] h _
  refine w_body1 Tryz.func29 rfl rfl ?_
  repeat' (first | apply w_seq | apply w_region | apply o_nil | (apply o_loadH tyOk; (iterate 5 exact rfl); (focus (exact pk))) | (apply o_g tyOk; exact rfl; exact rfl) | (apply o_loads tyOk; (iterate 3 exact rfl); (focus (exact pk))) | (apply o_stores tyOk; (iterate 4 exact rfl); (focus (exact ⟨rfl⟩)); (focus (exact up))) | (apply o_alloc tyOk; iterate 5 exact rfl) | (apply o_box (tt := tyT); iterate 5 exact rfl) | (apply o_buildSlice tyOk; (iterate 5 exact rfl); (focus (decide)); exact rfl; (focus (decide)); (focus (repeat (first | exact CatR.last rfl))); exact rfl) | (apply o_call; exact rfl; exact rfl; (focus (first | exact rfl)); exact rfl; (focus (exact ⟨_, hr0 _, by repeat (first | with_reducible exact Take.nil)⟩)); rintro _ _ ⟨rfl, rfl⟩) | apply thenS_normal | apply w_block | ((with_reducible apply Sd.mk); (first | exact True.intro)) | ((with_reducible apply Ln.mk); (first | rfl)) | ((with_reducible apply Pu.mk); (first | exact putAt_all rfl)) | ((with_reducible apply Su.mk); (first | exact subAt_all)) | exact True.intro | intro A | exact rfl)
  rename_i A1 A2
  revert A; intro A3
  refine w_loop (S := Nat) (fun i => [(1, gptr A1 0 4), (6, gsl A3 0 ((i + 1) * 2) (i + 1) 2), (5, B (decide (fitAll (d1, d2, d3) (l.take i)))), (7, I i)])
    (fun i => (A3, ⟨recs prF (rrg (d1, d2, d3) :: (l.take i).map fun e => rrg (plc e)), false⟩) :: (A1, ⟨[I d1, I d2, I d3, .slice ad l.length fl], false⟩) :: h) (fun i => i ≤ l.length) (fun i => l.length - i) 0 (Nat.zero_le _) (by repeat' (first | exact trivial | refine ⟨rfl, ?_⟩ | refine ⟨congrArg some ?_, ?_⟩)) (by repeat (first | with_reducible exact Take.nil | with_reducible apply Take.c | ((with_reducible apply Take.cE); (first | exact rfl | (apply blkE; (focus (first | exact rfl | exact recs_snocE rfl | exact map_snocE rfl | exact congrArg (fun v => [v]) (gslE rfl rfl (by first | rfl | exact ‹_› | omega | (simp ; first | done | omega)) (by first | rfl | exact ‹_› | omega | (simp ; first | done | omega)) rfl)))))) | with_reducible apply Take.drop)) ?_
  rintro i hi
  by_cases hil : i < l.length
  · obtain ⟨A', ro, h1, rfl, hp1⟩ := hh (by omega)
    have htb := stake_bang hil
    have hrg := fun h => rRegion_any (plc l[i]!) h
    obtain ⟨x, hx⟩ : ∃ x, x = l[i]! := ⟨_, rfl⟩
    rw [← hx] at htb hrg
    obtain ⟨x1, x2, x3, x4, y1, y2, y3⟩ := x
    have hsub : SubAt (recs enF l) (0 + ((i : Int)).toNat * 7 + 4) [I y1, I y2, I y3] := fun j u hj => by
      have := subAt_recZ (f := enF) (w := 7) (l := l) (i := i) (fun _ => rfl) hil (4 + j) u (by
        rw [← hx]
        match j, hj with
        | 0, hj => exact hj
        | 1, hj => exact hj
        | 2, hj => exact hj)
      rw [← Nat.add_assoc] at this
      exact this
    have hrg : ∀ h, SRun Tryz.prog 44 [.agg ⟨[I y1, I y2, I y3]⟩] h fun r q => r = .tuple #[.agg ⟨[I (rrg (y1, y2, y3)).1, I (rrg (y1, y2, y3)).2]⟩, B (decide (fit (y1, y2, y3)))] ∧ q = h := hrg
    have hpl := pr_len (rrg (d1, d2, d3) :: (l.take i).map fun e => rrg (plc e))
    have hll : (rrg (d1, d2, d3) :: (l.take i).map fun e => rrg (plc e)).length = i + 1 := by simp; omega
    have hiff : fitAll (d1, d2, d3) (l.take (i + 1)) ↔ fitAll (d1, d2, d3) (l.take i) ∧ fit (y1, y2, y3) := by
      unfold fitAll
      rw [htb]
      constructor
      · rintro ⟨g1, g2⟩
        exact ⟨⟨g1, fun e he => g2 e (by simp [he])⟩, g2 (x1, x2, x3, x4, y1, y2, y3) (by simp)⟩
      · rintro ⟨⟨g1, g2⟩, g3⟩
        refine ⟨g1, fun e he => ?_⟩
        rcases List.mem_append.1 he with he | he
        · exact g2 e he
        · obtain rfl : e = _ := by simpa using he
          exact g3
    repeat' (first | apply w_seq | apply w_region | apply o_nil | (apply o_g tyOk; exact rfl; exact rfl) | (apply o_ar tyOk; exact rfl; exact rfl) | (apply o_load tyOk; (iterate 3 exact rfl); (focus (exact pk))) | (apply o_loads tyOk; (iterate 3 exact rfl); (focus (exact pk))) | (apply o_stores tyOk; (iterate 4 exact rfl); (focus (exact ⟨rfl⟩)); (focus (exact up))) | (apply o_alloc tyOk; iterate 5 exact rfl) | (apply o_buildSlice tyOk; (iterate 5 exact rfl); (focus (decide)); exact rfl; (focus (decide)); (focus (repeat (first | exact CatR.last rfl))); exact rfl) | (apply o_append tyOk; (iterate 5 exact rfl); (focus (exact ⟨by decide⟩)); (focus (exact up)); (focus (exact pk))) | (apply o_call; exact rfl; exact rfl; (focus (first | exact rfl)); exact rfl; (focus (exact ⟨_, hrg _, by repeat (first | with_reducible exact Take.nil)⟩)); rintro _ _ ⟨rfl, rfl⟩) | (apply o_guardT; (iterate 3 exact rfl); all_goals intro hc) | (apply w_dT; exact rfl; (focus (first | omega))) | apply thenS_normal | apply blockS_normal | apply w_skip | apply w_block | ((with_reducible apply Sd.mk); (first | exact True.intro | omega | (constructor <;> first | omega | (unfold maxLen; omega)))) | ((with_reducible apply Ln.mk); (first | rfl | omega)) | ((with_reducible apply Wr.mk); (first | exact IntWalk.i64_in _ (by omega))) | ((with_reducible apply Ce.mk); (first | rfl)) | ((with_reducible apply Pu.mk); (first | exact putAt_all rfl)) | ((with_reducible apply Su.mk); (first | exact hsub | exact subAt_all)) | exact True.intro | intro A | exact rfl)
    all_goals first
      | (exfalso; omega)
      | exact ⟨i + 1, hil, by show l.length - (i + 1) < l.length - i; omega, ⟨rfl, congrArg some (gslE rfl rfl (by omega) rfl rfl), congrArg (fun z => some (B z)) (decide_eq_decide.2 ⟨fun g => hiff.2 ⟨hc, g⟩, fun g => (hiff.1 g).2⟩), rfl, trivial⟩, by rw [htb, List.map_append, ← List.cons_append]; exact (by repeat (first | with_reducible exact Take.nil | with_reducible apply Take.c | ((with_reducible apply Take.cE); (first | exact rfl | (apply blkE; (focus (first | exact rfl | exact recs_snocE rfl | exact map_snocE rfl | exact congrArg (fun v => [v]) (gslE rfl rfl (by first | rfl | exact ‹_› | omega | (simp ; first | done | omega)) (by first | rfl | exact ‹_› | omega | (simp ; first | done | omega)) rfl)))))) | with_reducible apply Take.drop))⟩
      | exact ⟨i + 1, hil, by show l.length - (i + 1) < l.length - i; omega, ⟨rfl, congrArg some (gslE rfl rfl (by omega) rfl rfl), congrArg (fun z => some (B z)) (decide_eq_false (fun g => hc (hiff.1 g).1)).symm, rfl, trivial⟩, by rw [htb, List.map_append, ← List.cons_append]; exact (by repeat (first | with_reducible exact Take.nil | with_reducible apply Take.c | ((with_reducible apply Take.cE); (first | exact rfl | (apply blkE; (focus (first | exact rfl | exact recs_snocE rfl | exact map_snocE rfl | exact congrArg (fun v => [v]) (gslE rfl rfl (by first | rfl | exact ‹_› | omega | (simp ; first | done | omega)) (by first | rfl | exact ‹_› | omega | (simp ; first | done | omega)) rfl)))))) | with_reducible apply Take.drop))⟩
      | trace_state
  · obtain rfl : i = l.length := by omega
    rw [← hrs, ← hfa]
    repeat' (first | apply w_seq | apply w_region | apply o_nil | (apply o_g tyOk; exact rfl; exact rfl) | (apply o_load tyOk; (iterate 3 exact rfl); (focus (exact pk))) | (apply w_dF; exact rfl; (focus (first | omega))) | apply thenS_normal | apply thenS_exit | apply blockS_exit | apply w_ret | apply w_exit | ((with_reducible apply Sd.mk); (first | exact True.intro)) | ((with_reducible apply Ln.mk); (first | rfl)) | ((with_reducible apply Ce.mk); (first | rfl)) | exact True.intro | exact rfl)
    all_goals first
      | (exfalso; omega)
      | (apply s_fin; (exact (show ResS _ _ _ _ [_, _] from ⟨rfl, ⟨rfl, trivial⟩⟩)); (focus (exact ⟨A3, by rw [hrl]; rfl, rfl⟩)); (focus (repeat (first | with_reducible exact Take.nil | with_reducible apply Take.c | with_reducible apply Take.drop))))
      | trace_state
end Go.Proofs.YtncnmfdmbfbfjaaGreat
end
