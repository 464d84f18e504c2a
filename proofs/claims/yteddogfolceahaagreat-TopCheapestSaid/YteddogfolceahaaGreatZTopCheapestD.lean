/- Part 4 of the proof of the law TopCheapest: texts merged. No condition. -/
import Derived.Test.YteddogfolceahaaGreatZTopCheapestC
import Derived.Test.YteddogfolceahaaGreatProg
import Derived.KernelRfl
set_option linter.unusedSimpArgs false
set_option linter.unusedVariables false
section
namespace Go.Proofs.YteddogfolceahaaGreat
open Go.Gh
@[reducible] def te0 :TE:=⟨.other,1,0,some (.tuple ⟨[]⟩)⟩
theorem ty0 :zO Tryz.prog 0=some te0:=by kernel_rfl
@[reducible] def te1 :TE:=⟨.other,1,8,some (.nilFunc)⟩
theorem ty1 :zO Tryz.prog 1=some te1:=by kernel_rfl
@[reducible] def te2 :TE:=⟨.int .i64,1,8,some (.int .i64 0)⟩
theorem ty2 :zO Tryz.prog 2=some te2:=by kernel_rfl
@[reducible] def te3 :TE:=⟨.int .i64,1,8,some (.int .i64 0)⟩
theorem ty3 :zO Tryz.prog 3=some te3:=by kernel_rfl
@[reducible] def te4 :TE:=⟨.bool,1,1,some (.bool false)⟩
theorem ty4 :zO Tryz.prog 4=some te4:=by kernel_rfl
@[reducible] def te5 :TE:=⟨.int .u8,1,1,some (.int .u8 0)⟩
theorem ty5 :zO Tryz.prog 5=some te5:=by kernel_rfl
@[reducible] def te6 :TE:=⟨.int .u8,1,1,some (.int .u8 0)⟩
theorem ty6 :zO Tryz.prog 6=some te6:=by kernel_rfl
@[reducible] def te7 :TE:=⟨.st [(2,0),(3,1),(4,2),(6,3)],4,24,some (.agg ⟨[.int .i64 0,.int .i64 0,.bool false,.int .u8 0]⟩)⟩
theorem ty7 :zO Tryz.prog 7=some te7:=by kernel_rfl
@[reducible] def te8 :TE:=⟨.st [(2,0),(3,1),(4,2),(6,3)],4,24,some (.agg ⟨[.int .i64 0,.int .i64 0,.bool false,.int .u8 0]⟩)⟩
theorem ty8 :zO Tryz.prog 8=some te8:=by kernel_rfl
@[reducible] def te9 :TE:=⟨.str,1,16,some (.string ⟨⟨[]⟩⟩)⟩
theorem ty9 :zO Tryz.prog 9=some te9:=by kernel_rfl
@[reducible] def te10 :TE:=⟨.str,1,16,some (.string ⟨⟨[]⟩⟩)⟩
theorem ty10 :zO Tryz.prog 10=some te10:=by kernel_rfl
@[reducible] def te11 :TE:=⟨.str,1,16,some (.string ⟨⟨[]⟩⟩)⟩
theorem ty11 :zO Tryz.prog 11=some te11:=by kernel_rfl
@[reducible] def te12 :TE:=⟨.int .u64,1,8,some (.int .u64 0)⟩
theorem ty12 :zO Tryz.prog 12=some te12:=by kernel_rfl
@[reducible] def te13 :TE:=⟨.st [(9,0),(12,1)],2,24,some (.agg ⟨[.string ⟨⟨[]⟩⟩,.int .u64 0]⟩)⟩
theorem ty13 :zO Tryz.prog 13=some te13:=by kernel_rfl
@[reducible] def te14 :TE:=⟨.st [(9,0),(12,1)],2,24,some (.agg ⟨[.string ⟨⟨[]⟩⟩,.int .u64 0]⟩)⟩
theorem ty14 :zO Tryz.prog 14=some te14:=by kernel_rfl
@[reducible] def te15 :TE:=⟨.ptr 296,1,8,some (.pointer none)⟩
theorem ty15 :zO Tryz.prog 15=some te15:=by kernel_rfl
@[reducible] def te16 :TE:=⟨.ptr 299,1,8,some (.pointer none)⟩
theorem ty16 :zO Tryz.prog 16=some te16:=by kernel_rfl
@[reducible] def te17 :TE:=⟨.ptr 306,1,8,some (.pointer none)⟩
theorem ty17 :zO Tryz.prog 17=some te17:=by kernel_rfl
@[reducible] def te18 :TE:=⟨.st [(17,0)],1,8,some (.agg ⟨[.pointer none]⟩)⟩
theorem ty18 :zO Tryz.prog 18=some te18:=by kernel_rfl
@[reducible] def te19 :TE:=⟨.st [(17,0)],1,8,some (.agg ⟨[.pointer none]⟩)⟩
theorem ty19 :zO Tryz.prog 19=some te19:=by kernel_rfl
@[reducible] def te20 :TE:=⟨.other,1,16,some (.nilIface)⟩
theorem ty20 :zO Tryz.prog 20=some te20:=by kernel_rfl
@[reducible] def te21 :TE:=⟨.int .i32,1,4,some (.int .i32 0)⟩
theorem ty21 :zO Tryz.prog 21=some te21:=by kernel_rfl
@[reducible] def te22 :TE:=⟨.slice 33,1,24,some (.slice none 0 0)⟩
theorem ty22 :zO Tryz.prog 22=some te22:=by kernel_rfl
@[reducible] def te23 :TE:=⟨.int .u16,1,2,some (.int .u16 0)⟩
theorem ty23 :zO Tryz.prog 23=some te23:=by kernel_rfl
@[reducible] def te24 :TE:=⟨.int .u32,1,4,some (.int .u32 0)⟩
theorem ty24 :zO Tryz.prog 24=some te24:=by kernel_rfl
@[reducible] def te25 :TE:=⟨.other,1,8,some (.nilFunc)⟩
theorem ty25 :zO Tryz.prog 25=some te25:=by kernel_rfl
@[reducible] def te26 :TE:=⟨.other,1,8,some (.nilFunc)⟩
theorem ty26 :zO Tryz.prog 26=some te26:=by kernel_rfl
@[reducible] def te27 :TE:=⟨.int .i64,1,8,some (.int .i64 0)⟩
theorem ty27 :zO Tryz.prog 27=some te27:=by kernel_rfl
@[reducible] def te28 :TE:=⟨.other,1,0,some (.tuple ⟨[.string ⟨⟨[]⟩⟩,.int .i64 0]⟩)⟩
theorem ty28 :zO Tryz.prog 28=some te28:=by kernel_rfl
@[reducible] def te29 :TE:=⟨.other,1,8,some (.nilFunc)⟩
theorem ty29 :zO Tryz.prog 29=some te29:=by kernel_rfl
@[reducible] def te30 :TE:=⟨.slice 35,1,24,some (.slice none 0 0)⟩
theorem ty30 :zO Tryz.prog 30=some te30:=by kernel_rfl
@[reducible] def te31 :TE:=⟨.other,1,8,some (.nilFunc)⟩
theorem ty31 :zO Tryz.prog 31=some te31:=by kernel_rfl
@[reducible] def te32 :TE:=⟨.st [(3,0),(9,1)],2,24,some (.agg ⟨[.int .i64 0,.string ⟨⟨[]⟩⟩]⟩)⟩
theorem ty32 :zO Tryz.prog 32=some te32:=by kernel_rfl
@[reducible] def te33 :TE:=⟨.st [(3,0),(9,1)],2,24,some (.agg ⟨[.int .i64 0,.string ⟨⟨[]⟩⟩]⟩)⟩
theorem ty33 :zO Tryz.prog 33=some te33:=by kernel_rfl
@[reducible] def te34 :TE:=⟨.st [(3,0),(3,1),(33,2)],4,40,some (.agg ⟨[.int .i64 0,.int .i64 0,.int .i64 0,.string ⟨⟨[]⟩⟩]⟩)⟩
theorem ty34 :zO Tryz.prog 34=some te34:=by kernel_rfl
@[reducible] def te35 :TE:=⟨.st [(3,0),(3,1),(33,2)],4,40,some (.agg ⟨[.int .i64 0,.int .i64 0,.int .i64 0,.string ⟨⟨[]⟩⟩]⟩)⟩
theorem ty35 :zO Tryz.prog 35=some te35:=by kernel_rfl
@[reducible] def te36 :TE:=⟨.other,1,8,some (.nilFunc)⟩
theorem ty36 :zO Tryz.prog 36=some te36:=by kernel_rfl
@[reducible] def te37 :TE:=⟨.slice 5,1,24,some (.slice none 0 0)⟩
theorem ty37 :zO Tryz.prog 37=some te37:=by kernel_rfl
@[reducible] def te38 :TE:=⟨.other,1,0,some (.tuple ⟨[.agg ⟨[.int .i64 0,.string ⟨⟨[]⟩⟩]⟩,.int .i64 0,.int .i64 0]⟩)⟩
theorem ty38 :zO Tryz.prog 38=some te38:=by kernel_rfl
@[reducible] def te39 :TE:=⟨.other,1,8,some (.nilFunc)⟩
theorem ty39 :zO Tryz.prog 39=some te39:=by kernel_rfl
@[reducible] def te40 :TE:=⟨.other,1,0,some (.tuple ⟨[.slice none 0 0,.int .i64 0]⟩)⟩
theorem ty40 :zO Tryz.prog 40=some te40:=by kernel_rfl
@[reducible] def te41 :TE:=⟨.other,1,8,some (.nilFunc)⟩
theorem ty41 :zO Tryz.prog 41=some te41:=by kernel_rfl
@[reducible] def te42 :TE:=⟨.other,1,8,some (.nilFunc)⟩
theorem ty42 :zO Tryz.prog 42=some te42:=by kernel_rfl
@[reducible] def te43 :TE:=⟨.other,1,0,some (.tuple ⟨[.int .i64 0,.bool false]⟩)⟩
theorem ty43 :zO Tryz.prog 43=some te43:=by kernel_rfl
@[reducible] def te44 :TE:=⟨.other,1,8,some (.nilFunc)⟩
theorem ty44 :zO Tryz.prog 44=some te44:=by kernel_rfl
@[reducible] def te45 :TE:=⟨.other,1,0,some (.tuple ⟨[.string ⟨⟨[]⟩⟩,.bool false]⟩)⟩
theorem ty45 :zO Tryz.prog 45=some te45:=by kernel_rfl
@[reducible] def te46 :TE:=⟨.other,1,8,some (.nilFunc)⟩
theorem ty46 :zO Tryz.prog 46=some te46:=by kernel_rfl
@[reducible] def te47 :TE:=⟨.other,1,8,some (.nilFunc)⟩
theorem ty47 :zO Tryz.prog 47=some te47:=by kernel_rfl
@[reducible] def te48 :TE:=⟨.st [(3,0),(3,1),(3,2),(3,3)],4,32,some (.agg ⟨[.int .i64 0,.int .i64 0,.int .i64 0,.int .i64 0]⟩)⟩
theorem ty48 :zO Tryz.prog 48=some te48:=by kernel_rfl
@[reducible] def te49 :TE:=⟨.st [(3,0),(3,1),(3,2),(3,3)],4,32,some (.agg ⟨[.int .i64 0,.int .i64 0,.int .i64 0,.int .i64 0]⟩)⟩
theorem ty49 :zO Tryz.prog 49=some te49:=by kernel_rfl
@[reducible] def te50 :TE:=⟨.slice 81,1,24,some (.slice none 0 0)⟩
theorem ty50 :zO Tryz.prog 50=some te50:=by kernel_rfl
@[reducible] def te51 :TE:=⟨.other,1,0,some (.tuple ⟨[.int .i64 0,.int .i64 0]⟩)⟩
theorem ty51 :zO Tryz.prog 51=some te51:=by kernel_rfl
@[reducible] def te52 :TE:=⟨.other,1,8,some (.nilFunc)⟩
theorem ty52 :zO Tryz.prog 52=some te52:=by kernel_rfl
@[reducible] def te53 :TE:=⟨.other,1,8,some (.nilFunc)⟩
theorem ty53 :zO Tryz.prog 53=some te53:=by kernel_rfl
@[reducible] def te54 :TE:=⟨.other,1,0,some (.tuple ⟨[.slice none 0 0,.int .i64 0]⟩)⟩
theorem ty54 :zO Tryz.prog 54=some te54:=by kernel_rfl
@[reducible] def te55 :TE:=⟨.other,1,8,some (.nilFunc)⟩
theorem ty55 :zO Tryz.prog 55=some te55:=by kernel_rfl
@[reducible] def te56 :TE:=⟨.other,1,8,some (.nilFunc)⟩
theorem ty56 :zO Tryz.prog 56=some te56:=by kernel_rfl
@[reducible] def te57 :TE:=⟨.other,1,8,some (.nilFunc)⟩
theorem ty57 :zO Tryz.prog 57=some te57:=by kernel_rfl
@[reducible] def te58 :TE:=⟨.other,1,8,some (.nilFunc)⟩
theorem ty58 :zO Tryz.prog 58=some te58:=by kernel_rfl
@[reducible] def te59 :TE:=⟨.other,1,8,some (.nilFunc)⟩
theorem ty59 :zO Tryz.prog 59=some te59:=by kernel_rfl
@[reducible] def te60 :TE:=⟨.slice 3,1,24,some (.slice none 0 0)⟩
theorem ty60 :zO Tryz.prog 60=some te60:=by kernel_rfl
@[reducible] def te61 :TE:=⟨.slice 9,1,24,some (.slice none 0 0)⟩
theorem ty61 :zO Tryz.prog 61=some te61:=by kernel_rfl
@[reducible] def te62 :TE:=⟨.other,1,8,some (.nilFunc)⟩
theorem ty62 :zO Tryz.prog 62=some te62:=by kernel_rfl
@[reducible] def te63 :TE:=⟨.other,1,8,some (.nilFunc)⟩
theorem ty63 :zO Tryz.prog 63=some te63:=by kernel_rfl
@[reducible] def te64 :TE:=⟨.other,1,0,some (.tuple ⟨[.slice none 0 0,.int .i64 0]⟩)⟩
theorem ty64 :zO Tryz.prog 64=some te64:=by kernel_rfl
@[reducible] def te65 :TE:=⟨.other,1,8,some (.nilFunc)⟩
theorem ty65 :zO Tryz.prog 65=some te65:=by kernel_rfl
@[reducible] def te66 :TE:=⟨.other,1,0,some (.tuple ⟨[.slice none 0 0,.int .i64 0]⟩)⟩
theorem ty66 :zO Tryz.prog 66=some te66:=by kernel_rfl
@[reducible] def te67 :TE:=⟨.other,1,8,some (.nilFunc)⟩
theorem ty67 :zO Tryz.prog 67=some te67:=by kernel_rfl
@[reducible] def te68 :TE:=⟨.other,1,8,some (.nilFunc)⟩
theorem ty68 :zO Tryz.prog 68=some te68:=by kernel_rfl
@[reducible] def te69 :TE:=⟨.other,1,8,some (.nilFunc)⟩
theorem ty69 :zO Tryz.prog 69=some te69:=by kernel_rfl
@[reducible] def te70 :TE:=⟨.other,1,8,some (.nilFunc)⟩
theorem ty70 :zO Tryz.prog 70=some te70:=by kernel_rfl
@[reducible] def te71 :TE:=⟨.other,1,8,some (.nilFunc)⟩
theorem ty71 :zO Tryz.prog 71=some te71:=by kernel_rfl
@[reducible] def te72 :TE:=⟨.other,1,8,some (.nilFunc)⟩
theorem ty72 :zO Tryz.prog 72=some te72:=by kernel_rfl
@[reducible] def te73 :TE:=⟨.other,1,0,some (.tuple ⟨[.agg ⟨[.int .i64 0,.string ⟨⟨[]⟩⟩]⟩,.int .i64 0,.bool false,.bool false]⟩)⟩
theorem ty73 :zO Tryz.prog 73=some te73:=by kernel_rfl
@[reducible] def te74 :TE:=⟨.other,1,8,some (.nilFunc)⟩
theorem ty74 :zO Tryz.prog 74=some te74:=by kernel_rfl
@[reducible] def te75 :TE:=⟨.other,1,8,some (.nilFunc)⟩
theorem ty75 :zO Tryz.prog 75=some te75:=by kernel_rfl
@[reducible] def te76 :TE:=⟨.arr 8 24,8,32,some (.agg ⟨[.int .u32 0,.int .u32 0,.int .u32 0,.int .u32 0,.int .u32 0,.int .u32 0,.int .u32 0,.int .u32 0]⟩)⟩
theorem ty76 :zO Tryz.prog 76=some te76:=by kernel_rfl
@[reducible] def te77 :TE:=⟨.other,1,8,some (.nilFunc)⟩
theorem ty77 :zO Tryz.prog 77=some te77:=by kernel_rfl
@[reducible] def te78 :TE:=⟨.other,1,8,some (.nilFunc)⟩
theorem ty78 :zO Tryz.prog 78=some te78:=by kernel_rfl
@[reducible] def te79 :TE:=⟨.other,1,8,some (.nilFunc)⟩
theorem ty79 :zO Tryz.prog 79=some te79:=by kernel_rfl
@[reducible] def te80 :TE:=⟨.st [(3,0),(3,1),(5,2)],3,24,some (.agg ⟨[.int .i64 0,.int .i64 0,.int .u8 0]⟩)⟩
theorem ty80 :zO Tryz.prog 80=some te80:=by kernel_rfl
@[reducible] def te81 :TE:=⟨.st [(3,0),(3,1),(5,2)],3,24,some (.agg ⟨[.int .i64 0,.int .i64 0,.int .u8 0]⟩)⟩
theorem ty81 :zO Tryz.prog 81=some te81:=by kernel_rfl
@[reducible] def te82 :TE:=⟨.other,1,8,some (.nilFunc)⟩
theorem ty82 :zO Tryz.prog 82=some te82:=by kernel_rfl
@[reducible] def te83 :TE:=⟨.other,1,8,some (.nilFunc)⟩
theorem ty83 :zO Tryz.prog 83=some te83:=by kernel_rfl
@[reducible] def te84 :TE:=⟨.other,1,8,some (.nilFunc)⟩
theorem ty84 :zO Tryz.prog 84=some te84:=by kernel_rfl
@[reducible] def te85 :TE:=⟨.other,1,8,some (.nilFunc)⟩
theorem ty85 :zO Tryz.prog 85=some te85:=by kernel_rfl
@[reducible] def te86 :TE:=⟨.slice 90,1,24,some (.slice none 0 0)⟩
theorem ty86 :zO Tryz.prog 86=some te86:=by kernel_rfl
@[reducible] def te87 :TE:=⟨.other,1,0,some (.tuple ⟨[.slice none 0 0,.int .i64 0]⟩)⟩
theorem ty87 :zO Tryz.prog 87=some te87:=by kernel_rfl
@[reducible] def te88 :TE:=⟨.other,1,8,some (.nilFunc)⟩
theorem ty88 :zO Tryz.prog 88=some te88:=by kernel_rfl
@[reducible] def te89 :TE:=⟨.st [(3,0),(3,1)],2,16,some (.agg ⟨[.int .i64 0,.int .i64 0]⟩)⟩
theorem ty89 :zO Tryz.prog 89=some te89:=by kernel_rfl
@[reducible] def te90 :TE:=⟨.st [(3,0),(3,1)],2,16,some (.agg ⟨[.int .i64 0,.int .i64 0]⟩)⟩
theorem ty90 :zO Tryz.prog 90=some te90:=by kernel_rfl
@[reducible] def te91 :TE:=⟨.other,1,8,some (.nilFunc)⟩
theorem ty91 :zO Tryz.prog 91=some te91:=by kernel_rfl
@[reducible] def te92 :TE:=⟨.ptr 142,1,8,some (.pointer none)⟩
theorem ty92 :zO Tryz.prog 92=some te92:=by kernel_rfl
@[reducible] def te93 :TE:=⟨.ptr 147,1,8,some (.pointer none)⟩
theorem ty93 :zO Tryz.prog 93=some te93:=by kernel_rfl
@[reducible] def te94 :TE:=⟨.ptr 149,1,8,some (.pointer none)⟩
theorem ty94 :zO Tryz.prog 94=some te94:=by kernel_rfl
@[reducible] def te95 :TE:=⟨.st [(92,0),(93,1),(94,2),(94,3)],4,32,some (.agg ⟨[.pointer none,.pointer none,.pointer none,.pointer none]⟩)⟩
theorem ty95 :zO Tryz.prog 95=some te95:=by kernel_rfl
@[reducible] def te96 :TE:=⟨.st [(92,0),(93,1),(94,2),(94,3)],4,32,some (.agg ⟨[.pointer none,.pointer none,.pointer none,.pointer none]⟩)⟩
theorem ty96 :zO Tryz.prog 96=some te96:=by kernel_rfl
@[reducible] def te97 :TE:=⟨.other,1,8,some (.nilFunc)⟩
theorem ty97 :zO Tryz.prog 97=some te97:=by kernel_rfl
@[reducible] def te98 :TE:=⟨.ptr 140,1,8,some (.pointer none)⟩
theorem ty98 :zO Tryz.prog 98=some te98:=by kernel_rfl
@[reducible] def te99 :TE:=⟨.other,1,8,some (.nilFunc)⟩
theorem ty99 :zO Tryz.prog 99=some te99:=by kernel_rfl
@[reducible] def te100 :TE:=⟨.other,1,8,some (.nilFunc)⟩
theorem ty100 :zO Tryz.prog 100=some te100:=by kernel_rfl
@[reducible] def te101 :TE:=⟨.other,1,8,some (.nilFunc)⟩
theorem ty101 :zO Tryz.prog 101=some te101:=by kernel_rfl
@[reducible] def te102 :TE:=⟨.other,1,8,some (.nilFunc)⟩
theorem ty102 :zO Tryz.prog 102=some te102:=by kernel_rfl
@[reducible] def te103 :TE:=⟨.other,1,8,some (.nilFunc)⟩
theorem ty103 :zO Tryz.prog 103=some te103:=by kernel_rfl
@[reducible] def te104 :TE:=⟨.ptr 152,1,8,some (.pointer none)⟩
theorem ty104 :zO Tryz.prog 104=some te104:=by kernel_rfl
@[reducible] def te105 :TE:=⟨.other,1,8,some (.nilFunc)⟩
theorem ty105 :zO Tryz.prog 105=some te105:=by kernel_rfl
@[reducible] def te106 :TE:=⟨.other,1,8,some (.nilFunc)⟩
theorem ty106 :zO Tryz.prog 106=some te106:=by kernel_rfl
@[reducible] def te107 :TE:=⟨.other,1,8,some (.nilFunc)⟩
theorem ty107 :zO Tryz.prog 107=some te107:=by kernel_rfl
@[reducible] def te108 :TE:=⟨.other,1,8,some (.nilFunc)⟩
theorem ty108 :zO Tryz.prog 108=some te108:=by kernel_rfl
@[reducible] def te109 :TE:=⟨.other,1,8,some (.nilFunc)⟩
theorem ty109 :zO Tryz.prog 109=some te109:=by kernel_rfl
@[reducible] def te110 :TE:=⟨.slice 103,1,24,some (.slice none 0 0)⟩
theorem ty110 :zO Tryz.prog 110=some te110:=by kernel_rfl
@[reducible] def te111 :TE:=⟨.other,1,8,some (.nilFunc)⟩
theorem ty111 :zO Tryz.prog 111=some te111:=by kernel_rfl
@[reducible] def te112 :TE:=⟨.other,1,8,some (.nilFunc)⟩
theorem ty112 :zO Tryz.prog 112=some te112:=by kernel_rfl
@[reducible] def te113 :TE:=⟨.other,1,8,some (.nilFunc)⟩
theorem ty113 :zO Tryz.prog 113=some te113:=by kernel_rfl
@[reducible] def te114 :TE:=⟨.other,1,0,some (.tuple ⟨[.slice none 0 0,.bool false]⟩)⟩
theorem ty114 :zO Tryz.prog 114=some te114:=by kernel_rfl
@[reducible] def te115 :TE:=⟨.other,1,8,some (.nilFunc)⟩
theorem ty115 :zO Tryz.prog 115=some te115:=by kernel_rfl
@[reducible] def te116 :TE:=⟨.other,1,0,some (.tuple ⟨[.slice none 0 0,.bool false]⟩)⟩
theorem ty116 :zO Tryz.prog 116=some te116:=by kernel_rfl
@[reducible] def te117 :TE:=⟨.other,1,8,some (.nilFunc)⟩
theorem ty117 :zO Tryz.prog 117=some te117:=by kernel_rfl
@[reducible] def te118 :TE:=⟨.other,1,8,some (.map none)⟩
theorem ty118 :zO Tryz.prog 118=some te118:=by kernel_rfl
@[reducible] def te119 :TE:=⟨.other,1,8,some (.nilFunc)⟩
theorem ty119 :zO Tryz.prog 119=some te119:=by kernel_rfl
@[reducible] def te120 :TE:=⟨.st [(3,0)],1,8,some (.agg ⟨[.int .i64 0]⟩)⟩
theorem ty120 :zO Tryz.prog 120=some te120:=by kernel_rfl
@[reducible] def te121 :TE:=⟨.st [(3,0)],1,8,some (.agg ⟨[.int .i64 0]⟩)⟩
theorem ty121 :zO Tryz.prog 121=some te121:=by kernel_rfl
@[reducible] def te122 :TE:=⟨.other,1,8,some (.nilFunc)⟩
theorem ty122 :zO Tryz.prog 122=some te122:=by kernel_rfl
@[reducible] def te123 :TE:=⟨.other,1,8,some (.nilFunc)⟩
theorem ty123 :zO Tryz.prog 123=some te123:=by kernel_rfl
@[reducible] def te124 :TE:=⟨.other,1,8,some (.nilFunc)⟩
theorem ty124 :zO Tryz.prog 124=some te124:=by kernel_rfl
@[reducible] def te125 :TE:=⟨.int .u64,1,8,some (.int .u64 0)⟩
theorem ty125 :zO Tryz.prog 125=some te125:=by kernel_rfl
@[reducible] def te126 :TE:=⟨.other,1,8,some (.nilFunc)⟩
theorem ty126 :zO Tryz.prog 126=some te126:=by kernel_rfl
@[reducible] def te127 :TE:=⟨.slice 129,1,24,some (.slice none 0 0)⟩
theorem ty127 :zO Tryz.prog 127=some te127:=by kernel_rfl
@[reducible] def te128 :TE:=⟨.st [(3,0),(3,1),(81,2)],5,40,some (.agg ⟨[.int .i64 0,.int .i64 0,.int .i64 0,.int .i64 0,.int .u8 0]⟩)⟩
theorem ty128 :zO Tryz.prog 128=some te128:=by kernel_rfl
@[reducible] def te129 :TE:=⟨.st [(3,0),(3,1),(81,2)],5,40,some (.agg ⟨[.int .i64 0,.int .i64 0,.int .i64 0,.int .i64 0,.int .u8 0]⟩)⟩
theorem ty129 :zO Tryz.prog 129=some te129:=by kernel_rfl
@[reducible] def te130 :TE:=⟨.other,1,8,some (.nilFunc)⟩
theorem ty130 :zO Tryz.prog 130=some te130:=by kernel_rfl
@[reducible] def te131 :TE:=⟨.other,1,8,some (.nilFunc)⟩
theorem ty131 :zO Tryz.prog 131=some te131:=by kernel_rfl
@[reducible] def te132 :TE:=⟨.other,1,8,some (.map none)⟩
theorem ty132 :zO Tryz.prog 132=some te132:=by kernel_rfl
@[reducible] def te133 :TE:=⟨.other,1,8,some (.nilFunc)⟩
theorem ty133 :zO Tryz.prog 133=some te133:=by kernel_rfl
@[reducible] def te134 :TE:=⟨.other,1,8,some (.nilFunc)⟩
theorem ty134 :zO Tryz.prog 134=some te134:=by kernel_rfl
@[reducible] def te135 :TE:=⟨.other,1,0,some (.tuple ⟨[.pointer none,.int .i64 0]⟩)⟩
theorem ty135 :zO Tryz.prog 135=some te135:=by kernel_rfl
@[reducible] def te136 :TE:=⟨.other,1,8,some (.nilFunc)⟩
theorem ty136 :zO Tryz.prog 136=some te136:=by kernel_rfl
@[reducible] def te137 :TE:=⟨.other,1,8,some (.nilFunc)⟩
theorem ty137 :zO Tryz.prog 137=some te137:=by kernel_rfl
@[reducible] def te138 :TE:=⟨.other,1,8,some (.nilFunc)⟩
theorem ty138 :zO Tryz.prog 138=some te138:=by kernel_rfl
@[reducible] def te139 :TE:=⟨.st [(37,0),(24,1),(24,2)],3,32,some (.agg ⟨[.slice none 0 0,.int .u32 0,.int .u32 0]⟩)⟩
theorem ty139 :zO Tryz.prog 139=some te139:=by kernel_rfl
@[reducible] def te140 :TE:=⟨.st [(37,0),(24,1),(24,2)],3,32,some (.agg ⟨[.slice none 0 0,.int .u32 0,.int .u32 0]⟩)⟩
theorem ty140 :zO Tryz.prog 140=some te140:=by kernel_rfl
@[reducible] def te141 :TE:=⟨.st [(3,0),(60,1)],2,32,some (.agg ⟨[.int .i64 0,.slice none 0 0]⟩)⟩
theorem ty141 :zO Tryz.prog 141=some te141:=by kernel_rfl
@[reducible] def te142 :TE:=⟨.st [(3,0),(60,1)],2,32,some (.agg ⟨[.int .i64 0,.slice none 0 0]⟩)⟩
theorem ty142 :zO Tryz.prog 142=some te142:=by kernel_rfl
@[reducible] def te143 :TE:=⟨.other,1,8,some (.nilFunc)⟩
theorem ty143 :zO Tryz.prog 143=some te143:=by kernel_rfl
@[reducible] def te144 :TE:=⟨.other,1,8,some (.nilFunc)⟩
theorem ty144 :zO Tryz.prog 144=some te144:=by kernel_rfl
@[reducible] def te145 :TE:=⟨.arr 8 142,16,256,some (.agg ⟨[.int .i64 0,.slice none 0 0,.int .i64 0,.slice none 0 0,.int .i64 0,.slice none 0 0,.int .i64 0,.slice none 0 0,.int .i64 0,.slice none 0 0,.int .i64 0,.slice none 0 0,.int .i64 0,.slice none 0 0,.int .i64 0,.slice none 0 0]⟩)⟩
theorem ty145 :zO Tryz.prog 145=some te145:=by kernel_rfl
@[reducible] def te146 :TE:=⟨.st [(145,0),(5,16)],17,264,some (.agg ⟨[.int .i64 0,.slice none 0 0,.int .i64 0,.slice none 0 0,.int .i64 0,.slice none 0 0,.int .i64 0,.slice none 0 0,.int .i64 0,.slice none 0 0,.int .i64 0,.slice none 0 0,.int .i64 0,.slice none 0 0,.int .i64 0,.slice none 0 0,.int .u8 0]⟩)⟩
theorem ty146 :zO Tryz.prog 146=some te146:=by kernel_rfl
@[reducible] def te147 :TE:=⟨.st [(145,0),(5,16)],17,264,some (.agg ⟨[.int .i64 0,.slice none 0 0,.int .i64 0,.slice none 0 0,.int .i64 0,.slice none 0 0,.int .i64 0,.slice none 0 0,.int .i64 0,.slice none 0 0,.int .i64 0,.slice none 0 0,.int .i64 0,.slice none 0 0,.int .i64 0,.slice none 0 0,.int .u8 0]⟩)⟩
theorem ty147 :zO Tryz.prog 147=some te147:=by kernel_rfl
@[reducible] def te148 :TE:=⟨.st [(142,0)],2,32,some (.agg ⟨[.int .i64 0,.slice none 0 0]⟩)⟩
theorem ty148 :zO Tryz.prog 148=some te148:=by kernel_rfl
@[reducible] def te149 :TE:=⟨.st [(142,0)],2,32,some (.agg ⟨[.int .i64 0,.slice none 0 0]⟩)⟩
theorem ty149 :zO Tryz.prog 149=some te149:=by kernel_rfl
@[reducible] def te150 :TE:=⟨.arr 4 5,4,4,some (.agg ⟨[.int .u8 0,.int .u8 0,.int .u8 0,.int .u8 0]⟩)⟩
theorem ty150 :zO Tryz.prog 150=some te150:=by kernel_rfl
@[reducible] def te151 :TE:=⟨.st [(9,0),(27,1)],2,24,some (.agg ⟨[.string ⟨⟨[]⟩⟩,.int .i64 0]⟩)⟩
theorem ty151 :zO Tryz.prog 151=some te151:=by kernel_rfl
@[reducible] def te152 :TE:=⟨.st [(9,0),(27,1)],2,24,some (.agg ⟨[.string ⟨⟨[]⟩⟩,.int .i64 0]⟩)⟩
theorem ty152 :zO Tryz.prog 152=some te152:=by kernel_rfl
@[reducible] def te153 :TE:=⟨.other,1,8,some (.nilFunc)⟩
theorem ty153 :zO Tryz.prog 153=some te153:=by kernel_rfl
@[reducible] def te154 :TE:=⟨.ptr 186,1,8,some (.pointer none)⟩
theorem ty154 :zO Tryz.prog 154=some te154:=by kernel_rfl
@[reducible] def te155 :TE:=⟨.other,1,8,some (.nilFunc)⟩
theorem ty155 :zO Tryz.prog 155=some te155:=by kernel_rfl
@[reducible] def te156 :TE:=⟨.other,1,8,some (.nilFunc)⟩
theorem ty156 :zO Tryz.prog 156=some te156:=by kernel_rfl
@[reducible] def te157 :TE:=⟨.other,1,8,some (.nilFunc)⟩
theorem ty157 :zO Tryz.prog 157=some te157:=by kernel_rfl
@[reducible] def te158 :TE:=⟨.other,1,8,some (.nilFunc)⟩
theorem ty158 :zO Tryz.prog 158=some te158:=by kernel_rfl
@[reducible] def te159 :TE:=⟨.other,1,8,some (.nilFunc)⟩
theorem ty159 :zO Tryz.prog 159=some te159:=by kernel_rfl
@[reducible] def te160 :TE:=⟨.other,1,8,some (.nilFunc)⟩
theorem ty160 :zO Tryz.prog 160=some te160:=by kernel_rfl
@[reducible] def te161 :TE:=⟨.st [(3,0),(3,1),(3,2),(3,3)],4,32,some (.agg ⟨[.int .i64 0,.int .i64 0,.int .i64 0,.int .i64 0]⟩)⟩
theorem ty161 :zO Tryz.prog 161=some te161:=by kernel_rfl
@[reducible] def te162 :TE:=⟨.st [(3,0),(3,1),(3,2),(3,3)],4,32,some (.agg ⟨[.int .i64 0,.int .i64 0,.int .i64 0,.int .i64 0]⟩)⟩
theorem ty162 :zO Tryz.prog 162=some te162:=by kernel_rfl
@[reducible] def te163 :TE:=⟨.other,1,8,some (.nilFunc)⟩
theorem ty163 :zO Tryz.prog 163=some te163:=by kernel_rfl
@[reducible] def te164 :TE:=⟨.other,1,0,some (.tuple ⟨[.slice none 0 0,.slice none 0 0,.int .i64 0]⟩)⟩
theorem ty164 :zO Tryz.prog 164=some te164:=by kernel_rfl
@[reducible] def te165 :TE:=⟨.other,1,8,some (.nilFunc)⟩
theorem ty165 :zO Tryz.prog 165=some te165:=by kernel_rfl
@[reducible] def te166 :TE:=⟨.other,1,8,some (.nilFunc)⟩
theorem ty166 :zO Tryz.prog 166=some te166:=by kernel_rfl
@[reducible] def te167 :TE:=⟨.other,1,8,some (.nilFunc)⟩
theorem ty167 :zO Tryz.prog 167=some te167:=by kernel_rfl
@[reducible] def te168 :TE:=⟨.other,1,8,some (.nilFunc)⟩
theorem ty168 :zO Tryz.prog 168=some te168:=by kernel_rfl
@[reducible] def te169 :TE:=⟨.other,1,8,some (.map none)⟩
theorem ty169 :zO Tryz.prog 169=some te169:=by kernel_rfl
@[reducible] def te170 :TE:=⟨.other,1,8,some (.nilFunc)⟩
theorem ty170 :zO Tryz.prog 170=some te170:=by kernel_rfl
@[reducible] def te171 :TE:=⟨.other,1,8,some (.nilFunc)⟩
theorem ty171 :zO Tryz.prog 171=some te171:=by kernel_rfl
@[reducible] def te172 :TE:=⟨.other,1,8,some (.nilFunc)⟩
theorem ty172 :zO Tryz.prog 172=some te172:=by kernel_rfl
@[reducible] def te173 :TE:=⟨.other,1,8,some (.nilFunc)⟩
theorem ty173 :zO Tryz.prog 173=some te173:=by kernel_rfl
@[reducible] def te174 :TE:=⟨.other,1,8,some (.nilFunc)⟩
theorem ty174 :zO Tryz.prog 174=some te174:=by kernel_rfl
@[reducible] def te175 :TE:=⟨.other,1,8,some (.nilFunc)⟩
theorem ty175 :zO Tryz.prog 175=some te175:=by kernel_rfl
@[reducible] def te176 :TE:=⟨.other,1,8,some (.nilFunc)⟩
theorem ty176 :zO Tryz.prog 176=some te176:=by kernel_rfl
@[reducible] def te177 :TE:=⟨.other,1,8,some (.nilFunc)⟩
theorem ty177 :zO Tryz.prog 177=some te177:=by kernel_rfl
@[reducible] def te178 :TE:=⟨.int .u64,1,8,some (.int .u64 0)⟩
theorem ty178 :zO Tryz.prog 178=some te178:=by kernel_rfl
@[reducible] def te179 :TE:=⟨.other,1,8,some (.nilFunc)⟩
theorem ty179 :zO Tryz.prog 179=some te179:=by kernel_rfl
@[reducible] def te180 :TE:=⟨.slice 142,1,24,some (.slice none 0 0)⟩
theorem ty180 :zO Tryz.prog 180=some te180:=by kernel_rfl
@[reducible] def te181 :TE:=⟨.other,1,8,some (.nilFunc)⟩
theorem ty181 :zO Tryz.prog 181=some te181:=by kernel_rfl
@[reducible] def te182 :TE:=⟨.other,1,8,some (.nilFunc)⟩
theorem ty182 :zO Tryz.prog 182=some te182:=by kernel_rfl
@[reducible] def te183 :TE:=⟨.other,1,0,some (.tuple ⟨[.int .i64 0,.int .i64 0,.bool false]⟩)⟩
theorem ty183 :zO Tryz.prog 183=some te183:=by kernel_rfl
@[reducible] def te184 :TE:=⟨.other,1,8,some (.nilFunc)⟩
theorem ty184 :zO Tryz.prog 184=some te184:=by kernel_rfl
@[reducible] def te185 :TE:=⟨.st [(9,0),(24,1),(24,2),(4,3),(4,4)],5,32,some (.agg ⟨[.string ⟨⟨[]⟩⟩,.int .u32 0,.int .u32 0,.bool false,.bool false]⟩)⟩
theorem ty185 :zO Tryz.prog 185=some te185:=by kernel_rfl
@[reducible] def te186 :TE:=⟨.st [(9,0),(24,1),(24,2),(4,3),(4,4)],5,32,some (.agg ⟨[.string ⟨⟨[]⟩⟩,.int .u32 0,.int .u32 0,.bool false,.bool false]⟩)⟩
theorem ty186 :zO Tryz.prog 186=some te186:=by kernel_rfl
@[reducible] def te187 :TE:=⟨.other,1,8,some (.nilFunc)⟩
theorem ty187 :zO Tryz.prog 187=some te187:=by kernel_rfl
@[reducible] def te188 :TE:=⟨.other,1,8,some (.nilFunc)⟩
theorem ty188 :zO Tryz.prog 188=some te188:=by kernel_rfl
@[reducible] def te189 :TE:=⟨.other,1,8,some (.nilFunc)⟩
theorem ty189 :zO Tryz.prog 189=some te189:=by kernel_rfl
@[reducible] def te190 :TE:=⟨.other,1,8,some (.nilFunc)⟩
theorem ty190 :zO Tryz.prog 190=some te190:=by kernel_rfl
@[reducible] def te191 :TE:=⟨.other,1,8,some (.nilFunc)⟩
theorem ty191 :zO Tryz.prog 191=some te191:=by kernel_rfl
@[reducible] def te192 :TE:=⟨.other,1,8,some (.nilFunc)⟩
theorem ty192 :zO Tryz.prog 192=some te192:=by kernel_rfl
@[reducible] def te193 :TE:=⟨.other,1,8,some (.nilFunc)⟩
theorem ty193 :zO Tryz.prog 193=some te193:=by kernel_rfl
@[reducible] def te194 :TE:=⟨.other,1,8,some (.nilFunc)⟩
theorem ty194 :zO Tryz.prog 194=some te194:=by kernel_rfl
@[reducible] def te195 :TE:=⟨.ptr 230,1,8,some (.pointer none)⟩
theorem ty195 :zO Tryz.prog 195=some te195:=by kernel_rfl
@[reducible] def te196 :TE:=⟨.other,1,0,some (.tuple ⟨[.pointer none,.int .i64 0]⟩)⟩
theorem ty196 :zO Tryz.prog 196=some te196:=by kernel_rfl
@[reducible] def te197 :TE:=⟨.other,1,8,some (.nilFunc)⟩
theorem ty197 :zO Tryz.prog 197=some te197:=by kernel_rfl
@[reducible] def te198 :TE:=⟨.other,1,8,some (.nilFunc)⟩
theorem ty198 :zO Tryz.prog 198=some te198:=by kernel_rfl
@[reducible] def te199 :TE:=⟨.other,1,0,some (.tuple ⟨[.int .u8 0,.bool false]⟩)⟩
theorem ty199 :zO Tryz.prog 199=some te199:=by kernel_rfl
@[reducible] def te200 :TE:=⟨.other,1,8,some (.nilFunc)⟩
theorem ty200 :zO Tryz.prog 200=some te200:=by kernel_rfl
@[reducible] def te201 :TE:=⟨.other,1,8,some (.nilFunc)⟩
theorem ty201 :zO Tryz.prog 201=some te201:=by kernel_rfl
@[reducible] def te202 :TE:=⟨.other,1,8,some (.map none)⟩
theorem ty202 :zO Tryz.prog 202=some te202:=by kernel_rfl
@[reducible] def te203 :TE:=⟨.other,1,8,some (.nilFunc)⟩
theorem ty203 :zO Tryz.prog 203=some te203:=by kernel_rfl
@[reducible] def te204 :TE:=⟨.other,1,8,some (.nilFunc)⟩
theorem ty204 :zO Tryz.prog 204=some te204:=by kernel_rfl
@[reducible] def te205 :TE:=⟨.other,1,8,some (.nilFunc)⟩
theorem ty205 :zO Tryz.prog 205=some te205:=by kernel_rfl
@[reducible] def te206 :TE:=⟨.other,1,16,some (.nilIface)⟩
theorem ty206 :zO Tryz.prog 206=some te206:=by kernel_rfl
@[reducible] def te207 :TE:=⟨.other,1,16,some (.nilIface)⟩
theorem ty207 :zO Tryz.prog 207=some te207:=by kernel_rfl
@[reducible] def te208 :TE:=⟨.other,1,8,some (.nilFunc)⟩
theorem ty208 :zO Tryz.prog 208=some te208:=by kernel_rfl
@[reducible] def te209 :TE:=⟨.other,1,8,some (.nilFunc)⟩
theorem ty209 :zO Tryz.prog 209=some te209:=by kernel_rfl
@[reducible] def te210 :TE:=⟨.other,1,8,some (.nilFunc)⟩
theorem ty210 :zO Tryz.prog 210=some te210:=by kernel_rfl
@[reducible] def te211 :TE:=⟨.slice 214,1,24,some (.slice none 0 0)⟩
theorem ty211 :zO Tryz.prog 211=some te211:=by kernel_rfl
@[reducible] def te212 :TE:=⟨.other,1,8,some (.nilFunc)⟩
theorem ty212 :zO Tryz.prog 212=some te212:=by kernel_rfl
@[reducible] def te213 :TE:=⟨.st [(3,0),(3,1)],2,16,some (.agg ⟨[.int .i64 0,.int .i64 0]⟩)⟩
theorem ty213 :zO Tryz.prog 213=some te213:=by kernel_rfl
@[reducible] def te214 :TE:=⟨.st [(3,0),(3,1)],2,16,some (.agg ⟨[.int .i64 0,.int .i64 0]⟩)⟩
theorem ty214 :zO Tryz.prog 214=some te214:=by kernel_rfl
@[reducible] def te215 :TE:=⟨.other,1,8,some (.nilFunc)⟩
theorem ty215 :zO Tryz.prog 215=some te215:=by kernel_rfl
@[reducible] def te216 :TE:=⟨.arr 4 3,4,32,some (.agg ⟨[.int .i64 0,.int .i64 0,.int .i64 0,.int .i64 0]⟩)⟩
theorem ty216 :zO Tryz.prog 216=some te216:=by kernel_rfl
@[reducible] def te217 :TE:=⟨.other,1,8,some (.nilFunc)⟩
theorem ty217 :zO Tryz.prog 217=some te217:=by kernel_rfl
@[reducible] def te218 :TE:=⟨.ptr 250,1,8,some (.pointer none)⟩
theorem ty218 :zO Tryz.prog 218=some te218:=by kernel_rfl
@[reducible] def te219 :TE:=⟨.other,1,8,some (.nilFunc)⟩
theorem ty219 :zO Tryz.prog 219=some te219:=by kernel_rfl
@[reducible] def te220 :TE:=⟨.other,1,8,some (.nilFunc)⟩
theorem ty220 :zO Tryz.prog 220=some te220:=by kernel_rfl
@[reducible] def te221 :TE:=⟨.other,1,8,some (.nilFunc)⟩
theorem ty221 :zO Tryz.prog 221=some te221:=by kernel_rfl
@[reducible] def te222 :TE:=⟨.st [(3,0),(3,1),(3,2)],3,24,some (.agg ⟨[.int .i64 0,.int .i64 0,.int .i64 0]⟩)⟩
theorem ty222 :zO Tryz.prog 222=some te222:=by kernel_rfl
@[reducible] def te223 :TE:=⟨.st [(3,0),(3,1),(3,2)],3,24,some (.agg ⟨[.int .i64 0,.int .i64 0,.int .i64 0]⟩)⟩
theorem ty223 :zO Tryz.prog 223=some te223:=by kernel_rfl
@[reducible] def te224 :TE:=⟨.other,1,8,some (.nilFunc)⟩
theorem ty224 :zO Tryz.prog 224=some te224:=by kernel_rfl
@[reducible] def te225 :TE:=⟨.other,1,8,some (.nilFunc)⟩
theorem ty225 :zO Tryz.prog 225=some te225:=by kernel_rfl
@[reducible] def te226 :TE:=⟨.other,1,8,some (.nilFunc)⟩
theorem ty226 :zO Tryz.prog 226=some te226:=by kernel_rfl
@[reducible] def te227 :TE:=⟨.other,1,8,some (.nilFunc)⟩
theorem ty227 :zO Tryz.prog 227=some te227:=by kernel_rfl
@[reducible] def te228 :TE:=⟨.other,1,8,some (.nilFunc)⟩
theorem ty228 :zO Tryz.prog 228=some te228:=by kernel_rfl
@[reducible] def te229 :TE:=⟨.st [(9,0),(3,1),(3,2)],3,32,some (.agg ⟨[.string ⟨⟨[]⟩⟩,.int .i64 0,.int .i64 0]⟩)⟩
theorem ty229 :zO Tryz.prog 229=some te229:=by kernel_rfl
@[reducible] def te230 :TE:=⟨.st [(9,0),(3,1),(3,2)],3,32,some (.agg ⟨[.string ⟨⟨[]⟩⟩,.int .i64 0,.int .i64 0]⟩)⟩
theorem ty230 :zO Tryz.prog 230=some te230:=by kernel_rfl
@[reducible] def te231 :TE:=⟨.other,1,8,some (.nilFunc)⟩
theorem ty231 :zO Tryz.prog 231=some te231:=by kernel_rfl
@[reducible] def te232 :TE:=⟨.other,1,8,some (.nilFunc)⟩
theorem ty232 :zO Tryz.prog 232=some te232:=by kernel_rfl
@[reducible] def te233 :TE:=⟨.st [(3,0),(3,1),(131,2),(144,3),(231,4),(232,5)],6,48,some (.agg ⟨[.int .i64 0,.int .i64 0,.nilFunc,.nilFunc,.nilFunc,.nilFunc]⟩)⟩
theorem ty233 :zO Tryz.prog 233=some te233:=by kernel_rfl
@[reducible] def te234 :TE:=⟨.st [(3,0),(3,1),(131,2),(144,3),(231,4),(232,5)],6,48,some (.agg ⟨[.int .i64 0,.int .i64 0,.nilFunc,.nilFunc,.nilFunc,.nilFunc]⟩)⟩
theorem ty234 :zO Tryz.prog 234=some te234:=by kernel_rfl
@[reducible] def te235 :TE:=⟨.other,1,0,some (.tuple ⟨[.agg ⟨[.int .i64 0,.int .i64 0,.nilFunc,.nilFunc,.nilFunc,.nilFunc]⟩,.bool false]⟩)⟩
theorem ty235 :zO Tryz.prog 235=some te235:=by kernel_rfl
@[reducible] def te236 :TE:=⟨.other,1,8,some (.nilFunc)⟩
theorem ty236 :zO Tryz.prog 236=some te236:=by kernel_rfl
@[reducible] def te237 :TE:=⟨.other,1,8,some (.nilFunc)⟩
theorem ty237 :zO Tryz.prog 237=some te237:=by kernel_rfl
@[reducible] def te238 :TE:=⟨.other,1,8,some (.nilFunc)⟩
theorem ty238 :zO Tryz.prog 238=some te238:=by kernel_rfl
@[reducible] def te239 :TE:=⟨.other,1,8,some (.nilFunc)⟩
theorem ty239 :zO Tryz.prog 239=some te239:=by kernel_rfl
@[reducible] def te240 :TE:=⟨.other,1,8,some (.nilFunc)⟩
theorem ty240 :zO Tryz.prog 240=some te240:=by kernel_rfl
@[reducible] def te241 :TE:=⟨.other,1,8,some (.nilFunc)⟩
theorem ty241 :zO Tryz.prog 241=some te241:=by kernel_rfl
@[reducible] def te242 :TE:=⟨.other,1,8,some (.nilFunc)⟩
theorem ty242 :zO Tryz.prog 242=some te242:=by kernel_rfl
@[reducible] def te243 :TE:=⟨.other,1,8,some (.map none)⟩
theorem ty243 :zO Tryz.prog 243=some te243:=by kernel_rfl
@[reducible] def te244 :TE:=⟨.other,1,0,some (.tuple ⟨[.slice none 0 0,.map none]⟩)⟩
theorem ty244 :zO Tryz.prog 244=some te244:=by kernel_rfl
@[reducible] def te245 :TE:=⟨.other,1,8,some (.nilFunc)⟩
theorem ty245 :zO Tryz.prog 245=some te245:=by kernel_rfl
@[reducible] def te246 :TE:=⟨.other,1,8,some (.nilFunc)⟩
theorem ty246 :zO Tryz.prog 246=some te246:=by kernel_rfl
@[reducible] def te247 :TE:=⟨.other,1,8,some (.nilFunc)⟩
theorem ty247 :zO Tryz.prog 247=some te247:=by kernel_rfl
@[reducible] def te248 :TE:=⟨.other,1,8,some (.nilFunc)⟩
theorem ty248 :zO Tryz.prog 248=some te248:=by kernel_rfl
@[reducible] def te249 :TE:=⟨.st [(37,0),(3,1)],2,32,some (.agg ⟨[.slice none 0 0,.int .i64 0]⟩)⟩
theorem ty249 :zO Tryz.prog 249=some te249:=by kernel_rfl
@[reducible] def te250 :TE:=⟨.st [(37,0),(3,1)],2,32,some (.agg ⟨[.slice none 0 0,.int .i64 0]⟩)⟩
theorem ty250 :zO Tryz.prog 250=some te250:=by kernel_rfl
@[reducible] def te251 :TE:=⟨.other,1,8,some (.nilFunc)⟩
theorem ty251 :zO Tryz.prog 251=some te251:=by kernel_rfl
@[reducible] def te252 :TE:=⟨.int .i64,1,8,some (.int .i64 0)⟩
theorem ty252 :zO Tryz.prog 252=some te252:=by kernel_rfl
@[reducible] def te253 :TE:=⟨.other,1,0,some (.tuple ⟨[.int .i64 0,.int .i64 0]⟩)⟩
theorem ty253 :zO Tryz.prog 253=some te253:=by kernel_rfl
@[reducible] def te254 :TE:=⟨.other,1,8,some (.nilFunc)⟩
theorem ty254 :zO Tryz.prog 254=some te254:=by kernel_rfl
@[reducible] def te255 :TE:=⟨.other,1,8,some (.nilFunc)⟩
theorem ty255 :zO Tryz.prog 255=some te255:=by kernel_rfl
@[reducible] def te256 :TE:=⟨.other,1,8,some (.nilFunc)⟩
theorem ty256 :zO Tryz.prog 256=some te256:=by kernel_rfl
@[reducible] def te257 :TE:=⟨.other,1,8,some (.nilFunc)⟩
theorem ty257 :zO Tryz.prog 257=some te257:=by kernel_rfl
@[reducible] def te258 :TE:=⟨.other,1,8,some (.map none)⟩
theorem ty258 :zO Tryz.prog 258=some te258:=by kernel_rfl
@[reducible] def te259 :TE:=⟨.other,1,8,some (.nilFunc)⟩
theorem ty259 :zO Tryz.prog 259=some te259:=by kernel_rfl
@[reducible] def te260 :TE:=⟨.arr 128 5,128,128,some (.agg ⟨[.int .u8 0,.int .u8 0,.int .u8 0,.int .u8 0,.int .u8 0,.int .u8 0,.int .u8 0,.int .u8 0,.int .u8 0,.int .u8 0,.int .u8 0,.int .u8 0,.int .u8 0,.int .u8 0,.int .u8 0,.int .u8 0,.int .u8 0,.int .u8 0,.int .u8 0,.int .u8 0,.int .u8 0,.int .u8 0,.int .u8 0,.int .u8 0,.int .u8 0,.int .u8 0,.int .u8 0,.int .u8 0,.int .u8 0,.int .u8 0,.int .u8 0,.int .u8 0,.int .u8 0,.int .u8 0,.int .u8 0,.int .u8 0,.int .u8 0,.int .u8 0,.int .u8 0,.int .u8 0,.int .u8 0,.int .u8 0,.int .u8 0,.int .u8 0,.int .u8 0,.int .u8 0,.int .u8 0,.int .u8 0,.int .u8 0,.int .u8 0,.int .u8 0,.int .u8 0,.int .u8 0,.int .u8 0,.int .u8 0,.int .u8 0,.int .u8 0,.int .u8 0,.int .u8 0,.int .u8 0,.int .u8 0,.int .u8 0,.int .u8 0,.int .u8 0,.int .u8 0,.int .u8 0,.int .u8 0,.int .u8 0,.int .u8 0,.int .u8 0,.int .u8 0,.int .u8 0,.int .u8 0,.int .u8 0,.int .u8 0,.int .u8 0,.int .u8 0,.int .u8 0,.int .u8 0,.int .u8 0,.int .u8 0,.int .u8 0,.int .u8 0,.int .u8 0,.int .u8 0,.int .u8 0,.int .u8 0,.int .u8 0,.int .u8 0,.int .u8 0,.int .u8 0,.int .u8 0,.int .u8 0,.int .u8 0,.int .u8 0,.int .u8 0,.int .u8 0,.int .u8 0,.int .u8 0,.int .u8 0,.int .u8 0,.int .u8 0,.int .u8 0,.int .u8 0,.int .u8 0,.int .u8 0,.int .u8 0,.int .u8 0,.int .u8 0,.int .u8 0,.int .u8 0,.int .u8 0,.int .u8 0,.int .u8 0,.int .u8 0,.int .u8 0,.int .u8 0,.int .u8 0,.int .u8 0,.int .u8 0,.int .u8 0,.int .u8 0,.int .u8 0,.int .u8 0,.int .u8 0,.int .u8 0,.int .u8 0,.int .u8 0]⟩)⟩
theorem ty260 :zO Tryz.prog 260=some te260:=by kernel_rfl
@[reducible] def te261 :TE:=⟨.other,1,0,some (.tuple ⟨[.int .u64 0,.int .u64 0]⟩)⟩
theorem ty261 :zO Tryz.prog 261=some te261:=by kernel_rfl
@[reducible] def te262 :TE:=⟨.other,1,8,some (.nilFunc)⟩
theorem ty262 :zO Tryz.prog 262=some te262:=by kernel_rfl
@[reducible] def te263 :TE:=⟨.other,1,8,some (.nilFunc)⟩
theorem ty263 :zO Tryz.prog 263=some te263:=by kernel_rfl
@[reducible] def te264 :TE:=⟨.ptr 266,1,8,some (.pointer none)⟩
theorem ty264 :zO Tryz.prog 264=some te264:=by kernel_rfl
@[reducible] def te265 :TE:=⟨.st [(264,0),(37,1)],2,32,some (.agg ⟨[.pointer none,.slice none 0 0]⟩)⟩
theorem ty265 :zO Tryz.prog 265=some te265:=by kernel_rfl
@[reducible] def te266 :TE:=⟨.st [(264,0),(37,1)],2,32,some (.agg ⟨[.pointer none,.slice none 0 0]⟩)⟩
theorem ty266 :zO Tryz.prog 266=some te266:=by kernel_rfl
@[reducible] def te267 :TE:=⟨.other,1,8,some (.nilFunc)⟩
theorem ty267 :zO Tryz.prog 267=some te267:=by kernel_rfl
@[reducible] def te268 :TE:=⟨.other,1,16,some (.nilIface)⟩
theorem ty268 :zO Tryz.prog 268=some te268:=by kernel_rfl
@[reducible] def te269 :TE:=⟨.other,1,16,some (.nilIface)⟩
theorem ty269 :zO Tryz.prog 269=some te269:=by kernel_rfl
@[reducible] def te270 :TE:=⟨.other,1,0,some (.tuple ⟨[.int .i64 0,.nilIface]⟩)⟩
theorem ty270 :zO Tryz.prog 270=some te270:=by kernel_rfl
@[reducible] def te271 :TE:=⟨.other,1,8,some (.nilFunc)⟩
theorem ty271 :zO Tryz.prog 271=some te271:=by kernel_rfl
@[reducible] def te272 :TE:=⟨.other,1,8,some (.nilFunc)⟩
theorem ty272 :zO Tryz.prog 272=some te272:=by kernel_rfl
@[reducible] def te273 :TE:=⟨.other,1,0,some (.tuple ⟨[.int .i64 0,.int .i64 0]⟩)⟩
theorem ty273 :zO Tryz.prog 273=some te273:=by kernel_rfl
@[reducible] def te274 :TE:=⟨.other,1,8,some (.nilFunc)⟩
theorem ty274 :zO Tryz.prog 274=some te274:=by kernel_rfl
@[reducible] def te275 :TE:=⟨.int .u64,1,8,some (.int .u64 0)⟩
theorem ty275 :zO Tryz.prog 275=some te275:=by kernel_rfl
@[reducible] def te276 :TE:=⟨.other,1,8,some (.nilFunc)⟩
theorem ty276 :zO Tryz.prog 276=some te276:=by kernel_rfl
@[reducible] def te277 :TE:=⟨.other,1,8,some (.nilFunc)⟩
theorem ty277 :zO Tryz.prog 277=some te277:=by kernel_rfl
@[reducible] def te278 :TE:=⟨.other,1,8,some (.nilFunc)⟩
theorem ty278 :zO Tryz.prog 278=some te278:=by kernel_rfl
@[reducible] def te279 :TE:=⟨.ptr 3,1,8,some (.pointer none)⟩
theorem ty279 :zO Tryz.prog 279=some te279:=by kernel_rfl
@[reducible] def te280 :TE:=⟨.other,1,8,some (.nilFunc)⟩
theorem ty280 :zO Tryz.prog 280=some te280:=by kernel_rfl
@[reducible] def te281 :TE:=⟨.other,1,8,some (.nilFunc)⟩
theorem ty281 :zO Tryz.prog 281=some te281:=by kernel_rfl
@[reducible] def te282 :TE:=⟨.other,1,8,some (.nilFunc)⟩
theorem ty282 :zO Tryz.prog 282=some te282:=by kernel_rfl
@[reducible] def te283 :TE:=⟨.other,1,0,some (.tuple ⟨[.int .u32 0,.int .u32 0]⟩)⟩
theorem ty283 :zO Tryz.prog 283=some te283:=by kernel_rfl
@[reducible] def te284 :TE:=⟨.other,1,8,some (.nilFunc)⟩
theorem ty284 :zO Tryz.prog 284=some te284:=by kernel_rfl
@[reducible] def te285 :TE:=⟨.other,1,0,some (.tuple ⟨[.int .u64 0,.int .u64 0]⟩)⟩
theorem ty285 :zO Tryz.prog 285=some te285:=by kernel_rfl
@[reducible] def te286 :TE:=⟨.other,1,8,some (.nilFunc)⟩
theorem ty286 :zO Tryz.prog 286=some te286:=by kernel_rfl
@[reducible] def te287 :TE:=⟨.ptr 5,1,8,some (.pointer none)⟩
theorem ty287 :zO Tryz.prog 287=some te287:=by kernel_rfl
@[reducible] def te288 :TE:=⟨.other,1,8,some (.nilFunc)⟩
theorem ty288 :zO Tryz.prog 288=some te288:=by kernel_rfl
@[reducible] def te289 :TE:=⟨.other,1,8,some (.nilFunc)⟩
theorem ty289 :zO Tryz.prog 289=some te289:=by kernel_rfl
@[reducible] def te290 :TE:=⟨.ptr 275,1,8,some (.pointer none)⟩
theorem ty290 :zO Tryz.prog 290=some te290:=by kernel_rfl
@[reducible] def te291 :TE:=⟨.other,1,8,some (.nilFunc)⟩
theorem ty291 :zO Tryz.prog 291=some te291:=by kernel_rfl
@[reducible] def te292 :TE:=⟨.other,1,8,some (.pointer none)⟩
theorem ty292 :zO Tryz.prog 292=some te292:=by kernel_rfl
@[reducible] def te293 :TE:=⟨.other,1,8,some (.nilFunc)⟩
theorem ty293 :zO Tryz.prog 293=some te293:=by kernel_rfl
@[reducible] def te294 :TE:=⟨.other,1,8,some (.nilFunc)⟩
theorem ty294 :zO Tryz.prog 294=some te294:=by kernel_rfl
@[reducible] def te295 :TE:=⟨.st [(17,0),(17,1),(17,2),(9,3)],4,40,some (.agg ⟨[.pointer none,.pointer none,.pointer none,.string ⟨⟨[]⟩⟩]⟩)⟩
theorem ty295 :zO Tryz.prog 295=some te295:=by kernel_rfl
@[reducible] def te296 :TE:=⟨.st [(17,0),(17,1),(17,2),(9,3)],4,40,some (.agg ⟨[.pointer none,.pointer none,.pointer none,.string ⟨⟨[]⟩⟩]⟩)⟩
theorem ty296 :zO Tryz.prog 296=some te296:=by kernel_rfl
@[reducible] def te297 :TE:=⟨.arr 0 16,0,0,some (.agg ⟨[]⟩)⟩
theorem ty297 :zO Tryz.prog 297=some te297:=by kernel_rfl
@[reducible] def te298 :TE:=⟨.st [(297,0)],0,0,some (.agg ⟨[]⟩)⟩
theorem ty298 :zO Tryz.prog 298=some te298:=by kernel_rfl
@[reducible] def te299 :TE:=⟨.st [(297,0)],0,0,some (.agg ⟨[]⟩)⟩
theorem ty299 :zO Tryz.prog 299=some te299:=by kernel_rfl
@[reducible] def te300 :TE:=⟨.int .u8,1,1,some (.int .u8 0)⟩
theorem ty300 :zO Tryz.prog 300=some te300:=by kernel_rfl
@[reducible] def te301 :TE:=⟨.int .u8,1,1,some (.int .u8 0)⟩
theorem ty301 :zO Tryz.prog 301=some te301:=by kernel_rfl
@[reducible] def te302 :TE:=⟨.other,1,8,some (.nilFunc)⟩
theorem ty302 :zO Tryz.prog 302=some te302:=by kernel_rfl
@[reducible] def te303 :TE:=⟨.int .i32,1,4,some (.int .i32 0)⟩
theorem ty303 :zO Tryz.prog 303=some te303:=by kernel_rfl
@[reducible] def te304 :TE:=⟨.int .i32,1,4,some (.int .i32 0)⟩
theorem ty304 :zO Tryz.prog 304=some te304:=by kernel_rfl
@[reducible] def te305 :TE:=⟨.st [(12,0),(12,1),(24,2),(300,3),(5,4),(5,5),(301,6),(302,7),(287,8),(303,9),(304,10)],11,48,some (.agg ⟨[.int .u64 0,.int .u64 0,.int .u32 0,.int .u8 0,.int .u8 0,.int .u8 0,.int .u8 0,.nilFunc,.pointer none,.int .i32 0,.int .i32 0]⟩)⟩
theorem ty305 :zO Tryz.prog 305=some te305:=by kernel_rfl
@[reducible] def te306 :TE:=⟨.st [(12,0),(12,1),(24,2),(300,3),(5,4),(5,5),(301,6),(302,7),(287,8),(303,9),(304,10)],11,48,some (.agg ⟨[.int .u64 0,.int .u64 0,.int .u32 0,.int .u8 0,.int .u8 0,.int .u8 0,.int .u8 0,.nilFunc,.pointer none,.int .i32 0,.int .i32 0]⟩)⟩
theorem ty306 :zO Tryz.prog 306=some te306:=by kernel_rfl
def tyT :TT:=(.node (.node (.node (.node (.node (.node (.node (.node (.node .leaf 0 te0 .leaf) 1 te1 .leaf) 2 te2 (.node .leaf 3 te3 .leaf)) 4 te4 (.node (.node (.node .leaf 5 te5 .leaf) 6 te6 .leaf) 7 te7 (.node .leaf 8 te8 .leaf))) 9 te9 (.node (.node (.node (.node .leaf 10 te10 .leaf) 11 te11 .leaf) 12 te12 (.node .leaf 13 te13 .leaf)) 14 te14 (.node (.node (.node .leaf 15 te15 .leaf) 16 te16 .leaf) 17 te17 (.node .leaf 18 te18 .leaf)))) 19 te19 (.node (.node (.node (.node (.node .leaf 20 te20 .leaf) 21 te21 .leaf) 22 te22 (.node .leaf 23 te23 .leaf)) 24 te24 (.node (.node (.node .leaf 25 te25 .leaf) 26 te26 .leaf) 27 te27 (.node .leaf 28 te28 .leaf))) 29 te29 (.node (.node (.node (.node .leaf 30 te30 .leaf) 31 te31 .leaf) 32 te32 (.node .leaf 33 te33 .leaf)) 34 te34 (.node (.node .leaf 35 te35 .leaf) 36 te36 (.node .leaf 37 te37 .leaf))))) 38 te38 (.node (.node (.node (.node (.node (.node .leaf 39 te39 .leaf) 40 te40 .leaf) 41 te41 (.node .leaf 42 te42 .leaf)) 43 te43 (.node (.node (.node .leaf 44 te44 .leaf) 45 te45 .leaf) 46 te46 (.node .leaf 47 te47 .leaf))) 48 te48 (.node (.node (.node (.node .leaf 49 te49 .leaf) 50 te50 .leaf) 51 te51 (.node .leaf 52 te52 .leaf)) 53 te53 (.node (.node .leaf 54 te54 .leaf) 55 te55 (.node .leaf 56 te56 .leaf)))) 57 te57 (.node (.node (.node (.node (.node .leaf 58 te58 .leaf) 59 te59 .leaf) 60 te60 (.node .leaf 61 te61 .leaf)) 62 te62 (.node (.node (.node .leaf 63 te63 .leaf) 64 te64 .leaf) 65 te65 (.node .leaf 66 te66 .leaf))) 67 te67 (.node (.node (.node (.node .leaf 68 te68 .leaf) 69 te69 .leaf) 70 te70 (.node .leaf 71 te71 .leaf)) 72 te72 (.node (.node .leaf 73 te73 .leaf) 74 te74 (.node .leaf 75 te75 .leaf)))))) 76 te76 (.node (.node (.node (.node (.node (.node (.node .leaf 77 te77 .leaf) 78 te78 .leaf) 79 te79 (.node .leaf 80 te80 .leaf)) 81 te81 (.node (.node (.node .leaf 82 te82 .leaf) 83 te83 .leaf) 84 te84 (.node .leaf 85 te85 .leaf))) 86 te86 (.node (.node (.node (.node .leaf 87 te87 .leaf) 88 te88 .leaf) 89 te89 (.node .leaf 90 te90 .leaf)) 91 te91 (.node (.node (.node .leaf 92 te92 .leaf) 93 te93 .leaf) 94 te94 (.node .leaf 95 te95 .leaf)))) 96 te96 (.node (.node (.node (.node (.node .leaf 97 te97 .leaf) 98 te98 .leaf) 99 te99 (.node .leaf 100 te100 .leaf)) 101 te101 (.node (.node (.node .leaf 102 te102 .leaf) 103 te103 .leaf) 104 te104 (.node .leaf 105 te105 .leaf))) 106 te106 (.node (.node (.node (.node .leaf 107 te107 .leaf) 108 te108 .leaf) 109 te109 (.node .leaf 110 te110 .leaf)) 111 te111 (.node (.node .leaf 112 te112 .leaf) 113 te113 (.node .leaf 114 te114 .leaf))))) 115 te115 (.node (.node (.node (.node (.node (.node .leaf 116 te116 .leaf) 117 te117 .leaf) 118 te118 (.node .leaf 119 te119 .leaf)) 120 te120 (.node (.node (.node .leaf 121 te121 .leaf) 122 te122 .leaf) 123 te123 (.node .leaf 124 te124 .leaf))) 125 te125 (.node (.node (.node (.node .leaf 126 te126 .leaf) 127 te127 .leaf) 128 te128 (.node .leaf 129 te129 .leaf)) 130 te130 (.node (.node .leaf 131 te131 .leaf) 132 te132 (.node .leaf 133 te133 .leaf)))) 134 te134 (.node (.node (.node (.node (.node .leaf 135 te135 .leaf) 136 te136 .leaf) 137 te137 (.node .leaf 138 te138 .leaf)) 139 te139 (.node (.node (.node .leaf 140 te140 .leaf) 141 te141 .leaf) 142 te142 (.node .leaf 143 te143 .leaf))) 144 te144 (.node (.node (.node (.node .leaf 145 te145 .leaf) 146 te146 .leaf) 147 te147 (.node .leaf 148 te148 .leaf)) 149 te149 (.node (.node .leaf 150 te150 .leaf) 151 te151 (.node .leaf 152 te152 .leaf))))))) 153 te153 (.node (.node (.node (.node (.node (.node (.node (.node .leaf 154 te154 .leaf) 155 te155 .leaf) 156 te156 (.node .leaf 157 te157 .leaf)) 158 te158 (.node (.node (.node .leaf 159 te159 .leaf) 160 te160 .leaf) 161 te161 (.node .leaf 162 te162 .leaf))) 163 te163 (.node (.node (.node (.node .leaf 164 te164 .leaf) 165 te165 .leaf) 166 te166 (.node .leaf 167 te167 .leaf)) 168 te168 (.node (.node (.node .leaf 169 te169 .leaf) 170 te170 .leaf) 171 te171 (.node .leaf 172 te172 .leaf)))) 173 te173 (.node (.node (.node (.node (.node .leaf 174 te174 .leaf) 175 te175 .leaf) 176 te176 (.node .leaf 177 te177 .leaf)) 178 te178 (.node (.node (.node .leaf 179 te179 .leaf) 180 te180 .leaf) 181 te181 (.node .leaf 182 te182 .leaf))) 183 te183 (.node (.node (.node (.node .leaf 184 te184 .leaf) 185 te185 .leaf) 186 te186 (.node .leaf 187 te187 .leaf)) 188 te188 (.node (.node .leaf 189 te189 .leaf) 190 te190 (.node .leaf 191 te191 .leaf))))) 192 te192 (.node (.node (.node (.node (.node (.node .leaf 193 te193 .leaf) 194 te194 .leaf) 195 te195 (.node .leaf 196 te196 .leaf)) 197 te197 (.node (.node (.node .leaf 198 te198 .leaf) 199 te199 .leaf) 200 te200 (.node .leaf 201 te201 .leaf))) 202 te202 (.node (.node (.node (.node .leaf 203 te203 .leaf) 204 te204 .leaf) 205 te205 (.node .leaf 206 te206 .leaf)) 207 te207 (.node (.node .leaf 208 te208 .leaf) 209 te209 (.node .leaf 210 te210 .leaf)))) 211 te211 (.node (.node (.node (.node (.node .leaf 212 te212 .leaf) 213 te213 .leaf) 214 te214 (.node .leaf 215 te215 .leaf)) 216 te216 (.node (.node (.node .leaf 217 te217 .leaf) 218 te218 .leaf) 219 te219 (.node .leaf 220 te220 .leaf))) 221 te221 (.node (.node (.node (.node .leaf 222 te222 .leaf) 223 te223 .leaf) 224 te224 (.node .leaf 225 te225 .leaf)) 226 te226 (.node (.node .leaf 227 te227 .leaf) 228 te228 (.node .leaf 229 te229 .leaf)))))) 230 te230 (.node (.node (.node (.node (.node (.node (.node .leaf 231 te231 .leaf) 232 te232 .leaf) 233 te233 (.node .leaf 234 te234 .leaf)) 235 te235 (.node (.node (.node .leaf 236 te236 .leaf) 237 te237 .leaf) 238 te238 (.node .leaf 239 te239 .leaf))) 240 te240 (.node (.node (.node (.node .leaf 241 te241 .leaf) 242 te242 .leaf) 243 te243 (.node .leaf 244 te244 .leaf)) 245 te245 (.node (.node (.node .leaf 246 te246 .leaf) 247 te247 .leaf) 248 te248 (.node .leaf 249 te249 .leaf)))) 250 te250 (.node (.node (.node (.node (.node .leaf 251 te251 .leaf) 252 te252 .leaf) 253 te253 (.node .leaf 254 te254 .leaf)) 255 te255 (.node (.node (.node .leaf 256 te256 .leaf) 257 te257 .leaf) 258 te258 (.node .leaf 259 te259 .leaf))) 260 te260 (.node (.node (.node (.node .leaf 261 te261 .leaf) 262 te262 .leaf) 263 te263 (.node .leaf 264 te264 .leaf)) 265 te265 (.node (.node .leaf 266 te266 .leaf) 267 te267 (.node .leaf 268 te268 .leaf))))) 269 te269 (.node (.node (.node (.node (.node (.node .leaf 270 te270 .leaf) 271 te271 .leaf) 272 te272 (.node .leaf 273 te273 .leaf)) 274 te274 (.node (.node (.node .leaf 275 te275 .leaf) 276 te276 .leaf) 277 te277 (.node .leaf 278 te278 .leaf))) 279 te279 (.node (.node (.node (.node .leaf 280 te280 .leaf) 281 te281 .leaf) 282 te282 (.node .leaf 283 te283 .leaf)) 284 te284 (.node (.node .leaf 285 te285 .leaf) 286 te286 (.node .leaf 287 te287 .leaf)))) 288 te288 (.node (.node (.node (.node (.node .leaf 289 te289 .leaf) 290 te290 .leaf) 291 te291 (.node .leaf 292 te292 .leaf)) 293 te293 (.node (.node (.node .leaf 294 te294 .leaf) 295 te295 .leaf) 296 te296 (.node .leaf 297 te297 .leaf))) 298 te298 (.node (.node (.node (.node .leaf 299 te299 .leaf) 300 te300 .leaf) 301 te301 (.node .leaf 302 te302 .leaf)) 303 te303 (.node (.node .leaf 304 te304 .leaf) 305 te305 (.node .leaf 306 te306 .leaf))))))))
theorem zC :tyT.Ok Tryz.prog:=⟨⟨⟨⟨⟨⟨⟨⟨⟨trivial,ty0,trivial⟩,ty1,trivial⟩,ty2,⟨trivial,ty3,trivial⟩⟩,ty4,⟨⟨⟨trivial,ty5,trivial⟩,ty6,trivial⟩,ty7,⟨trivial,ty8,trivial⟩⟩⟩,ty9,⟨⟨⟨⟨trivial,ty10,trivial⟩,ty11,trivial⟩,ty12,⟨trivial,ty13,trivial⟩⟩,ty14,⟨⟨⟨trivial,ty15,trivial⟩,ty16,trivial⟩,ty17,⟨trivial,ty18,trivial⟩⟩⟩⟩,ty19,⟨⟨⟨⟨⟨trivial,ty20,trivial⟩,ty21,trivial⟩,ty22,⟨trivial,ty23,trivial⟩⟩,ty24,⟨⟨⟨trivial,ty25,trivial⟩,ty26,trivial⟩,ty27,⟨trivial,ty28,trivial⟩⟩⟩,ty29,⟨⟨⟨⟨trivial,ty30,trivial⟩,ty31,trivial⟩,ty32,⟨trivial,ty33,trivial⟩⟩,ty34,⟨⟨trivial,ty35,trivial⟩,ty36,⟨trivial,ty37,trivial⟩⟩⟩⟩⟩,ty38,⟨⟨⟨⟨⟨⟨trivial,ty39,trivial⟩,ty40,trivial⟩,ty41,⟨trivial,ty42,trivial⟩⟩,ty43,⟨⟨⟨trivial,ty44,trivial⟩,ty45,trivial⟩,ty46,⟨trivial,ty47,trivial⟩⟩⟩,ty48,⟨⟨⟨⟨trivial,ty49,trivial⟩,ty50,trivial⟩,ty51,⟨trivial,ty52,trivial⟩⟩,ty53,⟨⟨trivial,ty54,trivial⟩,ty55,⟨trivial,ty56,trivial⟩⟩⟩⟩,ty57,⟨⟨⟨⟨⟨trivial,ty58,trivial⟩,ty59,trivial⟩,ty60,⟨trivial,ty61,trivial⟩⟩,ty62,⟨⟨⟨trivial,ty63,trivial⟩,ty64,trivial⟩,ty65,⟨trivial,ty66,trivial⟩⟩⟩,ty67,⟨⟨⟨⟨trivial,ty68,trivial⟩,ty69,trivial⟩,ty70,⟨trivial,ty71,trivial⟩⟩,ty72,⟨⟨trivial,ty73,trivial⟩,ty74,⟨trivial,ty75,trivial⟩⟩⟩⟩⟩⟩,ty76,⟨⟨⟨⟨⟨⟨⟨trivial,ty77,trivial⟩,ty78,trivial⟩,ty79,⟨trivial,ty80,trivial⟩⟩,ty81,⟨⟨⟨trivial,ty82,trivial⟩,ty83,trivial⟩,ty84,⟨trivial,ty85,trivial⟩⟩⟩,ty86,⟨⟨⟨⟨trivial,ty87,trivial⟩,ty88,trivial⟩,ty89,⟨trivial,ty90,trivial⟩⟩,ty91,⟨⟨⟨trivial,ty92,trivial⟩,ty93,trivial⟩,ty94,⟨trivial,ty95,trivial⟩⟩⟩⟩,ty96,⟨⟨⟨⟨⟨trivial,ty97,trivial⟩,ty98,trivial⟩,ty99,⟨trivial,ty100,trivial⟩⟩,ty101,⟨⟨⟨trivial,ty102,trivial⟩,ty103,trivial⟩,ty104,⟨trivial,ty105,trivial⟩⟩⟩,ty106,⟨⟨⟨⟨trivial,ty107,trivial⟩,ty108,trivial⟩,ty109,⟨trivial,ty110,trivial⟩⟩,ty111,⟨⟨trivial,ty112,trivial⟩,ty113,⟨trivial,ty114,trivial⟩⟩⟩⟩⟩,ty115,⟨⟨⟨⟨⟨⟨trivial,ty116,trivial⟩,ty117,trivial⟩,ty118,⟨trivial,ty119,trivial⟩⟩,ty120,⟨⟨⟨trivial,ty121,trivial⟩,ty122,trivial⟩,ty123,⟨trivial,ty124,trivial⟩⟩⟩,ty125,⟨⟨⟨⟨trivial,ty126,trivial⟩,ty127,trivial⟩,ty128,⟨trivial,ty129,trivial⟩⟩,ty130,⟨⟨trivial,ty131,trivial⟩,ty132,⟨trivial,ty133,trivial⟩⟩⟩⟩,ty134,⟨⟨⟨⟨⟨trivial,ty135,trivial⟩,ty136,trivial⟩,ty137,⟨trivial,ty138,trivial⟩⟩,ty139,⟨⟨⟨trivial,ty140,trivial⟩,ty141,trivial⟩,ty142,⟨trivial,ty143,trivial⟩⟩⟩,ty144,⟨⟨⟨⟨trivial,ty145,trivial⟩,ty146,trivial⟩,ty147,⟨trivial,ty148,trivial⟩⟩,ty149,⟨⟨trivial,ty150,trivial⟩,ty151,⟨trivial,ty152,trivial⟩⟩⟩⟩⟩⟩⟩,ty153,⟨⟨⟨⟨⟨⟨⟨⟨trivial,ty154,trivial⟩,ty155,trivial⟩,ty156,⟨trivial,ty157,trivial⟩⟩,ty158,⟨⟨⟨trivial,ty159,trivial⟩,ty160,trivial⟩,ty161,⟨trivial,ty162,trivial⟩⟩⟩,ty163,⟨⟨⟨⟨trivial,ty164,trivial⟩,ty165,trivial⟩,ty166,⟨trivial,ty167,trivial⟩⟩,ty168,⟨⟨⟨trivial,ty169,trivial⟩,ty170,trivial⟩,ty171,⟨trivial,ty172,trivial⟩⟩⟩⟩,ty173,⟨⟨⟨⟨⟨trivial,ty174,trivial⟩,ty175,trivial⟩,ty176,⟨trivial,ty177,trivial⟩⟩,ty178,⟨⟨⟨trivial,ty179,trivial⟩,ty180,trivial⟩,ty181,⟨trivial,ty182,trivial⟩⟩⟩,ty183,⟨⟨⟨⟨trivial,ty184,trivial⟩,ty185,trivial⟩,ty186,⟨trivial,ty187,trivial⟩⟩,ty188,⟨⟨trivial,ty189,trivial⟩,ty190,⟨trivial,ty191,trivial⟩⟩⟩⟩⟩,ty192,⟨⟨⟨⟨⟨⟨trivial,ty193,trivial⟩,ty194,trivial⟩,ty195,⟨trivial,ty196,trivial⟩⟩,ty197,⟨⟨⟨trivial,ty198,trivial⟩,ty199,trivial⟩,ty200,⟨trivial,ty201,trivial⟩⟩⟩,ty202,⟨⟨⟨⟨trivial,ty203,trivial⟩,ty204,trivial⟩,ty205,⟨trivial,ty206,trivial⟩⟩,ty207,⟨⟨trivial,ty208,trivial⟩,ty209,⟨trivial,ty210,trivial⟩⟩⟩⟩,ty211,⟨⟨⟨⟨⟨trivial,ty212,trivial⟩,ty213,trivial⟩,ty214,⟨trivial,ty215,trivial⟩⟩,ty216,⟨⟨⟨trivial,ty217,trivial⟩,ty218,trivial⟩,ty219,⟨trivial,ty220,trivial⟩⟩⟩,ty221,⟨⟨⟨⟨trivial,ty222,trivial⟩,ty223,trivial⟩,ty224,⟨trivial,ty225,trivial⟩⟩,ty226,⟨⟨trivial,ty227,trivial⟩,ty228,⟨trivial,ty229,trivial⟩⟩⟩⟩⟩⟩,ty230,⟨⟨⟨⟨⟨⟨⟨trivial,ty231,trivial⟩,ty232,trivial⟩,ty233,⟨trivial,ty234,trivial⟩⟩,ty235,⟨⟨⟨trivial,ty236,trivial⟩,ty237,trivial⟩,ty238,⟨trivial,ty239,trivial⟩⟩⟩,ty240,⟨⟨⟨⟨trivial,ty241,trivial⟩,ty242,trivial⟩,ty243,⟨trivial,ty244,trivial⟩⟩,ty245,⟨⟨⟨trivial,ty246,trivial⟩,ty247,trivial⟩,ty248,⟨trivial,ty249,trivial⟩⟩⟩⟩,ty250,⟨⟨⟨⟨⟨trivial,ty251,trivial⟩,ty252,trivial⟩,ty253,⟨trivial,ty254,trivial⟩⟩,ty255,⟨⟨⟨trivial,ty256,trivial⟩,ty257,trivial⟩,ty258,⟨trivial,ty259,trivial⟩⟩⟩,ty260,⟨⟨⟨⟨trivial,ty261,trivial⟩,ty262,trivial⟩,ty263,⟨trivial,ty264,trivial⟩⟩,ty265,⟨⟨trivial,ty266,trivial⟩,ty267,⟨trivial,ty268,trivial⟩⟩⟩⟩⟩,ty269,⟨⟨⟨⟨⟨⟨trivial,ty270,trivial⟩,ty271,trivial⟩,ty272,⟨trivial,ty273,trivial⟩⟩,ty274,⟨⟨⟨trivial,ty275,trivial⟩,ty276,trivial⟩,ty277,⟨trivial,ty278,trivial⟩⟩⟩,ty279,⟨⟨⟨⟨trivial,ty280,trivial⟩,ty281,trivial⟩,ty282,⟨trivial,ty283,trivial⟩⟩,ty284,⟨⟨trivial,ty285,trivial⟩,ty286,⟨trivial,ty287,trivial⟩⟩⟩⟩,ty288,⟨⟨⟨⟨⟨trivial,ty289,trivial⟩,ty290,trivial⟩,ty291,⟨trivial,ty292,trivial⟩⟩,ty293,⟨⟨⟨trivial,ty294,trivial⟩,ty295,trivial⟩,ty296,⟨trivial,ty297,trivial⟩⟩⟩,ty298,⟨⟨⟨⟨trivial,ty299,trivial⟩,ty300,trivial⟩,ty301,⟨trivial,ty302,trivial⟩⟩,ty303,⟨⟨trivial,ty304,trivial⟩,ty305,⟨trivial,ty306,trivial⟩⟩⟩⟩⟩⟩⟩⟩
theorem pl33 :placesOf Tryz.prog 33=some [(0,1),(1,1)]:=by kernel_rfl
theorem pl49 :placesOf Tryz.prog 49=some [(0,1),(1,1),(2,1),(3,1)]:=by kernel_rfl
theorem pl81 :placesOf Tryz.prog 81=some [(0,1),(1,1),(2,1)]:=by kernel_rfl
theorem pl90 :placesOf Tryz.prog 90=some [(0,1),(1,1)]:=by kernel_rfl
theorem pl96 :placesOf Tryz.prog 96=some [(0,1),(1,1),(2,1),(3,1)]:=by kernel_rfl
theorem pl121 :placesOf Tryz.prog 121=some [(0,1)]:=by kernel_rfl
theorem pl129 :placesOf Tryz.prog 129=some [(0,1),(1,1),(2,3)]:=by kernel_rfl
theorem pl140 :placesOf Tryz.prog 140=some [(0,1),(1,1),(2,1)]:=by kernel_rfl
theorem pl142 :placesOf Tryz.prog 142=some [(0,1),(1,1)]:=by kernel_rfl
theorem pl147 :placesOf Tryz.prog 147=some [(0,16),(16,1)]:=by kernel_rfl
theorem pl149 :placesOf Tryz.prog 149=some [(0,2)]:=by kernel_rfl
theorem pl152 :placesOf Tryz.prog 152=some [(0,1),(1,1)]:=by kernel_rfl
theorem pl162 :placesOf Tryz.prog 162=some [(0,1),(1,1),(2,1),(3,1)]:=by kernel_rfl
theorem pl186 :placesOf Tryz.prog 186=some [(0,1),(1,1),(2,1),(3,1),(4,1)]:=by kernel_rfl
theorem pl214 :placesOf Tryz.prog 214=some [(0,1),(1,1)]:=by kernel_rfl
theorem pl223 :placesOf Tryz.prog 223=some [(0,1),(1,1),(2,1)]:=by kernel_rfl
theorem pl230 :placesOf Tryz.prog 230=some [(0,1),(1,1),(2,1)]:=by kernel_rfl
theorem pl234 :placesOf Tryz.prog 234=some [(0,1),(1,1),(2,1),(3,1),(4,1),(5,1)]:=by kernel_rfl
theorem pl250 :placesOf Tryz.prog 250=some [(0,1),(1,1)]:=by kernel_rfl
end Go.Proofs.YteddogfolceahaaGreat
end
section
set_option maxRecDepth 4000
namespace Go.Proofs.YteddogfolceahaaGreat
open Go.Gh Go.RowKit

def blen (n:Nat):Nat:=if n=0 then 0 else n.log2+1
theorem blen_zero :blen 0=0:=rfl
theorem blen_eq {n k:Nat}(h1:2^k≤n)(h2:n<2^(k+1)):blen n=k+1:=by
 have h0:n≠0:=fun e=>by have:=Nat.two_pow_pos k;omega
 unfold blen
 rw[if_neg h0]
 have a:n.log2<k+1:=(Nat.log2_lt h0).2 h2
 have b:¬n.log2<k:=fun h=>by have:=(Nat.log2_lt h0).1 h;omega
 omega
theorem blen_le {n k:Nat}(h:n<2^k):blen n≤k:=by
 unfold blen
 split
 ·omega
 ·rename_i h0;have:=(Nat.log2_lt h0).2 h;omega
theorem blen_shift {n:Nat}(k:Nat)(h:2^k≤n):blen n=k+blen (n/2^k):=by
 have hp:=Nat.two_pow_pos k
 have hd:0<n/2^k:=Nat.div_pos h hp
 have h0:n/2^k≠0:=by omega
 generalize hm:n/2^k=m at *
 have a1:=Nat.log2_self_le h0
 have a2:m<2^(m.log2+1):=(Nat.log2_lt h0).1 (by omega)
 have hb:blen m=m.log2+1:=if_neg h0
 rw[hb,←Nat.add_assoc]
 refine blen_eq ?_ ?_
 ·rw[Nat.pow_add]
  calc 2^k*2^m.log2≤2^k*m:=Nat.mul_le_mul_left _ a1
   _≤n:=by rw[←hm];exact Nat.mul_div_le n _
 ·have:n<2^k*(m+1):=by rw[←hm];exact Nat.lt_mul_div_succ n hp
  calc n<2^k*(m+1):=this
   _≤2^k*2^(m.log2+1):=Nat.mul_le_mul_left _ a2
   _=2^(k+m.log2+1):=by rw[←Nat.pow_add];congr 1
theorem blen_mono {n m:Nat}(h:n≤m):blen n≤blen m:=by
 by_cases h0:n=0
 ·subst h0;rw[blen_zero];exact Nat.zero_le _
 ·have hm:m≠0:=by omega
  have h1:blen m=m.log2+1:=if_neg hm
  refine blen_le ?_
  rw[h1]
  have:=(Nat.log2_lt (n:=m) (k:=m.log2+1) hm).1 (by omega)
  omega

theorem ex32_64 (m:Int):m/2^(min (Int.toNat 32) IntKind.u64.bits)=m/4294967296:=rfl
theorem ex16_64 (m:Int):m/2^(min (Int.toNat 16) IntKind.u64.bits)=m/65536:=rfl
theorem ex8_64 (m:Int):m/2^(min (Int.toNat 8) IntKind.u64.bits)=m/256:=rfl
def len8 :List UInt8:=(List.append (List.append [0,1,2,2,3,3,3,3,4,4,4,4,4,4,4,4,5,5,5,5,5,5,5,5,5,5,5,5,5,5,5,5,6,6,6,6,6,6,6,6,6,6,6,6,6,6,6,6,6,6,6,6,6,6,6,6,6,6,6,6,6,6,6,6] [7,7,7,7,7,7,7,7,7,7,7,7,7,7,7,7,7,7,7,7,7,7,7,7,7,7,7,7,7,7,7,7,7,7,7,7,7,7,7,7,7,7,7,7,7,7,7,7,7,7,7,7,7,7,7,7,7,7,7,7,7,7,7,7]) (List.append [8,8,8,8,8,8,8,8,8,8,8,8,8,8,8,8,8,8,8,8,8,8,8,8,8,8,8,8,8,8,8,8,8,8,8,8,8,8,8,8,8,8,8,8,8,8,8,8,8,8,8,8,8,8,8,8,8,8,8,8,8,8,8,8] [8,8,8,8,8,8,8,8,8,8,8,8,8,8,8,8,8,8,8,8,8,8,8,8,8,8,8,8,8,8,8,8,8,8,8,8,8,8,8,8,8,8,8,8,8,8,8,8,8,8,8,8,8,8,8,8,8,8,8,8,8,8,8,8]))
theorem len8_at :∀i:Nat,i<256→bat len8 (i:Int)=blen i:=by
 have h:(List.range 256).all (fun i=>decide (bat len8 (i:Int)=blen i))=true:=by decide +kernel
 intro i hi
 have:=(List.all_eq_true.1 h) i (List.mem_range.2 hi)
 simpa using this
abbrev U64 (n:Int):Value:=.int .u64 n
theorem Len64_any (x:Nat)(h:SH)(hx:x<18446744073709551616):SRun Tryz.prog 108 [U64 x] h fun r q=>r=I (blen x)∧q=h:=by
 refine zR Tryz.func108 rfl rfl ?_
 repeat'((fail_if_success (show SWp _ _ (Code.cond (Operand.tmp 4) _ _) _ _ _));first|apply zF|apply zB|apply zE|(apply o_g zC;exact rfl;exact rfl)|apply zA|((with_reducible apply Sd.mk);first|exact True.intro))
 refine w_meet (S:=Nat × Nat) (fun s=>[(0,U64 s.1),(2,I s.2)]) (fun _=>h) (fun s=>s.1<4294967296∧s.2≤32∧blen x=s.2+blen s.1) ?_ ?_
 ·repeat'(first|apply zF|apply zB|apply zE|(apply o_g zC;exact rfl;exact rfl)|(apply o_ex;exact rfl;exact rfl)|(apply w_if;exact rfl;all_goals intro hc)|apply zA|apply zI|((with_reducible apply Sd.mk);first|exact True.intro|omega)|((with_reducible apply Ex.mk);first|exact ex32_64 _))
  ·exact⟨(x/4294967296,32),⟨by show x/4294967296<_;omega,Nat.le_refl _,blen_shift 32 (by omega)⟩,⟨rfl,rfl,trivial⟩,.nil⟩
  ·exact⟨(x,0),⟨by show x<_;omega,by omega,by rw[Nat.zero_add]⟩,⟨rfl,rfl,trivial⟩,.nil⟩
 rintro⟨y,n⟩ ⟨hy,hn,he⟩
 dsimp only at hy hn he ⊢
 repeat'((fail_if_success (show SWp _ _ (Code.cond (Operand.tmp 8) _ _) _ _ _));first|apply zF|apply zB|apply zE|(apply o_g zC;exact rfl;exact rfl)|apply zA|((with_reducible apply Sd.mk);first|exact True.intro))
 refine w_meet (S:=Nat × Nat) (fun s=>[(0,U64 s.1),(2,I s.2)]) (fun _=>h) (fun s=>s.1<65536∧s.2≤48∧blen x=s.2+blen s.1) ?_ ?_
 ·repeat'(first|apply zF|apply zB|apply zE|(apply o_g zC;exact rfl;exact rfl)|(apply o_ar zC;exact rfl;exact rfl)|(apply o_ex;exact rfl;exact rfl)|(apply w_if;exact rfl;all_goals intro hc)|apply zA|apply zI|((with_reducible apply Sd.mk);first|exact True.intro|omega)|((with_reducible apply Wr.mk);first|exact IntWalk.i64_in _ (by omega))|((with_reducible apply Ex.mk);first|exact ex16_64 _))
  ·exact⟨(y/65536,n+16),⟨by show y/65536<_;omega,by show n+16≤_;omega,by have:=blen_shift (n:=y) 16 (by omega);show _=n+16+blen (y/2^16);omega⟩,⟨rfl,rfl,trivial⟩,.nil⟩
  ·exact⟨(y,n),⟨by show y<_;omega,by show n≤_;omega,he⟩,⟨rfl,rfl,trivial⟩,.nil⟩
 rintro⟨y,n⟩ ⟨hy,hn,he⟩
 dsimp only at hy hn he ⊢
 repeat'((fail_if_success (show SWp _ _ (Code.cond (Operand.tmp 14) _ _) _ _ _));first|apply zF|apply zB|apply zE|(apply o_g zC;exact rfl;exact rfl)|apply zA|((with_reducible apply Sd.mk);first|exact True.intro))
 refine w_meet (S:=Nat × Nat) (fun s=>[(0,U64 s.1),(2,I s.2)]) (fun _=>h) (fun s=>s.1<256∧s.2≤56∧blen x=s.2+blen s.1) ?_ ?_
 ·repeat'(first|apply zF|apply zB|apply zE|(apply o_g zC;exact rfl;exact rfl)|(apply o_ar zC;exact rfl;exact rfl)|(apply o_ex;exact rfl;exact rfl)|(apply w_if;exact rfl;all_goals intro hc)|apply zA|apply zI|((with_reducible apply Sd.mk);first|exact True.intro|omega)|((with_reducible apply Wr.mk);first|exact IntWalk.i64_in _ (by omega))|((with_reducible apply Ex.mk);first|exact ex8_64 _))
  ·exact⟨(y/256,n+8),⟨by show y/256<_;omega,by show n+8≤_;omega,by have:=blen_shift (n:=y) 8 (by omega);show _=n+8+blen (y/2^8);omega⟩,⟨rfl,rfl,trivial⟩,.nil⟩
  ·exact⟨(y,n),⟨by show y<_;omega,by show n≤_;omega,he⟩,⟨rfl,rfl,trivial⟩,.nil⟩
 rintro⟨y,n⟩ ⟨hy,hn,he⟩
 dsimp only at hy hn he ⊢
 have hb:=len8_at y hy
 have hb8:=blen_le (n:=y) (k:=8) (by omega)
 have hl:len8.length=256:=by decide +kernel
 repeat'(first|apply zF|apply zB|apply zE|(apply o_g zC;exact rfl;exact rfl)|(apply o_ar zC;exact rfl;exact rfl)|apply zA|apply zN|((with_reducible apply Sd.mk);first|exact True.intro)|((with_reducible apply Wr.mk);first|exact IntWalk.i64_in _ (show -9223372036854775808≤bat len8 y∧bat len8 y≤9223372036854775807 by omega)|exact IntWalk.u8_in _ (by omega)|rfl))
 ·exact⟨by omega,show(y:Int)<(len8.length:Nat)by omega⟩
 ·(apply zL;(exact(show ResS _ _ _ _ [_] from⟨rfl,trivial⟩));(focus refine⟨?_,rfl⟩;first|(show I (IntKind.i64.wrap (n+bat len8 y))=I (blen x);rw[IntWalk.i64_in _ (by omega),hb,he];rfl)|(show I (n+bat len8 y)=I (blen x);rw[hb,he];rfl));(focus repeat with_reducible first|exact Take.nil|apply Take.c|apply Take.drop))
theorem bLen_any (x:Nat)(h:SH)(hx:x<18446744073709551616):SRun Tryz.prog 65 [.int .u64 x] h fun r q=>r=I (blen x)∧q=h:=by
 refine zR Tryz.func65 rfl rfl ?_
 repeat'(first|apply zF|apply zB|apply zE|(apply o_g zC;exact rfl;exact rfl)|(apply zD;exact rfl;exact rfl;(focus first|exact rfl);exact rfl;(focus exact⟨_,Len64_any x _ hx,by repeat with_reducible exact Take.nil⟩);rintro _ _ ⟨rfl,rfl⟩)|(apply zS;exact rfl)|apply zA|apply zI|apply zN|((with_reducible apply Sd.mk);first|exact True.intro))
 (apply zL;(exact(show ResS _ _ _ _ [_] from⟨rfl,trivial⟩));(focus exact⟨rfl,rfl⟩);(focus repeat with_reducible first|exact Take.nil|apply Take.c|apply Take.drop))

structure Cst where
 lit:Int
 cpy:Int
 dst:Int
 len:Int
abbrev csC (c:Cst):List Value:=[I c.lit,I c.cpy,I c.dst,I c.len]
abbrev csV (c:Cst):Value:=.agg ⟨csC c⟩
abbrev Pc :=Int × Int × Int
abbrev pcC (t:Pc):List Value:=[I t.1,I t.2.1,.int .u8 t.2.2]
abbrev pcV (t:Pc):Value:=.agg ⟨pcC t⟩
theorem pcW (t:Pc):(pcC t).length=3:=rfl
@[simp] theorem len_pcs (l:List Pc):(recs pcC l).length=3*l.length:=by rw[recs_len pcW];omega
abbrev one1 (n:Int):Prop:=0≤n∧n≤1000
abbrev vC (c:Cst):Prop:=one1 c.lit∧one1 c.cpy∧one1 c.dst∧one1 c.len
abbrev vP (t:Pc):Prop:=(t.2.1=0∧t.1=1)∨(1≤t.2.1∧t.2.1≤4096∧2≤t.1∧t.1≤273∧t.2.2=0)
def iblen (n:Int):Int:=(blen n.toNat:Int)
theorem iblen_pos {n:Int}(h:0≤n∧n<8192):0≤iblen n∧iblen n≤13:=by
 have:=blen_le (n:=n.toNat) (k:=13) (by omega)
 unfold iblen;omega
def price (c:Cst)(t:Pc):Int:=if t.2.1=0 then c.lit else c.cpy+c.dst*iblen t.2.1+c.len*iblen t.1
theorem mul_in {a b:Int}(ha:one1 a)(hb:0≤b∧b≤13):0≤a*b∧a*b≤13000:=by
 have h1:=Int.mul_le_mul_of_nonneg_left hb.2 ha.1
 have h2:=Int.mul_nonneg ha.1 hb.1
 omega
theorem price_in {c:Cst}{t:Pc}(hc:vC c)(ht:vP t):0≤price c t∧price c t≤27000:=by
 obtain⟨h1,h2,h3,h4⟩:=hc
 unfold price
 split
 ·omega
 ·rcases ht with ht|ht
  ·omega
  ·have:=mul_in h3 (iblen_pos (n:=t.2.1) (by omega))
   have:=mul_in h4 (iblen_pos (n:=t.1) (by omega))
   omega

theorem validC_any (c:Cst)(h:SH):SRun Tryz.prog 32 [csV c] h fun r q=>r=B (decide (vC c))∧q=h:=by
 obtain⟨a,b,d,e⟩:=c
 refine zR Tryz.func32 rfl rfl ?_
 repeat'(first|apply zF|apply zB|apply zE|(apply o_g zC;exact rfl;exact rfl)|(apply zM zC;(iterate 3 exact rfl);(focus exact pk))|(apply o_box (tt:=tyT);iterate 5 exact rfl)|(apply zT zC;(iterate 5 exact rfl);(focus decide);exact rfl;(focus decide);(focus repeat(first|exact CatR.nil|(apply CatR.one;exact rfl;exact rfl)));exact rfl)|apply zA|apply zH|((with_reducible apply Sd.mk);first|exact True.intro)|((with_reducible apply Ln.mk);first|rfl)|((with_reducible apply Ce.mk);first|rfl)|exact True.intro|intro A|exact rfl)
 refine zZ (S:=Nat) (fun k=>[(13,gsl A 0 (4*1) 4 1),(14,I 4),(15,I k)]) (fun _=>(A,⟨[a,b,d,e].map (fun z=>I z),false⟩)::h) (fun k=>k≤4∧∀i,i<k→one1 [a,b,d,e][i]!) (fun k=>4-k) 0 ⟨by omega,by omega⟩ (by repeat'(first|exact trivial|refine⟨rfl,?_⟩|refine⟨congrArg some ?_,?_⟩)) (by repeat with_reducible first|exact Take.nil|apply Take.c|apply Take.drop) ?_
 rintro k ⟨hk,hs⟩
 by_cases hkl:k<4
 ·have hl:k<[a,b,d,e].length:=hkl
  have hall:(∀i,i<4→one1 [a,b,d,e][i]!)↔one1 a∧one1 b∧one1 d∧one1 e :=
   ⟨fun g=>⟨g 0 (by omega),g 1 (by omega),g 2 (by omega),g 3 (by omega)⟩,fun g i hi=>by match i,hi with|0,_=>exact g.1|1,_=>exact g.2.1|2,_=>exact g.2.2.1|3,_=>exact g.2.2.2⟩
  repeat'(first|apply zF|apply zB|apply zE|(apply o_g zC;exact rfl;exact rfl)|(apply o_ar zC;exact rfl;exact rfl)|(apply zM zC;(iterate 3 exact rfl);(focus exact pk))|(apply zU;exact rfl;exact rfl)|(apply yF;iterate 4 exact rfl)|(apply o_guardF;(iterate 3 exact rfl);all_goals intro hc)|(apply yB;exact rfl)|(apply yC;exact rfl;(focus first|omega))|(apply w_if;exact rfl;all_goals intro hc)|apply zA|apply zP|apply zG|apply yP|apply zI|apply zN|apply zH|((with_reducible apply Sd.mk);first|exact True.intro|omega)|((with_reducible apply Ln.mk);first|rfl)|((with_reducible apply Wr.mk);first|exact IntWalk.i64_in _ (by omega))|((with_reducible apply Ce.mk);first|exact yM (by omega))|exact True.intro|exact rfl)
  all_goals first
   |(apply zL;(exact(show ResS _ _ _ _ [_] from⟨rfl,trivial⟩));(focus refine⟨?_,rfl⟩;show B _=B _;congr 1;symm;rw[decide_eq_false_iff_not];intro g;have:=hall.2 g k hkl;omega);(focus repeat with_reducible first|exact Take.nil|apply Take.c|apply Take.drop))
   |exact⟨k+1,⟨hkl,fun i hi=>by
     by_cases e2:i=k
     ·subst e2;omega
     ·exact hs i (by omega)⟩,by omega,(by repeat'(first|exact trivial|refine⟨rfl,?_⟩|refine⟨congrArg some ?_,?_⟩)),(by repeat with_reducible first|exact Take.nil|apply Take.c|apply Take.drop)⟩
 ·repeat'(first|apply zF|apply zB|apply zE|(apply o_g zC;exact rfl;exact rfl)|(apply yD;exact rfl;(focus first|omega))|apply zA|apply zK|apply zJ|apply zN|apply zV|((with_reducible apply Sd.mk);first|exact True.intro))
  (apply zL;(exact(show ResS _ _ _ _ [_] from⟨rfl,trivial⟩));(focus refine⟨?_,rfl⟩;show B _=B _;congr 1;symm;rw[decide_eq_true_eq];exact⟨hs 0 (by omega),hs 1 (by omega),hs 2 (by omega),hs 3 (by omega)⟩);(focus repeat with_reducible first|exact Take.nil|apply Take.c|apply Take.drop))
theorem validPiece_any (t:Pc)(h:SH):SRun Tryz.prog 33 [pcV t] h fun r q=>r=B (decide (vP t))∧q=h:=by
 obtain⟨a,b,d⟩:=t
 refine zR Tryz.func33 rfl rfl ?_
 repeat'(first|apply zF|apply zB|apply zE|(apply o_g zC;exact rfl;exact rfl)|(apply zM zC;(iterate 3 exact rfl);(focus exact pk))|(apply o_box (tt:=tyT);iterate 5 exact rfl)|(apply zU;exact rfl;exact rfl)|(apply yF;iterate 4 exact rfl)|(apply o_guardT;(iterate 3 exact rfl);all_goals intro hc)|(apply w_if;exact rfl;all_goals intro hc)|apply zA|apply zP|apply zI|apply zN|((with_reducible apply Sd.mk);first|exact True.intro)|((with_reducible apply Ln.mk);first|rfl)|((with_reducible apply Ce.mk);first|rfl)|exact True.intro|intro A|exact rfl)
 all_goals (apply zL;(exact(show ResS _ _ _ _ [_] from⟨rfl,trivial⟩));(focus refine⟨?_,rfl⟩;show B _=B _;congr 1;unfold vP;dsimp only;first|(rw[decide_eq_decide];(try dsimp only at *);omega)|(symm;rw[decide_eq_false_iff_not];(try dsimp only at *);omega));(focus repeat with_reducible first|exact Take.nil|apply Take.c|apply Take.drop))
theorem vP_nat {t:Pc}(h:vP t):∃(a b:Nat) (y:Int),t=((a:Int),(b:Int),y)∧a≤273∧b≤4096:=by
 obtain⟨a,b,y⟩:=t
 have h':(b=0∧a=1)∨(1≤b∧b≤4096∧2≤a∧a≤273∧y=0):=h
 exact⟨a.toNat,b.toNat,y,by rw[Int.toNat_of_nonneg (by omega),Int.toNat_of_nonneg (by omega)],by omega,by omega⟩
theorem price_nat (c:Cst)(a b:Nat)(y:Int):price c ((a:Int),(b:Int),y)=if(b:Int)=0 then c.lit else c.cpy+c.dst*(blen b:Int)+c.len*(blen a:Int):=rfl
theorem price_any (c:Cst)(t:Pc)(h:SH)(hc:vC c)(ht:vP t):SRun Tryz.prog 34 [csV c,pcV t] h fun r q=>r=I (price c t)∧q=h:=by
 have hin:=price_in hc ht
 obtain⟨a,b,y,rfl,ha,hb⟩:=vP_nat ht
 rw[price_nat]at hin ⊢
 have m1:=mul_in hc.2.2.1 (b:=(blen b:Int)) (by have:=blen_le (n:=b) (k:=13) (by omega);omega)
 have m2:=mul_in hc.2.2.2 (b:=(blen a:Int)) (by have:=blen_le (n:=a) (k:=13) (by omega);omega)
 have h2:=hc.2.1
 show SRun _ _ [csV c,.agg ⟨[I a,I b,.int .u8 y]⟩] h _
 refine zY Tryz.func34 rfl rfl ?_
 repeat'(first|apply zF|apply zB|apply zE|(apply yH;(focus kernel_rfl);(focus kernel_rfl))|(apply o_g zC;exact rfl;exact rfl)|(apply o_ar zC;exact rfl;exact rfl)|(apply zM zC;(iterate 3 exact rfl);(focus exact pk))|(apply o_box (tt:=tyT);iterate 5 exact rfl)|(apply yS;(iterate 4 exact rfl);(focus exact⟨_,bLen_any b _ (by omega),by repeat with_reducible exact Take.nil⟩);(focus exact fun _ _ h=>h.1);(focus(repeat(first|exact Flat.c rfl))))|(apply yS;(iterate 4 exact rfl);(focus exact⟨_,bLen_any a _ (by omega),by repeat with_reducible exact Take.nil⟩);(focus exact fun _ _ h=>h.1);(focus(repeat(first|exact Flat.c rfl))))|(apply w_if;exact rfl;all_goals intro hc)|apply zA|apply zP|apply zI|apply zN|((with_reducible apply Sd.mk);first|exact True.intro)|((with_reducible apply Ln.mk);first|rfl)|((with_reducible apply Wr.mk);first|exact IntWalk.i64_in _ (by omega)|exact IntWalk.u64_in _ (by omega))|((with_reducible apply Ce.mk);first|rfl)|exact True.intro|intro A|exact rfl)
 ·rw[if_pos hc]
  (apply zL;(exact(show ResS _ _ _ _ [_] from⟨rfl,trivial⟩));(focus exact⟨rfl,rfl⟩);(focus repeat with_reducible first|exact Take.nil|apply Take.c|apply Take.drop))
 ·rw[if_neg hc]
  (apply zL;(exact(show ResS _ _ _ _ [_] from⟨rfl,trivial⟩));(focus exact⟨rfl,rfl⟩);(focus repeat with_reducible first|exact Take.nil|apply Take.c|apply Take.drop))

def costs (c:Cst):List Pc→Int
 |[]=>0
 |t::r=>price c t+costs c r
abbrev vPs (l:List Pc):Prop:=∀t∈l,vP t
def costR (c:Cst)(l:List Pc):Int × Int:=if vC c∧vPs l then(costs c l,0)else(0,1)
theorem costs_in {c:Cst}(hc:vC c):∀{l:List Pc},vPs l→0≤costs c l∧costs c l≤27000*l.length
 |[],_=>by simp[costs]
 |t::r,h=>by
  have h1:=price_in hc (h t (by simp))
  have h2:=costs_in hc (l:=r) (fun x hx=>h x (by simp[hx]))
  simp only[costs,List.length_cons];omega
theorem costR_bad {c:Cst}{l:List Pc}{k:Nat}(hk:k<l.length)(h:¬vP l[k]!):costR c l=(0,1):=by
 unfold costR
 rw[if_neg]
 rintro⟨_,g⟩
 exact h (by rw[getElem!_pos l k hk];exact g _ (List.getElem_mem hk))
theorem vPs_all {l:List Pc}(h:∀i,i<l.length→vP l[i]!):vPs l:=fun t ht=>by
 obtain⟨i,hi,rfl⟩:=List.getElem_of_mem ht
 have:=h i hi
 rwa [getElem!_pos l i hi]at this
theorem Cost_any (c:Cst)(l:List Pc)(v:Value)(h:SH)(hv:Has h (recs pcC l) 3 l.length v)(hl:l.length≤100000) :
  SRun Tryz.prog 16 [csV c,v] h fun r q=>r=.tuple #[I (costR c l).1,I (costR c l).2]∧q=h:=by
 obtain⟨ad,fl,rfl,hh⟩:=hv
 refine zY Tryz.func16 rfl rfl ?_
 by_cases hc0:vC c
 ·repeat'(first|apply zF|apply zB|apply zE|(apply o_g zC;exact rfl;exact rfl)|(apply o_not;exact rfl;exact rfl)|(apply yQ zC;(iterate 3 exact rfl);(focus exact pk))|(apply o_box (tt:=tyT);iterate 5 exact rfl)|(apply zD;exact rfl;exact rfl;(focus first|exact rfl);exact rfl;(focus exact⟨_,validC_any c _,by repeat with_reducible exact Take.nil⟩);rintro _ _ ⟨rfl,rfl⟩)|(apply yD;exact rfl;(focus first|omega))|apply zA|apply zI|apply zH|((with_reducible apply Sd.mk);first|exact True.intro)|((with_reducible apply Ln.mk);first|rfl)|((with_reducible apply Su.mk);first|exact zQ)|exact True.intro|intro A|exact rfl)
  refine zZ (S:=Nat × Int) (fun x=>[(2,gptr A 0 4),(6,I x.2),(12,.slice ad l.length fl),(13,I l.length),(14,I x.1)]) (fun _=>(A,⟨csC c,false⟩)::h)
   (fun x=>x.1≤l.length∧x.2+costs c (l.drop x.1)=costs c l∧0≤x.2∧x.2≤27000*x.1∧∀i,i<x.1→vP l[i]!) (fun x=>l.length-x.1) (0,0) ⟨by omega,by simp,by simp,by simp,by simp⟩ (by repeat'(first|exact trivial|refine⟨rfl,?_⟩|refine⟨congrArg some ?_,?_⟩)) (by repeat with_reducible first|exact Take.nil|apply Take.c|apply Take.drop) ?_
  rintro⟨k,a⟩ ⟨hk,he,ha0,ha1,hs⟩
  dsimp only at hk he ha0 ha1 hs ⊢
  by_cases hkl:k<l.length
  ·obtain⟨A',ro,h1,rfl,hp⟩:=hh (by omega)
   rw[drop_bang hkl,costs]at he
   by_cases ht0:vP l[k]!
   ·have hin:=price_in hc0 ht0
    repeat'(first|apply zF|apply zB|apply zE|(apply o_g zC;exact rfl;exact rfl)|(apply o_ar zC;exact rfl;exact rfl)|(apply o_not;exact rfl;exact rfl)|(apply yQ zC;(iterate 3 exact rfl);(focus exact pk))|(apply yE zC;(iterate 4 exact rfl);(focus exact⟨rfl⟩);(focus exact up))|(apply yG zC;iterate 5 exact rfl)|(apply zD;exact rfl;exact rfl;(focus first|exact rfl);exact rfl;(focus exact⟨_,validPiece_any l[k]! _,by repeat with_reducible exact Take.nil⟩);rintro _ _ ⟨rfl,rfl⟩)|(apply zD;exact rfl;exact rfl;(focus first|exact rfl);exact rfl;(focus exact⟨_,price_any c l[k]! _ hc0 ht0,by repeat with_reducible exact Take.nil⟩);rintro _ _ ⟨rfl,rfl⟩)|(apply yC;exact rfl;(focus first|omega))|(apply yD;exact rfl;(focus first|omega))|apply zA|apply zG|apply zI|apply zH|((with_reducible apply Sd.mk);first|exact True.intro|omega)|((with_reducible apply Ln.mk);first|rfl|(simp ;first|done|omega))|((with_reducible apply Wr.mk);first|exact IntWalk.i64_in _ (by omega))|((with_reducible apply Pu.mk);first|exact yA rfl)|((with_reducible apply Su.mk);first|exact zQ|exact subAt_recZ (fun _=>rfl) (by omega))|exact True.intro|intro A|exact rfl)
    all_goals first
     |(exfalso;simp_all;done)
     |exact⟨(k+1,a+price c l[k]!),⟨hkl,by dsimp only;omega,by dsimp only;omega,by dsimp only;omega,fun i hi=>by
       by_cases e:i=k
       ·subst e;exact ht0
       ·exact hs i (by dsimp only at hi;omega)⟩,by show l.length-(k+1)<_;omega,(by repeat'(first|exact trivial|refine⟨rfl,?_⟩|refine⟨congrArg some ?_,?_⟩)),(by repeat with_reducible first|exact Take.nil|apply Take.c|apply Take.drop)⟩
   ·repeat'(first|apply zF|apply zB|apply zE|(apply o_g zC;exact rfl;exact rfl)|(apply o_not;exact rfl;exact rfl)|(apply yQ zC;(iterate 3 exact rfl);(focus exact pk))|(apply yE zC;(iterate 4 exact rfl);(focus exact⟨rfl⟩);(focus exact up))|(apply yG zC;iterate 5 exact rfl)|(apply zD;exact rfl;exact rfl;(focus first|exact rfl);exact rfl;(focus exact⟨_,validPiece_any l[k]! _,by repeat with_reducible exact Take.nil⟩);rintro _ _ ⟨rfl,rfl⟩)|(apply yC;exact rfl;(focus first|omega))|apply zA|apply zP|apply yP|apply zI|apply zN|apply zH|((with_reducible apply Sd.mk);first|exact True.intro|omega)|((with_reducible apply Ln.mk);first|rfl|(simp ;first|done|omega))|((with_reducible apply Pu.mk);first|exact yA rfl)|((with_reducible apply Su.mk);first|exact zQ|exact subAt_recZ (fun _=>rfl) (by omega))|exact True.intro|intro A|exact rfl)
    all_goals first
     |(apply zL;(exact(show ResS _ _ _ _ [_,_] from⟨rfl,⟨rfl,trivial⟩⟩));(focus exact⟨by rw[costR_bad hkl ht0];rfl,rfl⟩);(focus repeat with_reducible first|exact Take.nil|apply Take.c|apply Take.drop))
     |(exfalso;simp_all;done)
  ·rw[List.drop_of_length_le (by omega),costs]at he
   have hall:vPs l:=vPs_all fun i hi=>hs i (by omega)
   repeat'(first|apply zF|apply zB|apply zE|(apply o_g zC;exact rfl;exact rfl)|(apply yD;exact rfl;(focus first|omega))|apply zA|apply zK|apply zJ|apply zN|apply zV|((with_reducible apply Sd.mk);first|exact True.intro))
   (apply zL;(exact(show ResS _ _ _ _ [_,_] from⟨rfl,⟨rfl,trivial⟩⟩));(focus exact⟨by unfold costR;rw[if_pos ⟨hc0,hall⟩,←he,Int.add_zero];rfl,rfl⟩);(focus repeat with_reducible first|exact Take.nil|apply Take.c|apply Take.drop))
 ·repeat'(first|apply zF|apply zB|apply zE|(apply o_g zC;exact rfl;exact rfl)|(apply o_not;exact rfl;exact rfl)|(apply yQ zC;(iterate 3 exact rfl);(focus exact pk))|(apply o_box (tt:=tyT);iterate 5 exact rfl)|(apply zD;exact rfl;exact rfl;(focus first|exact rfl);exact rfl;(focus exact⟨_,validC_any c _,by repeat with_reducible exact Take.nil⟩);rintro _ _ ⟨rfl,rfl⟩)|(apply yC;exact rfl;(focus first|omega))|apply zA|apply zP|apply zN|((with_reducible apply Sd.mk);first|exact True.intro)|((with_reducible apply Ln.mk);first|rfl)|((with_reducible apply Su.mk);first|exact zQ)|exact True.intro|intro A|exact rfl)
  all_goals first
   |(apply zL;(exact(show ResS _ _ _ _ [_,_] from⟨rfl,⟨rfl,trivial⟩⟩));(focus exact⟨by unfold costR;rw[if_neg (fun g=>hc0 g.1)];rfl,rfl⟩);(focus repeat with_reducible first|exact Take.nil|apply Take.c|apply Take.drop))
   |(exfalso;simp_all;done)

def copyN (d:Nat):Nat→List UInt8→List UInt8
 |0,o=>o
 |n+1,o=>copyN d n (o++[o[o.length-d]!])
def byt (y:Int):UInt8:=UInt8.ofNat y.toNat
theorem byt_nat {y:Int}(h:0≤y∧y≤255):((byt y).toNat:Int)=y:=by
 unfold byt
 rw[UInt8.toNat_ofNat',Nat.mod_eq_of_lt (by omega)];omega
theorem byteV_byt {y:Int}(h:0≤y∧y≤255):Value.int .u8 y=byteV (byt y):=by
 show _=Value.int .u8 _
 rw[byt_nat h]
def estp (o:List UInt8)(t:Pc):List UInt8:=if t.2.1=0 then o++[byt t.2.2] else copyN t.2.1.toNat t.1.toNat o
theorem copyN_len (d:Nat):∀(n:Nat) (o:List UInt8),(copyN d n o).length=o.length+n
 |0,_=>rfl
 |n+1,o=>by rw[copyN,copyN_len d n];simp;omega
theorem estp_len {o:List UInt8}{t:Pc}(h:vP t):((estp o t).length:Int)=o.length+t.1:=by
 unfold estp
 split
 ·rw[List.length_append];simp;omega
 ·rw[copyN_len];omega
abbrev bytesOk (l:List Pc):Prop:=∀t∈l,0≤t.2.2∧t.2.2≤255
theorem bang_mem {α:Type}[Inhabited α]{l:List α}{k:Nat}(h:k<l.length):l[k]!∈l:=by rw[getElem!_pos l k h];exact List.getElem_mem h
theorem estp_lit {t:Pc}(o:List UInt8)(h:t.2.1=0):estp o t=o++[byt t.2.2]:=if_pos h
theorem estp_cpy {t:Pc}(o:List UInt8)(h:t.2.1≠0):estp o t=copyN t.2.1.toNat t.1.toNat o:=if_neg h

abbrev St :=Int × Int × Pc
abbrev stC (s:St):List Value:=[I s.1,I s.2.1,I s.2.2.1,I s.2.2.2.1,.int .u8 s.2.2.2.2]
theorem stcW (s:St):(stC s).length=5:=rfl
@[simp] theorem len_stcs (l:List St):(recs stC l).length=5*l.length:=by rw[recs_len stcW];omega
def nxt (c:Cst)(T:List St)(i:Nat)(t:Pc):St:=(T[i+t.1.toNat]!.1+price c t,T[i+t.1.toNat]!.2.1+1,t)
abbrev sbet (x y:St):Prop:=x.1<y.1∨x.1=y.1∧x.2.1<y.2.1
def tryS (c:Cst)(i:Nat)(s:Bool × List St)(t:Pc):Bool × List St :=
 if s.1=false∨sbet (nxt c s.2 i t) s.2[i]! then(true,s.2.set i (nxt c s.2 i t))else s
theorem tryS_len (c:Cst)(i:Nat)(s:Bool × List St)(t:Pc):(tryS c i s t).2.length=s.2.length:=by
 unfold tryS;split <;> simp
abbrev TB (n3 n8 n9 n10 A:Nat)(c:Cst)(i:Nat)(s:Bool × List St)(h:SH):SH :=
 (n10,⟨[B s.1],false⟩)::(n9,⟨[I i],false⟩)::(n8,⟨[gsl A 0 (s.2.length*5) s.2.length 5],false⟩)::(A,⟨recs stC s.2,false⟩)::(n3,⟨csC c,false⟩)::h
abbrev stOk (s:St):Prop:=0≤s.1∧s.1≤27000*4097∧0≤s.2.1∧s.2.1≤4097
theorem put5 {a b c d e x y z:Value}:PutAt [a,b,c,d,e] 2 [x,y,z] [a,b,x,y,z]:=⟨by simp,rfl⟩
theorem try_any (c:Cst)(t:Pc)(n3 n8 n9 n10 A0 i:Nat)(s:Bool × List St)(h:SH)(hc:vC c)(ht:vP t)(hi:i+t.1.toNat<s.2.length)(hl:s.2.length≤4097)(hT:stOk s.2[i+t.1.toNat]!) :
  SRun Tryz.prog 66 [pcV t,gptr n8 0 1,gptr n9 0 1,gptr n3 0 4,gptr n10 0 1] (TB n3 n8 n9 n10 A0 c i s h)
   fun r q=>r=.tuple #[]∧q=TB n3 n8 n9 n10 A0 c i (tryS c i s t) h:=by
 have hpr:=price_in hc ht
 obtain⟨a,b,y,rfl,ha,hb⟩:=vP_nat ht
 have hix:i+((a:Int)).toNat=i+a:=by rw[Int.toNat_natCast]
 dsimp only at hi hT
 rw[hix]at hi hT
 have hn:nxt c s.2 i ((a:Int),(b:Int),y)=(s.2[i+a]!.1+price c ((a:Int),(b:Int),y),s.2[i+a]!.2.1+1,((a:Int),(b:Int),y)):=by unfold nxt;dsimp only;rw[hix]
 obtain⟨f,T⟩:=s
 dsimp only at hi hT hl hn ⊢
 show SRun _ _ [.agg ⟨[I (a:Int),I (b:Int),.int .u8 y]⟩,gptr n8 0 1,gptr n9 0 1,gptr n3 0 4,gptr n10 0 1]
  ((n10,⟨[B f],false⟩)::(n9,⟨[I i],false⟩)::(n8,⟨[gsl A0 0 (T.length*5) T.length 5],false⟩)::(A0,⟨recs stC T,false⟩)::(n3,⟨csC c,false⟩)::h) _
 refine w_body5 Tryz.func66 rfl rfl ?_
 have hput:PutAt (recs stC T) (0+((i:Int)).toNat*5) [I (T[i+a]!.1+price c ((a:Int),(b:Int),y)),I (T[i+a]!.2.1+1),I (a:Int),I (b:Int),.int .u8 y] (recs stC (T.set i (nxt c T i ((a:Int),(b:Int),y)))):=by
  rw[hn];exact putAt_recZ (x:=(T[i+a]!.1+price c ((a:Int),(b:Int),y),T[i+a]!.2.1+1,((a:Int),(b:Int),y))) (fun _=>rfl) (by omega)
 have hset:(f=false∨(T[i+a]!.1+price c ((a:Int),(b:Int),y)<T[i]!.1∨T[i+a]!.1+price c ((a:Int),(b:Int),y)=T[i]!.1∧T[i+a]!.2.1+1<T[i]!.2.1))→tryS c i (f,T) ((a:Int),(b:Int),y)=(true,T.set i (nxt c T i ((a:Int),(b:Int),y))):=fun g=>by
  unfold tryS;dsimp only;rw[if_pos (by rw[hn];exact g)]
 have hno:¬(f=false∨(T[i+a]!.1+price c ((a:Int),(b:Int),y)<T[i]!.1∨T[i+a]!.1+price c ((a:Int),(b:Int),y)=T[i]!.1∧T[i+a]!.2.1+1<T[i]!.2.1))→tryS c i (f,T) ((a:Int),(b:Int),y)=(f,T):=fun g=>by
  unfold tryS;dsimp only;rw[if_neg (by rw[hn];exact g)]
 repeat'(first|apply zF|apply zB|apply zE|(apply yH;(focus kernel_rfl);(focus kernel_rfl))|(apply o_g zC;exact rfl;exact rfl)|(apply o_ar zC;exact rfl;exact rfl)|(apply yR;exact rfl;exact rfl)|(apply zM zC;(iterate 3 exact rfl);(focus exact pk))|(apply yQ zC;(iterate 3 exact rfl);(focus exact pk))|(apply zX zC;(iterate 4 exact rfl);(focus exact up))|(apply yE zC;(iterate 4 exact rfl);(focus exact⟨rfl⟩);(focus exact up))|(apply yG zC;iterate 5 exact rfl)|(apply o_box (tt:=tyT);iterate 5 exact rfl)|(apply yT zC;exact rfl;exact rfl;(focus first|with_reducible exact pl129);exact rfl;(focus repeat(first|exact BuildR.nil|(apply BuildR.one;exact rfl;exact rfl;(first|(focus(repeat(first|exact SetAt.zero|apply SetAt.succ));done)))|(apply BuildR.agg;exact rfl;exact rfl;(first|exact put5))));exact rfl)|(apply yS;(iterate 4 exact rfl);(focus exact⟨_,price_any c _ _ hc ht,by repeat with_reducible exact Take.nil⟩);(focus exact fun _ _ h=>h.1);(focus(repeat(first|exact Flat.c rfl))))|(apply zU;exact rfl;exact rfl)|(apply yF;iterate 4 exact rfl)|(apply o_skip_undef;iterate 3 exact rfl)|(apply o_guardT;(iterate 3 exact rfl);all_goals intro hc)|(apply o_guardF;(iterate 3 exact rfl);all_goals intro hc)|(apply o_guardB;(iterate 3 exact rfl);all_goals intro hc)|(apply yB;exact rfl)|(apply zS;exact rfl)|(apply w_if;exact rfl;all_goals intro hc)|apply zA|apply zI|((with_reducible apply Sd.mk);first|exact True.intro|omega)|((with_reducible apply Ln.mk);first|rfl|(simp ;first|done|omega))|((with_reducible apply Wr.mk);first|exact IntWalk.i64_in _ (by omega))|((with_reducible apply Ce.mk);first|rfl|exact cell_recZ (fun _=>rfl) (by omega) (by decide) rfl)|((with_reducible apply Se.mk);first|(focus(repeat(first|exact SetAt.zero));done))|((with_reducible apply Pu.mk);first|exact yA rfl|exact hput)|((with_reducible apply Su.mk);first|exact zQ|exact subAt_recZ (fun _=>rfl) (by omega))|exact True.intro|exact Or.inl rfl|apply And.intro|intro A|exact rfl)
 all_goals first
  |(rw[hset (by first|(left;simpa using hc)|(right;left;assumption)|(right;right;exact⟨by assumption,by assumption⟩))];(apply s_finN;(exact(show ResS _ _ _ _ [] from trivial));(focus exact⟨rfl,rfl⟩);(focus repeat(first|with_reducible exact Take.nil|with_reducible apply Take.c|((with_reducible apply Take.cE);first|exact rfl|(apply blkE;(focus first|exact rfl|exact yI rfl|exact yO rfl|exact congrArg (fun v=>[v]) (gslE rfl rfl (by first|rfl|exact ‹_›|omega|(simp ;first|done|omega)) (by first|rfl|exact ‹_›|omega|(simp ;first|done|omega)) rfl))))|with_reducible apply Take.drop))))
  |(rw[hno (by rintro(g|g|g) <;> first|omega|simp_all)];(apply s_finN;(exact(show ResS _ _ _ _ [] from trivial));(focus exact⟨rfl,rfl⟩);(focus repeat with_reducible first|exact Take.nil|apply Take.c|apply Take.drop)))

abbrev vld (w m:Int):Prop:=1≤w∧w≤4096∧2≤m∧m≤273

def lcp (l:List UInt8)(i j:Nat):Nat→Nat
 |0=>0
 |m+1=>if bat l i=bat l j then lcp l (i+1) (j+1) m+1 else 0

theorem lcp_le (l:List UInt8):∀(m i j:Nat),lcp l i j m≤m
 |0,_,_=>Nat.le_refl _
 |m+1,i,j=>by
  unfold lcp;split
  ·have:=lcp_le l m (i+1) (j+1);omega
  ·omega

theorem valid_any (x y:Int)(h:SH):SRun Tryz.prog 68 [I x,I y] h fun r q=>r=B (decide (vld x y))∧q=h:=by
 refine zY Tryz.func68 rfl rfl ?_
 repeat'(first|apply zF|apply zB|apply zE|(apply o_g zC;exact rfl;exact rfl)|(apply zU;exact rfl;exact rfl)|(apply yF;iterate 4 exact rfl)|(apply o_guardT;(iterate 3 exact rfl);all_goals intro hc)|apply zA|apply zN|((with_reducible apply Sd.mk);first|exact True.intro))
 all_goals (apply zL;(exact(show ResS _ _ _ _ [_] from⟨rfl,trivial⟩));(focus refine⟨?_,rfl⟩;show B _=B _;congr 1;unfold vld;first|(rw[decide_eq_decide];omega)|(symm;rw[decide_eq_false_iff_not];omega));(focus repeat with_reducible first|exact Take.nil|apply Take.c|apply Take.drop))
theorem common_any (l:List UInt8)(i j m:Nat)(h:SH)(h1:i+m≤l.length)(h2:j+m≤l.length)(h5:l.length≤9223372036854775807) :
  SRun Tryz.prog 111 [S l,I i,I j,I m] h fun r q=>r=I (lcp l i j m)∧q=h:=by
 refine w_body4 Tryz.func111 rfl rfl ?_
 repeat'(first|apply zF|apply zB|apply zE|(apply o_g zC;exact rfl;exact rfl)|apply zA|apply zH|((with_reducible apply Sd.mk);first|exact True.intro))
 refine zZ (S:=Nat) (fun k=>[(0,S l),(1,I i),(2,I j),(3,I m),(10,I m),(11,I k)]) (fun _=>h)
  (fun k=>k≤m∧lcp l i j m=k+lcp l (i+k) (j+k) (m-k)) (fun k=>m-k) 0 ⟨by omega,by simp⟩ (by repeat'(first|exact trivial|refine⟨rfl,?_⟩|refine⟨congrArg some ?_,?_⟩)) (by repeat with_reducible first|exact Take.nil|apply Take.c|apply Take.drop) ?_
 rintro k ⟨hk,he⟩
 repeat'(first|apply zF|apply zB|apply zE|(apply yH;(focus kernel_rfl);(focus kernel_rfl))|(apply o_g zC;exact rfl;exact rfl)|(apply o_ar zC;exact rfl;exact rfl)|(apply o_max;iterate 3 exact rfl)|(apply w_ifN;exact rfl;all_goals intro hc)|(apply w_if;exact rfl;all_goals intro hc)|apply zA|apply zP|apply zK|apply zG|apply yP|apply zJ|apply zI|apply zN|apply zV|apply zH|((with_reducible apply Sd.mk);first|exact True.intro|omega)|((with_reducible apply Wr.mk);first|exact IntWalk.i64_in _ (by omega)))
 ·obtain⟨q,hq⟩:∃q,m-k=q+1:=⟨m-k-1,by omega⟩
  rw[hq,lcp,if_neg (by push_cast;assumption)]at he
  (apply zL;(exact(show ResS _ _ _ _ [_] from⟨rfl,trivial⟩));(focus exact⟨by show I _=I _;rw[he];rfl,rfl⟩);(focus repeat with_reducible first|exact Take.nil|apply Take.c|apply Take.drop))
 ·refine⟨k+1,⟨by omega,?_⟩,by omega,(by repeat'(first|exact trivial|refine⟨rfl,?_⟩|refine⟨congrArg some ?_,?_⟩)),(by repeat with_reducible first|exact Take.nil|apply Take.c|apply Take.drop)⟩
  obtain⟨q,hq⟩:∃q,m-k=q+1:=⟨m-k-1,by omega⟩
  rw[hq,lcp,if_pos (by push_cast;assumption)]at he
  rw[he,show m-(k+1)=q from by omega,show i+(k+1)=i+k+1 from by omega,show j+(k+1)=j+k+1 from by omega]
  omega
 ·have:k=m:=by omega
  subst this
  (apply zL;(exact(show ResS _ _ _ _ [_] from⟨rfl,trivial⟩));(focus refine⟨?_,rfl⟩;show I _=I _;rw[he];simp[lcp]);(focus repeat with_reducible first|exact Take.nil|apply Take.c|apply Take.drop))

theorem common_int (l:List UInt8)(i j m:Int)(h:SH)(hi:0≤i)(hj:0≤j)(hm:0≤m)(h1:i+m≤l.length)(h2:j+m≤l.length)(h5:l.length≤9223372036854775807) :
  SRun Tryz.prog 111 [S l,I i,I j,I m] h fun r q=>r=I (lcp l i.toNat j.toNat m.toNat)∧q=h:=by
 obtain⟨i,rfl⟩:=Int.eq_ofNat_of_zero_le hi
 obtain⟨j,rfl⟩:=Int.eq_ofNat_of_zero_le hj
 obtain⟨m,rfl⟩:=Int.eq_ofNat_of_zero_le hm
 exact common_any l i j m h (by omega) (by omega) h5

def com (l:List UInt8)(i j:Int):Nat:=if 0≤i∧0≤j∧i≤l.length∧j≤l.length then lcp l i.toNat j.toNat (l.length-max i j).toNat else 0

def atd (l:List UInt8)(i d m:Int):Int:=if d<1∨i<d then 0 else if min (com l (i-d) i:Int) m<2 then 0 else min (com l (i-d) i:Int) m

abbrev cpF (c:Int × Int):List Value:=[I c.1,I c.2]
theorem cpW (c:Int × Int):(cpF c).length=2:=rfl
@[simp] theorem len_cps (l:List (Int × Int)):(recs cpF l).length=2*l.length:=by rw[recs_len cpW];omega
def lastc (l:List (Int × Int)):Int × Int:=l.getLastD (0,0)
theorem lastc_get {l:List (Int × Int)}(h:l.length≠0):l[l.length-1]! = lastc l:=by
 unfold lastc
 rw[List.getLastD_eq_getLast?,List.getLast?_eq_getElem?,getElem!_pos _ _ (by omega),List.getElem?_eq_getElem (by omega)]
 rfl
abbrev cpS (A:Nat)(l:List (Int × Int)):Value:=gsl A 0 (2*l.length) l.length 2
abbrev cpB (l:List (Int × Int))(ro:Bool):Blk:=⟨recs cpF l,ro⟩

def rc (l:List UInt8)(i m:Int):Nat→List (Int × Int) × Int
 |0=>([],0)
 |d+1=>if(rc l i m d).2<atd l i (d+1) m then((rc l i m d).1++[(atd l i (d+1) m,(d:Int)+1)],atd l i (d+1) m)else rc l i m d

def rcands (l:List UInt8)(i w m:Int):List (Int × Int) :=
 if vld w m∧0≤i∧i≤l.length∧l.length≤4096 then(rc l i m (min w i).toNat).1 else []


abbrev BS :=Nat × List (Int × Int)
def bgo (i:Nat)(w:Int)(m j:Nat)(s:BS):Prop:=¬(w<(i:Int)-j∨m≤s.1)
instance (i:Nat) (w:Int) (m j:Nat) (s:BS):Decidable (bgo i w m j s):=by unfold bgo;infer_instance
def bup (l:List UInt8)(i m j:Nat)(s:BS):BS:=if s.1<lcp l j i m then(lcp l j i m,s.2++[((lcp l j i m:Int),(i:Int)-(j:Int))])else s
def nbst (l:List UInt8)(i:Nat)(w:Int)(m j:Nat)(s:BS):BS:=if bgo i w m j s then bup l i m j s else s
def brun (l:List UInt8)(i:Nat)(w:Int)(m:Nat):List Nat→BS→BS
 |[],s=>s
 |j::r,s=>if bgo i w m j s then brun l i w m r (bup l i m j s)else s

theorem lcp_ne (l:List UInt8):∀(m i j b:Nat),bat l (i+b:Nat)≠bat l (j+b:Nat)→lcp l i j m≤b
 |0,_,_,_,_=>Nat.zero_le _
 |m+1,i,j,b,h=>by
  unfold lcp
  split
  ·rename_i e
   cases b with
   |zero=>exact absurd e h
   |succ b =>
    have:=lcp_ne l m (i+1) (j+1) b (by rw[show i+1+b=i+(b+1)by omega,show j+1+b=j+(b+1)by omega];exact h)
    omega
  ·omega

inductive BH (l:List UInt8)(i:Nat)(w:Int)(m n5 n6 n7 n8 n11 n12:Nat)(h:SH):BS→SH→Prop
 |nil (best:Nat):BH l i w m n5 n6 n7 n8 n11 n12 h (best,[]) ((n12,⟨[I best],false⟩)::(n11,⟨[.slice none 0 0],false⟩)::(n8,⟨[I m],false⟩)::(n7,⟨[I w],false⟩)::(n6,⟨[I i],false⟩)::(n5,⟨[S l],false⟩)::h)
 |some (best:Nat) (cs:List (Int × Int)) (A:Nat):BH l i w m n5 n6 n7 n8 n11 n12 h (best,cs)
   ((n12,⟨[I best],false⟩)::(n11,⟨[cpS A cs],false⟩)::(n8,⟨[I m],false⟩)::(n7,⟨[I w],false⟩)::(n6,⟨[I i],false⟩)::(n5,⟨[S l],false⟩)::(A,cpB cs false)::h)

theorem BH.pick {l:List UInt8}{i:Nat}{w:Int}{m n5 n6 n7 n8 n11 n12:Nat}{h h1:SH}{s:BS}{p:SH}(b:BH l i w m n5 n6 n7 n8 n11 n12 h s p){A:Nat}{g:Blk}(hp:Pick h A g h1):∃p1,Pick p A g p1:=by
 cases b with
 |nil=>exact⟨_,hp.tail.tail.tail.tail.tail.tail⟩
 |some=>exact⟨_,hp.tail.tail.tail.tail.tail.tail.tail⟩

theorem bst_stop {l:List UInt8}{i:Nat}{w:Int}{m j:Nat}{s:BS}(h:¬bgo i w m j s):nbst l i w m j s=s:=if_neg h
theorem bst_same {l:List UInt8}{i:Nat}{w:Int}{m j:Nat}{s:BS}(h:lcp l j i m≤s.1):nbst l i w m j s=s:=by
 unfold nbst bup;split
 ·rw[if_neg (by omega)]
 ·rfl
theorem bst_new {l:List UInt8}{i:Nat}{w:Int}{m j best:Nat}{cs:List (Int × Int)}(hg:bgo i w m j (best,cs))(h:best<lcp l j i m):nbst l i w m j (best,cs)=(lcp l j i m,cs++[((lcp l j i m:Int),(i:Int)-(j:Int))]):=by
 unfold nbst bup;rw[if_pos hg,if_pos h]

theorem better1_any (l:List UInt8)(i:Nat)(w:Int)(m n5 n6 n7 n8 n11 n12 j:Nat)(h:SH)(s:BS)(p:SH)(hb:BH l i w m n5 n6 n7 n8 n11 n12 h s p)(h5:l.length≤4096)(hj:j<i)(him:i+m≤l.length)(hs:s.2.length≤4096)(hw:-4611686018427387904≤w) :
  SRun Tryz.prog 110 [I j,gptr n6 0 1,gptr n7 0 1,gptr n12 0 1,gptr n8 0 1,gptr n5 0 1,gptr n11 0 1] p
   fun r q=>r=B (decide (bgo i w m j s))∧BH l i w m n5 n6 n7 n8 n11 n12 h (nbst l i w m j s) q:=by
 cases hb with
 |nil best =>
  refine w_body7 Tryz.func110 rfl rfl ?_
  repeat'(first|apply zF|apply zB|apply zE|(apply yH;(focus kernel_rfl);(focus kernel_rfl))|(apply o_g zC;exact rfl;exact rfl)|(apply o_ar zC;exact rfl;exact rfl)|(apply zM zC;(iterate 3 exact rfl);(focus exact pk))|(apply zX zC;(iterate 4 exact rfl);(focus exact up))|(apply yT zC;exact rfl;exact rfl;(focus first|with_reducible exact pl90);exact rfl;(focus repeat(first|exact BuildR.nil|(apply BuildR.one;exact rfl;exact rfl;(first|(focus(repeat(first|exact SetAt.zero|apply SetAt.succ));done)))));exact rfl)|(apply zT zC;(iterate 5 exact rfl);(focus decide);exact rfl;(focus decide);(focus repeat(first|exact CatR.last rfl));exact rfl)|(apply o_append_nil zC;(iterate 5 exact rfl);(focus exact⟨by decide⟩);(focus exact pk))|(apply zD;exact rfl;exact rfl;(focus first|exact rfl);exact rfl;(focus exact⟨_,common_int _ _ _ _ _ (by omega) (by omega) (by omega) (by omega) (by omega) (by omega),by repeat with_reducible exact Take.nil⟩);rintro _ _ ⟨rfl,rfl⟩)|(apply zU;exact rfl;exact rfl)|(apply yF;iterate 4 exact rfl)|(apply o_guardF;(iterate 3 exact rfl);all_goals intro hc)|(apply yB;exact rfl)|(apply w_ifN;exact rfl;all_goals intro hc)|(apply w_if;exact rfl;all_goals intro hc)|apply zA|apply zP|apply zI|apply zN|((with_reducible apply Sd.mk);first|exact True.intro|omega|(constructor <;> first|omega|(unfold maxLen;omega)))|((with_reducible apply Ln.mk);first|rfl)|((with_reducible apply Wr.mk);first|exact IntWalk.i64_in _ (by omega))|((with_reducible apply Ce.mk);first|rfl)|((with_reducible apply Se.mk);first|(focus(repeat(first|exact SetAt.zero));done))|((with_reducible apply Su.mk);first|exact zQ)|exact True.intro|intro A|exact rfl)
  ·have hg:¬bgo i w m j (best,[]):=fun h=>h (.inr (by show m≤best;omega))
   (apply zL;(exact(show ResS _ _ _ _ [_] from⟨rfl,trivial⟩));(focus rw[decide_eq_false hg,bst_stop hg];exact⟨rfl,.nil _⟩);(focus repeat with_reducible first|exact Take.nil|apply Take.c|apply Take.drop))
  ·have hg:bgo i w m j (best,[]):=by unfold bgo;show ¬(_∨m≤best);omega
   (apply zL;(exact(show ResS _ _ _ _ [_] from⟨rfl,trivial⟩));(focus rw[decide_eq_true hg,bst_same (lcp_ne l m j i best (by push_cast;assumption))];exact⟨rfl,.nil _⟩);(focus repeat with_reducible first|exact Take.nil|apply Take.c|apply Take.drop))
  ·have hg:bgo i w m j (best,[]):=by unfold bgo;show ¬(_∨m≤best);omega
   have hlt:best<lcp l j i m:=by exact_mod_cast hc
   (apply zL;(exact(show ResS _ _ _ _ [_] from⟨rfl,trivial⟩));(focus rw[decide_eq_true hg,bst_new hg hlt];exact⟨rfl,.some _ [_] A⟩);(focus repeat(first|with_reducible exact Take.nil|with_reducible apply Take.c|((with_reducible apply Take.cE);first|exact rfl|(apply blkE;(focus first|exact rfl|exact yI rfl|exact yO rfl|exact congrArg (fun v=>[v]) (gslE rfl rfl (by first|rfl|exact ‹_›|omega|(simp ;first|done|omega)) (by first|rfl|exact ‹_›|omega|(simp ;first|done|omega)) rfl))))|with_reducible apply Take.drop)))
  ·have hg:bgo i w m j (best,[]):=by unfold bgo;show ¬(_∨m≤best);omega
   have hle:lcp l j i m≤best:=by
    have:¬best<lcp l j i m:=by exact_mod_cast hc
    omega
   (apply zL;(exact(show ResS _ _ _ _ [_] from⟨rfl,trivial⟩));(focus rw[decide_eq_true hg,bst_same hle];exact⟨rfl,.nil _⟩);(focus repeat with_reducible first|exact Take.nil|apply Take.c|apply Take.drop))
  ·have hg:¬bgo i w m j (best,[]):=fun h=>h (.inl (by assumption))
   (apply zL;(exact(show ResS _ _ _ _ [_] from⟨rfl,trivial⟩));(focus rw[decide_eq_false hg,bst_stop hg];exact⟨rfl,.nil _⟩);(focus repeat with_reducible first|exact Take.nil|apply Take.c|apply Take.drop))
 |some best cs Ac =>
  have hs':cs.length≤4096:=hs
  refine w_body7 Tryz.func110 rfl rfl ?_
  repeat'(first|apply zF|apply zB|apply zE|(apply yH;(focus kernel_rfl);(focus kernel_rfl))|(apply o_g zC;exact rfl;exact rfl)|(apply o_ar zC;exact rfl;exact rfl)|(apply zM zC;(iterate 3 exact rfl);(focus exact pk))|(apply zX zC;(iterate 4 exact rfl);(focus exact up))|(apply yT zC;exact rfl;exact rfl;(focus first|with_reducible exact pl90);exact rfl;(focus repeat(first|exact BuildR.nil|(apply BuildR.one;exact rfl;exact rfl;(first|(focus(repeat(first|exact SetAt.zero|apply SetAt.succ));done)))));exact rfl)|(apply zT zC;(iterate 5 exact rfl);(focus decide);exact rfl;(focus decide);(focus repeat(first|exact CatR.last rfl));exact rfl)|(apply o_append zC;(iterate 5 exact rfl);(focus exact⟨by decide⟩);(focus exact up);(focus exact pk))|(apply zD;exact rfl;exact rfl;(focus first|exact rfl);exact rfl;(focus exact⟨_,common_int _ _ _ _ _ (by omega) (by omega) (by omega) (by omega) (by omega) (by omega),by repeat with_reducible exact Take.nil⟩);rintro _ _ ⟨rfl,rfl⟩)|(apply zU;exact rfl;exact rfl)|(apply yF;iterate 4 exact rfl)|(apply o_guardF;(iterate 3 exact rfl);all_goals intro hc)|(apply yB;exact rfl)|(apply w_ifN;exact rfl;all_goals intro hc)|(apply w_if;exact rfl;all_goals intro hc)|apply zA|apply zP|apply zI|apply zN|((with_reducible apply Sd.mk);first|exact True.intro|omega|(constructor <;> first|omega|(unfold maxLen;omega)))|((with_reducible apply Ln.mk);first|rfl|omega|(simp ;first|done|omega))|((with_reducible apply Wr.mk);first|exact IntWalk.i64_in _ (by omega))|((with_reducible apply Ce.mk);first|rfl)|((with_reducible apply Se.mk);first|(focus(repeat(first|exact SetAt.zero));done))|((with_reducible apply Su.mk);first|exact zQ)|exact True.intro|intro A|exact rfl)
  ·have hg:¬bgo i w m j (best,cs):=fun h=>h (.inr (by show m≤best;omega))
   (apply zL;(exact(show ResS _ _ _ _ [_] from⟨rfl,trivial⟩));(focus rw[decide_eq_false hg,bst_stop hg];exact⟨rfl,.some _ _ Ac⟩);(focus repeat with_reducible first|exact Take.nil|apply Take.c|apply Take.drop))
  ·have hg:bgo i w m j (best,cs):=by unfold bgo;show ¬(_∨m≤best);omega
   (apply zL;(exact(show ResS _ _ _ _ [_] from⟨rfl,trivial⟩));(focus rw[decide_eq_true hg,bst_same (lcp_ne l m j i best (by push_cast;assumption))];exact⟨rfl,.some _ _ Ac⟩);(focus repeat with_reducible first|exact Take.nil|apply Take.c|apply Take.drop))
  ·have hg:bgo i w m j (best,cs):=by unfold bgo;show ¬(_∨m≤best);omega
   have hlt:best<lcp l j i m:=by exact_mod_cast hc
   (apply zL;(exact(show ResS _ _ _ _ [_] from⟨rfl,trivial⟩));(focus rw[decide_eq_true hg,bst_new hg hlt];exact⟨rfl,.some _ _ Ac⟩);(focus repeat(first|with_reducible exact Take.nil|with_reducible apply Take.c|((with_reducible apply Take.cE);first|exact rfl|(apply blkE;(focus first|exact rfl|exact yI rfl|exact yO rfl|exact congrArg (fun v=>[v]) (gslE rfl rfl (by first|rfl|exact ‹_›|omega|(simp ;first|done|omega)) (by first|rfl|exact ‹_›|omega|(simp ;first|done|omega)) rfl))))|with_reducible apply Take.drop)))
  ·have hg:bgo i w m j (best,cs):=by unfold bgo;show ¬(_∨m≤best);omega
   have hle:lcp l j i m≤best:=by
    have:¬best<lcp l j i m:=by exact_mod_cast hc
    omega
   (apply zL;(exact(show ResS _ _ _ _ [_] from⟨rfl,trivial⟩));(focus rw[decide_eq_true hg,bst_same hle];exact⟨rfl,.some _ _ Ac⟩);(focus repeat with_reducible first|exact Take.nil|apply Take.c|apply Take.drop))
  ·have hg:¬bgo i w m j (best,cs):=fun h=>h (.inl (by assumption))
   (apply zL;(exact(show ResS _ _ _ _ [_] from⟨rfl,trivial⟩));(focus rw[decide_eq_false hg,bst_stop hg];exact⟨rfl,.some _ _ Ac⟩);(focus repeat with_reducible first|exact Take.nil|apply Take.c|apply Take.drop))

theorem brun_len {l:List UInt8}{i:Nat}{w:Int}{m:Nat}:∀{js:List Nat} {s:BS},(brun l i w m js s).2.length≤s.2.length+js.length
 |[],s=>by simp[brun]
 |j::r,s=>by
  unfold brun
  split
  ·have h1:=brun_len (l:=l) (i:=i) (w:=w) (m:=m) (js:=r) (s:=bup l i m j s)
   have h2:(bup l i m j s).2.length≤s.2.length+1:=by unfold bup;split <;> simp
   simp only[List.length_cons];omega
  ·simp

def down :Nat→List Nat
 |0=>[]
 |n+1=>n::down n
theorem down_len :∀n,(down n).length=n
 |0=>rfl
 |n+1=>by simp[down,down_len n]

theorem Candidates1_any (l:List UInt8)(i:Nat)(w:Int)(m n5 n6 n7 n8 n11 n12 n:Nat)(h:SH)(s:BS)(p:SH)(hb:BH l i w m n5 n6 n7 n8 n11 n12 ((n,⟨[I i],false⟩)::h) s p)(h5:l.length≤4096)(hi:i≤4096)(him:i+m≤l.length)(hs:s.2.length=0)(hw:-4611686018427387904≤w) :
  SRun Tryz.prog 109 [.func (.func 110) ⟨[]⟩ ⟨[gptr n6 0 1,gptr n7 0 1,gptr n12 0 1,gptr n8 0 1,gptr n5 0 1,gptr n11 0 1]⟩,gptr n 0 1] p
   fun r q=>BH l i w m n5 n6 n7 n8 n11 n12 ((n,⟨[I i],false⟩)::h) (brun l i w m (down i) s) q:=by
 refine zY Tryz.func109 rfl rfl ?_
 obtain⟨p1,hp1⟩:=hb.pick Pick.head
 repeat'(first|apply zF|apply zB|apply zE|(apply o_g zC;exact rfl;exact rfl)|(apply o_ar zC;exact rfl;exact rfl)|(apply zM zC;(iterate 3 exact rfl);(focus exact pk))|apply zA|apply zH|((with_reducible apply Sd.mk);first|exact True.intro)|((with_reducible apply Ln.mk);first|rfl)|((with_reducible apply Wr.mk);first|exact IntWalk.i64_in _ (by omega))|((with_reducible apply Ce.mk);first|rfl)|exact True.intro|exact rfl)
 refine zZ (S:=Nat × BS × SH) (fun x=>[(0,.func (.func 110) ⟨[]⟩ ⟨[gptr n6 0 1,gptr n7 0 1,gptr n12 0 1,gptr n8 0 1,gptr n5 0 1,gptr n11 0 1]⟩),(1,gptr n 0 1),(3,I (x.1-1))]) (fun x=>x.2.2)
  (fun x=>x.1≤i∧BH l i w m n5 n6 n7 n8 n11 n12 ((n,⟨[I i],false⟩)::h) x.2.1 x.2.2∧brun l i w m (down i) s=brun l i w m (down x.1) x.2.1∧x.2.1.2.length+x.1≤4096) (fun x=>x.1) (i,s,p) ⟨Nat.le_refl _,hb,rfl,by show s.2.length+i≤_;omega⟩ (by repeat'(first|exact trivial|refine⟨rfl,?_⟩|refine⟨congrArg some ?_,?_⟩)) (by repeat with_reducible first|exact Take.nil|apply Take.c|apply Take.drop) ?_
 rintro⟨k,s1,p2⟩ ⟨hk,hb1,he,hl⟩
 simp only at hk hb1 he hl
 cases k with
 |zero =>
  repeat'(first|apply zF|apply zB|apply zE|(apply o_g zC;exact rfl;exact rfl)|(apply yF;iterate 4 exact rfl)|(apply zS;exact rfl)|apply zA|apply zK|apply zJ|apply zV|((with_reducible apply Sd.mk);first|exact True.intro))
  (apply s_finN;(exact(show ResS _ _ _ _ [] from trivial));(focus rw[he];exact hb1);(focus repeat with_reducible first|exact Take.nil|apply Take.c|apply Take.drop))
 |succ q =>
  have e1:((q+1:Nat):Int)-1=q:=by omega
  show SWp _ _ _ _ [_,_,(3,I (((q+1:Nat):Int)-1))] p2
  rw[e1]
  repeat'(first|apply zF|apply zB|apply zE|(apply o_g zC;exact rfl;exact rfl)|(apply o_ar zC;exact rfl;exact rfl)|(apply zD;exact rfl;exact rfl;(focus first|exact rfl);exact rfl;(focus exact⟨_,better1_any l i w m n5 n6 n7 n8 n11 n12 q _ s1 p2 hb1 h5 (by omega) him (by omega) hw,by repeat with_reducible exact Take.nil⟩);rintro _ _ ⟨rfl,hb2⟩)|(apply zU;exact rfl;exact rfl)|(apply w_ifN;exact rfl;all_goals intro hc)|apply zA|apply zK|apply zG|apply zJ|apply zI|apply zV|apply zH|((with_reducible apply Sd.mk);first|exact True.intro)|((with_reducible apply Wr.mk);first|exact IntWalk.i64_in _ (by omega)))
  ·have hg:bgo i w m q s1:=hc
   refine⟨(q,bup l i m q s1,_),⟨by show q≤i;omega,by rw[←show nbst l i w m q s1=bup l i m q s1 from if_pos hg];exact hb2,?_,?_⟩,by show q<q+1;omega,(by repeat'(first|exact trivial|refine⟨rfl,?_⟩|refine⟨congrArg some ?_,?_⟩)),(by repeat with_reducible first|exact Take.nil|apply Take.c|apply Take.drop)⟩
   ·rw[he];exact if_pos hg
   ·have h2:(bup l i m q s1).2.length≤s1.2.length+1:=by unfold bup;split <;> simp
    show(bup l i m q s1).2.length+q≤4096;omega
  ·have hg:¬bgo i w m q s1:=fun h=>h hc
   (apply s_finN;(exact(show ResS _ _ _ _ [] from trivial));(focus rw[he,show brun l i w m (down (q+1)) s1=s1 from if_neg hg,←bst_stop hg];exact hb2);(focus repeat with_reducible first|exact Take.nil|apply Take.c|apply Take.drop))

def bfind (l:List UInt8)(i:Nat)(w m:Int)(js:List Nat):List (Int × Int):=(brun l i w (min m ((l.length:Int)-i)).toNat js (1,[])).2

def IsCs (h:SH)(cs:List (Int × Int))(r:Value)(q:SH):Prop:=(cs=[]∧r=.slice none 0 0∧q=h)∨∃A,r=cpS A cs∧q=(A,cpB cs false)::h

theorem better_any (l:List UInt8)(i:Nat)(w m:Int)(js:List Nat)(f:FuncId)(fc:Array Value)(h:SH)(h5:l.length≤4096)(hi:i≤l.length)(hm:0≤m)(hm2:m≤4611686018427387904)(he:enters Tryz.prog f=true)
  (hit:∀n5 n6 n7 n8 n11 n12 p,BH l i w (min m ((l.length:Int)-i)).toNat n5 n6 n7 n8 n11 n12 h (1,[]) p →
   SRun Tryz.prog f ((#[]:Array Value).toList++[.func (.func 110) ⟨[]⟩ ⟨[gptr n6 0 1,gptr n7 0 1,gptr n12 0 1,gptr n8 0 1,gptr n5 0 1,gptr n11 0 1]⟩]++fc.toList) p
    fun r q=>BH l i w (min m ((l.length:Int)-i)).toNat n5 n6 n7 n8 n11 n12 h (brun l i w (min m ((l.length:Int)-i)).toNat js (1,[])) q) :
  SRun Tryz.prog 69 [S l,I i,I w,I m,.func (.func f) #[] fc] h (IsCs h (bfind l i w m js)):=by
 refine w_body5 Tryz.func69 rfl rfl ?_
 obtain⟨mm,hmm⟩:∃mm:Nat,min m ((l.length:Int)-i)=mm:=⟨(min m ((l.length:Int)-i)).toNat,by omega⟩
 repeat'(first|apply zF|apply zB|apply zE|(apply o_g zC;exact rfl;exact rfl)|(apply o_ar zC;exact rfl;exact rfl)|(apply o_min;iterate 3 exact rfl)|(apply zM zC;(iterate 3 exact rfl);(focus exact pk))|(apply zX zC;(iterate 4 exact rfl);(focus exact up))|(apply yG zC;iterate 5 exact rfl)|(apply o_box (tt:=tyT);iterate 5 exact rfl)|(apply o_makeFunc;iterate 3 exact rfl)|apply zA|((with_reducible apply Sd.mk);first|exact True.intro)|((with_reducible apply Ln.mk);first|rfl)|((with_reducible apply Wr.mk);first|exact IntWalk.i64_in _ (by omega))|((with_reducible apply Ce.mk);first|rfl)|((with_reducible apply Se.mk);first|(focus(repeat(first|exact SetAt.zero));done))|exact True.intro|intro A|exact rfl)
 rw[hmm]at hit ⊢
 simp only[Int.toNat_natCast]at hit
 have hbf:bfind l i w m js=(brun l i w mm js (1,[])).2:=by unfold bfind;rw[hmm];rfl
 rw[hbf]
 (apply zD;exact rfl;exact rfl;exact he;exact rfl;exact⟨_,hit _ _ _ _ _ _ _ (.nil 1),Take.nil⟩)
 intro r q hb2
 generalize hs:brun l i w mm js (1,[])=s at hb2 ⊢
 cases hb2 with
 |nil best =>
  repeat'(first|apply zF|apply zB|apply zE|(apply o_g zC;exact rfl;exact rfl)|(apply zM zC;(iterate 3 exact rfl);(focus exact pk))|apply zA|apply zN|((with_reducible apply Sd.mk);first|exact True.intro)|((with_reducible apply Ln.mk);first|rfl)|((with_reducible apply Ce.mk);first|rfl)|exact True.intro|exact rfl)
  (apply zL;(exact(show ResS _ _ _ _ [_] from⟨rfl,trivial⟩));(focus exact .inl ⟨rfl,rfl,rfl⟩);(focus repeat with_reducible first|exact Take.nil|apply Take.c|apply Take.drop))
 |some best cs A =>
  repeat'(first|apply zF|apply zB|apply zE|(apply o_g zC;exact rfl;exact rfl)|(apply zM zC;(iterate 3 exact rfl);(focus exact pk))|apply zA|apply zN|((with_reducible apply Sd.mk);first|exact True.intro)|((with_reducible apply Ln.mk);first|rfl)|((with_reducible apply Ce.mk);first|rfl)|exact True.intro|exact rfl)
  (apply zL;(exact(show ResS _ _ _ _ [_] from⟨rfl,trivial⟩));(focus exact .inr ⟨A,rfl,rfl⟩);(focus repeat with_reducible first|exact Take.nil|apply Take.c|apply Take.drop))

def cands (l:List UInt8)(i w m:Int):List (Int × Int):=if vld w m∧0≤i∧i≤l.length∧l.length≤4096 then bfind l i.toNat w m (down i.toNat)else []

theorem Candidates_any (l:List UInt8)(i w m:Int)(h:SH)(h5:l.length≤4611686018427387904) :
  SRun Tryz.prog 67 [S l,I i,I w,I m] h (IsCs h (cands l i w m)):=by
 by_cases hc0:vld w m∧0≤i∧i≤l.length∧l.length≤4096
 ·have hv:=hc0.1
  obtain⟨n,rfl⟩:=Int.eq_ofNat_of_zero_le hc0.2.1
  have hc1:=hc0.2.2
  have hcs:cands l n w m=bfind l n w m (down n):=if_pos hc0
  rw[hcs]
  refine w_body4 Tryz.func67 rfl rfl ?_
  clear hc0
  repeat'(first|apply zF|apply zB|apply zE|(apply o_g zC;exact rfl;exact rfl)|(apply o_not;exact rfl;exact rfl)|(apply zM zC;(iterate 3 exact rfl);(focus exact pk))|(apply o_box (tt:=tyT);iterate 5 exact rfl)|(apply o_makeFunc;iterate 3 exact rfl)|(apply zD;exact rfl;exact rfl;(focus first|exact rfl);exact rfl;(focus exact⟨_,valid_any _ _ _,by repeat with_reducible exact Take.nil⟩);rintro _ _ ⟨rfl,rfl⟩)|(apply zD;exact rfl;exact rfl;(focus first|exact rfl);exact rfl;(focus exact⟨_,better_any l n w m (down n) _ _ _ (by omega) (by omega) (by omega) (by omega) rfl (fun n5 n6 n7 n8 n11 n12 p hb=>Candidates1_any l n w _ n5 n6 n7 n8 n11 n12 _ _ (1,[]) p hb (by omega) (by omega) (by omega) rfl (by omega)),by repeat with_reducible exact Take.nil⟩);rintro _ _ hq)|(apply zU;exact rfl;exact rfl)|(apply o_gF;(iterate 3 exact rfl);(focus first|omega))|(apply yD;exact rfl;(focus first|omega))|apply zA|apply zI|apply zN|((with_reducible apply Sd.mk);first|exact True.intro)|((with_reducible apply Ln.mk);first|rfl)|((with_reducible apply Ce.mk);first|rfl)|exact True.intro|intro A|exact rfl)
  rcases hq with⟨e,rfl,rfl⟩|⟨A',rfl,rfl⟩
  ·(apply zL;(exact(show ResS _ _ _ _ [_] from⟨rfl,trivial⟩));(focus exact .inl ⟨e,rfl,rfl⟩);(focus repeat with_reducible first|exact Take.nil|apply Take.c|apply Take.drop))
  ·(apply zL;(exact(show ResS _ _ _ _ [_] from⟨rfl,trivial⟩));(focus exact .inr ⟨A',rfl,rfl⟩);(focus repeat with_reducible first|exact Take.nil|apply Take.c|apply Take.drop))
 ·have hcs:cands l i w m=[]:=if_neg hc0
  rw[hcs]
  refine w_body4 Tryz.func67 rfl rfl ?_
  repeat'(first|apply zF|apply zB|apply zE|(apply o_g zC;exact rfl;exact rfl)|(apply o_not;exact rfl;exact rfl)|(apply zM zC;(iterate 3 exact rfl);(focus exact pk))|(apply o_box (tt:=tyT);iterate 5 exact rfl)|(apply zD;exact rfl;exact rfl;(focus first|exact rfl);exact rfl;(focus exact⟨_,valid_any _ _ _,by repeat with_reducible exact Take.nil⟩);rintro _ _ ⟨rfl,rfl⟩)|(apply zU;exact rfl;exact rfl)|(apply yF;iterate 4 exact rfl)|(apply o_guardFN;(iterate 3 exact rfl);all_goals intro hc)|(apply o_guardF;(iterate 3 exact rfl);all_goals intro hc)|(apply yB;exact rfl)|(apply yC;exact rfl;(focus first|omega))|apply zA|apply zP|apply zN|((with_reducible apply Sd.mk);first|exact True.intro)|((with_reducible apply Ln.mk);first|rfl)|((with_reducible apply Ce.mk);first|rfl)|exact True.intro|intro A|exact rfl)
  all_goals first|(apply zL;(exact(show ResS _ _ _ _ [_] from⟨rfl,trivial⟩));(focus exact .inl ⟨rfl,rfl,rfl⟩);(focus repeat with_reducible first|exact Take.nil|apply Take.c|apply Take.drop))|exact absurd ⟨by assumption,by omega,by omega,by omega⟩ hc0

theorem cands_le (l:List UInt8)(i w m:Int):(cands l i w m).length≤4096:=by
 unfold cands
 split
 ·unfold bfind
  have h1:=brun_len (l:=l) (i:=i.toNat) (w:=w) (m:=(min m ((l.length:Int)-i.toNat)).toNat) (js:=down i.toNat) (s:=(1,[]))
  rw[down_len]at h1
  simp only[List.length_nil,Nat.zero_add]at h1
  omega
 ·simp


theorem lcp_min (l:List UInt8):∀(a b i j:Nat),lcp l i j (min a b)=min (lcp l i j a) b
 |0,b,i,j=>by simp[lcp]
 |a+1,0,i,j=>by simp[lcp]
 |a+1,b+1,i,j=>by
  rw[show min (a+1) (b+1)=min a b+1 by omega]
  unfold lcp
  split
  ·rw[lcp_min l a b (i+1) (j+1)];omega
  ·simp

theorem atd_eq (l:List UInt8)(i d:Nat)(m:Int)(hd:1≤d)(hdi:d≤i)(hi:i≤l.length)(hm:0≤m) :
  atd l i d m=if lcp l (i-d) i (min m ((l.length:Int)-i)).toNat<2 then 0 else(lcp l (i-d) i (min m ((l.length:Int)-i)).toNat:Int):=by
 have e:min (com l ((i:Int)-d) i:Int) m=(lcp l (i-d) i (min m ((l.length:Int)-i)).toNat:Int):=by
  unfold com
  rw[if_pos (by omega),show((i:Int)-d).toNat=i-d by omega,show((i:Int)).toNat=i by omega,show((l.length:Int)-max ((i:Int)-d) i).toNat=l.length-i by omega]
  have:=lcp_min l (l.length-i) m.toNat (i-d) i
  rw[show(min m ((l.length:Int)-i)).toNat=min (l.length-i) m.toNat by omega,this]
  omega
 unfold atd
 rw[if_neg (by omega),e]
 split
 ·rw[if_pos (by omega)]
 ·rw[if_neg (by omega)]

theorem rc_pos (l:List UInt8)(i m:Int)(hm:0≤m):∀d,0≤(rc l i m d).2
 |0=>Int.le_refl _
 |d+1=>by
  have:=rc_pos l i m hm d
  unfold rc;split
  ·show 0≤atd l i (d+1) m;omega
  ·exact this
theorem atd_range (l:List UInt8)(i d m:Int):atd l i d m=0∨2≤atd l i d m:=by unfold atd;repeat' split <;> omega

theorem rc_succ (l:List UInt8)(i m:Int)(d:Nat):rc l i m (d+1)=if(rc l i m d).2<atd l i (d+1) m then((rc l i m d).1++[(atd l i (d+1) m,(d:Int)+1)],atd l i (d+1) m)else rc l i m d:=rfl
theorem rc_stable (l:List UInt8)(i:Nat)(m:Int)(hi:i≤l.length)(hm:0≤m)(d:Nat)(h:min m ((l.length:Int)-i)≤max 1 (rc l i m d).2):∀k,d+k≤i→rc l i m (d+k)=rc l i m d
 |0,_=>rfl
 |k+1,hk=>by
  have ih:=rc_stable l i m hi hm d h k (by omega)
  rw[show d+(k+1)=d+k+1 by omega]
  have hp:=rc_pos l i m hm d
  have ha:=atd_eq l i (d+k+1) m (by omega) (by omega) hi hm
  have hle:=lcp_le l (min m ((l.length:Int)-i)).toNat (i-(d+k+1)) i
  have e:((d+k:Nat):Int)+1=((d+k+1:Nat):Int):=by omega
  rw[rc_succ,ih,e,ha,if_neg]
  split <;> omega

theorem brun_rc (l:List UInt8)(i:Nat)(w m:Int)(hi:i≤l.length)(hm:2≤m)(hw:1≤w):∀(k:Nat) (s:BS),k≤i→((i-k:Nat):Int)≤w→s.2=(rc l i m (i-k)).1→(s.1:Int)=max 1 (rc l i m (i-k)).2 →
  (brun l i w (min m ((l.length:Int)-i)).toNat (down k) s).2=(rc l i m (min w i).toNat).1
 |0,s,hk,hkw,h1,h2=>by
  show s.2=_
  rw[h1,show(min w (i:Int)).toNat=i-0 by omega]
 |k+1,s,hk,hkw,h1,h2=>by
  have ha:=atd_eq l i (i-k) m (by omega) (by omega) hi (by omega)
  rw[show i-(i-k)=k by omega]at ha
  have hstep:rc l i m (i-k)=if(rc l i m (i-(k+1))).2<atd l i (i-k:Nat) m then((rc l i m (i-(k+1))).1++[(atd l i (i-k:Nat) m,((i-k:Nat):Int))],atd l i (i-k:Nat) m)else rc l i m (i-(k+1)):=by
   have e:i-k=i-(k+1)+1:=by omega
   have e2:((i-(k+1):Nat):Int)+1=((i-k:Nat):Int):=by omega
   rw[e,rc_succ,e2,e]
  have hp:=rc_pos l i m (by omega) (i-(k+1))
  by_cases hg:bgo i w (min m ((l.length:Int)-i)).toNat k s
  ·show(if bgo i w (min m ((l.length:Int)-i)).toNat k s then brun l i w (min m ((l.length:Int)-i)).toNat (down k) (bup l i (min m ((l.length:Int)-i)).toNat k s)else s).2=_
   rw[if_pos hg]
   have hg':¬(w<(i:Int)-k∨(min m ((l.length:Int)-i)).toNat≤s.1):=hg
   refine brun_rc l i w m hi hm hw k _ (by omega) (by omega) ?_ ?_
   ·unfold bup
    rw[hstep]
    split
    ·rw[if_pos (by rw[ha,if_neg (by omega)];omega),h1,ha,if_neg (by omega)]
     show _++[(_,(i:Int)-(k:Int))]=_++[(_,((i-k:Nat):Int))]
     rw[show((i-k:Nat):Int)=(i:Int)-k by omega]
    ·rw[if_neg (by rw[ha];split <;> omega)];exact h1
   ·unfold bup
    rw[hstep]
    split
    ·rw[if_pos (by rw[ha,if_neg (by omega)];omega),ha,if_neg (by omega)]
     show((lcp l k i _:Nat):Int)=max 1 ((lcp l k i _:Nat):Int)
     omega
    ·rw[if_neg (by rw[ha];split <;> omega)];exact h2
  ·show(if bgo i w (min m ((l.length:Int)-i)).toNat k s then brun l i w (min m ((l.length:Int)-i)).toNat (down k) (bup l i (min m ((l.length:Int)-i)).toNat k s)else s).2=_
   rw[if_neg hg]
   have hg':w<(i:Int)-k∨(min m ((l.length:Int)-i)).toNat≤s.1:=Classical.not_not.1 hg
   rw[h1]
   by_cases hw2:w<(i:Int)-k
   ·rw[show(min w (i:Int)).toNat=i-(k+1)by omega]
   ·have:=rc_stable l i m hi (by omega) (i-(k+1)) (by omega) ((min w (i:Int)).toNat-(i-(k+1))) (by omega)
    rw[show i-(k+1)+((min w (i:Int)).toNat-(i-(k+1)))=(min w (i:Int)).toNat by omega]at this
    rw[this]

theorem cands_eq (l:List UInt8)(i w m:Int):cands l i w m=rcands l i w m:=by
 unfold cands rcands
 split
 ·rename_i h
  obtain⟨⟨h1,h2,h3,h4⟩,h5,h6,h7⟩:=h
  obtain⟨i,rfl⟩:=Int.eq_ofNat_of_zero_le h5
  have:=brun_rc l i w m (by omega) h3 h1 i (1,[]) (Nat.le_refl _) (by omega) (by simp[rc]) (by simp only[Nat.sub_self,rc];rfl)
  exact this
 ·rfl


theorem rc_in (l:List UInt8)(i m:Int):∀d,0≤(rc l i m d).2∧∀c∈(rc l i m d).1,∃e:Nat,1≤e∧e≤d∧c=(atd l i e m,(e:Int))∧0<c.1
 |0=>⟨Int.le_refl _,fun c h=>nomatch h⟩
 |d+1=>by
  obtain⟨h1,h2⟩:=rc_in l i m d
  unfold rc
  split
  ·rename_i hlt
   refine⟨by show 0≤atd l i (d+1) m;omega,fun c hc=>?_⟩
   rcases List.mem_append.1 hc with hc|hc
   ·obtain⟨e,g1,g2,g3⟩:=h2 c hc
    exact⟨e,g1,by omega,g3⟩
   ·obtain rfl:=List.mem_singleton.1 hc
    exact⟨d+1,by omega,Nat.le_refl _,by push_cast;rfl,by show 0<atd l i (d+1) m;omega⟩
  ·exact⟨h1,fun c hc=>let ⟨e,g1,g2,g3⟩:=h2 c hc;⟨e,g1,by omega,g3⟩⟩
theorem cands_in {l:List UInt8}{i:Nat}{w:Int}{c:Int × Int}(h:c∈cands l i w 273):2≤c.1∧c.1≤273∧1≤c.2∧c.2≤4096∧(i:Int)+c.1≤l.length:=by
 rw[cands_eq]at h
 unfold rcands at h
 split at h
 ·rename_i hv
  obtain⟨e,h1,h2,rfl,h3⟩:=(rc_in l i 273 _).2 c h
  have hcm:(com l ((i:Int)-e) i:Int)≤(l.length:Int)-i:=by
   have:=lcp_le l (l.length-max ((i:Int)-e) i).toNat ((i:Int)-e).toNat (i:Int).toNat
   unfold com
   split <;> omega
  dsimp only at h3 ⊢
  unfold atd at h3 ⊢
  by_cases g1:(e:Int)<1∨(i:Int)<e
  ·rw[if_pos g1]at h3;omega
  ·rw[if_neg g1]at h3 ⊢
   by_cases g2:min (com l ((i:Int)-e) i:Int) 273<2
   ·rw[if_pos g2]at h3;omega
   ·rw[if_neg g2];omega
 ·cases h
def trN (d:Int)(lo:Nat):Nat→List Pc
 |0=>[]
 |n+1=>if lo<n+1 then(((n+1:Nat):Int),d,0)::trN d lo n else []
def shr (cs:List (Int × Int))(k:Nat):Nat:=if 0<k then cs[k-1]!.1.toNat else 1
def trK (cs:List (Int × Int)):Nat→List Pc
 |0=>[]
 |k+1=>trN cs[k]!.2 (shr cs k) cs[k]!.1.toNat++trK cs k
def litP (l:List UInt8)(i:Nat):Pc:=(1,0,bat l i)
def triesL (l:List UInt8)(i:Nat)(w:Int):List Pc:=trK (cands l i w 273) (cands l i w 273).length++[litP l i]
def runT (c:Cst)(i:Nat)(ts:List Pc)(s:Bool × List St):Bool × List St:=ts.foldl (tryS c i) s
def rowT (c:Cst)(l:List UInt8)(w:Int)(i:Nat)(T:List St):List St:=(runT c i (triesL l i w) (false,T)).2
def st0 :St:=(0,0,0,0,0)
def parT (c:Cst)(l:List UInt8)(w:Int):Nat→List St
 |0=>List.replicate (l.length+1) st0
 |j+1=>rowT c l w (l.length-(j+1)) (parT c l w j)
def walkT (T:List St)(n:Nat):Nat→Nat→List Pc
 |0,_=>[]
 |f+1,i=>if i<n then T[i]!.2.2::walkT T n f (i+T[i]!.2.2.1.toNat)else []
def parse (c:Cst)(l:List UInt8)(w:Int):List Pc × Int :=
 if vC c∧1≤w∧w≤4096 then(if 4096<l.length then([],9)else(walkT (parT c l w l.length) l.length l.length 0,0))else([],1)
theorem trN_in {d:Int}{lo:Nat}:∀{n:Nat} {t:Pc},t∈trN d lo n→(lo:Int)<t.1∧t.1≤n∧t.2.1=d∧t.2.2=0
 |0,_,h=>nomatch h
 |n+1,t,h=>by
  unfold trN at h
  split at h
  ·rcases List.mem_cons.1 h with rfl|h
   ·exact⟨by show(lo:Int)<((n+1:Nat):Int);omega,Int.le_refl _,rfl,rfl⟩
   ·have:=trN_in h;exact⟨this.1,by omega,this.2.2⟩
  ·cases h
abbrev fits (l:List UInt8)(i:Nat)(t:Pc):Prop:=vP t∧(i:Int)+t.1≤l.length∧1≤t.1
theorem shr_pos {l:List UInt8}{i:Nat}{w:Int}{k:Nat}(h:k<(cands l i w 273).length):1≤shr (cands l i w 273) k:=by
 unfold shr
 split
 ·have:=cands_in (bang_mem (show k-1<(cands l i w 273).length by omega));omega
 ·omega
theorem trN_fits {l:List UInt8}{i:Nat}{w:Int}{k:Nat}(h:k<(cands l i w 273).length){t:Pc}(ht:t∈trN (cands l i w 273)[k]!.2 (shr (cands l i w 273) k) (cands l i w 273)[k]!.1.toNat):fits l i t:=by
 have h1:=cands_in (bang_mem h)
 have h2:=shr_pos h
 have h3:=trN_in ht
 exact⟨.inr ⟨by omega,by omega,by omega,by omega,h3.2.2.2⟩,by omega,by omega⟩
theorem trK_fits {l:List UInt8}{i:Nat}{w:Int}:∀{k:Nat},k≤(cands l i w 273).length→∀t∈trK (cands l i w 273) k,fits l i t
 |0,_,_,h=>nomatch h
 |k+1,hk,t,h=>by
  rcases List.mem_append.1 h with h|h
  ·exact trN_fits (by omega) h
  ·exact trK_fits (by omega) t h
theorem lit_fits {l:List UInt8}{i:Nat}(h:i<l.length):fits l i (litP l i):=⟨.inl ⟨rfl,rfl⟩,by show(i:Int)+1≤_;omega,Int.le_refl _⟩
def TOk (n:Nat)(T:List St):Prop:=T.length=n+1∧∀j,j≤n→0≤T[j]!.1∧T[j]!.1≤27000*((n:Int)-j)∧0≤T[j]!.2.1∧T[j]!.2.1≤(n:Int)-j
theorem lzset_bang {α:Type}[Inhabited α]{l:List α}{i j:Nat}{x:α}(h:i<l.length):(l.set i x)[j]! = if j=i then x else l[j]!:=by
 simp only[getElem!_def,List.getElem?_set]
 by_cases e:i=j
 ·subst e;rw[if_pos rfl,if_pos h,if_pos rfl]
 ·rw[if_neg e,if_neg (Ne.symm e)]
theorem tryS_ok {c:Cst}{l:List UInt8}{i:Nat}{s:Bool × List St}{t:Pc}(hc:vC c)(h:TOk l.length s.2)(ht:fits l i t):TOk l.length (tryS c i s t).2:=by
 unfold tryS
 split
 ·refine⟨by rw[List.length_set];exact h.1,fun j hj=>?_⟩
  rw[lzset_bang (by have:=h.1;omega)]
  split
  ·rename_i e;subst e
   have h1:=h.2 (j+t.1.toNat) (by omega)
   have h2:=price_in hc ht.1
   unfold nxt;dsimp only
   omega
  ·exact h.2 j hj
 ·exact h
theorem runT_ok {c:Cst}{l:List UInt8}{i:Nat}(hc:vC c):∀{ts:List Pc} {s:Bool × List St},TOk l.length s.2→(∀t∈ts,fits l i t)→TOk l.length (runT c i ts s).2
 |[],_,h,_=>h
 |t::ts,s,h,ht=>runT_ok hc (ts:=ts) (tryS_ok hc h (ht t (by simp))) (fun x hx=>ht x (by simp[hx]))
theorem runT_app (c:Cst)(i:Nat)(a b:List Pc)(s:Bool × List St):runT c i (a++b) s=runT c i b (runT c i a s):=List.foldl_append ..
end Go.Proofs.YteddogfolceahaaGreat
end
