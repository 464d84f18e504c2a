/- Part 4 of the proof of the law TopOrders: texts merged. No condition. -/
import Derived.Test.YteddogfolceahaaGreatDoorZTopOrdersC
import Derived.Test.YteddogfolceahaaGreatDoorProg
import Derived.KernelRfl
set_option linter.unusedSimpArgs false
set_option linter.unusedVariables false
section
namespace Go.Proofs.YteddogfolceahaaGreatDoor
open Go.Gh
@[reducible] def te0 :TE:=⟨.other,1,0,some (.tuple ⟨[]⟩)⟩
theorem ty0 :zO Tryz.prog 0=some te0:=by kernel_rfl
@[reducible] def te1 :TE:=⟨.other,1,8,some (.nilFunc)⟩
theorem ty1 :zO Tryz.prog 1=some te1:=by kernel_rfl
@[reducible] def te2 :TE:=⟨.int .i64,1,8,some (.int .i64 0)⟩
theorem ty2 :zO Tryz.prog 2=some te2:=by kernel_rfl
@[reducible] def te3 :TE:=⟨.int .i64,1,8,some (.int .i64 0)⟩
theorem ty3 :zO Tryz.prog 3=some te3:=by kernel_rfl
@[reducible] def te4 :TE:=⟨.bool,1,1,some (.bool false)⟩
theorem ty4 :zO Tryz.prog 4=some te4:=by kernel_rfl
@[reducible] def te5 :TE:=⟨.int .u8,1,1,some (.int .u8 0)⟩
theorem ty5 :zO Tryz.prog 5=some te5:=by kernel_rfl
@[reducible] def te6 :TE:=⟨.int .u8,1,1,some (.int .u8 0)⟩
theorem ty6 :zO Tryz.prog 6=some te6:=by kernel_rfl
@[reducible] def te7 :TE:=⟨.st [(2,0),(3,1),(4,2),(6,3)],4,24,some (.agg ⟨[.int .i64 0,.int .i64 0,.bool false,.int .u8 0]⟩)⟩
theorem ty7 :zO Tryz.prog 7=some te7:=by kernel_rfl
@[reducible] def te8 :TE:=⟨.st [(2,0),(3,1),(4,2),(6,3)],4,24,some (.agg ⟨[.int .i64 0,.int .i64 0,.bool false,.int .u8 0]⟩)⟩
theorem ty8 :zO Tryz.prog 8=some te8:=by kernel_rfl
@[reducible] def te9 :TE:=⟨.str,1,16,some (.string ⟨⟨[]⟩⟩)⟩
theorem ty9 :zO Tryz.prog 9=some te9:=by kernel_rfl
@[reducible] def te10 :TE:=⟨.str,1,16,some (.string ⟨⟨[]⟩⟩)⟩
theorem ty10 :zO Tryz.prog 10=some te10:=by kernel_rfl
@[reducible] def te11 :TE:=⟨.str,1,16,some (.string ⟨⟨[]⟩⟩)⟩
theorem ty11 :zO Tryz.prog 11=some te11:=by kernel_rfl
@[reducible] def te12 :TE:=⟨.int .u64,1,8,some (.int .u64 0)⟩
theorem ty12 :zO Tryz.prog 12=some te12:=by kernel_rfl
@[reducible] def te13 :TE:=⟨.st [(9,0),(12,1)],2,24,some (.agg ⟨[.string ⟨⟨[]⟩⟩,.int .u64 0]⟩)⟩
theorem ty13 :zO Tryz.prog 13=some te13:=by kernel_rfl
@[reducible] def te14 :TE:=⟨.st [(9,0),(12,1)],2,24,some (.agg ⟨[.string ⟨⟨[]⟩⟩,.int .u64 0]⟩)⟩
theorem ty14 :zO Tryz.prog 14=some te14:=by kernel_rfl
@[reducible] def te15 :TE:=⟨.ptr 321,1,8,some (.pointer none)⟩
theorem ty15 :zO Tryz.prog 15=some te15:=by kernel_rfl
@[reducible] def te16 :TE:=⟨.ptr 324,1,8,some (.pointer none)⟩
theorem ty16 :zO Tryz.prog 16=some te16:=by kernel_rfl
@[reducible] def te17 :TE:=⟨.ptr 331,1,8,some (.pointer none)⟩
theorem ty17 :zO Tryz.prog 17=some te17:=by kernel_rfl
@[reducible] def te18 :TE:=⟨.st [(17,0)],1,8,some (.agg ⟨[.pointer none]⟩)⟩
theorem ty18 :zO Tryz.prog 18=some te18:=by kernel_rfl
@[reducible] def te19 :TE:=⟨.st [(17,0)],1,8,some (.agg ⟨[.pointer none]⟩)⟩
theorem ty19 :zO Tryz.prog 19=some te19:=by kernel_rfl
@[reducible] def te20 :TE:=⟨.other,1,16,some (.nilIface)⟩
theorem ty20 :zO Tryz.prog 20=some te20:=by kernel_rfl
@[reducible] def te21 :TE:=⟨.int .i32,1,4,some (.int .i32 0)⟩
theorem ty21 :zO Tryz.prog 21=some te21:=by kernel_rfl
@[reducible] def te22 :TE:=⟨.other,1,8,some (.nilFunc)⟩
theorem ty22 :zO Tryz.prog 22=some te22:=by kernel_rfl
@[reducible] def te23 :TE:=⟨.other,1,8,some (.nilFunc)⟩
theorem ty23 :zO Tryz.prog 23=some te23:=by kernel_rfl
@[reducible] def te24 :TE:=⟨.int .i64,1,8,some (.int .i64 0)⟩
theorem ty24 :zO Tryz.prog 24=some te24:=by kernel_rfl
@[reducible] def te25 :TE:=⟨.other,1,0,some (.tuple ⟨[.string ⟨⟨[]⟩⟩,.int .i64 0]⟩)⟩
theorem ty25 :zO Tryz.prog 25=some te25:=by kernel_rfl
@[reducible] def te26 :TE:=⟨.other,1,8,some (.nilFunc)⟩
theorem ty26 :zO Tryz.prog 26=some te26:=by kernel_rfl
@[reducible] def te27 :TE:=⟨.other,1,0,some (.tuple ⟨[.int .i64 0,.bool false]⟩)⟩
theorem ty27 :zO Tryz.prog 27=some te27:=by kernel_rfl
@[reducible] def te28 :TE:=⟨.other,1,8,some (.nilFunc)⟩
theorem ty28 :zO Tryz.prog 28=some te28:=by kernel_rfl
@[reducible] def te29 :TE:=⟨.other,1,8,some (.nilFunc)⟩
theorem ty29 :zO Tryz.prog 29=some te29:=by kernel_rfl
@[reducible] def te30 :TE:=⟨.other,1,8,some (.nilFunc)⟩
theorem ty30 :zO Tryz.prog 30=some te30:=by kernel_rfl
@[reducible] def te31 :TE:=⟨.other,1,8,some (.nilFunc)⟩
theorem ty31 :zO Tryz.prog 31=some te31:=by kernel_rfl
@[reducible] def te32 :TE:=⟨.slice 3,1,24,some (.slice none 0 0)⟩
theorem ty32 :zO Tryz.prog 32=some te32:=by kernel_rfl
@[reducible] def te33 :TE:=⟨.slice 9,1,24,some (.slice none 0 0)⟩
theorem ty33 :zO Tryz.prog 33=some te33:=by kernel_rfl
@[reducible] def te34 :TE:=⟨.other,1,8,some (.nilFunc)⟩
theorem ty34 :zO Tryz.prog 34=some te34:=by kernel_rfl
@[reducible] def te35 :TE:=⟨.other,1,8,some (.nilFunc)⟩
theorem ty35 :zO Tryz.prog 35=some te35:=by kernel_rfl
@[reducible] def te36 :TE:=⟨.other,1,8,some (.nilFunc)⟩
theorem ty36 :zO Tryz.prog 36=some te36:=by kernel_rfl
@[reducible] def te37 :TE:=⟨.st [(3,0),(9,1)],2,24,some (.agg ⟨[.int .i64 0,.string ⟨⟨[]⟩⟩]⟩)⟩
theorem ty37 :zO Tryz.prog 37=some te37:=by kernel_rfl
@[reducible] def te38 :TE:=⟨.st [(3,0),(9,1)],2,24,some (.agg ⟨[.int .i64 0,.string ⟨⟨[]⟩⟩]⟩)⟩
theorem ty38 :zO Tryz.prog 38=some te38:=by kernel_rfl
@[reducible] def te39 :TE:=⟨.slice 38,1,24,some (.slice none 0 0)⟩
theorem ty39 :zO Tryz.prog 39=some te39:=by kernel_rfl
@[reducible] def te40 :TE:=⟨.other,1,0,some (.tuple ⟨[.slice none 0 0,.int .i64 0]⟩)⟩
theorem ty40 :zO Tryz.prog 40=some te40:=by kernel_rfl
@[reducible] def te41 :TE:=⟨.other,1,8,some (.nilFunc)⟩
theorem ty41 :zO Tryz.prog 41=some te41:=by kernel_rfl
@[reducible] def te42 :TE:=⟨.other,1,0,some (.tuple ⟨[.slice none 0 0,.int .i64 0]⟩)⟩
theorem ty42 :zO Tryz.prog 42=some te42:=by kernel_rfl
@[reducible] def te43 :TE:=⟨.other,1,8,some (.nilFunc)⟩
theorem ty43 :zO Tryz.prog 43=some te43:=by kernel_rfl
@[reducible] def te44 :TE:=⟨.other,1,0,some (.tuple ⟨[.slice none 0 0,.int .i64 0]⟩)⟩
theorem ty44 :zO Tryz.prog 44=some te44:=by kernel_rfl
@[reducible] def te45 :TE:=⟨.other,1,8,some (.nilFunc)⟩
theorem ty45 :zO Tryz.prog 45=some te45:=by kernel_rfl
@[reducible] def te46 :TE:=⟨.other,1,8,some (.nilFunc)⟩
theorem ty46 :zO Tryz.prog 46=some te46:=by kernel_rfl
@[reducible] def te47 :TE:=⟨.other,1,8,some (.nilFunc)⟩
theorem ty47 :zO Tryz.prog 47=some te47:=by kernel_rfl
@[reducible] def te48 :TE:=⟨.slice 5,1,24,some (.slice none 0 0)⟩
theorem ty48 :zO Tryz.prog 48=some te48:=by kernel_rfl
@[reducible] def te49 :TE:=⟨.int .u64,1,8,some (.int .u64 0)⟩
theorem ty49 :zO Tryz.prog 49=some te49:=by kernel_rfl
@[reducible] def te50 :TE:=⟨.other,1,8,some (.nilFunc)⟩
theorem ty50 :zO Tryz.prog 50=some te50:=by kernel_rfl
@[reducible] def te51 :TE:=⟨.other,1,8,some (.nilFunc)⟩
theorem ty51 :zO Tryz.prog 51=some te51:=by kernel_rfl
@[reducible] def te52 :TE:=⟨.int .u16,1,2,some (.int .u16 0)⟩
theorem ty52 :zO Tryz.prog 52=some te52:=by kernel_rfl
@[reducible] def te53 :TE:=⟨.st [(4,0),(48,1),(3,2)],3,40,some (.agg ⟨[.bool false,.slice none 0 0,.int .i64 0]⟩)⟩
theorem ty53 :zO Tryz.prog 53=some te53:=by kernel_rfl
@[reducible] def te54 :TE:=⟨.st [(4,0),(48,1),(3,2)],3,40,some (.agg ⟨[.bool false,.slice none 0 0,.int .i64 0]⟩)⟩
theorem ty54 :zO Tryz.prog 54=some te54:=by kernel_rfl
@[reducible] def te55 :TE:=⟨.other,1,0,some (.tuple ⟨[.agg ⟨[.bool false,.slice none 0 0,.int .i64 0]⟩,.bool false]⟩)⟩
theorem ty55 :zO Tryz.prog 55=some te55:=by kernel_rfl
@[reducible] def te56 :TE:=⟨.other,1,8,some (.nilFunc)⟩
theorem ty56 :zO Tryz.prog 56=some te56:=by kernel_rfl
@[reducible] def te57 :TE:=⟨.other,1,8,some (.nilFunc)⟩
theorem ty57 :zO Tryz.prog 57=some te57:=by kernel_rfl
@[reducible] def te58 :TE:=⟨.other,1,8,some (.nilFunc)⟩
theorem ty58 :zO Tryz.prog 58=some te58:=by kernel_rfl
@[reducible] def te59 :TE:=⟨.other,1,8,some (.nilFunc)⟩
theorem ty59 :zO Tryz.prog 59=some te59:=by kernel_rfl
@[reducible] def te60 :TE:=⟨.other,1,8,some (.nilFunc)⟩
theorem ty60 :zO Tryz.prog 60=some te60:=by kernel_rfl
@[reducible] def te61 :TE:=⟨.slice 63,1,24,some (.slice none 0 0)⟩
theorem ty61 :zO Tryz.prog 61=some te61:=by kernel_rfl
@[reducible] def te62 :TE:=⟨.other,1,8,some (.nilFunc)⟩
theorem ty62 :zO Tryz.prog 62=some te62:=by kernel_rfl
@[reducible] def te63 :TE:=⟨.other,1,8,some (.nilFunc)⟩
theorem ty63 :zO Tryz.prog 63=some te63:=by kernel_rfl
@[reducible] def te64 :TE:=⟨.other,1,8,some (.nilFunc)⟩
theorem ty64 :zO Tryz.prog 64=some te64:=by kernel_rfl
@[reducible] def te65 :TE:=⟨.other,1,8,some (.nilFunc)⟩
theorem ty65 :zO Tryz.prog 65=some te65:=by kernel_rfl
@[reducible] def te66 :TE:=⟨.other,1,8,some (.nilFunc)⟩
theorem ty66 :zO Tryz.prog 66=some te66:=by kernel_rfl
@[reducible] def te67 :TE:=⟨.other,1,0,some (.tuple ⟨[.agg ⟨[.int .i64 0,.string ⟨⟨[]⟩⟩]⟩,.int .i64 0,.int .i64 0]⟩)⟩
theorem ty67 :zO Tryz.prog 67=some te67:=by kernel_rfl
@[reducible] def te68 :TE:=⟨.other,1,8,some (.nilFunc)⟩
theorem ty68 :zO Tryz.prog 68=some te68:=by kernel_rfl
@[reducible] def te69 :TE:=⟨.other,1,0,some (.tuple ⟨[.slice none 0 0,.bool false]⟩)⟩
theorem ty69 :zO Tryz.prog 69=some te69:=by kernel_rfl
@[reducible] def te70 :TE:=⟨.other,1,8,some (.nilFunc)⟩
theorem ty70 :zO Tryz.prog 70=some te70:=by kernel_rfl
@[reducible] def te71 :TE:=⟨.ptr 114,1,8,some (.pointer none)⟩
theorem ty71 :zO Tryz.prog 71=some te71:=by kernel_rfl
@[reducible] def te72 :TE:=⟨.other,1,8,some (.nilFunc)⟩
theorem ty72 :zO Tryz.prog 72=some te72:=by kernel_rfl
@[reducible] def te73 :TE:=⟨.other,1,8,some (.nilFunc)⟩
theorem ty73 :zO Tryz.prog 73=some te73:=by kernel_rfl
@[reducible] def te74 :TE:=⟨.other,1,0,some (.tuple ⟨[.slice none 0 0,.bool false]⟩)⟩
theorem ty74 :zO Tryz.prog 74=some te74:=by kernel_rfl
@[reducible] def te75 :TE:=⟨.other,1,8,some (.nilFunc)⟩
theorem ty75 :zO Tryz.prog 75=some te75:=by kernel_rfl
@[reducible] def te76 :TE:=⟨.other,1,8,some (.map none)⟩
theorem ty76 :zO Tryz.prog 76=some te76:=by kernel_rfl
@[reducible] def te77 :TE:=⟨.other,1,8,some (.nilFunc)⟩
theorem ty77 :zO Tryz.prog 77=some te77:=by kernel_rfl
@[reducible] def te78 :TE:=⟨.st [(3,0)],1,8,some (.agg ⟨[.int .i64 0]⟩)⟩
theorem ty78 :zO Tryz.prog 78=some te78:=by kernel_rfl
@[reducible] def te79 :TE:=⟨.st [(3,0)],1,8,some (.agg ⟨[.int .i64 0]⟩)⟩
theorem ty79 :zO Tryz.prog 79=some te79:=by kernel_rfl
@[reducible] def te80 :TE:=⟨.st [(4,0),(9,1),(3,2)],3,32,some (.agg ⟨[.bool false,.string ⟨⟨[]⟩⟩,.int .i64 0]⟩)⟩
theorem ty80 :zO Tryz.prog 80=some te80:=by kernel_rfl
@[reducible] def te81 :TE:=⟨.st [(4,0),(9,1),(3,2)],3,32,some (.agg ⟨[.bool false,.string ⟨⟨[]⟩⟩,.int .i64 0]⟩)⟩
theorem ty81 :zO Tryz.prog 81=some te81:=by kernel_rfl
@[reducible] def te82 :TE:=⟨.other,1,0,some (.tuple ⟨[.agg ⟨[.bool false,.string ⟨⟨[]⟩⟩,.int .i64 0]⟩,.bool false]⟩)⟩
theorem ty82 :zO Tryz.prog 82=some te82:=by kernel_rfl
@[reducible] def te83 :TE:=⟨.other,1,8,some (.nilFunc)⟩
theorem ty83 :zO Tryz.prog 83=some te83:=by kernel_rfl
@[reducible] def te84 :TE:=⟨.other,1,8,some (.nilFunc)⟩
theorem ty84 :zO Tryz.prog 84=some te84:=by kernel_rfl
@[reducible] def te85 :TE:=⟨.arr 4 3,4,32,some (.agg ⟨[.int .i64 0,.int .i64 0,.int .i64 0,.int .i64 0]⟩)⟩
theorem ty85 :zO Tryz.prog 85=some te85:=by kernel_rfl
@[reducible] def te86 :TE:=⟨.other,1,8,some (.nilFunc)⟩
theorem ty86 :zO Tryz.prog 86=some te86:=by kernel_rfl
@[reducible] def te87 :TE:=⟨.other,1,8,some (.nilFunc)⟩
theorem ty87 :zO Tryz.prog 87=some te87:=by kernel_rfl
@[reducible] def te88 :TE:=⟨.other,1,8,some (.nilFunc)⟩
theorem ty88 :zO Tryz.prog 88=some te88:=by kernel_rfl
@[reducible] def te89 :TE:=⟨.other,1,8,some (.nilFunc)⟩
theorem ty89 :zO Tryz.prog 89=some te89:=by kernel_rfl
@[reducible] def te90 :TE:=⟨.other,1,8,some (.nilFunc)⟩
theorem ty90 :zO Tryz.prog 90=some te90:=by kernel_rfl
@[reducible] def te91 :TE:=⟨.other,1,8,some (.nilFunc)⟩
theorem ty91 :zO Tryz.prog 91=some te91:=by kernel_rfl
@[reducible] def te92 :TE:=⟨.other,1,8,some (.nilFunc)⟩
theorem ty92 :zO Tryz.prog 92=some te92:=by kernel_rfl
@[reducible] def te93 :TE:=⟨.other,1,8,some (.nilFunc)⟩
theorem ty93 :zO Tryz.prog 93=some te93:=by kernel_rfl
@[reducible] def te94 :TE:=⟨.other,1,8,some (.nilFunc)⟩
theorem ty94 :zO Tryz.prog 94=some te94:=by kernel_rfl
@[reducible] def te95 :TE:=⟨.other,1,8,some (.nilFunc)⟩
theorem ty95 :zO Tryz.prog 95=some te95:=by kernel_rfl
@[reducible] def te96 :TE:=⟨.st [(3,0),(3,1),(3,2),(3,3)],4,32,some (.agg ⟨[.int .i64 0,.int .i64 0,.int .i64 0,.int .i64 0]⟩)⟩
theorem ty96 :zO Tryz.prog 96=some te96:=by kernel_rfl
@[reducible] def te97 :TE:=⟨.st [(3,0),(3,1),(3,2),(3,3)],4,32,some (.agg ⟨[.int .i64 0,.int .i64 0,.int .i64 0,.int .i64 0]⟩)⟩
theorem ty97 :zO Tryz.prog 97=some te97:=by kernel_rfl
@[reducible] def te98 :TE:=⟨.other,1,8,some (.nilFunc)⟩
theorem ty98 :zO Tryz.prog 98=some te98:=by kernel_rfl
@[reducible] def te99 :TE:=⟨.other,1,0,some (.tuple ⟨[.slice none 0 0,.slice none 0 0,.int .i64 0]⟩)⟩
theorem ty99 :zO Tryz.prog 99=some te99:=by kernel_rfl
@[reducible] def te100 :TE:=⟨.other,1,8,some (.nilFunc)⟩
theorem ty100 :zO Tryz.prog 100=some te100:=by kernel_rfl
@[reducible] def te101 :TE:=⟨.other,1,8,some (.nilFunc)⟩
theorem ty101 :zO Tryz.prog 101=some te101:=by kernel_rfl
@[reducible] def te102 :TE:=⟨.other,1,8,some (.nilFunc)⟩
theorem ty102 :zO Tryz.prog 102=some te102:=by kernel_rfl
@[reducible] def te103 :TE:=⟨.other,1,8,some (.nilFunc)⟩
theorem ty103 :zO Tryz.prog 103=some te103:=by kernel_rfl
@[reducible] def te104 :TE:=⟨.other,1,0,some (.tuple ⟨[.string ⟨⟨[]⟩⟩,.bool false]⟩)⟩
theorem ty104 :zO Tryz.prog 104=some te104:=by kernel_rfl
@[reducible] def te105 :TE:=⟨.other,1,8,some (.nilFunc)⟩
theorem ty105 :zO Tryz.prog 105=some te105:=by kernel_rfl
@[reducible] def te106 :TE:=⟨.other,1,8,some (.map none)⟩
theorem ty106 :zO Tryz.prog 106=some te106:=by kernel_rfl
@[reducible] def te107 :TE:=⟨.other,1,8,some (.nilFunc)⟩
theorem ty107 :zO Tryz.prog 107=some te107:=by kernel_rfl
@[reducible] def te108 :TE:=⟨.other,1,0,some (.tuple ⟨[.agg ⟨[.int .i64 0,.string ⟨⟨[]⟩⟩]⟩,.int .i64 0,.bool false,.bool false]⟩)⟩
theorem ty108 :zO Tryz.prog 108=some te108:=by kernel_rfl
@[reducible] def te109 :TE:=⟨.other,1,8,some (.nilFunc)⟩
theorem ty109 :zO Tryz.prog 109=some te109:=by kernel_rfl
@[reducible] def te110 :TE:=⟨.other,1,8,some (.nilFunc)⟩
theorem ty110 :zO Tryz.prog 110=some te110:=by kernel_rfl
@[reducible] def te111 :TE:=⟨.other,1,8,some (.nilFunc)⟩
theorem ty111 :zO Tryz.prog 111=some te111:=by kernel_rfl
@[reducible] def te112 :TE:=⟨.other,1,8,some (.nilFunc)⟩
theorem ty112 :zO Tryz.prog 112=some te112:=by kernel_rfl
@[reducible] def te113 :TE:=⟨.st [(9,0),(24,1)],2,24,some (.agg ⟨[.string ⟨⟨[]⟩⟩,.int .i64 0]⟩)⟩
theorem ty113 :zO Tryz.prog 113=some te113:=by kernel_rfl
@[reducible] def te114 :TE:=⟨.st [(9,0),(24,1)],2,24,some (.agg ⟨[.string ⟨⟨[]⟩⟩,.int .i64 0]⟩)⟩
theorem ty114 :zO Tryz.prog 114=some te114:=by kernel_rfl
@[reducible] def te115 :TE:=⟨.other,1,8,some (.nilFunc)⟩
theorem ty115 :zO Tryz.prog 115=some te115:=by kernel_rfl
@[reducible] def te116 :TE:=⟨.other,1,8,some (.nilFunc)⟩
theorem ty116 :zO Tryz.prog 116=some te116:=by kernel_rfl
@[reducible] def te117 :TE:=⟨.other,1,8,some (.nilFunc)⟩
theorem ty117 :zO Tryz.prog 117=some te117:=by kernel_rfl
@[reducible] def te118 :TE:=⟨.other,1,8,some (.nilFunc)⟩
theorem ty118 :zO Tryz.prog 118=some te118:=by kernel_rfl
@[reducible] def te119 :TE:=⟨.other,1,8,some (.nilFunc)⟩
theorem ty119 :zO Tryz.prog 119=some te119:=by kernel_rfl
@[reducible] def te120 :TE:=⟨.other,1,0,some (.tuple ⟨[.int .u64 0,.int .u64 0]⟩)⟩
theorem ty120 :zO Tryz.prog 120=some te120:=by kernel_rfl
@[reducible] def te121 :TE:=⟨.other,1,8,some (.nilFunc)⟩
theorem ty121 :zO Tryz.prog 121=some te121:=by kernel_rfl
@[reducible] def te122 :TE:=⟨.other,1,8,some (.nilFunc)⟩
theorem ty122 :zO Tryz.prog 122=some te122:=by kernel_rfl
@[reducible] def te123 :TE:=⟨.ptr 125,1,8,some (.pointer none)⟩
theorem ty123 :zO Tryz.prog 123=some te123:=by kernel_rfl
@[reducible] def te124 :TE:=⟨.st [(123,0),(48,1)],2,32,some (.agg ⟨[.pointer none,.slice none 0 0]⟩)⟩
theorem ty124 :zO Tryz.prog 124=some te124:=by kernel_rfl
@[reducible] def te125 :TE:=⟨.st [(123,0),(48,1)],2,32,some (.agg ⟨[.pointer none,.slice none 0 0]⟩)⟩
theorem ty125 :zO Tryz.prog 125=some te125:=by kernel_rfl
@[reducible] def te126 :TE:=⟨.other,1,8,some (.nilFunc)⟩
theorem ty126 :zO Tryz.prog 126=some te126:=by kernel_rfl
@[reducible] def te127 :TE:=⟨.other,1,16,some (.nilIface)⟩
theorem ty127 :zO Tryz.prog 127=some te127:=by kernel_rfl
@[reducible] def te128 :TE:=⟨.other,1,16,some (.nilIface)⟩
theorem ty128 :zO Tryz.prog 128=some te128:=by kernel_rfl
@[reducible] def te129 :TE:=⟨.other,1,0,some (.tuple ⟨[.int .i64 0,.nilIface]⟩)⟩
theorem ty129 :zO Tryz.prog 129=some te129:=by kernel_rfl
@[reducible] def te130 :TE:=⟨.other,1,8,some (.nilFunc)⟩
theorem ty130 :zO Tryz.prog 130=some te130:=by kernel_rfl
@[reducible] def te131 :TE:=⟨.other,1,8,some (.nilFunc)⟩
theorem ty131 :zO Tryz.prog 131=some te131:=by kernel_rfl
@[reducible] def te132 :TE:=⟨.other,1,8,some (.nilFunc)⟩
theorem ty132 :zO Tryz.prog 132=some te132:=by kernel_rfl
@[reducible] def te133 :TE:=⟨.other,1,8,some (.nilFunc)⟩
theorem ty133 :zO Tryz.prog 133=some te133:=by kernel_rfl
@[reducible] def te134 :TE:=⟨.other,1,8,some (.nilFunc)⟩
theorem ty134 :zO Tryz.prog 134=some te134:=by kernel_rfl
@[reducible] def te135 :TE:=⟨.other,1,8,some (.nilFunc)⟩
theorem ty135 :zO Tryz.prog 135=some te135:=by kernel_rfl
@[reducible] def te136 :TE:=⟨.ptr 201,1,8,some (.pointer none)⟩
theorem ty136 :zO Tryz.prog 136=some te136:=by kernel_rfl
@[reducible] def te137 :TE:=⟨.other,1,8,some (.nilFunc)⟩
theorem ty137 :zO Tryz.prog 137=some te137:=by kernel_rfl
@[reducible] def te138 :TE:=⟨.other,1,8,some (.nilFunc)⟩
theorem ty138 :zO Tryz.prog 138=some te138:=by kernel_rfl
@[reducible] def te139 :TE:=⟨.other,1,8,some (.nilFunc)⟩
theorem ty139 :zO Tryz.prog 139=some te139:=by kernel_rfl
@[reducible] def te140 :TE:=⟨.other,1,8,some (.nilFunc)⟩
theorem ty140 :zO Tryz.prog 140=some te140:=by kernel_rfl
@[reducible] def te141 :TE:=⟨.other,1,8,some (.nilFunc)⟩
theorem ty141 :zO Tryz.prog 141=some te141:=by kernel_rfl
@[reducible] def te142 :TE:=⟨.slice 153,1,24,some (.slice none 0 0)⟩
theorem ty142 :zO Tryz.prog 142=some te142:=by kernel_rfl
@[reducible] def te143 :TE:=⟨.other,1,0,some (.tuple ⟨[.slice none 0 0,.int .i64 0]⟩)⟩
theorem ty143 :zO Tryz.prog 143=some te143:=by kernel_rfl
@[reducible] def te144 :TE:=⟨.other,1,8,some (.nilFunc)⟩
theorem ty144 :zO Tryz.prog 144=some te144:=by kernel_rfl
@[reducible] def te145 :TE:=⟨.ptr 197,1,8,some (.pointer none)⟩
theorem ty145 :zO Tryz.prog 145=some te145:=by kernel_rfl
@[reducible] def te146 :TE:=⟨.ptr 230,1,8,some (.pointer none)⟩
theorem ty146 :zO Tryz.prog 146=some te146:=by kernel_rfl
@[reducible] def te147 :TE:=⟨.st [(145,0),(146,1),(136,2),(136,3)],4,32,some (.agg ⟨[.pointer none,.pointer none,.pointer none,.pointer none]⟩)⟩
theorem ty147 :zO Tryz.prog 147=some te147:=by kernel_rfl
@[reducible] def te148 :TE:=⟨.st [(145,0),(146,1),(136,2),(136,3)],4,32,some (.agg ⟨[.pointer none,.pointer none,.pointer none,.pointer none]⟩)⟩
theorem ty148 :zO Tryz.prog 148=some te148:=by kernel_rfl
@[reducible] def te149 :TE:=⟨.other,1,8,some (.nilFunc)⟩
theorem ty149 :zO Tryz.prog 149=some te149:=by kernel_rfl
@[reducible] def te150 :TE:=⟨.ptr 226,1,8,some (.pointer none)⟩
theorem ty150 :zO Tryz.prog 150=some te150:=by kernel_rfl
@[reducible] def te151 :TE:=⟨.other,1,8,some (.nilFunc)⟩
theorem ty151 :zO Tryz.prog 151=some te151:=by kernel_rfl
@[reducible] def te152 :TE:=⟨.st [(3,0),(3,1),(5,2)],3,24,some (.agg ⟨[.int .i64 0,.int .i64 0,.int .u8 0]⟩)⟩
theorem ty152 :zO Tryz.prog 152=some te152:=by kernel_rfl
@[reducible] def te153 :TE:=⟨.st [(3,0),(3,1),(5,2)],3,24,some (.agg ⟨[.int .i64 0,.int .i64 0,.int .u8 0]⟩)⟩
theorem ty153 :zO Tryz.prog 153=some te153:=by kernel_rfl
@[reducible] def te154 :TE:=⟨.other,1,8,some (.nilFunc)⟩
theorem ty154 :zO Tryz.prog 154=some te154:=by kernel_rfl
@[reducible] def te155 :TE:=⟨.other,1,8,some (.nilFunc)⟩
theorem ty155 :zO Tryz.prog 155=some te155:=by kernel_rfl
@[reducible] def te156 :TE:=⟨.other,1,8,some (.nilFunc)⟩
theorem ty156 :zO Tryz.prog 156=some te156:=by kernel_rfl
@[reducible] def te157 :TE:=⟨.int .u32,1,4,some (.int .u32 0)⟩
theorem ty157 :zO Tryz.prog 157=some te157:=by kernel_rfl
@[reducible] def te158 :TE:=⟨.other,1,8,some (.nilFunc)⟩
theorem ty158 :zO Tryz.prog 158=some te158:=by kernel_rfl
@[reducible] def te159 :TE:=⟨.other,1,8,some (.nilFunc)⟩
theorem ty159 :zO Tryz.prog 159=some te159:=by kernel_rfl
@[reducible] def te160 :TE:=⟨.other,1,8,some (.nilFunc)⟩
theorem ty160 :zO Tryz.prog 160=some te160:=by kernel_rfl
@[reducible] def te161 :TE:=⟨.other,1,8,some (.nilFunc)⟩
theorem ty161 :zO Tryz.prog 161=some te161:=by kernel_rfl
@[reducible] def te162 :TE:=⟨.other,1,8,some (.nilFunc)⟩
theorem ty162 :zO Tryz.prog 162=some te162:=by kernel_rfl
@[reducible] def te163 :TE:=⟨.other,1,8,some (.nilFunc)⟩
theorem ty163 :zO Tryz.prog 163=some te163:=by kernel_rfl
@[reducible] def te164 :TE:=⟨.other,1,8,some (.nilFunc)⟩
theorem ty164 :zO Tryz.prog 164=some te164:=by kernel_rfl
@[reducible] def te165 :TE:=⟨.other,1,0,some (.tuple ⟨[.int .i64 0,.int .i64 0,.bool false]⟩)⟩
theorem ty165 :zO Tryz.prog 165=some te165:=by kernel_rfl
@[reducible] def te166 :TE:=⟨.other,1,8,some (.nilFunc)⟩
theorem ty166 :zO Tryz.prog 166=some te166:=by kernel_rfl
@[reducible] def te167 :TE:=⟨.ptr 241,1,8,some (.pointer none)⟩
theorem ty167 :zO Tryz.prog 167=some te167:=by kernel_rfl
@[reducible] def te168 :TE:=⟨.other,1,0,some (.tuple ⟨[.pointer none,.int .i64 0]⟩)⟩
theorem ty168 :zO Tryz.prog 168=some te168:=by kernel_rfl
@[reducible] def te169 :TE:=⟨.other,1,8,some (.nilFunc)⟩
theorem ty169 :zO Tryz.prog 169=some te169:=by kernel_rfl
@[reducible] def te170 :TE:=⟨.other,1,0,some (.tuple ⟨[.int .i64 0,.int .i64 0]⟩)⟩
theorem ty170 :zO Tryz.prog 170=some te170:=by kernel_rfl
@[reducible] def te171 :TE:=⟨.other,1,8,some (.nilFunc)⟩
theorem ty171 :zO Tryz.prog 171=some te171:=by kernel_rfl
@[reducible] def te172 :TE:=⟨.other,1,0,some (.tuple ⟨[.int .u8 0,.bool false]⟩)⟩
theorem ty172 :zO Tryz.prog 172=some te172:=by kernel_rfl
@[reducible] def te173 :TE:=⟨.other,1,8,some (.nilFunc)⟩
theorem ty173 :zO Tryz.prog 173=some te173:=by kernel_rfl
@[reducible] def te174 :TE:=⟨.other,1,8,some (.nilFunc)⟩
theorem ty174 :zO Tryz.prog 174=some te174:=by kernel_rfl
@[reducible] def te175 :TE:=⟨.other,1,8,some (.map none)⟩
theorem ty175 :zO Tryz.prog 175=some te175:=by kernel_rfl
@[reducible] def te176 :TE:=⟨.other,1,8,some (.nilFunc)⟩
theorem ty176 :zO Tryz.prog 176=some te176:=by kernel_rfl
@[reducible] def te177 :TE:=⟨.other,1,8,some (.nilFunc)⟩
theorem ty177 :zO Tryz.prog 177=some te177:=by kernel_rfl
@[reducible] def te178 :TE:=⟨.other,1,8,some (.nilFunc)⟩
theorem ty178 :zO Tryz.prog 178=some te178:=by kernel_rfl
@[reducible] def te179 :TE:=⟨.other,1,0,some (.tuple ⟨[.int .u32 0,.int .u32 0]⟩)⟩
theorem ty179 :zO Tryz.prog 179=some te179:=by kernel_rfl
@[reducible] def te180 :TE:=⟨.other,1,8,some (.nilFunc)⟩
theorem ty180 :zO Tryz.prog 180=some te180:=by kernel_rfl
@[reducible] def te181 :TE:=⟨.int .u64,1,8,some (.int .u64 0)⟩
theorem ty181 :zO Tryz.prog 181=some te181:=by kernel_rfl
@[reducible] def te182 :TE:=⟨.other,1,0,some (.tuple ⟨[.int .u64 0,.int .u64 0]⟩)⟩
theorem ty182 :zO Tryz.prog 182=some te182:=by kernel_rfl
@[reducible] def te183 :TE:=⟨.other,1,8,some (.nilFunc)⟩
theorem ty183 :zO Tryz.prog 183=some te183:=by kernel_rfl
@[reducible] def te184 :TE:=⟨.ptr 5,1,8,some (.pointer none)⟩
theorem ty184 :zO Tryz.prog 184=some te184:=by kernel_rfl
@[reducible] def te185 :TE:=⟨.other,1,8,some (.nilFunc)⟩
theorem ty185 :zO Tryz.prog 185=some te185:=by kernel_rfl
@[reducible] def te186 :TE:=⟨.other,1,8,some (.nilFunc)⟩
theorem ty186 :zO Tryz.prog 186=some te186:=by kernel_rfl
@[reducible] def te187 :TE:=⟨.arr 256 4,256,256,some (.agg ⟨[.bool false,.bool false,.bool false,.bool false,.bool false,.bool false,.bool false,.bool false,.bool false,.bool false,.bool false,.bool false,.bool false,.bool false,.bool false,.bool false,.bool false,.bool false,.bool false,.bool false,.bool false,.bool false,.bool false,.bool false,.bool false,.bool false,.bool false,.bool false,.bool false,.bool false,.bool false,.bool false,.bool false,.bool false,.bool false,.bool false,.bool false,.bool false,.bool false,.bool false,.bool false,.bool false,.bool false,.bool false,.bool false,.bool false,.bool false,.bool false,.bool false,.bool false,.bool false,.bool false,.bool false,.bool false,.bool false,.bool false,.bool false,.bool false,.bool false,.bool false,.bool false,.bool false,.bool false,.bool false,.bool false,.bool false,.bool false,.bool false,.bool false,.bool false,.bool false,.bool false,.bool false,.bool false,.bool false,.bool false,.bool false,.bool false,.bool false,.bool false,.bool false,.bool false,.bool false,.bool false,.bool false,.bool false,.bool false,.bool false,.bool false,.bool false,.bool false,.bool false,.bool false,.bool false,.bool false,.bool false,.bool false,.bool false,.bool false,.bool false,.bool false,.bool false,.bool false,.bool false,.bool false,.bool false,.bool false,.bool false,.bool false,.bool false,.bool false,.bool false,.bool false,.bool false,.bool false,.bool false,.bool false,.bool false,.bool false,.bool false,.bool false,.bool false,.bool false,.bool false,.bool false,.bool false,.bool false,.bool false,.bool false,.bool false,.bool false,.bool false,.bool false,.bool false,.bool false,.bool false,.bool false,.bool false,.bool false,.bool false,.bool false,.bool false,.bool false,.bool false,.bool false,.bool false,.bool false,.bool false,.bool false,.bool false,.bool false,.bool false,.bool false,.bool false,.bool false,.bool false,.bool false,.bool false,.bool false,.bool false,.bool false,.bool false,.bool false,.bool false,.bool false,.bool false,.bool false,.bool false,.bool false,.bool false,.bool false,.bool false,.bool false,.bool false,.bool false,.bool false,.bool false,.bool false,.bool false,.bool false,.bool false,.bool false,.bool false,.bool false,.bool false,.bool false,.bool false,.bool false,.bool false,.bool false,.bool false,.bool false,.bool false,.bool false,.bool false,.bool false,.bool false,.bool false,.bool false,.bool false,.bool false,.bool false,.bool false,.bool false,.bool false,.bool false,.bool false,.bool false,.bool false,.bool false,.bool false,.bool false,.bool false,.bool false,.bool false,.bool false,.bool false,.bool false,.bool false,.bool false,.bool false,.bool false,.bool false,.bool false,.bool false,.bool false,.bool false,.bool false,.bool false,.bool false,.bool false,.bool false,.bool false,.bool false,.bool false,.bool false,.bool false,.bool false,.bool false,.bool false,.bool false,.bool false,.bool false,.bool false,.bool false,.bool false,.bool false,.bool false,.bool false,.bool false,.bool false,.bool false,.bool false,.bool false,.bool false,.bool false]⟩)⟩
theorem ty187 :zO Tryz.prog 187=some te187:=by kernel_rfl
@[reducible] def te188 :TE:=⟨.arr 256 4,256,256,some (.agg ⟨[.bool false,.bool false,.bool false,.bool false,.bool false,.bool false,.bool false,.bool false,.bool false,.bool false,.bool false,.bool false,.bool false,.bool false,.bool false,.bool false,.bool false,.bool false,.bool false,.bool false,.bool false,.bool false,.bool false,.bool false,.bool false,.bool false,.bool false,.bool false,.bool false,.bool false,.bool false,.bool false,.bool false,.bool false,.bool false,.bool false,.bool false,.bool false,.bool false,.bool false,.bool false,.bool false,.bool false,.bool false,.bool false,.bool false,.bool false,.bool false,.bool false,.bool false,.bool false,.bool false,.bool false,.bool false,.bool false,.bool false,.bool false,.bool false,.bool false,.bool false,.bool false,.bool false,.bool false,.bool false,.bool false,.bool false,.bool false,.bool false,.bool false,.bool false,.bool false,.bool false,.bool false,.bool false,.bool false,.bool false,.bool false,.bool false,.bool false,.bool false,.bool false,.bool false,.bool false,.bool false,.bool false,.bool false,.bool false,.bool false,.bool false,.bool false,.bool false,.bool false,.bool false,.bool false,.bool false,.bool false,.bool false,.bool false,.bool false,.bool false,.bool false,.bool false,.bool false,.bool false,.bool false,.bool false,.bool false,.bool false,.bool false,.bool false,.bool false,.bool false,.bool false,.bool false,.bool false,.bool false,.bool false,.bool false,.bool false,.bool false,.bool false,.bool false,.bool false,.bool false,.bool false,.bool false,.bool false,.bool false,.bool false,.bool false,.bool false,.bool false,.bool false,.bool false,.bool false,.bool false,.bool false,.bool false,.bool false,.bool false,.bool false,.bool false,.bool false,.bool false,.bool false,.bool false,.bool false,.bool false,.bool false,.bool false,.bool false,.bool false,.bool false,.bool false,.bool false,.bool false,.bool false,.bool false,.bool false,.bool false,.bool false,.bool false,.bool false,.bool false,.bool false,.bool false,.bool false,.bool false,.bool false,.bool false,.bool false,.bool false,.bool false,.bool false,.bool false,.bool false,.bool false,.bool false,.bool false,.bool false,.bool false,.bool false,.bool false,.bool false,.bool false,.bool false,.bool false,.bool false,.bool false,.bool false,.bool false,.bool false,.bool false,.bool false,.bool false,.bool false,.bool false,.bool false,.bool false,.bool false,.bool false,.bool false,.bool false,.bool false,.bool false,.bool false,.bool false,.bool false,.bool false,.bool false,.bool false,.bool false,.bool false,.bool false,.bool false,.bool false,.bool false,.bool false,.bool false,.bool false,.bool false,.bool false,.bool false,.bool false,.bool false,.bool false,.bool false,.bool false,.bool false,.bool false,.bool false,.bool false,.bool false,.bool false,.bool false,.bool false,.bool false,.bool false,.bool false,.bool false,.bool false,.bool false,.bool false,.bool false,.bool false,.bool false,.bool false,.bool false,.bool false,.bool false,.bool false,.bool false,.bool false,.bool false,.bool false,.bool false]⟩)⟩
theorem ty188 :zO Tryz.prog 188=some te188:=by kernel_rfl
@[reducible] def te189 :TE:=⟨.other,1,0,some (.tuple ⟨[.agg ⟨[.bool false,.bool false,.bool false,.bool false,.bool false,.bool false,.bool false,.bool false,.bool false,.bool false,.bool false,.bool false,.bool false,.bool false,.bool false,.bool false,.bool false,.bool false,.bool false,.bool false,.bool false,.bool false,.bool false,.bool false,.bool false,.bool false,.bool false,.bool false,.bool false,.bool false,.bool false,.bool false,.bool false,.bool false,.bool false,.bool false,.bool false,.bool false,.bool false,.bool false,.bool false,.bool false,.bool false,.bool false,.bool false,.bool false,.bool false,.bool false,.bool false,.bool false,.bool false,.bool false,.bool false,.bool false,.bool false,.bool false,.bool false,.bool false,.bool false,.bool false,.bool false,.bool false,.bool false,.bool false,.bool false,.bool false,.bool false,.bool false,.bool false,.bool false,.bool false,.bool false,.bool false,.bool false,.bool false,.bool false,.bool false,.bool false,.bool false,.bool false,.bool false,.bool false,.bool false,.bool false,.bool false,.bool false,.bool false,.bool false,.bool false,.bool false,.bool false,.bool false,.bool false,.bool false,.bool false,.bool false,.bool false,.bool false,.bool false,.bool false,.bool false,.bool false,.bool false,.bool false,.bool false,.bool false,.bool false,.bool false,.bool false,.bool false,.bool false,.bool false,.bool false,.bool false,.bool false,.bool false,.bool false,.bool false,.bool false,.bool false,.bool false,.bool false,.bool false,.bool false,.bool false,.bool false,.bool false,.bool false,.bool false,.bool false,.bool false,.bool false,.bool false,.bool false,.bool false,.bool false,.bool false,.bool false,.bool false,.bool false,.bool false,.bool false,.bool false,.bool false,.bool false,.bool false,.bool false,.bool false,.bool false,.bool false,.bool false,.bool false,.bool false,.bool false,.bool false,.bool false,.bool false,.bool false,.bool false,.bool false,.bool false,.bool false,.bool false,.bool false,.bool false,.bool false,.bool false,.bool false,.bool false,.bool false,.bool false,.bool false,.bool false,.bool false,.bool false,.bool false,.bool false,.bool false,.bool false,.bool false,.bool false,.bool false,.bool false,.bool false,.bool false,.bool false,.bool false,.bool false,.bool false,.bool false,.bool false,.bool false,.bool false,.bool false,.bool false,.bool false,.bool false,.bool false,.bool false,.bool false,.bool false,.bool false,.bool false,.bool false,.bool false,.bool false,.bool false,.bool false,.bool false,.bool false,.bool false,.bool false,.bool false,.bool false,.bool false,.bool false,.bool false,.bool false,.bool false,.bool false,.bool false,.bool false,.bool false,.bool false,.bool false,.bool false,.bool false,.bool false,.bool false,.bool false,.bool false,.bool false,.bool false,.bool false,.bool false,.bool false,.bool false,.bool false,.bool false,.bool false,.bool false,.bool false,.bool false,.bool false,.bool false,.bool false,.bool false,.bool false,.bool false,.bool false,.bool false,.bool false,.bool false,.bool false,.bool false,.bool false]⟩,.bool false]⟩)⟩
theorem ty189 :zO Tryz.prog 189=some te189:=by kernel_rfl
@[reducible] def te190 :TE:=⟨.other,1,8,some (.nilFunc)⟩
theorem ty190 :zO Tryz.prog 190=some te190:=by kernel_rfl
@[reducible] def te191 :TE:=⟨.other,1,8,some (.nilFunc)⟩
theorem ty191 :zO Tryz.prog 191=some te191:=by kernel_rfl
@[reducible] def te192 :TE:=⟨.ptr 188,1,8,some (.pointer none)⟩
theorem ty192 :zO Tryz.prog 192=some te192:=by kernel_rfl
@[reducible] def te193 :TE:=⟨.other,1,8,some (.nilFunc)⟩
theorem ty193 :zO Tryz.prog 193=some te193:=by kernel_rfl
@[reducible] def te194 :TE:=⟨.other,1,16,some (.nilIface)⟩
theorem ty194 :zO Tryz.prog 194=some te194:=by kernel_rfl
@[reducible] def te195 :TE:=⟨.other,1,16,some (.nilIface)⟩
theorem ty195 :zO Tryz.prog 195=some te195:=by kernel_rfl
@[reducible] def te196 :TE:=⟨.st [(3,0),(32,1)],2,32,some (.agg ⟨[.int .i64 0,.slice none 0 0]⟩)⟩
theorem ty196 :zO Tryz.prog 196=some te196:=by kernel_rfl
@[reducible] def te197 :TE:=⟨.st [(3,0),(32,1)],2,32,some (.agg ⟨[.int .i64 0,.slice none 0 0]⟩)⟩
theorem ty197 :zO Tryz.prog 197=some te197:=by kernel_rfl
@[reducible] def te198 :TE:=⟨.slice 197,1,24,some (.slice none 0 0)⟩
theorem ty198 :zO Tryz.prog 198=some te198:=by kernel_rfl
@[reducible] def te199 :TE:=⟨.other,1,8,some (.nilFunc)⟩
theorem ty199 :zO Tryz.prog 199=some te199:=by kernel_rfl
@[reducible] def te200 :TE:=⟨.st [(197,0)],2,32,some (.agg ⟨[.int .i64 0,.slice none 0 0]⟩)⟩
theorem ty200 :zO Tryz.prog 200=some te200:=by kernel_rfl
@[reducible] def te201 :TE:=⟨.st [(197,0)],2,32,some (.agg ⟨[.int .i64 0,.slice none 0 0]⟩)⟩
theorem ty201 :zO Tryz.prog 201=some te201:=by kernel_rfl
@[reducible] def te202 :TE:=⟨.other,1,8,some (.nilFunc)⟩
theorem ty202 :zO Tryz.prog 202=some te202:=by kernel_rfl
@[reducible] def te203 :TE:=⟨.other,1,8,some (.nilFunc)⟩
theorem ty203 :zO Tryz.prog 203=some te203:=by kernel_rfl
@[reducible] def te204 :TE:=⟨.other,1,8,some (.nilFunc)⟩
theorem ty204 :zO Tryz.prog 204=some te204:=by kernel_rfl
@[reducible] def te205 :TE:=⟨.other,1,8,some (.nilFunc)⟩
theorem ty205 :zO Tryz.prog 205=some te205:=by kernel_rfl
@[reducible] def te206 :TE:=⟨.slice 209,1,24,some (.slice none 0 0)⟩
theorem ty206 :zO Tryz.prog 206=some te206:=by kernel_rfl
@[reducible] def te207 :TE:=⟨.other,1,8,some (.nilFunc)⟩
theorem ty207 :zO Tryz.prog 207=some te207:=by kernel_rfl
@[reducible] def te208 :TE:=⟨.st [(3,0),(3,1)],2,16,some (.agg ⟨[.int .i64 0,.int .i64 0]⟩)⟩
theorem ty208 :zO Tryz.prog 208=some te208:=by kernel_rfl
@[reducible] def te209 :TE:=⟨.st [(3,0),(3,1)],2,16,some (.agg ⟨[.int .i64 0,.int .i64 0]⟩)⟩
theorem ty209 :zO Tryz.prog 209=some te209:=by kernel_rfl
@[reducible] def te210 :TE:=⟨.other,1,8,some (.nilFunc)⟩
theorem ty210 :zO Tryz.prog 210=some te210:=by kernel_rfl
@[reducible] def te211 :TE:=⟨.ptr 269,1,8,some (.pointer none)⟩
theorem ty211 :zO Tryz.prog 211=some te211:=by kernel_rfl
@[reducible] def te212 :TE:=⟨.other,1,8,some (.nilFunc)⟩
theorem ty212 :zO Tryz.prog 212=some te212:=by kernel_rfl
@[reducible] def te213 :TE:=⟨.other,1,8,some (.nilFunc)⟩
theorem ty213 :zO Tryz.prog 213=some te213:=by kernel_rfl
@[reducible] def te214 :TE:=⟨.st [(3,0),(3,1),(3,2)],3,24,some (.agg ⟨[.int .i64 0,.int .i64 0,.int .i64 0]⟩)⟩
theorem ty214 :zO Tryz.prog 214=some te214:=by kernel_rfl
@[reducible] def te215 :TE:=⟨.st [(3,0),(3,1),(3,2)],3,24,some (.agg ⟨[.int .i64 0,.int .i64 0,.int .i64 0]⟩)⟩
theorem ty215 :zO Tryz.prog 215=some te215:=by kernel_rfl
@[reducible] def te216 :TE:=⟨.other,1,8,some (.nilFunc)⟩
theorem ty216 :zO Tryz.prog 216=some te216:=by kernel_rfl
@[reducible] def te217 :TE:=⟨.other,1,8,some (.nilFunc)⟩
theorem ty217 :zO Tryz.prog 217=some te217:=by kernel_rfl
@[reducible] def te218 :TE:=⟨.other,1,8,some (.nilFunc)⟩
theorem ty218 :zO Tryz.prog 218=some te218:=by kernel_rfl
@[reducible] def te219 :TE:=⟨.other,1,8,some (.nilFunc)⟩
theorem ty219 :zO Tryz.prog 219=some te219:=by kernel_rfl
@[reducible] def te220 :TE:=⟨.st [(3,0),(3,1),(3,2),(3,3)],4,32,some (.agg ⟨[.int .i64 0,.int .i64 0,.int .i64 0,.int .i64 0]⟩)⟩
theorem ty220 :zO Tryz.prog 220=some te220:=by kernel_rfl
@[reducible] def te221 :TE:=⟨.st [(3,0),(3,1),(3,2),(3,3)],4,32,some (.agg ⟨[.int .i64 0,.int .i64 0,.int .i64 0,.int .i64 0]⟩)⟩
theorem ty221 :zO Tryz.prog 221=some te221:=by kernel_rfl
@[reducible] def te222 :TE:=⟨.other,1,0,some (.tuple ⟨[.pointer none,.int .i64 0]⟩)⟩
theorem ty222 :zO Tryz.prog 222=some te222:=by kernel_rfl
@[reducible] def te223 :TE:=⟨.other,1,8,some (.nilFunc)⟩
theorem ty223 :zO Tryz.prog 223=some te223:=by kernel_rfl
@[reducible] def te224 :TE:=⟨.other,1,8,some (.nilFunc)⟩
theorem ty224 :zO Tryz.prog 224=some te224:=by kernel_rfl
@[reducible] def te225 :TE:=⟨.st [(48,0),(157,1),(157,2)],3,32,some (.agg ⟨[.slice none 0 0,.int .u32 0,.int .u32 0]⟩)⟩
theorem ty225 :zO Tryz.prog 225=some te225:=by kernel_rfl
@[reducible] def te226 :TE:=⟨.st [(48,0),(157,1),(157,2)],3,32,some (.agg ⟨[.slice none 0 0,.int .u32 0,.int .u32 0]⟩)⟩
theorem ty226 :zO Tryz.prog 226=some te226:=by kernel_rfl
@[reducible] def te227 :TE:=⟨.other,1,8,some (.nilFunc)⟩
theorem ty227 :zO Tryz.prog 227=some te227:=by kernel_rfl
@[reducible] def te228 :TE:=⟨.arr 8 197,16,256,some (.agg ⟨[.int .i64 0,.slice none 0 0,.int .i64 0,.slice none 0 0,.int .i64 0,.slice none 0 0,.int .i64 0,.slice none 0 0,.int .i64 0,.slice none 0 0,.int .i64 0,.slice none 0 0,.int .i64 0,.slice none 0 0,.int .i64 0,.slice none 0 0]⟩)⟩
theorem ty228 :zO Tryz.prog 228=some te228:=by kernel_rfl
@[reducible] def te229 :TE:=⟨.st [(228,0),(5,16)],17,264,some (.agg ⟨[.int .i64 0,.slice none 0 0,.int .i64 0,.slice none 0 0,.int .i64 0,.slice none 0 0,.int .i64 0,.slice none 0 0,.int .i64 0,.slice none 0 0,.int .i64 0,.slice none 0 0,.int .i64 0,.slice none 0 0,.int .i64 0,.slice none 0 0,.int .u8 0]⟩)⟩
theorem ty229 :zO Tryz.prog 229=some te229:=by kernel_rfl
@[reducible] def te230 :TE:=⟨.st [(228,0),(5,16)],17,264,some (.agg ⟨[.int .i64 0,.slice none 0 0,.int .i64 0,.slice none 0 0,.int .i64 0,.slice none 0 0,.int .i64 0,.slice none 0 0,.int .i64 0,.slice none 0 0,.int .i64 0,.slice none 0 0,.int .i64 0,.slice none 0 0,.int .i64 0,.slice none 0 0,.int .u8 0]⟩)⟩
theorem ty230 :zO Tryz.prog 230=some te230:=by kernel_rfl
@[reducible] def te231 :TE:=⟨.other,1,8,some (.nilFunc)⟩
theorem ty231 :zO Tryz.prog 231=some te231:=by kernel_rfl
@[reducible] def te232 :TE:=⟨.arr 4 5,4,4,some (.agg ⟨[.int .u8 0,.int .u8 0,.int .u8 0,.int .u8 0]⟩)⟩
theorem ty232 :zO Tryz.prog 232=some te232:=by kernel_rfl
@[reducible] def te233 :TE:=⟨.other,1,8,some (.nilFunc)⟩
theorem ty233 :zO Tryz.prog 233=some te233:=by kernel_rfl
@[reducible] def te234 :TE:=⟨.other,1,8,some (.nilFunc)⟩
theorem ty234 :zO Tryz.prog 234=some te234:=by kernel_rfl
@[reducible] def te235 :TE:=⟨.ptr 284,1,8,some (.pointer none)⟩
theorem ty235 :zO Tryz.prog 235=some te235:=by kernel_rfl
@[reducible] def te236 :TE:=⟨.other,1,8,some (.nilFunc)⟩
theorem ty236 :zO Tryz.prog 236=some te236:=by kernel_rfl
@[reducible] def te237 :TE:=⟨.other,1,8,some (.nilFunc)⟩
theorem ty237 :zO Tryz.prog 237=some te237:=by kernel_rfl
@[reducible] def te238 :TE:=⟨.other,1,8,some (.nilFunc)⟩
theorem ty238 :zO Tryz.prog 238=some te238:=by kernel_rfl
@[reducible] def te239 :TE:=⟨.other,1,8,some (.nilFunc)⟩
theorem ty239 :zO Tryz.prog 239=some te239:=by kernel_rfl
@[reducible] def te240 :TE:=⟨.st [(9,0),(3,1),(3,2)],3,32,some (.agg ⟨[.string ⟨⟨[]⟩⟩,.int .i64 0,.int .i64 0]⟩)⟩
theorem ty240 :zO Tryz.prog 240=some te240:=by kernel_rfl
@[reducible] def te241 :TE:=⟨.st [(9,0),(3,1),(3,2)],3,32,some (.agg ⟨[.string ⟨⟨[]⟩⟩,.int .i64 0,.int .i64 0]⟩)⟩
theorem ty241 :zO Tryz.prog 241=some te241:=by kernel_rfl
@[reducible] def te242 :TE:=⟨.other,1,8,some (.nilFunc)⟩
theorem ty242 :zO Tryz.prog 242=some te242:=by kernel_rfl
@[reducible] def te243 :TE:=⟨.other,1,8,some (.nilFunc)⟩
theorem ty243 :zO Tryz.prog 243=some te243:=by kernel_rfl
@[reducible] def te244 :TE:=⟨.st [(3,0),(3,1),(203,2),(93,3),(242,4),(243,5)],6,48,some (.agg ⟨[.int .i64 0,.int .i64 0,.nilFunc,.nilFunc,.nilFunc,.nilFunc]⟩)⟩
theorem ty244 :zO Tryz.prog 244=some te244:=by kernel_rfl
@[reducible] def te245 :TE:=⟨.st [(3,0),(3,1),(203,2),(93,3),(242,4),(243,5)],6,48,some (.agg ⟨[.int .i64 0,.int .i64 0,.nilFunc,.nilFunc,.nilFunc,.nilFunc]⟩)⟩
theorem ty245 :zO Tryz.prog 245=some te245:=by kernel_rfl
@[reducible] def te246 :TE:=⟨.other,1,0,some (.tuple ⟨[.agg ⟨[.int .i64 0,.int .i64 0,.nilFunc,.nilFunc,.nilFunc,.nilFunc]⟩,.bool false]⟩)⟩
theorem ty246 :zO Tryz.prog 246=some te246:=by kernel_rfl
@[reducible] def te247 :TE:=⟨.other,1,8,some (.nilFunc)⟩
theorem ty247 :zO Tryz.prog 247=some te247:=by kernel_rfl
@[reducible] def te248 :TE:=⟨.other,1,8,some (.nilFunc)⟩
theorem ty248 :zO Tryz.prog 248=some te248:=by kernel_rfl
@[reducible] def te249 :TE:=⟨.other,1,8,some (.nilFunc)⟩
theorem ty249 :zO Tryz.prog 249=some te249:=by kernel_rfl
@[reducible] def te250 :TE:=⟨.other,1,8,some (.pointer none)⟩
theorem ty250 :zO Tryz.prog 250=some te250:=by kernel_rfl
@[reducible] def te251 :TE:=⟨.other,1,8,some (.nilFunc)⟩
theorem ty251 :zO Tryz.prog 251=some te251:=by kernel_rfl
@[reducible] def te252 :TE:=⟨.other,1,0,some (.tuple ⟨[.int .i32 0,.int .i64 0]⟩)⟩
theorem ty252 :zO Tryz.prog 252=some te252:=by kernel_rfl
@[reducible] def te253 :TE:=⟨.other,1,8,some (.nilFunc)⟩
theorem ty253 :zO Tryz.prog 253=some te253:=by kernel_rfl
@[reducible] def te254 :TE:=⟨.other,1,8,some (.nilFunc)⟩
theorem ty254 :zO Tryz.prog 254=some te254:=by kernel_rfl
@[reducible] def te255 :TE:=⟨.arr 24 5,24,24,some (.agg ⟨[.int .u8 0,.int .u8 0,.int .u8 0,.int .u8 0,.int .u8 0,.int .u8 0,.int .u8 0,.int .u8 0,.int .u8 0,.int .u8 0,.int .u8 0,.int .u8 0,.int .u8 0,.int .u8 0,.int .u8 0,.int .u8 0,.int .u8 0,.int .u8 0,.int .u8 0,.int .u8 0,.int .u8 0,.int .u8 0,.int .u8 0,.int .u8 0]⟩)⟩
theorem ty255 :zO Tryz.prog 255=some te255:=by kernel_rfl
@[reducible] def te256 :TE:=⟨.other,1,8,some (.nilFunc)⟩
theorem ty256 :zO Tryz.prog 256=some te256:=by kernel_rfl
@[reducible] def te257 :TE:=⟨.other,1,8,some (.nilFunc)⟩
theorem ty257 :zO Tryz.prog 257=some te257:=by kernel_rfl
@[reducible] def te258 :TE:=⟨.other,1,0,some (.tuple ⟨[.slice none 0 0,.string ⟨⟨[]⟩⟩]⟩)⟩
theorem ty258 :zO Tryz.prog 258=some te258:=by kernel_rfl
@[reducible] def te259 :TE:=⟨.other,1,8,some (.nilFunc)⟩
theorem ty259 :zO Tryz.prog 259=some te259:=by kernel_rfl
@[reducible] def te260 :TE:=⟨.other,1,8,some (.nilFunc)⟩
theorem ty260 :zO Tryz.prog 260=some te260:=by kernel_rfl
@[reducible] def te261 :TE:=⟨.other,1,8,some (.nilFunc)⟩
theorem ty261 :zO Tryz.prog 261=some te261:=by kernel_rfl
@[reducible] def te262 :TE:=⟨.other,1,8,some (.map none)⟩
theorem ty262 :zO Tryz.prog 262=some te262:=by kernel_rfl
@[reducible] def te263 :TE:=⟨.other,1,0,some (.tuple ⟨[.slice none 0 0,.map none]⟩)⟩
theorem ty263 :zO Tryz.prog 263=some te263:=by kernel_rfl
@[reducible] def te264 :TE:=⟨.other,1,8,some (.nilFunc)⟩
theorem ty264 :zO Tryz.prog 264=some te264:=by kernel_rfl
@[reducible] def te265 :TE:=⟨.other,1,8,some (.nilFunc)⟩
theorem ty265 :zO Tryz.prog 265=some te265:=by kernel_rfl
@[reducible] def te266 :TE:=⟨.other,1,8,some (.nilFunc)⟩
theorem ty266 :zO Tryz.prog 266=some te266:=by kernel_rfl
@[reducible] def te267 :TE:=⟨.other,1,8,some (.nilFunc)⟩
theorem ty267 :zO Tryz.prog 267=some te267:=by kernel_rfl
@[reducible] def te268 :TE:=⟨.st [(48,0),(3,1)],2,32,some (.agg ⟨[.slice none 0 0,.int .i64 0]⟩)⟩
theorem ty268 :zO Tryz.prog 268=some te268:=by kernel_rfl
@[reducible] def te269 :TE:=⟨.st [(48,0),(3,1)],2,32,some (.agg ⟨[.slice none 0 0,.int .i64 0]⟩)⟩
theorem ty269 :zO Tryz.prog 269=some te269:=by kernel_rfl
@[reducible] def te270 :TE:=⟨.other,1,8,some (.nilFunc)⟩
theorem ty270 :zO Tryz.prog 270=some te270:=by kernel_rfl
@[reducible] def te271 :TE:=⟨.slice 273,1,24,some (.slice none 0 0)⟩
theorem ty271 :zO Tryz.prog 271=some te271:=by kernel_rfl
@[reducible] def te272 :TE:=⟨.st [(3,0),(3,1),(153,2)],5,40,some (.agg ⟨[.int .i64 0,.int .i64 0,.int .i64 0,.int .i64 0,.int .u8 0]⟩)⟩
theorem ty272 :zO Tryz.prog 272=some te272:=by kernel_rfl
@[reducible] def te273 :TE:=⟨.st [(3,0),(3,1),(153,2)],5,40,some (.agg ⟨[.int .i64 0,.int .i64 0,.int .i64 0,.int .i64 0,.int .u8 0]⟩)⟩
theorem ty273 :zO Tryz.prog 273=some te273:=by kernel_rfl
@[reducible] def te274 :TE:=⟨.other,1,8,some (.nilFunc)⟩
theorem ty274 :zO Tryz.prog 274=some te274:=by kernel_rfl
@[reducible] def te275 :TE:=⟨.slice 278,1,24,some (.slice none 0 0)⟩
theorem ty275 :zO Tryz.prog 275=some te275:=by kernel_rfl
@[reducible] def te276 :TE:=⟨.other,1,8,some (.nilFunc)⟩
theorem ty276 :zO Tryz.prog 276=some te276:=by kernel_rfl
@[reducible] def te277 :TE:=⟨.st [(3,0),(3,1)],2,16,some (.agg ⟨[.int .i64 0,.int .i64 0]⟩)⟩
theorem ty277 :zO Tryz.prog 277=some te277:=by kernel_rfl
@[reducible] def te278 :TE:=⟨.st [(3,0),(3,1)],2,16,some (.agg ⟨[.int .i64 0,.int .i64 0]⟩)⟩
theorem ty278 :zO Tryz.prog 278=some te278:=by kernel_rfl
@[reducible] def te279 :TE:=⟨.other,1,8,some (.nilFunc)⟩
theorem ty279 :zO Tryz.prog 279=some te279:=by kernel_rfl
@[reducible] def te280 :TE:=⟨.other,1,8,some (.nilFunc)⟩
theorem ty280 :zO Tryz.prog 280=some te280:=by kernel_rfl
@[reducible] def te281 :TE:=⟨.other,1,8,some (.nilFunc)⟩
theorem ty281 :zO Tryz.prog 281=some te281:=by kernel_rfl
@[reducible] def te282 :TE:=⟨.other,1,8,some (.nilFunc)⟩
theorem ty282 :zO Tryz.prog 282=some te282:=by kernel_rfl
@[reducible] def te283 :TE:=⟨.st [(9,0),(157,1),(157,2),(4,3),(4,4)],5,32,some (.agg ⟨[.string ⟨⟨[]⟩⟩,.int .u32 0,.int .u32 0,.bool false,.bool false]⟩)⟩
theorem ty283 :zO Tryz.prog 283=some te283:=by kernel_rfl
@[reducible] def te284 :TE:=⟨.st [(9,0),(157,1),(157,2),(4,3),(4,4)],5,32,some (.agg ⟨[.string ⟨⟨[]⟩⟩,.int .u32 0,.int .u32 0,.bool false,.bool false]⟩)⟩
theorem ty284 :zO Tryz.prog 284=some te284:=by kernel_rfl
@[reducible] def te285 :TE:=⟨.other,1,8,some (.nilFunc)⟩
theorem ty285 :zO Tryz.prog 285=some te285:=by kernel_rfl
@[reducible] def te286 :TE:=⟨.int .i64,1,8,some (.int .i64 0)⟩
theorem ty286 :zO Tryz.prog 286=some te286:=by kernel_rfl
@[reducible] def te287 :TE:=⟨.other,1,0,some (.tuple ⟨[.int .i64 0,.int .i64 0]⟩)⟩
theorem ty287 :zO Tryz.prog 287=some te287:=by kernel_rfl
@[reducible] def te288 :TE:=⟨.other,1,8,some (.nilFunc)⟩
theorem ty288 :zO Tryz.prog 288=some te288:=by kernel_rfl
@[reducible] def te289 :TE:=⟨.other,1,8,some (.nilFunc)⟩
theorem ty289 :zO Tryz.prog 289=some te289:=by kernel_rfl
@[reducible] def te290 :TE:=⟨.other,1,8,some (.nilFunc)⟩
theorem ty290 :zO Tryz.prog 290=some te290:=by kernel_rfl
@[reducible] def te291 :TE:=⟨.other,1,8,some (.nilFunc)⟩
theorem ty291 :zO Tryz.prog 291=some te291:=by kernel_rfl
@[reducible] def te292 :TE:=⟨.other,1,8,some (.map none)⟩
theorem ty292 :zO Tryz.prog 292=some te292:=by kernel_rfl
@[reducible] def te293 :TE:=⟨.other,1,8,some (.nilFunc)⟩
theorem ty293 :zO Tryz.prog 293=some te293:=by kernel_rfl
@[reducible] def te294 :TE:=⟨.arr 128 5,128,128,some (.agg ⟨[.int .u8 0,.int .u8 0,.int .u8 0,.int .u8 0,.int .u8 0,.int .u8 0,.int .u8 0,.int .u8 0,.int .u8 0,.int .u8 0,.int .u8 0,.int .u8 0,.int .u8 0,.int .u8 0,.int .u8 0,.int .u8 0,.int .u8 0,.int .u8 0,.int .u8 0,.int .u8 0,.int .u8 0,.int .u8 0,.int .u8 0,.int .u8 0,.int .u8 0,.int .u8 0,.int .u8 0,.int .u8 0,.int .u8 0,.int .u8 0,.int .u8 0,.int .u8 0,.int .u8 0,.int .u8 0,.int .u8 0,.int .u8 0,.int .u8 0,.int .u8 0,.int .u8 0,.int .u8 0,.int .u8 0,.int .u8 0,.int .u8 0,.int .u8 0,.int .u8 0,.int .u8 0,.int .u8 0,.int .u8 0,.int .u8 0,.int .u8 0,.int .u8 0,.int .u8 0,.int .u8 0,.int .u8 0,.int .u8 0,.int .u8 0,.int .u8 0,.int .u8 0,.int .u8 0,.int .u8 0,.int .u8 0,.int .u8 0,.int .u8 0,.int .u8 0,.int .u8 0,.int .u8 0,.int .u8 0,.int .u8 0,.int .u8 0,.int .u8 0,.int .u8 0,.int .u8 0,.int .u8 0,.int .u8 0,.int .u8 0,.int .u8 0,.int .u8 0,.int .u8 0,.int .u8 0,.int .u8 0,.int .u8 0,.int .u8 0,.int .u8 0,.int .u8 0,.int .u8 0,.int .u8 0,.int .u8 0,.int .u8 0,.int .u8 0,.int .u8 0,.int .u8 0,.int .u8 0,.int .u8 0,.int .u8 0,.int .u8 0,.int .u8 0,.int .u8 0,.int .u8 0,.int .u8 0,.int .u8 0,.int .u8 0,.int .u8 0,.int .u8 0,.int .u8 0,.int .u8 0,.int .u8 0,.int .u8 0,.int .u8 0,.int .u8 0,.int .u8 0,.int .u8 0,.int .u8 0,.int .u8 0,.int .u8 0,.int .u8 0,.int .u8 0,.int .u8 0,.int .u8 0,.int .u8 0,.int .u8 0,.int .u8 0,.int .u8 0,.int .u8 0,.int .u8 0,.int .u8 0,.int .u8 0,.int .u8 0,.int .u8 0]⟩)⟩
theorem ty294 :zO Tryz.prog 294=some te294:=by kernel_rfl
@[reducible] def te295 :TE:=⟨.other,1,8,some (.nilFunc)⟩
theorem ty295 :zO Tryz.prog 295=some te295:=by kernel_rfl
@[reducible] def te296 :TE:=⟨.arr 20 181,20,160,some (.agg ⟨[.int .u64 0,.int .u64 0,.int .u64 0,.int .u64 0,.int .u64 0,.int .u64 0,.int .u64 0,.int .u64 0,.int .u64 0,.int .u64 0,.int .u64 0,.int .u64 0,.int .u64 0,.int .u64 0,.int .u64 0,.int .u64 0,.int .u64 0,.int .u64 0,.int .u64 0,.int .u64 0]⟩)⟩
theorem ty296 :zO Tryz.prog 296=some te296:=by kernel_rfl
@[reducible] def te297 :TE:=⟨.arr 65 5,65,65,some (.agg ⟨[.int .u8 0,.int .u8 0,.int .u8 0,.int .u8 0,.int .u8 0,.int .u8 0,.int .u8 0,.int .u8 0,.int .u8 0,.int .u8 0,.int .u8 0,.int .u8 0,.int .u8 0,.int .u8 0,.int .u8 0,.int .u8 0,.int .u8 0,.int .u8 0,.int .u8 0,.int .u8 0,.int .u8 0,.int .u8 0,.int .u8 0,.int .u8 0,.int .u8 0,.int .u8 0,.int .u8 0,.int .u8 0,.int .u8 0,.int .u8 0,.int .u8 0,.int .u8 0,.int .u8 0,.int .u8 0,.int .u8 0,.int .u8 0,.int .u8 0,.int .u8 0,.int .u8 0,.int .u8 0,.int .u8 0,.int .u8 0,.int .u8 0,.int .u8 0,.int .u8 0,.int .u8 0,.int .u8 0,.int .u8 0,.int .u8 0,.int .u8 0,.int .u8 0,.int .u8 0,.int .u8 0,.int .u8 0,.int .u8 0,.int .u8 0,.int .u8 0,.int .u8 0,.int .u8 0,.int .u8 0,.int .u8 0,.int .u8 0,.int .u8 0,.int .u8 0,.int .u8 0]⟩)⟩
theorem ty297 :zO Tryz.prog 297=some te297:=by kernel_rfl
@[reducible] def te298 :TE:=⟨.other,1,8,some (.nilFunc)⟩
theorem ty298 :zO Tryz.prog 298=some te298:=by kernel_rfl
@[reducible] def te299 :TE:=⟨.other,1,0,some (.tuple ⟨[.int .i64 0,.int .i64 0]⟩)⟩
theorem ty299 :zO Tryz.prog 299=some te299:=by kernel_rfl
@[reducible] def te300 :TE:=⟨.other,1,8,some (.nilFunc)⟩
theorem ty300 :zO Tryz.prog 300=some te300:=by kernel_rfl
@[reducible] def te301 :TE:=⟨.other,1,8,some (.nilFunc)⟩
theorem ty301 :zO Tryz.prog 301=some te301:=by kernel_rfl
@[reducible] def te302 :TE:=⟨.other,1,8,some (.nilFunc)⟩
theorem ty302 :zO Tryz.prog 302=some te302:=by kernel_rfl
@[reducible] def te303 :TE:=⟨.int .u64,1,8,some (.int .u64 0)⟩
theorem ty303 :zO Tryz.prog 303=some te303:=by kernel_rfl
@[reducible] def te304 :TE:=⟨.other,1,8,some (.nilFunc)⟩
theorem ty304 :zO Tryz.prog 304=some te304:=by kernel_rfl
@[reducible] def te305 :TE:=⟨.other,1,8,some (.nilFunc)⟩
theorem ty305 :zO Tryz.prog 305=some te305:=by kernel_rfl
@[reducible] def te306 :TE:=⟨.other,1,8,some (.nilFunc)⟩
theorem ty306 :zO Tryz.prog 306=some te306:=by kernel_rfl
@[reducible] def te307 :TE:=⟨.ptr 3,1,8,some (.pointer none)⟩
theorem ty307 :zO Tryz.prog 307=some te307:=by kernel_rfl
@[reducible] def te308 :TE:=⟨.other,1,8,some (.nilFunc)⟩
theorem ty308 :zO Tryz.prog 308=some te308:=by kernel_rfl
@[reducible] def te309 :TE:=⟨.other,1,8,some (.nilFunc)⟩
theorem ty309 :zO Tryz.prog 309=some te309:=by kernel_rfl
@[reducible] def te310 :TE:=⟨.other,1,8,some (.nilFunc)⟩
theorem ty310 :zO Tryz.prog 310=some te310:=by kernel_rfl
@[reducible] def te311 :TE:=⟨.arr 256 5,256,256,some (.agg ⟨[.int .u8 0,.int .u8 0,.int .u8 0,.int .u8 0,.int .u8 0,.int .u8 0,.int .u8 0,.int .u8 0,.int .u8 0,.int .u8 0,.int .u8 0,.int .u8 0,.int .u8 0,.int .u8 0,.int .u8 0,.int .u8 0,.int .u8 0,.int .u8 0,.int .u8 0,.int .u8 0,.int .u8 0,.int .u8 0,.int .u8 0,.int .u8 0,.int .u8 0,.int .u8 0,.int .u8 0,.int .u8 0,.int .u8 0,.int .u8 0,.int .u8 0,.int .u8 0,.int .u8 0,.int .u8 0,.int .u8 0,.int .u8 0,.int .u8 0,.int .u8 0,.int .u8 0,.int .u8 0,.int .u8 0,.int .u8 0,.int .u8 0,.int .u8 0,.int .u8 0,.int .u8 0,.int .u8 0,.int .u8 0,.int .u8 0,.int .u8 0,.int .u8 0,.int .u8 0,.int .u8 0,.int .u8 0,.int .u8 0,.int .u8 0,.int .u8 0,.int .u8 0,.int .u8 0,.int .u8 0,.int .u8 0,.int .u8 0,.int .u8 0,.int .u8 0,.int .u8 0,.int .u8 0,.int .u8 0,.int .u8 0,.int .u8 0,.int .u8 0,.int .u8 0,.int .u8 0,.int .u8 0,.int .u8 0,.int .u8 0,.int .u8 0,.int .u8 0,.int .u8 0,.int .u8 0,.int .u8 0,.int .u8 0,.int .u8 0,.int .u8 0,.int .u8 0,.int .u8 0,.int .u8 0,.int .u8 0,.int .u8 0,.int .u8 0,.int .u8 0,.int .u8 0,.int .u8 0,.int .u8 0,.int .u8 0,.int .u8 0,.int .u8 0,.int .u8 0,.int .u8 0,.int .u8 0,.int .u8 0,.int .u8 0,.int .u8 0,.int .u8 0,.int .u8 0,.int .u8 0,.int .u8 0,.int .u8 0,.int .u8 0,.int .u8 0,.int .u8 0,.int .u8 0,.int .u8 0,.int .u8 0,.int .u8 0,.int .u8 0,.int .u8 0,.int .u8 0,.int .u8 0,.int .u8 0,.int .u8 0,.int .u8 0,.int .u8 0,.int .u8 0,.int .u8 0,.int .u8 0,.int .u8 0,.int .u8 0,.int .u8 0,.int .u8 0,.int .u8 0,.int .u8 0,.int .u8 0,.int .u8 0,.int .u8 0,.int .u8 0,.int .u8 0,.int .u8 0,.int .u8 0,.int .u8 0,.int .u8 0,.int .u8 0,.int .u8 0,.int .u8 0,.int .u8 0,.int .u8 0,.int .u8 0,.int .u8 0,.int .u8 0,.int .u8 0,.int .u8 0,.int .u8 0,.int .u8 0,.int .u8 0,.int .u8 0,.int .u8 0,.int .u8 0,.int .u8 0,.int .u8 0,.int .u8 0,.int .u8 0,.int .u8 0,.int .u8 0,.int .u8 0,.int .u8 0,.int .u8 0,.int .u8 0,.int .u8 0,.int .u8 0,.int .u8 0,.int .u8 0,.int .u8 0,.int .u8 0,.int .u8 0,.int .u8 0,.int .u8 0,.int .u8 0,.int .u8 0,.int .u8 0,.int .u8 0,.int .u8 0,.int .u8 0,.int .u8 0,.int .u8 0,.int .u8 0,.int .u8 0,.int .u8 0,.int .u8 0,.int .u8 0,.int .u8 0,.int .u8 0,.int .u8 0,.int .u8 0,.int .u8 0,.int .u8 0,.int .u8 0,.int .u8 0,.int .u8 0,.int .u8 0,.int .u8 0,.int .u8 0,.int .u8 0,.int .u8 0,.int .u8 0,.int .u8 0,.int .u8 0,.int .u8 0,.int .u8 0,.int .u8 0,.int .u8 0,.int .u8 0,.int .u8 0,.int .u8 0,.int .u8 0,.int .u8 0,.int .u8 0,.int .u8 0,.int .u8 0,.int .u8 0,.int .u8 0,.int .u8 0,.int .u8 0,.int .u8 0,.int .u8 0,.int .u8 0,.int .u8 0,.int .u8 0,.int .u8 0,.int .u8 0,.int .u8 0,.int .u8 0,.int .u8 0,.int .u8 0,.int .u8 0,.int .u8 0,.int .u8 0,.int .u8 0,.int .u8 0,.int .u8 0,.int .u8 0,.int .u8 0,.int .u8 0,.int .u8 0,.int .u8 0,.int .u8 0,.int .u8 0,.int .u8 0,.int .u8 0,.int .u8 0,.int .u8 0,.int .u8 0,.int .u8 0,.int .u8 0,.int .u8 0,.int .u8 0,.int .u8 0,.int .u8 0]⟩)⟩
theorem ty311 :zO Tryz.prog 311=some te311:=by kernel_rfl
@[reducible] def te312 :TE:=⟨.st [(5,0),(5,1)],2,2,some (.agg ⟨[.int .u8 0,.int .u8 0]⟩)⟩
theorem ty312 :zO Tryz.prog 312=some te312:=by kernel_rfl
@[reducible] def te313 :TE:=⟨.st [(5,0),(5,1)],2,2,some (.agg ⟨[.int .u8 0,.int .u8 0]⟩)⟩
theorem ty313 :zO Tryz.prog 313=some te313:=by kernel_rfl
@[reducible] def te314 :TE:=⟨.arr 16 313,32,32,some (.agg ⟨[.int .u8 0,.int .u8 0,.int .u8 0,.int .u8 0,.int .u8 0,.int .u8 0,.int .u8 0,.int .u8 0,.int .u8 0,.int .u8 0,.int .u8 0,.int .u8 0,.int .u8 0,.int .u8 0,.int .u8 0,.int .u8 0,.int .u8 0,.int .u8 0,.int .u8 0,.int .u8 0,.int .u8 0,.int .u8 0,.int .u8 0,.int .u8 0,.int .u8 0,.int .u8 0,.int .u8 0,.int .u8 0,.int .u8 0,.int .u8 0,.int .u8 0,.int .u8 0]⟩)⟩
theorem ty314 :zO Tryz.prog 314=some te314:=by kernel_rfl
@[reducible] def te315 :TE:=⟨.other,1,8,some (.nilFunc)⟩
theorem ty315 :zO Tryz.prog 315=some te315:=by kernel_rfl
@[reducible] def te316 :TE:=⟨.ptr 303,1,8,some (.pointer none)⟩
theorem ty316 :zO Tryz.prog 316=some te316:=by kernel_rfl
@[reducible] def te317 :TE:=⟨.other,1,8,some (.nilFunc)⟩
theorem ty317 :zO Tryz.prog 317=some te317:=by kernel_rfl
@[reducible] def te318 :TE:=⟨.arr 32 5,32,32,some (.agg ⟨[.int .u8 0,.int .u8 0,.int .u8 0,.int .u8 0,.int .u8 0,.int .u8 0,.int .u8 0,.int .u8 0,.int .u8 0,.int .u8 0,.int .u8 0,.int .u8 0,.int .u8 0,.int .u8 0,.int .u8 0,.int .u8 0,.int .u8 0,.int .u8 0,.int .u8 0,.int .u8 0,.int .u8 0,.int .u8 0,.int .u8 0,.int .u8 0,.int .u8 0,.int .u8 0,.int .u8 0,.int .u8 0,.int .u8 0,.int .u8 0,.int .u8 0,.int .u8 0]⟩)⟩
theorem ty318 :zO Tryz.prog 318=some te318:=by kernel_rfl
@[reducible] def te319 :TE:=⟨.arr 64 5,64,64,some (.agg ⟨[.int .u8 0,.int .u8 0,.int .u8 0,.int .u8 0,.int .u8 0,.int .u8 0,.int .u8 0,.int .u8 0,.int .u8 0,.int .u8 0,.int .u8 0,.int .u8 0,.int .u8 0,.int .u8 0,.int .u8 0,.int .u8 0,.int .u8 0,.int .u8 0,.int .u8 0,.int .u8 0,.int .u8 0,.int .u8 0,.int .u8 0,.int .u8 0,.int .u8 0,.int .u8 0,.int .u8 0,.int .u8 0,.int .u8 0,.int .u8 0,.int .u8 0,.int .u8 0,.int .u8 0,.int .u8 0,.int .u8 0,.int .u8 0,.int .u8 0,.int .u8 0,.int .u8 0,.int .u8 0,.int .u8 0,.int .u8 0,.int .u8 0,.int .u8 0,.int .u8 0,.int .u8 0,.int .u8 0,.int .u8 0,.int .u8 0,.int .u8 0,.int .u8 0,.int .u8 0,.int .u8 0,.int .u8 0,.int .u8 0,.int .u8 0,.int .u8 0,.int .u8 0,.int .u8 0,.int .u8 0,.int .u8 0,.int .u8 0,.int .u8 0,.int .u8 0]⟩)⟩
theorem ty319 :zO Tryz.prog 319=some te319:=by kernel_rfl
@[reducible] def te320 :TE:=⟨.st [(17,0),(17,1),(17,2),(9,3)],4,40,some (.agg ⟨[.pointer none,.pointer none,.pointer none,.string ⟨⟨[]⟩⟩]⟩)⟩
theorem ty320 :zO Tryz.prog 320=some te320:=by kernel_rfl
@[reducible] def te321 :TE:=⟨.st [(17,0),(17,1),(17,2),(9,3)],4,40,some (.agg ⟨[.pointer none,.pointer none,.pointer none,.string ⟨⟨[]⟩⟩]⟩)⟩
theorem ty321 :zO Tryz.prog 321=some te321:=by kernel_rfl
@[reducible] def te322 :TE:=⟨.arr 0 16,0,0,some (.agg ⟨[]⟩)⟩
theorem ty322 :zO Tryz.prog 322=some te322:=by kernel_rfl
@[reducible] def te323 :TE:=⟨.st [(322,0)],0,0,some (.agg ⟨[]⟩)⟩
theorem ty323 :zO Tryz.prog 323=some te323:=by kernel_rfl
@[reducible] def te324 :TE:=⟨.st [(322,0)],0,0,some (.agg ⟨[]⟩)⟩
theorem ty324 :zO Tryz.prog 324=some te324:=by kernel_rfl
@[reducible] def te325 :TE:=⟨.int .u8,1,1,some (.int .u8 0)⟩
theorem ty325 :zO Tryz.prog 325=some te325:=by kernel_rfl
@[reducible] def te326 :TE:=⟨.int .u8,1,1,some (.int .u8 0)⟩
theorem ty326 :zO Tryz.prog 326=some te326:=by kernel_rfl
@[reducible] def te327 :TE:=⟨.other,1,8,some (.nilFunc)⟩
theorem ty327 :zO Tryz.prog 327=some te327:=by kernel_rfl
@[reducible] def te328 :TE:=⟨.int .i32,1,4,some (.int .i32 0)⟩
theorem ty328 :zO Tryz.prog 328=some te328:=by kernel_rfl
@[reducible] def te329 :TE:=⟨.int .i32,1,4,some (.int .i32 0)⟩
theorem ty329 :zO Tryz.prog 329=some te329:=by kernel_rfl
@[reducible] def te330 :TE:=⟨.st [(12,0),(12,1),(157,2),(325,3),(5,4),(5,5),(326,6),(327,7),(184,8),(328,9),(329,10)],11,48,some (.agg ⟨[.int .u64 0,.int .u64 0,.int .u32 0,.int .u8 0,.int .u8 0,.int .u8 0,.int .u8 0,.nilFunc,.pointer none,.int .i32 0,.int .i32 0]⟩)⟩
theorem ty330 :zO Tryz.prog 330=some te330:=by kernel_rfl
@[reducible] def te331 :TE:=⟨.st [(12,0),(12,1),(157,2),(325,3),(5,4),(5,5),(326,6),(327,7),(184,8),(328,9),(329,10)],11,48,some (.agg ⟨[.int .u64 0,.int .u64 0,.int .u32 0,.int .u8 0,.int .u8 0,.int .u8 0,.int .u8 0,.nilFunc,.pointer none,.int .i32 0,.int .i32 0]⟩)⟩
theorem ty331 :zO Tryz.prog 331=some te331:=by kernel_rfl
def tyT :TT:=(.node (.node (.node (.node (.node (.node (.node (.node (.node .leaf 0 te0 .leaf) 1 te1 .leaf) 2 te2 (.node (.node .leaf 3 te3 .leaf) 4 te4 .leaf)) 5 te5 (.node (.node (.node .leaf 6 te6 .leaf) 7 te7 .leaf) 8 te8 (.node .leaf 9 te9 .leaf))) 10 te10 (.node (.node (.node (.node .leaf 11 te11 .leaf) 12 te12 .leaf) 13 te13 (.node .leaf 14 te14 .leaf)) 15 te15 (.node (.node (.node .leaf 16 te16 .leaf) 17 te17 .leaf) 18 te18 (.node .leaf 19 te19 .leaf)))) 20 te20 (.node (.node (.node (.node (.node .leaf 21 te21 .leaf) 22 te22 .leaf) 23 te23 (.node (.node .leaf 24 te24 .leaf) 25 te25 .leaf)) 26 te26 (.node (.node (.node .leaf 27 te27 .leaf) 28 te28 .leaf) 29 te29 (.node .leaf 30 te30 .leaf))) 31 te31 (.node (.node (.node (.node .leaf 32 te32 .leaf) 33 te33 .leaf) 34 te34 (.node .leaf 35 te35 .leaf)) 36 te36 (.node (.node (.node .leaf 37 te37 .leaf) 38 te38 .leaf) 39 te39 (.node .leaf 40 te40 .leaf))))) 41 te41 (.node (.node (.node (.node (.node (.node .leaf 42 te42 .leaf) 43 te43 .leaf) 44 te44 (.node (.node .leaf 45 te45 .leaf) 46 te46 .leaf)) 47 te47 (.node (.node (.node .leaf 48 te48 .leaf) 49 te49 .leaf) 50 te50 (.node .leaf 51 te51 .leaf))) 52 te52 (.node (.node (.node (.node .leaf 53 te53 .leaf) 54 te54 .leaf) 55 te55 (.node .leaf 56 te56 .leaf)) 57 te57 (.node (.node (.node .leaf 58 te58 .leaf) 59 te59 .leaf) 60 te60 (.node .leaf 61 te61 .leaf)))) 62 te62 (.node (.node (.node (.node (.node .leaf 63 te63 .leaf) 64 te64 .leaf) 65 te65 (.node (.node .leaf 66 te66 .leaf) 67 te67 .leaf)) 68 te68 (.node (.node (.node .leaf 69 te69 .leaf) 70 te70 .leaf) 71 te71 (.node .leaf 72 te72 .leaf))) 73 te73 (.node (.node (.node (.node .leaf 74 te74 .leaf) 75 te75 .leaf) 76 te76 (.node .leaf 77 te77 .leaf)) 78 te78 (.node (.node (.node .leaf 79 te79 .leaf) 80 te80 .leaf) 81 te81 (.node .leaf 82 te82 .leaf)))))) 83 te83 (.node (.node (.node (.node (.node (.node (.node .leaf 84 te84 .leaf) 85 te85 .leaf) 86 te86 (.node (.node .leaf 87 te87 .leaf) 88 te88 .leaf)) 89 te89 (.node (.node (.node .leaf 90 te90 .leaf) 91 te91 .leaf) 92 te92 (.node .leaf 93 te93 .leaf))) 94 te94 (.node (.node (.node (.node .leaf 95 te95 .leaf) 96 te96 .leaf) 97 te97 (.node .leaf 98 te98 .leaf)) 99 te99 (.node (.node (.node .leaf 100 te100 .leaf) 101 te101 .leaf) 102 te102 (.node .leaf 103 te103 .leaf)))) 104 te104 (.node (.node (.node (.node (.node .leaf 105 te105 .leaf) 106 te106 .leaf) 107 te107 (.node (.node .leaf 108 te108 .leaf) 109 te109 .leaf)) 110 te110 (.node (.node (.node .leaf 111 te111 .leaf) 112 te112 .leaf) 113 te113 (.node .leaf 114 te114 .leaf))) 115 te115 (.node (.node (.node (.node .leaf 116 te116 .leaf) 117 te117 .leaf) 118 te118 (.node .leaf 119 te119 .leaf)) 120 te120 (.node (.node (.node .leaf 121 te121 .leaf) 122 te122 .leaf) 123 te123 (.node .leaf 124 te124 .leaf))))) 125 te125 (.node (.node (.node (.node (.node (.node .leaf 126 te126 .leaf) 127 te127 .leaf) 128 te128 (.node (.node .leaf 129 te129 .leaf) 130 te130 .leaf)) 131 te131 (.node (.node (.node .leaf 132 te132 .leaf) 133 te133 .leaf) 134 te134 (.node .leaf 135 te135 .leaf))) 136 te136 (.node (.node (.node (.node .leaf 137 te137 .leaf) 138 te138 .leaf) 139 te139 (.node .leaf 140 te140 .leaf)) 141 te141 (.node (.node (.node .leaf 142 te142 .leaf) 143 te143 .leaf) 144 te144 (.node .leaf 145 te145 .leaf)))) 146 te146 (.node (.node (.node (.node (.node .leaf 147 te147 .leaf) 148 te148 .leaf) 149 te149 (.node .leaf 150 te150 .leaf)) 151 te151 (.node (.node (.node .leaf 152 te152 .leaf) 153 te153 .leaf) 154 te154 (.node .leaf 155 te155 .leaf))) 156 te156 (.node (.node (.node (.node .leaf 157 te157 .leaf) 158 te158 .leaf) 159 te159 (.node .leaf 160 te160 .leaf)) 161 te161 (.node (.node (.node .leaf 162 te162 .leaf) 163 te163 .leaf) 164 te164 (.node .leaf 165 te165 .leaf))))))) 166 te166 (.node (.node (.node (.node (.node (.node (.node (.node .leaf 167 te167 .leaf) 168 te168 .leaf) 169 te169 (.node (.node .leaf 170 te170 .leaf) 171 te171 .leaf)) 172 te172 (.node (.node (.node .leaf 173 te173 .leaf) 174 te174 .leaf) 175 te175 (.node .leaf 176 te176 .leaf))) 177 te177 (.node (.node (.node (.node .leaf 178 te178 .leaf) 179 te179 .leaf) 180 te180 (.node .leaf 181 te181 .leaf)) 182 te182 (.node (.node (.node .leaf 183 te183 .leaf) 184 te184 .leaf) 185 te185 (.node .leaf 186 te186 .leaf)))) 187 te187 (.node (.node (.node (.node (.node .leaf 188 te188 .leaf) 189 te189 .leaf) 190 te190 (.node (.node .leaf 191 te191 .leaf) 192 te192 .leaf)) 193 te193 (.node (.node (.node .leaf 194 te194 .leaf) 195 te195 .leaf) 196 te196 (.node .leaf 197 te197 .leaf))) 198 te198 (.node (.node (.node (.node .leaf 199 te199 .leaf) 200 te200 .leaf) 201 te201 (.node .leaf 202 te202 .leaf)) 203 te203 (.node (.node (.node .leaf 204 te204 .leaf) 205 te205 .leaf) 206 te206 (.node .leaf 207 te207 .leaf))))) 208 te208 (.node (.node (.node (.node (.node (.node .leaf 209 te209 .leaf) 210 te210 .leaf) 211 te211 (.node (.node .leaf 212 te212 .leaf) 213 te213 .leaf)) 214 te214 (.node (.node (.node .leaf 215 te215 .leaf) 216 te216 .leaf) 217 te217 (.node .leaf 218 te218 .leaf))) 219 te219 (.node (.node (.node (.node .leaf 220 te220 .leaf) 221 te221 .leaf) 222 te222 (.node .leaf 223 te223 .leaf)) 224 te224 (.node (.node (.node .leaf 225 te225 .leaf) 226 te226 .leaf) 227 te227 (.node .leaf 228 te228 .leaf)))) 229 te229 (.node (.node (.node (.node (.node .leaf 230 te230 .leaf) 231 te231 .leaf) 232 te232 (.node .leaf 233 te233 .leaf)) 234 te234 (.node (.node (.node .leaf 235 te235 .leaf) 236 te236 .leaf) 237 te237 (.node .leaf 238 te238 .leaf))) 239 te239 (.node (.node (.node (.node .leaf 240 te240 .leaf) 241 te241 .leaf) 242 te242 (.node .leaf 243 te243 .leaf)) 244 te244 (.node (.node (.node .leaf 245 te245 .leaf) 246 te246 .leaf) 247 te247 (.node .leaf 248 te248 .leaf)))))) 249 te249 (.node (.node (.node (.node (.node (.node (.node .leaf 250 te250 .leaf) 251 te251 .leaf) 252 te252 (.node (.node .leaf 253 te253 .leaf) 254 te254 .leaf)) 255 te255 (.node (.node (.node .leaf 256 te256 .leaf) 257 te257 .leaf) 258 te258 (.node .leaf 259 te259 .leaf))) 260 te260 (.node (.node (.node (.node .leaf 261 te261 .leaf) 262 te262 .leaf) 263 te263 (.node .leaf 264 te264 .leaf)) 265 te265 (.node (.node (.node .leaf 266 te266 .leaf) 267 te267 .leaf) 268 te268 (.node .leaf 269 te269 .leaf)))) 270 te270 (.node (.node (.node (.node (.node .leaf 271 te271 .leaf) 272 te272 .leaf) 273 te273 (.node (.node .leaf 274 te274 .leaf) 275 te275 .leaf)) 276 te276 (.node (.node (.node .leaf 277 te277 .leaf) 278 te278 .leaf) 279 te279 (.node .leaf 280 te280 .leaf))) 281 te281 (.node (.node (.node (.node .leaf 282 te282 .leaf) 283 te283 .leaf) 284 te284 (.node .leaf 285 te285 .leaf)) 286 te286 (.node (.node (.node .leaf 287 te287 .leaf) 288 te288 .leaf) 289 te289 (.node .leaf 290 te290 .leaf))))) 291 te291 (.node (.node (.node (.node (.node (.node .leaf 292 te292 .leaf) 293 te293 .leaf) 294 te294 (.node (.node .leaf 295 te295 .leaf) 296 te296 .leaf)) 297 te297 (.node (.node (.node .leaf 298 te298 .leaf) 299 te299 .leaf) 300 te300 (.node .leaf 301 te301 .leaf))) 302 te302 (.node (.node (.node (.node .leaf 303 te303 .leaf) 304 te304 .leaf) 305 te305 (.node .leaf 306 te306 .leaf)) 307 te307 (.node (.node (.node .leaf 308 te308 .leaf) 309 te309 .leaf) 310 te310 (.node .leaf 311 te311 .leaf)))) 312 te312 (.node (.node (.node (.node (.node .leaf 313 te313 .leaf) 314 te314 .leaf) 315 te315 (.node .leaf 316 te316 .leaf)) 317 te317 (.node (.node (.node .leaf 318 te318 .leaf) 319 te319 .leaf) 320 te320 (.node .leaf 321 te321 .leaf))) 322 te322 (.node (.node (.node (.node .leaf 323 te323 .leaf) 324 te324 .leaf) 325 te325 (.node .leaf 326 te326 .leaf)) 327 te327 (.node (.node (.node .leaf 328 te328 .leaf) 329 te329 .leaf) 330 te330 (.node .leaf 331 te331 .leaf))))))))
theorem zC :tyT.Ok Tryz.prog:=⟨⟨⟨⟨⟨⟨⟨⟨⟨trivial,ty0,trivial⟩,ty1,trivial⟩,ty2,⟨⟨trivial,ty3,trivial⟩,ty4,trivial⟩⟩,ty5,⟨⟨⟨trivial,ty6,trivial⟩,ty7,trivial⟩,ty8,⟨trivial,ty9,trivial⟩⟩⟩,ty10,⟨⟨⟨⟨trivial,ty11,trivial⟩,ty12,trivial⟩,ty13,⟨trivial,ty14,trivial⟩⟩,ty15,⟨⟨⟨trivial,ty16,trivial⟩,ty17,trivial⟩,ty18,⟨trivial,ty19,trivial⟩⟩⟩⟩,ty20,⟨⟨⟨⟨⟨trivial,ty21,trivial⟩,ty22,trivial⟩,ty23,⟨⟨trivial,ty24,trivial⟩,ty25,trivial⟩⟩,ty26,⟨⟨⟨trivial,ty27,trivial⟩,ty28,trivial⟩,ty29,⟨trivial,ty30,trivial⟩⟩⟩,ty31,⟨⟨⟨⟨trivial,ty32,trivial⟩,ty33,trivial⟩,ty34,⟨trivial,ty35,trivial⟩⟩,ty36,⟨⟨⟨trivial,ty37,trivial⟩,ty38,trivial⟩,ty39,⟨trivial,ty40,trivial⟩⟩⟩⟩⟩,ty41,⟨⟨⟨⟨⟨⟨trivial,ty42,trivial⟩,ty43,trivial⟩,ty44,⟨⟨trivial,ty45,trivial⟩,ty46,trivial⟩⟩,ty47,⟨⟨⟨trivial,ty48,trivial⟩,ty49,trivial⟩,ty50,⟨trivial,ty51,trivial⟩⟩⟩,ty52,⟨⟨⟨⟨trivial,ty53,trivial⟩,ty54,trivial⟩,ty55,⟨trivial,ty56,trivial⟩⟩,ty57,⟨⟨⟨trivial,ty58,trivial⟩,ty59,trivial⟩,ty60,⟨trivial,ty61,trivial⟩⟩⟩⟩,ty62,⟨⟨⟨⟨⟨trivial,ty63,trivial⟩,ty64,trivial⟩,ty65,⟨⟨trivial,ty66,trivial⟩,ty67,trivial⟩⟩,ty68,⟨⟨⟨trivial,ty69,trivial⟩,ty70,trivial⟩,ty71,⟨trivial,ty72,trivial⟩⟩⟩,ty73,⟨⟨⟨⟨trivial,ty74,trivial⟩,ty75,trivial⟩,ty76,⟨trivial,ty77,trivial⟩⟩,ty78,⟨⟨⟨trivial,ty79,trivial⟩,ty80,trivial⟩,ty81,⟨trivial,ty82,trivial⟩⟩⟩⟩⟩⟩,ty83,⟨⟨⟨⟨⟨⟨⟨trivial,ty84,trivial⟩,ty85,trivial⟩,ty86,⟨⟨trivial,ty87,trivial⟩,ty88,trivial⟩⟩,ty89,⟨⟨⟨trivial,ty90,trivial⟩,ty91,trivial⟩,ty92,⟨trivial,ty93,trivial⟩⟩⟩,ty94,⟨⟨⟨⟨trivial,ty95,trivial⟩,ty96,trivial⟩,ty97,⟨trivial,ty98,trivial⟩⟩,ty99,⟨⟨⟨trivial,ty100,trivial⟩,ty101,trivial⟩,ty102,⟨trivial,ty103,trivial⟩⟩⟩⟩,ty104,⟨⟨⟨⟨⟨trivial,ty105,trivial⟩,ty106,trivial⟩,ty107,⟨⟨trivial,ty108,trivial⟩,ty109,trivial⟩⟩,ty110,⟨⟨⟨trivial,ty111,trivial⟩,ty112,trivial⟩,ty113,⟨trivial,ty114,trivial⟩⟩⟩,ty115,⟨⟨⟨⟨trivial,ty116,trivial⟩,ty117,trivial⟩,ty118,⟨trivial,ty119,trivial⟩⟩,ty120,⟨⟨⟨trivial,ty121,trivial⟩,ty122,trivial⟩,ty123,⟨trivial,ty124,trivial⟩⟩⟩⟩⟩,ty125,⟨⟨⟨⟨⟨⟨trivial,ty126,trivial⟩,ty127,trivial⟩,ty128,⟨⟨trivial,ty129,trivial⟩,ty130,trivial⟩⟩,ty131,⟨⟨⟨trivial,ty132,trivial⟩,ty133,trivial⟩,ty134,⟨trivial,ty135,trivial⟩⟩⟩,ty136,⟨⟨⟨⟨trivial,ty137,trivial⟩,ty138,trivial⟩,ty139,⟨trivial,ty140,trivial⟩⟩,ty141,⟨⟨⟨trivial,ty142,trivial⟩,ty143,trivial⟩,ty144,⟨trivial,ty145,trivial⟩⟩⟩⟩,ty146,⟨⟨⟨⟨⟨trivial,ty147,trivial⟩,ty148,trivial⟩,ty149,⟨trivial,ty150,trivial⟩⟩,ty151,⟨⟨⟨trivial,ty152,trivial⟩,ty153,trivial⟩,ty154,⟨trivial,ty155,trivial⟩⟩⟩,ty156,⟨⟨⟨⟨trivial,ty157,trivial⟩,ty158,trivial⟩,ty159,⟨trivial,ty160,trivial⟩⟩,ty161,⟨⟨⟨trivial,ty162,trivial⟩,ty163,trivial⟩,ty164,⟨trivial,ty165,trivial⟩⟩⟩⟩⟩⟩⟩,ty166,⟨⟨⟨⟨⟨⟨⟨⟨trivial,ty167,trivial⟩,ty168,trivial⟩,ty169,⟨⟨trivial,ty170,trivial⟩,ty171,trivial⟩⟩,ty172,⟨⟨⟨trivial,ty173,trivial⟩,ty174,trivial⟩,ty175,⟨trivial,ty176,trivial⟩⟩⟩,ty177,⟨⟨⟨⟨trivial,ty178,trivial⟩,ty179,trivial⟩,ty180,⟨trivial,ty181,trivial⟩⟩,ty182,⟨⟨⟨trivial,ty183,trivial⟩,ty184,trivial⟩,ty185,⟨trivial,ty186,trivial⟩⟩⟩⟩,ty187,⟨⟨⟨⟨⟨trivial,ty188,trivial⟩,ty189,trivial⟩,ty190,⟨⟨trivial,ty191,trivial⟩,ty192,trivial⟩⟩,ty193,⟨⟨⟨trivial,ty194,trivial⟩,ty195,trivial⟩,ty196,⟨trivial,ty197,trivial⟩⟩⟩,ty198,⟨⟨⟨⟨trivial,ty199,trivial⟩,ty200,trivial⟩,ty201,⟨trivial,ty202,trivial⟩⟩,ty203,⟨⟨⟨trivial,ty204,trivial⟩,ty205,trivial⟩,ty206,⟨trivial,ty207,trivial⟩⟩⟩⟩⟩,ty208,⟨⟨⟨⟨⟨⟨trivial,ty209,trivial⟩,ty210,trivial⟩,ty211,⟨⟨trivial,ty212,trivial⟩,ty213,trivial⟩⟩,ty214,⟨⟨⟨trivial,ty215,trivial⟩,ty216,trivial⟩,ty217,⟨trivial,ty218,trivial⟩⟩⟩,ty219,⟨⟨⟨⟨trivial,ty220,trivial⟩,ty221,trivial⟩,ty222,⟨trivial,ty223,trivial⟩⟩,ty224,⟨⟨⟨trivial,ty225,trivial⟩,ty226,trivial⟩,ty227,⟨trivial,ty228,trivial⟩⟩⟩⟩,ty229,⟨⟨⟨⟨⟨trivial,ty230,trivial⟩,ty231,trivial⟩,ty232,⟨trivial,ty233,trivial⟩⟩,ty234,⟨⟨⟨trivial,ty235,trivial⟩,ty236,trivial⟩,ty237,⟨trivial,ty238,trivial⟩⟩⟩,ty239,⟨⟨⟨⟨trivial,ty240,trivial⟩,ty241,trivial⟩,ty242,⟨trivial,ty243,trivial⟩⟩,ty244,⟨⟨⟨trivial,ty245,trivial⟩,ty246,trivial⟩,ty247,⟨trivial,ty248,trivial⟩⟩⟩⟩⟩⟩,ty249,⟨⟨⟨⟨⟨⟨⟨trivial,ty250,trivial⟩,ty251,trivial⟩,ty252,⟨⟨trivial,ty253,trivial⟩,ty254,trivial⟩⟩,ty255,⟨⟨⟨trivial,ty256,trivial⟩,ty257,trivial⟩,ty258,⟨trivial,ty259,trivial⟩⟩⟩,ty260,⟨⟨⟨⟨trivial,ty261,trivial⟩,ty262,trivial⟩,ty263,⟨trivial,ty264,trivial⟩⟩,ty265,⟨⟨⟨trivial,ty266,trivial⟩,ty267,trivial⟩,ty268,⟨trivial,ty269,trivial⟩⟩⟩⟩,ty270,⟨⟨⟨⟨⟨trivial,ty271,trivial⟩,ty272,trivial⟩,ty273,⟨⟨trivial,ty274,trivial⟩,ty275,trivial⟩⟩,ty276,⟨⟨⟨trivial,ty277,trivial⟩,ty278,trivial⟩,ty279,⟨trivial,ty280,trivial⟩⟩⟩,ty281,⟨⟨⟨⟨trivial,ty282,trivial⟩,ty283,trivial⟩,ty284,⟨trivial,ty285,trivial⟩⟩,ty286,⟨⟨⟨trivial,ty287,trivial⟩,ty288,trivial⟩,ty289,⟨trivial,ty290,trivial⟩⟩⟩⟩⟩,ty291,⟨⟨⟨⟨⟨⟨trivial,ty292,trivial⟩,ty293,trivial⟩,ty294,⟨⟨trivial,ty295,trivial⟩,ty296,trivial⟩⟩,ty297,⟨⟨⟨trivial,ty298,trivial⟩,ty299,trivial⟩,ty300,⟨trivial,ty301,trivial⟩⟩⟩,ty302,⟨⟨⟨⟨trivial,ty303,trivial⟩,ty304,trivial⟩,ty305,⟨trivial,ty306,trivial⟩⟩,ty307,⟨⟨⟨trivial,ty308,trivial⟩,ty309,trivial⟩,ty310,⟨trivial,ty311,trivial⟩⟩⟩⟩,ty312,⟨⟨⟨⟨⟨trivial,ty313,trivial⟩,ty314,trivial⟩,ty315,⟨trivial,ty316,trivial⟩⟩,ty317,⟨⟨⟨trivial,ty318,trivial⟩,ty319,trivial⟩,ty320,⟨trivial,ty321,trivial⟩⟩⟩,ty322,⟨⟨⟨⟨trivial,ty323,trivial⟩,ty324,trivial⟩,ty325,⟨trivial,ty326,trivial⟩⟩,ty327,⟨⟨⟨trivial,ty328,trivial⟩,ty329,trivial⟩,ty330,⟨trivial,ty331,trivial⟩⟩⟩⟩⟩⟩⟩⟩
theorem pl38 :placesOf Tryz.prog 38=some [(0,1),(1,1)]:=by kernel_rfl
theorem pl54 :placesOf Tryz.prog 54=some [(0,1),(1,1),(2,1)]:=by kernel_rfl
theorem pl79 :placesOf Tryz.prog 79=some [(0,1)]:=by kernel_rfl
theorem pl81 :placesOf Tryz.prog 81=some [(0,1),(1,1),(2,1)]:=by kernel_rfl
theorem pl97 :placesOf Tryz.prog 97=some [(0,1),(1,1),(2,1),(3,1)]:=by kernel_rfl
theorem pl114 :placesOf Tryz.prog 114=some [(0,1),(1,1)]:=by kernel_rfl
theorem pl148 :placesOf Tryz.prog 148=some [(0,1),(1,1),(2,1),(3,1)]:=by kernel_rfl
theorem pl153 :placesOf Tryz.prog 153=some [(0,1),(1,1),(2,1)]:=by kernel_rfl
theorem pl197 :placesOf Tryz.prog 197=some [(0,1),(1,1)]:=by kernel_rfl
theorem pl201 :placesOf Tryz.prog 201=some [(0,2)]:=by kernel_rfl
theorem pl209 :placesOf Tryz.prog 209=some [(0,1),(1,1)]:=by kernel_rfl
theorem pl215 :placesOf Tryz.prog 215=some [(0,1),(1,1),(2,1)]:=by kernel_rfl
theorem pl221 :placesOf Tryz.prog 221=some [(0,1),(1,1),(2,1),(3,1)]:=by kernel_rfl
theorem pl226 :placesOf Tryz.prog 226=some [(0,1),(1,1),(2,1)]:=by kernel_rfl
theorem pl230 :placesOf Tryz.prog 230=some [(0,16),(16,1)]:=by kernel_rfl
theorem pl241 :placesOf Tryz.prog 241=some [(0,1),(1,1),(2,1)]:=by kernel_rfl
theorem pl245 :placesOf Tryz.prog 245=some [(0,1),(1,1),(2,1),(3,1),(4,1),(5,1)]:=by kernel_rfl
theorem pl269 :placesOf Tryz.prog 269=some [(0,1),(1,1)]:=by kernel_rfl
theorem pl273 :placesOf Tryz.prog 273=some [(0,1),(1,1),(2,3)]:=by kernel_rfl
theorem pl278 :placesOf Tryz.prog 278=some [(0,1),(1,1)]:=by kernel_rfl
theorem pl284 :placesOf Tryz.prog 284=some [(0,1),(1,1),(2,1),(3,1),(4,1)]:=by kernel_rfl
end Go.Proofs.YteddogfolceahaaGreatDoor
end
section
namespace Go.Proofs.YteddogfolceahaaGreatDoor
open Go.Gh Go.RowKit
variable {P:Program} {sz:Nat} {ops:Array Oper} {Q:SPost} {rest:List Oper} {a:AF} {h h' h1:SH} {m:Gh.Mode} {t:Nat} {op:Op} {ty:TypeId} {pos:String} {aft:Array Edge} {p:Prop} {v:Value} {dst:Option Tmp} {j d:Nat} {want:Bool}
theorem jK {p:Prop}(h:p:=by repeat with_reducible first|exact Take.nil|apply Take.c|apply Take.drop):p:=h
theorem jC {p:Prop}(h:p:=by repeat with_reducible first|exact Take.nil|apply Take.c):p:=h
theorem jD {p:Prop}(h:p:=by repeat with_reducible first|exact Take.nil|apply Take.drop):p:=h
theorem jN {p:Prop}(h:p:=by repeat with_reducible exact Take.nil):p:=h
theorem jB {p:Prop}(h:p:=by repeat'(first|exact trivial|refine⟨rfl,?_⟩|refine⟨congrArg some ?_,?_⟩)):p:=h
theorem jX {p:Prop}(h:p:=by first|contradiction|(exfalso;omega)):p:=h
theorem jF {fn:Func}{q:SH}{R:Value→SH→Prop}{vs:List Value}(r:ResS P a h fn.results.toList vs:=by first|exact(show ResS _ _ _ _ [_] from⟨rfl,trivial⟩)|exact(show ResS _ _ _ _ [_,_] from⟨rfl,⟨rfl,trivial⟩⟩)|exact(show ResS _ _ _ _ [_,_,_] from⟨rfl,⟨rfl,⟨rfl,trivial⟩⟩⟩))(k:R (resv vs) q)(t:Take h q:=by repeat with_reducible first|exact Take.nil|apply Take.c|apply Take.drop):bodyS P fn R .ret a h:=zL r k t
theorem jG {p:Prop}(h:p:=by exact jF (k:=by exact⟨rfl,rfl⟩)):p:=h
theorem jS {p:Prop}(h:p:=by((with_reducible apply Sd.mk);first|exact True.intro)):p:=h
theorem jO {p:Prop}(h:p:=by((with_reducible apply Sd.mk);first|exact True.intro|omega)):p:=h
theorem jW {p:Prop}(h:p:=by((with_reducible apply Wr.mk);first|exact IntWalk.i64_in _ (by omega))):p:=h
theorem jL {p:Prop}(h:p:=by((with_reducible apply Ln.mk);first|rfl)):p:=h
theorem jE {p:Prop}(h:p:=by((with_reducible apply Ce.mk);first|rfl)):p:=h
theorem jU {p:Prop}(h:p:=by((with_reducible apply Su.mk);first|exact zQ)):p:=h
theorem jP {p:Prop}(h:p:=by((with_reducible apply Pu.mk);first|exact yA rfl)):p:=h
theorem jZ {p:Prop}(h:p:=by((with_reducible apply Se.mk);first|(focus(repeat(first|exact SetAt.zero|apply SetAt.succ));done))):p:=h
theorem jV {p:Prop}(h:p:=by((with_reducible apply Sd.mk);first|exact True.intro|omega|(constructor <;> first|omega|(unfold maxLen;omega)))):p:=h
theorem jg (hp:Sd p)(k:GO m.next Tryz.prog sz ops Q rest ((t,v)::a) h)(hg:gpure tyT a op=some (p,v):=by exact rfl)(hN:Nat.blt t sz=true:=by exact rfl):GO m Tryz.prog sz ops Q (⟨some t,op,ty,pos,aft,none⟩::rest) a h:=o_g zC hg hN hp k
theorem jf {c:Operand}{x y:Code}{p:Prop}{_:Decidable (p)}(k:SWp P sz y Q a h)(hc:ev a c=some (.bool (decide p)):=by exact rfl)(hp:¬p:=by omega):SWp P sz (.cond c x y) Q a h:=yD hc hp k
theorem jd {c:Operand}{x y:Code}{p:Prop}{_:Decidable (p)}(k:SWp P sz x Q a h)(hc:ev a c=some (.bool (decide p)):=by exact rfl)(hp:p:=by omega):SWp P sz (.cond c x y) Q a h:=yC hc hp k
theorem jw (k:GO m P sz ops Q (⟨dst,op,ty,pos,aft,none⟩::rest) a h)(hd:(ops[j]?).bind (·.dst)=some d:=by exact rfl)(hb:get a d=some (.bool want):=by exact rfl):GO m P sz ops Q (⟨dst,op,ty,pos,aft,some (j,want)⟩::rest) a h:=zU hd hb k
theorem jr {id:Nat}(k:GO (.draw 0 [] []) P sz ops Q ops.toList a h)(hm:P.follows .mixedOrders=true:=by kernel_rfl)(hB:chkB ops=true:=by kernel_rfl):SWp P sz (.region id ops true) Q a h:=yH hm hB k
theorem jx {T:Nat}{x:Operand}{s b:Nat}{tk:TK}{z:Option Value}{c:List Value}(k:∀A,GO (m.nw h (A,⟨c,false⟩)) P sz ops Q rest ((t,gptr A 0 s)::a) ((A,⟨c,false⟩)::h))(hT:tyT.get T=some ⟨tk,s,b,z⟩:=by exact rfl)(hx:ev a x=some v:=by exact rfl)(hc:vcl v=some c:=by exact rfl)(hs:c.length=s:=by exact rfl)(hN:Nat.blt t sz=true:=by exact rfl):GO m P sz ops Q (⟨some t,.box T x,ty,pos,aft,none⟩::rest) a h:=o_box hT hx hc hs hN k
theorem jy {T s b:Nat}{tk:TK}{z:Value}{c:List Value}(k:∀A,GO (m.nw h (A,⟨c,false⟩)) Tryz.prog sz ops Q rest ((t,gptr A 0 s)::a) ((A,⟨c,false⟩)::h))(hT:tyT.get T=some ⟨tk,s,b,some z⟩:=by exact rfl)(hc:vcl z=some c:=by exact rfl)(hz:yJ z=true:=by exact rfl)(hs:c.length=s:=by exact rfl)(hN:Nat.blt t sz=true:=by exact rfl):GO m Tryz.prog sz ops Q (⟨some t,.alloc T,ty,pos,aft,none⟩::rest) a h:=yG zC hT hc hz hs hN k
theorem jk {b:Bool}(k:GO m.next P sz ops Q rest ((t,undef)::a) h)(hd:(ops[j]?).bind (·.dst)=some d:=by exact rfl)(hb:get a d=some (.bool b):=by exact rfl)(e:b=!want:=by exact rfl)(hN:Nat.blt t sz=true:=by exact rfl):GO m P sz ops Q (⟨some t,op,ty,pos,aft,some (j,want)⟩::rest) a h:=yF hd hb e hN k
theorem ji {p:Prop}{_:Decidable (p)}{want:Bool}(k:GO m P sz ops Q (⟨some t,op,ty,pos,aft,none⟩::rest) ((d,.bool false)::a) h)(hd:(ops[j]?).bind (·.dst)=some d:=by exact rfl)(hb:get a d=some (.bool (decide p)):=by exact rfl)(hw:want=false:=by exact rfl)(hp:¬p:=by omega):GO m P sz ops Q (⟨some t,op,ty,pos,aft,some (j,want)⟩::rest) a h:=o_gF hd hb hw hp k
theorem jh {p:Prop}{_:Decidable (p)}{want:Bool}(k:GO m P sz ops Q (⟨some t,op,ty,pos,aft,none⟩::rest) ((d,.bool true)::a) h)(hd:(ops[j]?).bind (·.dst)=some d:=by exact rfl)(hb:get a d=some (.bool (decide p)):=by exact rfl)(hw:want=true:=by exact rfl)(hp:p:=by omega):GO m P sz ops Q (⟨some t,op,ty,pos,aft,some (j,want)⟩::rest) a h:=o_gT hd hb hw hp k
theorem jb {T n:Nat}{ps:List (Nat × Operand)}{E s1 b1 s b:Nat}{tk:TK}{z1:Option Value}{z:Value}{vs:List (Nat × Value)}{out:List Value}(k:∀A,GO (m.nw h (A,⟨out,false⟩)) Tryz.prog sz ops Q rest ((t,gsl A 0 (n*s) n s)::a) ((A,⟨out,false⟩)::h))(hT:tyT.get T=some ⟨.slice E,s1,b1,z1⟩:=by exact rfl)(hE:tyT.get E=some ⟨tk,s,b,some z⟩:=by exact rfl)(hz:yJ z=true:=by exact rfl)(hzs:(vcells z).length=s:=by exact rfl)(hv:evps a ps=some vs:=by exact rfl)(hs:0<s:=by decide)(hn:vs.length=n:=by exact rfl)(hle:n*s≤16777216:=by decide)(hc:CatR s 0 vs out:=by repeat(first|exact CatR.nil|(apply CatR.one;exact rfl;exact rfl)))(hN:Nat.blt t sz=true:=by exact rfl):GO m Tryz.prog sz ops Q (⟨some t,.buildSlice T n ps.toArray,ty,pos,aft,none⟩::rest) a h:=zT zC hT hE hz hzs hv hs hn hle hc hN k
theorem jc {x:Operand}{xs:List Operand}{ts:Array TypeId}{f:FuncId}{first captured:Array Value}{as0:List Value}{R:Value→SH→Prop}(k:∀r q,R r q→GO .seq P sz ops Q rest ((t,r)::a) q)(hx:ev a x=some (.func (.func f) first captured):=by exact rfl)(hxs:evs a xs=some as0:=by exact rfl)(hf:enters P f=true:=by exact rfl)(hN:Nat.blt t sz=true:=by exact rfl)(c:∃h1,SRun P f (first.toList++as0++captured.toList) h1 R∧Take h h1):GO .seq P sz ops Q (⟨some t,.call { callee:=.value x,args:=xs.toArray,argTypes:=ts },ty,pos,aft,none⟩::rest) a h:=zD hx hxs hf hN c k
theorem jq {x:Operand}{xs:List Operand}{ts:Array TypeId}{f:FuncId}{first captured:Array Value}{as0:List Value}(k:GO .seq P sz ops Q rest ((t,v)::a) h')(hx:ev a x=some (.func (.func f) first captured):=by exact rfl)(hxs:evs a xs=some as0:=by exact rfl)(hf:enters P f=true:=by exact rfl)(hN:Nat.blt t sz=true:=by exact rfl)(c:∃h1,(SRun P f (first.toList++as0++captured.toList) h1 fun r q=>r=v∧q=h')∧Take h h1):GO .seq P sz ops Q (⟨some t,.call { callee:=.value x,args:=xs.toArray,argTypes:=ts },ty,pos,aft,none⟩::rest) a h:=zD hx hxs hf hN c (by rintro _ _ ⟨rfl,rfl⟩;exact k)
end Go.Proofs.YteddogfolceahaaGreatDoor
end
section
set_option maxRecDepth 4000
namespace Go.Proofs.YteddogfolceahaaGreatDoor
open Go.Gh Go.RowKit

theorem ex8u (m:Int):m/2^(min (Int.toNat 8) IntKind.u32.bits)=m/256:=rfl
theorem ex16u (m:Int):m/2^(min (Int.toNat 16) IntKind.u32.bits)=m/65536:=rfl
theorem ex24u (m:Int):m/2^(min (Int.toNat 24) IntKind.u32.bits)=m/16777216:=rfl
theorem ex8i (m:Int):m/2^(min (Int.toNat 8) IntKind.i64.bits)=m/256:=rfl
theorem w_shl8u (m:Int):IntKind.u32.wrap (m*2^(min (Int.toNat 8) IntKind.u32.bits))=m*256%4294967296:=IntKind.wrap_u32 _
theorem w_quoU {m n:Int}(hm:0≤m)(h:0≤m/n∧m/n≤4294967295):IntKind.u32.wrap (m.tdiv n)=m/n:=by rw[Int.tdiv_eq_ediv_of_nonneg hm];exact IntWalk.u32_in _ h
theorem w_quoI {m n:Int}(hm:0≤m)(h:0≤m/n∧m/n≤9223372036854775807):IntKind.i64.wrap (m.tdiv n)=m/n:=by rw[Int.tdiv_eq_ediv_of_nonneg hm];exact IntWalk.i64_in _ (by omega)
abbrev U (n:Int):Value:=.int .u32 n
abbrev Y (n:Int):Value:=.int .u8 n

def clp (z:Int):Int:=min (max z 1) 2047
theorem clp_in (z:Int):1≤clp z∧clp z≤2047:=by unfold clp;omega
theorem clamp_any (z:Int)(h:SH):SRun Tryz.prog 209 [I z] h fun r q=>r=U (clp z)∧q=h:=by
 refine zR Tryz.func209 rfl rfl ?_
 repeat'(first|apply zF|apply zB|apply zE|refine jg ?_ ?_|(apply o_ar zC;exact rfl;exact rfl)|(apply o_min;iterate 3 exact rfl)|(apply o_max;iterate 3 exact rfl)|apply zA|apply zN|exact jS|((with_reducible apply Wr.mk);first|exact IntWalk.u32_in _ (by omega)))
 exact jG
abbrev vldP (z:Int):Prop:=1≤z∧z≤2047
structure Enc where
 out:List UInt8
 low:Int
 size:Int
def carryAt (l:List UInt8):Nat→List UInt8
 |0=>l
 |k+1=>if(bat l k+1)%256≠0 then l.set k (b8 ((bat l k+1)%256))else carryAt (l.set k (b8 ((bat l k+1)%256))) k
@[simp] theorem carryAt_len (l:List UInt8):∀k,(carryAt l k).length=l.length:=by
 intro k
 induction k generalizing l with
 |zero=>rfl
 |succ k ih=>unfold carryAt;split <;> simp[ih]
def carry (l:List UInt8):List UInt8:=carryAt l l.length
@[simp] theorem carry_len (l:List UInt8):(carry l).length=l.length:=carryAt_len l _
def eshift (e:Enc):Enc:=⟨e.out++[b8 (e.low/16777216)],e.low*256%4294967296,e.size*256⟩
def norm :Nat→Enc→Enc
 |0,e=>e
 |k+1,e=>if e.size<16777216 then norm k (eshift e)else e
def bound (size z:Int):Int:=size/2048*clp z
def estep (e:Enc)(z b:Int):Enc:=if b=0 then⟨e.out,e.low,bound e.size z⟩else
 if 4294967296≤e.low+bound e.size z then⟨carry e.out,e.low+bound e.size z-4294967296,e.size-bound e.size z⟩else⟨e.out,e.low+bound e.size z,e.size-bound e.size z⟩
def ebit (e:Enc)(z b:Int):Enc:=norm 2 (estep e z b)
structure EncOk (n:Nat)(e:Enc):Prop where
 out:e.out.length≤n
 low:0≤e.low∧e.low≤4294967295
 size:16777216≤e.size∧e.size≤4294967295

abbrev encC (sl:Value)(low size:Int):List Value:=[sl,U low,U size]
inductive EncB (n:Nat)(h:SH):Enc→SH→Prop
 |nil (low size:Int):EncB n h ⟨[],low,size⟩ ((n,⟨encC (.slice none 0 0) low size,false⟩)::h)
 |some (o:List UInt8) (low size:Int) (A:Nat):EncB n h ⟨o,low,size⟩ ((n,⟨encC (gsl A 0 o.length o.length 1) low size,false⟩)::(A,⟨bytesV o,false⟩)::h)

theorem EncB.some' {n:Nat}{h:SH}{o:List UInt8}{m:Nat}(hm:o.length=m)(low size:Int)(A:Nat):EncB n h ⟨o,low,size⟩ ((n,⟨encC (gsl A 0 m m 1) low size,false⟩)::(A,⟨bytesV o,false⟩)::h):=by subst hm;exact .some _ _ _ _
theorem NewEncoder_any (h:SH):SRun Tryz.prog 111 [] h fun r q=>∃n,r=gptr n 0 3∧EncB n h ⟨[],0,4294967295⟩ q:=by
 refine w_body0 Tryz.func111 rfl rfl ?_
 repeat'(first|apply zF|apply zB|apply zE|refine jg ?_ ?_|refine jx ?_|(apply yT zC;exact rfl;exact rfl;(focus first|with_reducible exact pl226);exact rfl;(focus repeat(first|exact BuildR.nil|(apply BuildR.one;exact rfl;exact rfl;(first|(focus(repeat(first|exact SetAt.zero|apply SetAt.succ));done)))));exact rfl)|apply zA|apply zN|exact jS|intro A)
 exact jF (k:=by exact⟨A,rfl,.nil _ _⟩)

theorem cell_bytes_set {l:List UInt8}{i n:Int}(hi:0≤i∧i<l.length)(h:0≤n∧n<256):(bytesV (l.set i.toNat (b8 n)))[0+i.toNat*1]?=some (.int .u8 n):=by
 have h1:i.toNat<l.length:=by omega
 rw[Nat.zero_add,Nat.mul_one]
 unfold bytesV
 rw[List.getElem?_map,List.getElem?_set_self h1,Option.map_some]
 exact congrArg (fun x=>some (Value.int .u8 x)) (b8_val h)
theorem carry_any (n:Nat)(e:Enc)(h p:SH)(hb:EncB n h e p)(ho:e.out.length≤1000000) :
  SRun Tryz.prog 210 [gptr n 0 3] p fun _ q=>EncB n h ⟨carry e.out,e.low,e.size⟩ q:=by
 cases hb with
 |nil low size =>
  refine zR Tryz.func210 rfl rfl ?_
  repeat'(first|apply zF|apply zB|apply zE|refine jg ?_ ?_|(apply o_ar zC;exact rfl;exact rfl)|(apply zM zC;(iterate 3 exact rfl);exact pk)|apply zA|apply zH|exact jS|exact jL|exact jW|exact jE|exact True.intro|exact rfl)
  refine zZ (S:=Unit) (fun x=>[(2,I (0-1))]) (fun x=>(n,⟨encC (.slice none 0 0) low size,false⟩)::h) (fun _=>True) (fun _=>0) () trivial jB jK ?_
  rintro - -
  repeat'(first|apply zF|apply zB|apply zE|refine jg ?_ ?_|(apply zS;exact rfl)|apply zA|apply zK|apply zJ|apply zV|exact jS|fail)
  (apply s_finN;(exact(show ResS _ _ _ _ [] from trivial));exact .nil _ _;(focus repeat with_reducible first|exact Take.nil|apply Take.c|apply Take.drop))
 |some o low size A =>
  dsimp only at ho
  refine zR Tryz.func210 rfl rfl ?_
  repeat'(first|apply zF|apply zB|apply zE|refine jg ?_ ?_|(apply o_ar zC;exact rfl;exact rfl)|(apply zM zC;(iterate 3 exact rfl);exact pk)|apply zA|apply zH|exact jS|exact jL|exact jW|exact jE|exact True.intro|exact rfl)
  refine zZ (S:=Nat × List UInt8) (fun x=>[(0,gptr n 0 3),(2,I (x.1-1))]) (fun x=>(n,⟨encC (gsl A 0 o.length o.length 1) low size,false⟩)::(A,⟨bytesV x.2,false⟩)::h)
   (fun x=>x.1≤o.length∧x.2.length=o.length∧carryAt x.2 x.1=carry o) (fun x=>x.1) (o.length,o) ⟨Nat.le_refl _,rfl,rfl⟩ jB jK ?_
  rintro⟨k,l⟩ ⟨hk,hl,he⟩
  dsimp only at hk hl he ⊢
  rw[←hl]
  cases k with
  |zero =>
   repeat'(first|apply zF|apply zB|apply zE|refine jg ?_ ?_|(apply zS;exact rfl)|apply zA|apply zK|apply zJ|apply zV|exact jS|fail)
   (apply s_finN;(exact(show ResS _ _ _ _ [] from trivial));(focus rw[←show l=carry o from he];exact .some _ _ _ A);(focus repeat with_reducible first|exact Take.nil|apply Take.c|apply Take.drop))
  |succ k =>
   rw[show((k+1:Nat):Int)-1=k by omega]
   repeat'(first|apply zF|apply zB|apply zE|refine jg ?_ ?_|(apply o_ar zC;exact rfl;exact rfl)|(apply zM zC;(iterate 3 exact rfl);exact pk)|(apply zX zC;(iterate 4 exact rfl);exact up)|(apply yB;exact rfl)|(apply w_ifN;exact rfl;all_goals intro hc)|apply zA|apply zP|apply zG|apply yP|apply zI|apply zN|apply zH|exact jO|((with_reducible apply Ln.mk);first|rfl|(simp ;first|done|omega))|((with_reducible apply Wr.mk);first|exact IntWalk.i64_in _ (by omega)|exact IntKind.wrap_u8 _)|((with_reducible apply Ce.mk);first|rfl|exact cell_bytes_set (by omega) (by omega)|exact cell_bytes (by omega))|((with_reducible apply Se.mk);first|exact setAt_bytes (by omega) (by omega))|exact True.intro|exact rfl)
   ·(apply zL;(exact(show ResS _ _ _ _ [] from trivial));(focus rw[←he,carryAt,if_pos hc];exact .some' (m:=l.length) (by simp) _ _ A);(focus repeat with_reducible first|exact Take.nil|apply Take.c|apply Take.drop))
   ·refine⟨(k,l.set k (b8 ((bat l k+1)%256))),⟨by show k≤_;omega,by simp[hl],?_⟩,by show k<k+1;omega,jB,jK⟩
    rw[←he,carryAt,if_neg (fun h=>h hc)]

theorem size_dvd {s:Int}(h:16777216≤s∧s≤4294967295)(z:Int):8192≤bound s z∧bound s z+8192≤s:=by
 have h1:=clp_in z
 unfold bound
 generalize clp z=c at *
 have h2:8192≤s/2048:=by omega
 have h3:s/2048*2048≤s:=by omega
 generalize s/2048=d at *
 have h4:d*c≤d*2047:=Int.mul_le_mul_of_nonneg_left h1.2 (by omega)
 have h5:d*1≤d*c:=Int.mul_le_mul_of_nonneg_left h1.1 (by omega)
 omega
theorem estep_ok {n:Nat}{e:Enc}(h:EncOk n e)(z b:Int):(estep e z b).out.length≤n∧(0≤(estep e z b).low∧(estep e z b).low≤4294967295)∧8192≤(estep e z b).size∧(estep e z b).size≤4294967295:=by
 have h1:=size_dvd h.size z
 have:=h.low;have:=h.size;have:=h.out
 unfold estep
 split
 ·dsimp only;omega
 ·split
  ·dsimp only;rw[carry_len];omega
  ·dsimp only;omega

theorem encB_shift_nil {n A:Nat}{h:SH}{low size:Int}(hl:0≤low∧low≤4294967295):EncB n h (eshift ⟨[],low,size⟩) ((n,⟨encC (gsl A 0 (1*1) 1 1) (low*256%4294967296) (size*256),false⟩)::(A,⟨[Y (low/16777216)],false⟩)::h):=by
 have:=EncB.some' (n:=n) (h:=h) (o:=[b8 (low/16777216)]) (m:=1) rfl (low*256%4294967296) (size*256) A
 rw[bytesV_one (by omega)]at this
 exact this
theorem encB_shift {n A:Nat}{h:SH}{o:List UInt8}{low size:Int}(hl:0≤low∧low≤4294967295):EncB n h (eshift ⟨o,low,size⟩) ((n,⟨encC (gsl A 0 (o.length+1*1) (o.length+1) 1) (low*256%4294967296) (size*256),false⟩)::(A,⟨bytesV o++[Y (low/16777216)],false⟩)::h):=by
 have:=EncB.some' (n:=n) (h:=h) (o:=o++[b8 (low/16777216)]) (m:=o.length+1) (by simp) (low*256%4294967296) (size*256) A
 rw[←bytesV_snoc (by omega)]at this
 exact this
theorem norm_go {k:Nat}{e:Enc}(h:e.size<16777216)(g:16777216≤e.size*256^k):∃k',k=k'+1∧norm k e=norm k' (eshift e)∧16777216≤(eshift e).size*256^k':=by
 cases k with
 |zero=>simp at g;omega
 |succ k =>
  refine⟨k,rfl,if_pos h,?_⟩
  show _≤e.size*256*256^k
  rw[Int.mul_assoc,←Int.pow_succ'];exact g
theorem norm_end {k:Nat}{e:Enc}(h:¬e.size<16777216):norm k e=e:=by
 cases k with
 |zero=>rfl
 |succ k=>exact if_neg h

theorem Bit_any (n:Nat)(z b:Int)(e:Enc)(h p:SH)(hb:EncB n h e p)(hok:EncOk 1000000 e) :
  SRun Tryz.prog 170 [gptr n 0 3,I z,I b] p fun _ q=>EncB n h (ebit e z b) q:=by
 have hd:=size_dvd hok.size z
 unfold bound at hd
 have hz:=clp_in z
 have h1:=hok.low;have h2:=hok.size;have h3:=hok.out
 unfold ebit
 have h4:=estep_ok hok z b
 generalize hs:estep e z b=s at h4
 obtain⟨p1,B',hp⟩:∃p1 sl,Pick p n ⟨encC sl e.low e.size,false⟩ p1:=by cases hb <;> exact⟨_,_,Pick.head⟩
 obtain⟨o,low,size⟩:=e
 dsimp only at *
 refine w_body3 Tryz.func170 rfl rfl ?_
 repeat'((fail_if_success (show SWp _ _ (Code.cond (Operand.tmp 17) _ _) _ _ _));first|apply zF|apply zB|apply zE|refine jr ?_|refine jg ?_ ?_|(apply o_ar zC;exact rfl;exact rfl)|(apply zM zC;(iterate 3 exact rfl);exact pk)|(apply yS;(iterate 4 exact rfl);exact⟨_,clamp_any _ _,jN⟩;exact fun _ _ h=>h.1;(focus(repeat(first|exact Flat.c rfl))))|apply zA|exact jO|exact jL|((with_reducible apply Wr.mk);first|exact w_quoU (by omega) (by omega)|exact IntWalk.u32_in _ (by omega))|exact jE|exact True.intro|exact rfl)
 refine w_meet (S:=SH) (fun _=>[(0,gptr n 0 3)]) (fun q=>q) (fun q=>EncB n h s q) ?_ ?_
 ·unfold estep bound at hs
  dsimp only at hs
  cases hb with
  |nil low size =>
   repeat'(first|apply zF|apply zB|apply zE|refine jg ?_ ?_|(apply o_ar zC;exact rfl;exact rfl)|(apply zM zC;(iterate 3 exact rfl);exact pk)|(apply zX zC;(iterate 4 exact rfl);exact up)|(refine jc ?_ (c:=by exact⟨_,carry_any _ _ _ _ (.nil _ _) (by simp),jN⟩);rintro _ _ hb2)|(apply w_if;exact rfl;all_goals intro hc)|apply zA|apply zI|exact jS|exact jL|((with_reducible apply Wr.mk);first|exact IntWalk.u32_in _ (by omega)|exact IntKind.wrap_u32 _)|exact jE|exact jZ|exact True.intro|exact rfl)
   ·rw[if_pos hc]at hs;subst hs
    exact⟨_,.nil _ _,jB,Take.nil⟩
   ·rw[if_neg (show ¬b=0 by assumption),if_pos (by omega),show(low+size/2048*clp z)-4294967296=(low+size/2048*clp z)%4294967296 by omega]at hs;subst hs
    generalize carry []=o2 at hb2
    dsimp only at hb2
    cases hb2 with
    |nil =>
     repeat'(first|apply zE|refine jg ?_ ?_|(apply o_ar zC;exact rfl;exact rfl)|(apply zM zC;(iterate 3 exact rfl);exact pk)|(apply zX zC;(iterate 4 exact rfl);exact up)|apply zA|exact jS|exact jL|((with_reducible apply Wr.mk);first|exact IntWalk.u32_in _ (by omega))|exact jE|exact jZ|exact True.intro|exact rfl)
     exact⟨_,.nil _ _,jB,Take.nil⟩
    |some _ _ _ A =>
     repeat'(first|apply zE|refine jg ?_ ?_|(apply o_ar zC;exact rfl;exact rfl)|(apply zM zC;(iterate 3 exact rfl);exact pk)|(apply zX zC;(iterate 4 exact rfl);exact up)|apply zA|exact jS|exact jL|((with_reducible apply Wr.mk);first|exact IntWalk.u32_in _ (by omega))|exact jE|exact jZ|exact True.intro|exact rfl)
     exact⟨_,.some _ _ _ A,jB,Take.nil⟩
   ·rw[if_neg (show ¬b=0 by assumption),if_neg (by omega),show(low+size/2048*clp z)=(low+size/2048*clp z)%4294967296 by omega]at hs;subst hs
    exact⟨_,.nil _ _,jB,Take.nil⟩
  |some o low size A =>
   repeat'(first|apply zF|apply zB|apply zE|refine jg ?_ ?_|(apply o_ar zC;exact rfl;exact rfl)|(apply zM zC;(iterate 3 exact rfl);exact pk)|(apply zX zC;(iterate 4 exact rfl);exact up)|(refine jc ?_ (c:=by exact⟨_,carry_any _ _ _ _ (.some _ _ _ _) h3,jN⟩);rintro _ _ hb2)|(apply w_if;exact rfl;all_goals intro hc)|apply zA|apply zI|exact jS|exact jL|((with_reducible apply Wr.mk);first|exact IntWalk.u32_in _ (by omega)|exact IntKind.wrap_u32 _)|exact jE|exact jZ|exact True.intro|exact rfl)
   ·rw[if_pos hc]at hs;subst hs
    exact⟨_,.some _ _ _ A,jB,Take.nil⟩
   ·rw[if_neg (show ¬b=0 by assumption),if_pos (by omega),show(low+size/2048*clp z)-4294967296=(low+size/2048*clp z)%4294967296 by omega]at hs;subst hs
    generalize carry o=o2 at hb2
    dsimp only at hb2
    cases hb2 with
    |nil =>
     repeat'(first|apply zE|refine jg ?_ ?_|(apply o_ar zC;exact rfl;exact rfl)|(apply zM zC;(iterate 3 exact rfl);exact pk)|(apply zX zC;(iterate 4 exact rfl);exact up)|apply zA|exact jS|exact jL|((with_reducible apply Wr.mk);first|exact IntWalk.u32_in _ (by omega))|exact jE|exact jZ|exact True.intro|exact rfl)
     exact⟨_,.nil _ _,jB,Take.nil⟩
    |some _ _ _ A =>
     repeat'(first|apply zE|refine jg ?_ ?_|(apply o_ar zC;exact rfl;exact rfl)|(apply zM zC;(iterate 3 exact rfl);exact pk)|(apply zX zC;(iterate 4 exact rfl);exact up)|apply zA|exact jS|exact jL|((with_reducible apply Wr.mk);first|exact IntWalk.u32_in _ (by omega))|exact jE|exact jZ|exact True.intro|exact rfl)
     exact⟨_,.some _ _ _ A,jB,Take.nil⟩
   ·rw[if_neg (show ¬b=0 by assumption),if_neg (by omega),show(low+size/2048*clp z)=(low+size/2048*clp z)%4294967296 by omega]at hs;subst hs
    exact⟨_,.some _ _ _ A,jB,Take.nil⟩
 ·intro q0 hb
  repeat'(first|apply zH)
  refine zZ (S:=Nat × Enc × SH) (fun x=>[(0,gptr n 0 3)]) (fun x=>x.2.2) (fun x=>EncB n h x.2.1 x.2.2∧norm x.1 x.2.1=norm 2 s∧16777216≤x.2.1.size*256^x.1∧0<x.2.1.size∧x.2.1.size≤4294967295∧(0≤x.2.1.low∧x.2.1.low≤4294967295)∧x.2.1.out.length+x.1≤1000002)
   (fun x=>x.1) (2,s,q0) ⟨hb,rfl,by show _≤s.size*256^2;omega,by show 0<s.size;omega,by show s.size≤_;omega,h4.2.1,by show s.out.length+2≤_;omega⟩ jB jK ?_
  rintro⟨k,⟨o,low,size⟩,q⟩ ⟨hb,he,g1,g2,g3,g4,g5⟩
  dsimp only at *
  cases hb with
  |nil =>
   repeat'(first|apply zF|apply zB|apply zE|refine jr ?_|refine jg ?_ ?_|(apply o_ar zC;exact rfl;exact rfl)|(apply o_ex;exact rfl;exact rfl)|(apply zM zC;(iterate 3 exact rfl);exact pk)|(apply zX zC;(iterate 4 exact rfl);exact up)|refine jb ?_|(apply o_append_nil zC;(iterate 5 exact rfl);exact⟨by decide⟩;exact pk)|(apply w_if;exact rfl;all_goals intro hc)|apply zA|apply zK|apply zG|apply zJ|apply zI|apply zV|apply zH|exact jV|exact jL|((with_reducible apply Wr.mk);first|exact w_shl8u _|exact IntWalk.u8_in _ (by omega))|((with_reducible apply Ex.mk);first|exact ex24u _)|exact jE|exact jZ|exact jU|exact True.intro|refine Rc.mk ⟨_,_,pk,?_⟩|exact Or.inl rfl|apply And.intro|apply Or.inr|intro A|exact rfl)
   ·obtain⟨k',rfl,e1,e2⟩:=norm_go (e:=⟨[],low,size⟩) hc g1
    rw[show size*256%4294967296=size*256 by omega]
    refine⟨(k',eshift ⟨[],low,size⟩,_),⟨encB_shift_nil (A:=A) g4,by rw[←e1];exact he,e2,by show 0<size*256;omega,by show size*256≤_;omega,by show 0≤low*256%4294967296∧low*256%4294967296≤_;omega,by show 1+k'≤_;simp only[List.length_nil]at g5;omega⟩,by show k'<k'+1;omega,jB,jK⟩
   ·rw[norm_end hc]at he
    (apply s_finN;(exact(show ResS _ _ _ _ [] from trivial));(focus rw[←he];exact .nil _ _);(focus repeat with_reducible first|exact Take.nil|apply Take.c|apply Take.drop))
  |some _ _ _ A =>
   repeat'(first|apply zF|apply zB|apply zE|refine jr ?_|refine jg ?_ ?_|(apply o_ar zC;exact rfl;exact rfl)|(apply o_ex;exact rfl;exact rfl)|(apply zM zC;(iterate 3 exact rfl);exact pk)|(apply zX zC;(iterate 4 exact rfl);exact up)|refine jb ?_|(apply o_append zC;(iterate 5 exact rfl);exact⟨by decide⟩;exact up;exact pk)|(apply w_if;exact rfl;all_goals intro hc)|apply zA|apply zK|apply zG|apply zJ|apply zI|apply zV|apply zH|exact jV|((with_reducible apply Ln.mk);first|rfl|omega|(simp ;first|done|omega))|((with_reducible apply Wr.mk);first|exact w_shl8u _|exact IntWalk.u8_in _ (by omega))|((with_reducible apply Ex.mk);first|exact ex24u _)|exact jE|exact jZ|exact jU|exact True.intro|refine Rc.mk ⟨_,_,pk,?_⟩|exact Or.inl rfl|apply And.intro|apply Or.inr|intro A|exact rfl)
   ·obtain⟨k',rfl,e1,e2⟩:=norm_go (e:=⟨o,low,size⟩) hc g1
    rw[show size*256%4294967296=size*256 by omega]
    refine⟨(k',eshift ⟨o,low,size⟩,_),⟨encB_shift g4,by rw[←e1];exact he,e2,by show 0<size*256;omega,by show size*256≤_;omega,by show 0≤low*256%4294967296∧low*256%4294967296≤_;omega,by show(o++[_]).length+k'≤_;simp only[List.length_append,List.length_singleton];omega⟩,by show k'<k'+1;omega,jB,Take.drop Take.nil⟩
   ·rw[norm_end hc]at he
    (apply s_finN;(exact(show ResS _ _ _ _ [] from trivial));(focus rw[←he];exact .some _ _ _ A);(focus repeat with_reducible first|exact Take.nil|apply Take.c|apply Take.drop))
theorem norm_ok {n:Nat}:∀{k:Nat} {e:Enc},e.out.length+k≤n→(0≤e.low∧e.low≤4294967295)→16777216≤e.size*256^k→e.size≤4294967295→EncOk n (norm k e)
 |0,e,h1,h2,h3,h4=>⟨by show e.out.length≤n;omega,h2,by show 16777216≤e.size∧e.size≤_;simp at h3;omega⟩
 |k+1,e,h1,h2,h3,h4=>by
  by_cases hc:e.size<16777216
  ·obtain⟨k',e0,e1,e2⟩:=norm_go hc h3
   obtain rfl:k=k':=by omega
   rw[e1]
   exact norm_ok (by show(e.out++[_]).length+k≤n;simp only[List.length_append,List.length_singleton];omega) (by show 0≤e.low*256%4294967296∧e.low*256%4294967296≤_;omega) e2 (by show e.size*256≤_;omega)
  ·rw[norm_end hc];exact⟨by omega,h2,by omega⟩
theorem ebit_ok {n:Nat}{e:Enc}(h:EncOk n e)(z b:Int):EncOk (n+2) (ebit e z b):=by
 have h4:=estep_ok h z b
 exact norm_ok (by omega) h4.2.1 (by omega) h4.2.2.2

theorem and1 (m:Int):((BitVec.ofInt 64 m&&&BitVec.ofInt 64 1).toNat:Int)=m%2:=by
 have h1:(BitVec.ofInt 64 m&&&BitVec.ofInt 64 1).toNat=(BitVec.ofInt 64 m).toNat%2:=by
  rw[BitVec.toNat_and,show(BitVec.ofInt 64 1).toNat=1 from rfl,Nat.and_one_is_mod]
 rw[h1,BitVec.toNat_ofInt]
 omega
theorem w_and1 (m:Int):IntKind.i64.wrap ((BitVec.ofInt IntKind.i64.bits m&&&BitVec.ofInt IntKind.i64.bits 1).toNat:Int)=m%2:=by
 rw[show(IntKind.i64.bits)=64 from rfl,and1]
 exact IntWalk.i64_in _ (by omega)
theorem ex_shrk {m:Int}{k:Nat}(h:k≤64):m/2^(min (Int.toNat (k:Int)) IntKind.i64.bits)=m/2^k:=by
 rw[Int.toNat_natCast,show(IntKind.i64.bits)=64 from rfl,Nat.min_eq_left h]

theorem EncB.pick {n:Nat}{h p:SH}{e:Enc}(hb:EncB n h e p){A:Nat}{b:Blk}{h1:SH}(hp:Pick h A b h1):∃p1,Pick p A b p1:=by
 cases hb with
 |nil=>exact⟨_,.tail hp⟩
 |some=>exact⟨_,.tail (.tail hp)⟩
inductive EncR (n:Nat)(p:SH):Enc→Prop
 |nil (low size:Int) (p1:SH) (hp:Pick p n ⟨encC (.slice none 0 0) low size,false⟩ p1):EncR n p ⟨[],low,size⟩
 |some (o:List UInt8) (low size:Int) (A:Nat) (p1 p2:SH) (hp:Pick p n ⟨encC (gsl A 0 o.length o.length 1) low size,false⟩ p1) (ha:Pick p A ⟨bytesV o,false⟩ p2):EncR n p ⟨o,low,size⟩
theorem EncB.r {n:Nat}{h p:SH}{e:Enc}(hb:EncB n h e p):EncR n p e:=by
 cases hb with
 |nil=>exact .nil _ _ _ .head
 |some=>exact .some _ _ _ _ _ _ .head (.tail .head)
theorem EncR.up {n m:Nat}{h p:SH}{e e2:Enc}(hr:EncR n h e)(hb:EncB m h e2 p):EncR n p e:=by
 cases hr with
 |nil _ _ _ hp=>obtain⟨p1,g⟩:=hb.pick hp;exact .nil _ _ _ g
 |some _ _ _ _ _ _ hp ha=>obtain⟨p1,g⟩:=hb.pick hp;obtain⟨p2,g2⟩:=hb.pick ha;exact .some _ _ _ _ _ _ g g2
theorem EncB.swap {n m:Nat}{h p1 p:SH}{e e2:Enc}(h1:EncB n h e p1)(h2:EncB m p1 e2 p):∃q1 q,EncB m h e2 q1∧EncB n q1 e q∧Take p q:=by
 cases h1 with
 |nil =>
  cases h2 with
  |nil=>exact⟨_,_,.nil _ _,.nil _ _,.cons (.tail .head) .nil⟩
  |some=>exact⟨_,_,.some _ _ _ _,.nil _ _,.cons (.tail (.tail .head)) .nil⟩
 |some =>
  cases h2 with
  |nil=>exact⟨_,_,.nil _ _,.some _ _ _ _,.cons (.tail .head) (.cons (.tail .head) .nil)⟩
  |some=>exact⟨_,_,.some _ _ _ _,.some _ _ _ _,.cons (.tail (.tail .head)) (.cons (.tail (.tail .head)) .nil)⟩
theorem EncB.take {n:Nat}{h p:SH}{e:Enc}(hb:EncB n h e p):Take p h:=by
 cases hb with
 |nil=>exact .drop .nil
 |some=>exact .drop (.drop .nil)
def ebits (v:Int):Nat→Enc→Enc
 |0,e=>e
 |k+1,e=>ebits v k (ebit e 1024 (v/2^k%2))
def edir (e:Enc)(n v:Int):Enc:=if n<0∨62<n then e else ebits v n.toNat e
theorem ebits_ok {v:Int}:∀{k n:Nat} {e:Enc},EncOk n e→EncOk (n+2*k) (ebits v k e)
 |0,n,e,h=>h
 |k+1,n,e,h=>by
  have:=ebits_ok (v:=v) (k:=k) (ebit_ok h 1024 (v/2^k%2))
  rw[show n+2*(k+1)=n+2+2*k by omega];exact this
theorem EncOk.mono {n m:Nat}{e:Enc}(h:EncOk n e)(hm:n≤m):EncOk m e:=⟨by have:=h.out;omega,h.low,h.size⟩
theorem edir_ok {n:Nat}{e:Enc}(h:EncOk n e)(x v:Int):EncOk (n+124) (edir e x v):=by
 unfold edir
 split
 ·exact h.mono (by omega)
 ·exact(ebits_ok h).mono (by omega)

theorem Direct_any (n:Nat)(x v:Int)(e:Enc)(h p:SH)(hb:EncB n h e p)(hok:EncOk 999000 e) :
  SRun Tryz.prog 173 [gptr n 0 3,I x,I v] p fun _ q=>EncB n h (edir e x v) q:=by
 refine w_body3 Tryz.func173 rfl rfl ?_
 repeat'(first|apply zF|apply zB|apply zE|refine jg ?_ ?_|(apply o_ar zC;exact rfl;exact rfl)|refine jw ?_|refine jk ?_|(apply o_guardF;(iterate 3 exact rfl);all_goals intro hc)|(apply yB;exact rfl)|(apply w_if;exact rfl;all_goals intro hc)|apply zA|apply zP|apply zI|apply zN|apply zH|exact jS|exact jW|fail)
 all_goals first|(apply zL;(exact(show ResS _ _ _ _ [] from trivial));(focus rw[show edir e x v=e from if_pos (by omega)];exact hb);(focus repeat with_reducible first|exact Take.nil|apply Take.c|apply Take.drop))|skip
 obtain⟨m,rfl⟩:=Int.eq_ofNat_of_zero_le (show 0≤x by omega)
 have he:edir e m v=ebits v m e:=if_neg (by omega)
 refine zZ (S:=Nat × Enc × SH × Nat) (fun x=>[(0,gptr n 0 3),(2,I v),(6,I ((x.1:Int)-1))]) (fun x=>x.2.2.1) (fun x=>EncB n h x.2.1 x.2.2.1∧EncOk x.2.2.2 x.2.1∧x.2.2.2+2*x.1≤999200∧x.1≤m∧ebits v x.1 x.2.1=edir e m v)
  (fun x=>x.1) (m,e,p,999000) ⟨hb,hok,by show 999000+2*m≤_;omega,Nat.le_refl _,he.symm⟩ jB jK ?_
 rintro⟨k,e1,p1,c⟩ ⟨hb1,hok1,hc1,hkm,he1⟩
 dsimp only at *
 cases k with
 |zero =>
  repeat'(first|apply zF|apply zB|apply zE|refine jg ?_ ?_|(apply zS;exact rfl)|apply zA|apply zK|apply zJ|apply zV|exact jS|fail)
  (apply s_finN;(exact(show ResS _ _ _ _ [] from trivial));(focus rw[←he1];exact hb1);(focus repeat with_reducible first|exact Take.nil|apply Take.c|apply Take.drop))
 |succ k =>
  rw[show((k+1:Nat):Int)-1=k by omega]
  repeat'(first|apply zF|apply zB|apply zE|refine jg ?_ ?_|(apply o_ar zC;exact rfl;exact rfl)|(apply o_ex;exact rfl;exact rfl)|(refine jc ?_ (c:=by exact⟨_,Bit_any _ _ _ _ _ _ hb1 (hok1.mono (by omega)),jN⟩);rintro _ _ hb2)|(apply yB;exact rfl)|apply zA|apply zG|apply zI|apply zH|exact jO|((with_reducible apply Wr.mk);first|exact w_and1 _|exact IntWalk.i64_in _ (by omega))|((with_reducible apply Ex.mk);first|exact ex_shrk (by omega)))
  exact⟨(k,_,_,c+2),⟨hb2,ebit_ok hok1 _ _,by show c+2+2*k≤_;omega,by show k≤m;omega,he1⟩,by show k<k+1;omega,jB,jK⟩

def tail4 (low:Int):List UInt8:=[b8 (low/16777216),b8 (low/65536%256),b8 (low/256%256),b8 (low%256)]
def fin (e:Enc):List UInt8:=e.out++tail4 e.low
theorem subAt_tail {low:Int}(h:0≤low∧low≤4294967295):SubAt [Y (low/16777216),Y (low/65536%256),Y (low/256%256),Y (low%256)] 0 (bytesV (tail4 low)):=by
 have e:bytesV (tail4 low)=[Y (low/16777216),Y (low/65536%256),Y (low/256%256),Y (low%256)]:=by
  unfold tail4
  rw[show ∀a b c d:UInt8,[a,b,c,d]=[a]++([b]++([c]++[d]))from fun _ _ _ _=>rfl,bytesV_app,bytesV_app,bytesV_app,bytesV_one (by omega),bytesV_one (by omega),bytesV_one (by omega),bytesV_one (by omega)]
  rfl
 rw[e];exact zQ
theorem tail4_len (l:Int):(tail4 l).length=4:=rfl
theorem Finish_any (n:Nat)(e:Enc)(p:SH)(hb:EncR n p e)(ho:e.out.length≤1000000)(hl:0≤e.low∧e.low≤4294967295) :
  SRun Tryz.prog 116 [gptr n 0 3] p fun r q=>r=S (fin e)∧q=p:=by
 cases hb with
 |nil _ _ _ hp =>
  dsimp only at ho hl
  refine zR Tryz.func116 rfl rfl ?_
  repeat'(first|apply zF|apply zB|apply zE|refine jr ?_|refine jg ?_ ?_|(apply o_ar zC;exact rfl;exact rfl)|(apply o_ex;exact rfl;exact rfl)|(apply zM zC;(iterate 3 exact rfl);exact pk)|(apply yE zC;(iterate 4 exact rfl);exact⟨rfl⟩;exact up)|refine jy ?_|(apply o_buildArr zC;(iterate 4 exact rfl);(focus repeat(first|exact BuildR.nil|(apply BuildR.one;exact rfl;exact rfl;(first|(focus(repeat(first|exact SetAt.zero|apply SetAt.succ));done)))));exact rfl)|(apply o_toString zC;(iterate 6 exact rfl);exact pk)|(apply o_toString_nil zC;iterate 7 exact rfl)|apply zA|apply zN|((with_reducible apply Sd.mk);first|exact True.intro|omega|(unfold maxLen;omega)|(simp only[tail4_len,List.length_nil];omega))|exact jL|((with_reducible apply Wr.mk);first|exact IntWalk.u8_in _ (by omega)|exact IntKind.wrap_u8 _)|((with_reducible apply Ex.mk);first|exact ex8u _|exact ex16u _|exact ex24u _)|exact jE|exact jP|((with_reducible apply Su.mk);first|exact subAt_tail (by omega))|exact True.intro|exact Or.inl rfl|apply And.intro|intro A|exact rfl)
  exact jG
 |some _ _ _ _ _ _ hp ha =>
  dsimp only at ho hl
  refine zR Tryz.func116 rfl rfl ?_
  repeat'(first|apply zF|apply zB|apply zE|refine jr ?_|refine jg ?_ ?_|(apply o_ar zC;exact rfl;exact rfl)|(apply o_ex;exact rfl;exact rfl)|(apply zM zC;(iterate 3 exact rfl);exact pk)|(apply yE zC;(iterate 4 exact rfl);exact⟨rfl⟩;exact up)|refine jy ?_|(apply o_buildArr zC;(iterate 4 exact rfl);(focus repeat(first|exact BuildR.nil|(apply BuildR.one;exact rfl;exact rfl;(first|(focus(repeat(first|exact SetAt.zero|apply SetAt.succ));done)))));exact rfl)|(apply o_toString zC;(iterate 6 exact rfl);exact pk)|apply zA|apply zN|((with_reducible apply Sd.mk);first|exact True.intro|omega|(unfold maxLen;omega)|(simp only[tail4_len,List.length_nil];omega))|((with_reducible apply Ln.mk);first|rfl|(simp ;first|done|omega))|((with_reducible apply Wr.mk);first|exact IntWalk.u8_in _ (by omega)|exact IntKind.wrap_u8 _)|((with_reducible apply Ex.mk);first|exact ex8u _|exact ex16u _|exact ex24u _)|exact jE|exact jP|((with_reducible apply Su.mk);first|exact subAt_tail (by omega)|exact zQ)|exact True.intro|exact Or.inl rfl|apply And.intro|intro A|exact rfl)
  exact jG

abbrev stF (s:Int × Int):List Value:=[I s.1,I s.2]
theorem stW (s:Int × Int):(stF s).length=2:=rfl
@[simp] theorem len_sts (l:List (Int × Int)):(recs stF l).length=2*l.length:=by rw[recs_len stW];omega
abbrev vldS (s:Int × Int):Prop:=vldP s.1∧(s.2=0∨s.2=1)
def erun :List (Int × Int)→Enc→Option Enc
 |[],e=>some e
 |s::r,e=>if vldS s then erun r (ebit e s.1 s.2)else none
def enc (l:List (Int × Int)):List UInt8 × Int:=match erun l ⟨[],0,4294967295⟩with
 |some e=>(fin e,0)
 |none=>([],1)
abbrev Er (n:Int):Value:=.int .i64 n


theorem or_low {a b:Nat}(n:Nat)(h:b<2^n):2^n*a ||| b=2^n*a+b:=(Nat.two_pow_add_eq_or_of_lt h a).symm
theorem or8n (q c:Nat)(hq:q<16777216)(hc:c<256):(BitVec.ofInt 32 ((q*256:Nat):Int) ||| BitVec.ofInt 32 (c:Int)).toNat=q*256+c:=by
 rw[BitVec.ofInt_natCast,BitVec.ofInt_natCast,BitVec.toNat_or,BitVec.toNat_ofNat,BitVec.toNat_ofNat,Nat.mod_eq_of_lt (by omega),Nat.mod_eq_of_lt (by omega),Nat.mul_comm q 256]
 exact or_low 8 hc
theorem w_or8 (m c:Int)(h:0≤c∧c<256):IntKind.u32.wrap ((BitVec.ofInt IntKind.u32.bits (m*256%4294967296) ||| BitVec.ofInt IntKind.u32.bits c).toNat:Int)=m*256%4294967296+c:=by
 obtain⟨c,rfl⟩:=Int.eq_ofNat_of_zero_le h.1
 obtain⟨q,hq,hq2⟩:∃q:Nat,m*256%4294967296=((q*256:Nat):Int)∧q<16777216:=⟨(m%16777216).toNat,by omega,by omega⟩
 rw[hq,show(IntKind.u32.bits)=32 from rfl,or8n q c hq2 (by omega),IntWalk.u32_in _ (by omega)]
 omega

structure Dec where
 rest:List UInt8
 code:Int
 size:Int
 missing:Bool
 full:Bool
structure DecOk (d:Dec):Prop where
 rest:d.rest.length≤1000000
 code:0≤d.code∧d.code≤4294967295
 size:16777216≤d.size∧d.size≤4294967295
def dnext (d:Dec):Dec:=match d.rest with
 |[]=>{ d with missing:=true,code:=d.code*256%4294967296+0 }
 |c::r=>{ d with rest:=r,code:=d.code*256%4294967296+c.toNat }
abbrev decC (d:Dec):List Value:=[S d.rest,U d.code,U d.size,B d.missing,B d.full]
abbrev decB (n:Nat)(d:Dec):Nat × Blk:=(n,⟨decC d,false⟩)

theorem next_any (n:Nat)(d:Dec)(h:SH)(hr:d.rest.length≤9223372036854775807):SRun Tryz.prog 218 [gptr n 0 5] (decB n d::h) fun _ q=>q=decB n (dnext d)::h:=by
 obtain⟨rest,code,size,missing,full⟩:=d
 dsimp only at hr
 cases rest with
 |nil =>
  show SRun _ _ _ ((n,⟨[S [],U code,U size,B missing,B full],false⟩)::h) _
  refine zR Tryz.func218 rfl rfl ?_
  repeat'(first|apply zF|apply zB|apply zE|refine jg ?_ ?_|(apply o_ar zC;exact rfl;exact rfl)|(apply zM zC;(iterate 3 exact rfl);exact pk)|(apply zX zC;(iterate 4 exact rfl);exact up)|(apply yB;exact rfl)|apply zA|exact jO|exact jL|((with_reducible apply Wr.mk);first|exact w_shl8u _|exact w_or8 _ _ (by omega)|exact IntWalk.u32_in _ (by omega))|exact jE|exact jZ|exact True.intro|exact rfl)
  (apply s_finN;(exact(show ResS _ _ _ _ [] from trivial));(focus rfl);(focus repeat(first|with_reducible exact Take.nil|with_reducible apply Take.c|((with_reducible apply Take.cE);first|exact rfl|(apply blkE;(focus first|exact rfl|exact yI rfl|exact yO rfl|exact congrArg (fun v=>[v]) (gslE rfl rfl (by first|rfl|exact ‹_›|omega|(simp ;first|done|omega)) (by first|rfl|exact ‹_›|omega|(simp ;first|done|omega)) rfl))))|with_reducible apply Take.drop)))
 |cons c r =>
  have hc1:0≤bat (c::r) 0∧bat (c::r) 0<256:=by
   have:=c.toNat_lt
   show(0:Int)≤(c.toNat:Int)∧(c.toNat:Int)<256;omega
  rw[List.length_cons]at hr
  show SRun _ _ _ ((n,⟨[S (c::r),U code,U size,B missing,B full],false⟩)::h) _
  refine zR Tryz.func218 rfl rfl ?_
  repeat'(first|apply zF|apply zB|apply zE|refine jr ?_|refine jg ?_ ?_|(apply o_ar zC;exact rfl;exact rfl)|(apply zM zC;(iterate 3 exact rfl);exact pk)|(apply zX zC;(iterate 4 exact rfl);exact up)|(apply zS;exact rfl)|apply zA|((with_reducible apply Sd.mk);first|exact True.intro|omega|(simp only[List.length_cons];omega))|exact jL|((with_reducible apply Wr.mk);first|exact w_shl8u _|exact w_or8 _ _ (by omega)|exact IntWalk.u32_in _ (by omega))|exact jE|exact jZ|exact True.intro|exact Or.inl rfl|apply And.intro|exact rfl)
  (apply s_finN;(exact(show ResS _ _ _ _ [] from trivial));(focus rfl);(focus repeat(first|with_reducible exact Take.nil|with_reducible apply Take.c|((with_reducible apply Take.cE);first|exact rfl|(apply blkE;(focus first|exact rfl|exact yI rfl|exact yO rfl|exact congrArg (fun v=>[v]) (gslE rfl rfl (by first|rfl|exact ‹_›|omega|(simp ;first|done|omega)) (by first|rfl|exact ‹_›|omega|(simp ;first|done|omega)) rfl))))|with_reducible apply Take.drop)))
theorem dnext_ok (d:Dec):0≤(dnext d).code∧(dnext d).code≤4294967295∧(dnext d).size=d.size∧(dnext d).rest.length≤d.rest.length:=by
 obtain⟨rest,code,size,missing,full⟩:=d
 cases rest with
 |nil=>simp only[dnext];refine⟨?_,?_,trivial,Nat.le_refl _⟩ <;> omega
 |cons c r =>
  have:=c.toNat_lt
  simp only[dnext,List.length_cons];refine⟨?_,?_,trivial,?_⟩ <;> omega

def dnew (l:List UInt8):Dec :=
 let d:=dnext (dnext (dnext (dnext ⟨l,0,4294967295,false,false⟩)))
 { d with full:=decide (d.code=d.size) }
def dnexts :Nat→Dec→Dec
 |0,d=>d
 |k+1,d=>dnexts k (dnext d)
theorem NewDecoder_any (l:List UInt8)(h:SH)(hl:l.length≤1000000):SRun Tryz.prog 177 [S l] h fun r q=>∃n,r=gptr n 0 5∧q=decB n (dnew l)::h:=by
 refine zR Tryz.func177 rfl rfl ?_
 repeat'(first|apply zF|apply zB|apply zE|refine jg ?_ ?_|refine jx ?_|(apply yT zC;exact rfl;exact rfl;(focus first|with_reducible exact pl284);exact rfl;(focus repeat(first|exact BuildR.nil|(apply BuildR.one;exact rfl;exact rfl;(first|(focus(repeat(first|exact SetAt.zero|apply SetAt.succ));done)))));exact rfl)|apply zA|apply zH|exact jS|intro A)
 refine zZ (S:=Nat × Dec) (fun x=>[(3,gptr A 0 5),(7,I x.1)]) (fun x=>decB A x.2::h) (fun x=>x.1≤4∧x.2.rest.length≤1000000∧dnexts (4-x.1) x.2=dnexts 4 ⟨l,0,4294967295,false,false⟩) (fun x=>4-x.1)
  (0,⟨l,0,4294967295,false,false⟩) ⟨by omega,hl,rfl⟩ jB jK ?_
 rintro⟨k,d⟩ ⟨hk,hd,he⟩
 dsimp only at *
 by_cases hkl:k<4
 ·repeat'(first|apply zF|apply zB|apply zE|refine jg ?_ ?_|(apply o_ar zC;exact rfl;exact rfl)|(refine jc ?_ (c:=by exact⟨_,next_any _ d _ (by omega),jN⟩);rintro _ _ rfl)|refine jd ?_|apply zA|apply zG|apply zI|apply zH|exact jS|exact jW|fail)
  exact⟨(k+1,dnext d),⟨hkl,by have:=(dnext_ok d).2.2.2;show(dnext d).rest.length≤_;omega,by rw[←he,show 4-k=(4-(k+1))+1 by omega];rfl⟩,by show 4-(k+1)<4-k;omega,jB,jK⟩
 ·rw[show 4-k=0 by omega]at he
  obtain rfl:d=dnexts 4 ⟨l,0,4294967295,false,false⟩:=he
  repeat'(first|apply zF|apply zB|apply zE|refine jr ?_|refine jg ?_ ?_|(apply zM zC;(iterate 3 exact rfl);exact pk)|(apply zX zC;(iterate 4 exact rfl);exact up)|refine jf ?_|apply zA|apply zK|apply zJ|apply zN|apply zV|exact jS|exact jL|exact jE|exact jZ|exact True.intro|exact Or.inl rfl|apply And.intro|exact rfl)
  (apply zL;(exact(show ResS _ _ _ _ [_] from⟨rfl,trivial⟩));exact⟨A,rfl,rfl⟩;(focus repeat(first|with_reducible exact Take.nil|with_reducible apply Take.c|((with_reducible apply Take.cE);first|exact rfl|(apply blkE;(focus first|exact rfl|exact yI rfl|exact yO rfl|exact congrArg (fun v=>[v]) (gslE rfl rfl (by first|rfl|exact ‹_›|omega|(simp ;first|done|omega)) (by first|rfl|exact ‹_›|omega|(simp ;first|done|omega)) rfl))))|with_reducible apply Take.drop)))

def dnorm :Nat→Dec→Dec
 |0,d=>d
 |k+1,d=>if d.size<16777216 then dnorm k { dnext d with size:=(dnext d).size*256 } else d
def dstep (d:Dec)(z:Int):Dec × Int:=if d.code<bound d.size z then({ d with size:=bound d.size z },0)else({ d with code:=d.code-bound d.size z,size:=d.size-bound d.size z },1)
def dbit (d:Dec)(z:Int):Dec × Int:=(dnorm 2 (dstep d z).1,(dstep d z).2)
theorem dstep_ok {d:Dec}(h:DecOk d)(z:Int):(dstep d z).1.rest.length≤1000000∧(0≤(dstep d z).1.code∧(dstep d z).1.code≤4294967295)∧8192≤(dstep d z).1.size∧(dstep d z).1.size≤4294967295:=by
 have h1:=size_dvd h.size z
 have:=h.rest;have:=h.code;have:=h.size
 unfold dstep
 split <;> (dsimp only;omega)
theorem dnorm_go {k:Nat}{d:Dec}(h:d.size<16777216)(g:16777216≤d.size*256^k):∃k',k=k'+1∧dnorm k d=dnorm k' { dnext d with size:=(dnext d).size*256 }∧16777216≤(dnext d).size*256*256^k':=by
 cases k with
 |zero=>simp at g;omega
 |succ k =>
  refine⟨k,rfl,if_pos h,?_⟩
  rw[(dnext_ok d).2.2.1,Int.mul_assoc,←Int.pow_succ'];exact g
theorem dnorm_end {k:Nat}{d:Dec}(h:¬d.size<16777216):dnorm k d=d:=by
 cases k with
 |zero=>rfl
 |succ k=>exact if_neg h
theorem dnorm_ok :∀{k:Nat} {d:Dec},d.rest.length≤1000000→(0≤d.code∧d.code≤4294967295)→16777216≤d.size*256^k→d.size≤4294967295→DecOk (dnorm k d)
 |0,d,h1,h2,h3,h4=>⟨h1,h2,by show 16777216≤d.size∧d.size≤_;simp at h3;omega⟩
 |k+1,d,h1,h2,h3,h4=>by
  by_cases hc:d.size<16777216
  ·obtain⟨k',e0,e1,e2⟩:=dnorm_go hc h3
   obtain rfl:k=k':=by omega
   obtain⟨g1,g2,g3,g4⟩:=dnext_ok d
   rw[e1]
   exact dnorm_ok (by show(dnext d).rest.length≤_;omega) ⟨g1,g2⟩ e2 (by show(dnext d).size*256≤_;omega)
  ·rw[dnorm_end hc];exact⟨h1,h2,by omega⟩
theorem dbit_ok {d:Dec}(h:DecOk d)(z:Int):DecOk (dbit d z).1:=by
 have h4:=dstep_ok h z
 exact dnorm_ok h4.1 h4.2.1 (by omega) h4.2.2.2
theorem dnew_ok {l:List UInt8}(hl:l.length≤1000000):DecOk (dnew l):=by
 have h1:=dnext_ok ⟨l,0,4294967295,false,false⟩
 have h2:=dnext_ok (dnext ⟨l,0,4294967295,false,false⟩)
 have h3:=dnext_ok (dnext (dnext ⟨l,0,4294967295,false,false⟩))
 have h4:=dnext_ok (dnext (dnext (dnext ⟨l,0,4294967295,false,false⟩)))
 refine⟨?_,⟨h4.1,h4.2.1⟩,?_⟩
 ·have:∀d:Dec,d.rest.length=d.rest.length:=fun _=>rfl
  show(dnext (dnext (dnext (dnext ⟨l,0,4294967295,false,false⟩)))).rest.length≤_
  dsimp only at h1;omega
 ·show 16777216≤(dnext (dnext (dnext (dnext ⟨l,0,4294967295,false,false⟩)))).size∧(dnext (dnext (dnext (dnext ⟨l,0,4294967295,false,false⟩)))).size≤_
  dsimp only at h1;omega

theorem dBit_any (n:Nat)(z:Int)(d:Dec)(h:SH)(hok:DecOk d) :
  SRun Tryz.prog 241 [gptr n 0 5,I z] (decB n d::h) fun r q=>r=I (dbit d z).2∧q=decB n (dbit d z).1::h:=by
 have hd:=size_dvd hok.size z
 unfold bound at hd
 have hz:=clp_in z
 have h1:=hok.code;have h2:=hok.size;have h3:=hok.rest
 unfold dbit
 have h4:=dstep_ok hok z
 generalize hs:dstep d z=s at h4
 refine zY Tryz.func241 rfl rfl ?_
 repeat'((fail_if_success (show SWp _ _ (Code.cond (Operand.tmp 20) _ _) _ _ _));first|apply zF|apply zB|apply zE|refine jr ?_|refine jg ?_ ?_|(apply o_ar zC;exact rfl;exact rfl)|(apply zM zC;(iterate 3 exact rfl);exact pk)|(apply yS;(iterate 4 exact rfl);exact⟨_,clamp_any _ _,jN⟩;exact fun _ _ h=>h.1;(focus(repeat(first|exact Flat.c rfl))))|apply zA|exact jO|exact jL|((with_reducible apply Wr.mk);first|exact w_quoU (by omega) (by omega)|exact IntWalk.u32_in _ (by omega))|exact jE|exact True.intro|exact rfl)
 refine w_meet (S:=Unit) (fun _=>[(0,gptr n 0 5),(6,I s.2)]) (fun _=>decB n s.1::h) (fun q=>True) ?_ ?_
 ·unfold dstep bound at hs
  repeat'(first|apply zB|apply zE|refine jr ?_|refine jg ?_ ?_|(apply o_ar zC;exact rfl;exact rfl)|(apply zM zC;(iterate 3 exact rfl);exact pk)|(apply zX zC;(iterate 4 exact rfl);exact up)|(apply w_if;exact rfl;all_goals intro hc)|apply zA|exact jS|exact jL|((with_reducible apply Wr.mk);first|exact IntWalk.u32_in _ (by omega))|exact jE|exact jZ|exact True.intro|exact Or.inl rfl|apply And.intro|exact rfl)
  ·rw[if_pos hc]at hs;subst hs
   exact⟨(),trivial,jB,jK⟩
  ·rw[if_neg hc]at hs;subst hs
   exact⟨(),trivial,jB,jK⟩
 ·rintro - -
  repeat'(first|apply zF|apply zH)
  refine zZ (S:=Nat × Dec) (fun x=>[(0,gptr n 0 5),(6,I s.2)]) (fun x=>decB n x.2::h) (fun x=>dnorm x.1 x.2=dnorm 2 s.1∧16777216≤x.2.size*256^x.1∧0<x.2.size∧x.2.size≤4294967295∧(0≤x.2.code∧x.2.code≤4294967295)∧x.2.rest.length≤1000000)
   (fun x=>x.1) (2,s.1) ⟨rfl,by show _≤s.1.size*256^2;omega,by show 0<s.1.size;omega,by show s.1.size≤_;omega,h4.2.1,h4.1⟩ jB jK ?_
  rintro⟨k,d⟩ ⟨he,g1,g2,g3,g4,g5⟩
  dsimp only at he g1 g2 g3 g4 g5 ⊢
  obtain⟨q1,q2,q3,q4⟩:=dnext_ok d
  repeat'(first|apply zF|apply zB|apply zE|refine jg ?_ ?_|(apply o_ar zC;exact rfl;exact rfl)|(apply zM zC;(iterate 3 exact rfl);exact pk)|(apply zX zC;(iterate 4 exact rfl);exact up)|(refine jc ?_ (c:=by exact⟨_,next_any _ d _ (by omega),jN⟩);rintro _ _ rfl)|(apply w_if;exact rfl;all_goals intro hc)|apply zA|apply zK|apply zG|apply zJ|apply zI|apply zN|apply zV|apply zH|exact jO|exact jL|((with_reducible apply Wr.mk);first|exact w_shl8u _)|exact jE|exact jZ|exact True.intro|exact rfl)
  ·obtain⟨k',rfl,e1,e2⟩:=dnorm_go hc g1
   rw[show(dnext d).size*256%4294967296=(dnext d).size*256 by omega]
   exact⟨(k',{ dnext d with size:=(dnext d).size*256 }),⟨by rw[←e1];exact he,e2,by show 0<(dnext d).size*256;omega,by show(dnext d).size*256≤_;omega,⟨q1,q2⟩,by show(dnext d).rest.length≤_;omega⟩,by show k'<k'+1;omega,jB,jK⟩
  ·rw[dnorm_end hc]at he
   exact jF (k:=by rw[←he];exact⟨rfl,rfl⟩)

theorem w_shl1 {v:Int}(h:0≤v∧v<4611686018427387904):IntKind.i64.wrap (v*2^(min (Int.toNat 1) IntKind.i64.bits))=v*2:=by
 rw[show(2:Int)^(min (Int.toNat 1) IntKind.i64.bits)=2 from rfl]
 exact IntWalk.i64_in _ (by omega)
theorem or1n (q c:Nat)(hq:q<4611686018427387904)(hc:c<2):(BitVec.ofInt 64 ((q*2:Nat):Int) ||| BitVec.ofInt 64 (c:Int)).toNat=q*2+c:=by
 rw[BitVec.ofInt_natCast,BitVec.ofInt_natCast,BitVec.toNat_or,BitVec.toNat_ofNat,BitVec.toNat_ofNat,Nat.mod_eq_of_lt (by omega),Nat.mod_eq_of_lt (by omega),Nat.mul_comm q 2]
 exact or_low 1 hc
theorem w_or1 {v c:Int}(h:0≤v∧v<4611686018427387904)(hc:0≤c∧c<2):IntKind.i64.wrap ((BitVec.ofInt IntKind.i64.bits (v*2) ||| BitVec.ofInt IntKind.i64.bits c).toNat:Int)=v*2+c:=by
 obtain⟨q,rfl⟩:=Int.eq_ofNat_of_zero_le h.1
 obtain⟨c,rfl⟩:=Int.eq_ofNat_of_zero_le hc.1
 rw[show(IntKind.i64.bits)=64 from rfl,show((q:Int))*2=((q*2:Nat):Int)by omega,or1n q c (by omega) (by omega),IntWalk.i64_in _ (by omega)]
 omega

theorem dbit_bit (d:Dec)(z:Int):0≤(dbit d z).2∧(dbit d z).2<2:=by
 show 0≤(dstep d z).2∧(dstep d z).2<2
 unfold dstep;split <;> (dsimp only;omega)
def dbits :Nat→Dec→Int→Dec × Int
 |0,d,v=>(d,v)
 |k+1,d,v=>dbits k (dbit d 1024).1 (v*2+(dbit d 1024).2)
def ddir (d:Dec)(n:Int):Dec × Int:=if n<0∨62<n then(d,0)else dbits n.toNat d 0
theorem dbits_ok :∀{k:Nat} {d:Dec} {v:Int},DecOk d→DecOk (dbits k d v).1
 |0,_,_,h=>h
 |k+1,d,v,h=>by unfold dbits;exact dbits_ok (dbit_ok h _)
theorem ddir_ok {d:Dec}(h:DecOk d)(n:Int):DecOk (ddir d n).1:=by
 unfold ddir
 split
 ·exact h
 ·exact dbits_ok h
theorem two_le {j n:Nat}(h:j≤n):(2:Int)^j≤2^n:=by
 have:=Nat.pow_le_pow_right (n:=2) (by decide) h
 exact_mod_cast this

theorem dDirect_any (n:Nat)(x:Int)(d:Dec)(h:SH)(hok:DecOk d) :
  SRun Tryz.prog 242 [gptr n 0 5,I x] (decB n d::h) fun r q=>r=I (ddir d x).2∧q=decB n (ddir d x).1::h:=by
 refine zY Tryz.func242 rfl rfl ?_
 repeat'(first|apply zF|apply zB|apply zE|refine jg ?_ ?_|refine jw ?_|refine jk ?_|(apply o_guardF;(iterate 3 exact rfl);all_goals intro hc)|(apply yB;exact rfl)|(apply w_if;exact rfl;all_goals intro hc)|apply zA|apply zP|apply zI|apply zN|apply zH|exact jS|fail)
 all_goals first|exact jF (k:=by rw[show ddir d x=(d,0)from if_pos (by omega)];exact⟨rfl,rfl⟩)|skip
 obtain⟨m,rfl⟩:=Int.eq_ofNat_of_zero_le (show 0≤x by omega)
 have he:ddir d m=dbits m d 0:=if_neg (by omega)
 refine zZ (S:=Nat × Dec × Int) (fun x=>[(0,gptr n 0 5),(5,I x.2.2),(12,I m),(13,I x.1)]) (fun x=>decB n x.2.1::h) (fun x=>DecOk x.2.1∧x.1≤m∧dbits (m-x.1) x.2.1 x.2.2=ddir d m∧0≤x.2.2∧x.2.2<2^x.1)
  (fun x=>m-x.1) (0,d,0) ⟨hok,by omega,he.symm,Int.le_refl 0,by show(0:Int)<2^0;decide⟩ jB jK ?_
 rintro⟨k,d1,v⟩ ⟨hok1,hk,he1,hv1,hv2⟩
 dsimp only at *
 by_cases hkm:k<m
 ·have h61:=two_le (show k≤61 by omega)
  rw[show(2:Int)^61=2305843009213693952 from rfl]at h61
  have hb:=dbit_bit d1 1024
  repeat'(first|apply zF|apply zB|apply zE|refine jg ?_ ?_|(apply o_ar zC;exact rfl;exact rfl)|refine jq ?_ (c:=by exact⟨_,dBit_any _ _ _ _ hok1,jN⟩)|refine jd ?_|apply zA|apply zG|apply zI|apply zH|exact jO|((with_reducible apply Wr.mk);first|exact w_shl1 (by omega)|exact w_or1 (by omega) (by omega)|exact IntWalk.i64_in _ (by omega)))
  refine⟨(k+1,(dbit d1 1024).1,v*2+(dbit d1 1024).2),⟨dbit_ok hok1 _,hkm,?_,by show 0≤v*2+_;omega,?_⟩,by show m-(k+1)<_;omega,jB,jK⟩
  ·rw[←he1,show m-k=(m-(k+1))+1 by omega];rfl
  ·show v*2+_<(2:Int)^(k+1)
   rw[Int.pow_succ];omega
 ·obtain rfl:k=m:=by omega
  rw[Nat.sub_self]at he1
  repeat'(first|apply zF|apply zB|apply zE|refine jg ?_ ?_|refine jf ?_|apply zA|apply zK|apply zJ|apply zN|apply zV|exact jS|fail)
  (apply zL;(exact(show ResS _ _ _ _ [_] from⟨rfl,trivial⟩));(focus rw[←he1];exact⟨rfl,rfl⟩);(focus repeat(first|with_reducible exact Take.nil|with_reducible apply Take.c|((with_reducible apply Take.cE);first|exact rfl|(apply blkE;(focus first|exact rfl|exact yI rfl|exact yO rfl|exact congrArg (fun v=>[v]) (gslE rfl rfl (by first|rfl|exact ‹_›|omega|(simp ;first|done|omega)) (by first|rfl|exact ‹_›|omega|(simp ;first|done|omega)) rfl))))|with_reducible apply Take.drop)))

def dend (d:Dec):Int:=if d.missing=true∨d.full=true∨d.rest≠[]∨d.code≠0 then 12 else 0
theorem End_any (n:Nat)(d:Dec)(h:SH):SRun Tryz.prog 178 [gptr n 0 5] (decB n d::h) fun r q=>r=Er (dend d)∧q=decB n d::h:=by
 obtain⟨rest,code,size,missing,full⟩:=d
 show SRun _ _ _ ((n,⟨[S rest,U code,U size,B missing,B full],false⟩)::h) _
 refine zR Tryz.func178 rfl rfl ?_
 cases missing <;> cases full
 all_goals repeat'(first|apply zF|apply zB|apply zE|refine jg ?_ ?_|(apply zM zC;(iterate 3 exact rfl);exact pk)|refine jw ?_|refine jk ?_|(apply o_guardFN;(iterate 3 exact rfl);all_goals intro hc)|(apply yB;exact rfl)|(apply w_ifN;exact rfl;all_goals intro hc)|apply zA|apply zP|apply zI|apply zN|exact jS|exact jL|exact jE|exact True.intro|exact rfl)
 all_goals exact jF (k:=by refine⟨?_,rfl⟩;show Er _=Er _;first|rfl|(unfold dend;dsimp only;first|(rw[if_pos];(simp_all;done))|(rw[if_neg];(simp_all;done))))

theorem take_set {α:Type}{b:α}:∀{l:List α} {k:Nat},k<l.length→(l.set k b).take (k+1)=l.take k++[b]
 |[],k,h=>by simp at h
 |x::r,0,h=>by simp
 |x::r,k+1,h=>by simp only[List.set_cons_succ,List.take_succ_cons,List.cons_append];rw[take_set (by simpa using h)]
end Go.Proofs.YteddogfolceahaaGreatDoor
end
