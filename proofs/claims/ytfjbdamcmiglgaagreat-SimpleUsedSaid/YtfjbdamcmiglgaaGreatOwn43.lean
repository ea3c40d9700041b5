/- Part 43 of my own framework and of the walks of functions: Tl, Ty, Ma, Pa, Pb, Pc, Mb, Pd, Pe, Mc, Pf, Pg, Md, Ph, Me, Pi, Mf, Pj, Pk, Pl, Mg, Pm, Pn, Po, Mh, Pp, Pq, Pr, Ps, Sa, AcsR, AcsS, AcsT, AcsU. -/
import Derived.Test.YtfjbdamcmiglgaaGreatOwn42
import Derived.Test.YtfjbdamcmiglgaaGreatProg
import Derived.KernelRfl
abbrev fp:=@Bool.eq_iff_iff
abbrev dq:=@Bool.false_or
abbrev iw:=@Bool.not_eq_false'
abbrev cE:=@Bool.or_eq_false_iff
abbrev qx:=@Int.le_refl
abbrev lI:=@Int.lt_irrefl
abbrev lX:=@Int.natCast_add
abbrev lY:=@Int.natCast_one
abbrev cC:=@Int.natCast_zero
abbrev bV:=@Int.toNat_natCast
abbrev fe:=@List.any_cons
abbrev er:=@List.any_eq_true
abbrev mF:=@List.any_nil
abbrev jT:=@List.cons.inj
abbrev ak:=@List.drop_eq_getElem_cons
abbrev aV:=@List.drop_length
abbrev oG:=@List.flatMap_nil
abbrev ix:=@List.getElem_cons_succ
abbrev eK:=@List.getElem_cons_zero
abbrev gX:=@List.length_eq_zero_iff
abbrev cN:=@List.map_append
abbrev lJ:=@List.mem_iff_getElem
abbrev lL:=@List.mem_of_mem_take
abbrev gB:=@List.nodup_append
abbrev dO:=@List.not_mem_nil
abbrev nO:=@List.reverse_cons
abbrev dU:=@List.take_add_one
abbrev da:=@List.take_length
abbrev bd:=@List.take_of_length_le
abbrev eR:=@List.take_succ_cons
abbrev dK:=@Nat.le_succ
abbrev cn:=@Nat.zero_lt_one
abbrev ek:=@Nat.zero_lt_two
abbrev mO:=@Option.toList_some
set_option linter.unusedVariables false
set_option linter.unusedSectionVars false
set_option linter.unusedSimpArgs false
namespace Go.Proofs
open Go Go.cV
@[go_sem] theorem anh:aC Tryz.prog 1=some ⟨1,false,8,[.az], .func⟩:=by kernel_rfl
@[go_sem] theorem ty1:bJ Tryz.prog 1=some ⟨⟨1,false,8,[.az], .func⟩,[],none,none⟩:=by kernel_rfl
@[go_sem] theorem ani:aC Tryz.prog 2=some ⟨1,false,8,[.int .i64 0],(.int .i64)⟩:=by kernel_rfl
@[go_sem] theorem ty2:bJ Tryz.prog 2=some ⟨⟨1,false,8,[.int .i64 0],(.int .i64)⟩,[],none,none⟩:=by kernel_rfl
@[go_sem] theorem anj:aC Tryz.prog 3=some ⟨1,false,8,[.int .i64 0],(.int .i64)⟩:=by kernel_rfl
@[go_sem] theorem ty3:bJ Tryz.prog 3=some ⟨⟨1,false,8,[.int .i64 0],(.int .i64)⟩,[],none,none⟩:=by kernel_rfl
@[go_sem] theorem ank:aC Tryz.prog 4=some ⟨1,false,1,[.bool false], .bool⟩:=by kernel_rfl
@[go_sem] theorem ty4:bJ Tryz.prog 4=some ⟨⟨1,false,1,[.bool false], .bool⟩,[],none,none⟩:=by kernel_rfl
@[go_sem] theorem anl:aC Tryz.prog 5=some ⟨1,false,1,[.int .u8 0],(.int .u8)⟩:=by kernel_rfl
@[go_sem] theorem ty5:bJ Tryz.prog 5=some ⟨⟨1,false,1,[.int .u8 0],(.int .u8)⟩,[],none,none⟩:=by kernel_rfl
@[go_sem] theorem anm:aC Tryz.prog 6=some ⟨1,false,1,[.int .u8 0],(.int .u8)⟩:=by kernel_rfl
@[go_sem] theorem ty6:bJ Tryz.prog 6=some ⟨⟨1,false,1,[.int .u8 0],(.int .u8)⟩,[],none,none⟩:=by kernel_rfl
@[go_sem] theorem ann:aC Tryz.prog 7=some ⟨4,true,24,[.int .i64 0, .int .i64 0, .bool false, .int .u8 0], .struct⟩:=by kernel_rfl
@[go_sem] theorem ty7:bJ Tryz.prog 7=some ⟨⟨4,true,24,[.int .i64 0, .int .i64 0, .bool false, .int .u8 0], .struct⟩,[(0,some ⟨1,false,8,[.int .i64 0],(.int .i64)⟩),(1,some ⟨1,false,8,[.int .i64 0],(.int .i64)⟩),(2,some ⟨1,false,1,[.bool false], .bool⟩),(3,some ⟨1,false,1,[.int .u8 0],(.int .u8)⟩)],none,none⟩:=by kernel_rfl
@[go_sem] theorem alF:tY Tryz.prog 7 [(.int .i64),(.int .i64), .bool,(.int .u8)]=true:=by kernel_rfl
@[go_sem] theorem ano:aC Tryz.prog 8=some ⟨4,true,24,[.int .i64 0, .int .i64 0, .bool false, .int .u8 0], .struct⟩:=by kernel_rfl
@[go_sem] theorem ty8:bJ Tryz.prog 8=some ⟨⟨4,true,24,[.int .i64 0, .int .i64 0, .bool false, .int .u8 0], .struct⟩,[(0,some ⟨1,false,8,[.int .i64 0],(.int .i64)⟩),(1,some ⟨1,false,8,[.int .i64 0],(.int .i64)⟩),(2,some ⟨1,false,1,[.bool false], .bool⟩),(3,some ⟨1,false,1,[.int .u8 0],(.int .u8)⟩)],none,none⟩:=by kernel_rfl
@[go_sem] theorem alG:tY Tryz.prog 8 [(.int .i64),(.int .i64), .bool,(.int .u8)]=true:=by kernel_rfl
@[go_sem] theorem anp:aC Tryz.prog 9=some ⟨1,false,16,[.str ⟨#[]⟩], .str⟩:=by kernel_rfl
@[go_sem] theorem ty9:bJ Tryz.prog 9=some ⟨⟨1,false,16,[.str ⟨#[]⟩], .str⟩,[],none,none⟩:=by kernel_rfl
@[go_sem] theorem Xmx:aC Tryz.prog 10=some ⟨1,false,16,[.str ⟨#[]⟩], .str⟩:=by kernel_rfl
@[go_sem] theorem anu:bJ Tryz.prog 10=some ⟨⟨1,false,16,[.str ⟨#[]⟩], .str⟩,[],none,none⟩:=by kernel_rfl
@[go_sem] theorem Xl0:aC Tryz.prog 11=some ⟨1,false,16,[.str ⟨#[]⟩], .str⟩:=by kernel_rfl
@[go_sem] theorem anv:bJ Tryz.prog 11=some ⟨⟨1,false,16,[.str ⟨#[]⟩], .str⟩,[],none,none⟩:=by kernel_rfl
@[go_sem] theorem Xhq:aC Tryz.prog 12=some ⟨1,false,8,[.int .u64 0],(.int .u64)⟩:=by kernel_rfl
@[go_sem] theorem anw:bJ Tryz.prog 12=some ⟨⟨1,false,8,[.int .u64 0],(.int .u64)⟩,[],none,none⟩:=by kernel_rfl
@[go_sem] theorem Xj3:aC Tryz.prog 13=some ⟨2,true,24,[.str ⟨#[]⟩, .int .u64 0], .struct⟩:=by kernel_rfl
@[go_sem] theorem anx:bJ Tryz.prog 13=some ⟨⟨2,true,24,[.str ⟨#[]⟩, .int .u64 0], .struct⟩,[(0,some ⟨1,false,16,[.str ⟨#[]⟩], .str⟩),(1,some ⟨1,false,8,[.int .u64 0],(.int .u64)⟩)],none,none⟩:=by kernel_rfl
@[go_sem] theorem Xhe:aC Tryz.prog 14=some ⟨2,true,24,[.str ⟨#[]⟩, .int .u64 0], .struct⟩:=by kernel_rfl
@[go_sem] theorem anz:bJ Tryz.prog 14=some ⟨⟨2,true,24,[.str ⟨#[]⟩, .int .u64 0], .struct⟩,[(0,some ⟨1,false,16,[.str ⟨#[]⟩], .str⟩),(1,some ⟨1,false,8,[.int .u64 0],(.int .u64)⟩)],none,none⟩:=by kernel_rfl
@[go_sem] theorem Xik:aC Tryz.prog 15=some ⟨1,false,8,[.bM], .ptr⟩:=by kernel_rfl
@[go_sem] theorem anA:bJ Tryz.prog 15=some ⟨⟨1,false,8,[.bM], .ptr⟩,[],none,none⟩:=by kernel_rfl
@[go_sem] theorem Xgk:aC Tryz.prog 16=some ⟨1,false,8,[.bM], .ptr⟩:=by kernel_rfl
@[go_sem] theorem anB:bJ Tryz.prog 16=some ⟨⟨1,false,8,[.bM], .ptr⟩,[],none,none⟩:=by kernel_rfl
@[go_sem] theorem Xnl:aC Tryz.prog 17=some ⟨1,false,8,[.bM], .ptr⟩:=by kernel_rfl
@[go_sem] theorem anC:bJ Tryz.prog 17=some ⟨⟨1,false,8,[.bM], .ptr⟩,[],none,none⟩:=by kernel_rfl
@[go_sem] theorem Xl7:aC Tryz.prog 18=some ⟨1,true,8,[.bM], .struct⟩:=by kernel_rfl
@[go_sem] theorem anD:bJ Tryz.prog 18=some ⟨⟨1,true,8,[.bM], .struct⟩,[(0,some ⟨1,false,8,[.bM], .ptr⟩)],none,none⟩:=by kernel_rfl
@[go_sem] theorem Xkj:aC Tryz.prog 19=some ⟨1,true,8,[.bM], .struct⟩:=by kernel_rfl
@[go_sem] theorem anE:bJ Tryz.prog 19=some ⟨⟨1,true,8,[.bM], .struct⟩,[(0,some ⟨1,false,8,[.bM], .ptr⟩)],none,none⟩:=by kernel_rfl
@[go_sem] theorem Xm2:aC Tryz.prog 20=some ⟨1,false,16,[.fE], .iface⟩:=by kernel_rfl
@[go_sem] theorem anF:bJ Tryz.prog 20=some ⟨⟨1,false,16,[.fE], .iface⟩,[],none,none⟩:=by kernel_rfl
@[go_sem] theorem Xis:aC Tryz.prog 21=some ⟨1,false,4,[.int .i32 0],(.int .i32)⟩:=by kernel_rfl
@[go_sem] theorem anG:bJ Tryz.prog 21=some ⟨⟨1,false,4,[.int .i32 0],(.int .i32)⟩,[],none,none⟩:=by kernel_rfl
@[go_sem] theorem Xj0:aC Tryz.prog 22=some ⟨1,false,24,[.aU], .slice⟩:=by kernel_rfl
@[go_sem] theorem anH:bJ Tryz.prog 22=some ⟨⟨1,false,24,[.aU], .slice⟩,[],some ⟨4,true,40,[.str ⟨#[]⟩, .int .i64 0, .int .i64 0, .bool false], .struct⟩,none⟩:=by kernel_rfl
@[go_sem] theorem Xn5:aC Tryz.prog 23=some ⟨1,false,24,[.aU], .slice⟩:=by kernel_rfl
@[go_sem] theorem anI:bJ Tryz.prog 23=some ⟨⟨1,false,24,[.aU], .slice⟩,[],some ⟨1,false,24,[.aU], .slice⟩,none⟩:=by kernel_rfl
@[go_sem] theorem Yzv:aC Tryz.prog 24=some ⟨1,false,24,[.aU], .slice⟩:=by kernel_rfl
@[go_sem] theorem anJ:bJ Tryz.prog 24=some ⟨⟨1,false,24,[.aU], .slice⟩,[],some ⟨5,true,72,[.bool false, .int .i64 0, .aU, .int .i64 0, .aU], .struct⟩,none⟩:=by kernel_rfl
@[go_sem] theorem Xla:aC Tryz.prog 25=some ⟨1,false,8,[.az], .func⟩:=by kernel_rfl
@[go_sem] theorem anK:bJ Tryz.prog 25=some ⟨⟨1,false,8,[.az], .func⟩,[],none,none⟩:=by kernel_rfl
@[go_sem] theorem Xj5:aC Tryz.prog 26=some ⟨1,false,24,[.aU], .slice⟩:=by kernel_rfl
@[go_sem] theorem anL:bJ Tryz.prog 26=some ⟨⟨1,false,24,[.aU], .slice⟩,[],some ⟨1,false,8,[.int .i64 0],(.int .i64)⟩,none⟩:=by kernel_rfl
@[go_sem] theorem Xib:aC Tryz.prog 27=some ⟨4,true,64,[.aU, .aU, .int .i64 0, .int .i64 0], .struct⟩:=by kernel_rfl
@[go_sem] theorem anM:bJ Tryz.prog 27=some ⟨⟨4,true,64,[.aU, .aU, .int .i64 0, .int .i64 0], .struct⟩,[(0,some ⟨1,false,24,[.aU], .slice⟩),(1,some ⟨1,false,24,[.aU], .slice⟩),(2,some ⟨1,false,8,[.int .i64 0],(.int .i64)⟩),(3,some ⟨1,false,8,[.int .i64 0],(.int .i64)⟩)],none,none⟩:=by kernel_rfl
@[go_sem] theorem Xhh:aC Tryz.prog 28=some ⟨4,true,64,[.aU, .aU, .int .i64 0, .int .i64 0], .struct⟩:=by kernel_rfl
@[go_sem] theorem anN:bJ Tryz.prog 28=some ⟨⟨4,true,64,[.aU, .aU, .int .i64 0, .int .i64 0], .struct⟩,[(0,some ⟨1,false,24,[.aU], .slice⟩),(1,some ⟨1,false,24,[.aU], .slice⟩),(2,some ⟨1,false,8,[.int .i64 0],(.int .i64)⟩),(3,some ⟨1,false,8,[.int .i64 0],(.int .i64)⟩)],none,none⟩:=by kernel_rfl
@[go_sem] theorem Xi3:aC Tryz.prog 29=some ⟨1,false,8,[.int .i64 0],(.int .i64)⟩:=by kernel_rfl
@[go_sem] theorem anO:bJ Tryz.prog 29=some ⟨⟨1,false,8,[.int .i64 0],(.int .i64)⟩,[],none,none⟩:=by kernel_rfl
@[go_sem] theorem Xie:aC Tryz.prog 31=some ⟨1,false,8,[.az], .func⟩:=by kernel_rfl
@[go_sem] theorem anP:bJ Tryz.prog 31=some ⟨⟨1,false,8,[.az], .func⟩,[],none,none⟩:=by kernel_rfl
@[go_sem] theorem Xkn:aC Tryz.prog 33=some ⟨1,false,8,[.az], .func⟩:=by kernel_rfl
@[go_sem] theorem anQ:bJ Tryz.prog 33=some ⟨⟨1,false,8,[.az], .func⟩,[],none,none⟩:=by kernel_rfl
@[go_sem] theorem Xm4:aC Tryz.prog 34=some ⟨1,false,8,[.az], .func⟩:=by kernel_rfl
@[go_sem] theorem anR:bJ Tryz.prog 34=some ⟨⟨1,false,8,[.az], .func⟩,[],none,none⟩:=by kernel_rfl
@[go_sem] theorem Xjv:aC Tryz.prog 35=some ⟨1,false,8,[.az], .func⟩:=by kernel_rfl
@[go_sem] theorem anS:bJ Tryz.prog 35=some ⟨⟨1,false,8,[.az], .func⟩,[],none,none⟩:=by kernel_rfl
@[go_sem] theorem Xjc:aC Tryz.prog 36=some ⟨1,false,24,[.aU], .slice⟩:=by kernel_rfl
@[go_sem] theorem anT:bJ Tryz.prog 36=some ⟨⟨1,false,24,[.aU], .slice⟩,[],some ⟨1,false,24,[.aU], .slice⟩,none⟩:=by kernel_rfl
@[go_sem] theorem Xh2:aC Tryz.prog 37=some ⟨2,true,32,[.int .i64 0, .aU], .struct⟩:=by kernel_rfl
@[go_sem] theorem anU:bJ Tryz.prog 37=some ⟨⟨2,true,32,[.int .i64 0, .aU], .struct⟩,[(0,some ⟨1,false,8,[.int .i64 0],(.int .i64)⟩),(1,some ⟨1,false,24,[.aU], .slice⟩)],none,none⟩:=by kernel_rfl
@[go_sem] theorem Xjx:aC Tryz.prog 38=some ⟨2,true,32,[.int .i64 0, .aU], .struct⟩:=by kernel_rfl
@[go_sem] theorem anV:bJ Tryz.prog 38=some ⟨⟨2,true,32,[.int .i64 0, .aU], .struct⟩,[(0,some ⟨1,false,8,[.int .i64 0],(.int .i64)⟩),(1,some ⟨1,false,24,[.aU], .slice⟩)],none,none⟩:=by kernel_rfl
@[go_sem] theorem Xle:aC Tryz.prog 39=some ⟨1,false,8,[.az], .func⟩:=by kernel_rfl
@[go_sem] theorem anW:bJ Tryz.prog 39=some ⟨⟨1,false,8,[.az], .func⟩,[],none,none⟩:=by kernel_rfl
@[go_sem] theorem Xjm:aC Tryz.prog 40=some ⟨1,false,8,[.az], .func⟩:=by kernel_rfl
@[go_sem] theorem anX:bJ Tryz.prog 40=some ⟨⟨1,false,8,[.az], .func⟩,[],none,none⟩:=by kernel_rfl
@[go_sem] theorem Xi7:aC Tryz.prog 41=some ⟨1,false,8,[.az], .func⟩:=by kernel_rfl
@[go_sem] theorem anY:bJ Tryz.prog 41=some ⟨⟨1,false,8,[.az], .func⟩,[],none,none⟩:=by kernel_rfl
@[go_sem] theorem Xng:aC Tryz.prog 42=some ⟨1,false,8,[.az], .func⟩:=by kernel_rfl
@[go_sem] theorem anZ:bJ Tryz.prog 42=some ⟨⟨1,false,8,[.az], .func⟩,[],none,none⟩:=by kernel_rfl
@[go_sem] theorem Xhm:aC Tryz.prog 43=some ⟨1,false,8,[.az], .func⟩:=by kernel_rfl
@[go_sem] theorem an0:bJ Tryz.prog 43=some ⟨⟨1,false,8,[.az], .func⟩,[],none,none⟩:=by kernel_rfl
@[go_sem] theorem Xk9:aC Tryz.prog 44=some ⟨1,false,8,[.az], .func⟩:=by kernel_rfl
@[go_sem] theorem an1:bJ Tryz.prog 44=some ⟨⟨1,false,8,[.az], .func⟩,[],none,none⟩:=by kernel_rfl
@[go_sem] theorem Xi5:aC Tryz.prog 45=some ⟨1,false,8,[.az], .func⟩:=by kernel_rfl
@[go_sem] theorem an2:bJ Tryz.prog 45=some ⟨⟨1,false,8,[.az], .func⟩,[],none,none⟩:=by kernel_rfl
@[go_sem] theorem Xlj:aC Tryz.prog 46=some ⟨1,false,8,[.az], .func⟩:=by kernel_rfl
@[go_sem] theorem an3:bJ Tryz.prog 46=some ⟨⟨1,false,8,[.az], .func⟩,[],none,none⟩:=by kernel_rfl
@[go_sem] theorem Xl9:aC Tryz.prog 47=some ⟨1,false,8,[.az], .func⟩:=by kernel_rfl
@[go_sem] theorem an4:bJ Tryz.prog 47=some ⟨⟨1,false,8,[.az], .func⟩,[],none,none⟩:=by kernel_rfl
@[go_sem] theorem Xjy:aC Tryz.prog 48=some ⟨1,false,8,[.az], .func⟩:=by kernel_rfl
@[go_sem] theorem an5:bJ Tryz.prog 48=some ⟨⟨1,false,8,[.az], .func⟩,[],none,none⟩:=by kernel_rfl
@[go_sem] theorem Xnb:aC Tryz.prog 49=some ⟨1,false,8,[.az], .func⟩:=by kernel_rfl
@[go_sem] theorem an6:bJ Tryz.prog 49=some ⟨⟨1,false,8,[.az], .func⟩,[],none,none⟩:=by kernel_rfl
@[go_sem] theorem Xk6:aC Tryz.prog 50=some ⟨1,false,8,[.az], .func⟩:=by kernel_rfl
@[go_sem] theorem an7:bJ Tryz.prog 50=some ⟨⟨1,false,8,[.az], .func⟩,[],none,none⟩:=by kernel_rfl
@[go_sem] theorem Xgf:aC Tryz.prog 51=some ⟨1,false,8,[.az], .func⟩:=by kernel_rfl
@[go_sem] theorem an8:bJ Tryz.prog 51=some ⟨⟨1,false,8,[.az], .func⟩,[],none,none⟩:=by kernel_rfl
@[go_sem] theorem Xj9:aC Tryz.prog 52=some ⟨1,false,8,[.az], .func⟩:=by kernel_rfl
@[go_sem] theorem an9:bJ Tryz.prog 52=some ⟨⟨1,false,8,[.az], .func⟩,[],none,none⟩:=by kernel_rfl
@[go_sem] theorem Xiy:aC Tryz.prog 53=some ⟨1,false,8,[.bM], .ptr⟩:=by kernel_rfl
@[go_sem] theorem an_:bJ Tryz.prog 53=some ⟨⟨1,false,8,[.bM], .ptr⟩,[],none,none⟩:=by kernel_rfl
@[go_sem] theorem Xnc:aC Tryz.prog 54=some ⟨1,false,8,[.az], .func⟩:=by kernel_rfl
@[go_sem] theorem aoa:bJ Tryz.prog 54=some ⟨⟨1,false,8,[.az], .func⟩,[],none,none⟩:=by kernel_rfl
@[go_sem] theorem Xi1:aC Tryz.prog 55=some ⟨7,true,120,[.aU, .aU, .aU, .aU, .int .i64 0, .int .i64 0, .int .i64 0], .struct⟩:=by kernel_rfl
@[go_sem] theorem aob:bJ Tryz.prog 55=some ⟨⟨7,true,120,[.aU, .aU, .aU, .aU, .int .i64 0, .int .i64 0, .int .i64 0], .struct⟩,[(0,some ⟨1,false,24,[.aU], .slice⟩),(1,some ⟨1,false,24,[.aU], .slice⟩),(2,some ⟨1,false,24,[.aU], .slice⟩),(3,some ⟨1,false,24,[.aU], .slice⟩),(4,some ⟨1,false,8,[.int .i64 0],(.int .i64)⟩),(5,some ⟨1,false,8,[.int .i64 0],(.int .i64)⟩),(6,some ⟨1,false,8,[.int .i64 0],(.int .i64)⟩)],none,none⟩:=by kernel_rfl
@[go_sem] theorem Xkx:aC Tryz.prog 56=some ⟨7,true,120,[.aU, .aU, .aU, .aU, .int .i64 0, .int .i64 0, .int .i64 0], .struct⟩:=by kernel_rfl
@[go_sem] theorem aoc:bJ Tryz.prog 56=some ⟨⟨7,true,120,[.aU, .aU, .aU, .aU, .int .i64 0, .int .i64 0, .int .i64 0], .struct⟩,[(0,some ⟨1,false,24,[.aU], .slice⟩),(1,some ⟨1,false,24,[.aU], .slice⟩),(2,some ⟨1,false,24,[.aU], .slice⟩),(3,some ⟨1,false,24,[.aU], .slice⟩),(4,some ⟨1,false,8,[.int .i64 0],(.int .i64)⟩),(5,some ⟨1,false,8,[.int .i64 0],(.int .i64)⟩),(6,some ⟨1,false,8,[.int .i64 0],(.int .i64)⟩)],none,none⟩:=by kernel_rfl
@[go_sem] theorem Xk0:aC Tryz.prog 57=some ⟨1,false,8,[.az], .func⟩:=by kernel_rfl
@[go_sem] theorem aod:bJ Tryz.prog 57=some ⟨⟨1,false,8,[.az], .func⟩,[],none,none⟩:=by kernel_rfl
@[go_sem] theorem Xgj:aC Tryz.prog 58=some ⟨1,false,24,[.aU], .slice⟩:=by kernel_rfl
@[go_sem] theorem aoe:bJ Tryz.prog 58=some ⟨⟨1,false,24,[.aU], .slice⟩,[],some ⟨1,false,8,[.az], .func⟩,none⟩:=by kernel_rfl
@[go_sem] theorem Xmk:aC Tryz.prog 60=some ⟨1,false,8,[.az], .func⟩:=by kernel_rfl
@[go_sem] theorem aof:bJ Tryz.prog 60=some ⟨⟨1,false,8,[.az], .func⟩,[],none,none⟩:=by kernel_rfl
@[go_sem] theorem Xjq:aC Tryz.prog 61=some ⟨1,false,8,[.az], .func⟩:=by kernel_rfl
@[go_sem] theorem aog:bJ Tryz.prog 61=some ⟨⟨1,false,8,[.az], .func⟩,[],none,none⟩:=by kernel_rfl
@[go_sem] theorem Xn6:aC Tryz.prog 63=some ⟨1,false,8,[.az], .func⟩:=by kernel_rfl
@[go_sem] theorem aoh:bJ Tryz.prog 63=some ⟨⟨1,false,8,[.az], .func⟩,[],none,none⟩:=by kernel_rfl
@[go_sem] theorem Xkq:aC Tryz.prog 64=some ⟨1,false,8,[.az], .func⟩:=by kernel_rfl
@[go_sem] theorem aoi:bJ Tryz.prog 64=some ⟨⟨1,false,8,[.az], .func⟩,[],none,none⟩:=by kernel_rfl
@[go_sem] theorem Xhf:aC Tryz.prog 66=some ⟨1,false,8,[.az], .func⟩:=by kernel_rfl
@[go_sem] theorem aoj:bJ Tryz.prog 66=some ⟨⟨1,false,8,[.az], .func⟩,[],none,none⟩:=by kernel_rfl
@[go_sem] theorem Xir:aC Tryz.prog 67=some ⟨1,false,8,[.az], .func⟩:=by kernel_rfl
@[go_sem] theorem aok:bJ Tryz.prog 67=some ⟨⟨1,false,8,[.az], .func⟩,[],none,none⟩:=by kernel_rfl
@[go_sem] theorem Xml:aC Tryz.prog 68=some ⟨1,false,24,[.aU], .slice⟩:=by kernel_rfl
@[go_sem] theorem aol:bJ Tryz.prog 68=some ⟨⟨1,false,24,[.aU], .slice⟩,[],some ⟨2,true,32,[.int .i64 0, .aU], .struct⟩,none⟩:=by kernel_rfl
@[go_sem] theorem Xgm:aC Tryz.prog 69=some ⟨2,true,32,[.int .i64 0, .aU], .struct⟩:=by kernel_rfl
@[go_sem] theorem aom:bJ Tryz.prog 69=some ⟨⟨2,true,32,[.int .i64 0, .aU], .struct⟩,[(0,some ⟨1,false,8,[.int .i64 0],(.int .i64)⟩),(1,some ⟨1,false,24,[.aU], .slice⟩)],none,none⟩:=by kernel_rfl
@[go_sem] theorem Xh1:aC Tryz.prog 70=some ⟨2,true,32,[.int .i64 0, .aU], .struct⟩:=by kernel_rfl
@[go_sem] theorem aon:bJ Tryz.prog 70=some ⟨⟨2,true,32,[.int .i64 0, .aU], .struct⟩,[(0,some ⟨1,false,8,[.int .i64 0],(.int .i64)⟩),(1,some ⟨1,false,24,[.aU], .slice⟩)],none,none⟩:=by kernel_rfl
@[go_sem] theorem Xhz:aC Tryz.prog 71=some ⟨1,false,8,[.az], .func⟩:=by kernel_rfl
@[go_sem] theorem aoo:bJ Tryz.prog 71=some ⟨⟨1,false,8,[.az], .func⟩,[],none,none⟩:=by kernel_rfl
@[go_sem] theorem Xmj:aC Tryz.prog 72=some ⟨1,false,8,[.az], .func⟩:=by kernel_rfl
@[go_sem] theorem aop:bJ Tryz.prog 72=some ⟨⟨1,false,8,[.az], .func⟩,[],none,none⟩:=by kernel_rfl
@[go_sem] theorem Xgx:aC Tryz.prog 73=some ⟨5,true,72,[.bool false, .int .i64 0, .aU, .int .i64 0, .aU], .struct⟩:=by kernel_rfl
@[go_sem] theorem aoq:bJ Tryz.prog 73=some ⟨⟨5,true,72,[.bool false, .int .i64 0, .aU, .int .i64 0, .aU], .struct⟩,[(0,some ⟨1,false,1,[.bool false], .bool⟩),(1,some ⟨2,true,32,[.int .i64 0, .aU], .struct⟩),(3,some ⟨2,true,32,[.int .i64 0, .aU], .struct⟩)],none,none⟩:=by kernel_rfl
@[go_sem] theorem Xiz:aC Tryz.prog 74=some ⟨5,true,72,[.bool false, .int .i64 0, .aU, .int .i64 0, .aU], .struct⟩:=by kernel_rfl
@[go_sem] theorem aor:bJ Tryz.prog 74=some ⟨⟨5,true,72,[.bool false, .int .i64 0, .aU, .int .i64 0, .aU], .struct⟩,[(0,some ⟨1,false,1,[.bool false], .bool⟩),(1,some ⟨2,true,32,[.int .i64 0, .aU], .struct⟩),(3,some ⟨2,true,32,[.int .i64 0, .aU], .struct⟩)],none,none⟩:=by kernel_rfl
@[go_sem] theorem Xn2:aC Tryz.prog 75=some ⟨1,false,8,[.az], .func⟩:=by kernel_rfl
@[go_sem] theorem aos:bJ Tryz.prog 75=some ⟨⟨1,false,8,[.az], .func⟩,[],none,none⟩:=by kernel_rfl
@[go_sem] theorem Xkk:aC Tryz.prog 76=some ⟨1,false,8,[.az], .func⟩:=by kernel_rfl
@[go_sem] theorem aot:bJ Tryz.prog 76=some ⟨⟨1,false,8,[.az], .func⟩,[],none,none⟩:=by kernel_rfl
@[go_sem] theorem Xky:aC Tryz.prog 77=some ⟨1,false,8,[.az], .func⟩:=by kernel_rfl
@[go_sem] theorem aou:bJ Tryz.prog 77=some ⟨⟨1,false,8,[.az], .func⟩,[],none,none⟩:=by kernel_rfl
@[go_sem] theorem Xkr:aC Tryz.prog 78=some ⟨4,true,40,[.str ⟨#[]⟩, .int .i64 0, .int .i64 0, .bool false], .struct⟩:=by kernel_rfl
@[go_sem] theorem aov:bJ Tryz.prog 78=some ⟨⟨4,true,40,[.str ⟨#[]⟩, .int .i64 0, .int .i64 0, .bool false], .struct⟩,[(0,some ⟨1,false,16,[.str ⟨#[]⟩], .str⟩),(1,some ⟨1,false,8,[.int .i64 0],(.int .i64)⟩),(2,some ⟨1,false,8,[.int .i64 0],(.int .i64)⟩),(3,some ⟨1,false,1,[.bool false], .bool⟩)],none,none⟩:=by kernel_rfl
@[go_sem] theorem Xly:tY Tryz.prog 78 [.str,(.int .i64),(.int .i64), .bool]=true:=by kernel_rfl
@[go_sem] theorem Xmt:aC Tryz.prog 79=some ⟨4,true,40,[.str ⟨#[]⟩, .int .i64 0, .int .i64 0, .bool false], .struct⟩:=by kernel_rfl
@[go_sem] theorem aow:bJ Tryz.prog 79=some ⟨⟨4,true,40,[.str ⟨#[]⟩, .int .i64 0, .int .i64 0, .bool false], .struct⟩,[(0,some ⟨1,false,16,[.str ⟨#[]⟩], .str⟩),(1,some ⟨1,false,8,[.int .i64 0],(.int .i64)⟩),(2,some ⟨1,false,8,[.int .i64 0],(.int .i64)⟩),(3,some ⟨1,false,1,[.bool false], .bool⟩)],none,none⟩:=by kernel_rfl
@[go_sem] theorem Xm5:tY Tryz.prog 79 [.str,(.int .i64),(.int .i64), .bool]=true:=by kernel_rfl
@[go_sem] theorem Xl4:aC Tryz.prog 80=some ⟨1,false,8,[.az], .func⟩:=by kernel_rfl
@[go_sem] theorem aox:bJ Tryz.prog 80=some ⟨⟨1,false,8,[.az], .func⟩,[],none,none⟩:=by kernel_rfl
@[go_sem] theorem Xif:aC Tryz.prog 81=some ⟨1,false,8,[.az], .func⟩:=by kernel_rfl
@[go_sem] theorem aoy:bJ Tryz.prog 81=some ⟨⟨1,false,8,[.az], .func⟩,[],none,none⟩:=by kernel_rfl
@[go_sem] theorem Xnr:aC Tryz.prog 82=some ⟨1,false,8,[.az], .func⟩:=by kernel_rfl
@[go_sem] theorem aoz:bJ Tryz.prog 82=some ⟨⟨1,false,8,[.az], .func⟩,[],none,none⟩:=by kernel_rfl
@[go_sem] theorem Xhj:aC Tryz.prog 83=some ⟨1,false,8,[.az], .func⟩:=by kernel_rfl
@[go_sem] theorem aoA:bJ Tryz.prog 83=some ⟨⟨1,false,8,[.az], .func⟩,[],none,none⟩:=by kernel_rfl
@[go_sem] theorem Xia:aC Tryz.prog 84=some ⟨1,false,8,[.az], .func⟩:=by kernel_rfl
@[go_sem] theorem aoB:bJ Tryz.prog 84=some ⟨⟨1,false,8,[.az], .func⟩,[],none,none⟩:=by kernel_rfl
@[go_sem] theorem Xj8:aC Tryz.prog 85=some ⟨1,false,8,[.az], .func⟩:=by kernel_rfl
@[go_sem] theorem aoC:bJ Tryz.prog 85=some ⟨⟨1,false,8,[.az], .func⟩,[],none,none⟩:=by kernel_rfl
@[go_sem] theorem Xhi:aC Tryz.prog 86=some ⟨1,false,8,[.az], .func⟩:=by kernel_rfl
@[go_sem] theorem aoD:bJ Tryz.prog 86=some ⟨⟨1,false,8,[.az], .func⟩,[],none,none⟩:=by kernel_rfl
@[go_sem] theorem Xmd:aC Tryz.prog 87=some ⟨1,false,8,[.bM], .ptr⟩:=by kernel_rfl
@[go_sem] theorem aoE:bJ Tryz.prog 87=some ⟨⟨1,false,8,[.bM], .ptr⟩,[],none,none⟩:=by kernel_rfl
@[go_sem] theorem Xkf:aC Tryz.prog 88=some ⟨1,false,24,[.aU], .slice⟩:=by kernel_rfl
@[go_sem] theorem aoF:bJ Tryz.prog 88=some ⟨⟨1,false,24,[.aU], .slice⟩,[],some ⟨1,false,1,[.bool false], .bool⟩,none⟩:=by kernel_rfl
@[go_sem] theorem Xhu:aC Tryz.prog 89=some ⟨2,true,48,[.aU, .aU], .struct⟩:=by kernel_rfl
@[go_sem] theorem aoG:bJ Tryz.prog 89=some ⟨⟨2,true,48,[.aU, .aU], .struct⟩,[(0,some ⟨1,false,24,[.aU], .slice⟩),(1,some ⟨1,false,24,[.aU], .slice⟩)],none,none⟩:=by kernel_rfl
@[go_sem] theorem Xo4:aC Tryz.prog 90=some ⟨2,true,48,[.aU, .aU], .struct⟩:=by kernel_rfl
@[go_sem] theorem aoH:bJ Tryz.prog 90=some ⟨⟨2,true,48,[.aU, .aU], .struct⟩,[(0,some ⟨1,false,24,[.aU], .slice⟩),(1,some ⟨1,false,24,[.aU], .slice⟩)],none,none⟩:=by kernel_rfl
@[go_sem] theorem Xko:aC Tryz.prog 91=some ⟨1,false,8,[.az], .func⟩:=by kernel_rfl
@[go_sem] theorem aoI:bJ Tryz.prog 91=some ⟨⟨1,false,8,[.az], .func⟩,[],none,none⟩:=by kernel_rfl
@[go_sem] theorem Xn0:aC Tryz.prog 92=some ⟨1,false,8,[.cy], .map⟩:=by kernel_rfl
@[go_sem] theorem aoJ:bJ Tryz.prog 92=some ⟨⟨1,false,8,[.cy], .map⟩,[],some ⟨2,true,32,[.int .i64 0, .aU], .struct⟩,some ⟨1,false,8,[.int .i64 0],(.int .i64)⟩⟩:=by kernel_rfl
@[go_sem] theorem Xmf:aC Tryz.prog 93=some ⟨1,false,8,[.cy], .map⟩:=by kernel_rfl
@[go_sem] theorem aoK:bJ Tryz.prog 93=some ⟨⟨1,false,8,[.cy], .map⟩,[],some ⟨2,true,32,[.int .i64 0, .aU], .struct⟩,some ⟨1,false,8,[.int .i64 0],(.int .i64)⟩⟩:=by kernel_rfl
@[go_sem] theorem Xid:aC Tryz.prog 94=some ⟨1,false,8,[.az], .func⟩:=by kernel_rfl
@[go_sem] theorem aoL:bJ Tryz.prog 94=some ⟨⟨1,false,8,[.az], .func⟩,[],none,none⟩:=by kernel_rfl
@[go_sem] theorem Xnu:aC Tryz.prog 95=some ⟨1,false,8,[.az], .func⟩:=by kernel_rfl
@[go_sem] theorem aoM:bJ Tryz.prog 95=some ⟨⟨1,false,8,[.az], .func⟩,[],none,none⟩:=by kernel_rfl
@[go_sem] theorem Xji:aC Tryz.prog 96=some ⟨1,false,8,[.az], .func⟩:=by kernel_rfl
@[go_sem] theorem aoN:bJ Tryz.prog 96=some ⟨⟨1,false,8,[.az], .func⟩,[],none,none⟩:=by kernel_rfl
@[go_sem] theorem Xlg:aC Tryz.prog 97=some ⟨1,false,8,[.az], .func⟩:=by kernel_rfl
@[go_sem] theorem aoO:bJ Tryz.prog 97=some ⟨⟨1,false,8,[.az], .func⟩,[],none,none⟩:=by kernel_rfl
@[go_sem] theorem Xk4:aC Tryz.prog 98=some ⟨1,false,8,[.az], .func⟩:=by kernel_rfl
@[go_sem] theorem aoP:bJ Tryz.prog 98=some ⟨⟨1,false,8,[.az], .func⟩,[],none,none⟩:=by kernel_rfl
@[go_sem] theorem Xgy:aC Tryz.prog 99=some ⟨1,false,8,[.az], .func⟩:=by kernel_rfl
@[go_sem] theorem aoQ:bJ Tryz.prog 99=some ⟨⟨1,false,8,[.az], .func⟩,[],none,none⟩:=by kernel_rfl
@[go_sem] theorem Xax:aC Tryz.prog 100=some ⟨1,false,8,[.az], .func⟩:=by kernel_rfl
@[go_sem] theorem Xlz:bJ Tryz.prog 100=some ⟨⟨1,false,8,[.az], .func⟩,[],none,none⟩:=by kernel_rfl
@[go_sem] theorem Xdw:aC Tryz.prog 102=some ⟨1,false,8,[.az], .func⟩:=by kernel_rfl
@[go_sem] theorem Xlp:bJ Tryz.prog 102=some ⟨⟨1,false,8,[.az], .func⟩,[],none,none⟩:=by kernel_rfl
@[go_sem] theorem Xbe:aC Tryz.prog 103=some ⟨1,false,8,[.az], .func⟩:=by kernel_rfl
@[go_sem] theorem Xk7:bJ Tryz.prog 103=some ⟨⟨1,false,8,[.az], .func⟩,[],none,none⟩:=by kernel_rfl
@[go_sem] theorem Xcw:aC Tryz.prog 105=some ⟨1,false,8,[.az], .func⟩:=by kernel_rfl
@[go_sem] theorem Xi6:bJ Tryz.prog 105=some ⟨⟨1,false,8,[.az], .func⟩,[],none,none⟩:=by kernel_rfl
@[go_sem] theorem Xes:aC Tryz.prog 106=some ⟨1,false,8,[.az], .func⟩:=by kernel_rfl
@[go_sem] theorem Xjn:bJ Tryz.prog 106=some ⟨⟨1,false,8,[.az], .func⟩,[],none,none⟩:=by kernel_rfl
@[go_sem] theorem Xge:aC Tryz.prog 108=some ⟨1,false,8,[.az], .func⟩:=by kernel_rfl
@[go_sem] theorem Xki:bJ Tryz.prog 108=some ⟨⟨1,false,8,[.az], .func⟩,[],none,none⟩:=by kernel_rfl
@[go_sem] theorem Xen:aC Tryz.prog 109=some ⟨1,false,8,[.az], .func⟩:=by kernel_rfl
@[go_sem] theorem Xiv:bJ Tryz.prog 109=some ⟨⟨1,false,8,[.az], .func⟩,[],none,none⟩:=by kernel_rfl
@[go_sem] theorem Xeq:aC Tryz.prog 110=some ⟨1,false,8,[.az], .func⟩:=by kernel_rfl
@[go_sem] theorem Xih:bJ Tryz.prog 110=some ⟨⟨1,false,8,[.az], .func⟩,[],none,none⟩:=by kernel_rfl
@[go_sem] theorem Xex:aC Tryz.prog 111=some ⟨1,false,8,[.az], .func⟩:=by kernel_rfl
@[go_sem] theorem Xke:bJ Tryz.prog 111=some ⟨⟨1,false,8,[.az], .func⟩,[],none,none⟩:=by kernel_rfl
@[go_sem] theorem Xe6:aC Tryz.prog 112=some ⟨1,false,8,[.az], .func⟩:=by kernel_rfl
@[go_sem] theorem Xhx:bJ Tryz.prog 112=some ⟨⟨1,false,8,[.az], .func⟩,[],none,none⟩:=by kernel_rfl
@[go_sem] theorem Xep:aC Tryz.prog 113=some ⟨1,false,8,[.az], .func⟩:=by kernel_rfl
@[go_sem] theorem Xmy:bJ Tryz.prog 113=some ⟨⟨1,false,8,[.az], .func⟩,[],none,none⟩:=by kernel_rfl
@[go_sem] theorem Xdx:aC Tryz.prog 114=some ⟨1,false,8,[.az], .func⟩:=by kernel_rfl
@[go_sem] theorem Xmi:bJ Tryz.prog 114=some ⟨⟨1,false,8,[.az], .func⟩,[],none,none⟩:=by kernel_rfl
@[go_sem] theorem Xfs:aC Tryz.prog 115=some ⟨1,false,8,[.az], .func⟩:=by kernel_rfl
@[go_sem] theorem Xll:bJ Tryz.prog 115=some ⟨⟨1,false,8,[.az], .func⟩,[],none,none⟩:=by kernel_rfl
@[go_sem] theorem Xb3:aC Tryz.prog 116=some ⟨1,false,8,[.az], .func⟩:=by kernel_rfl
@[go_sem] theorem Xlo:bJ Tryz.prog 116=some ⟨⟨1,false,8,[.az], .func⟩,[],none,none⟩:=by kernel_rfl
@[go_sem] theorem Xbb:aC Tryz.prog 117=some ⟨1,false,8,[.az], .func⟩:=by kernel_rfl
@[go_sem] theorem Xil:bJ Tryz.prog 117=some ⟨⟨1,false,8,[.az], .func⟩,[],none,none⟩:=by kernel_rfl
@[go_sem] theorem Xcc:aC Tryz.prog 118=some ⟨1,false,8,[.az], .func⟩:=by kernel_rfl
@[go_sem] theorem Xgp:bJ Tryz.prog 118=some ⟨⟨1,false,8,[.az], .func⟩,[],none,none⟩:=by kernel_rfl
@[go_sem] theorem Xb5:aC Tryz.prog 119=some ⟨1,false,8,[.az], .func⟩:=by kernel_rfl
@[go_sem] theorem Xkd:bJ Tryz.prog 119=some ⟨⟨1,false,8,[.az], .func⟩,[],none,none⟩:=by kernel_rfl
@[go_sem] theorem Xcu:aC Tryz.prog 120=some ⟨1,false,8,[.az], .func⟩:=by kernel_rfl
@[go_sem] theorem Xh8:bJ Tryz.prog 120=some ⟨⟨1,false,8,[.az], .func⟩,[],none,none⟩:=by kernel_rfl
@[go_sem] theorem Xdm:aC Tryz.prog 121=some ⟨1,false,8,[.az], .func⟩:=by kernel_rfl
@[go_sem] theorem Xh0:bJ Tryz.prog 121=some ⟨⟨1,false,8,[.az], .func⟩,[],none,none⟩:=by kernel_rfl
@[go_sem] theorem Xbh:aC Tryz.prog 122=some ⟨6,true,96,[.aU, .bool false, .int .i64 0, .aU, .int .i64 0, .aU], .struct⟩:=by kernel_rfl
@[go_sem] theorem Xjw:bJ Tryz.prog 122=some ⟨⟨6,true,96,[.aU, .bool false, .int .i64 0, .aU, .int .i64 0, .aU], .struct⟩,[(0,some ⟨1,false,24,[.aU], .slice⟩),(1,some ⟨5,true,72,[.bool false, .int .i64 0, .aU, .int .i64 0, .aU], .struct⟩)],none,none⟩:=by kernel_rfl
@[go_sem] theorem Xg7:aC Tryz.prog 123=some ⟨6,true,96,[.aU, .bool false, .int .i64 0, .aU, .int .i64 0, .aU], .struct⟩:=by kernel_rfl
@[go_sem] theorem Xnd:bJ Tryz.prog 123=some ⟨⟨6,true,96,[.aU, .bool false, .int .i64 0, .aU, .int .i64 0, .aU], .struct⟩,[(0,some ⟨1,false,24,[.aU], .slice⟩),(1,some ⟨5,true,72,[.bool false, .int .i64 0, .aU, .int .i64 0, .aU], .struct⟩)],none,none⟩:=by kernel_rfl
@[go_sem] theorem Xbj:aC Tryz.prog 124=some ⟨1,false,8,[.az], .func⟩:=by kernel_rfl
@[go_sem] theorem Xld:bJ Tryz.prog 124=some ⟨⟨1,false,8,[.az], .func⟩,[],none,none⟩:=by kernel_rfl
@[go_sem] theorem Xcz:aC Tryz.prog 125=some ⟨1,false,8,[.az], .func⟩:=by kernel_rfl
@[go_sem] theorem Xii:bJ Tryz.prog 125=some ⟨⟨1,false,8,[.az], .func⟩,[],none,none⟩:=by kernel_rfl
@[go_sem] theorem Xf7:aC Tryz.prog 126=some ⟨1,false,8,[.az], .func⟩:=by kernel_rfl
@[go_sem] theorem Xnf:bJ Tryz.prog 126=some ⟨⟨1,false,8,[.az], .func⟩,[],none,none⟩:=by kernel_rfl
@[go_sem] theorem Xdi:aC Tryz.prog 127=some ⟨1,false,8,[.az], .func⟩:=by kernel_rfl
@[go_sem] theorem Xmn:bJ Tryz.prog 127=some ⟨⟨1,false,8,[.az], .func⟩,[],none,none⟩:=by kernel_rfl
@[go_sem] theorem Xc7:aC Tryz.prog 128=some ⟨1,false,24,[.aU], .slice⟩:=by kernel_rfl
@[go_sem] theorem Xhk:bJ Tryz.prog 128=some ⟨⟨1,false,24,[.aU], .slice⟩,[],some ⟨5,true,72,[.int .i64 0, .aU, .int .i64 0, .aU, .int .i64 0], .struct⟩,none⟩:=by kernel_rfl
@[go_sem] theorem Xfv:aC Tryz.prog 129=some ⟨1,false,8,[.az], .func⟩:=by kernel_rfl
@[go_sem] theorem Xgi:bJ Tryz.prog 129=some ⟨⟨1,false,8,[.az], .func⟩,[],none,none⟩:=by kernel_rfl
@[go_sem] theorem Xej:aC Tryz.prog 130=some ⟨1,false,8,[.az], .func⟩:=by kernel_rfl
@[go_sem] theorem Xkv:bJ Tryz.prog 130=some ⟨⟨1,false,8,[.az], .func⟩,[],none,none⟩:=by kernel_rfl
@[go_sem] theorem Xdf:aC Tryz.prog 131=some ⟨1,false,8,[.az], .func⟩:=by kernel_rfl
@[go_sem] theorem Xi2:bJ Tryz.prog 131=some ⟨⟨1,false,8,[.az], .func⟩,[],none,none⟩:=by kernel_rfl
@[go_sem] theorem Xdp:aC Tryz.prog 132=some ⟨1,false,8,[.az], .func⟩:=by kernel_rfl
@[go_sem] theorem Xn8:bJ Tryz.prog 132=some ⟨⟨1,false,8,[.az], .func⟩,[],none,none⟩:=by kernel_rfl
@[go_sem] theorem Xb7:aC Tryz.prog 133=some ⟨1,false,8,[.az], .func⟩:=by kernel_rfl
@[go_sem] theorem Xm1:bJ Tryz.prog 133=some ⟨⟨1,false,8,[.az], .func⟩,[],none,none⟩:=by kernel_rfl
@[go_sem] theorem Xdn:aC Tryz.prog 134=some ⟨1,false,8,[.cy], .map⟩:=by kernel_rfl
@[go_sem] theorem Xhy:bJ Tryz.prog 134=some ⟨⟨1,false,8,[.cy], .map⟩,[],some ⟨1,false,8,[.int .i64 0],(.int .i64)⟩,some ⟨1,false,8,[.int .i64 0],(.int .i64)⟩⟩:=by kernel_rfl
@[go_sem] theorem Xe9:aC Tryz.prog 136=some ⟨1,false,8,[.az], .func⟩:=by kernel_rfl
@[go_sem] theorem Xh3:bJ Tryz.prog 136=some ⟨⟨1,false,8,[.az], .func⟩,[],none,none⟩:=by kernel_rfl
@[go_sem] theorem Xci:aC Tryz.prog 137=some ⟨1,true,8,[.az], .struct⟩:=by kernel_rfl
@[go_sem] theorem Xiw:bJ Tryz.prog 137=some ⟨⟨1,true,8,[.az], .struct⟩,[(0,some ⟨1,false,8,[.az], .func⟩)],none,none⟩:=by kernel_rfl
@[go_sem] theorem Xdj:aC Tryz.prog 138=some ⟨1,true,8,[.az], .struct⟩:=by kernel_rfl
@[go_sem] theorem Xnn:bJ Tryz.prog 138=some ⟨⟨1,true,8,[.az], .struct⟩,[(0,some ⟨1,false,8,[.az], .func⟩)],none,none⟩:=by kernel_rfl
@[go_sem] theorem Xd8:aC Tryz.prog 139=some ⟨1,false,8,[.az], .func⟩:=by kernel_rfl
@[go_sem] theorem Xlv:bJ Tryz.prog 139=some ⟨⟨1,false,8,[.az], .func⟩,[],none,none⟩:=by kernel_rfl
@[go_sem] theorem Xde:aC Tryz.prog 140=some ⟨1,false,8,[.az], .func⟩:=by kernel_rfl
@[go_sem] theorem Xgu:bJ Tryz.prog 140=some ⟨⟨1,false,8,[.az], .func⟩,[],none,none⟩:=by kernel_rfl
@[go_sem] theorem Xf5:aC Tryz.prog 141=some ⟨1,false,24,[.aU], .slice⟩:=by kernel_rfl
@[go_sem] theorem Xj2:bJ Tryz.prog 141=some ⟨⟨1,false,24,[.aU], .slice⟩,[],some ⟨3,true,40,[.int .i64 0, .int .i64 0, .aU], .struct⟩,none⟩:=by kernel_rfl
@[go_sem] theorem Xem:aC Tryz.prog 142=some ⟨1,false,8,[.az], .func⟩:=by kernel_rfl
@[go_sem] theorem Xj7:bJ Tryz.prog 142=some ⟨⟨1,false,8,[.az], .func⟩,[],none,none⟩:=by kernel_rfl
@[go_sem] theorem Xf6:aC Tryz.prog 143=some ⟨1,false,8,[.az], .func⟩:=by kernel_rfl
@[go_sem] theorem Xne:bJ Tryz.prog 143=some ⟨⟨1,false,8,[.az], .func⟩,[],none,none⟩:=by kernel_rfl
@[go_sem] theorem Xg9:aC Tryz.prog 144=some ⟨1,false,8,[.az], .func⟩:=by kernel_rfl
@[go_sem] theorem Xlt:bJ Tryz.prog 144=some ⟨⟨1,false,8,[.az], .func⟩,[],none,none⟩:=by kernel_rfl
@[go_sem] theorem Xe0:aC Tryz.prog 145=some ⟨1,false,8,[.az], .func⟩:=by kernel_rfl
@[go_sem] theorem Xnm:bJ Tryz.prog 145=some ⟨⟨1,false,8,[.az], .func⟩,[],none,none⟩:=by kernel_rfl
@[go_sem] theorem Xbv:aC Tryz.prog 146=some ⟨1,false,8,[.az], .func⟩:=by kernel_rfl
@[go_sem] theorem Xjr:bJ Tryz.prog 146=some ⟨⟨1,false,8,[.az], .func⟩,[],none,none⟩:=by kernel_rfl
@[go_sem] theorem Xdh:aC Tryz.prog 147=some ⟨1,false,8,[.az], .func⟩:=by kernel_rfl
@[go_sem] theorem Xl1:bJ Tryz.prog 147=some ⟨⟨1,false,8,[.az], .func⟩,[],none,none⟩:=by kernel_rfl
@[go_sem] theorem Xd4:aC Tryz.prog 148=some ⟨1,false,8,[.az], .func⟩:=by kernel_rfl
@[go_sem] theorem Xi4:bJ Tryz.prog 148=some ⟨⟨1,false,8,[.az], .func⟩,[],none,none⟩:=by kernel_rfl
@[go_sem] theorem Xfx:aC Tryz.prog 149=some ⟨1,false,8,[.az], .func⟩:=by kernel_rfl
@[go_sem] theorem Xgl:bJ Tryz.prog 149=some ⟨⟨1,false,8,[.az], .func⟩,[],none,none⟩:=by kernel_rfl
@[go_sem] theorem Xd2:aC Tryz.prog 150=some ⟨1,false,8,[.az], .func⟩:=by kernel_rfl
@[go_sem] theorem Xm6:bJ Tryz.prog 150=some ⟨⟨1,false,8,[.az], .func⟩,[],none,none⟩:=by kernel_rfl
@[go_sem] theorem Xfz:aC Tryz.prog 151=some ⟨1,false,8,[.az], .func⟩:=by kernel_rfl
@[go_sem] theorem Xli:bJ Tryz.prog 151=some ⟨⟨1,false,8,[.az], .func⟩,[],none,none⟩:=by kernel_rfl
@[go_sem] theorem Xdr:aC Tryz.prog 152=some ⟨1,false,8,[.az], .func⟩:=by kernel_rfl
@[go_sem] theorem Xnq:bJ Tryz.prog 152=some ⟨⟨1,false,8,[.az], .func⟩,[],none,none⟩:=by kernel_rfl
@[go_sem] theorem Xdu:aC Tryz.prog 153=some ⟨4,true,64,[.int .i64 0, .aU, .int .i64 0, .aU],(.array 2)⟩:=by kernel_rfl
@[go_sem] theorem Xgv:bJ Tryz.prog 153=some ⟨⟨4,true,64,[.int .i64 0, .aU, .int .i64 0, .aU],(.array 2)⟩,[],some ⟨2,true,32,[.int .i64 0, .aU], .struct⟩,none⟩:=by kernel_rfl
@[go_sem] theorem Xf4:aC Tryz.prog 154=some ⟨1,false,24,[.aU], .slice⟩:=by kernel_rfl
@[go_sem] theorem Xka:bJ Tryz.prog 154=some ⟨⟨1,false,24,[.aU], .slice⟩,[],some ⟨4,true,64,[.int .i64 0, .aU, .int .i64 0, .aU],(.array 2)⟩,none⟩:=by kernel_rfl
@[go_sem] theorem Xff:aC Tryz.prog 155=some ⟨1,false,8,[.az], .func⟩:=by kernel_rfl
@[go_sem] theorem Xn3:bJ Tryz.prog 155=some ⟨⟨1,false,8,[.az], .func⟩,[],none,none⟩:=by kernel_rfl
@[go_sem] theorem Xdc:aC Tryz.prog 156=some ⟨1,false,8,[.az], .func⟩:=by kernel_rfl
@[go_sem] theorem Xny:bJ Tryz.prog 156=some ⟨⟨1,false,8,[.az], .func⟩,[],none,none⟩:=by kernel_rfl
@[go_sem] theorem Xeg:aC Tryz.prog 157=some ⟨1,false,8,[.az], .func⟩:=by kernel_rfl
@[go_sem] theorem Xmq:bJ Tryz.prog 157=some ⟨⟨1,false,8,[.az], .func⟩,[],none,none⟩:=by kernel_rfl
@[go_sem] theorem Xev:aC Tryz.prog 158=some ⟨1,false,24,[.aU], .slice⟩:=by kernel_rfl
@[go_sem] theorem Xlu:bJ Tryz.prog 158=some ⟨⟨1,false,24,[.aU], .slice⟩,[],some ⟨1,false,8,[.az], .func⟩,none⟩:=by kernel_rfl
@[go_sem] theorem Xb8:aC Tryz.prog 159=some ⟨1,false,8,[.az], .func⟩:=by kernel_rfl
@[go_sem] theorem Xh6:bJ Tryz.prog 159=some ⟨⟨1,false,8,[.az], .func⟩,[],none,none⟩:=by kernel_rfl
@[go_sem] theorem Xd7:aC Tryz.prog 160=some ⟨5,true,72,[.int .i64 0, .aU, .int .i64 0, .aU, .int .i64 0], .struct⟩:=by kernel_rfl
@[go_sem] theorem Xkt:bJ Tryz.prog 160=some ⟨⟨5,true,72,[.int .i64 0, .aU, .int .i64 0, .aU, .int .i64 0], .struct⟩,[(0,some ⟨2,true,32,[.int .i64 0, .aU], .struct⟩),(2,some ⟨2,true,32,[.int .i64 0, .aU], .struct⟩),(4,some ⟨1,false,8,[.int .i64 0],(.int .i64)⟩)],none,none⟩:=by kernel_rfl
@[go_sem] theorem Xbi:aC Tryz.prog 161=some ⟨5,true,72,[.int .i64 0, .aU, .int .i64 0, .aU, .int .i64 0], .struct⟩:=by kernel_rfl
@[go_sem] theorem Xmr:bJ Tryz.prog 161=some ⟨⟨5,true,72,[.int .i64 0, .aU, .int .i64 0, .aU, .int .i64 0], .struct⟩,[(0,some ⟨2,true,32,[.int .i64 0, .aU], .struct⟩),(2,some ⟨2,true,32,[.int .i64 0, .aU], .struct⟩),(4,some ⟨1,false,8,[.int .i64 0],(.int .i64)⟩)],none,none⟩:=by kernel_rfl
@[go_sem] theorem Xgb:aC Tryz.prog 162=some ⟨1,false,8,[.az], .func⟩:=by kernel_rfl
@[go_sem] theorem Xn1:bJ Tryz.prog 162=some ⟨⟨1,false,8,[.az], .func⟩,[],none,none⟩:=by kernel_rfl
@[go_sem] theorem Xc6:aC Tryz.prog 163=some ⟨1,false,8,[.az], .func⟩:=by kernel_rfl
@[go_sem] theorem Xhl:bJ Tryz.prog 163=some ⟨⟨1,false,8,[.az], .func⟩,[],none,none⟩:=by kernel_rfl
@[go_sem] theorem Xfe:aC Tryz.prog 164=some ⟨1,false,8,[.az], .func⟩:=by kernel_rfl
@[go_sem] theorem Xlf:bJ Tryz.prog 164=some ⟨⟨1,false,8,[.az], .func⟩,[],none,none⟩:=by kernel_rfl
@[go_sem] theorem Xe3:aC Tryz.prog 165=some ⟨1,false,8,[.az], .func⟩:=by kernel_rfl
@[go_sem] theorem Xhr:bJ Tryz.prog 165=some ⟨⟨1,false,8,[.az], .func⟩,[],none,none⟩:=by kernel_rfl
@[go_sem] theorem Xe5:aC Tryz.prog 166=some ⟨1,false,8,[.az], .func⟩:=by kernel_rfl
@[go_sem] theorem Xmg:bJ Tryz.prog 166=some ⟨⟨1,false,8,[.az], .func⟩,[],none,none⟩:=by kernel_rfl
@[go_sem] theorem Xds:aC Tryz.prog 167=some ⟨5,true,72,[.int .i64 0, .bool false, .aU, .int .i64 0, .aU], .struct⟩:=by kernel_rfl
@[go_sem] theorem Xkg:bJ Tryz.prog 167=some ⟨⟨5,true,72,[.int .i64 0, .bool false, .aU, .int .i64 0, .aU], .struct⟩,[(0,some ⟨1,false,8,[.int .i64 0],(.int .i64)⟩),(1,some ⟨1,false,1,[.bool false], .bool⟩),(2,some ⟨1,false,24,[.aU], .slice⟩),(3,some ⟨2,true,32,[.int .i64 0, .aU], .struct⟩)],none,none⟩:=by kernel_rfl
@[go_sem] theorem Xbp:aC Tryz.prog 168=some ⟨5,true,72,[.int .i64 0, .bool false, .aU, .int .i64 0, .aU], .struct⟩:=by kernel_rfl
@[go_sem] theorem Xm3:bJ Tryz.prog 168=some ⟨⟨5,true,72,[.int .i64 0, .bool false, .aU, .int .i64 0, .aU], .struct⟩,[(0,some ⟨1,false,8,[.int .i64 0],(.int .i64)⟩),(1,some ⟨1,false,1,[.bool false], .bool⟩),(2,some ⟨1,false,24,[.aU], .slice⟩),(3,some ⟨2,true,32,[.int .i64 0, .aU], .struct⟩)],none,none⟩:=by kernel_rfl
@[go_sem] theorem Xg3:aC Tryz.prog 170=some ⟨1,false,8,[.az], .func⟩:=by kernel_rfl
@[go_sem] theorem Xhc:bJ Tryz.prog 170=some ⟨⟨1,false,8,[.az], .func⟩,[],none,none⟩:=by kernel_rfl
@[go_sem] theorem Xc3:aC Tryz.prog 171=some ⟨1,false,8,[.az], .func⟩:=by kernel_rfl
@[go_sem] theorem Xl5:bJ Tryz.prog 171=some ⟨⟨1,false,8,[.az], .func⟩,[],none,none⟩:=by kernel_rfl
@[go_sem] theorem Xdy:aC Tryz.prog 172=some ⟨1,false,8,[.az], .func⟩:=by kernel_rfl
@[go_sem] theorem Xlk:bJ Tryz.prog 172=some ⟨⟨1,false,8,[.az], .func⟩,[],none,none⟩:=by kernel_rfl
@[go_sem] theorem Xg4:aC Tryz.prog 173=some ⟨1,false,8,[.az], .func⟩:=by kernel_rfl
@[go_sem] theorem Xjl:bJ Tryz.prog 173=some ⟨⟨1,false,8,[.az], .func⟩,[],none,none⟩:=by kernel_rfl
@[go_sem] theorem Xdq:aC Tryz.prog 174=some ⟨1,false,8,[.az], .func⟩:=by kernel_rfl
@[go_sem] theorem Xkm:bJ Tryz.prog 174=some ⟨⟨1,false,8,[.az], .func⟩,[],none,none⟩:=by kernel_rfl
@[go_sem] theorem Xc4:aC Tryz.prog 175=some ⟨3,true,40,[.int .i64 0, .int .i64 0, .aU], .struct⟩:=by kernel_rfl
@[go_sem] theorem Xlq:bJ Tryz.prog 175=some ⟨⟨3,true,40,[.int .i64 0, .int .i64 0, .aU], .struct⟩,[(0,some ⟨1,false,8,[.int .i64 0],(.int .i64)⟩),(1,some ⟨2,true,32,[.int .i64 0, .aU], .struct⟩)],none,none⟩:=by kernel_rfl
@[go_sem] theorem Xfo:aC Tryz.prog 176=some ⟨3,true,40,[.int .i64 0, .int .i64 0, .aU], .struct⟩:=by kernel_rfl
@[go_sem] theorem Xls:bJ Tryz.prog 176=some ⟨⟨3,true,40,[.int .i64 0, .int .i64 0, .aU], .struct⟩,[(0,some ⟨1,false,8,[.int .i64 0],(.int .i64)⟩),(1,some ⟨2,true,32,[.int .i64 0, .aU], .struct⟩)],none,none⟩:=by kernel_rfl
@[go_sem] theorem Xb0:aC Tryz.prog 178=some ⟨1,false,8,[.az], .func⟩:=by kernel_rfl
@[go_sem] theorem Xo3:bJ Tryz.prog 178=some ⟨⟨1,false,8,[.az], .func⟩,[],none,none⟩:=by kernel_rfl
@[go_sem] theorem Xd5:aC Tryz.prog 179=some ⟨1,false,8,[.az], .func⟩:=by kernel_rfl
@[go_sem] theorem Xmb:bJ Tryz.prog 179=some ⟨⟨1,false,8,[.az], .func⟩,[],none,none⟩:=by kernel_rfl
@[go_sem] theorem Xd6:aC Tryz.prog 180=some ⟨1,false,8,[.az], .func⟩:=by kernel_rfl
@[go_sem] theorem Xho:bJ Tryz.prog 180=some ⟨⟨1,false,8,[.az], .func⟩,[],none,none⟩:=by kernel_rfl
@[go_sem] theorem Xcs:aC Tryz.prog 181=some ⟨1,false,24,[.aU], .slice⟩:=by kernel_rfl
@[go_sem] theorem Xjf:bJ Tryz.prog 181=some ⟨⟨1,false,24,[.aU], .slice⟩,[],some ⟨1,false,24,[.aU], .slice⟩,none⟩:=by kernel_rfl
@[go_sem] theorem Xcf:aC Tryz.prog 182=some ⟨1,false,8,[.az], .func⟩:=by kernel_rfl
@[go_sem] theorem Xk2:bJ Tryz.prog 182=some ⟨⟨1,false,8,[.az], .func⟩,[],none,none⟩:=by kernel_rfl
@[go_sem] theorem Xdt:aC Tryz.prog 183=some ⟨1,false,8,[.az], .func⟩:=by kernel_rfl
@[go_sem] theorem Xi8:bJ Tryz.prog 183=some ⟨⟨1,false,8,[.az], .func⟩,[],none,none⟩:=by kernel_rfl
@[go_sem] theorem Xe2:aC Tryz.prog 184=some ⟨1,false,8,[.az], .func⟩:=by kernel_rfl
@[go_sem] theorem Xjg:bJ Tryz.prog 184=some ⟨⟨1,false,8,[.az], .func⟩,[],none,none⟩:=by kernel_rfl
@[go_sem] theorem Xdg:aC Tryz.prog 185=some ⟨3,true,40,[.int .i64 0, .aU, .int .i64 0], .struct⟩:=by kernel_rfl
@[go_sem] theorem Xnt:bJ Tryz.prog 185=some ⟨⟨3,true,40,[.int .i64 0, .aU, .int .i64 0], .struct⟩,[(0,some ⟨2,true,32,[.int .i64 0, .aU], .struct⟩),(2,some ⟨1,false,8,[.int .i64 0],(.int .i64)⟩)],none,none⟩:=by kernel_rfl
@[go_sem] theorem Xey:aC Tryz.prog 186=some ⟨3,true,40,[.int .i64 0, .aU, .int .i64 0], .struct⟩:=by kernel_rfl
@[go_sem] theorem Xjs:bJ Tryz.prog 186=some ⟨⟨3,true,40,[.int .i64 0, .aU, .int .i64 0], .struct⟩,[(0,some ⟨2,true,32,[.int .i64 0, .aU], .struct⟩),(2,some ⟨1,false,8,[.int .i64 0],(.int .i64)⟩)],none,none⟩:=by kernel_rfl
@[go_sem] theorem Xf8:aC Tryz.prog 187=some ⟨1,false,24,[.aU], .slice⟩:=by kernel_rfl
@[go_sem] theorem Xin:bJ Tryz.prog 187=some ⟨⟨1,false,24,[.aU], .slice⟩,[],some ⟨3,true,40,[.int .i64 0, .aU, .int .i64 0], .struct⟩,none⟩:=by kernel_rfl
@[go_sem] theorem Xbn:aC Tryz.prog 188=some ⟨1,false,8,[.az], .func⟩:=by kernel_rfl
@[go_sem] theorem Xms:bJ Tryz.prog 188=some ⟨⟨1,false,8,[.az], .func⟩,[],none,none⟩:=by kernel_rfl
@[go_sem] theorem Xfp:aC Tryz.prog 189=some ⟨1,false,8,[.az], .func⟩:=by kernel_rfl
@[go_sem] theorem Xjj:bJ Tryz.prog 189=some ⟨⟨1,false,8,[.az], .func⟩,[],none,none⟩:=by kernel_rfl
@[go_sem] theorem Xc0:aC Tryz.prog 190=some ⟨1,false,8,[.az], .func⟩:=by kernel_rfl
@[go_sem] theorem Xme:bJ Tryz.prog 190=some ⟨⟨1,false,8,[.az], .func⟩,[],none,none⟩:=by kernel_rfl
@[go_sem] theorem Xeo:aC Tryz.prog 191=some ⟨1,false,8,[.az], .func⟩:=by kernel_rfl
@[go_sem] theorem Xgq:bJ Tryz.prog 191=some ⟨⟨1,false,8,[.az], .func⟩,[],none,none⟩:=by kernel_rfl
@[go_sem] theorem Xfk:aC Tryz.prog 192=some ⟨1,false,8,[.az], .func⟩:=by kernel_rfl
@[go_sem] theorem Xkl:bJ Tryz.prog 192=some ⟨⟨1,false,8,[.az], .func⟩,[],none,none⟩:=by kernel_rfl
@[go_sem] theorem Xe4:aC Tryz.prog 193=some ⟨1,false,8,[.az], .func⟩:=by kernel_rfl
@[go_sem] theorem Xns:bJ Tryz.prog 193=some ⟨⟨1,false,8,[.az], .func⟩,[],none,none⟩:=by kernel_rfl
@[go_sem] theorem Xcg:aC Tryz.prog 194=some ⟨1,false,8,[.az], .func⟩:=by kernel_rfl
@[go_sem] theorem Xkh:bJ Tryz.prog 194=some ⟨⟨1,false,8,[.az], .func⟩,[],none,none⟩:=by kernel_rfl
@[go_sem] theorem Xfw:aC Tryz.prog 195=some ⟨1,false,8,[.az], .func⟩:=by kernel_rfl
@[go_sem] theorem Xj6:bJ Tryz.prog 195=some ⟨⟨1,false,8,[.az], .func⟩,[],none,none⟩:=by kernel_rfl
@[go_sem] theorem Xba:aC Tryz.prog 196=some ⟨1,false,8,[.az], .func⟩:=by kernel_rfl
@[go_sem] theorem Xje:bJ Tryz.prog 196=some ⟨⟨1,false,8,[.az], .func⟩,[],none,none⟩:=by kernel_rfl
@[go_sem] theorem Xby:aC Tryz.prog 198=some ⟨1,false,8,[.az], .func⟩:=by kernel_rfl
@[go_sem] theorem Xks:bJ Tryz.prog 198=some ⟨⟨1,false,8,[.az], .func⟩,[],none,none⟩:=by kernel_rfl
@[go_sem] theorem Xe7:aC Tryz.prog 200=some ⟨1,false,8,[.az], .func⟩:=by kernel_rfl
@[go_sem] theorem Xo5:bJ Tryz.prog 200=some ⟨⟨1,false,8,[.az], .func⟩,[],none,none⟩:=by kernel_rfl
@[go_sem] theorem Xeh:aC Tryz.prog 202=some ⟨1,false,8,[.az], .func⟩:=by kernel_rfl
@[go_sem] theorem Xit:bJ Tryz.prog 202=some ⟨⟨1,false,8,[.az], .func⟩,[],none,none⟩:=by kernel_rfl
@[go_sem] theorem Xft:aC Tryz.prog 203=some ⟨1,false,8,[.az], .func⟩:=by kernel_rfl
@[go_sem] theorem Xgn:bJ Tryz.prog 203=some ⟨⟨1,false,8,[.az], .func⟩,[],none,none⟩:=by kernel_rfl
@[go_sem] theorem Xg5:aC Tryz.prog 204=some ⟨1,false,8,[.bM], .ptr⟩:=by kernel_rfl
@[go_sem] theorem Xnz:bJ Tryz.prog 204=some ⟨⟨1,false,8,[.bM], .ptr⟩,[],none,none⟩:=by kernel_rfl
@[go_sem] theorem Xb6:aC Tryz.prog 205=some ⟨1,false,8,[.az], .func⟩:=by kernel_rfl
@[go_sem] theorem Xmo:bJ Tryz.prog 205=some ⟨⟨1,false,8,[.az], .func⟩,[],none,none⟩:=by kernel_rfl
@[go_sem] theorem Xct:aC Tryz.prog 206=some ⟨1,false,8,[.az], .func⟩:=by kernel_rfl
@[go_sem] theorem Xjk:bJ Tryz.prog 206=some ⟨⟨1,false,8,[.az], .func⟩,[],none,none⟩:=by kernel_rfl
@[go_sem] theorem Xbz:aC Tryz.prog 207=some ⟨1,false,8,[.az], .func⟩:=by kernel_rfl
@[go_sem] theorem Xjz:bJ Tryz.prog 207=some ⟨⟨1,false,8,[.az], .func⟩,[],none,none⟩:=by kernel_rfl
@[go_sem] theorem Xfb:aC Tryz.prog 208=some ⟨1,false,8,[.az], .func⟩:=by kernel_rfl
@[go_sem] theorem Xlc:bJ Tryz.prog 208=some ⟨⟨1,false,8,[.az], .func⟩,[],none,none⟩:=by kernel_rfl
@[go_sem] theorem Xg8:aC Tryz.prog 209=some ⟨1,false,8,[.az], .func⟩:=by kernel_rfl
@[go_sem] theorem Xnj:bJ Tryz.prog 209=some ⟨⟨1,false,8,[.az], .func⟩,[],none,none⟩:=by kernel_rfl
@[go_sem] theorem Xcn:aC Tryz.prog 210=some ⟨1,false,8,[.az], .func⟩:=by kernel_rfl
@[go_sem] theorem Xim:bJ Tryz.prog 210=some ⟨⟨1,false,8,[.az], .func⟩,[],none,none⟩:=by kernel_rfl
@[go_sem] theorem Xcy:aC Tryz.prog 212=some ⟨1,false,8,[.az], .func⟩:=by kernel_rfl
@[go_sem] theorem Xlb:bJ Tryz.prog 212=some ⟨⟨1,false,8,[.az], .func⟩,[],none,none⟩:=by kernel_rfl
@[go_sem] theorem Xcp:aC Tryz.prog 213=some ⟨1,false,8,[.az], .func⟩:=by kernel_rfl
@[go_sem] theorem Xln:bJ Tryz.prog 213=some ⟨⟨1,false,8,[.az], .func⟩,[],none,none⟩:=by kernel_rfl
@[go_sem] theorem Xel:aC Tryz.prog 214=some ⟨1,false,8,[.az], .func⟩:=by kernel_rfl
@[go_sem] theorem Xo1:bJ Tryz.prog 214=some ⟨⟨1,false,8,[.az], .func⟩,[],none,none⟩:=by kernel_rfl
@[go_sem] theorem Xbm:aC Tryz.prog 215=some ⟨1,false,8,[.az], .func⟩:=by kernel_rfl
@[go_sem] theorem Xiq:bJ Tryz.prog 215=some ⟨⟨1,false,8,[.az], .func⟩,[],none,none⟩:=by kernel_rfl
@[go_sem] theorem Xec:aC Tryz.prog 216=some ⟨1,false,8,[.az], .func⟩:=by kernel_rfl
@[go_sem] theorem Xk8:bJ Tryz.prog 216=some ⟨⟨1,false,8,[.az], .func⟩,[],none,none⟩:=by kernel_rfl
@[go_sem] theorem Xf9:aC Tryz.prog 217=some ⟨1,false,8,[.az], .func⟩:=by kernel_rfl
@[go_sem] theorem Xl6:bJ Tryz.prog 217=some ⟨⟨1,false,8,[.az], .func⟩,[],none,none⟩:=by kernel_rfl
@[go_sem] theorem Xbd:aC Tryz.prog 218=some ⟨1,false,8,[.az], .func⟩:=by kernel_rfl
@[go_sem] theorem Xno:bJ Tryz.prog 218=some ⟨⟨1,false,8,[.az], .func⟩,[],none,none⟩:=by kernel_rfl
@[go_sem] theorem Xda:aC Tryz.prog 219=some ⟨1,false,8,[.az], .func⟩:=by kernel_rfl
@[go_sem] theorem Xig:bJ Tryz.prog 219=some ⟨⟨1,false,8,[.az], .func⟩,[],none,none⟩:=by kernel_rfl
@[go_sem] theorem Xfy:aC Tryz.prog 220=some ⟨1,false,8,[.az], .func⟩:=by kernel_rfl
@[go_sem] theorem Xnk:bJ Tryz.prog 220=some ⟨⟨1,false,8,[.az], .func⟩,[],none,none⟩:=by kernel_rfl
@[go_sem] theorem Xbc:aC Tryz.prog 221=some ⟨1,false,8,[.cy], .map⟩:=by kernel_rfl
@[go_sem] theorem Xn4:bJ Tryz.prog 221=some ⟨⟨1,false,8,[.cy], .map⟩,[],some ⟨2,true,32,[.int .i64 0, .aU], .struct⟩,some ⟨1,false,8,[.int .i64 0],(.int .i64)⟩⟩:=by kernel_rfl
@[go_sem] theorem Xcm:aC Tryz.prog 222=some ⟨1,false,8,[.az], .func⟩:=by kernel_rfl
@[go_sem] theorem Xkw:bJ Tryz.prog 222=some ⟨⟨1,false,8,[.az], .func⟩,[],none,none⟩:=by kernel_rfl
@[go_sem] theorem Xb9:aC Tryz.prog 223=some ⟨1,false,8,[.az], .func⟩:=by kernel_rfl
@[go_sem] theorem Xni:bJ Tryz.prog 223=some ⟨⟨1,false,8,[.az], .func⟩,[],none,none⟩:=by kernel_rfl
@[go_sem] theorem Xc8:aC Tryz.prog 224=some ⟨1,false,8,[.az], .func⟩:=by kernel_rfl
@[go_sem] theorem Xmh:bJ Tryz.prog 224=some ⟨⟨1,false,8,[.az], .func⟩,[],none,none⟩:=by kernel_rfl
@[go_sem] theorem Xdl:aC Tryz.prog 225=some ⟨1,false,8,[.az], .func⟩:=by kernel_rfl
@[go_sem] theorem Xma:bJ Tryz.prog 225=some ⟨⟨1,false,8,[.az], .func⟩,[],none,none⟩:=by kernel_rfl
@[go_sem] theorem Xd1:aC Tryz.prog 226=some ⟨1,false,8,[.az], .func⟩:=by kernel_rfl
@[go_sem] theorem Xnv:bJ Tryz.prog 226=some ⟨⟨1,false,8,[.az], .func⟩,[],none,none⟩:=by kernel_rfl
@[go_sem] theorem Xeu:aC Tryz.prog 227=some ⟨1,false,8,[.az], .func⟩:=by kernel_rfl
@[go_sem] theorem Xnw:bJ Tryz.prog 227=some ⟨⟨1,false,8,[.az], .func⟩,[],none,none⟩:=by kernel_rfl
@[go_sem] theorem Xfj:aC Tryz.prog 228=some ⟨1,false,8,[.bM], .ptr⟩:=by kernel_rfl
@[go_sem] theorem Xkp:bJ Tryz.prog 228=some ⟨⟨1,false,8,[.bM], .ptr⟩,[],none,none⟩:=by kernel_rfl
@[go_sem] theorem Xer:aC Tryz.prog 229=some ⟨1,false,8,[.az], .func⟩:=by kernel_rfl
@[go_sem] theorem Xj1:bJ Tryz.prog 229=some ⟨⟨1,false,8,[.az], .func⟩,[],none,none⟩:=by kernel_rfl
@[go_sem] theorem Xfu:aC Tryz.prog 230=some ⟨1,false,8,[.az], .func⟩:=by kernel_rfl
@[go_sem] theorem Xi9:bJ Tryz.prog 230=some ⟨⟨1,false,8,[.az], .func⟩,[],none,none⟩:=by kernel_rfl
@[go_sem] theorem Xew:aC Tryz.prog 231=some ⟨1,false,8,[.az], .func⟩:=by kernel_rfl
@[go_sem] theorem Xm8:bJ Tryz.prog 231=some ⟨⟨1,false,8,[.az], .func⟩,[],none,none⟩:=by kernel_rfl
@[go_sem] theorem Xea:aC Tryz.prog 232=some ⟨1,false,8,[.az], .func⟩:=by kernel_rfl
@[go_sem] theorem Xku:bJ Tryz.prog 232=some ⟨⟨1,false,8,[.az], .func⟩,[],none,none⟩:=by kernel_rfl
@[go_sem] theorem Xdv:aC Tryz.prog 233=some ⟨1,false,8,[.az], .func⟩:=by kernel_rfl
@[go_sem] theorem Xhw:bJ Tryz.prog 233=some ⟨⟨1,false,8,[.az], .func⟩,[],none,none⟩:=by kernel_rfl
@[go_sem] theorem Xcq:aC Tryz.prog 234=some ⟨1,false,8,[.az], .func⟩:=by kernel_rfl
@[go_sem] theorem Xnx:bJ Tryz.prog 234=some ⟨⟨1,false,8,[.az], .func⟩,[],none,none⟩:=by kernel_rfl
@[go_sem] theorem Xbg:aC Tryz.prog 235=some ⟨1,false,8,[.az], .func⟩:=by kernel_rfl
@[go_sem] theorem Xjp:bJ Tryz.prog 235=some ⟨⟨1,false,8,[.az], .func⟩,[],none,none⟩:=by kernel_rfl
@[go_sem] theorem Xbr:aC Tryz.prog 236=some ⟨1,false,8,[.az], .func⟩:=by kernel_rfl
@[go_sem] theorem Xna:bJ Tryz.prog 236=some ⟨⟨1,false,8,[.az], .func⟩,[],none,none⟩:=by kernel_rfl
@[go_sem] theorem Xdo:aC Tryz.prog 237=some ⟨1,false,8,[.az], .func⟩:=by kernel_rfl
@[go_sem] theorem Xgh:bJ Tryz.prog 237=some ⟨⟨1,false,8,[.az], .func⟩,[],none,none⟩:=by kernel_rfl
@[go_sem] theorem Xbs:aC Tryz.prog 238=some ⟨1,false,8,[.az], .func⟩:=by kernel_rfl
@[go_sem] theorem Xi0:bJ Tryz.prog 238=some ⟨⟨1,false,8,[.az], .func⟩,[],none,none⟩:=by kernel_rfl
@[go_sem] theorem Xdd:aC Tryz.prog 239=some ⟨1,false,8,[.az], .func⟩:=by kernel_rfl
@[go_sem] theorem Xlw:bJ Tryz.prog 239=some ⟨⟨1,false,8,[.az], .func⟩,[],none,none⟩:=by kernel_rfl
@[go_sem] theorem Xdk:aC Tryz.prog 240=some ⟨1,false,8,[.az], .func⟩:=by kernel_rfl
@[go_sem] theorem Xmp:bJ Tryz.prog 240=some ⟨⟨1,false,8,[.az], .func⟩,[],none,none⟩:=by kernel_rfl
@[go_sem] theorem Xcb:aC Tryz.prog 241=some ⟨1,false,8,[.az], .func⟩:=by kernel_rfl
@[go_sem] theorem Xkb:bJ Tryz.prog 241=some ⟨⟨1,false,8,[.az], .func⟩,[],none,none⟩:=by kernel_rfl
@[go_sem] theorem Xdb:aC Tryz.prog 242=some ⟨1,false,8,[.bM], .ptr⟩:=by kernel_rfl
@[go_sem] theorem Xlr:bJ Tryz.prog 242=some ⟨⟨1,false,8,[.bM], .ptr⟩,[],none,none⟩:=by kernel_rfl
@[go_sem] theorem Xfn:aC Tryz.prog 243=some ⟨2,true,16,[.int .i64 0, .cy], .struct⟩:=by kernel_rfl
@[go_sem] theorem Xh4:bJ Tryz.prog 243=some ⟨⟨2,true,16,[.int .i64 0, .cy], .struct⟩,[(0,some ⟨1,false,8,[.int .i64 0],(.int .i64)⟩),(1,some ⟨1,false,8,[.cy], .map⟩)],none,none⟩:=by kernel_rfl
@[go_sem] theorem Xco:aC Tryz.prog 244=some ⟨2,true,16,[.int .i64 0, .cy], .struct⟩:=by kernel_rfl
@[go_sem] theorem Xmz:bJ Tryz.prog 244=some ⟨⟨2,true,16,[.int .i64 0, .cy], .struct⟩,[(0,some ⟨1,false,8,[.int .i64 0],(.int .i64)⟩),(1,some ⟨1,false,8,[.cy], .map⟩)],none,none⟩:=by kernel_rfl
@[go_sem] theorem Xf0:aC Tryz.prog 245=some ⟨1,false,8,[.az], .func⟩:=by kernel_rfl
@[go_sem] theorem Xn7:bJ Tryz.prog 245=some ⟨⟨1,false,8,[.az], .func⟩,[],none,none⟩:=by kernel_rfl
@[go_sem] theorem Xfl:aC Tryz.prog 246=some ⟨1,false,8,[.az], .func⟩:=by kernel_rfl
@[go_sem] theorem Xgs:bJ Tryz.prog 246=some ⟨⟨1,false,8,[.az], .func⟩,[],none,none⟩:=by kernel_rfl
@[go_sem] theorem Xf1:aC Tryz.prog 247=some ⟨1,false,8,[.az], .func⟩:=by kernel_rfl
@[go_sem] theorem Xiu:bJ Tryz.prog 247=some ⟨⟨1,false,8,[.az], .func⟩,[],none,none⟩:=by kernel_rfl
@[go_sem] theorem Xd9:aC Tryz.prog 248=some ⟨1,false,8,[.az], .func⟩:=by kernel_rfl
@[go_sem] theorem Xo2:bJ Tryz.prog 248=some ⟨⟨1,false,8,[.az], .func⟩,[],none,none⟩:=by kernel_rfl
@[go_sem] theorem Xez:aC Tryz.prog 249=some ⟨1,false,8,[.az], .func⟩:=by kernel_rfl
@[go_sem] theorem Xhd:bJ Tryz.prog 249=some ⟨⟨1,false,8,[.az], .func⟩,[],none,none⟩:=by kernel_rfl
@[go_sem] theorem Xeb:aC Tryz.prog 250=some ⟨1,false,8,[.az], .func⟩:=by kernel_rfl
@[go_sem] theorem Xic:bJ Tryz.prog 250=some ⟨⟨1,false,8,[.az], .func⟩,[],none,none⟩:=by kernel_rfl
@[go_sem] theorem Xcl:aC Tryz.prog 251=some ⟨1,false,8,[.az], .func⟩:=by kernel_rfl
@[go_sem] theorem Xmm:bJ Tryz.prog 251=some ⟨⟨1,false,8,[.az], .func⟩,[],none,none⟩:=by kernel_rfl
@[go_sem] theorem Xfr:aC Tryz.prog 252=some ⟨1,false,8,[.az], .func⟩:=by kernel_rfl
@[go_sem] theorem Xk1:bJ Tryz.prog 252=some ⟨⟨1,false,8,[.az], .func⟩,[],none,none⟩:=by kernel_rfl
@[go_sem] theorem Xfm:aC Tryz.prog 253=some ⟨1,false,8,[.az], .func⟩:=by kernel_rfl
@[go_sem] theorem Xj4:bJ Tryz.prog 253=some ⟨⟨1,false,8,[.az], .func⟩,[],none,none⟩:=by kernel_rfl
@[go_sem] theorem Xek:aC Tryz.prog 255=some ⟨1,false,8,[.az], .func⟩:=by kernel_rfl
@[go_sem] theorem Xhn:bJ Tryz.prog 255=some ⟨⟨1,false,8,[.az], .func⟩,[],none,none⟩:=by kernel_rfl
@[go_sem] theorem Xb4:aC Tryz.prog 256=some ⟨1,false,8,[.az], .func⟩:=by kernel_rfl
@[go_sem] theorem Xmc:bJ Tryz.prog 256=some ⟨⟨1,false,8,[.az], .func⟩,[],none,none⟩:=by kernel_rfl
@[go_sem] theorem Xc5:aC Tryz.prog 257=some ⟨1,false,8,[.az], .func⟩:=by kernel_rfl
@[go_sem] theorem Xjd:bJ Tryz.prog 257=some ⟨⟨1,false,8,[.az], .func⟩,[],none,none⟩:=by kernel_rfl
@[go_sem] theorem Xcj:aC Tryz.prog 258=some ⟨1,false,8,[.az], .func⟩:=by kernel_rfl
@[go_sem] theorem Xha:bJ Tryz.prog 258=some ⟨⟨1,false,8,[.az], .func⟩,[],none,none⟩:=by kernel_rfl
@[go_sem] theorem Xfq:aC Tryz.prog 259=some ⟨1,false,8,[.az], .func⟩:=by kernel_rfl
@[go_sem] theorem Xjt:bJ Tryz.prog 259=some ⟨⟨1,false,8,[.az], .func⟩,[],none,none⟩:=by kernel_rfl
@[go_sem] theorem Xga:aC Tryz.prog 260=some ⟨1,false,8,[.az], .func⟩:=by kernel_rfl
@[go_sem] theorem Xh9:bJ Tryz.prog 260=some ⟨⟨1,false,8,[.az], .func⟩,[],none,none⟩:=by kernel_rfl
@[go_sem] theorem Xdz:aC Tryz.prog 261=some ⟨1,false,8,[.az], .func⟩:=by kernel_rfl
@[go_sem] theorem Xjh:bJ Tryz.prog 261=some ⟨⟨1,false,8,[.az], .func⟩,[],none,none⟩:=by kernel_rfl
@[go_sem] theorem Xfd:aC Tryz.prog 262=some ⟨1,false,8,[.az], .func⟩:=by kernel_rfl
@[go_sem] theorem Xmv:bJ Tryz.prog 262=some ⟨⟨1,false,8,[.az], .func⟩,[],none,none⟩:=by kernel_rfl
@[go_sem] theorem Xbk:aC Tryz.prog 263=some ⟨1,false,8,[.az], .func⟩:=by kernel_rfl
@[go_sem] theorem Xl3:bJ Tryz.prog 263=some ⟨⟨1,false,8,[.az], .func⟩,[],none,none⟩:=by kernel_rfl
@[go_sem] theorem Xe1:aC Tryz.prog 264=some ⟨1,false,8,[.az], .func⟩:=by kernel_rfl
@[go_sem] theorem Xmw:bJ Tryz.prog 264=some ⟨⟨1,false,8,[.az], .func⟩,[],none,none⟩:=by kernel_rfl
@[go_sem] theorem Xet:aC Tryz.prog 265=some ⟨1,false,8,[.int .u64 0],(.int .u64)⟩:=by kernel_rfl
@[go_sem] theorem Xht:bJ Tryz.prog 265=some ⟨⟨1,false,8,[.int .u64 0],(.int .u64)⟩,[],none,none⟩:=by kernel_rfl
@[go_sem] theorem Xbt:aC Tryz.prog 266=some ⟨1,false,24,[.aU], .slice⟩:=by kernel_rfl
@[go_sem] theorem Xlm:bJ Tryz.prog 266=some ⟨⟨1,false,24,[.aU], .slice⟩,[],some ⟨1,false,24,[.aU], .slice⟩,none⟩:=by kernel_rfl
@[go_sem] theorem Xfg:aC Tryz.prog 267=some ⟨1,false,8,[.az], .func⟩:=by kernel_rfl
@[go_sem] theorem Xja:bJ Tryz.prog 267=some ⟨⟨1,false,8,[.az], .func⟩,[],none,none⟩:=by kernel_rfl
@[go_sem] theorem Xaz:aC Tryz.prog 268=some ⟨1,false,8,[.az], .func⟩:=by kernel_rfl
@[go_sem] theorem Xio:bJ Tryz.prog 268=some ⟨⟨1,false,8,[.az], .func⟩,[],none,none⟩:=by kernel_rfl
@[go_sem] theorem Xfa:aC Tryz.prog 269=some ⟨1,false,8,[.az], .func⟩:=by kernel_rfl
@[go_sem] theorem Xlx:bJ Tryz.prog 269=some ⟨⟨1,false,8,[.az], .func⟩,[],none,none⟩:=by kernel_rfl
@[go_sem] theorem Xf2:aC Tryz.prog 270=some ⟨1,false,8,[.az], .func⟩:=by kernel_rfl
@[go_sem] theorem Xl8:bJ Tryz.prog 270=some ⟨⟨1,false,8,[.az], .func⟩,[],none,none⟩:=by kernel_rfl
@[go_sem] theorem Xbo:aC Tryz.prog 271=some ⟨1,false,8,[.int .i64 0],(.int .i64)⟩:=by kernel_rfl
@[go_sem] theorem Xkc:bJ Tryz.prog 271=some ⟨⟨1,false,8,[.int .i64 0],(.int .i64)⟩,[],none,none⟩:=by kernel_rfl
@[go_sem] theorem Xfc:aC Tryz.prog 273=some ⟨1,false,8,[.az], .func⟩:=by kernel_rfl
@[go_sem] theorem Xju:bJ Tryz.prog 273=some ⟨⟨1,false,8,[.az], .func⟩,[],none,none⟩:=by kernel_rfl
@[go_sem] theorem Xed:aC Tryz.prog 274=some ⟨1,false,8,[.az], .func⟩:=by kernel_rfl
@[go_sem] theorem Xnp:bJ Tryz.prog 274=some ⟨⟨1,false,8,[.az], .func⟩,[],none,none⟩:=by kernel_rfl
@[go_sem] theorem Xbq:aC Tryz.prog 275=some ⟨1,false,8,[.az], .func⟩:=by kernel_rfl
@[go_sem] theorem Xhg:bJ Tryz.prog 275=some ⟨⟨1,false,8,[.az], .func⟩,[],none,none⟩:=by kernel_rfl
@[go_sem] theorem Xee:aC Tryz.prog 276=some ⟨1,false,8,[.az], .func⟩:=by kernel_rfl
@[go_sem] theorem Xix:bJ Tryz.prog 276=some ⟨⟨1,false,8,[.az], .func⟩,[],none,none⟩:=by kernel_rfl
@[go_sem] theorem Xcr:aC Tryz.prog 277=some ⟨1,false,8,[.az], .func⟩:=by kernel_rfl
@[go_sem] theorem Xnh:bJ Tryz.prog 277=some ⟨⟨1,false,8,[.az], .func⟩,[],none,none⟩:=by kernel_rfl
@[go_sem] theorem Xbx:aC Tryz.prog 278=some ⟨1,false,8,[.az], .func⟩:=by kernel_rfl
@[go_sem] theorem Xip:bJ Tryz.prog 278=some ⟨⟨1,false,8,[.az], .func⟩,[],none,none⟩:=by kernel_rfl
@[go_sem] theorem Xd0:aC Tryz.prog 279=some ⟨1,false,4,[.int .u32 0],(.int .u32)⟩:=by kernel_rfl
@[go_sem] theorem Xm9:bJ Tryz.prog 279=some ⟨⟨1,false,4,[.int .u32 0],(.int .u32)⟩,[],none,none⟩:=by kernel_rfl
@[go_sem] theorem Xca:aC Tryz.prog 280=some ⟨1,false,8,[.az], .func⟩:=by kernel_rfl
@[go_sem] theorem Xkz:bJ Tryz.prog 280=some ⟨⟨1,false,8,[.az], .func⟩,[],none,none⟩:=by kernel_rfl
@[go_sem] theorem Xgc:aC Tryz.prog 281=some ⟨1,false,8,[.int .u64 0],(.int .u64)⟩:=by kernel_rfl
@[go_sem] theorem Xjb:bJ Tryz.prog 281=some ⟨⟨1,false,8,[.int .u64 0],(.int .u64)⟩,[],none,none⟩:=by kernel_rfl
@[go_sem] theorem Xbw:aC Tryz.prog 282=some ⟨1,false,8,[.int .u64 0],(.int .u64)⟩:=by kernel_rfl
@[go_sem] theorem Xhv:bJ Tryz.prog 282=some ⟨⟨1,false,8,[.int .u64 0],(.int .u64)⟩,[],none,none⟩:=by kernel_rfl
@[go_sem] theorem Xcv:aC Tryz.prog 283=some ⟨1,false,8,[.az], .func⟩:=by kernel_rfl
@[go_sem] theorem Xgr:bJ Tryz.prog 283=some ⟨⟨1,false,8,[.az], .func⟩,[],none,none⟩:=by kernel_rfl
@[go_sem] theorem Xbl:aC Tryz.prog 284=some ⟨1,false,8,[.az], .func⟩:=by kernel_rfl
@[go_sem] theorem Xhb:bJ Tryz.prog 284=some ⟨⟨1,false,8,[.az], .func⟩,[],none,none⟩:=by kernel_rfl
@[go_sem] theorem Xf3:aC Tryz.prog 285=some ⟨1,false,8,[.az], .func⟩:=by kernel_rfl
@[go_sem] theorem Xgw:bJ Tryz.prog 285=some ⟨⟨1,false,8,[.az], .func⟩,[],none,none⟩:=by kernel_rfl
@[go_sem] theorem Xef:aC Tryz.prog 286=some ⟨1,false,8,[.bM], .ptr⟩:=by kernel_rfl
@[go_sem] theorem Xm7:bJ Tryz.prog 286=some ⟨⟨1,false,8,[.bM], .ptr⟩,[],none,none⟩:=by kernel_rfl
@[go_sem] theorem Xg2:aC Tryz.prog 287=some ⟨1,false,8,[.az], .func⟩:=by kernel_rfl
@[go_sem] theorem Xgo:bJ Tryz.prog 287=some ⟨⟨1,false,8,[.az], .func⟩,[],none,none⟩:=by kernel_rfl
@[go_sem] theorem Xfh:aC Tryz.prog 288=some ⟨1,false,8,[.bM], .ptr⟩:=by kernel_rfl
@[go_sem] theorem Xjo:bJ Tryz.prog 288=some ⟨⟨1,false,8,[.bM], .ptr⟩,[],none,none⟩:=by kernel_rfl
@[go_sem] theorem Xc2:aC Tryz.prog 290=some ⟨1,false,8,[.az], .func⟩:=by kernel_rfl
@[go_sem] theorem Xgz:bJ Tryz.prog 290=some ⟨⟨1,false,8,[.az], .func⟩,[],none,none⟩:=by kernel_rfl
@[go_sem] theorem Xc9:aC Tryz.prog 291=some ⟨1,false,8,[.az], .func⟩:=by kernel_rfl
@[go_sem] theorem Xhp:bJ Tryz.prog 291=some ⟨⟨1,false,8,[.az], .func⟩,[],none,none⟩:=by kernel_rfl
@[go_sem] theorem Xe8:aC Tryz.prog 292=some ⟨4,true,40,[.bM, .bM, .bM, .str ⟨#[]⟩], .struct⟩:=by kernel_rfl
@[go_sem] theorem Xgg:bJ Tryz.prog 292=some ⟨⟨4,true,40,[.bM, .bM, .bM, .str ⟨#[]⟩], .struct⟩,[(0,some ⟨1,false,8,[.bM], .ptr⟩),(1,some ⟨1,false,8,[.bM], .ptr⟩),(2,some ⟨1,false,8,[.bM], .ptr⟩),(3,some ⟨1,false,16,[.str ⟨#[]⟩], .str⟩)],none,none⟩:=by kernel_rfl
@[go_sem] theorem Xei:aC Tryz.prog 293=some ⟨4,true,40,[.bM, .bM, .bM, .str ⟨#[]⟩], .struct⟩:=by kernel_rfl
@[go_sem] theorem Xn9:bJ Tryz.prog 293=some ⟨⟨4,true,40,[.bM, .bM, .bM, .str ⟨#[]⟩], .struct⟩,[(0,some ⟨1,false,8,[.bM], .ptr⟩),(1,some ⟨1,false,8,[.bM], .ptr⟩),(2,some ⟨1,false,8,[.bM], .ptr⟩),(3,some ⟨1,false,16,[.str ⟨#[]⟩], .str⟩)],none,none⟩:=by kernel_rfl
@[go_sem] theorem Xc1:aC Tryz.prog 294=some ⟨0,true,0,[],(.array 0)⟩:=by kernel_rfl
@[go_sem] theorem Xo0:bJ Tryz.prog 294=some ⟨⟨0,true,0,[],(.array 0)⟩,[],some ⟨1,false,8,[.bM], .ptr⟩,none⟩:=by kernel_rfl
@[go_sem] theorem Xce:aC Tryz.prog 295=some ⟨0,true,0,[], .struct⟩:=by kernel_rfl
@[go_sem] theorem Xh5:bJ Tryz.prog 295=some ⟨⟨0,true,0,[], .struct⟩,[(0,some ⟨0,true,0,[],(.array 0)⟩)],none,none⟩:=by kernel_rfl
@[go_sem] theorem Xg0:aC Tryz.prog 296=some ⟨0,true,0,[], .struct⟩:=by kernel_rfl
@[go_sem] theorem Xk5:bJ Tryz.prog 296=some ⟨⟨0,true,0,[], .struct⟩,[(0,some ⟨0,true,0,[],(.array 0)⟩)],none,none⟩:=by kernel_rfl
@[go_sem] theorem Xd3:aC Tryz.prog 297=some ⟨1,false,1,[.int .u8 0],(.int .u8)⟩:=by kernel_rfl
@[go_sem] theorem Xgt:bJ Tryz.prog 297=some ⟨⟨1,false,1,[.int .u8 0],(.int .u8)⟩,[],none,none⟩:=by kernel_rfl
@[go_sem] theorem Xfi:aC Tryz.prog 298=some ⟨1,false,1,[.int .u8 0],(.int .u8)⟩:=by kernel_rfl
@[go_sem] theorem Xij:bJ Tryz.prog 298=some ⟨⟨1,false,1,[.int .u8 0],(.int .u8)⟩,[],none,none⟩:=by kernel_rfl
@[go_sem] theorem Xg1:aC Tryz.prog 299=some ⟨1,false,8,[.az], .func⟩:=by kernel_rfl
@[go_sem] theorem Xmu:bJ Tryz.prog 299=some ⟨⟨1,false,8,[.az], .func⟩,[],none,none⟩:=by kernel_rfl
@[go_sem] theorem Xck:aC Tryz.prog 300=some ⟨1,false,8,[.bM], .ptr⟩:=by kernel_rfl
@[go_sem] theorem Xh7:bJ Tryz.prog 300=some ⟨⟨1,false,8,[.bM], .ptr⟩,[],none,none⟩:=by kernel_rfl
@[go_sem] theorem Xg6:aC Tryz.prog 301=some ⟨1,false,4,[.int .i32 0],(.int .i32)⟩:=by kernel_rfl
@[go_sem] theorem Xm0:bJ Tryz.prog 301=some ⟨⟨1,false,4,[.int .i32 0],(.int .i32)⟩,[],none,none⟩:=by kernel_rfl
@[go_sem] theorem Xgd:aC Tryz.prog 302=some ⟨1,false,4,[.int .i32 0],(.int .i32)⟩:=by kernel_rfl
@[go_sem] theorem Xl2:bJ Tryz.prog 302=some ⟨⟨1,false,4,[.int .i32 0],(.int .i32)⟩,[],none,none⟩:=by kernel_rfl
@[go_sem] theorem Xbu:aC Tryz.prog 303=some ⟨11,true,48,[.int .u64 0, .int .u64 0, .int .u32 0, .int .u8 0, .int .u8 0, .int .u8 0, .int .u8 0, .az, .bM, .int .i32 0, .int .i32 0], .struct⟩:=by kernel_rfl
@[go_sem] theorem Xlh:bJ Tryz.prog 303=some ⟨⟨11,true,48,[.int .u64 0, .int .u64 0, .int .u32 0, .int .u8 0, .int .u8 0, .int .u8 0, .int .u8 0, .az, .bM, .int .i32 0, .int .i32 0], .struct⟩,[(0,some ⟨1,false,8,[.int .u64 0],(.int .u64)⟩),(1,some ⟨1,false,8,[.int .u64 0],(.int .u64)⟩),(2,some ⟨1,false,4,[.int .u32 0],(.int .u32)⟩),(3,some ⟨1,false,1,[.int .u8 0],(.int .u8)⟩),(4,some ⟨1,false,1,[.int .u8 0],(.int .u8)⟩),(5,some ⟨1,false,1,[.int .u8 0],(.int .u8)⟩),(6,some ⟨1,false,1,[.int .u8 0],(.int .u8)⟩),(7,some ⟨1,false,8,[.az], .func⟩),(8,some ⟨1,false,8,[.bM], .ptr⟩),(9,some ⟨1,false,4,[.int .i32 0],(.int .i32)⟩),(10,some ⟨1,false,4,[.int .i32 0],(.int .i32)⟩)],none,none⟩:=by kernel_rfl
@[go_sem] theorem Xb1:aC Tryz.prog 304=some ⟨11,true,48,[.int .u64 0, .int .u64 0, .int .u32 0, .int .u8 0, .int .u8 0, .int .u8 0, .int .u8 0, .az, .bM, .int .i32 0, .int .i32 0], .struct⟩:=by kernel_rfl
@[go_sem] theorem Xk3:bJ Tryz.prog 304=some ⟨⟨11,true,48,[.int .u64 0, .int .u64 0, .int .u32 0, .int .u8 0, .int .u8 0, .int .u8 0, .int .u8 0, .az, .bM, .int .i32 0, .int .i32 0], .struct⟩,[(0,some ⟨1,false,8,[.int .u64 0],(.int .u64)⟩),(1,some ⟨1,false,8,[.int .u64 0],(.int .u64)⟩),(2,some ⟨1,false,4,[.int .u32 0],(.int .u32)⟩),(3,some ⟨1,false,1,[.int .u8 0],(.int .u8)⟩),(4,some ⟨1,false,1,[.int .u8 0],(.int .u8)⟩),(5,some ⟨1,false,1,[.int .u8 0],(.int .u8)⟩),(6,some ⟨1,false,1,[.int .u8 0],(.int .u8)⟩),(7,some ⟨1,false,8,[.az], .func⟩),(8,some ⟨1,false,8,[.bM], .ptr⟩),(9,some ⟨1,false,4,[.int .i32 0],(.int .i32)⟩),(10,some ⟨1,false,4,[.int .i32 0],(.int .i32)⟩)],none,none⟩:=by kernel_rfl
@[go_sem] theorem Xcx:aC Tryz.prog 305=some ⟨1,false,8,[.bM], .other⟩:=by kernel_rfl
@[go_sem] theorem Xhs:bJ Tryz.prog 305=some ⟨⟨1,false,8,[.bM], .other⟩,[],none,none⟩:=by kernel_rfl
inductive Tm where
 | mk (head:Int) (args:List Tm)
def Tm.head:Tm→Int | .mk h _=>h
def Tm.args:Tm→List Tm | .mk _ l=>l
mutual
def Tm.aN:Tm→ae
 | .mk h ts=>.agg [.int .i64 h, .ps 2 (Tm.yY ts)]
def Tm.yY:List Tm→List ae
 | []=>[]
 | t :: ts=>t.aN :: Tm.yY ts
end
theorem Ov:∀ ts,Tm.yY ts=ts.map Tm.aN
 | []=>rfl
 | t :: ts=>by simp [Tm.yY,Ov ts]
theorem dc (t:Tm):t.aN = .agg [.int .i64 t.head, .ps 2 (t.args.map Tm.aN)]:=by cases t;simp [Tm.aN,Ov,Tm.head,Tm.args]
theorem fq (t:Tm):t.aN.cells=[.int .i64 t.head, .ps 2 (t.args.map Tm.aN)]:=by rw [dc];rfl
theorem FK (h:Int) (ts:List Tm):ae.agg [.int .i64 h, .ps 2 (ts.map Tm.aN)]=(Tm.mk h ts).aN:=by rw [dc];rfl
theorem uN {α:Type} {n:Nat} {f : α→ae}:∀ {l:List α},(∀ x∈l,(f x).low n)→bx n (l.map f)
 | [],_=>trivial
 | a :: l,h=>⟨h a (by simp),uN fun x hx=>h x (by simp [hx])⟩
mutual
theorem K0:∀ t:Tm,t.aN.low 0
 | .mk h ts=>by simp only [Tm.aN,ae.low,bx,and_true,true_and];exact SM ts
theorem SM:∀ ts:List Tm,bx 0 (Tm.yY ts)
 | []=>trivial
 | t :: ts=>⟨K0 t,SM ts⟩
end
theorem dE {n:Nat} (t:Tm):t.aN.low n:=mP (av n) (K0 t)
theorem bP {n:Nat} (ts:List Tm):bx n (ts.map Tm.aN):=uN fun x _=>dE x
theorem nP {α:Type} {f : α→ae} {l:List α} {i:Nat} (h:i<l.length):(l.map f).getD i .undef=f l[i]:=by simp [List.getD,h]
def ints (l:List Int):List ae:=l.map (.int .i64)
theorem kV (l:List Int):(ints l).length=l.length:=by simp [ints]
theorem dp {n:Nat}:∀ l:List Int,bx n (ints l)
 | []=>trivial
 | _ :: l=>⟨trivial,dp l⟩
theorem wH {l:List Int} {i:Nat} (h:i<l.length):(ints l).getD i .undef = .int .i64 l[i]:=by simp [ints,List.getD,h]
theorem Fq:ints []=[]:=rfl
theorem Ta (l:List Int) (n:Int):ints l++[.int .i64 n]=ints (l++[n]):=by simp [ints]
theorem ep {n:Int} (h : -9223372036854775808≤n∧n≤9223372036854775807):IntKind.i64.wrap n=n:=by rw [IntKind.wrap_i64];omega
def n8 (n:Int):Prop:=-9223372036854775808≤n∧n≤9223372036854775807
mutual
def Tm.size:Tm→Nat
 | .mk _ ts=>1+Tm.bG ts
def Tm.bG:List Tm→Nat
 | []=>0
 | t :: ts=>t.size+Tm.bG ts
end
mutual
def Tm.depth:Tm→Nat
 | .mk _ ts=>Tm.iz ts+1
def Tm.iz:List Tm→Nat
 | []=>0
 | t :: ts=>max t.depth (Tm.iz ts)
end
theorem Cb:∀ (ts:List Tm) (i:Nat) (hi:i<ts.length),Tm.bG (ts.take (i+1))=Tm.bG (ts.take i)+Tm.size ts[i]
 | t :: ts,0,_=>by simp [Tm.bG]
 | t :: ts,i+1,hi=>by
  simp only [eR,Tm.bG,ix]
  rw [Cb ts i (by simpa using hi)];omega
theorem A5:∀ (ts:List Tm) (i:Nat) (hi:i<ts.length),Tm.size ts[i]≤Tm.bG ts
 | t :: ts,0,_=>by simp only [eK,Tm.bG];omega
 | t :: ts,i+1,hi=>by
  have:=A5 ts i (by simpa using hi)
  simp only [ix,Tm.bG];omega
theorem B8:∀ (ts:List Tm) (i:Nat),Tm.bG (ts.take i)≤Tm.bG ts
 | [],i=>by simp
 | t :: ts,0=>by simp [Tm.bG]
 | t :: ts,i+1=>by have:=B8 ts i;simp only [eR,Tm.bG];omega
theorem T1 (t:Tm) : 1≤t.size:=by cases t;simp only [Tm.size];omega
theorem qb:∀ ts:List Tm,ts.length≤Tm.bG ts
 | []=>by simp [Tm.bG]
 | t :: ts=>by have:=qb ts;have:=T1 t;simp only [au,Tm.bG];omega
mutual
theorem P4:∀ t:Tm,t.depth≤t.size
 | .mk _ ts=>by have:=PY ts;simp only [Tm.depth,Tm.size];omega
theorem PY:∀ ts:List Tm,Tm.iz ts≤Tm.bG ts
 | []=>by simp [Tm.iz,Tm.bG]
 | t :: ts=>by have:=P4 t;have:=PY ts;simp only [Tm.iz,Tm.bG];omega
end
theorem Tm.kM {p:Tm→Prop} (h:∀ hd ts,(∀ (i:Nat) (hi:i<ts.length),p ts[i])→p (.mk hd ts)):∀ t,p t:=by
 have key:∀ n (t:Tm),t.size=n→p t:=by
  intro n
  induction n using Nat.strongRecOn with
  | _ n ih =>
   intro t ht
   match t,ht with
   | .mk hd ts,ht =>
    refine h hd ts fun i hi=>ih _ ?_ ts[i] rfl
    have:=A5 ts i hi
    simp only [Tm.size] at ht
    omega
 exact fun t=>key _ t rfl
mutual
def Tm.r7:Tm→Int→Int
 | .mk _ ts,m=>Tm.nB ts 1 m
def Tm.nB:List Tm→Int→Int→Int
 | [],n,_=>n
 | t :: ts,n,m=>if n≤m then Tm.nB ts (n+t.r7 (m - n)) m else n
end
mutual
theorem Cd:∀ (t:Tm) (m:Int),0≤m→1≤t.r7 m∧t.r7 m≤m+1
 | .mk _ ts,m,h=>by simp only [Tm.r7];exact JW ts 1 m (by omega) (by omega)
theorem JW:∀ (ts:List Tm) (n m:Int),1≤n→n≤m+1→n≤Tm.nB ts n m∧Tm.nB ts n m≤m+1
 | [],n,m,h1,h2=>by simp only [Tm.nB];omega
 | t :: ts,n,m,h1,h2=>by
  simp only [Tm.nB]
  split
  ·have:=Cd t (m - n) (by omega)
   have:=JW ts (n+t.r7 (m - n)) m (by omega) (by omega)
   omega
  ·omega
end
mutual
theorem Kx:∀ (t:Tm) (m:Int),0≤m→t.r7 m≤m→t.r7 m=t.size
 | .mk _ ts,m,h0,h=>by
  simp only [Tm.r7] at h ⊢
  have:=QS ts 1 m (by omega) (by omega) h
  simp only [Tm.size];omega
theorem QS:∀ (ts:List Tm) (n m:Int),1≤n→n≤m+1→Tm.nB ts n m≤m→Tm.nB ts n m=n+Tm.bG ts
 | [],n,m,_,_,_=>by simp [Tm.nB,Tm.bG]
 | t :: ts,n,m,h1,h2,h=>by
  simp only [Tm.nB] at h ⊢
  split at h
  ·rename_i hn
   rw [if_pos hn]
   have hb:=Cd t (m - n) (by omega)
   have uT:=JW ts (n+t.r7 (m - n)) m (by omega) (by omega)
   have h3:=QS ts (n+t.r7 (m - n)) m (by omega) (by omega) h
   have h4:=Kx t (m - n) (by omega) (by omega)
   simp only [Tm.bG];omega
  ·omega
end
theorem XC (ts:List Tm) (n m:Int) (h:¬ n≤m):Tm.nB ts n m=n:=by cases ts<;>simp [Tm.nB,h]
mutual
def Tm.good:Tm→Bool
 | .mk h ts=>!(h<0&&decide (0<ts.length)||h < -256||decide (1023<h)||decide (8<ts.length))&&Tm.fT ts
def Tm.fT:List Tm→Bool
 | []=>true
 | t :: ts=>t.good&&Tm.fT ts
end
theorem Rs:∀ (ts:List Tm) (i:Nat) (hi:i<ts.length),Tm.fT ts=(Tm.fT (ts.take i)&&(ts[i].good&&Tm.fT (ts.drop (i+1))))
 | t :: ts,0,_=>by simp [Tm.fT]
 | t :: ts,i+1,hi=>by
  simp only [eR,Tm.fT,ix,List.drop_succ_cons]
  rw [Rs ts i (by simpa using hi)];simp [Bool.and_assoc]
def Tm.check (t:Tm):Int:=if 400<t.size then 2 else if 40<t.depth then 7 else if t.good then 0 else 1
def kW (o:List Int) (v:Int):List Int:=if v∈o then o else o++[v]
def eB (o l:List Int):List Int:=l.foldl kW o
mutual
def Tm.vars:Tm→List Int
 | .mk h ts=>Tm.nr ts (if h<0 then [-1 - h] else [])
def Tm.nr:List Tm→List Int→List Int
 | [],o=>o
 | t :: ts,o=>Tm.nr ts (eB o t.vars)
end
theorem TK (o:List Int) (v:Int):(kW o v).length≤o.length+1:=by unfold kW;split<;>simp
theorem Re:∀ (l o:List Int),(eB o l).length≤o.length+l.length
 | [],o=>by simp [eB]
 | v :: l,o=>by
  have h:eB o (v :: l)=eB (kW o v) l:=rfl
  rw [h]
  have:=Re l (kW o v)
  have:=TK o v
  simp only [au];omega
mutual
theorem KP:∀ t:Tm,t.vars.length≤t.size
 | .mk h ts=>by
  have:=Sj ts (if h<0 then [-1 - h] else [])
  have h2:(if h<0 then [-1 - h] else ([]:List Int)).length≤1:=by split<;>simp
  simp only [Tm.vars,Tm.size];omega
theorem Sj:∀ (ts:List Tm) (o:List Int),(Tm.nr ts o).length≤o.length+Tm.bG ts
 | [],o=>by simp [Tm.nr,Tm.bG]
 | t :: ts,o=>by
  have h1:=Sj ts (eB o t.vars)
  have h2:=Re t.vars o
  have h3:=KP t
  simp only [Tm.nr,Tm.bG];omega
end
def ja (b:Nat) (sz:Nat):List ae→ae
 | []=>.aU
 | x :: l=>.os b 0 (l.length+1) sz
def eJ:List ae→Option bE
 | []=>none
 | x :: l=>some (.row (x :: l) 0)
mutual
def Tm.fit:Tm→Prop
 | .mk h ts=>n8 h∧Tm.fits ts
def Tm.fits:List Tm→Prop
 | []=>True
 | t :: ts=>t.fit∧Tm.fits ts
end
theorem Iq:∀ {ts:List Tm},Tm.fits ts→∀ (i:Nat) (hi:i<ts.length),ts[i].fit
 | t :: ts,h,0,_=>h.1
 | t :: ts,h,i+1,hi=>Iq h.2 i (by simpa using hi)
theorem tK (b sz:Nat):ja b sz [] = .aU:=rfl
theorem ZA (b sz:Nat) (x:ae) (l:List ae):ja b sz (x :: l) = .os b 0 (l.length+1) sz:=rfl
theorem td:eJ []=none:=rfl
theorem UN (x:ae) (l:List ae):eJ (x :: l)=some (.row (x :: l) 0):=rfl
theorem Bl {b n:Nat} (h:b<n) (sz:Nat):∀ l:List ae,(ja b sz l).low n
 | []=>trivial
 | _ :: _=>h
theorem zU {n:Nat}:∀ l:List ae,bx n l→ji n (eJ l)
 | [],_=>trivial
 | _ :: _,h=>h
theorem Cs {b sz:Nat} {l:List ae} (h:l≠[]):ja b sz l = .os b 0 l.length sz:=by cases l;exact absurd rfl h;rfl
theorem Bm {l:List ae} (h:l≠[]):eJ l=some (.row l 0):=by cases l;exact absurd rfl h;rfl
theorem Fe (b sz:Nat) (l:List ae) (x:ae):ja b sz (l++[x]) = .os b 0 (l.length+1) sz:=by
 rw [Cs (by simp)];simp
theorem E_ (l:List ae) (x:ae):eJ (l++[x])=some (.row (l++[x]) 0):=Bm (by simp)
theorem Cj (l:List Int) (n:Int):ints (l++[n])=ints l++[.int .i64 n]:=(Ta l n).symm
theorem rN {F:Nat→Bool} {σ:ai} {b sz:Nat} {l:List ae} (hF:F b=true) (h:bF σ b=eJ l):pT F σ (.ps sz l) (ja b sz l)=True:=by
 cases l with
 | nil=>simp [ja,pT]
 | cons x l =>
  simp only [ja,PW,h,eJ,Rf,hF,dk,au]
  simp [cH]
theorem To {σ:ai} {b:Nat} (h:bF σ b=none) : σ.set b none = σ:=by
 apply bO
 intro c
 by_cases e:b=c
 ·subst e
  rw [oH]
  simp only [bF] at h
  cases hc : σ[b]? with
  | none=>rfl
  | some x=>rw [hc] at h;simp at h;subst h;rfl
 ·rw [bK e]
open Classical in
theorem uQ {σ:ai} {nm b sz bs:Nat} {ag:Bool} {z:List ae} {key:KA} {l:List ae} {x:ae} (h:bF σ b=eJ l):ef σ nm ⟨sz,ag,bs,z,key⟩ (ja b sz l) [x]=if eL ⟨sz,ag,bs,z,key⟩ [x]∧l.length+1≤cK bs then some (.os nm 0 (l.length+1) sz,b_ (σ.set b none) nm (.row (l++[x]) 0)) else none:=by
 cases l with
 | nil =>
  have h0:bF σ b=none:=h
  rw [To h0]
  by_cases c:eL ⟨sz,ag,bs,z,key⟩ [x]<;>simp [ja,K9,c]
 | cons y l =>
  simp only [ja]
  rw [JA,h]
  simp only [eJ,JQ,au,aR,dk]
  by_cases c:eL ⟨sz,ag,bs,z,key⟩ [x]
  ·simp only [c,if_true,true_and,bm,ah,av,ei]
   rw [bd (by simp)]
  ·simp [c]
theorem u_ {b sz:Nat} {l xs:List ae} (h:xs≠[]):ja b sz (l++xs) = .os b 0 (l.length+xs.length) sz:=by
 rw [Cs (by simp [h])];simp
theorem u9 {l xs:List ae} (h:xs≠[]):eJ (l++xs)=some (.row (l++xs) 0):=Bm (by simp [h])
open Classical in
theorem Lk {σ:ai} {nm b sz bs:Nat} {ag:Bool} {z:List ae} {key:KA} {l:List ae} {x y:ae} (h:bF σ b=eJ l):ef σ nm ⟨sz,ag,bs,z,key⟩ (ja b sz l) [x,y]=if eL ⟨sz,ag,bs,z,key⟩ [x,y]∧l.length+2≤cK bs then some (.os nm 0 (l.length+2) sz,b_ (σ.set b none) nm (.row (l++[x,y]) 0)) else none:=by
 cases l with
 | nil =>
  have h0:bF σ b=none:=h
  rw [To h0]
  by_cases c:eL ⟨sz,ag,bs,z,key⟩ [x,y]<;>simp [ja,K9,c]
 | cons u l =>
  simp only [ja]
  rw [JA,h]
  simp only [eJ,JQ,au,aR,dk]
  by_cases c:eL ⟨sz,ag,bs,z,key⟩ [x,y]
  ·simp only [c,if_true,true_and,bm,ah,av,ei]
   rw [bd (by simp)]
  ·simp [c]
end Go.Proofs
namespace Go.Proofs
open Go Go.cV
attribute [local go_sem] Nat.reduceAdd Nat.reduceSub Nat.reduceMul Nat.reduceLeDiff Nat.reduceEqDiff Nat.reduceBEq
theorem mixed:Tryz.prog.follows .mixedOrders=true:=by rfl
theorem Yr6 (a b:List Int) (ha:a.length<2 ^ 62):aJ Tryz.prog 46 [.ps 1 (ints a), .ps 1 (ints b)] (.bool (decide (a=b))):=by
 refine aJ.begin (rs:=[.tmp 4]) (m:=24) 1000 Tryz.func46 rfl rfl rfl (by decide) trivial ?_
 simp only [go_sem,kV]
 refine ⟨fun dX=>?_,fun heq=>?_⟩
 ·have:a≠b:=fun e=>dX (by rw [e])
  simp [this]
 have hlen:a.length=b.length:=by omega
 refine aK.c9 (ι:={i:Nat // i≤a.length∧a.take i=b.take i}) 1000 (fun i=>fD 26 [(0, .ps 1 (ints a)),(1, .ps 1 (ints b)),(5, .int .i64 i.1)]) (fun _=>[]) (fun i=>a.length - i.1) ⟨0,by simp⟩ ?_ (fun _=>av _) ?_
 ·simp only [go_sem,dp,cC]
 ·rintro ⟨i,hi,aO⟩
  simp only [go_sem,kV]
  refine ⟨fun bD=>?_,fun uU=>?_⟩
  ·have qQ:i<a.length:=by omega
   have Ax:i<b.length:=by omega
   refine aK.draw [] 0 0 mixed rfl rfl (ah _) ?_
   simp only [go_sem,dA,kV,bV,wH qQ,wH Ax]
   refine ⟨by omega,by omega,?_⟩
   refine aK.go 1000 ?_
   simp only [go_sem]
   refine ⟨fun dX=>?_,fun heq=>?_⟩
   ·have:a≠b:=fun e=>dX (by subst e;rfl)
    refine aK.go 1000 ?_
    simp only [go_sem]
    simp [this]
   ·refine ⟨⟨i+1,by omega,?_⟩,?_,by simp only;omega⟩
    ·rw [dU,dU,aO,aA qQ,aA Ax,heq]
    ·simp only [go_sem,dp]
     rw [ep (by omega)];rfl
  ·refine aK.go 1000 ?_
   simp only [go_sem]
   have:i=a.length:=by omega
   subst this
   rw [da,hlen,da] at aO
   simp [aO]
theorem Oc (t:Tm):t.size<2 ^ 62→aJ Tryz.prog 152 [t.aN] (.int .i64 t.size):=by
 induction t using Tm.kM with
 | h h ts ih =>
 intro hs
 simp only [Tm.size] at hs
 have hlen:=qb ts
 refine aJ.begin (rs:=[.tmp 2]) (m:=20) 1000 Tryz.func152 rfl rfl rfl (by decide) trivial ?_
 simp only [go_sem,dc,Tm.head,Tm.args]
 refine aK.c9 (ι:={i:Nat // i≤ts.length}) 1000 (fun i=>fD 21 [(1, .ptr 0 0),(3, .int .i64 (1+Tm.bG (ts.take i.1):Nat)),(4, .int .i64 i.1)]) (fun _=>[some (.var [.int .i64 h, .ps 2 (ts.map Tm.aN)])]) (fun i=>ts.length - i.1) ⟨0,by omega⟩ ?_ (fun _=>by simp) ?_
 ·simp only [go_sem,Tm.bG,bP,cC,cn]
  simp
 ·rintro ⟨i,hi⟩
  simp only [go_sem,ao]
  refine ⟨fun bD=>?_,fun uU=>?_⟩
  ·have aZ:i<ts.length:=by omega
   refine ⟨by omega,?_⟩
   simp only [go_sem,bV,nP aZ,fq,ah]
   rw [← dc]
   have ft:=A5 ts i aZ
   refine aq.bU [] (ih i aZ (by omega)) (cH _ _ _) (by simp [go_sem,dE]) ?_
   simp only [bL,bZ,bX,if_true]
   refine aK.go 1000 ?_
   simp only [go_sem]
   refine ⟨⟨i+1,aZ⟩,?_,by simp only;omega⟩
   simp only [go_sem,bP,cn]
   have h1:=Cb ts i aZ
   have h2:=B8 ts (i+1)
   rw [ep (by omega),ep (by omega),h1]
   simp;omega
  ·refine aK.go 1000 ?_
   simp only [go_sem,Tm.size]
   have:i=ts.length:=by omega
   subst this
   simp
theorem Yzr (n:Int) (l:List Int) (hl:l.length<2 ^ 62):aJ Tryz.prog 20 [.int .i64 n, .ps 1 (ints l)] (.bool (decide (n∈l))):=by
 refine aJ.begin (rs:=[.tmp 4]) (m:=16) 1000 Tryz.func20 rfl rfl rfl (by decide) trivial ?_
 simp only [go_sem]
 refine aK.c9 (ι:={i:Nat // i≤l.length∧n ∉ l.take i}) 1000 (fun i=>fD 18 [(0, .int .i64 n),(1, .ps 1 (ints l)),(5, .int .i64 i.1)]) (fun _=>[]) (fun i=>l.length - i.1) ⟨0,by simp⟩ ?_ (fun _=>av _) ?_
 ·simp only [go_sem,dp,cC]
 ·rintro ⟨i,hi,aO⟩
  simp only [go_sem,kV]
  refine ⟨fun bD=>?_,fun uU=>?_⟩
  ·have qQ:i<l.length:=by omega
   simp only [go_sem,bV,wH qQ]
   refine ⟨by omega,fun he=>?_,fun dX=>?_⟩
   ·refine aK.go 1000 ?_
    simp only [go_sem]
    have:n∈l:=he ▸ aF qQ
    simp [this]
   ·refine ⟨⟨i+1,by omega,?_⟩,?_,by simp only;omega⟩
    ·rw [dU,aA qQ]
     simp only [mO,aX,aQ,not_or]
     exact ⟨aO,fun e=>dX e.symm⟩
    ·simp only [go_sem,dp]
     rw [ep (by omega)];rfl
  ·refine aK.go 1000 ?_
   simp only [go_sem]
   have:i=l.length:=by omega
   subst this
   rw [da] at aO
   simp [aO]
theorem Uv (t:Tm):∀ m:Int,0≤m→m<2 ^ 62→aJ Tryz.prog 58 [t.aN, .int .i64 m] (.int .i64 (t.r7 m)):=by
 induction t using Tm.kM with
 | h h ts ih =>
 intro m sc v8
 refine aJ.begin (rs:=[.tmp 4]) (m:=29) 1000 Tryz.func58 rfl rfl rfl (by decide) trivial ?_
 simp only [go_sem,dc,Tm.head,Tm.args]
 refine aK.c9 (ι:={p:Nat×Int // p.1≤ts.length∧1≤p.2∧p.2≤m+1∧p.1≤p.2∧Tm.nB (ts.drop p.1) p.2 m=Tm.nB ts 1 m}) 1000 (fun p=>fD 31 [(1, .int .i64 m),(2, .ptr 0 0),(5, .int .i64 p.1.2),(6, .int .i64 p.1.1)]) (fun _=>[some (.var [.int .i64 h, .ps 2 (ts.map Tm.aN)])]) (fun p=>ts.length - p.1.1) ⟨(0,1),by simp;omega⟩ ?_ (fun _=>by simp) ?_
 ·simp only [go_sem,bP,cC,cn]
 ·rintro ⟨⟨i,n⟩,hi,h1,h2,h4,h3⟩
  simp only at hi h1 h2 h3 h4
  by_cases bD:(i:Int)<ts.length
  ·have aZ:i<ts.length:=by omega
   by_cases hn:n≤m
   ·simp only [go_sem,ao,bD,hn]
    refine ⟨by omega,?_⟩
    simp only [go_sem,bV,nP aZ,fq,ah]
    rw [← dc,ep (by omega)]
    refine aq.bU [] (ih i aZ (m - n) (by omega) (by omega)) (cH _ _ _) (by simp [go_sem,dE]) ?_
    simp only [bL,bZ,bX,if_true]
    refine aK.go 1000 ?_
    simp only [go_sem]
    have hb:=Cd ts[i] (m - n) (by omega)
    refine ⟨⟨(i+1,n+ts[i].r7 (m - n)),aZ,by omega,by omega,by simp only;omega,?_⟩,?_,by simp only;omega⟩
    ·simp only
     rw [← h3,ak aZ,Tm.nB,if_pos hn]
    ·simp only [go_sem,bP,cn]
     rw [ep (by omega),ep (by omega)]
     simp
   ·simp only [go_sem,ao,bD,hn]
    refine aK.go 1000 ?_
    simp only [go_sem]
    rw [Tm.r7,← h3,XC _ _ _ hn]
  ·simp only [go_sem,ao,bD]
   refine aK.go 1000 ?_
   simp only [go_sem]
   have:i=ts.length:=by omega
   subst this
   rw [Tm.r7,← h3,aV,Tm.nB]
end Go.Proofs
namespace Go.Proofs
open Go Go.cV
structure Sy where
 name:ByteArray
 arity:Int
 weight:Int
 cA:Bool
def Sy.aN (s:Sy):ae:=.agg [.str s.name, .int .i64 s.arity, .int .i64 s.weight, .bool s.cA]
theorem xj (s:Sy):s.aN.cells=[.str s.name, .int .i64 s.arity, .int .i64 s.weight, .bool s.cA]:=rfl
theorem Yzy (s:Sy):s.aN = .agg [.str s.name, .int .i64 s.arity, .int .i64 s.weight, .bool s.cA]:=rfl
def syms (g:List Sy):List ae:=g.map Sy.aN
theorem rB (g:List Sy):(syms g).length=g.length:=by simp [syms]
theorem dF {n:Nat} (g:List Sy):bx n (syms g):=uN fun _ _=>⟨trivial,trivial,trivial,trivial,trivial⟩
theorem xi {g:List Sy} {i:Nat} (h:i<g.length):(syms g).getD i .undef=g[i].aN:=nP h
structure Li where
 neg:Bool
 l:Tm
 r:Tm
def Li.cs (c:Li):List ae:=[.bool c.neg, .int .i64 c.l.head, .ps 2 (c.l.args.map Tm.aN), .int .i64 c.r.head, .ps 2 (c.r.args.map Tm.aN)]
def Li.aN (c:Li):ae:=.agg c.cs
theorem ku (c:Li):c.aN.cells=[.bool c.neg, .int .i64 c.l.head, .ps 2 (c.l.args.map Tm.aN), .int .i64 c.r.head, .ps 2 (c.r.args.map Tm.aN)]:=rfl
def lits (c:List Li):List ae:=c.map Li.aN
theorem fO (c:List Li):(lits c).length=c.length:=by simp [lits]
theorem mQ {n:Nat} (c:Li):c.aN.low n:=⟨trivial,trivial,bP _,trivial,bP _,trivial⟩
theorem ct {n:Nat} (c:List Li):bx n (lits c):=uN fun x _=>mQ x
theorem tG {c:List Li} {i:Nat} (h:i<c.length):(lits c).getD i .undef=c[i].aN:=nP h
structure Wo where
 size:Int
 rows:List (List Int)
def cT (c:List Li):List Tm:=c.flatMap fun l=>[l.l,l.r]
theorem Rw (c:List Li) (i:Nat) (h:i<c.length):cT (c.take (i+1))=cT (c.take i)++[c[i].l,c[i].r]:=by
 simp only [cT,dU,aA h,mO,List.flatMap_append,List.flatMap_cons,oG,bn]
theorem E7 (c:List Li):(cT c).length=2*c.length:=by
 induction c with
 | nil=>rfl
 | cons a c ih=>simp [cT] at ih ⊢;omega
def lx (g:List Sy):Bool:=decide (g.length≤300)&&g.all fun s=>decide (s.name.size≤100)
def oi:List Tm→Int→Int
 | [],n=>n
 | t :: ts,n=>if n≤500 then oi ts (n+t.r7 500) else n
def iI (c:List Li):Bool:=decide (c.length≤40)&&decide (oi (cT c) 0≤500)
theorem Q_:∀ (ts:List Tm) (n:Int),0≤n→n≤1001→0≤oi ts n∧(oi ts n≤500→oi ts n=n+Tm.bG ts)
 | [],n,h,_=>⟨by simp [oi,h],fun _=>by simp [oi,Tm.bG]⟩
 | t :: ts,n,h,h2=>by
  simp only [oi]
  split
  ·rename_i hn
   have hb:=Cd t 500 (by omega)
   obtain ⟨h3,h4⟩:=Q_ ts (n+t.r7 500) (by omega) (by omega)
   refine ⟨h3,fun h5=>?_⟩
   have h6:=h4 h5
   have h7:=Kx t 500 (by omega) (by omega)
   simp only [Tm.bG];omega
  ·rename_i hn
   exact ⟨h,fun h5=>absurd h5 hn⟩
theorem DQ:∀ a b:List Tm,Tm.bG (a++b)=Tm.bG a+Tm.bG b
 | [],b=>by simp [Tm.bG]
 | t :: a,b=>by simp only [bj,Tm.bG,DQ a b];omega
end Go.Proofs
namespace Go.Proofs
open Go Go.cV
attribute [local go_sem] Nat.reduceAdd Nat.reduceSub Nat.reduceMul Nat.reduceLeDiff Nat.reduceEqDiff Nat.reduceBEq
theorem Zzy (g:List Sy):aJ Tryz.prog 24 [.ps 4 (syms g)] (.bool (lx g)):=by
 refine aJ.begin (rs:=[.tmp 2]) (m:=24) 1000 Tryz.func24 rfl rfl rfl (by decide) trivial ?_
 simp only [go_sem]
 by_cases hg:(g.length:Int)≤300
 ·refine aK.c9 (ι:={i:Nat // i≤g.length∧(g.take i).all (fun s=>decide (s.name.size≤100))=true}) 1000 (fun i=>fD 25 [(0, .ps 4 (syms g)),(3, .int .i64 i.1)]) (fun _=>[]) (fun i=>g.length - i.1) ⟨0,by simp⟩ ?_ (fun _=>av _) ?_
  ·simp only [go_sem,dF,cC]
  ·rintro ⟨i,hi,aO⟩
   by_cases bD:(i:Int)<g.length
   ·have aZ:i<g.length:=by omega
    simp only [go_sem,rB,bD,hg,bV,xi aZ,xj]
    refine ⟨by omega,fun qL=>?_,fun j8=>?_⟩
    ·refine aK.go 1000 ?_
     simp only [go_sem]
     have h1:g.all (fun s=>decide (s.name.size≤100))=false:=by
      rw [List.all_eq_false]
      exact ⟨g[i],aF aZ,by simp;omega⟩
     simp [lx,h1]
    ·refine ⟨⟨i+1,aZ,?_⟩,?_,by simp only;omega⟩
     ·rw [dU,List.all_append,aO,aA aZ]
      simp;omega
     ·simp only [go_sem,dF]
      rw [ep (by omega)];rfl
   ·simp only [go_sem,rB,bD]
    refine aK.go 1000 ?_
    simp only [go_sem,rB]
    have:i=g.length:=by omega
    subst this
    rw [da] at aO
    simp only [lx,aO,n7]
    congr 1
    simp;omega
 ·refine aK.c9 (ι:=Unit) 1000 (fun _=>fD 25 [(0, .ps 4 (syms g)),(3, .int .i64 0)]) (fun _=>[]) (fun _=>0) () ?_ (fun _=>av _) ?_
  ·simp only [go_sem,dF]
  ·rintro ⟨⟩
   have bD:(0:Int)<g.length:=by omega
   simp only [go_sem,rB,bD,hg]
   refine aK.go 1000 ?_
   simp only [go_sem,rB,hg]
   have:¬ g.length≤300:=by omega
   simp [lx,this]
theorem XP (ts:List Tm) (hl:ts.length<2 ^ 62):aJ Tryz.prog 93 [.ps 2 (ts.map Tm.aN)] (.bool (decide (oi ts 0≤500))):=by
 refine aJ.begin (rs:=[.tmp 2]) (m:=23) 1000 Tryz.func93 rfl rfl rfl (by decide) trivial ?_
 simp only [go_sem]
 refine aK.c9 (ι:={p:Nat×Int // p.1≤ts.length∧0≤p.2∧p.2≤1001∧oi (ts.drop p.1) p.2=oi ts 0}) 1000 (fun p=>fD 24 [(0, .ps 2 (ts.map Tm.aN)),(3, .int .i64 p.1.2),(4, .int .i64 p.1.1)]) (fun _=>[]) (fun p=>ts.length - p.1.1) ⟨(0,0),by simp⟩ ?_ (fun _=>av _) ?_
 ·simp only [go_sem,bP,cC]
 ·rintro ⟨⟨i,n⟩,hi,h1,h2,h3⟩
  simp only at hi h1 h2 h3
  by_cases bD:(i:Int)<ts.length
  ·have aZ:i<ts.length:=by omega
   by_cases hn:n≤500
   ·simp only [go_sem,ao,bD,hn,bV,nP aZ,fq,ah]
    refine ⟨by omega,?_⟩
    rw [← dc]
    refine aq.bU [] (Uv ts[i] 500 (by omega) (by omega)) (cH _ _ _) (by simp [go_sem,dE]) ?_
    simp only [bL,bZ,bX,if_true]
    refine aK.go 1000 ?_
    simp only [go_sem]
    have hb:=Cd ts[i] 500 (by omega)
    refine ⟨⟨(i+1,n+ts[i].r7 500),aZ,by simp only;omega,by simp only;omega,?_⟩,?_,by simp only;omega⟩
    ·simp only
     rw [← h3,ak aZ,oi,if_pos hn]
    ·simp only [go_sem,bP]
     rw [ep (by omega),ep (by omega)]
     simp
   ·simp only [go_sem,ao,bD,hn]
    refine aK.go 1000 ?_
    simp only [go_sem,hn]
    have:oi (ts.drop i) n=n:=by cases ts.drop i<;>simp [oi,hn]
    simp [← h3,this,hn]
  ·simp only [go_sem,ao,bD]
   refine aK.go 1000 ?_
   simp only [go_sem]
   have:i=ts.length:=by omega
   subst this
   rw [← h3,aV,oi]
theorem QR (c:List Li) (hc:c.length≤2600000000000):aJ Tryz.prog 57 [.ps 5 (lits c)] (.ps 2 ((cT c).map Tm.aN)):=by
 refine aJ.begin (rs:=[.tmp 2]) (m:=24) 1000 Tryz.func57 rfl rfl rfl (by decide) (bP _) ?_
 simp only [go_sem]
 refine aK.gS (ι:={i:Nat // i≤c.length}) 1000 (fun i=>fD 25 [(0, .ps 5 (lits c)),(3,ja 0 2 ((cT (c.take i.1)).map Tm.aN)),(4, .int .i64 i.1)]) (fun i=>[eJ ((cT (c.take i.1)).map Tm.aN)]) (fun i=>c.length - i.1) ⟨0,by omega⟩ [] ?_ (fun _=>by simp) ?_
 ·refine iF rfl ?_
  simp only [go_sem,cT,oG,tK,td,ct,cz,cC]
 ·rintro ⟨i,hi⟩
  have VA:=E7 (c.take i)
  have oR:(c.take i).length≤c.length:=by rw [cW];omega
  have iu:=fun h=>Rw c i h
  generalize hq:cT (c.take i)=q at *
  simp only [go_sem,fO,hq]
  refine ⟨fun bD=>?_,fun uU=>?_⟩
  ·have aZ:i<c.length:=by omega
   refine aK.draw [⟨none,[],[1]⟩, .no, .no, .no, .no, .no, .no, .no, .no, .no, .no,⟨some 1,[1],[]⟩,⟨some 2,[0,2],[]⟩] 1 3 mixed rfl rfl (by decide) ?_
   simp only [go_sem,dA,fO,bV,tG aZ,ku,ah,Lk,eL,aP,dO,forall_eq_or_imp,forall_eq,ek,ao]
   refine ⟨by omega,by omega,by omega,?_⟩
   refine aK.go 1000 ?_
   simp only [go_sem]
   refine ⟨⟨i+1,aZ⟩,[(0,2),(2,0)],iF rfl ?_,by simp only;omega⟩
   simp only [iu aZ]
   rw [ep (by omega)]
   have e1:(q++[c[i].l,c[i].r]).map Tm.aN=q.map Tm.aN++[.agg [.int .i64 c[i].l.head, .ps 2 (c[i].l.args.map Tm.aN)], .agg [.int .i64 c[i].r.head, .ps 2 (c[i].r.args.map Tm.aN)]]:=by
    rw [cN,aI,aI,aS,dc c[i].l,dc c[i].r]
   have lw:bx 0 ((q++[c[i].l,c[i].r]).map Tm.aN):=bP _
   rw [e1] at lw ⊢
   rw [u_ (by simp),u9 (by simp)]
   simp only [go_sem,ct,cz,cz lw,ao,ie (av 1) lw,lX,lY,cn]
  ·refine aK.go 1000 ?_
   have:i=c.length:=by omega
   subst this
   rw [da] at hq
   simp only [go_sem,hq,rN]
theorem QT (c:List Li):aJ Tryz.prog 56 [.ps 5 (lits c)] (.bool (iI c)):=by
 refine aJ.begin (rs:=[.tmp 2]) (m:=10) 1000 Tryz.func56 rfl rfl rfl (by decide) trivial ?_
 by_cases h:(c.length:Int)≤40
 ·simp only [go_sem,fO,h]
  refine aq.bU [] (QR c (by omega)) (cH _ _ _) (by simp [go_sem,ct]) ?_
  rw [jd]
  simp only [ite_self]
  refine aK.go 1000 ?_
  simp only [go_sem]
  have hl:=E7 c
  refine aq.bU [] (XP (cT c) (by omega)) (cH _ _ _) (by simp [go_sem,bP]) ?_
  simp only [bL,bZ,bX,if_true]
  refine aK.go 1000 ?_
  have:c.length≤40:=by omega
  simp only [go_sem,iI,this]
 ·simp only [go_sem,fO,h]
  have:¬ c.length≤40:=by omega
  simp [iI,this]
end Go.Proofs
namespace Go.Proofs
open Go Go.cV
theorem Bc (s:ByteArray):(s.toList==ByteArray.toList { data:=#[] })=decide ((s.size:Int)<1):=by
 by_cases h:(s.size:Int)<1
 ·have e:s = { data:=#[] }:=by
   obtain ⟨d⟩:=s
   have:d.size=0:=by have:d.size=(ByteArray.mk d).size:=rfl;omega
   rw [Array.size_eq_zero_iff.1 this]
  rw [decide_eq_true h,e];exact beq_self_eq_true _
 ·rw [decide_eq_false h]
  cases c:(s.toList==ByteArray.toList { data:=#[] }) with
  | false=>rfl
  | true =>
   rw [Ul c] at h
   exact absurd (by decide) h
def Sy.right (x:Sy):Bool:=!(decide ((x.name.size:Int)<1)||decide (64<(x.name.size:Int))||decide (x.arity<0)||decide (8<x.arity)||decide (x.weight<1)||decide (1000<x.weight))
def Sy.tV:Sy:=⟨⟨#[]⟩,0,0,false⟩
def uH:ByteArray:=⟨#[36,116,114,117,101]⟩
def fresh (g:List Sy) (i:Nat):Bool:=(g.take i).all fun s=>!(s.name.toList==(g.getD i Sy.tV).name.toList)
def uB (g:List Sy) (i:Nat):Bool:=(g.getD i Sy.tV).right&&fresh g i
def isTrue (x:Sy):Bool:=x.name.toList==uH.toList&&(x.arity==0&&(x.weight==1&&x.cA))
def fV (g:List Sy):Bool:=!(decide ((g.length:Int)<1)||decide (256<(g.length:Int)))&&(List.range g.length).all (uB g)&&isTrue (g.getD 0 Sy.tV)
theorem Fz {g:List Sy} {i:Nat} (h:i<g.length):g.getD i Sy.tV=g[i]:=by simp [List.getD,h]
theorem Zm9 (p:Nat→Bool) (n:Nat):(List.range (n+1)).all p=((List.range n).all p&&p n):=by
 rw [List.range_succ,List.all_append];simp
theorem Zqu {p:Nat→Bool} {n i:Nat} (hi:i<n) (h:p i=false):(List.range n).all p=false:=by
 rw [List.all_eq_false];exact ⟨i,by simpa using hi,by simp [h]⟩
theorem El {x:Sy} (h:(x.name.size:Int)<1∨64<(x.name.size:Int)∨x.arity<0∨8<x.arity∨x.weight<1∨1000<x.weight):x.right=false:=by
 simp only [Sy.right,iw,b9,decide_eq_true_eq];omega
theorem Yly {x:Sy} (h:¬ (x.name.size:Int)<1∧¬ 64<(x.name.size:Int)∧¬ x.arity<0∧¬ 8<x.arity∧¬ x.weight<1∧¬ 1000<x.weight):x.right=true:=by
 simp only [Sy.right,bT,cE,decide_eq_false_iff_not];omega
def lu (g:List Sy) (h:Int):Sy:=g.getD h.toNat Sy.tV
mutual
def Tm.known (g:List Sy):Tm→Bool
 | .mk h ts=>decide (h<0)||(!(decide ((g.length:Int)≤h))&&decide ((ts.length:Int)=(lu g h).arity)&&Tm.gM g ts)
def Tm.gM (g:List Sy):List Tm→Bool
 | []=>true
 | t :: ts=>t.known g&&Tm.gM g ts
end
def Tm.cA (g:List Sy) (t:Tm):Bool:=decide (0≤t.head)&&decide (t.head<(g.length:Int))&&(lu g t.head).cA
mutual
def Tm.jo (g:List Sy):Tm→Bool
 | .mk _ ts=>Tm.jq g ts
def Tm.jq (g:List Sy):List Tm→Bool
 | []=>true
 | t :: ts=>(!t.cA g&&t.jo g)&&Tm.jq g ts
end
def Tm.term (g:List Sy) (t:Tm):Int:=if fV g=false then 1 else if t.check≠0 then t.check else if t.known g=false then 1 else if t.jo g=false then 10 else 0
def Li.check (g:List Sy) (l:Li):Int:=if l.l.term g≠0 then l.l.term g else if l.r.term g≠0 then l.r.term g else
 if (l.l.cA g&&decide (l.r.head≠0))||(!l.l.cA g&&l.r.cA g) then 10 else 0
def dC (g:List Sy):List Li→Int
 | []=>0
 | l :: c=>if l.check g≠0 then l.check g else dC g c
def a_ (g:List Sy) (c:List Li):Int:=if fV g=false then 1 else if 32<(c.length:Int) then 2 else dC g c
theorem Zme (g:List Sy) (c:List Li) (i:Nat) (h:i<c.length):dC g (c.drop i)=if c[i].check g≠0 then c[i].check g else dC g (c.drop (i+1)):=by
 rw [ak h,dC]
end Go.Proofs
namespace Go.Proofs
open Go Go.cV
attribute [local go_sem] Nat.reduceAdd Nat.reduceSub Nat.reduceMul Nat.reduceLeDiff Nat.reduceEqDiff Nat.reduceBEq
end Go.Proofs
namespace Go.Proofs
open Go Go.cV
theorem Tc {g:List Sy} (h:fV g=true) : 1≤g.length∧g.length≤256:=by
 simp only [fV,aD,bT,cE,decide_eq_false_iff_not] at h
 omega
theorem Zym {g:List Sy} (h:fV g=true):isTrue (g.getD 0 Sy.tV)=true:=by
 simp only [fV,aD] at h;exact h.2
end Go.Proofs
namespace Go.Proofs
open Go Go.cV
attribute [local go_sem] Nat.reduceAdd Nat.reduceSub Nat.reduceMul Nat.reduceLeDiff Nat.reduceEqDiff Nat.reduceBEq
end Go.Proofs
namespace Go.Proofs
open Go Go.cV
mutual
def Tm.val (w:Wo) (f:Int→Int):Tm→Int
 | .mk h ts=>if h<0 then f (-1 - h) else (w.rows.getD h.toNat []).getD (Tm.UW w f ts 0).toNat 0
def Tm.UW (w:Wo) (f:Int→Int):List Tm→Int→Int
 | [],a=>a
 | t :: ts,a=>Tm.UW w f ts (a*w.size+t.val w f)
end
def Tm.DL (w:Wo) (t:Tm):Prop:=t.head<0∨∀ v∈w.rows.getD t.head.toNat [],0≤v∧v<w.size
mutual
def Tm.okW (w:Wo):Tm→Prop
 | .mk h ts=>h<0∨(h<w.rows.length∧ts.length≤4∧((w.rows.getD h.toNat []).length:Int)=w.size ^ ts.length∧Tm.G9 w ts)
def Tm.G9 (w:Wo):List Tm→Prop
 | []=>True
 | t :: ts=>(t.okW w∧t.DL w)∧Tm.G9 w ts
end
mutual
def Tm.iG (p:Int→Prop):Tm→Prop
 | .mk h ts=>(h<0→p (-1 - h))∧Tm.je p ts
def Tm.je (p:Int→Prop):List Tm→Prop
 | []=>True
 | t :: ts=>t.iG p∧Tm.je p ts
end
theorem Ll {p:Int→Prop}:∀ (ts:List Tm),(∀ (i:Nat) (hi:i<ts.length),ts[i].iG p)→Tm.je p ts
 | [],_=>trivial
 | t :: ts,h=>⟨h 0 (by simp),Ll ts fun i hi=>h (i+1) (by simpa using hi)⟩
theorem Ym0 {o:List Int} {v x:Int}:x∈kW o v↔x∈o∨x=v:=by
 unfold kW;split
 ·constructor
  ·exact .inl
  ·rintro (h | rfl)<;>assumption
 ·simp
theorem J9:∀ (l o:List Int) (x:Int),x∈eB o l↔x∈o∨x∈l
 | [],o,x=>by simp [eB]
 | v :: l,o,x=>by
  have h:eB o (v :: l)=eB (kW o v) l:=rfl
  rw [h,J9 l,Ym0,aP,or_assoc]
mutual
theorem Eb {p:Int→Prop}:∀ t:Tm,(∀ v∈t.vars,p v)↔t.iG p
 | .mk h ts=>by
  simp only [Tm.vars,Tm.iG]
  rw [Se ts]
  refine and_congr_left fun _=>?_
  split
  ·simp_all
  ·rename_i hn;simp [hn]
theorem Se {p:Int→Prop}:∀ (ts:List Tm) (o:List Int),(∀ v∈Tm.nr ts o,p v)↔(∀ v∈o,p v)∧Tm.je p ts
 | [],o=>by simp [Tm.nr,Tm.je]
 | t :: ts,o=>by
  simp only [Tm.nr,Tm.je]
  rw [Se ts,← and_assoc]
  refine and_congr_left fun _=>?_
  rw [← Eb t]
  simp only [J9]
  constructor
  ·exact fun h=>⟨fun v hv=>h v (.inl hv),fun v hv=>h v (.inr hv)⟩
  ·rintro ⟨h1,h2⟩ v (hv | hv)
   ·exact h1 v hv
   ·exact h2 v hv
end
theorem ph {g:List Sy} {t:Tm} (h:t.term g=0):t.check=0∧t.known g=true∧t.jo g=true:=by
 unfold Tm.term at h
 split at h
 ·omega
 ·split at h
  ·rename_i h2;exact absurd h h2
  ·rename_i h2
   split at h
   ·omega
   ·split at h
    ·omega
    ·rename_i h3 h4
     exact ⟨by simpa using h2,by simpa using h3,by simpa using h4⟩
theorem Zu4 (t:Tm):∀ v∈t.vars,0≤v:=by
 refine (Eb (p:=fun v=>0≤v) t).2 ?_
 have key:∀ t:Tm,t.iG (fun v=>0≤v):=by
  intro t
  induction t using Tm.kM with
  | h h ts ih =>
   exact ⟨fun _=>by omega,Ll ts ih⟩
 exact key t
end Go.Proofs
namespace Go.Proofs
open Go Go.cV
attribute [local go_sem] Nat.reduceAdd Nat.reduceSub Nat.reduceMul Nat.reduceLeDiff Nat.reduceEqDiff Nat.reduceBEq
end Go.Proofs
namespace Go.Proofs
open Go Go.cV
theorem Y5 (t:Tm):t.good=true→t.iG (fun v=>0≤v∧v<256):=by
 induction t using Tm.kM with
 | h h ts ih =>
  intro hg
  have ui:=hg
  simp only [Tm.good,aD,bT,cE,decide_eq_false_iff_not] at hg
  refine ⟨fun hn=>by omega,Ll ts fun i hi=>ih i hi ?_⟩
  have:=hg.2
  rw [Rs ts i hi,aD,aD] at this
  exact this.2.1
theorem WO {t:Tm} (h:t.check=0):t.good=true∧t.size≤400∧t.depth≤40:=by
 unfold Tm.check at h
 split at h
 ·omega
 ·split at h
  ·omega
  ·split at h
   ·exact ⟨by assumption,by omega,by omega⟩
   ·omega
end Go.Proofs
namespace Go.Proofs
open Go Go.cV
attribute [local go_sem] Nat.reduceAdd Nat.reduceSub Nat.reduceMul Nat.reduceLeDiff Nat.reduceEqDiff Nat.reduceBEq
def dH {α:Type} (p : α→Bool):List α→Int→Int
 | [],_=>-1
 | a :: l,i=>if p a then i else dH p l (i+1)
theorem Ci {α:Type} (p : α→Bool):∀ (l:List α) (i:Int),0≤i→decide (0≤dH p l i)=l.any p
 | [],i,_=>by simp [dH]
 | a :: l,i,h=>by
  simp only [dH,fe]
  by_cases c:p a=true
  ·simp [c,h]
  ·rw [dj] at c
   simp only [c,a8,if_false,dq];exact Ci p l (i+1) (by omega)
theorem Zvc (σ:ai) (c:ae) (p:Sy→Bool) (l:List Sy) (hl:l.length<2 ^ 62) (hs:bt σ.length σ) (hc:c.low σ.length)
  (hp:∀ (i:Nat) (h:i<l.length),aq Tryz.prog c [l[i].aN] σ (fun r σ'=>r = .bool (p l[i])∧σ' = σ)) :
  aq Tryz.prog (.fn 134 [] []) [.ps 4 (syms l),c] σ (fun r σ'=>r = .int .i64 (dH p l 0)∧σ' = σ):=by
 refine aq.begin (rs:=[.tmp 4]) (m:=17) 1000 Tryz.func134 rfl rfl rfl rfl rfl ?_
 simp only [go_sem]
 refine aK.c9 (ι:={i:Nat // i≤l.length∧dH p (l.drop i) i=dH p l 0}) 1000 (fun i=>fD 19 [(0, .ps 4 (syms l)),(1,c),(7, .int .i64 l.length),(8, .int .i64 i.1)]) (fun _=>σ) (fun i=>l.length - i.1) ⟨0,by simp⟩ ?_ (fun _=>ah _) ?_
 ·simp only [go_sem,dF,rB,hc,hs,cC]
  exact fx σ
 ·rintro ⟨i,hi,aO⟩
  by_cases bD:(i:Int)<l.length
  ·have aZ:i<l.length:=by omega
   have hd:dH p (l.drop i) i=if p l[i] then (i:Int) else dH p (l.drop (i+1)) ((i:Int)+1):=by
    rw [ak aZ];rfl
   simp only [go_sem,bD,rB,bV,xi aZ,xj,ah]
   (repeat ((with_reducible refine And.intro ?_ ?_); ·omega))
   refine (hp i aZ).mono ?_
   rintro r σ' ⟨rfl,rfl⟩
   refine aK.go 1000 ?_
   cases e:p l[i] with
   | true =>
    rw [hd,e,if_pos rfl] at aO
    simp only [go_sem]
    refine aK.go 1000 ?_
    simp only [go_sem,← aO]
    rw [fL];exact ⟨σ',fx σ',ah _,hs,trivial,rfl,rfl⟩
   | false =>
    rw [hd,e,if_neg (by decide)] at aO
    simp only [go_sem]
    refine ⟨⟨i+1,aZ,aO⟩,?_,by simp only;omega⟩
    simp only [go_sem,dF,hc,hs]
    rw [ep (by omega)];exact ⟨rfl,fx σ'⟩
  ·have dR:i=l.length:=by omega
   subst dR
   rw [aV] at aO
   simp only [go_sem,bD]
   refine aK.go 1000 ?_
   simp only [go_sem,← aO]
   rw [fL];exact ⟨σ,fx σ,ah _,hs,trivial,rfl,rfl⟩
theorem Zm4 (σ:ai) (c:ae) (p:Sy→Bool) (l:List Sy) (hl:l.length<2 ^ 62) (hs:bt σ.length σ) (hc:c.low σ.length)
  (hp:∀ (i:Nat) (h:i<l.length),aq Tryz.prog c [l[i].aN] σ (fun r σ'=>r = .bool (p l[i])∧σ' = σ)) :
  aq Tryz.prog (.fn 95 [] []) [.ps 4 (syms l),c] σ (fun r σ'=>r = .bool (l.any p)∧σ' = σ):=by
 refine aq.begin (rs:=[.tmp 4]) (m:=7) 1000 Tryz.func95 rfl rfl rfl rfl rfl ?_
 simp only [go_sem]
 refine (Zvc σ c p l hl hs hc hp).mono ?_
 rintro r σ' ⟨rfl,rfl⟩
 refine aK.go 1000 ?_
 simp only [go_sem]
 rw [fL,Ci p l 0 (by omega)];exact ⟨σ',fx σ',ah _,hs,trivial,rfl,rfl⟩
theorem Zva (x y:Sy):aq Tryz.prog (.fn 96 [] [.ptr 0 0]) [y.aN] [some (.var [.str x.name, .int .i64 x.arity, .int .i64 x.weight, .bool x.cA])]
  (fun r σ'=>r = .bool (y.name.toList==x.name.toList)∧σ'=[some (.var [.str x.name, .int .i64 x.arity, .int .i64 x.weight, .bool x.cA])]):=by
 refine aq.begin (rs:=[.tmp 3]) (m:=7) 1000 Tryz.func96 rfl rfl rfl rfl rfl ?_
 simp only [go_sem,Yzy]
 rw [fL]
 exact ⟨[some (.var [.str x.name, .int .i64 x.arity, .int .i64 x.weight, .bool x.cA])],by simp [go_sem],ah _,by simp [go_sem],trivial,rfl,rfl⟩
theorem QL (g:List Sy):aJ Tryz.prog 61 [.ps 4 (syms g)] (.int .i64 (if fV g then 0 else 1)):=by
 refine aJ.begin (rs:=[.tmp 2]) (m:=65) 1000 Tryz.func61 rfl rfl rfl (by decide) trivial ?_
 by_cases c1:(g.length:Int)<1
 ·simp only [go_sem,rB,c1,fV]
 by_cases c2 : 256<(g.length:Int)
 ·simp only [go_sem,rB,c1,c2,fV]
 have h0 : 0<g.length:=by omega
 have e0:(syms g).getD 0 .undef=g[0].aN:=xi h0
 have f1:decide ((g.length:Int)<1)=false:=decide_eq_false c1
 have f2:decide (256<(g.length:Int))=false:=decide_eq_false c2
 have Dk:fV g=((List.range g.length).all (uB g)&&isTrue g[0]):=by rw [fV,f1,f2,Fz h0];simp
 have bad:∀ i,i<g.length→uB g i=false→fV g=false:=fun i hi hb=>by
  rw [Dk,Zqu (p:=uB g) hi hb];rfl
 have hT:(g[0].name.toList==ByteArray.toList { data:=#[36,116,114,117,101] }&&(g[0].arity==0&&(g[0].weight==1&&g[0].cA==true)))=isTrue g[0]:=by simp [isTrue,uH]
 simp only [go_sem,rB,c1,c2,Int.toNat_zero,e0,xj,ah,O6,kj,fb,hT]
 refine ⟨by omega,fun h=>?_,fun h=>?_⟩
 ·have hf:isTrue g[0]=false:=by simpa using h
  have:fV g=false:=by rw [Dk,hf,gW]
  rw [this];rfl
 have Vi:isTrue g[0]=true:=by simpa using h
 simp only [go_sem,Vi]
 refine aK.c9 (ι:={i:Nat // i≤g.length∧(List.range i).all (uB g)=true}) 1000 (fun i=>fD 66 [(0, .ps 4 (syms g)),(21, .ps 4 (syms g)),(22, .int .i64 g.length),(23, .int .i64 i.1)]) (fun _=>[]) (fun i=>g.length - i.1) ⟨0,by simp⟩ ?_ (fun _=>av _) ?_
 ·simp only [go_sem,dF,cC,rB]
 ·rintro ⟨i,hi,aO⟩
  by_cases bD:(i:Int)<g.length
  ·have aZ:i<g.length:=by omega
   have BB:=Fz aZ
   have Vq:(syms g).getD i .undef=g[i].aN:=xi aZ
   have sj:List.take i (syms g)=syms (g.take i):=by simp [syms,List.map_take]
   generalize hx:g[i]=x at BB Vq
   simp only [go_sem,rB,bD,bV,Vq,xj,ah]
   (repeat ((with_reducible refine And.intro ?_ ?_); ·omega))
   rw [show List.take (i - 0) (syms g)=syms (g.take i) from sj]
   refine (Zm4 _ _ (fun y=>y.name.toList==x.name.toList) (g.take i) (by rw [cW];omega) ?_ ?_ ?_).mono ?_
   ·simp [go_sem]
   ·simp [go_sem]
   ·exact fun j hj=>Zva x _
   rintro r σ' ⟨rfl,rfl⟩
   refine aK.go 1000 ?_
   have zl:fresh g i = !(g.take i).any (fun y=>y.name.toList==x.name.toList):=by
    rw [fresh,BB,List.all_eq_not_any_not];simp
   have j8:uB g i=(x.right && !(g.take i).any (fun y=>y.name.toList==x.name.toList)):=by rw [uB,BB,zl]
   have qL:∀ (hb:x.right=false∨(g.take i).any (fun y=>y.name.toList==x.name.toList)=true),(if fV g=true then (0:Int) else 1)=1:=fun hb=>by
    rw [bad i aZ (by rw [j8];rcases hb with h | h<;>simp [h])];rfl
   generalize (g.take i).any (fun y=>y.name.toList==x.name.toList)=tw at *
   by_cases d1:(x.name.size:Int)<1
   ·simp only [go_sem,Bc,d1]
    refine aK.go 1000 ?_
    simp only [go_sem,qL (.inl (El (.inl d1)))]
   by_cases d2 : 64<(x.name.size:Int)
   ·simp only [go_sem,Bc,d1,d2]
    refine aK.go 1000 ?_
    simp only [go_sem,qL (.inl (El (.inr (.inl d2))))]
   cases tw with
   | true =>
    simp only [go_sem,Bc,d1,d2]
    refine aK.go 1000 ?_
    simp only [go_sem,qL (.inr rfl)]
   | false =>
   by_cases d3:x.arity<0
   ·simp only [go_sem,Bc,d1,d2,d3]
    refine aK.go 1000 ?_
    simp only [go_sem,qL (.inl (El (.inr (.inr (.inl d3)))))]
   by_cases d4 : 8<x.arity
   ·simp only [go_sem,Bc,d1,d2,d3,d4]
    refine aK.go 1000 ?_
    simp only [go_sem,qL (.inl (El (.inr (.inr (.inr (.inl d4))))))]
   by_cases d5:x.weight<1
   ·simp only [go_sem,Bc,d1,d2,d3,d4,d5]
    refine aK.go 1000 ?_
    simp only [go_sem,qL (.inl (El (.inr (.inr (.inr (.inr (.inl d5)))))))]
   by_cases d6 : 1000<x.weight
   ·simp only [go_sem,Bc,d1,d2,d3,d4,d5,d6]
    refine aK.go 1000 ?_
    simp only [go_sem,qL (.inl (El (.inr (.inr (.inr (.inr (.inr d6)))))))]
   have BP:=Yly ⟨d1,d2,d3,d4,d5,d6⟩
   simp only [go_sem,Bc,d1,d2,d3,d4,d5,d6]
   refine ⟨⟨i+1,aZ,by rw [Zm9,aO,j8,BP];rfl⟩,?_,by simp only;omega⟩
   simp only [go_sem,dF,rB]
   rw [ep (by omega)];rfl
  ·have dR:i=g.length:=by omega
   simp only [go_sem,bD]
   subst dR
   refine aK.go 1000 ?_
   rw [Dk,aO,Vi]
   simp only [go_sem]
end Go.Proofs
namespace Go.Proofs
open Go Go.cV
mutual
def Tm.pre:Tm→Int→List (Int×Tm)
 | .mk h ts,d=>(d, .mk h ts) :: Tm.lV ts (d+1)
def Tm.lV:List Tm→Int→List (Int×Tm)
 | [],_=>[]
 | t :: ts,d=>t.pre d++Tm.lV ts d
end
mutual
theorem Fw:∀ (t:Tm) (d:Int),(t.pre d).length=t.size
 | .mk h ts,d=>by simp only [Tm.pre,au,Tm.size];rw [KT ts];omega
theorem KT:∀ (ts:List Tm) (d:Int),(Tm.lV ts d).length=Tm.bG ts
 | [],_=>rfl
 | t :: ts,d=>by simp only [Tm.lV,ay,Tm.bG];rw [Fw t,KT ts]
end
def rem (DK:List (Int×Tm)):List (Int×Tm):=DK.flatMap fun x=>x.2.pre x.1
theorem Yqq:rem []=[]:=rfl
theorem Il (x:Int×Tm) (r:List (Int×Tm)):rem (x :: r)=x.2.pre x.1++rem r:=rfl
theorem Ys3 (t:Tm) (d:Int):rem [(d,t)]=t.pre d:=by rw [Il,Yqq,bn]
theorem UE (d:Int) (ts:List Tm) (r:List (Int×Tm)):rem (ts.map (fun t=>(d,t))++r)=Tm.lV ts d++rem r:=by
 induction ts with
 | nil=>rfl
 | cons t ts ih =>
  rw [aI,bj,Il,ih,← cJ];rfl
theorem Lr (DK:List (Int×Tm)):DK.length≤(rem DK).length:=by
 induction DK with
 | nil=>exact ah _
 | cons x r ih=>rw [Il,ay,Fw,au];have:=T1 x.2;omega
def kA (x:Int×Tm):ae:=.agg [.int .i64 x.2.head, .ps 2 (x.2.args.map Tm.aN), .int .i64 x.1]
theorem Xl (x:Int×Tm):(kA x).cells=[.int .i64 x.2.head, .ps 2 (x.2.args.map Tm.aN), .int .i64 x.1]:=rfl
theorem PL (x:Int×Tm):kA x = .agg [.int .i64 x.2.head, .ps 2 (x.2.args.map Tm.aN), .int .i64 x.1]:=rfl
theorem FA {n:Nat} (x:Int×Tm):(kA x).low n:=⟨trivial,bP _,trivial,trivial⟩
theorem Bi {n:Nat} (l:List (Int×Tm)):bx n (l.map kA):=uN fun x _=>FA x
theorem rZ {n:Nat} {b:List ae}:∀ {a:List ae},bx n a→bx n b→bx n (a++b)
 | [],_,h=>h
 | _ :: _,ha,h=>⟨ha.1,rZ ha.2 h⟩
def pw (T:Int) (x:Int×Tm):Prop:=1≤x.1∧x.1+x.2.size≤T
def jt (t:Tm):Bool:=!(t.head<0&&decide (0<t.args.length)||t.head < -256||decide (1023<t.head)||decide (8<t.args.length))
def fC (l:List (Int×Tm)) (a:Int):Int:=l.foldl (fun m x=>max m x.1) a
theorem Qy (l m:List (Int×Tm)) (a:Int):fC (l++m) a=fC m (fC l a):=List.foldl_append
mutual
theorem TS:∀ (t:Tm) (d a:Int),fC (t.pre d) a=max a (d+t.depth - 1)
 | .mk h ts,d,a=>by
  have e:fC ((Tm.mk h ts).pre d) a=fC (Tm.lV ts (d+1)) (max a d):=rfl
  rw [e,SR ts (d+1) (max a d) (by omega)]
  simp only [Tm.depth];omega
theorem SR:∀ (ts:List Tm) (d a:Int),d - 1≤a→fC (Tm.lV ts d) a=max a (d+Tm.iz ts - 1)
 | [],d,a,h=>by simp only [Tm.lV,fC,List.foldl_nil,Tm.iz];omega
 | t :: ts,d,a,h=>by
  simp only [Tm.lV,Qy,Tm.iz]
  rw [TS t d a,SR ts d _ (by omega)];omega
end
mutual
theorem Ui:∀ (t:Tm) (d:Int),(t.pre d).any (fun x=>!jt x.2) = !t.good
 | .mk h ts,d=>by
  simp only [Tm.pre,fe,Tm.good]
  rw [SC ts]
  simp only [jt,Tm.head,Tm.args,Bool.not_and,Bool.not_not]
  rfl
theorem SC:∀ (ts:List Tm) (d:Int),(Tm.lV ts d).any (fun x=>!jt x.2) = !Tm.fT ts
 | [],d=>rfl
 | t :: ts,d=>by
  simp only [Tm.lV,List.any_append,Tm.fT]
  rw [Ui t,SC ts,Bool.not_and]
end
theorem P2:∀ (l:List (Int×Tm)) (a:Int),0≤a→a<2 ^ 62→(∀ x∈l,x.1<2 ^ 62)→0≤fC l a∧fC l a<2 ^ 62
 | [],a,h0,h1,_=>⟨h0,h1⟩
 | x :: l,a,h0,h1,h=>by
  have hx:=h x (by simp)
  exact P2 l (max a x.1) (by omega) (by omega) fun z hz=>h z (by simp [hz])
theorem Sw {α:Type} {l:List α} {k:Nat} (h:k<l.length):l.take (k+1)=l.take k++[l[k]]:=by
 rw [dU,aA h];rfl
theorem X_ (t:Tm) (d:Int):∀ x∈t.pre d,d≤x.1∧x.1≤d+t.size:=by
 have key:∀ (t:Tm) (d:Int), ∀ x∈t.pre d,d≤x.1∧x.1≤d+t.depth - 1:=by
  intro t
  induction t using Tm.kM with
  | h h ts ih =>
   intro d x hx
   simp only [Tm.pre,aP] at hx
   rcases hx with rfl | hx
   ·simp only [Tm.depth];omega
   ·have hs:∀ (us:List Tm) (e:Int),(∀ (i:Nat) (hi:i<us.length) (d:Int) (x:Int×Tm),x∈us[i].pre d→d≤x.1∧x.1≤d+us[i].depth - 1)→∀ x∈Tm.lV us e,e≤x.1∧x.1≤e+Tm.iz us - 1:=by
     intro us
     induction us with
     | nil=>intro e _ x hx;simp [Tm.lV] at hx
     | cons u us oC =>
      intro e hh x hx
      simp only [Tm.lV,aX] at hx
      simp only [Tm.iz]
      rcases hx with hx | hx
      ·have:=hh 0 (by simp) e x hx;simp only [eK] at this;omega
      ·have:=oC e (fun i hi=>hh (i+1) (by simpa using hi)) x hx;omega
    have:=hs ts (d+1) (fun i hi d x hx=>ih i hi d x hx) x hx
    simp only [Tm.depth];omega
 intro x hx
 have:=key t d x hx
 have:=P4 t
 omega
def tM (o:List Int) (x:Int×Tm):List Int:=if x.2.head<0 then kW o (-1 - x.2.head) else o
def jV (l:List (Int×Tm)) (o:List Int):List Int:=l.foldl tM o
theorem RY (l m:List (Int×Tm)) (o:List Int):jV (l++m) o=jV m (jV l o):=List.foldl_append
theorem Za (o l:List Int) (v:Int):eB o (kW l v)=kW (eB o l) v:=by
 unfold kW
 by_cases h:v∈l
 ·rw [if_pos h,if_pos ((J9 l o v).2 (.inr h))]
 ·rw [if_neg h]
  simp only [eB,List.foldl_append,List.foldl_cons,List.foldl_nil];rfl
theorem P6:∀ (l2 o l1:List Int),eB o (eB l1 l2)=eB (eB o l1) l2
 | [],_,_=>rfl
 | v :: l2,o,l1=>by
  have h:∀ o,eB o (v :: l2)=eB (kW o v) l2:=fun _=>rfl
  rw [h,P6 l2,Za,h]
mutual
theorem UJ:∀ (t:Tm) (d:Int) (o:List Int),jV (t.pre d) o=eB o t.vars
 | .mk h ts,d,o=>by
  have e:jV ((Tm.mk h ts).pre d) o=jV (Tm.lV ts (d+1)) (if h<0 then kW o (-1 - h) else o):=rfl
  rw [e,Tf ts (d+1) _ (if h<0 then [-1 - h] else []) o ?_]
  ·rfl
  ·split<;>rfl
theorem Tf:∀ (ts:List Tm) (d:Int) (o l o0:List Int),eB o0 l=o→jV (Tm.lV ts d) o=eB o0 (Tm.nr ts l)
 | [],d,o,l,o0,h=>h.symm
 | t :: ts,d,o,l,o0,h=>by
  simp only [Tm.lV,RY,Tm.nr]
  rw [UJ t d o]
  exact Tf ts d _ _ o0 (by rw [P6,h])
end
theorem WY {o:List Int} {v:Int} (h:o.Nodup):(kW o v).Nodup:=by
 unfold kW;split
 ·exact h
 ·rename_i hn;rw [gB];exact ⟨h,by simp,by simp;intro a ha uf;exact hn (uf ▸ ha)⟩
theorem P8:∀ (l o:List Int),o.Nodup→(eB o l).Nodup
 | [],_,h=>h
 | v :: l,o,h=>P8 l (kW o v) (WY h)
theorem Qb:∀ (l o:List Int),l.Nodup→(∀ v∈l,v ∉ o)→eB o l=o++l
 | [],o,_,_=>by simp [eB]
 | v :: l,o,h,hd=>by
  have h':eB o (v :: l)=eB (kW o v) l:=rfl
  have hv:kW o v=o++[v]:=if_neg (hd v (by simp))
  rw [h',hv,Qb l _ (eh.1 h).2]
  ·simp
  ·intro x hx hm
   rcases aX.1 hm with hm | hm
   ·exact hd x (by simp [hx]) hm
   ·rw [aQ.1 hm] at hx;exact (eh.1 h).1 hx
mutual
theorem Zzf:∀ t:Tm,t.vars.Nodup
 | .mk h ts=>QI ts _ (by split<;>simp)
theorem QI:∀ (ts:List Tm) (o:List Int),o.Nodup→(Tm.nr ts o).Nodup
 | [],_,h=>h
 | t :: ts,o,h=>QI ts _ (P8 _ _ h)
end
theorem Xn (t:Tm) (d:Int):jV (t.pre d) []=t.vars:=by
 rw [UJ,Qb _ _ (Zzf t) (by simp),bf]
theorem Yy (l:List (Int×Tm)):∀ o:List Int,(jV l o).length≤o.length+l.length:=by
 induction l with
 | nil=>intro o;simp [jV]
 | cons x l ih =>
  intro o
  have:=ih (tM o x)
  have h2:(tM o x).length≤o.length+1:=by
   unfold tM;split
   ·exact TK _ _
   ·omega
  have e:jV (x :: l) o=jV l (tM o x):=rfl
  rw [e];simp only [au];omega
mutual
theorem Oi:∀ (t:Tm),t.fit→∀ (d:Int), ∀ x∈t.pre d,x.2.fit
 | .mk h ts,hf,d,x,hx=>by
  simp only [Tm.pre,aP] at hx
  rcases hx with rfl | hx
  ·exact hf
  ·exact Uu ts hf.2 _ x hx
theorem Uu:∀ (ts:List Tm),Tm.fits ts→∀ (d:Int), ∀ x∈Tm.lV ts d,x.2.fit
 | [],_,d,x,hx=>by simp [Tm.lV] at hx
 | t :: ts,hf,d,x,hx=>by
  simp only [Tm.lV,aX] at hx
  rcases hx with hx | hx
  ·exact Oi t hf.1 d x hx
  ·exact Uu ts hf.2 d x hx
end
end Go.Proofs
namespace Go.Proofs
open Go Go.cV
attribute [local go_sem] Nat.reduceAdd Nat.reduceSub Nat.reduceMul Nat.reduceLeDiff Nat.reduceEqDiff Nat.reduceBEq
theorem Zv5 (ts:List Tm) (n0:Nat) (kc:ai) (S:Nat→ai) (p:Nat) (y:ae) (h0 : kc.length=n0) (xU : kc++[none]=S 0) (hlen:∀ i,(S i).length=n0+1) (eH:∀ i,bF (S i) p=some (.var [.ps 2 (ts.map Tm.aN)])) (hp:p<n0)
  (hs:∀ i,bt (n0+1) (S i)) (nI:bt n0 kc) (nK:y.low n0) (hl:ts.length<2 ^ 62)
  (hy:∀ i (h:i<ts.length),aq Tryz.prog y [.int .i64 ((ts.length:Int) - 1 - i),ts[ts.length - 1 - i].aN] (S i) (fun r σ'=>r = .bool true∧n0+1≤σ'.length∧bt σ'.length σ'∧∃ π:Nat→Nat,(∀ b,b<n0→π b=b)∧(∀ b b',b<n0+1→b'<n0+1→π b = π b'→b=b')∧gb π σ' 0 (S (i+1)))) :
  aq Tryz.prog (.fn 183 [] [.ptr p 0]) [y] kc (fun _ σ'=>σ'=S ts.length):=by
 subst h0
 refine aq.l6 (rs:=[]) (m:=17) Tryz.func183 rfl rfl rfl rfl rfl ?_
 refine aK.pad 1 (ah _) (by simp [go_sem,nK,hp]) nI ?_
 rw [show List.replicate 1 (none:Option bE)=[none] from rfl,xU]
 refine aK.go 1000 ?_
 simp only [go_sem,eH,ah,ao]
 rw [ep (by omega)]
 have Da:bt (kc.length+1) (S 0):=hs 0
 refine aK.c9 (ι:={i:Nat // i≤ts.length}) 1000 (fun i=>fD 19 [(0,y),(1, .ptr p 0),(3, .int .i64 ((ts.length:Int) - 1 - i.1))]) (fun i=>S i.1) (fun i=>ts.length - i.1) ⟨0,by omega⟩ ?_ (fun i=>by rw [hlen];exact dK _) ?_
 ·simp only [go_sem,hlen,Da,mP (dK _) nK,cC,Int.sub_zero]
  exact ⟨fx _,by omega⟩
 ·rintro ⟨i,hi⟩
  by_cases bD : 0≤(ts.length:Int) - 1 - i
  ·have aZ:i<ts.length:=by omega
   have hb:ts.length - 1 - i<ts.length:=by omega
   have hn:((ts.length:Int) - 1 - i).toNat=ts.length - 1 - i:=by omega
   simp only [go_sem,bD,eH,ah,ao,hn,nP hb,fq]
   rw [← dc]
   (repeat ((with_reducible refine And.intro ?_ ?_); ·omega))
   refine aK.xM (.bool true) trivial (by rw [hlen];exact dK _) ?_ ?_ ?_ ?_ ?_ ?_
   ·rw [hlen];exact mP (dK _) nK
   ·simp [go_sem,dE]
   ·rw [hlen];exact hs i
   ·rw [hlen]
    simp [go_sem,DT,D2,Ct,nK,hp,bP,dE]
   ·rw [hlen]
    have nW:=mP (dK _) nK
    simp [go_sem,nW,bP,dE];omega
   rw [hlen]
   refine (hy i aZ).mono ?_
   rintro r σ' ⟨k1,k2,k3,π,k4,k5,k6⟩
   refine ⟨k1,k2,k3,π,S (i+1),hlen _,k4,k5,k6,hs _,?_⟩
   refine aK.go 1000 ?_
   simp only [go_sem]
   refine ⟨⟨i+1,aZ⟩,?_,by simp only;omega⟩
   have Db:bt (kc.length+1) (S (i+1)):=hs (i+1)
   simp only [go_sem,hlen,Db,mP (dK _) nK]
   rw [ep (by omega)]
   exact ⟨by rw [show (ts.length:Int) - 1 - i - 1=ts.length - 1 - ((i+1:Nat):Int) by omega],fx _,by omega⟩
  ·have dR:i=ts.length:=by omega
   subst dR
   simp only [go_sem,bD]
   refine aK.go 1000 ?_
   simp only [go_sem]
   rw [fL]
   exact ⟨S ts.length,fx _,by rw [hlen];exact dK _,by rw [hlen];exact hs _,trivial,rfl⟩
theorem Zrg (ts:List Tm) (σ:ai) (hs:bt σ.length σ):aq Tryz.prog (.fn 157 [] []) [.ps 2 (ts.map Tm.aN)] σ
  (fun r σ'=>r = .fn 183 [] [.ptr σ.length 0]∧σ' = σ++[some (.var [.ps 2 (ts.map Tm.aN)])]):=by
 refine aq.begin (rs:=[.tmp 2]) (m:=3) 1000 Tryz.func157 rfl rfl rfl rfl rfl ?_
 simp only [go_sem]
 rw [Bf,fL]
 exact ⟨_,fx _,by simp,o9 (nA (by simp) hs) (by simp [go_sem,bP]),by simp [go_sem],rfl,rfl⟩
theorem TI (t:Tm) (σ:ai) (hs:bt σ.length σ):aq Tryz.prog (.fn 130 [] []) [t.aN] σ
  (fun r σ'=>r = .fn 156 [] [.ptr σ.length 0]∧σ' = σ++[some (.var [.int .i64 t.head, .ps 2 (t.args.map Tm.aN)])]):=by
 refine aq.begin (rs:=[.tmp 2]) (m:=3) 1000 Tryz.func130 rfl rfl rfl rfl rfl ?_
 simp only [go_sem,dc]
 rw [Bf,fL]
 exact ⟨_,fx _,by simp,o9 (nA (by simp) hs) (by simp [go_sem,bP]),by simp [go_sem],rfl,rfl⟩
theorem RP (t:Tm) (ft:t.size<999999999) (n0:Nat) (xv:n0≤8) (kc:ai) (b0 b1 b2 b3 b4 b5 b6 b7:Nat→Option bE) (p:Nat) (y:ae) (h0 : kc.length=n0)
  (xU : kc++List.replicate (8 - n0) none=[b0 0,b1 0,b2 0,b3 0,b4 0,b5 0,b6 0,b7 0]) (eH:bF [b0 0,b1 0,b2 0,b3 0,b4 0,b5 0,b6 0,b7 0] p=some (.var [.int .i64 t.head, .ps 2 (t.args.map Tm.aN)])) (hp:p<n0)
  (hs:∀ k,bt 8 [b0 k,b1 k,b2 k,b3 k,b4 k,b5 k,b6 k,b7 k]) (nI:bt n0 kc) (nK:y.low n0)
  (hy:∀ k (h:k<(t.pre 1).length),aq Tryz.prog y [.int .i64 (t.pre 1)[k].1,(t.pre 1)[k].2.aN] [b0 k,b1 k,b2 k,b3 k,b4 k,b5 k,b6 k,b7 k]
   (fun r σ'=>r = .bool true∧8≤σ'.length∧bt σ'.length σ'∧∃ π:Nat→Nat,(∀ b,b<n0→π b=b)∧(∀ b b',b<8→b'<8→π b = π b'→b=b')∧gb π σ' 0 [b0 (k+1),b1 (k+1),b2 (k+1),b3 (k+1),b4 (k+1),b5 (k+1),b6 (k+1),b7 (k+1)])) :
  aq Tryz.prog (.fn 156 [] [.ptr p 0]) [y] kc (fun _ σ'=>σ'=[b0 t.size,b1 t.size,b2 t.size,b3 t.size,b4 t.size,b5 t.size,b6 t.size,b7 t.size]):=by
 subst h0
 refine aq.l6 (rs:=[]) (m:=43) Tryz.func156 rfl rfl rfl rfl rfl ?_
 refine aK.pad (8 - kc.length) (ah _) (by simp [go_sem,nK,hp]) nI ?_
 rw [xU]
 have Di:=Fw t 1
 refine aK.go 1000 ?_
 simp only [go_sem,eH,ah]
 refine ⟨by decide,?_⟩
 refine aK.gS (ι:={x:List (Int×Tm)×List ae×Nat // x.2.2≤t.size∧(t.pre 1).drop x.2.2=rem x.1∧(∀ z∈x.1,pw (t.size+1) z)∧bx 0 x.2.1}) 1000 (fun x=>fD 45 [(0,y),(1, .ptr p 0),(3, .ptr 9 0)])
  (fun x=>[b0 x.1.2.2,b1 x.1.2.2,b2 x.1.2.2,b3 x.1.2.2,b4 x.1.2.2,b5 x.1.2.2,b6 x.1.2.2,b7 x.1.2.2,some (.row (x.1.1.reverse.map kA++x.1.2.1) 0),some (.var [.os 8 0 x.1.1.length 3])]) (fun x=>t.size - x.1.2.2)
  ⟨([(1,t)],[],0),av _,by rw [dk];exact (Ys3 t 1).symm,by simp [pw,Int.add_comm],trivial⟩ [] ?_ (fun _=>by simp;omega) ?_
 ·refine iF (KX _ _) ⟨?_,?_,?_,?_⟩
  ·have nW:=qn (pi []) _ (fun _ _=>rfl) [y] ⟨nK,trivial⟩
   simp only [dY,gx,and_true] at nW
   simp only [go_sem,nW]
  ·refine zN (B:=[b0 0,b1 0,b2 0,b3 0,b4 0,b5 0,b6 0,b7 0]) (hs 0) (fun _ _=>rfl) ?_
   simp only [go_sem,nO,lC,bf,aI,aS,bn,PL,cz (bP _)]
  ·have nW:=mP (m:=10) (by omega) nK
   simp only [go_sem,nW]
   omega
  ·refine o9 (σ:=[b0 0,b1 0,b2 0,b3 0,b4 0,b5 0,b6 0,b7 0]) (nA (bN 8 2) (hs 0)) ?_
   simp [go_sem,bP,PL]
 ·rintro ⟨⟨DK,junk,k⟩,h1,h2,h3,h4⟩
  simp only at h1 h2 h3 h4
  cases DK with
  | nil =>
   have hk:k=t.size:=by
    have:=congrArg List.length h2
    simp only [rem,oG,aR,cg,Di] at this;omega
   subst hk
   simp only [go_sem,aR,cC,lI]
   refine aK.go 1000 ?_
   simp only [go_sem]
   rw [fL]
   refine ⟨[b0 t.size,b1 t.size,b2 t.size,b3 t.size,b4 t.size,b5 t.size,b6 t.size,b7 t.size],by simp [go_sem],by simpa using xv,hs _,trivial,rfl⟩
  | cons x r =>
   have hlen:((x :: r).reverse.map kA++junk).length=r.length+1+junk.length:=by simp;omega
   have oB:(x :: r).reverse.map kA++junk=r.reverse.map kA++kA x :: junk:=by simp
   have hgx:(r.reverse.map kA++kA x :: junk).getD r.length .undef=kA x:=by simp
   have BI:(r.reverse.map kA++kA x :: junk).length=r.length+1+junk.length:=by rw [← oB,hlen]
   have Nv:r.length<1000000000:=by
    have:=congrArg List.length h2
    have h5:=Lr (x :: r)
    rw [cg,Di] at this
    simp only [au] at h5;omega
   have rR:IntKind.i64.wrap ((r.length:Int)+1 - 1)=r.length:=by rw [ep (by omega)];omega
   have nG:(0:Int)<r.length+1:=by omega
   simp only [go_sem,au,oB,lX,lY,nG,rR,BI,bV,hgx,Xl,ah]
   obtain ⟨d,⟨hd,ts⟩⟩:=x
   have hk:k<(t.pre 1).length:=by
    have:=congrArg List.length h2
    have h5:=Lr ((d,Tm.mk hd ts) :: r)
    rw [cg] at this
    simp only [au] at h5;omega
   rw [ak hk,Il,Tm.pre,bj,← UE] at h2
   obtain ⟨hLk,hdr⟩:=jT h2
   have jf:r.length+Tm.bG ts<999999999:=by
    have:=congrArg List.length hdr
    rw [cg,UE,ay,KT] at this
    have:=Lr r
    omega
   have Gc:pw (t.size+1) (d,Tm.mk hd ts):=h3 _ (by simp)
   simp only [pw,Tm.size] at Gc
   have wm:=hy k hk
   rw [hLk] at wm
   simp only [Tm.head,Tm.args,gE]
   rw [FK]
   have BF:∀ n,bx n (r.reverse.map kA++kA (d,Tm.mk hd ts) :: junk):=fun n=>rZ (Bi _) ⟨FA _,ie (av _) h4⟩
   (repeat ((with_reducible refine And.intro ?_ ?_); ·omega))
   refine aK.qF (σ:=[b0 k,b1 k,b2 k,b3 k,b4 k,b5 k,b6 k,b7 k]) (τ:=[some (.row (r.reverse.map kA++kA (d,Tm.mk hd ts) :: junk) 0),some (.var [.os 8 0 r.length 3]),some (.var [.int .i64 hd, .ps 2 (ts.map Tm.aN), .int .i64 d])]) (.bool true) trivial (by simpa using xv) ?_ ?_ (hs k) ?_ ?_ ?_ ?_ ?_
   ·exact mP xv nK
   ·simp [go_sem,dE]
   ·simp [go_sem,DT,D2,Ct,Ywr,PT,Yzl,nK,hp,bP,dE]
   ·simp only [Q5,Sr,Ypa,Yqp]
    refine ⟨Zy (BF _),?_,?_,trivial⟩
    ·simp [DT,D2,PT]
    ·simp [DT,D2,Ct,go_sem,bP]
   ·have nW:=mP (m:=11) (by omega) nK
    simp [go_sem,nW,bP,dE];omega
   ·exact ⟨BF _,⟨by simp [go_sem],trivial⟩,by simp [go_sem,ji,bE.low,bP],trivial⟩
   refine wm.mono ?_
   rintro r' σ' ⟨k1,k2,k3,π,k4,k5,k6⟩
   refine ⟨k1,k2,k3,π,[b0 (k+1),b1 (k+1),b2 (k+1),b3 (k+1),b4 (k+1),b5 (k+1),b6 (k+1),b7 (k+1)],rfl,k4,k5,k6,hs _,?_⟩
   refine aK.go 1000 ?_
   simp only [go_sem]
   have zt:=nA (m:=11) (by decide) (hs (k+1))
   simp only [wF,E2,and_true] at zt
   refine (Zrg ts _ ?_).mono ?_
   ·simp only [go_sem,wF,zt,BF,bP,xg,and_true,true_and,au,aR];decide
   rintro _ _ ⟨rfl,rfl⟩
   refine aK.go 1000 ?_
   simp only [go_sem]
   refine aK.rangeFunc (fD 45 [(3, .ptr 9 0),(4, .ptr 10 0)]) ?_ ?_ (fun ρ ht vB kS qM=>?_)
   ·simp only [go_sem]
   ·exact fun b hb=>by cases hb
   simp only [go_sem]
   let S:Nat→ai:=fun i=>match i with
    | 0=>[b0 (k+1),b1 (k+1),b2 (k+1),b3 (k+1),b4 (k+1),b5 (k+1),b6 (k+1),b7 (k+1),some (.row (r.reverse.map kA++kA (d,Tm.mk hd ts) :: junk) 0),some (.var [.os 8 0 r.length 3]),some (.var [.int .i64 hd, .ps 2 (ts.map Tm.aN), .int .i64 d]),some (.var [.ps 2 (ts.map Tm.aN)]),some (.loop (ρ.at .ready)),none]
    | i+1=>[b0 (k+1),b1 (k+1),b2 (k+1),b3 (k+1),b4 (k+1),b5 (k+1),b6 (k+1),b7 (k+1),none,some (.var [.os 13 0 (r.length+(i+1)) 3]),some (.var [.int .i64 hd, .ps 2 (ts.map Tm.aN), .int .i64 d]),some (.var [.ps 2 (ts.map Tm.aN)]),some (.loop (ρ.at .ready)),some (.row (((ts.drop (ts.length - (i+1))).map (fun u=>(d+1,u))++r).reverse.map kA) 0)]
   have xU:S 0=[b0 (k+1),b1 (k+1),b2 (k+1),b3 (k+1),b4 (k+1),b5 (k+1),b6 (k+1),b7 (k+1),some (.row (r.reverse.map kA++kA (d,Tm.mk hd ts) :: junk) 0),some (.var [.os 8 0 r.length 3]),some (.var [.int .i64 hd, .ps 2 (ts.map Tm.aN), .int .i64 d]),some (.var [.ps 2 (ts.map Tm.aN)]),some (.loop (ρ.at .ready)),none]:=rfl
   have Am:∀ i,S (i+1)=[b0 (k+1),b1 (k+1),b2 (k+1),b3 (k+1),b4 (k+1),b5 (k+1),b6 (k+1),b7 (k+1),none,some (.var [.os 13 0 (r.length+(i+1)) 3]),some (.var [.int .i64 hd, .ps 2 (ts.map Tm.aN), .int .i64 d]),some (.var [.ps 2 (ts.map Tm.aN)]),some (.loop (ρ.at .ready)),some (.row (((ts.drop (ts.length - (i+1))).map (fun u=>(d+1,u))++r).reverse.map kA) 0)]:=fun i=>rfl
   refine (Zv5 ts 13 _ S 11 (.ld 12) rfl rfl (fun i=>by cases i<;>rfl) (fun i=>by cases i<;>rfl) (by decide) (fun i=>?_) ?_ (cD 12) ?_ (fun i hi=>?_)).mono ?_
   ·have jh:bx 14 ρ.tm:=by rw [ht];simp [go_sem,zX,z6]
    have aO:=nA (m:=14) (by decide) (hs (k+1))
    cases i with
    | zero=>exact o9 (σ:=[b0 (k+1),b1 (k+1),b2 (k+1),b3 (k+1),b4 (k+1),b5 (k+1),b6 (k+1),b7 (k+1)]) aO ⟨BF _,⟨by simp [go_sem],trivial⟩,by simp [go_sem,ji,bE.low,bP],by simp [go_sem,ji,bE.low,bP],jh,trivial,trivial⟩
    | succ i=>exact o9 (σ:=[b0 (k+1),b1 (k+1),b2 (k+1),b3 (k+1),b4 (k+1),b5 (k+1),b6 (k+1),b7 (k+1)]) aO ⟨trivial,⟨by simp [go_sem],trivial⟩,by simp [go_sem,ji,bE.low,bP],by simp [go_sem,ji,bE.low,bP],jh,Bi _,trivial⟩
   ·have jh:bx 13 ρ.tm:=by rw [ht];simp [go_sem,zX,z6]
    have aO:=nA (m:=13) (by decide) (hs (k+1))
    exact o9 (σ:=[b0 (k+1),b1 (k+1),b2 (k+1),b3 (k+1),b4 (k+1),b5 (k+1),b6 (k+1),b7 (k+1)]) aO ⟨BF _,⟨by simp [go_sem],trivial⟩,by simp [go_sem,ji,bE.low,bP],by simp [go_sem,ji,bE.low,bP],jh,trivial⟩
   ·have:=qb ts
    omega
   ·have BO:IntKind.i64.wrap (d+1)=d+1:=ep (by omega)
    have bD:=qb ts
    have htn:t.size<999999999:=ft
    have hb:ts.length - 1 - i<ts.length:=by omega
    have Ga:ts.drop (ts.length - (i+1))=ts[ts.length - 1 - i] :: ts.drop (ts.length - i):=by
     rw [show ts.length - (i+1)=ts.length - 1 - i by omega,ak hb,show ts.length - 1 - i+1=ts.length - i by omega]
    generalize ts[ts.length - 1 - i]=u at *
    have Jd:ae.agg [.int .i64 u.head, .ps 2 (u.args.map Tm.aN), .int .i64 (d+1)]=kA (d+1,u):=rfl
    have yA:bx 13 ρ.tm:=by rw [ht];simp [go_sem,zX,z6]
    have v7:∀ π:Nat→Nat,(∀ b,b<13→π b=b)→dG π (.loop (ρ.at .ready)) = .loop (ρ.at .ready):=fun π EL=>Bk π 13 EL _ yA
    cases i with
    | zero =>
     have sj:List.take r.length (r.reverse.map kA++kA (d,Tm.mk hd ts) :: junk)=r.reverse.map kA:=by rw [List.take_left' (by simp)]
     refine aq.lH 1000 ht vB kS qM (by rw [xU];rfl) rfl ?_
     clear_value S
     rw [xU]
     simp only [go_sem,fq,ah,BO,eL,aQ,forall_eq,BI,sj]
     (repeat ((with_reducible refine And.intro ?_ ?_); ·omega))
     rw [tL]
     have wa:∀ b,b<13→pi [(13,16),(16,13)] b=b:=by decide
     have fP : [b0 (k+1),b1 (k+1),b2 (k+1),b3 (k+1),b4 (k+1),b5 (k+1),b6 (k+1),b7 (k+1),none,some (.var [.os 16 0 (r.length+1) 3]),some (.var [.int .i64 hd, .ps 2 (ts.map Tm.aN), .int .i64 d]),some (.var [.ps 2 (ts.map Tm.aN)]),some (.loop (ρ.at .ready)),none,none,none,some (.row (r.reverse.map kA++[kA (d+1,u)]) 0)]=([b0 (k+1),b1 (k+1),b2 (k+1),b3 (k+1),b4 (k+1),b5 (k+1),b6 (k+1),b7 (k+1)]++[none,some (.var [.os 16 0 (r.length+1) 3]),some (.var [.int .i64 hd, .ps 2 (ts.map Tm.aN), .int .i64 d]),some (.var [.ps 2 (ts.map Tm.aN)]),some (.loop (ρ.at .ready)),none,none,none,some (.row (r.reverse.map kA++[kA (d+1,u)]) 0)]:ai):=rfl
     have uj:bt 17 [b0 (k+1),b1 (k+1),b2 (k+1),b3 (k+1),b4 (k+1),b5 (k+1),b6 (k+1),b7 (k+1),none,some (.var [.os 16 0 (r.length+1) 3]),some (.var [.int .i64 hd, .ps 2 (ts.map Tm.aN), .int .i64 d]),some (.var [.ps 2 (ts.map Tm.aN)]),some (.loop (ρ.at .ready)),none,none,none,some (.row (r.reverse.map kA++[kA (d+1,u)]) 0)]:=by
      rw [fP]
      exact o9 (nA (bN 8 9) (hs (k+1))) ⟨trivial,⟨cD 16,trivial⟩,by simp [go_sem,ji,bE.low,bP],by simp [go_sem,ji,bE.low,bP],ie (bN 13 4) yA,trivial,trivial,trivial,rZ (Bi _) ⟨FA _,trivial⟩,trivial⟩
     refine ⟨rfl,[b0 (k+1),b1 (k+1),b2 (k+1),b3 (k+1),b4 (k+1),b5 (k+1),b6 (k+1),b7 (k+1),none,some (.var [.os 16 0 (r.length+1) 3]),some (.var [.int .i64 hd, .ps 2 (ts.map Tm.aN), .int .i64 d]),some (.var [.ps 2 (ts.map Tm.aN)]),some (.loop (ρ.at .ready)),none,none,none,some (.row (r.reverse.map kA++[kA (d+1,u)]) 0)],?_,?_,uj,rfl,?_,uj,pi [(13,16),(16,13)],wa,?_,?_⟩
     ·simp [go_sem,Jd]
     ·exact bN 14 3
     ·exact bN 14 3
     ·exact H4 (lo:=0) rfl
     ·rw [Am]
      refine zN (B:=[b0 (k+1),b1 (k+1),b2 (k+1),b3 (k+1),b4 (k+1),b5 (k+1),b6 (k+1),b7 (k+1)]) (hs (k+1)) (fun b hb=>wa b (by simp at hb;omega)) ?_
      simp only [go_sem,v7 _ wa,Nat.reduceEqDiff,if_true,if_false,Nat.reduceAdd,au,aR,and_true,true_and,cz (bP _),cz (Bi _)]
      refine ⟨(v7 _ wa).symm,?_⟩
      rw [show ts.length - 1=ts.length - (0+1) from rfl,Ga]
      simp
    | succ i =>
     have Gx:(((ts.drop (ts.length - (i+1))).map (fun u=>(d+1,u))++r).reverse.map kA).length=r.length+(i+1):=by simp;omega
     have NH:List.take (r.length+(i+1)) (((ts.drop (ts.length - (i+1))).map (fun u=>(d+1,u))++r).reverse.map kA)=((ts.drop (ts.length - (i+1))).map (fun u=>(d+1,u))++r).reverse.map kA:=bd (by rw [Gx];exact ah _)
     refine aq.lH 1000 ht vB kS qM (by rw [Am];rfl) rfl ?_
     clear_value S
     rw [Am]
     simp only [go_sem,fq,ah,BO,eL,aQ,forall_eq,Gx,NH]
     (repeat ((with_reducible refine And.intro ?_ ?_); ·omega))
     rw [tL]
     have wa:∀ b,b<13→pi [(13,16),(16,13)] b=b:=by decide
     have fP : [b0 (k+1),b1 (k+1),b2 (k+1),b3 (k+1),b4 (k+1),b5 (k+1),b6 (k+1),b7 (k+1),none,some (.var [.os 16 0 (r.length+(i+1)+1) 3]),some (.var [.int .i64 hd, .ps 2 (ts.map Tm.aN), .int .i64 d]),some (.var [.ps 2 (ts.map Tm.aN)]),some (.loop (ρ.at .ready)),none,none,none,some (.row (((ts.drop (ts.length - (i+1))).map (fun u=>(d+1,u))++r).reverse.map kA++[kA (d+1,u)]) 0)]=([b0 (k+1),b1 (k+1),b2 (k+1),b3 (k+1),b4 (k+1),b5 (k+1),b6 (k+1),b7 (k+1)]++[none,some (.var [.os 16 0 (r.length+(i+1)+1) 3]),some (.var [.int .i64 hd, .ps 2 (ts.map Tm.aN), .int .i64 d]),some (.var [.ps 2 (ts.map Tm.aN)]),some (.loop (ρ.at .ready)),none,none,none,some (.row (((ts.drop (ts.length - (i+1))).map (fun u=>(d+1,u))++r).reverse.map kA++[kA (d+1,u)]) 0)]:ai):=rfl
     have uj:bt 17 [b0 (k+1),b1 (k+1),b2 (k+1),b3 (k+1),b4 (k+1),b5 (k+1),b6 (k+1),b7 (k+1),none,some (.var [.os 16 0 (r.length+(i+1)+1) 3]),some (.var [.int .i64 hd, .ps 2 (ts.map Tm.aN), .int .i64 d]),some (.var [.ps 2 (ts.map Tm.aN)]),some (.loop (ρ.at .ready)),none,none,none,some (.row (((ts.drop (ts.length - (i+1))).map (fun u=>(d+1,u))++r).reverse.map kA++[kA (d+1,u)]) 0)]:=by
      rw [fP]
      exact o9 (nA (bN 8 9) (hs (k+1))) ⟨trivial,⟨cD 16,trivial⟩,by simp [go_sem,ji,bE.low,bP],by simp [go_sem,ji,bE.low,bP],ie (bN 13 4) yA,trivial,trivial,trivial,rZ (Bi _) ⟨FA _,trivial⟩,trivial⟩
     refine ⟨rfl,[b0 (k+1),b1 (k+1),b2 (k+1),b3 (k+1),b4 (k+1),b5 (k+1),b6 (k+1),b7 (k+1),none,some (.var [.os 16 0 (r.length+(i+1)+1) 3]),some (.var [.int .i64 hd, .ps 2 (ts.map Tm.aN), .int .i64 d]),some (.var [.ps 2 (ts.map Tm.aN)]),some (.loop (ρ.at .ready)),none,none,none,some (.row (((ts.drop (ts.length - (i+1))).map (fun u=>(d+1,u))++r).reverse.map kA++[kA (d+1,u)]) 0)],?_,?_,uj,rfl,?_,uj,pi [(13,16),(16,13)],wa,?_,?_⟩
     ·simp [go_sem,Jd]
     ·exact bN 14 3
     ·exact bN 14 3
     ·exact H4 (lo:=0) rfl
     ·rw [Am]
      refine zN (B:=[b0 (k+1),b1 (k+1),b2 (k+1),b3 (k+1),b4 (k+1),b5 (k+1),b6 (k+1),b7 (k+1)]) (hs (k+1)) (fun b hb=>wa b (by simp at hb;omega)) ?_
      simp only [go_sem,v7 _ wa,Nat.reduceEqDiff,if_true,if_false,Nat.reduceAdd,au,aR,and_true,true_and,cz (bP _),cz (Bi _)]
      refine ⟨by rw [ff],(v7 _ wa).symm,?_⟩
      rw [Ga]
      simp
   rintro r' iO rfl
   rw [Cv]
   refine ⟨.ready,?_,?_⟩
   ·cases ts.length<;>rfl
   rw [D9]
   refine aK.go 1000 ?_
   have MI:∀ z∈ts.map (fun u=>(d+1,u))++r,pw (t.size+1) z:=by
    intro z hz
    rcases aX.1 hz with hz | hz
    ·obtain ⟨u,hu,rfl⟩:=bW.1 hz
     obtain ⟨j,hj,rfl⟩:=lJ.1 hu
     have:=A5 ts j hj
     simp only [pw];omega
    ·exact h3 z (by simp [hz])
   cases hN:ts.length with
   | zero =>
    obtain rfl:=gX.1 hN
    rw [xU]
    simp only [go_sem]
    refine ⟨⟨(r,kA (d,Tm.mk hd []) :: junk,k+1),by simp only;omega,by simp only;rw [hdr];rfl,fun z hz=>h3 z (by simp at hz;simp [hz]),⟨FA _,h4⟩⟩,[],iF (KX _ _) ⟨?_,?_,?_,?_⟩,by simp only;omega⟩
    ·have nW:=qn (pi []) _ (fun _ _=>rfl) [y] ⟨nK,trivial⟩
     simp only [dY,gx,and_true] at nW
     simp only [go_sem,nW]
    ·refine zN (B:=[b0 (k+1),b1 (k+1),b2 (k+1),b3 (k+1),b4 (k+1),b5 (k+1),b6 (k+1),b7 (k+1)]) (hs (k+1)) (fun _ _=>rfl) ?_
     simp only [go_sem,cz (BF 0)]
    ·have nW:=mP (m:=10) (by omega) nK
     simp only [go_sem,nW]
     omega
    ·refine o9 (σ:=[b0 (k+1),b1 (k+1),b2 (k+1),b3 (k+1),b4 (k+1),b5 (k+1),b6 (k+1),b7 (k+1)]) (nA (bN 8 2) (hs (k+1))) ?_
     exact ⟨BF _,⟨by simp [go_sem],trivial⟩,trivial⟩
   | succ N =>
    rw [Am]
    have hd0:ts.drop (ts.length - (N+1))=ts:=by rw [hN,ei,dk]
    simp only [go_sem,hd0]
    refine ⟨⟨(ts.map (fun u=>(d+1,u))++r,[],k+1),by simp only;omega,hdr,MI,trivial⟩,[(8,13),(13,8)],iF (Ysr xv rfl) ⟨?_,?_,?_,?_⟩,by simp only;omega⟩
    ·have nW:=qn (pi [(8,13),(13,8)]) 8 (by decide) [y] ⟨mP xv nK,trivial⟩
     simp only [dY,gx,and_true] at nW
     simp only [go_sem,nW]
     rw [if_neg (by omega),if_neg (by omega)]
    ·refine zN (B:=[b0 (k+1),b1 (k+1),b2 (k+1),b3 (k+1),b4 (k+1),b5 (k+1),b6 (k+1),b7 (k+1)]) (hs (k+1)) (fun b hb=>by simp only [au,aR] at hb;revert b;decide) ?_
     simp only [go_sem,cz (Bi _),bn]
     simp only [ay,ao,hN]
     rw [Nat.add_comm]
    ·have nW:=mP (m:=10) (by omega) nK
     simp only [go_sem,nW]
     omega
    ·refine o9 (σ:=[b0 (k+1),b1 (k+1),b2 (k+1),b3 (k+1),b4 (k+1),b5 (k+1),b6 (k+1),b7 (k+1)]) (nA (bN 8 2) (hs (k+1))) ?_
     exact ⟨rZ (Bi _) trivial,⟨by simp [go_sem],trivial⟩,trivial⟩
theorem Ch (t:Tm) (ft:t.size<999999999):aJ Tryz.prog 90 [t.aN] (.int .i64 t.check):=by
 refine aJ.begin (rs:=[.tmp 2]) (m:=52) 1000 Tryz.func90 rfl rfl rfl (by decide) trivial ?_
 simp only [go_sem,dc,ah]
 rw [← dc]
 refine (TI t _ ?_).mono ?_
 ·simp [go_sem,bP]
 rintro _ _ ⟨rfl,rfl⟩
 refine aK.go 1000 ?_
 simp only [go_sem]
 refine aK.rangeFunc (fD 53 [(3, .ptr 1 0),(4, .ptr 2 0),(5, .ptr 3 0)]) ?_ ?_ (fun ρ ht vB kS qM=>?_)
 ·simp only [go_sem]
 ·exact fun b hb=>by cases hb
 simp only [go_sem]
 have Di:=Fw t 1
 have MI:=TS t 1 0
 have vZ:=Ui t 1
 have Vm:=X_ t 1
 have jh:bx 6 ρ.tm:=by rw [ht];simp [go_sem,zX,z6]
 have fP:∀ k,bt 8 [some (.var [.int .i64 t.head, .ps 2 (t.args.map Tm.aN)]),some (.var [.int .i64 (k:Nat)]),some (.var [.int .i64 (fC ((t.pre 1).take k) 0)]),some (.var [.bool (((t.pre 1).take k).any fun x=>!jt x.2)]),some (.var [.int .i64 t.head, .ps 2 (t.args.map Tm.aN)]),some (.loop (ρ.at .ready)),none,none] :=
  fun k=>⟨⟨trivial,bP _,trivial⟩,⟨trivial,trivial⟩,⟨trivial,trivial⟩,⟨trivial,trivial⟩,⟨trivial,bP _,trivial⟩,ie (by decide) jh,trivial,trivial,trivial⟩
 refine (RP t ft 6 (by decide) _ (fun _=>some (.var [.int .i64 t.head, .ps 2 (t.args.map Tm.aN)])) (fun k=>some (.var [.int .i64 (k:Nat)])) (fun k=>some (.var [.int .i64 (fC ((t.pre 1).take k) 0)]))
  (fun k=>some (.var [.bool (((t.pre 1).take k).any fun x=>!jt x.2)])) (fun _=>some (.var [.int .i64 t.head, .ps 2 (t.args.map Tm.aN)])) (fun _=>some (.loop (ρ.at .ready))) (fun _=>none) (fun _=>none) 4 (.ld 5) rfl rfl rfl (by decide) fP ?_ (cD 5) (fun k hk=>?_)).mono ?_
 ·exact ⟨⟨trivial,bP _,trivial⟩,⟨trivial,trivial⟩,⟨trivial,trivial⟩,⟨trivial,trivial⟩,⟨trivial,bP _,trivial⟩,jh,trivial⟩
 ·have sj:=Sw hk
  have hbk:=Vm _ (aF hk)
  have Ja : 0≤fC ((t.pre 1).take k) 0∧fC ((t.pre 1).take k) 0<2 ^ 62:=P2 _ 0 (by omega) (by omega) fun x hx=>by have:=Vm x (lL hx);omega
  have v8:fC ((t.pre 1).take (k+1)) 0=max (fC ((t.pre 1).take k) 0) (t.pre 1)[k].1:=by rw [sj,Qy];rfl
  have rP:((t.pre 1).take (k+1)).any (fun x=>!jt x.2)=(((t.pre 1).take k).any (fun x=>!jt x.2) || !jt (t.pre 1)[k].2):=by rw [sj,List.any_append];simp
  refine aq.stay rfl (fP (k+1)) ?_
  rw [v8,rP]
  generalize (t.pre 1)[k]=x at *
  generalize fC ((t.pre 1).take k) 0=mx at *
  generalize ((t.pre 1).take k).any (fun x=>!jt x.2)=wr at *
  obtain ⟨d,u⟩:=x
  simp only at hbk
  have qh:(if mx<d then d else mx)=max mx d:=by omega
  refine aq.lH 1000 ht vB kS qM rfl rfl ?_
  simp only [go_sem,fq,ah,ao]
  have vA : -9223372036854775808≤(k:Int)+1∧(k:Int)+1≤9223372036854775807:=by omega
  have vz:((k+1:Nat):Int)=(k:Int)+1:=rfl
  have vD:∀ X,bt 8 [some (.var [.int .i64 t.head, .ps 2 (t.args.map Tm.aN)]),some (.var [.int .i64 (k+1:Nat)]),some (.var [.int .i64 (max mx d)]),some (.var [.bool X]),some (.var [.int .i64 t.head, .ps 2 (t.args.map Tm.aN)]),some (.loop (ρ.at .ready)),none,none]:=fun X=>⟨⟨trivial,bP _,trivial⟩,⟨trivial,trivial⟩,⟨trivial,trivial⟩,⟨trivial,trivial⟩,⟨trivial,bP _,trivial⟩,ie (by decide) jh,trivial,trivial,trivial⟩
  refine aK.go 1000 ?_
  refine aK.draw [.no, .no,⟨none,[],[1]⟩,⟨none,[],[1]⟩,⟨none,[],[1]⟩,⟨none,[1],[]⟩,⟨none,[2],[]⟩] 9 9 mixed rfl rfl (by decide) ?_
  simp only [go_sem,dA,qh]
  refine aK.go 1000 ?_
  have zn:jt u = !(u.head<0&&decide ((0:Int)<u.args.length)||u.head < -256||decide (1023<u.head)||decide ((8:Int)<u.args.length)):=by
   simp only [jt,Int.natCast_pos,show (8:Int)<u.args.length↔8<u.args.length by omega]
  cases wr with
  | true =>
   simp only [go_sem,qh,ao,ep vA]
   rw [tL]
   refine ⟨rfl,[some (.var [.int .i64 t.head, .ps 2 (t.args.map Tm.aN)]),some (.var [.int .i64 (k+1:Nat)]),some (.var [.int .i64 (max mx d)]),some (.var [.bool true]),some (.var [.int .i64 t.head, .ps 2 (t.args.map Tm.aN)]),some (.loop (ρ.at .ready)),none,none],by simp [go_sem,vz],ah _,vD _,rfl,?_⟩
   rfl
  | false =>
   by_cases d1:u.head<0
   ·by_cases d2:(0:Int)<u.args.length
    ·simp only [go_sem,qh,d1,d2,ao,ep vA]
     rw [tL]
     refine ⟨rfl,[some (.var [.int .i64 t.head, .ps 2 (t.args.map Tm.aN)]),some (.var [.int .i64 (k+1:Nat)]),some (.var [.int .i64 (max mx d)]),some (.var [.bool true]),some (.var [.int .i64 t.head, .ps 2 (t.args.map Tm.aN)]),some (.loop (ρ.at .ready)),none,none],by simp [go_sem,vz],ah _,vD _,rfl,?_⟩
     rw [zn,decide_eq_true d1,decide_eq_true d2];rfl
    by_cases d3:u.head < -256
    ·simp only [go_sem,qh,d1,d2,d3,ao,ep vA]
     rw [tL]
     refine ⟨rfl,[some (.var [.int .i64 t.head, .ps 2 (t.args.map Tm.aN)]),some (.var [.int .i64 (k+1:Nat)]),some (.var [.int .i64 (max mx d)]),some (.var [.bool true]),some (.var [.int .i64 t.head, .ps 2 (t.args.map Tm.aN)]),some (.loop (ρ.at .ready)),none,none],by simp [go_sem,vz],ah _,vD _,rfl,?_⟩
     rw [zn,decide_eq_true d1,decide_eq_false d2,decide_eq_true d3];rfl
    have d4:¬ 1023<u.head:=by omega
    have d5:¬ (8:Int)<u.args.length:=by omega
    simp only [go_sem,qh,d1,d2,d3,d4,d5,ao,ep vA]
    rw [tL]
    refine ⟨rfl,[some (.var [.int .i64 t.head, .ps 2 (t.args.map Tm.aN)]),some (.var [.int .i64 (k+1:Nat)]),some (.var [.int .i64 (max mx d)]),some (.var [.bool false]),some (.var [.int .i64 t.head, .ps 2 (t.args.map Tm.aN)]),some (.loop (ρ.at .ready)),none,none],by simp [go_sem,vz],ah _,vD _,rfl,?_⟩
    rw [zn,decide_eq_true d1,decide_eq_false d2,decide_eq_false d3,decide_eq_false d4,decide_eq_false d5];rfl
   have d3:¬ u.head < -256:=by omega
   by_cases d4 : 1023<u.head
   ·simp only [go_sem,qh,d1,d3,d4,ao,ep vA]
    rw [tL]
    refine ⟨rfl,[some (.var [.int .i64 t.head, .ps 2 (t.args.map Tm.aN)]),some (.var [.int .i64 (k+1:Nat)]),some (.var [.int .i64 (max mx d)]),some (.var [.bool true]),some (.var [.int .i64 t.head, .ps 2 (t.args.map Tm.aN)]),some (.loop (ρ.at .ready)),none,none],by simp [go_sem,vz],ah _,vD _,rfl,?_⟩
    rw [zn,decide_eq_false d1,decide_eq_false d3,decide_eq_true d4];rfl
   by_cases d5:(8:Int)<u.args.length
   ·simp only [go_sem,qh,d1,d3,d4,d5,ao,ep vA]
    rw [tL]
    refine ⟨rfl,[some (.var [.int .i64 t.head, .ps 2 (t.args.map Tm.aN)]),some (.var [.int .i64 (k+1:Nat)]),some (.var [.int .i64 (max mx d)]),some (.var [.bool true]),some (.var [.int .i64 t.head, .ps 2 (t.args.map Tm.aN)]),some (.loop (ρ.at .ready)),none,none],by simp [go_sem,vz],ah _,vD _,rfl,?_⟩
    rw [zn,decide_eq_false d1,decide_eq_false d3,decide_eq_false d4,decide_eq_true d5];rfl
   simp only [go_sem,qh,d1,d3,d4,d5,ao,ep vA]
   rw [tL]
   refine ⟨rfl,[some (.var [.int .i64 t.head, .ps 2 (t.args.map Tm.aN)]),some (.var [.int .i64 (k+1:Nat)]),some (.var [.int .i64 (max mx d)]),some (.var [.bool false]),some (.var [.int .i64 t.head, .ps 2 (t.args.map Tm.aN)]),some (.loop (ρ.at .ready)),none,none],by simp [go_sem,vz],ah _,vD _,rfl,?_⟩
   rw [zn,decide_eq_false d1,decide_eq_false d3,decide_eq_false d4,decide_eq_false d5];rfl
 rintro r' iO rfl
 rw [Cv]
 refine ⟨.ready,rfl,?_⟩
 rw [D9]
 rw [← Di,da,MI,vZ,Di]
 refine aK.go 1000 ?_
 simp only [go_sem]
 have hdd : 1≤t.depth:=by cases t;simp only [Tm.depth];omega
 unfold Tm.check
 refine ⟨fun h=>by rw [if_pos (by omega)],fun h=>⟨fun h'=>by rw [if_neg (by omega),if_pos (by omega)],fun h'=>⟨fun hg=>?_,fun hg=>?_⟩⟩⟩<;>rw [if_neg (by omega),if_neg (by omega)]
 ·rw [if_neg (by simpa using hg)]
 ·rw [if_pos (by simpa using hg)]
theorem Zv4 (l:List Int) (v:Int) (hl:l.length<2 ^ 62):aJ Tryz.prog 143 [.ps 1 (ints l), .int .i64 v] (.int .i64 (dH (fun x=>decide (v=x)) l 0)):=by
 refine aJ.begin (rs:=[.tmp 4]) (m:=17) 1000 Tryz.func143 rfl rfl rfl (by decide) trivial ?_
 simp only [go_sem]
 refine aK.c9 (ι:={i:Nat // i≤l.length∧dH (fun x=>decide (v=x)) (l.drop i) i=dH (fun x=>decide (v=x)) l 0}) 1000 (fun i=>fD 19 [(0, .ps 1 (ints l)),(1, .int .i64 v),(7, .int .i64 l.length),(8, .int .i64 i.1)]) (fun _=>[]) (fun i=>l.length - i.1) ⟨0,by simp⟩ ?_ (fun _=>av _) ?_
 ·simp only [go_sem,dp,kV,cC]
 ·rintro ⟨i,hi,aO⟩
  by_cases bD:(i:Int)<l.length
  ·have aZ:i<l.length:=by omega
   have hd:dH (fun x=>decide (v=x)) (l.drop i) i=if decide (v=l[i])=true then (i:Int) else dH (fun x=>decide (v=x)) (l.drop (i+1)) ((i:Int)+1):=by
    rw [ak aZ];rfl
   by_cases e:v=l[i]
   ·rw [hd,if_pos (by simp [← e])] at aO
    simp only [go_sem,bD,kV,bV,wH aZ,← e]
    (repeat ((with_reducible refine And.intro ?_ ?_); ·omega))
    refine aK.go 1000 ?_
    simp only [go_sem]
    rw [aO]
   ·rw [hd,if_neg (by simp [e])] at aO
    simp only [go_sem,bD,kV,bV,wH aZ,e]
    (repeat ((with_reducible refine And.intro ?_ ?_); ·omega))
    refine ⟨⟨i+1,aZ,aO⟩,?_,by simp only;omega⟩
    simp only [go_sem,dp]
    rw [ep (by omega)];trivial
  ·have dR:i=l.length:=by omega
   subst dR
   rw [aV] at aO
   simp only [go_sem,bD]
   refine aK.go 1000 ?_
   simp only [go_sem,← aO]
   trivial
theorem Hk (l:List Int) (v:Int) (hl:l.length<2 ^ 62):aJ Tryz.prog 110 [.ps 1 (ints l), .int .i64 v] (.bool (decide (v∈l))):=by
 refine aJ.begin (rs:=[.tmp 4]) (m:=7) 1000 Tryz.func110 rfl rfl rfl (by decide) trivial ?_
 simp only [go_sem]
 refine aq.bU [] (Zv4 l v hl) (cH _ _ _) (by simp [go_sem,dp]) ?_;simp only [bL,bZ,bX,if_true];refine aK.go 1000 ?_
 simp only [go_sem,Ci _ l 0 (qx 0)]
 congr 1
 rw [fp];simp
theorem UU (t:Tm) (yc:t.fit) (ft:t.size<999999999):aJ Tryz.prog 162 [t.aN] (.ps 1 (ints t.vars)):=by
 refine aJ.begin (rs:=[.tmp 2]) (m:=26) 1000 Tryz.func162 rfl rfl rfl (by decide) (dp _) ?_
 simp only [go_sem,dc,ah]
 rw [← dc]
 refine (TI t _ ?_).mono ?_
 ·simp [go_sem,bP]
 rintro _ _ ⟨rfl,rfl⟩
 refine aK.go 1000 ?_
 simp only [go_sem]
 refine aK.rangeFunc (fD 27 [(3, .ptr 1 0)]) ?_ ?_ (fun ρ ht vB kS qM=>?_)
 ·simp only [go_sem]
 ·exact fun b hb=>by cases hb
 simp only [go_sem]
 have Di:=Fw t 1
 have NK:=Xn t 1
 have jh:bx 4 ρ.tm:=by rw [ht];simp [go_sem,zX,z6]
 have fP:∀ l:List Int,bt 8 [some (.var [.int .i64 t.head, .ps 2 (t.args.map Tm.aN)]),some (.var [ja 4 1 (ints l)]),some (.var [.int .i64 t.head, .ps 2 (t.args.map Tm.aN)]),some (.loop (ρ.at .ready)),eJ (ints l),none,none,none] :=
  fun l=>⟨⟨trivial,bP _,trivial⟩,⟨Bl (by decide) 1 _,trivial⟩,⟨trivial,bP _,trivial⟩,ie (by decide) jh,zU _ (dp _),trivial,trivial,trivial,trivial⟩
 refine (RP t ft 4 (by decide) _ (fun _=>some (.var [.int .i64 t.head, .ps 2 (t.args.map Tm.aN)])) (fun k=>some (.var [ja 4 1 (ints (jV ((t.pre 1).take k) []))])) (fun _=>some (.var [.int .i64 t.head, .ps 2 (t.args.map Tm.aN)])) (fun _=>some (.loop (ρ.at .ready)))
  (fun k=>eJ (ints (jV ((t.pre 1).take k) []))) (fun _=>none) (fun _=>none) (fun _=>none) 2 (.ld 3) rfl rfl rfl (by decide) (fun k=>fP _) ?_ (cD 3) (fun k hk=>?_)).mono ?_
 ·exact ⟨⟨trivial,bP _,trivial⟩,⟨trivial,trivial⟩,⟨trivial,bP _,trivial⟩,jh,trivial⟩
 ·have vq:jV ((t.pre 1).take (k+1)) []=tM (jV ((t.pre 1).take k) []) (t.pre 1)[k]:=by rw [Sw hk,RY];rfl
  have hlen:=Yy ((t.pre 1).take k) []
  rw [cW] at hlen
  have Ev:(t.pre 1)[k].2.fit:=Oi t yc 1 _ (aF hk)
  rw [vq]
  generalize (t.pre 1)[k]=x at *
  generalize jV ((t.pre 1).take k) []=o at *
  obtain ⟨d,u⟩:=x
  simp only at Ev
  have Eu : -9223372036854775808≤u.head∧u.head≤9223372036854775807:=by obtain ⟨h,ts⟩:=u;exact Ev.1
  have tz:IntKind.i64.wrap (-1 - u.head) = -1 - u.head:=ep (by omega)
  have hol:o.length<999999999:=by simp only [aR] at hlen;omega
  by_cases c1:u.head<0
  ·have zq : 0≤-1 - u.head:=by omega
   have uf:tM o (d,u)=kW o (-1 - u.head):=if_pos c1
   rw [uf]
   generalize hv : -1 - u.head=v at *
   by_cases c2:v∈o
   ·have hn:kW o v=o:=if_pos c2
    rw [hn]
    refine aq.stay rfl (fP _) ?_
    refine aq.lH 1000 ht vB kS qM rfl rfl ?_
    simp only [go_sem,fq,ah,ao,hv,tz,zq]
    refine aq.bU [4] (Hk o v (by omega)) ?_ (by simp [go_sem,dp]) ?_
    ·simp only [go_sem,qB,qC,rN]
    simp only [bL,bZ,bX,if_true]
    refine aK.go 1000 ?_
    simp only [go_sem,c2]
    rw [tL]
    exact ⟨rfl,[some (.var [.int .i64 t.head, .ps 2 (t.args.map Tm.aN)]),some (.var [ja 4 1 (ints o)]),some (.var [.int .i64 t.head, .ps 2 (t.args.map Tm.aN)]),some (.loop (ρ.at .ready)),eJ (ints o),none,none,none],by simp [go_sem],ah _,fP _,rfl,rfl⟩
   ·have hn:kW o v=o++[v]:=if_neg c2
    have wa:∀ b,b<4→pi [(4,10),(10,4)] b=b:=by decide
    rw [hn]
    refine aq.move [(4,10),(10,4)] (S':=[some (.var [.int .i64 t.head, .ps 2 (t.args.map Tm.aN)]),some (.var [.os 10 0 (o.length+1) 1]),some (.var [.int .i64 t.head, .ps 2 (t.args.map Tm.aN)]),some (.loop (ρ.at .ready)),none,none,none,none,none,none,some (.row (ints o++[.int .i64 v]) 0)]) ?_ ?_ rfl ?_ ?_
    ·exact bN 8 3
    ·exact ⟨⟨trivial,bP _,trivial⟩,⟨cD 10,trivial⟩,⟨trivial,bP _,trivial⟩,ie (bN 4 7) jh,trivial,trivial,trivial,trivial,trivial,trivial,rZ (dp _) ⟨trivial,trivial⟩,trivial⟩
    ·have tv:=Bk (pi [(4,10),(10,4)]) 4 wa (.loop (ρ.at .ready)) jh
     simp only [Cj,Fe,E_,Hw,HA,KD,tv]
     simp [go_sem,cz (bP _),cz (dp _),cz (rZ (dp o) (show bx 0 [ae.int .i64 v] from ⟨trivial,trivial⟩)),kV]
    refine aq.lH 1000 ht vB kS qM rfl rfl ?_
    simp only [go_sem,fq,ah,ao,hv,tz,zq]
    refine aq.bU [4] (Hk o v (by omega)) ?_ (by simp [go_sem,dp]) ?_
    ·simp only [go_sem,qB,qC,rN]
    simp only [bL,bZ,bX,if_true]
    refine aK.go 1000 ?_
    simp only [go_sem,c2,eL,aQ,forall_eq,cn,uQ,kV]
    refine ⟨by omega,?_⟩
    rw [tL]
    exact ⟨rfl,[some (.var [.int .i64 t.head, .ps 2 (t.args.map Tm.aN)]),some (.var [.os 10 0 (o.length+1) 1]),some (.var [.int .i64 t.head, .ps 2 (t.args.map Tm.aN)]),some (.loop (ρ.at .ready)),none,none,none,none,none,none,some (.row (ints o++[.int .i64 v]) 0)],by simp [go_sem],bN 8 3,⟨⟨trivial,bP _,trivial⟩,⟨cD 10,trivial⟩,⟨trivial,bP _,trivial⟩,ie (bN 4 7) jh,trivial,trivial,trivial,trivial,trivial,trivial,rZ (dp _) (show bx 11 [ae.int .i64 v] from ⟨trivial,trivial⟩),trivial⟩,rfl,rfl⟩
  ·have hn:tM o (d,u)=o:=if_neg c1
   rw [hn]
   refine aq.stay rfl (fP _) ?_
   refine aq.lH 1000 ht vB kS qM rfl rfl ?_
   have zq:¬ 0≤-1 - u.head:=by omega
   simp only [go_sem,fq,ah,ao,tz,zq]
   rw [tL]
   exact ⟨rfl,[some (.var [.int .i64 t.head, .ps 2 (t.args.map Tm.aN)]),some (.var [ja 4 1 (ints o)]),some (.var [.int .i64 t.head, .ps 2 (t.args.map Tm.aN)]),some (.loop (ρ.at .ready)),eJ (ints o),none,none,none],by simp [go_sem],ah _,fP _,rfl,rfl⟩
 rintro r' iO rfl
 rw [Cv]
 refine ⟨.ready,rfl,?_⟩
 rw [D9]
 rw [← Di,da,NK]
 refine aK.go 1000 ?_
 simp only [go_sem]
 rw [rN rfl rfl];trivial
end Go.Proofs
namespace Go.Proofs
open Go Go.cV
mutual
def Tm.walk {ι:Type} (step : ι→Tm→Bool→ι):Tm→Bool→ι→ι
 | .mk h ts,top,x=>Tm.walks step ts (step x (.mk h ts) top)
def Tm.walks {ι:Type} (step : ι→Tm→Bool→ι):List Tm→ι→ι
 | [],x=>x
 | t :: ts,x=>Tm.walks step ts (t.walk step false x)
end
theorem QZ {ι:Type} (step : ι→Tm→Bool→ι):∀ (ts:List Tm) (i:Nat) (hi:i<ts.length) (x : ι),Tm.walks step (ts.take (i+1)) x=ts[i].walk step false (Tm.walks step (ts.take i) x)
 | t :: ts,0,_,x=>by simp [Tm.walks]
 | t :: ts,i+1,hi,x=>by
  simp only [eR,Tm.walks,ix]
  exact QZ step ts i (by simpa using hi) _
def kq (g:List Sy) (x:Bool×Bool) (t:Tm) (top:Bool):Bool×Bool :=
 if t.head<0 then x else if (g.length:Int)≤t.head∨¬ (t.args.length:Int)=(lu g t.head).arity then (true,x.2) else if (lu g t.head).cA=true∧top=false then (x.1,true) else x
def jO (g:List Sy) (t:Tm):Bool:=decide (t.head<0)||(!(decide ((g.length:Int)≤t.head))&&decide ((t.args.length:Int)=(lu g t.head).arity))
theorem Zs9 (g:List Sy) (h:Int) (ts:List Tm):jO g (.mk h ts)=(decide (h<0)||(!(decide ((g.length:Int)≤h))&&decide ((ts.length:Int)=(lu g h).arity))):=rfl
theorem Yx3 (g:List Sy) (x:Bool×Bool) (t:Tm) (top:Bool):(kq g x t top).1=(x.1 || !jO g t):=by
 unfold kq jO
 by_cases c1:t.head<0
 ·simp [c1]
 ·by_cases c2:(g.length:Int)≤t.head
  ·simp [c1,c2]
  ·by_cases c3:(t.args.length:Int)=(lu g t.head).arity
   ·rw [if_neg c1,if_neg (by simp [c2,c3])]
    split<;>simp [c1,c2,c3]
   ·simp [c1,c2,c3]
theorem Ur {h:Int} {ts:List Tm} (hg:(Tm.mk h ts).good=true) (c:h<0):ts=[]:=by
 simp only [Tm.good,aD,bT,cE,eY,decide_eq_false_iff_not] at hg
 rcases hg.1.1.1.1 with h' | h'
 ·exact absurd c h'
 ·exact gX.1 (by omega)
theorem R9 {h:Int} {ts:List Tm} (hg:(Tm.mk h ts).good=true):Tm.fT ts=true:=by
 simp only [Tm.good,aD] at hg;exact hg.2
mutual
theorem Pr (g:List Sy):∀ (t:Tm) (top:Bool) (x:Bool×Bool),t.good=true→(t.walk (kq g) top x).1=(x.1 || !t.known g)
 | .mk h ts,top,x,hg=>by
  simp only [Tm.walk,Tm.known]
  rw [Ou g ts _ (R9 hg),Yx3,Zs9]
  by_cases c1:h<0
  ·have:=Ur hg c1
   subst this
   simp [c1,Tm.gM]
  ·have e1:decide (h<0)=false:=decide_eq_false c1
   rw [e1]
   simp only [dq,Bool.not_and,Bool.or_assoc]
theorem Ou (g:List Sy):∀ (ts:List Tm) (x:Bool×Bool),Tm.fT ts=true→(Tm.walks (kq g) ts x).1=(x.1 || !Tm.gM g ts)
 | [],x,_=>by simp [Tm.walks,Tm.gM]
 | t :: ts,x,hg=>by
  simp only [Tm.fT,aD] at hg
  simp only [Tm.walks,Tm.gM]
  rw [Ou g ts _ hg.2,Pr g t _ _ hg.1,Bool.not_and,Bool.or_assoc]
end
theorem Ytb (g:List Sy) (x:Bool×Bool) (t:Tm) (top:Bool) (hk:jO g t=true):(kq g x t top).2=(x.2||(!top&&t.cA g)):=by
 unfold kq
 unfold jO at hk
 by_cases c1:t.head<0
 ·simp [c1,Tm.cA,show ¬ 0≤t.head by omega]
 ·simp only [decide_eq_false c1,dq,aD,bT,decide_eq_false_iff_not,decide_eq_true_eq] at hk
  rw [if_neg c1,if_neg (by simp only [hk.2,not_true_eq_false,or_false];exact hk.1)]
  have h0 : 0≤t.head:=by omega
  have h1:t.head<(g.length:Int):=by omega
  cases ht:(lu g t.head).cA<;>cases top<;>simp [Tm.cA,h0,h1,ht]
mutual
theorem PI (g:List Sy):∀ (t:Tm) (top:Bool) (x:Bool×Bool),t.good=true→t.known g=true→(t.walk (kq g) top x).2=(x.2||((!top&&t.cA g) || !t.jo g))
 | .mk h ts,top,x,hg,hk=>by
  have hh:jO g (.mk h ts)=true:=by
   simp only [Tm.known,b9,aD] at hk
   simp only [jO,Tm.head,Tm.args,b9,aD]
   exact hk.imp id And.left
  have M4:Tm.gM g ts=true:=by
   by_cases c1:h<0
   ·rw [Ur hg c1];rfl
   ·simp only [Tm.known,decide_eq_false c1,dq,aD] at hk;exact hk.2
  simp only [Tm.walk,Tm.jo]
  rw [OJ g ts _ (R9 hg) M4,Ytb g x _ top hh,Bool.or_assoc]
theorem OJ (g:List Sy):∀ (ts:List Tm) (x:Bool×Bool),Tm.fT ts=true→Tm.gM g ts=true→(Tm.walks (kq g) ts x).2=(x.2 || !Tm.jq g ts)
 | [],x,_,_=>by simp [Tm.walks,Tm.jq]
 | t :: ts,x,hg,hk=>by
  simp only [Tm.fT,Tm.gM,aD] at hg hk
  simp only [Tm.walks,Tm.jq]
  rw [OJ g ts _ hg.2 hk.2,PI g t _ _ hg.1 hk.1]
  cases t.cA g<;>cases t.jo g<;>cases x.2<;>simp
end
end Go.Proofs
namespace Go.Proofs
open Go Go.cV
attribute [local go_sem] Nat.reduceAdd Nat.reduceSub Nat.reduceMul Nat.reduceLeDiff Nat.reduceEqDiff Nat.reduceBEq
theorem Ypo {ι:Type} (b0 b1 b2 b3 b4 b5 b6 b7 : ι→Option bE) (step : ι→Tm→Bool→ι) (c:ae) (hs:∀ x,bt 8 [b0 x,b1 x,b2 x,b3 x,b4 x,b5 x,b6 x,b7 x]) (hc:c.low 8)
  (hy:∀ x t top,aq Tryz.prog c [t.aN, .bool top] [b0 x,b1 x,b2 x,b3 x,b4 x,b5 x,b6 x,b7 x] (fun _ σ'=>σ'=[b0 (step x t top),b1 (step x t top),b2 (step x t top),b3 (step x t top),b4 (step x t top),b5 (step x t top),b6 (step x t top),b7 (step x t top)])) (t:Tm) :
  t.size<2 ^ 62→∀ top x,aq Tryz.prog (.fn 159 [] []) [t.aN, .bool top,c] [b0 x,b1 x,b2 x,b3 x,b4 x,b5 x,b6 x,b7 x]
   (fun r σ'=>r = .dy []∧σ'=[b0 (t.walk step top x),b1 (t.walk step top x),b2 (t.walk step top x),b3 (t.walk step top x),b4 (t.walk step top x),b5 (t.walk step top x),b6 (t.walk step top x),b7 (t.walk step top x)]):=by
 induction t using Tm.kM with
 | h h ts ih =>
 intro ft top x
 simp only [Tm.size] at ft
 have hlen:=qb ts
 have F6:=mP (m:=9) (by decide) hc
 refine aq.begin (rs:=[]) (m:=20) 1000 Tryz.func159 rfl rfl rfl rfl rfl ?_
 simp only [go_sem,dc,Tm.head,Tm.args,ah]
 rw [FK]
 refine aq.tail (σ:=[b0 x,b1 x,b2 x,b3 x,b4 x,b5 x,b6 x,b7 x]) (τ:=[some (.var [.int .i64 h, .ps 2 (ts.map Tm.aN)])]) hc (by simp [go_sem,dE]) (hs x) ?_
 refine (hy x (.mk h ts) top).mono ?_
 rintro r σ' rfl
 refine ⟨rfl,?_⟩
 refine aK.go 1000 ?_
 simp only [go_sem,ao]
 generalize yy:step x (.mk h ts) top=x1
 have hend:Tm.walk step (.mk h ts) top x=Tm.walks step ts x1:=by rw [← yy];rfl
 rw [hend]
 refine aK.c9 (ι:={i:Nat // i≤ts.length}) 1000 (fun i=>fD 23 [(2,c),(13, .ps 2 (ts.map Tm.aN)),(14, .int .i64 ts.length),(15, .int .i64 i.1)]) (fun i=>[b0 (Tm.walks step (ts.take i.1) x1),b1 (Tm.walks step (ts.take i.1) x1),b2 (Tm.walks step (ts.take i.1) x1),b3 (Tm.walks step (ts.take i.1) x1),b4 (Tm.walks step (ts.take i.1) x1),b5 (Tm.walks step (ts.take i.1) x1),b6 (Tm.walks step (ts.take i.1) x1),b7 (Tm.walks step (ts.take i.1) x1),some (.var [.int .i64 h, .ps 2 (ts.map Tm.aN)])]) (fun i=>ts.length - i.1) ⟨0,by omega⟩ ?_ (fun _=>bN 8 1) ?_
 ·have h9:=nA (m:=9) (by decide) (hs x1)
  simp only [wF,E2,and_true] at h9
  simp only [go_sem,F6,bP,wF,h9,List.take_zero,Tm.walks,xg,cC]
 ·rintro ⟨i,hi⟩
  by_cases bD:(i:Int)<ts.length
  ·have aZ:i<ts.length:=by omega
   have GQ:=A5 ts i aZ
   have GN:=QZ step ts i aZ x1
   simp only [go_sem,bD,ao,bV,nP aZ,fq,ah]
   rw [← dc]
   (repeat ((with_reducible refine And.intro ?_ ?_); ·omega))
   refine aq.tail (σ:=[b0 (Tm.walks step (ts.take i) x1),b1 (Tm.walks step (ts.take i) x1),b2 (Tm.walks step (ts.take i) x1),b3 (Tm.walks step (ts.take i) x1),b4 (Tm.walks step (ts.take i) x1),b5 (Tm.walks step (ts.take i) x1),b6 (Tm.walks step (ts.take i) x1),b7 (Tm.walks step (ts.take i) x1)]) (τ:=[some (.var [.int .i64 h, .ps 2 (ts.map Tm.aN)]),some (.var [.int .i64 ts[i].head, .ps 2 (ts[i].args.map Tm.aN)])]) ⟨trivial,trivial⟩ (by simp [go_sem,dE,hc]) (hs _) ?_
   refine (ih i aZ (by omega) false _).mono ?_
   rintro r' iO ⟨rfl,rfl⟩
   refine ⟨rfl,?_⟩
   rw [← GN]
   refine aK.go 1000 ?_
   simp only [go_sem]
   refine ⟨⟨i+1,aZ⟩,?_,by simp only;omega⟩
   have h9:=nA (m:=9) (by decide) (hs (Tm.walks step (ts.take (i+1)) x1))
   simp only [wF,E2,and_true] at h9
   simp only [go_sem,F6,bP,wF,h9,xg]
   rw [ep (by omega)];rfl
  ·have dR:i=ts.length:=by omega
   subst dR
   simp only [go_sem,bD,da]
   refine aK.go 1000 ?_
   simp only [go_sem]
   rw [fL]
   exact ⟨[b0 (Tm.walks step ts x1),b1 (Tm.walks step ts x1),b2 (Tm.walks step ts x1),b3 (Tm.walks step ts x1),b4 (Tm.walks step ts x1),b5 (Tm.walks step ts x1),b6 (Tm.walks step ts x1),b7 (Tm.walks step ts x1)],by simp [go_sem],ah _,hs _,trivial,rfl,rfl⟩
theorem Yls (g:List Sy) (b1:Option bE) (qJ:ji 8 b1) (x:Bool×Bool) (t:Tm) (top:Bool):aq Tryz.prog (.fn 160 [] [.ptr 0 0, .ptr 2 0, .ptr 3 0]) [t.aN, .bool top] [some (.var [.ps 4 (syms g)]),b1,some (.var [.bool x.1]),some (.var [.bool x.2]),none,none,none,none]
  (fun _ σ'=>σ'=[some (.var [.ps 4 (syms g)]),b1,some (.var [.bool (kq g x t top).1]),some (.var [.bool (kq g x t top).2]),none,none,none,none]):=by
 obtain ⟨un,mx⟩:=x
 have jY:∀ u m,bt 8 [some (.var [.ps 4 (syms g)]),b1,some (.var [.bool u]),some (.var [.bool m]),none,none,none,none]:=fun u m=>⟨⟨dF g,trivial⟩,qJ,⟨trivial,trivial⟩,⟨trivial,trivial⟩,trivial,trivial,trivial,trivial,trivial⟩
 refine aq.begin (rs:=[]) (m:=35) 1000 Tryz.func160 rfl rfl rfl rfl rfl ?_
 by_cases c1:t.head<0
 ·have qZ:kq g (un,mx) t top=(un,mx):=if_pos c1
  simp only [go_sem,dc,c1]
  rw [fL]
  exact ⟨[some (.var [.ps 4 (syms g)]),b1,some (.var [.bool un]),some (.var [.bool mx]),none,none,none,none],by simp [go_sem],ah _,jY _ _,trivial,by rw [qZ]⟩
 simp only [go_sem,dc,c1]
 refine aK.draw [] 9 9 mixed rfl rfl (ah _) ?_
 by_cases c2:(g.length:Int)≤t.head
 ·have qZ:kq g (un,mx) t top=(true,mx):=by rw [kq,if_neg c1,if_pos (.inl c2)]
  simp only [go_sem,dA,rB,c2]
  refine aK.go 1000 ?_
  simp only [go_sem]
  rw [fL]
  exact ⟨[some (.var [.ps 4 (syms g)]),b1,some (.var [.bool true]),some (.var [.bool mx]),none,none,none,none],by simp [go_sem],ah _,jY _ _,trivial,by rw [qZ]⟩
 have hi:t.head.toNat<g.length:=by omega
 have BM:lu g t.head=g[t.head.toNat]:=Fz hi
 by_cases c3:(t.args.length:Int)=g[t.head.toNat].arity
 ·simp only [go_sem,dA,rB,c2,ao,xi hi,xj,c3,ah]
  (repeat ((with_reducible refine And.intro ?_ ?_); ·omega))
  refine aK.go 1000 ?_
  cases ht:g[t.head.toNat].cA with
  | false =>
   have qZ:kq g (un,mx) t top=(un,mx):=by rw [kq,if_neg c1,if_neg (by rw [BM];simp only [c3,not_true_eq_false,or_false];exact c2),if_neg (by rw [BM,ht];simp)]
   simp only [go_sem,rB,xi hi,xj,ht]
   (repeat ((with_reducible refine And.intro ?_ ?_); ·omega))
   rw [fL]
   exact ⟨[some (.var [.ps 4 (syms g)]),b1,some (.var [.bool un]),some (.var [.bool mx]),none,none,none,none],by simp [go_sem],ah _,jY _ _,trivial,by rw [qZ]⟩
  | true =>
   cases top with
   | false =>
    have qZ:kq g (un,mx) t false=(un,true):=by rw [kq,if_neg c1,if_neg (by rw [BM];simp only [c3,not_true_eq_false,or_false];exact c2),if_pos (by rw [BM,ht];simp)]
    simp only [go_sem,rB,xi hi,xj,ht]
    (repeat ((with_reducible refine And.intro ?_ ?_); ·omega))
    rw [fL]
    exact ⟨[some (.var [.ps 4 (syms g)]),b1,some (.var [.bool un]),some (.var [.bool true]),none,none,none,none],by simp [go_sem],ah _,jY _ _,trivial,by rw [qZ]⟩
   | true =>
    have qZ:kq g (un,mx) t true=(un,mx):=by rw [kq,if_neg c1,if_neg (by rw [BM];simp only [c3,not_true_eq_false,or_false];exact c2),if_neg (by simp)]
    simp only [go_sem,rB,xi hi,xj,ht]
    (repeat ((with_reducible refine And.intro ?_ ?_); ·omega))
    rw [fL]
    exact ⟨[some (.var [.ps 4 (syms g)]),b1,some (.var [.bool un]),some (.var [.bool mx]),none,none,none,none],by simp [go_sem],ah _,jY _ _,trivial,by rw [qZ]⟩
 ·have qZ:kq g (un,mx) t top=(true,mx):=by rw [kq,if_neg c1,if_pos (.inr (by rw [BM];exact c3))]
  simp only [go_sem,dA,rB,c2,ao,xi hi,xj,c3,ah]
  (repeat ((with_reducible refine And.intro ?_ ?_); ·omega))
  refine aK.go 1000 ?_
  simp only [go_sem]
  rw [fL]
  exact ⟨[some (.var [.ps 4 (syms g)]),b1,some (.var [.bool true]),some (.var [.bool mx]),none,none,none,none],by simp [go_sem],ah _,jY _ _,trivial,by rw [qZ]⟩
theorem KN (g:List Sy) (t:Tm) (ft:t.size<999999999):aJ Tryz.prog 135 [.ps 4 (syms g),t.aN] (.int .i64 (t.term g)):=by
 refine aJ.begin (rs:=[.tmp 4]) (m:=24) 1000 Tryz.func135 rfl rfl rfl (by decide) trivial ?_
 simp only [go_sem,dc,ah]
 refine aq.bU [] (QL g) (cH _ _ _) (by simp [go_sem,dF]) ?_;simp only [bL,bZ,bX,if_true];refine aK.go 1000 ?_
 cases c1:fV g with
 | false=>simp only [go_sem,Tm.term,c1,Int.reduceEq]
 | true =>
 simp only [go_sem,ah]
 rw [← dc]
 refine aq.bU [] (Ch t ft) (cH _ _ _) (by simp [go_sem,dE]) ?_;simp only [bL,bZ,bX,if_true];refine aK.go 1000 ?_
 by_cases c2:t.check=0
 case neg=>simp only [go_sem,c2,Tm.term,c1]
 simp only [go_sem,c2,ah]
 rw [← dc]
 have vZ:=(WO c2).1
 have qJ:ji 8 (some (.var [.int .i64 t.head, .ps 2 (t.args.map Tm.aN)])):=⟨trivial,bP _,trivial⟩
 refine aq.pad 4 ?_
 refine (Ypo (ι:=Bool×Bool) (fun _=>some (.var [.ps 4 (syms g)])) (fun _=>some (.var [.int .i64 t.head, .ps 2 (t.args.map Tm.aN)])) (fun x=>some (.var [.bool x.1])) (fun x=>some (.var [.bool x.2])) (fun _=>none) (fun _=>none) (fun _=>none) (fun _=>none)
  (kq g) (.fn 160 [] [.ptr 0 0, .ptr 2 0, .ptr 3 0]) (fun x=>⟨⟨dF g,trivial⟩,qJ,⟨trivial,trivial⟩,⟨trivial,trivial⟩,trivial,trivial,trivial,trivial,trivial⟩) (by simp [go_sem]) (fun x t top=>Yls g _ qJ x t top) t (by omega) true (false,false)).mono ?_
 rintro r σ' ⟨rfl,rfl⟩
 rw [fL]
 refine ⟨[some (.var [.ps 4 (syms g)]),some (.var [.int .i64 t.head, .ps 2 (t.args.map Tm.aN)]),some (.var [.bool (t.walk (kq g) true (false,false)).1]),some (.var [.bool (t.walk (kq g) true (false,false)).2])],by simp [go_sem],ah _,⟨⟨dF g,trivial⟩,⟨trivial,bP _,trivial⟩,⟨trivial,trivial⟩,⟨trivial,trivial⟩,trivial⟩,trivial,?_⟩
 rw [Pr g t true _ vZ]
 refine aK.go 1000 ?_
 cases c3:t.known g with
 | false =>
  simp only [go_sem]
  simp [Tm.term,c1,c2,c3]
 | true =>
  rw [PI g t true _ vZ c3]
  cases c4:t.jo g with
  | false =>
   simp only [go_sem]
   simp [Tm.term,c1,c2,c3,c4]
  | true =>
   simp only [go_sem]
   simp [Tm.term,c1,c2,c3,c4]
def rq (g:List Sy) (l:Li):ae:=.agg [.ps 4 (syms g), .bool l.neg, .int .i64 l.l.head, .ps 2 (l.l.args.map Tm.aN), .int .i64 l.r.head, .ps 2 (l.r.args.map Tm.aN)]
theorem xh (g:List Sy) (l:Li):rq g l = .agg [.ps 4 (syms g), .bool l.neg, .int .i64 l.l.head, .ps 2 (l.l.args.map Tm.aN), .int .i64 l.r.head, .ps 2 (l.r.args.map Tm.aN)]:=rfl
theorem D1 {n:Nat} (g:List Sy) (l:Li):(rq g l).low n:=⟨dF _,trivial,trivial,bP _,trivial,bP _,trivial⟩
theorem Yol (g:List Sy) (l:Li) (ft:l.l.size<999999999):aJ Tryz.prog 98 [rq g l] (.int .i64 (l.l.term g)):=by
 refine aJ.begin (rs:=[.tmp 2]) (m:=8) 1000 Tryz.func98 rfl rfl rfl (by decide) trivial ?_
 simp only [go_sem,xh,ah]
 rw [← dc]
 refine aq.bU [] (KN g l.l ft) (cH _ _ _) (by simp [go_sem,dF,dE]) ?_;simp only [bL,bZ,bX,if_true];refine aK.go 1000 ?_
 simp only [go_sem]
theorem YM (g:List Sy) (l:Li) (ft:l.r.size<999999999):aJ Tryz.prog 99 [rq g l] (.int .i64 (l.r.term g)):=by
 refine aJ.begin (rs:=[.tmp 2]) (m:=8) 1000 Tryz.func99 rfl rfl rfl (by decide) trivial ?_
 simp only [go_sem,xh,ah]
 rw [← dc]
 refine aq.bU [] (KN g l.r ft) (cH _ _ _) (by simp [go_sem,dF,dE]) ?_;simp only [bL,bZ,bX,if_true];refine aK.go 1000 ?_
 simp only [go_sem]
theorem Sk (g:List Sy) (l:Li) (t:Tm) (h:t.head<g.length):aJ Tryz.prog 136 [rq g l,t.aN] (.bool (t.cA g)):=by
 refine aJ.begin (rs:=[.tmp 4]) (m:=15) 1000 Tryz.func136 rfl rfl rfl (by decide) trivial ?_
 by_cases c1 : 0≤t.head
 ·have hi:t.head.toNat<g.length:=by omega
  have BM:lu g t.head=g[t.head.toNat]:=Fz hi
  simp only [go_sem,xh,dc,c1,rB,xi hi,xj]
  refine ⟨by omega,?_⟩
  simp [Tm.cA,c1,h,BM]
 ·simp only [go_sem,xh,dc,c1,Tm.cA]
def Li.sorts (g:List Sy) (l:Li):Int:=if (l.l.cA g&&decide (l.r.head≠0))||(!l.l.cA g&&l.r.cA g) then 10 else 0
theorem Yl1 (g:List Sy) (l:Li) (h1:l.l.head<g.length) (h2:l.r.head<g.length):aJ Tryz.prog 100 [rq g l] (.int .i64 (l.sorts g)):=by
 refine aJ.begin (rs:=[.tmp 2]) (m:=27) 1000 Tryz.func100 rfl rfl rfl (by decide) trivial ?_
 simp only [go_sem,xh,ah]
 rw [← dc,← xh]
 refine aq.bU [] (Sk g l l.l h1) (cH _ _ _) (by simp [go_sem,D1,dE]) ?_;simp only [bL,bZ,bX,if_true];refine aK.go 1000 ?_
 cases c1:l.l.cA g with
 | true =>
  by_cases c2:l.r.head=0
  ·simp only [go_sem,c2]
   simp [Li.sorts,c1,c2]
  ·simp only [go_sem,c2]
   simp [Li.sorts,c1,c2]
 | false =>
  simp only [go_sem,ah]
  rw [← dc,← xh]
  refine aq.bU [] (Sk g l l.r h2) (cH _ _ _) (by simp [go_sem,D1,dE]) ?_;simp only [bL,bZ,bX,if_true];refine aK.go 1000 ?_
  cases c2:l.r.cA g <;>
  ·simp only [go_sem]
   simp [Li.sorts,c1,c2]
theorem Hj (g:List Sy) (l:Li):l.check g=if l.l.term g≠0 then l.l.term g else if l.r.term g≠0 then l.r.term g else l.sorts g:=rfl
theorem OM {g:List Sy} {t:Tm} (h:t.known g=true) (hg : 1≤g.length):t.head<g.length:=by
 obtain ⟨hd,ts⟩:=t
 simp only [Tm.head]
 by_cases c:hd<0
 ·omega
 ·simp only [Tm.known,decide_eq_false c,dq,aD,bT,decide_eq_false_iff_not] at h
  omega
theorem Ym4 {g:List Sy} {t:Tm} (h:t.term g=0):fV g=true:=by
 unfold Tm.term at h
 split at h
 ·omega
 ·rename_i h2;simpa using h2
theorem Yl5 (g:List Sy) (l:Li) (hl:l.l.size<999999999) (hr:l.r.size<999999999):aJ Tryz.prog 97 [rq g l, .ps 1 [.fn 98 [] [], .fn 99 [] [], .fn 100 [] []]] (.int .i64 (l.check g)):=by
 refine aJ.begin (rs:=[.tmp 4]) (m:=19) 1000 Tryz.func97 rfl rfl rfl (by decide) trivial ?_
 simp only [go_sem,xh]
 refine aK.c9 (ι:={i:Nat // i≤3∧(1≤i→l.l.term g=0)∧(2≤i→l.r.term g=0)∧(3≤i→l.sorts g=0)}) 1000 (fun i=>fD 21 [(2, .ptr 0 0),(8, .ps 1 [.fn 98 [] [], .fn 99 [] [], .fn 100 [] []]),(9, .int .i64 ((3:Nat):Int)),(10, .int .i64 i.1)])
  (fun _=>[some (.var [.ps 4 (syms g), .bool l.neg, .int .i64 l.l.head, .ps 2 (l.l.args.map Tm.aN), .int .i64 l.r.head, .ps 2 (l.r.args.map Tm.aN)])]) (fun i=>3 - i.1) ⟨0,by omega,by omega,by omega,by omega⟩ ?_ (fun _=>av _) ?_
 ·simp only [go_sem,dF,bP,cC,cn]
 ·rintro ⟨i,hi,h1,h2,h3⟩
  have n0:((0:Nat):Int)=0:=rfl
  have n1:((1:Nat):Int)=1:=rfl
  have n2:((2:Nat):Int)=2:=rfl
  have n3:((3:Nat):Int)=3:=rfl
  rcases (by omega:i=0∨i=1∨i=2∨i=3) with rfl | rfl | rfl | rfl
  ·simp only [go_sem,n0,n1,n2,n3,Int.reduceLT,Int.reduceLE,au,aR,Int.reduceToNat,bg,bB,ah]
   rw [← xh]
   refine aq.bU [] (Yol g l hl) (cH _ _ _) (by simp [go_sem,D1]) ?_;simp only [bL,bZ,bX,if_true];refine aK.go 1000 ?_
   by_cases c:l.l.term g=0
   ·simp only [go_sem,c]
    refine ⟨⟨1,by omega,fun _=>c,by omega,by omega⟩,?_,by simp only;omega⟩
    simp only [go_sem,dF,bP,cn]
    rfl
   ·simp only [go_sem,c]
    refine aK.go 1000 ?_
    simp only [go_sem]
    rw [Hj,if_pos c]
  ·simp only [go_sem,n0,n1,n2,n3,Int.reduceLT,Int.reduceLE,au,aR,Int.reduceToNat,bg,bB,ah]
   rw [← xh]
   refine aq.bU [] (YM g l hr) (cH _ _ _) (by simp [go_sem,D1]) ?_;simp only [bL,bZ,bX,if_true];refine aK.go 1000 ?_
   by_cases c:l.r.term g=0
   ·simp only [go_sem,c]
    refine ⟨⟨2,by omega,fun _=>h1 (by omega),fun _=>c,by omega⟩,?_,by simp only;omega⟩
    simp only [go_sem,dF,bP,cn]
    rfl
   ·simp only [go_sem,c]
    refine aK.go 1000 ?_
    simp only [go_sem]
    rw [Hj,if_neg (by simp [h1 (by omega)]),if_pos c]
  ·have t1:=h1 (by omega)
   have t2:=h2 (by omega)
   have hg:=(Tc (Ym4 t1)).1
   simp only [go_sem,n0,n1,n2,n3,Int.reduceLT,Int.reduceLE,au,aR,Int.reduceToNat,bg,bB,ah]
   rw [← xh]
   refine aq.bU [] (Yl1 g l (OM (ph t1).2.1 hg) (OM (ph t2).2.1 hg)) (cH _ _ _) (by simp [go_sem,D1]) ?_;simp only [bL,bZ,bX,if_true];refine aK.go 1000 ?_
   by_cases c:l.sorts g=0
   ·simp only [go_sem,c]
    refine ⟨⟨3,by omega,fun _=>t1,fun _=>t2,fun _=>c⟩,?_,by simp only;omega⟩
    simp only [go_sem,dF,bP,cn]
    rfl
   ·simp only [go_sem,c]
    refine aK.go 1000 ?_
    simp only [go_sem]
    rw [Hj,if_neg (by simp [t1]),if_neg (by simp [t2])]
  ·simp only [go_sem,n0,n1,n2,n3,Int.reduceLT]
   refine aK.go 1000 ?_
   simp only [go_sem]
   rw [Hj,if_neg (by simp [h1 (by omega)]),if_neg (by simp [h2 (by omega)]),h3 (by omega)]
theorem KC (g:List Sy) (l:Li) (hl:l.l.size<999999999) (hr:l.r.size<999999999):aJ Tryz.prog 62 [.ps 4 (syms g),l.aN] (.int .i64 (l.check g)):=by
 refine aJ.begin (rs:=[.tmp 4]) (m:=8) 1000 Tryz.func62 rfl rfl rfl (by decide) trivial ?_
 simp only [go_sem,Li.aN,Li.cs]
 refine ⟨rfl,rfl,rfl,by decide,?_⟩
 rw [← xh]
 refine aq.bU [1] (Yl5 g l hl hr) ?_ (by simp [go_sem,D1]) ?_
 ·simp only [go_sem,qB,qC]
 simp only [bL,bZ,bX,if_true]
 refine aK.go 1000 ?_
 simp only [go_sem]
theorem E5 (g:List Sy) (c:List Li) (hs:∀ (i:Nat) (h:i<c.length),c[i].l.size<999999999∧c[i].r.size<999999999):aJ Tryz.prog 28 [.ps 4 (syms g), .ps 5 (lits c)] (.int .i64 (a_ g c)):=by
 refine aJ.begin (rs:=[.tmp 4]) (m:=28) 1000 Tryz.func28 rfl rfl rfl (by decide) trivial ?_
 simp only [go_sem]
 refine aq.bU [] (QL g) (cH _ _ _) (by simp [go_sem,dF]) ?_;simp only [bL,bZ,bX,if_true];refine aK.go 1000 ?_
 cases c1:fV g with
 | false =>
  simp only [go_sem,Int.reduceEq]
  simp [a_,c1]
 | true =>
 by_cases c2 : 32<(c.length:Int)
 ·simp only [go_sem,fO,c2]
  simp [a_,c1,c2]
 simp only [go_sem,fO,c2]
 have I7:a_ g c=dC g c:=by simp [a_,c1,c2]
 rw [I7]
 refine aK.c9 (ι:={i:Nat // i≤c.length∧dC g (c.drop i)=dC g c}) 1000 (fun i=>fD 30 [(0, .ps 4 (syms g)),(17, .ps 5 (lits c)),(18, .int .i64 c.length),(19, .int .i64 i.1)]) (fun _=>[]) (fun i=>c.length - i.1) ⟨0,by simp⟩ ?_ (fun _=>av _) ?_
 ·simp only [go_sem,dF,ct,fO,cC]
 ·rintro ⟨i,hi,aO⟩
  by_cases bD:(i:Int)<c.length
  ·have aZ:i<c.length:=by omega
   rw [Zme g c i aZ] at aO
   simp only [go_sem,fO,bD,bV,tG aZ,ku,ah]
   refine ⟨by omega,?_⟩
   have ft:=hs i aZ
   refine aq.bU [] (KC g c[i] ft.1 ft.2) (by simp only [Li.aN,Li.cs];exact cH _ _ _) (by simp [go_sem,dF,mQ]) ?_
   simp only [bL,bZ,bX,if_true]
   refine aK.go 1000 ?_
   by_cases c3:c[i].check g=0
   ·simp only [go_sem,c3]
    rw [if_neg (by simp [c3])] at aO
    refine ⟨⟨i+1,aZ,aO⟩,?_,by simp only;omega⟩
    simp only [go_sem,dF,ct]
    rw [ep (by omega)];rfl
   ·simp only [go_sem,c3]
    rw [if_pos c3] at aO
    refine aK.go 1000 ?_
    simp only [go_sem,aO]
  ·simp only [go_sem,fO,bD]
   refine aK.go 1000 ?_
   simp only [go_sem]
   have:i=c.length:=by omega
   subst this
   rw [← aO,aV,dC]
theorem Yb (c:List Li) (hc:c.length<1000000):aJ Tryz.prog 74 [.ps 5 (lits c)] (.ps 2 ((cT c).map Tm.aN)):=by
 refine aJ.begin (rs:=[.tmp 2]) (m:=20) 1000 Tryz.func74 rfl rfl rfl (by decide) (bP _) ?_
 simp only [go_sem,fO]
 refine aK.gS (ι:={i:Nat // i≤c.length}) 1000 (fun i=>fD 21 [(3,ja 0 2 ((cT (c.take i.1)).map Tm.aN)),(6, .ps 5 (lits c)),(7, .int .i64 c.length),(8, .int .i64 i.1)]) (fun i=>[eJ ((cT (c.take i.1)).map Tm.aN)]) (fun i=>c.length - i.1) ⟨0,by omega⟩ [] ?_ (fun _=>by simp) ?_
 ·refine iF rfl ?_
  simp only [go_sem,cT,oG,tK,td,ct,cz,cC]
 ·rintro ⟨i,hi⟩
  have VA:=E7 (c.take i)
  have oR:(c.take i).length≤c.length:=by rw [cW];omega
  have iu:=fun h=>Rw c i h
  generalize hq:cT (c.take i)=q at *
  by_cases bD:(i:Int)<c.length
  ·have aZ:i<c.length:=by omega
   simp only [go_sem,fO,bD,hq,bV,tG aZ,ku,ah,Lk,eL,aP,dO,forall_eq_or_imp,forall_eq,ek,ao]
   refine ⟨by omega,by omega,⟨i+1,aZ⟩,[(0,3),(3,0)],iF rfl ?_,by simp only;omega⟩
   simp only [iu aZ]
   rw [ep (by omega)]
   have e1:(q++[c[i].l,c[i].r]).map Tm.aN=q.map Tm.aN++[.agg [.int .i64 c[i].l.head, .ps 2 (c[i].l.args.map Tm.aN)], .agg [.int .i64 c[i].r.head, .ps 2 (c[i].r.args.map Tm.aN)]]:=by
    rw [cN,aI,aI,aS,dc c[i].l,dc c[i].r]
   have lw:bx 0 ((q++[c[i].l,c[i].r]).map Tm.aN):=bP _
   rw [e1] at lw ⊢
   rw [u_ (by simp),u9 (by simp)]
   simp only [go_sem,ct,cz,cz lw,ao,ie (av 1) lw,lX,lY,cn]
  ·simp only [go_sem,bD]
   refine aK.go 1000 ?_
   have:i=c.length:=by omega
   subst this
   rw [da] at hq
   simp only [go_sem,hq,rN]
end Go.Proofs
namespace Go.Proofs
open Go Go.cV
attribute [local go_sem] Nat.reduceAdd Nat.reduceSub Nat.reduceMul Nat.reduceLeDiff Nat.reduceEqDiff Nat.reduceBEq Nat.reduceLT Nat.le_refl Int.natCast_zero Nat.sub_zero List.length_map Int.toNat_natCast Int.natCast_one Int.reduceEq Int.reduceLT Int.reduceLE Int.reduceNe Int.sub_zero Int.zero_add Int.toNat_one
def jR (p:Int→Bool) (vs:List Int) (seen:List Nat):Bool:=seen.any fun i=>p (vs.getD i 0)
theorem O1 (p q:Nat→Bool) (h:∀ x,p x=true→q x=true):∀ l:List Nat,(l.filter p).length≤(l.filter q).length
 | []=>ah _
 | x :: l=>by
  have:=O1 p q h l
  simp only [List.filter_cons]
  cases hp:p x with
  | true=>simp [h x hp];omega
  | false=>cases hq:q x<;>simp<;>omega
theorem Pj (p q:Nat→Bool) (h:∀ x,p x=true→q x=true):∀ (l:List Nat) (i:Nat),i∈l→q i=true→p i=false→(l.filter p).length<(l.filter q).length
 | x :: l,i,hi,h1,h2=>by
  have hle:=O1 p q h l
  simp only [List.filter_cons]
  rcases aP.1 hi with rfl | hi
  ·simp [h1,h2];omega
  ·have:=Pj p q h l i hi h1 h2
   cases hp:p x with
   | true=>simp [h x hp];omega
   | false=>cases hq:q x<;>simp<;>omega
def s0 (n:Nat) (seen:List Nat):Nat:=((List.range n).filter fun j=>!seen.contains j).length
theorem Ss {n j:Nat} {seen:List Nat} (hj:j<n) (hn:j ∉ seen):s0 n (seen++[j])<s0 n seen :=
 Pj _ _ (fun x hx=>by
  simp only [bT,← dj,p9] at hx ⊢
  exact fun h=>hx (aX.2 (.inl h))) _ j (cw.2 hj) (by simpa using hn) (by simp)
theorem Ykg (w:Int) (ks:List ae) (vs:List Int) (h:ks.length=vs.length) (hk:bx 0 ks):aJ Tryz.prog 228 [.pp [.int .i64 w, .pm ks (ints vs)]] (.dy [.bool (vs.any fun n=>decide (0<n)), .bool (vs.any fun n=>decide (n<0))]):=by
 refine aJ.begin (rs:=[.tmp 2, .tmp 3]) (m:=28) 1000 Tryz.func228 rfl rfl rfl (by decide) ⟨trivial,trivial,trivial⟩ ?_
 simp only [go_sem]
 refine aK.c9 (ι:={seen:List Nat // ∀ i∈seen,i<ks.length}) 1000 (fun x=>fD 29 [(2, .bool false),(3, .bool false),(4, .bool (jR (fun n=>decide (0<n)) vs x.1)),(5, .bool (jR (fun n=>decide (n<0)) vs x.1)),(12, .it 0)])
  (fun x=>[some (.kZ ks (ints vs) x.1)]) (fun x=>s0 ks.length x.1) ⟨[],fun i hi=>by cases hi⟩ ?_ (fun _=>av _) ?_
 ·simp only [go_sem,jR,mF]
  exact ⟨ie (av 1) hk,dp _⟩
 ·rintro ⟨seen,hs⟩
  simp only [go_sem]
  refine ⟨0,ks,ints vs,seen,rfl,rfl,fun j hj hn=>?_,fun eX=>?_⟩
  ·have Vx:j<vs.length:=by omega
   have GM:∀ i∈seen++[j],i<ks.length:=fun i hi=>by
    rcases aX.1 hi with hi | hi
    ·exact hs i hi
    ·rw [aQ.1 hi];exact hj
   have sJ:∀ p:Int→Bool,jR p vs (seen++[j])=(jR p vs seen||p (vs.getD j 0)):=fun p=>by simp [jR]
   have hg:(ints vs).getD j .undef = .int .i64 (vs.getD j 0):=by
    rw [wH Vx];simp [List.getD,aA Vx]
   generalize vs.getD j 0=v at sJ hg
   have h1:=sJ fun n=>decide (0<n)
   have h2:=sJ fun n=>decide (n<0)
   generalize ha:jR (fun n=>decide (0<n)) vs seen=a at h1
   generalize hb:jR (fun n=>decide (n<0)) vs seen=b at h2
   cases a<;>cases b<;>(
    refine aK.go 1000 ?_
    simp only [go_sem,hg,ha,hb]
    refine ⟨⟨seen++[j],GM⟩,?_,Ss hj hn⟩
    simp only [go_sem,h1,h2,dp,hk,ie (av 1) hk]
    first | done | exact ⟨fx _,by decide⟩ | exact fx _ | decide | trace_state)
  ·have fZ:∀ p:Int→Bool,jR p vs seen=vs.any p:=fun p=>by
    rw [fp,jR,er,er]
    constructor
    ·rintro ⟨i,hi,hp⟩
     have Vt:i<vs.length:=by have:=hs i hi;omega
     exact ⟨vs[i],aF Vt,by simpa [List.getD,aA Vt] using hp⟩
    ·rintro ⟨x,hx,hp⟩
     obtain ⟨i,hi,rfl⟩:=lJ.1 hx
     exact ⟨i,eX i (by omega),by simpa [List.getD,aA hi] using hp⟩
   refine aK.go 1000 ?_
   simp only [go_sem]
   refine aK.go 1000 ?_
   simp only [go_sem,fZ]
def mE (n:Int) (more less:Bool):Int:=if 0<n∧less=false then 1 else if n<0∧more=false then -1 else 2
theorem Ys2 (w n:Int) (ks:List ae) (vs:List Int) (h:ks.length=vs.length) (hk:bx 0 ks):aJ Tryz.prog 213 [.pp [.int .i64 w, .pm ks (ints vs)], .int .i64 n] (.int .i64 (mE n (vs.any fun n=>decide (0<n)) (vs.any fun n=>decide (n<0)))):=by
 refine aJ.begin (rs:=[.tmp 4]) (m:=24) 1000 Tryz.func213 rfl rfl rfl (by decide) trivial ?_
 have hS:=Ykg w ks vs h hk
 generalize (vs.any fun n=>decide (0<n))=a at *
 generalize (vs.any fun n=>decide (n<0))=b at *
 simp only [go_sem]
 refine aq.bU [] hS (cH _ _ _) ⟨⟨trivial,⟨hk,dp _⟩,trivial⟩,trivial⟩ ?_
 rw [jd]
 simp only [ite_self]
 refine aK.go 1000 ?_
 by_cases c1 : 0<n
 ·have c2:¬ n<0:=by omega
  cases b
  ·simp only [go_sem,c1,c2]
   simp [mE,c1]
  ·simp only [go_sem,c1,c2]
   simp [mE,c1,c2]
 ·by_cases c2:n<0
  ·cases a
   ·simp only [go_sem,c1,c2]
    simp [mE,c1,c2]
   ·simp only [go_sem,c1,c2]
    simp [mE,c1,c2]
  ·simp only [go_sem,c1,c2]
   simp [mE,c1,c2]
end Go.Proofs
namespace Go.cV
open Go
section
variable {P:Program} {F:Frame→List Frame→Sem Next→World→Value→World→Prop} {σ:ai}
def yZ (K:ae→ai→Prop) (n:Nat) (r0:ae) (σ':ai):Prop :=
 ∃ r ly,pT (fun b=>decide (n≤b)) σ' r r0∧ig ly σ'∧ly.length=n∧bt n ly∧r.low 0∧K r ly
theorem bS.tree {g:FuncId} {args:List ae} {K:ae→ai→Prop} (h:gP P F g args σ (yZ K σ.length)):gP P F g args σ K:=by
 intro X base β w vs h1 h2 h3 fr cs h4
 obtain ⟨r0,σ',β',v,w',⟨r,ly,k1,k2,k3,k4,k5,k6⟩,g1,g2,g3,g4,g5⟩:=h X base β w vs h1 h2 h3 fr cs h4
 have hf:=zL (fun b=>decide (σ.length≤b)) σ'
 have eH:∀ b,b < σ.length→(fA (fun b=>decide (σ.length≤b)) 0 σ')[b]? = σ'[b]?:=fun b hb=>by
  rw [Ea,bm]
  have:decide (σ.length≤b)=false:=by simp;omega
  rw [this]
  cases σ'[b]?<;>rfl
 generalize yB:fA (fun b=>decide (σ.length≤b)) 0 σ' = kU at hf eH
 have BJ:=g1.oq hf.oq
 have qq:=(FB BJ hf r k1).1 v (g2.mono (A_ hf.oq) (fun _ _ h=>h))
 have hle:xx ly kU:=fun b x hb=>by
  have mc:b < σ.length:=by have:=(aH.1 hb).1;omega
  rw [eH b mc];exact u0 k2 b x hb
 have hs:=BJ.drop hle k3 (qA k4)
 have qY:=bR.drop qq hle k3 (mP (av _) k5)
 exact ⟨r,ly,_,v,w',k6,hs,qY,g3.drop (u0 k2) k3 (ah _),by omega,g5⟩
end
section
variable {P:Program} {lo:Ctx} {Q:cb→St→Prop} {ops:Array Oper}
end
section
variable {P:Program} {σ:ai}
end
section
variable {P:Program}
theorem Fv {B x:bE} {b:Nat}:([some B]:ai)[b]? = some (some x)↔b=0∧B=x:=by
 cases b with
 | zero=>simp
 | succ b=>simp
end
def dx (sz:Nat):ae:=if sz=1 then .undef else .agg (List.replicate sz .undef)
theorem Ys (sz:Nat):(dx sz).cells.length=sz:=by
 unfold dx;split
 ·rename_i h;rw [h];rfl
 ·simp [ae.cells]
theorem X7 (sz j:Nat):(dx sz).cells.getD j .undef = .undef:=by
 unfold dx;split
 ·cases j<;>simp [ae.cells]
 ·simp only [ae.cells,dm,c8];split<;>rfl
def rV:ae→ae
 | .oc b off n _ sz=>.os b off n sz
 | a=>a
section
variable {P:Program} {X:Nat→Nat→Prop} {base:Nat} {σ:ai} {β β':Env} {w w':World}
theorem Us {M:Nat→Nat→Prop} {v:Value} {a:ae} (h:bR w M β v a):bR w M β v (rV a):=by
 cases a with
 | oc b off n c sz=>cases h with
  | su a h=>exact .sv a h
  | oc h1 h2 h3=>exact .os h1 h2 h3
 | _=>exact h
theorem zP {b:Nat} {x y:bE} (hb:bF σ b=some x) (hm:∀ L o,y.mut L o↔x.mut L o) {g o:Nat}:iQ (b_ σ b y) β g o↔iQ σ β g o:=by
 have mY:=jU hb
 have bD:b < σ.length:=(aH.1 mY).1
 have h_:b_ σ b y = σ.set b (some y):=by unfold b_;rw [if_pos bD]
 constructor
 ·rintro ⟨c,z,L,m1,m2,m3,m4⟩
  rw [h_,dT] at m1
  split at m1
  ·rename_i e;subst e
   cases m1
   exact ⟨b,x,L,mY,m2,m3,(hm _ _).1 m4⟩
  ·exact ⟨c,z,L,m1,m2,m3,m4⟩
 ·rintro ⟨c,z,L,m1,m2,m3,m4⟩
  by_cases e:b=c
  ·subst e
   rw [mY] at m1
   cases m1
   exact ⟨b,y,L,by rw [h_,dT,if_pos rfl,if_pos bD],m2,m3,(hm _ _).2 m4⟩
  ·exact ⟨c,z,L,by rw [h_,dT,if_neg e];exact m1,m2,m3,m4⟩
theorem DX {b:Nat} {x y:bE} (hb:bF σ b=some x):(b_ σ b y).length = σ.length:=by
 have mY:=jU hb
 have bD:b < σ.length:=(aH.1 mY).1
 unfold b_;rw [if_pos bD,bh]
theorem cF.uD (hr:cF X base σ β w) {b:Nat} {x y:bE} (hb:bF σ b=some x) (hm:∀ L o,y.mut L o↔x.mut L o) (j8:∀ M L,β b=some L→fR w M β L x→fR w M β L y):cF X base (b_ σ b y) β w:=by
 have mY:=jU hb
 have bD:b < σ.length:=(aH.1 mY).1
 have h_:b_ σ b y = σ.set b (some y):=by unfold b_;rw [if_pos bD]
 have hM:MT X (b_ σ b y) β=MT X σ β:=funext fun g=>funext fun o=>propext (by unfold MT;rw [zP hb hm])
 have eH:∀ c z,(b_ σ b y)[c]? = some (some z)→(c=b∧z=y)∨σ[c]? = some (some z):=fun c z h=>by
  rw [h_,dT] at h
  split at h
  ·rename_i e;subst e;cases h;exact .inl ⟨rfl,rfl⟩
  ·exact .inr h
 have ux:∀ c z,(b_ σ b y)[c]? = some (some z)→∃ z',σ[c]? = some (some z'):=fun c z h=>by
  rcases eH c z h with ⟨rfl,rfl⟩ | h
  ·exact ⟨x,mY⟩
  ·exact ⟨z,h⟩
 refine ⟨fun c hc=>hr.nC c (by rw [DX hb] at hc;exact hc),fun c z hc=>?_,fun c c' z z' L L' h1 h2 h3 h4 h5=>?_,hr.size,hr.p6,hr.gl⟩
 ·rw [hM]
  rcases eH c z hc with ⟨rfl,rfl⟩ | h
  ·obtain ⟨L,q1,q2,q3,q4⟩:=hr.cf c x mY
   exact ⟨L,q1,q2,q3,j8 _ L q1 q4⟩
  ·exact hr.cf c z h
 ·obtain ⟨u,hu⟩:=ux c z h1
  obtain ⟨u',uV⟩:=ux c' z' h2
  exact hr.inj c c' u u' L L' hu uV h3 h4 h5
theorem Ext.uD {b lo:Nat} {x y:bE} (hb:bF σ b=some x) (hm:∀ L o,y.mut L o↔x.mut L o) {σ':ai} (h:Ext lo (b_ σ b y) β w σ' β' w'):Ext lo σ β w σ' β' w' :=
 ⟨h.os,h.tape,h.output,h.size,fun g o v hc hn=>h.cell g o v hc fun hx=>hn ((zP hb hm).1 hx),fun g hg hn=>h.block g hg fun o hx=>hn o ((zP hb hm).1 hx),fun g o hx=>(h.iC g o hx).imp (zP hb hm).1 fun h=>h,h.env⟩
theorem bS.sI {F:Frame→List Frame→Sem Next→World→Value→World→Prop} {g:FuncId} {args pre post:List ae} {K:ae→ai→Prop} {b off n sz fz:Nat} {es:List ae} (ha:args=pre++.os b off n sz :: post) (hb:bF σ b=some (.row es fz)) (hl:es.length=off+n) (hn : 0<n)
  (h:∀ c,n≤c→gP P F g (pre++.oc b off n c sz :: post) (b_ σ b (.row (es++List.replicate (c - n) (dx sz)) fz)) K):gP P F g args σ K:=by
 subst ha
 intro X base β w vs h1 h2 h3 fr cs h4
 have hk:=h3 pre.length (by simp)
 rw [ta,if_neg (iH _),ei,bg] at hk
 rcases hk.rj with ⟨rfl,_⟩ | ⟨L,cap,hL,ju,jf,yc,hv⟩
 ·exact absurd hn (iH _)
 have hm:∀ L o,(bE.row (es++List.replicate (cap - n) (dx sz)) fz).mut L o↔(bE.row es fz).mut L o:=fun _ _=>Iff.rfl
 have hM:MT X (b_ σ b (.row (es++List.replicate (cap - n) (dx sz)) fz)) β=MT X σ β:=funext fun g=>funext fun o=>propext (by unfold MT;rw [zP hb hm])
 have hr:=h1.uD hb hm (fun M L' hL' j8=>by
  obtain rfl:=aM (hL.symm.trans hL')
  obtain ⟨c,e,g1,g2,g3,g4,g5⟩:=j8
  refine ⟨c,e,g1,g2,by simp only [ay,bz];omega,fun i hi=>?_,fun i j hi hj=>?_⟩
  ·rw [ta]
   split
   ·exact g4 i (by assumption)
   ·simp only [ay,bz] at hi
    rw [show (List.replicate (cap - n) (dx sz)).getD (i - es.length) ae.undef=dx sz by simp [List.getD,show i - es.length<cap - n by omega],Ys,ju]
  ·rw [ta]
   split
   ·exact g5 i j (by assumption) hj
   ·simp only [ay,bz] at hi
    rw [show (List.replicate (cap - n) (dx sz)).getD (i - es.length) ae.undef=dx sz by simp [List.getD,show i - es.length<cap - n by omega],X7]
    exact .undef _)
 obtain ⟨r,σ',β',v,w',q,g1,g2,g3,g4,g5⟩:=h cap jf X base β w vs hr (by simpa using h2) (fun k hk=>by
  have eA:k<(pre++.os b off n sz :: post).length:=by simpa using hk
  have:=h3 k eA
  rw [hM]
  by_cases e:k=pre.length
  ·subst e
   rw [ta,if_neg (iH _),ei,bg] at this ⊢
   rw [hv,← ju];exact .oc hL jf yc
  ·rw [ta] at this ⊢
   split
   ·rename_i bD;rw [if_pos bD] at this;exact this
   ·rename_i bD;rw [if_neg bD] at this
    obtain ⟨m,hm⟩:∃ m,k - pre.length=m+1:=⟨k - pre.length - 1,by omega⟩
    rw [hm,bB] at this ⊢;exact this) fr cs h4
 exact ⟨r,σ',β',v,w',q,g1,g2,by rw [DX hb] at g3;exact g3.uD hb hm,by rw [DX hb] at g4;exact g4,g5⟩
def yT (K:ae→ai→Prop) (b:Nat) (r:ae) (σ':ai):Prop:=∃ es fz m,bF σ' b=some (.row es fz)∧K (rV r) (b_ σ' b (.row (es.take m) fz))
theorem bS.short {F:Frame→List Frame→Sem Next→World→Value→World→Prop} {g:FuncId} {args:List ae} {K:ae→ai→Prop} (b:Nat)
  (h:gP P F g args σ (yT K b)):gP P F g args σ K:=by
 intro X base β w vs h1 h2 h3 fr cs h4
 obtain ⟨r,σ',β',v,w',⟨es,fz,m,hb,q⟩,g1,g2,g3,g4,g5⟩:=h X base β w vs h1 h2 h3 fr cs h4
 have hm:∀ L o,(bE.row (es.take m) fz).mut L o↔(bE.row es fz).mut L o:=fun _ _=>Iff.rfl
 have hM:MT X (b_ σ' b (.row (es.take m) fz)) β'=MT X σ' β':=funext fun g=>funext fun o=>propext (by unfold MT;rw [zP hb hm])
 refine ⟨rV r,_,β',v,w',q,g1.uD hb hm (fun M L hL j8=>?_),by rw [hM];exact Us g2,⟨g3.os,g3.tape,g3.output,g3.size,g3.cell,g3.block,fun g o hx=>g3.iC g o ((zP hb hm).1 hx),g3.env⟩,by rw [DX hb];exact g4,g5⟩
 obtain ⟨c,e,k1,k2,k3,k4,k5⟩:=j8
 have hg:∀ i,i<(es.take m).length→(es.take m).getD i ae.undef=es.getD i .undef:=fun i hi=>by
  rw [cW] at hi
  simp [List.getD,show i<m by omega]
 have hl:(es.take m).length≤es.length:=by rw [cW];omega
 exact ⟨c,e,k1,k2,by omega,fun i hi=>by rw [hg i hi];exact k4 i (by omega),fun i j hi hj=>by rw [hg i hi];exact k5 i j (by omega) hj⟩
theorem bS.oe {g:FuncId} {fn:Func} {c:Code} {args:List ae} {K:ae→ai→Prop} {m:Nat} {rs:List ResultVar} (n:Nat) (hf:P.funcs[g]? = some fn) (hb:fn.body=some c) (hr:fn.results.toList=rs) (hm:fn.ntmps - args.length=m)
  (eE : (fn.name == "runtime.NumGoroutine") = false)
  (h:dW P ⟨σ.length,none⟩ (qm P rs (my K σ.length)) n [.code c] .normal (args++List.replicate m .undef) σ):bS P g args σ K:=bS.drop (bS.start n hf hb hr hm eE h)
theorem IJ {K:ae→ai→Prop} {b:Nat} {r:ae} {σ':ai}:yT K b r σ' = ∃ es fz m,bF σ' b=some (.row es fz)∧K (rV r) (b_ σ' b (.row (es.take m) fz)):=rfl
end
end Go.cV
