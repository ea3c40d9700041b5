/- Part 43 of my own framework and of the walks of functions: Tl, Ty, Ma, Pa, Pb, Pc, Mb, Pd, Pe, Mc, Pf, Pg, Md, Ph, Me, Pi, Mf, Pj, Pk, Pl, Mg, Pm, Pn, Po, Mh, Pp, Pq, Pr, Ps, Sa, AcsR, AcsS, AcsT, AcsU. -/
import Derived.Test.YtfjbdamcmiglgaaGreatOwn42
import Derived.Test.YtfjbdamcmiglgaaGreatProg
import Derived.KernelRfl
abbrev fq:=@Bool.eq_iff_iff
abbrev dn:=@Bool.false_or
abbrev iw:=@Bool.not_eq_false'
abbrev cA:=@Bool.or_eq_false_iff
abbrev qo:=@Int.le_refl
abbrev lL:=@Int.lt_irrefl
abbrev lZ:=@Int.natCast_add
abbrev l5:=@Int.natCast_one
abbrev cI:=@Int.natCast_zero
abbrev b_:=@Int.toNat_natCast
abbrev dX:=@List.any_cons
abbrev dM:=@List.any_eq_true
abbrev mG:=@List.any_nil
abbrev jT:=@List.cons.inj
abbrev ao:=@List.drop_eq_getElem_cons
abbrev aV:=@List.drop_length
abbrev oE:=@List.flatMap_nil
abbrev ix:=@List.getElem_cons_succ
abbrev eG:=@List.getElem_cons_zero
abbrev gX:=@List.length_eq_zero_iff
abbrev cL:=@List.map_append
abbrev lM:=@List.mem_iff_getElem
abbrev lO:=@List.mem_of_mem_take
abbrev gD:=@List.nodup_append
abbrev en:=@List.not_mem_nil
abbrev nN:=@List.reverse_cons
abbrev eH:=@List.take_add_one
abbrev dm:=@List.take_length
abbrev a_:=@List.take_of_length_le
abbrev eN:=@List.take_succ_cons
abbrev dI:=@Nat.le_succ
abbrev cm:=@Nat.zero_lt_one
abbrev ef:=@Nat.zero_lt_two
set_option linter.unusedVariables false
set_option linter.unusedSectionVars false
set_option linter.unusedSimpArgs false
namespace Go.Proofs
open Go Go.c8
@[go_sem] theorem amS:aC Tryz.prog 1=some ⟨1,false,8,[.az], .func⟩:=by kernel_rfl
@[go_sem] theorem ty1:bK Tryz.prog 1=some ⟨⟨1,false,8,[.az], .func⟩,[],none,none⟩:=by kernel_rfl
@[go_sem] theorem amT:aC Tryz.prog 2=some ⟨1,false,8,[.int .i64 0],(.int .i64)⟩:=by kernel_rfl
@[go_sem] theorem ty2:bK Tryz.prog 2=some ⟨⟨1,false,8,[.int .i64 0],(.int .i64)⟩,[],none,none⟩:=by kernel_rfl
@[go_sem] theorem amU:aC Tryz.prog 3=some ⟨1,false,8,[.int .i64 0],(.int .i64)⟩:=by kernel_rfl
@[go_sem] theorem ty3:bK Tryz.prog 3=some ⟨⟨1,false,8,[.int .i64 0],(.int .i64)⟩,[],none,none⟩:=by kernel_rfl
@[go_sem] theorem amV:aC Tryz.prog 4=some ⟨1,false,1,[.bool false], .bool⟩:=by kernel_rfl
@[go_sem] theorem ty4:bK Tryz.prog 4=some ⟨⟨1,false,1,[.bool false], .bool⟩,[],none,none⟩:=by kernel_rfl
@[go_sem] theorem amW:aC Tryz.prog 5=some ⟨1,false,1,[.int .u8 0],(.int .u8)⟩:=by kernel_rfl
@[go_sem] theorem ty5:bK Tryz.prog 5=some ⟨⟨1,false,1,[.int .u8 0],(.int .u8)⟩,[],none,none⟩:=by kernel_rfl
@[go_sem] theorem amX:aC Tryz.prog 6=some ⟨1,false,1,[.int .u8 0],(.int .u8)⟩:=by kernel_rfl
@[go_sem] theorem ty6:bK Tryz.prog 6=some ⟨⟨1,false,1,[.int .u8 0],(.int .u8)⟩,[],none,none⟩:=by kernel_rfl
@[go_sem] theorem amY:aC Tryz.prog 7=some ⟨4,true,24,[.int .i64 0, .int .i64 0, .bool false, .int .u8 0], .struct⟩:=by kernel_rfl
@[go_sem] theorem ty7:bK Tryz.prog 7=some ⟨⟨4,true,24,[.int .i64 0, .int .i64 0, .bool false, .int .u8 0], .struct⟩,[(0,some ⟨1,false,8,[.int .i64 0],(.int .i64)⟩),(1,some ⟨1,false,8,[.int .i64 0],(.int .i64)⟩),(2,some ⟨1,false,1,[.bool false], .bool⟩),(3,some ⟨1,false,1,[.int .u8 0],(.int .u8)⟩)],none,none⟩:=by kernel_rfl
@[go_sem] theorem alg:tJ Tryz.prog 7 [(.int .i64),(.int .i64), .bool,(.int .u8)]=true:=by kernel_rfl
@[go_sem] theorem amZ:aC Tryz.prog 8=some ⟨4,true,24,[.int .i64 0, .int .i64 0, .bool false, .int .u8 0], .struct⟩:=by kernel_rfl
@[go_sem] theorem ty8:bK Tryz.prog 8=some ⟨⟨4,true,24,[.int .i64 0, .int .i64 0, .bool false, .int .u8 0], .struct⟩,[(0,some ⟨1,false,8,[.int .i64 0],(.int .i64)⟩),(1,some ⟨1,false,8,[.int .i64 0],(.int .i64)⟩),(2,some ⟨1,false,1,[.bool false], .bool⟩),(3,some ⟨1,false,1,[.int .u8 0],(.int .u8)⟩)],none,none⟩:=by kernel_rfl
@[go_sem] theorem alh:tJ Tryz.prog 8 [(.int .i64),(.int .i64), .bool,(.int .u8)]=true:=by kernel_rfl
@[go_sem] theorem am0:aC Tryz.prog 9=some ⟨1,false,16,[.str ⟨#[]⟩], .str⟩:=by kernel_rfl
@[go_sem] theorem ty9:bK Tryz.prog 9=some ⟨⟨1,false,16,[.str ⟨#[]⟩], .str⟩,[],none,none⟩:=by kernel_rfl
@[go_sem] theorem Xgf:aC Tryz.prog 10=some ⟨1,false,16,[.str ⟨#[]⟩], .str⟩:=by kernel_rfl
@[go_sem] theorem am5:bK Tryz.prog 10=some ⟨⟨1,false,16,[.str ⟨#[]⟩], .str⟩,[],none,none⟩:=by kernel_rfl
@[go_sem] theorem Xka:aC Tryz.prog 11=some ⟨1,false,16,[.str ⟨#[]⟩], .str⟩:=by kernel_rfl
@[go_sem] theorem am6:bK Tryz.prog 11=some ⟨⟨1,false,16,[.str ⟨#[]⟩], .str⟩,[],none,none⟩:=by kernel_rfl
@[go_sem] theorem Xlx:aC Tryz.prog 12=some ⟨1,false,8,[.int .u64 0],(.int .u64)⟩:=by kernel_rfl
@[go_sem] theorem am7:bK Tryz.prog 12=some ⟨⟨1,false,8,[.int .u64 0],(.int .u64)⟩,[],none,none⟩:=by kernel_rfl
@[go_sem] theorem Xlr:aC Tryz.prog 13=some ⟨2,true,24,[.str ⟨#[]⟩, .int .u64 0], .struct⟩:=by kernel_rfl
@[go_sem] theorem am8:bK Tryz.prog 13=some ⟨⟨2,true,24,[.str ⟨#[]⟩, .int .u64 0], .struct⟩,[(0,some ⟨1,false,16,[.str ⟨#[]⟩], .str⟩),(1,some ⟨1,false,8,[.int .u64 0],(.int .u64)⟩)],none,none⟩:=by kernel_rfl
@[go_sem] theorem Xl2:aC Tryz.prog 14=some ⟨2,true,24,[.str ⟨#[]⟩, .int .u64 0], .struct⟩:=by kernel_rfl
@[go_sem] theorem am9:bK Tryz.prog 14=some ⟨⟨2,true,24,[.str ⟨#[]⟩, .int .u64 0], .struct⟩,[(0,some ⟨1,false,16,[.str ⟨#[]⟩], .str⟩),(1,some ⟨1,false,8,[.int .u64 0],(.int .u64)⟩)],none,none⟩:=by kernel_rfl
@[go_sem] theorem Xlj:aC Tryz.prog 15=some ⟨1,false,8,[.bM], .ptr⟩:=by kernel_rfl
@[go_sem] theorem am_:bK Tryz.prog 15=some ⟨⟨1,false,8,[.bM], .ptr⟩,[],none,none⟩:=by kernel_rfl
@[go_sem] theorem Xjq:aC Tryz.prog 16=some ⟨1,false,8,[.bM], .ptr⟩:=by kernel_rfl
@[go_sem] theorem ana:bK Tryz.prog 16=some ⟨⟨1,false,8,[.bM], .ptr⟩,[],none,none⟩:=by kernel_rfl
@[go_sem] theorem Xia:aC Tryz.prog 17=some ⟨1,false,8,[.bM], .ptr⟩:=by kernel_rfl
@[go_sem] theorem anb:bK Tryz.prog 17=some ⟨⟨1,false,8,[.bM], .ptr⟩,[],none,none⟩:=by kernel_rfl
@[go_sem] theorem Xh5:aC Tryz.prog 18=some ⟨1,true,8,[.bM], .struct⟩:=by kernel_rfl
@[go_sem] theorem anc:bK Tryz.prog 18=some ⟨⟨1,true,8,[.bM], .struct⟩,[(0,some ⟨1,false,8,[.bM], .ptr⟩)],none,none⟩:=by kernel_rfl
@[go_sem] theorem Xl8:aC Tryz.prog 19=some ⟨1,true,8,[.bM], .struct⟩:=by kernel_rfl
@[go_sem] theorem ane:bK Tryz.prog 19=some ⟨⟨1,true,8,[.bM], .struct⟩,[(0,some ⟨1,false,8,[.bM], .ptr⟩)],none,none⟩:=by kernel_rfl
@[go_sem] theorem Xln:aC Tryz.prog 20=some ⟨1,false,16,[.fC], .iface⟩:=by kernel_rfl
@[go_sem] theorem anf:bK Tryz.prog 20=some ⟨⟨1,false,16,[.fC], .iface⟩,[],none,none⟩:=by kernel_rfl
@[go_sem] theorem Xk0:aC Tryz.prog 21=some ⟨1,false,4,[.int .i32 0],(.int .i32)⟩:=by kernel_rfl
@[go_sem] theorem ang:bK Tryz.prog 21=some ⟨⟨1,false,4,[.int .i32 0],(.int .i32)⟩,[],none,none⟩:=by kernel_rfl
@[go_sem] theorem Xi8:aC Tryz.prog 22=some ⟨1,false,24,[.aU], .slice⟩:=by kernel_rfl
@[go_sem] theorem anh:bK Tryz.prog 22=some ⟨⟨1,false,24,[.aU], .slice⟩,[],some ⟨4,true,40,[.str ⟨#[]⟩, .int .i64 0, .int .i64 0, .bool false], .struct⟩,none⟩:=by kernel_rfl
@[go_sem] theorem Xhe:aC Tryz.prog 23=some ⟨1,false,24,[.aU], .slice⟩:=by kernel_rfl
@[go_sem] theorem ani:bK Tryz.prog 23=some ⟨⟨1,false,24,[.aU], .slice⟩,[],some ⟨1,false,24,[.aU], .slice⟩,none⟩:=by kernel_rfl
@[go_sem] theorem Yzi:aC Tryz.prog 24=some ⟨1,false,24,[.aU], .slice⟩:=by kernel_rfl
@[go_sem] theorem anj:bK Tryz.prog 24=some ⟨⟨1,false,24,[.aU], .slice⟩,[],some ⟨5,true,72,[.bool false, .int .i64 0, .aU, .int .i64 0, .aU], .struct⟩,none⟩:=by kernel_rfl
@[go_sem] theorem Xgw:aC Tryz.prog 25=some ⟨1,false,8,[.az], .func⟩:=by kernel_rfl
@[go_sem] theorem ank:bK Tryz.prog 25=some ⟨⟨1,false,8,[.az], .func⟩,[],none,none⟩:=by kernel_rfl
@[go_sem] theorem Xiv:aC Tryz.prog 26=some ⟨1,false,24,[.aU], .slice⟩:=by kernel_rfl
@[go_sem] theorem anl:bK Tryz.prog 26=some ⟨⟨1,false,24,[.aU], .slice⟩,[],some ⟨1,false,8,[.int .i64 0],(.int .i64)⟩,none⟩:=by kernel_rfl
@[go_sem] theorem Xn2:aC Tryz.prog 27=some ⟨4,true,64,[.aU, .aU, .int .i64 0, .int .i64 0], .struct⟩:=by kernel_rfl
@[go_sem] theorem anm:bK Tryz.prog 27=some ⟨⟨4,true,64,[.aU, .aU, .int .i64 0, .int .i64 0], .struct⟩,[(0,some ⟨1,false,24,[.aU], .slice⟩),(1,some ⟨1,false,24,[.aU], .slice⟩),(2,some ⟨1,false,8,[.int .i64 0],(.int .i64)⟩),(3,some ⟨1,false,8,[.int .i64 0],(.int .i64)⟩)],none,none⟩:=by kernel_rfl
@[go_sem] theorem Xnc:aC Tryz.prog 28=some ⟨4,true,64,[.aU, .aU, .int .i64 0, .int .i64 0], .struct⟩:=by kernel_rfl
@[go_sem] theorem ann:bK Tryz.prog 28=some ⟨⟨4,true,64,[.aU, .aU, .int .i64 0, .int .i64 0], .struct⟩,[(0,some ⟨1,false,24,[.aU], .slice⟩),(1,some ⟨1,false,24,[.aU], .slice⟩),(2,some ⟨1,false,8,[.int .i64 0],(.int .i64)⟩),(3,some ⟨1,false,8,[.int .i64 0],(.int .i64)⟩)],none,none⟩:=by kernel_rfl
@[go_sem] theorem Xgm:aC Tryz.prog 29=some ⟨1,false,8,[.int .i64 0],(.int .i64)⟩:=by kernel_rfl
@[go_sem] theorem ano:bK Tryz.prog 29=some ⟨⟨1,false,8,[.int .i64 0],(.int .i64)⟩,[],none,none⟩:=by kernel_rfl
@[go_sem] theorem Xlg:aC Tryz.prog 31=some ⟨1,false,8,[.az], .func⟩:=by kernel_rfl
@[go_sem] theorem anp:bK Tryz.prog 31=some ⟨⟨1,false,8,[.az], .func⟩,[],none,none⟩:=by kernel_rfl
@[go_sem] theorem Xh1:aC Tryz.prog 33=some ⟨1,false,8,[.az], .func⟩:=by kernel_rfl
@[go_sem] theorem anq:bK Tryz.prog 33=some ⟨⟨1,false,8,[.az], .func⟩,[],none,none⟩:=by kernel_rfl
@[go_sem] theorem Xna:aC Tryz.prog 34=some ⟨1,false,8,[.az], .func⟩:=by kernel_rfl
@[go_sem] theorem anr:bK Tryz.prog 34=some ⟨⟨1,false,8,[.az], .func⟩,[],none,none⟩:=by kernel_rfl
@[go_sem] theorem Xkh:aC Tryz.prog 35=some ⟨1,false,8,[.az], .func⟩:=by kernel_rfl
@[go_sem] theorem ans:bK Tryz.prog 35=some ⟨⟨1,false,8,[.az], .func⟩,[],none,none⟩:=by kernel_rfl
@[go_sem] theorem Xiw:aC Tryz.prog 36=some ⟨1,false,24,[.aU], .slice⟩:=by kernel_rfl
@[go_sem] theorem ant:bK Tryz.prog 36=some ⟨⟨1,false,24,[.aU], .slice⟩,[],some ⟨1,false,24,[.aU], .slice⟩,none⟩:=by kernel_rfl
@[go_sem] theorem Xgh:aC Tryz.prog 37=some ⟨2,true,32,[.int .i64 0, .aU], .struct⟩:=by kernel_rfl
@[go_sem] theorem anu:bK Tryz.prog 37=some ⟨⟨2,true,32,[.int .i64 0, .aU], .struct⟩,[(0,some ⟨1,false,8,[.int .i64 0],(.int .i64)⟩),(1,some ⟨1,false,24,[.aU], .slice⟩)],none,none⟩:=by kernel_rfl
@[go_sem] theorem Xho:aC Tryz.prog 38=some ⟨2,true,32,[.int .i64 0, .aU], .struct⟩:=by kernel_rfl
@[go_sem] theorem anv:bK Tryz.prog 38=some ⟨⟨2,true,32,[.int .i64 0, .aU], .struct⟩,[(0,some ⟨1,false,8,[.int .i64 0],(.int .i64)⟩),(1,some ⟨1,false,24,[.aU], .slice⟩)],none,none⟩:=by kernel_rfl
@[go_sem] theorem Xks:aC Tryz.prog 39=some ⟨1,false,8,[.az], .func⟩:=by kernel_rfl
@[go_sem] theorem anw:bK Tryz.prog 39=some ⟨⟨1,false,8,[.az], .func⟩,[],none,none⟩:=by kernel_rfl
@[go_sem] theorem Xmw:aC Tryz.prog 40=some ⟨1,false,8,[.az], .func⟩:=by kernel_rfl
@[go_sem] theorem anx:bK Tryz.prog 40=some ⟨⟨1,false,8,[.az], .func⟩,[],none,none⟩:=by kernel_rfl
@[go_sem] theorem Xl0:aC Tryz.prog 41=some ⟨1,false,8,[.az], .func⟩:=by kernel_rfl
@[go_sem] theorem anz:bK Tryz.prog 41=some ⟨⟨1,false,8,[.az], .func⟩,[],none,none⟩:=by kernel_rfl
@[go_sem] theorem Xmi:aC Tryz.prog 42=some ⟨1,false,8,[.az], .func⟩:=by kernel_rfl
@[go_sem] theorem anA:bK Tryz.prog 42=some ⟨⟨1,false,8,[.az], .func⟩,[],none,none⟩:=by kernel_rfl
@[go_sem] theorem Xhv:aC Tryz.prog 43=some ⟨1,false,8,[.az], .func⟩:=by kernel_rfl
@[go_sem] theorem anB:bK Tryz.prog 43=some ⟨⟨1,false,8,[.az], .func⟩,[],none,none⟩:=by kernel_rfl
@[go_sem] theorem Xmk:aC Tryz.prog 44=some ⟨1,false,8,[.az], .func⟩:=by kernel_rfl
@[go_sem] theorem anC:bK Tryz.prog 44=some ⟨⟨1,false,8,[.az], .func⟩,[],none,none⟩:=by kernel_rfl
@[go_sem] theorem Xhu:aC Tryz.prog 45=some ⟨1,false,8,[.az], .func⟩:=by kernel_rfl
@[go_sem] theorem anD:bK Tryz.prog 45=some ⟨⟨1,false,8,[.az], .func⟩,[],none,none⟩:=by kernel_rfl
@[go_sem] theorem Xgn:aC Tryz.prog 46=some ⟨1,false,8,[.az], .func⟩:=by kernel_rfl
@[go_sem] theorem anE:bK Tryz.prog 46=some ⟨⟨1,false,8,[.az], .func⟩,[],none,none⟩:=by kernel_rfl
@[go_sem] theorem Xhp:aC Tryz.prog 47=some ⟨1,false,8,[.az], .func⟩:=by kernel_rfl
@[go_sem] theorem anF:bK Tryz.prog 47=some ⟨⟨1,false,8,[.az], .func⟩,[],none,none⟩:=by kernel_rfl
@[go_sem] theorem Xhn:aC Tryz.prog 48=some ⟨1,false,8,[.az], .func⟩:=by kernel_rfl
@[go_sem] theorem anG:bK Tryz.prog 48=some ⟨⟨1,false,8,[.az], .func⟩,[],none,none⟩:=by kernel_rfl
@[go_sem] theorem Xhc:aC Tryz.prog 49=some ⟨1,false,8,[.az], .func⟩:=by kernel_rfl
@[go_sem] theorem anH:bK Tryz.prog 49=some ⟨⟨1,false,8,[.az], .func⟩,[],none,none⟩:=by kernel_rfl
@[go_sem] theorem Xij:aC Tryz.prog 50=some ⟨1,false,8,[.az], .func⟩:=by kernel_rfl
@[go_sem] theorem anI:bK Tryz.prog 50=some ⟨⟨1,false,8,[.az], .func⟩,[],none,none⟩:=by kernel_rfl
@[go_sem] theorem Xkj:aC Tryz.prog 51=some ⟨1,false,8,[.az], .func⟩:=by kernel_rfl
@[go_sem] theorem anJ:bK Tryz.prog 51=some ⟨⟨1,false,8,[.az], .func⟩,[],none,none⟩:=by kernel_rfl
@[go_sem] theorem Xig:aC Tryz.prog 52=some ⟨1,false,8,[.az], .func⟩:=by kernel_rfl
@[go_sem] theorem anK:bK Tryz.prog 52=some ⟨⟨1,false,8,[.az], .func⟩,[],none,none⟩:=by kernel_rfl
@[go_sem] theorem Xkq:aC Tryz.prog 53=some ⟨1,false,8,[.bM], .ptr⟩:=by kernel_rfl
@[go_sem] theorem anL:bK Tryz.prog 53=some ⟨⟨1,false,8,[.bM], .ptr⟩,[],none,none⟩:=by kernel_rfl
@[go_sem] theorem Xn1:aC Tryz.prog 54=some ⟨1,false,8,[.az], .func⟩:=by kernel_rfl
@[go_sem] theorem anM:bK Tryz.prog 54=some ⟨⟨1,false,8,[.az], .func⟩,[],none,none⟩:=by kernel_rfl
@[go_sem] theorem Xgz:aC Tryz.prog 55=some ⟨7,true,120,[.aU, .aU, .aU, .aU, .int .i64 0, .int .i64 0, .int .i64 0], .struct⟩:=by kernel_rfl
@[go_sem] theorem anN:bK Tryz.prog 55=some ⟨⟨7,true,120,[.aU, .aU, .aU, .aU, .int .i64 0, .int .i64 0, .int .i64 0], .struct⟩,[(0,some ⟨1,false,24,[.aU], .slice⟩),(1,some ⟨1,false,24,[.aU], .slice⟩),(2,some ⟨1,false,24,[.aU], .slice⟩),(3,some ⟨1,false,24,[.aU], .slice⟩),(4,some ⟨1,false,8,[.int .i64 0],(.int .i64)⟩),(5,some ⟨1,false,8,[.int .i64 0],(.int .i64)⟩),(6,some ⟨1,false,8,[.int .i64 0],(.int .i64)⟩)],none,none⟩:=by kernel_rfl
@[go_sem] theorem Xmy:aC Tryz.prog 56=some ⟨7,true,120,[.aU, .aU, .aU, .aU, .int .i64 0, .int .i64 0, .int .i64 0], .struct⟩:=by kernel_rfl
@[go_sem] theorem anO:bK Tryz.prog 56=some ⟨⟨7,true,120,[.aU, .aU, .aU, .aU, .int .i64 0, .int .i64 0, .int .i64 0], .struct⟩,[(0,some ⟨1,false,24,[.aU], .slice⟩),(1,some ⟨1,false,24,[.aU], .slice⟩),(2,some ⟨1,false,24,[.aU], .slice⟩),(3,some ⟨1,false,24,[.aU], .slice⟩),(4,some ⟨1,false,8,[.int .i64 0],(.int .i64)⟩),(5,some ⟨1,false,8,[.int .i64 0],(.int .i64)⟩),(6,some ⟨1,false,8,[.int .i64 0],(.int .i64)⟩)],none,none⟩:=by kernel_rfl
@[go_sem] theorem Xm8:aC Tryz.prog 57=some ⟨1,false,8,[.az], .func⟩:=by kernel_rfl
@[go_sem] theorem anP:bK Tryz.prog 57=some ⟨⟨1,false,8,[.az], .func⟩,[],none,none⟩:=by kernel_rfl
@[go_sem] theorem Xis:aC Tryz.prog 58=some ⟨1,false,24,[.aU], .slice⟩:=by kernel_rfl
@[go_sem] theorem anQ:bK Tryz.prog 58=some ⟨⟨1,false,24,[.aU], .slice⟩,[],some ⟨1,false,8,[.az], .func⟩,none⟩:=by kernel_rfl
@[go_sem] theorem Xjz:aC Tryz.prog 60=some ⟨1,false,8,[.az], .func⟩:=by kernel_rfl
@[go_sem] theorem anR:bK Tryz.prog 60=some ⟨⟨1,false,8,[.az], .func⟩,[],none,none⟩:=by kernel_rfl
@[go_sem] theorem Xgg:aC Tryz.prog 61=some ⟨1,false,8,[.az], .func⟩:=by kernel_rfl
@[go_sem] theorem anS:bK Tryz.prog 61=some ⟨⟨1,false,8,[.az], .func⟩,[],none,none⟩:=by kernel_rfl
@[go_sem] theorem Xgd:aC Tryz.prog 63=some ⟨1,false,8,[.az], .func⟩:=by kernel_rfl
@[go_sem] theorem anT:bK Tryz.prog 63=some ⟨⟨1,false,8,[.az], .func⟩,[],none,none⟩:=by kernel_rfl
@[go_sem] theorem Xll:aC Tryz.prog 64=some ⟨1,false,8,[.az], .func⟩:=by kernel_rfl
@[go_sem] theorem anU:bK Tryz.prog 64=some ⟨⟨1,false,8,[.az], .func⟩,[],none,none⟩:=by kernel_rfl
@[go_sem] theorem Xjn:aC Tryz.prog 66=some ⟨1,false,8,[.az], .func⟩:=by kernel_rfl
@[go_sem] theorem anV:bK Tryz.prog 66=some ⟨⟨1,false,8,[.az], .func⟩,[],none,none⟩:=by kernel_rfl
@[go_sem] theorem Xm6:aC Tryz.prog 67=some ⟨1,false,8,[.az], .func⟩:=by kernel_rfl
@[go_sem] theorem anW:bK Tryz.prog 67=some ⟨⟨1,false,8,[.az], .func⟩,[],none,none⟩:=by kernel_rfl
@[go_sem] theorem Xkm:aC Tryz.prog 68=some ⟨1,false,24,[.aU], .slice⟩:=by kernel_rfl
@[go_sem] theorem anX:bK Tryz.prog 68=some ⟨⟨1,false,24,[.aU], .slice⟩,[],some ⟨2,true,32,[.int .i64 0, .aU], .struct⟩,none⟩:=by kernel_rfl
@[go_sem] theorem Xlk:aC Tryz.prog 69=some ⟨2,true,32,[.int .i64 0, .aU], .struct⟩:=by kernel_rfl
@[go_sem] theorem anY:bK Tryz.prog 69=some ⟨⟨2,true,32,[.int .i64 0, .aU], .struct⟩,[(0,some ⟨1,false,8,[.int .i64 0],(.int .i64)⟩),(1,some ⟨1,false,24,[.aU], .slice⟩)],none,none⟩:=by kernel_rfl
@[go_sem] theorem Xkf:aC Tryz.prog 70=some ⟨2,true,32,[.int .i64 0, .aU], .struct⟩:=by kernel_rfl
@[go_sem] theorem anZ:bK Tryz.prog 70=some ⟨⟨2,true,32,[.int .i64 0, .aU], .struct⟩,[(0,some ⟨1,false,8,[.int .i64 0],(.int .i64)⟩),(1,some ⟨1,false,24,[.aU], .slice⟩)],none,none⟩:=by kernel_rfl
@[go_sem] theorem Xl1:aC Tryz.prog 71=some ⟨1,false,8,[.az], .func⟩:=by kernel_rfl
@[go_sem] theorem an0:bK Tryz.prog 71=some ⟨⟨1,false,8,[.az], .func⟩,[],none,none⟩:=by kernel_rfl
@[go_sem] theorem Xiy:aC Tryz.prog 72=some ⟨1,false,8,[.az], .func⟩:=by kernel_rfl
@[go_sem] theorem an1:bK Tryz.prog 72=some ⟨⟨1,false,8,[.az], .func⟩,[],none,none⟩:=by kernel_rfl
@[go_sem] theorem Xnu:aC Tryz.prog 73=some ⟨5,true,72,[.bool false, .int .i64 0, .aU, .int .i64 0, .aU], .struct⟩:=by kernel_rfl
@[go_sem] theorem an2:bK Tryz.prog 73=some ⟨⟨5,true,72,[.bool false, .int .i64 0, .aU, .int .i64 0, .aU], .struct⟩,[(0,some ⟨1,false,1,[.bool false], .bool⟩),(1,some ⟨2,true,32,[.int .i64 0, .aU], .struct⟩),(3,some ⟨2,true,32,[.int .i64 0, .aU], .struct⟩)],none,none⟩:=by kernel_rfl
@[go_sem] theorem Xgu:aC Tryz.prog 74=some ⟨5,true,72,[.bool false, .int .i64 0, .aU, .int .i64 0, .aU], .struct⟩:=by kernel_rfl
@[go_sem] theorem an3:bK Tryz.prog 74=some ⟨⟨5,true,72,[.bool false, .int .i64 0, .aU, .int .i64 0, .aU], .struct⟩,[(0,some ⟨1,false,1,[.bool false], .bool⟩),(1,some ⟨2,true,32,[.int .i64 0, .aU], .struct⟩),(3,some ⟨2,true,32,[.int .i64 0, .aU], .struct⟩)],none,none⟩:=by kernel_rfl
@[go_sem] theorem Xng:aC Tryz.prog 75=some ⟨1,false,8,[.az], .func⟩:=by kernel_rfl
@[go_sem] theorem an4:bK Tryz.prog 75=some ⟨⟨1,false,8,[.az], .func⟩,[],none,none⟩:=by kernel_rfl
@[go_sem] theorem Xm1:aC Tryz.prog 76=some ⟨1,false,8,[.az], .func⟩:=by kernel_rfl
@[go_sem] theorem an5:bK Tryz.prog 76=some ⟨⟨1,false,8,[.az], .func⟩,[],none,none⟩:=by kernel_rfl
@[go_sem] theorem Xha:aC Tryz.prog 77=some ⟨1,false,8,[.az], .func⟩:=by kernel_rfl
@[go_sem] theorem an6:bK Tryz.prog 77=some ⟨⟨1,false,8,[.az], .func⟩,[],none,none⟩:=by kernel_rfl
@[go_sem] theorem Xjt:aC Tryz.prog 78=some ⟨4,true,40,[.str ⟨#[]⟩, .int .i64 0, .int .i64 0, .bool false], .struct⟩:=by kernel_rfl
@[go_sem] theorem an7:bK Tryz.prog 78=some ⟨⟨4,true,40,[.str ⟨#[]⟩, .int .i64 0, .int .i64 0, .bool false], .struct⟩,[(0,some ⟨1,false,16,[.str ⟨#[]⟩], .str⟩),(1,some ⟨1,false,8,[.int .i64 0],(.int .i64)⟩),(2,some ⟨1,false,8,[.int .i64 0],(.int .i64)⟩),(3,some ⟨1,false,1,[.bool false], .bool⟩)],none,none⟩:=by kernel_rfl
@[go_sem] theorem Xhh:tJ Tryz.prog 78 [.str,(.int .i64),(.int .i64), .bool]=true:=by kernel_rfl
@[go_sem] theorem Xh2:aC Tryz.prog 79=some ⟨4,true,40,[.str ⟨#[]⟩, .int .i64 0, .int .i64 0, .bool false], .struct⟩:=by kernel_rfl
@[go_sem] theorem an8:bK Tryz.prog 79=some ⟨⟨4,true,40,[.str ⟨#[]⟩, .int .i64 0, .int .i64 0, .bool false], .struct⟩,[(0,some ⟨1,false,16,[.str ⟨#[]⟩], .str⟩),(1,some ⟨1,false,8,[.int .i64 0],(.int .i64)⟩),(2,some ⟨1,false,8,[.int .i64 0],(.int .i64)⟩),(3,some ⟨1,false,1,[.bool false], .bool⟩)],none,none⟩:=by kernel_rfl
@[go_sem] theorem Xgl:tJ Tryz.prog 79 [.str,(.int .i64),(.int .i64), .bool]=true:=by kernel_rfl
@[go_sem] theorem Xnb:aC Tryz.prog 80=some ⟨1,false,8,[.az], .func⟩:=by kernel_rfl
@[go_sem] theorem an9:bK Tryz.prog 80=some ⟨⟨1,false,8,[.az], .func⟩,[],none,none⟩:=by kernel_rfl
@[go_sem] theorem Xgq:aC Tryz.prog 81=some ⟨1,false,8,[.az], .func⟩:=by kernel_rfl
@[go_sem] theorem an_:bK Tryz.prog 81=some ⟨⟨1,false,8,[.az], .func⟩,[],none,none⟩:=by kernel_rfl
@[go_sem] theorem Xi2:aC Tryz.prog 82=some ⟨1,false,8,[.az], .func⟩:=by kernel_rfl
@[go_sem] theorem aoa:bK Tryz.prog 82=some ⟨⟨1,false,8,[.az], .func⟩,[],none,none⟩:=by kernel_rfl
@[go_sem] theorem Xmx:aC Tryz.prog 83=some ⟨1,false,8,[.az], .func⟩:=by kernel_rfl
@[go_sem] theorem aob:bK Tryz.prog 83=some ⟨⟨1,false,8,[.az], .func⟩,[],none,none⟩:=by kernel_rfl
@[go_sem] theorem Xnj:aC Tryz.prog 84=some ⟨1,false,8,[.az], .func⟩:=by kernel_rfl
@[go_sem] theorem aoc:bK Tryz.prog 84=some ⟨⟨1,false,8,[.az], .func⟩,[],none,none⟩:=by kernel_rfl
@[go_sem] theorem Xjh:aC Tryz.prog 85=some ⟨1,false,8,[.az], .func⟩:=by kernel_rfl
@[go_sem] theorem aod:bK Tryz.prog 85=some ⟨⟨1,false,8,[.az], .func⟩,[],none,none⟩:=by kernel_rfl
@[go_sem] theorem Xhg:aC Tryz.prog 86=some ⟨1,false,8,[.az], .func⟩:=by kernel_rfl
@[go_sem] theorem aoe:bK Tryz.prog 86=some ⟨⟨1,false,8,[.az], .func⟩,[],none,none⟩:=by kernel_rfl
@[go_sem] theorem Xga:aC Tryz.prog 87=some ⟨1,false,8,[.bM], .ptr⟩:=by kernel_rfl
@[go_sem] theorem aof:bK Tryz.prog 87=some ⟨⟨1,false,8,[.bM], .ptr⟩,[],none,none⟩:=by kernel_rfl
@[go_sem] theorem Xn0:aC Tryz.prog 88=some ⟨1,false,24,[.aU], .slice⟩:=by kernel_rfl
@[go_sem] theorem aog:bK Tryz.prog 88=some ⟨⟨1,false,24,[.aU], .slice⟩,[],some ⟨1,false,1,[.bool false], .bool⟩,none⟩:=by kernel_rfl
@[go_sem] theorem Xki:aC Tryz.prog 89=some ⟨2,true,48,[.aU, .aU], .struct⟩:=by kernel_rfl
@[go_sem] theorem aoh:bK Tryz.prog 89=some ⟨⟨2,true,48,[.aU, .aU], .struct⟩,[(0,some ⟨1,false,24,[.aU], .slice⟩),(1,some ⟨1,false,24,[.aU], .slice⟩)],none,none⟩:=by kernel_rfl
@[go_sem] theorem Xnn:aC Tryz.prog 90=some ⟨2,true,48,[.aU, .aU], .struct⟩:=by kernel_rfl
@[go_sem] theorem aoi:bK Tryz.prog 90=some ⟨⟨2,true,48,[.aU, .aU], .struct⟩,[(0,some ⟨1,false,24,[.aU], .slice⟩),(1,some ⟨1,false,24,[.aU], .slice⟩)],none,none⟩:=by kernel_rfl
@[go_sem] theorem Xh8:aC Tryz.prog 91=some ⟨1,false,8,[.az], .func⟩:=by kernel_rfl
@[go_sem] theorem aoj:bK Tryz.prog 91=some ⟨⟨1,false,8,[.az], .func⟩,[],none,none⟩:=by kernel_rfl
@[go_sem] theorem Xmq:aC Tryz.prog 92=some ⟨1,false,8,[.cw], .map⟩:=by kernel_rfl
@[go_sem] theorem aok:bK Tryz.prog 92=some ⟨⟨1,false,8,[.cw], .map⟩,[],some ⟨2,true,32,[.int .i64 0, .aU], .struct⟩,some ⟨1,false,8,[.int .i64 0],(.int .i64)⟩⟩:=by kernel_rfl
@[go_sem] theorem Xim:aC Tryz.prog 93=some ⟨1,false,8,[.cw], .map⟩:=by kernel_rfl
@[go_sem] theorem aol:bK Tryz.prog 93=some ⟨⟨1,false,8,[.cw], .map⟩,[],some ⟨2,true,32,[.int .i64 0, .aU], .struct⟩,some ⟨1,false,8,[.int .i64 0],(.int .i64)⟩⟩:=by kernel_rfl
@[go_sem] theorem Xlu:aC Tryz.prog 94=some ⟨1,false,8,[.az], .func⟩:=by kernel_rfl
@[go_sem] theorem aom:bK Tryz.prog 94=some ⟨⟨1,false,8,[.az], .func⟩,[],none,none⟩:=by kernel_rfl
@[go_sem] theorem Xh6:aC Tryz.prog 95=some ⟨1,false,8,[.az], .func⟩:=by kernel_rfl
@[go_sem] theorem aon:bK Tryz.prog 95=some ⟨⟨1,false,8,[.az], .func⟩,[],none,none⟩:=by kernel_rfl
@[go_sem] theorem Xmz:aC Tryz.prog 96=some ⟨1,false,8,[.az], .func⟩:=by kernel_rfl
@[go_sem] theorem aoo:bK Tryz.prog 96=some ⟨⟨1,false,8,[.az], .func⟩,[],none,none⟩:=by kernel_rfl
@[go_sem] theorem Xnr:aC Tryz.prog 97=some ⟨1,false,8,[.az], .func⟩:=by kernel_rfl
@[go_sem] theorem aop:bK Tryz.prog 97=some ⟨⟨1,false,8,[.az], .func⟩,[],none,none⟩:=by kernel_rfl
@[go_sem] theorem Xkk:aC Tryz.prog 98=some ⟨1,false,8,[.az], .func⟩:=by kernel_rfl
@[go_sem] theorem aoq:bK Tryz.prog 98=some ⟨⟨1,false,8,[.az], .func⟩,[],none,none⟩:=by kernel_rfl
@[go_sem] theorem Xhq:aC Tryz.prog 99=some ⟨1,false,8,[.az], .func⟩:=by kernel_rfl
@[go_sem] theorem aor:bK Tryz.prog 99=some ⟨⟨1,false,8,[.az], .func⟩,[],none,none⟩:=by kernel_rfl
@[go_sem] theorem Xcd:aC Tryz.prog 100=some ⟨1,false,8,[.az], .func⟩:=by kernel_rfl
@[go_sem] theorem Xjc:bK Tryz.prog 100=some ⟨⟨1,false,8,[.az], .func⟩,[],none,none⟩:=by kernel_rfl
@[go_sem] theorem Xbk:aC Tryz.prog 102=some ⟨1,false,8,[.az], .func⟩:=by kernel_rfl
@[go_sem] theorem Xhy:bK Tryz.prog 102=some ⟨⟨1,false,8,[.az], .func⟩,[],none,none⟩:=by kernel_rfl
@[go_sem] theorem Xe4:aC Tryz.prog 103=some ⟨1,false,8,[.az], .func⟩:=by kernel_rfl
@[go_sem] theorem Xnm:bK Tryz.prog 103=some ⟨⟨1,false,8,[.az], .func⟩,[],none,none⟩:=by kernel_rfl
@[go_sem] theorem Xdo:aC Tryz.prog 105=some ⟨1,false,8,[.az], .func⟩:=by kernel_rfl
@[go_sem] theorem Xiq:bK Tryz.prog 105=some ⟨⟨1,false,8,[.az], .func⟩,[],none,none⟩:=by kernel_rfl
@[go_sem] theorem Xet:aC Tryz.prog 106=some ⟨1,false,8,[.az], .func⟩:=by kernel_rfl
@[go_sem] theorem Xic:bK Tryz.prog 106=some ⟨⟨1,false,8,[.az], .func⟩,[],none,none⟩:=by kernel_rfl
@[go_sem] theorem Xer:aC Tryz.prog 108=some ⟨1,false,8,[.az], .func⟩:=by kernel_rfl
@[go_sem] theorem Xk2:bK Tryz.prog 108=some ⟨⟨1,false,8,[.az], .func⟩,[],none,none⟩:=by kernel_rfl
@[go_sem] theorem Xbd:aC Tryz.prog 109=some ⟨1,false,8,[.az], .func⟩:=by kernel_rfl
@[go_sem] theorem Xjs:bK Tryz.prog 109=some ⟨⟨1,false,8,[.az], .func⟩,[],none,none⟩:=by kernel_rfl
@[go_sem] theorem Xf1:aC Tryz.prog 110=some ⟨1,false,8,[.az], .func⟩:=by kernel_rfl
@[go_sem] theorem Xj0:bK Tryz.prog 110=some ⟨⟨1,false,8,[.az], .func⟩,[],none,none⟩:=by kernel_rfl
@[go_sem] theorem Xas:aC Tryz.prog 111=some ⟨1,false,8,[.az], .func⟩:=by kernel_rfl
@[go_sem] theorem Xml:bK Tryz.prog 111=some ⟨⟨1,false,8,[.az], .func⟩,[],none,none⟩:=by kernel_rfl
@[go_sem] theorem Xfm:aC Tryz.prog 112=some ⟨1,false,8,[.az], .func⟩:=by kernel_rfl
@[go_sem] theorem Xh3:bK Tryz.prog 112=some ⟨⟨1,false,8,[.az], .func⟩,[],none,none⟩:=by kernel_rfl
@[go_sem] theorem Xct:aC Tryz.prog 113=some ⟨1,false,8,[.az], .func⟩:=by kernel_rfl
@[go_sem] theorem Xk4:bK Tryz.prog 113=some ⟨⟨1,false,8,[.az], .func⟩,[],none,none⟩:=by kernel_rfl
@[go_sem] theorem Xbp:aC Tryz.prog 114=some ⟨1,false,8,[.az], .func⟩:=by kernel_rfl
@[go_sem] theorem Xkd:bK Tryz.prog 114=some ⟨⟨1,false,8,[.az], .func⟩,[],none,none⟩:=by kernel_rfl
@[go_sem] theorem Xci:aC Tryz.prog 115=some ⟨1,false,8,[.az], .func⟩:=by kernel_rfl
@[go_sem] theorem Xnf:bK Tryz.prog 115=some ⟨⟨1,false,8,[.az], .func⟩,[],none,none⟩:=by kernel_rfl
@[go_sem] theorem Xdb:aC Tryz.prog 116=some ⟨1,false,8,[.az], .func⟩:=by kernel_rfl
@[go_sem] theorem Xmb:bK Tryz.prog 116=some ⟨⟨1,false,8,[.az], .func⟩,[],none,none⟩:=by kernel_rfl
@[go_sem] theorem Xfe:aC Tryz.prog 117=some ⟨1,false,8,[.az], .func⟩:=by kernel_rfl
@[go_sem] theorem Xly:bK Tryz.prog 117=some ⟨⟨1,false,8,[.az], .func⟩,[],none,none⟩:=by kernel_rfl
@[go_sem] theorem Xap:aC Tryz.prog 118=some ⟨1,false,8,[.az], .func⟩:=by kernel_rfl
@[go_sem] theorem Xiz:bK Tryz.prog 118=some ⟨⟨1,false,8,[.az], .func⟩,[],none,none⟩:=by kernel_rfl
@[go_sem] theorem Xez:aC Tryz.prog 119=some ⟨1,false,8,[.az], .func⟩:=by kernel_rfl
@[go_sem] theorem Xgt:bK Tryz.prog 119=some ⟨⟨1,false,8,[.az], .func⟩,[],none,none⟩:=by kernel_rfl
@[go_sem] theorem Xcw:aC Tryz.prog 120=some ⟨1,false,8,[.az], .func⟩:=by kernel_rfl
@[go_sem] theorem Xk3:bK Tryz.prog 120=some ⟨⟨1,false,8,[.az], .func⟩,[],none,none⟩:=by kernel_rfl
@[go_sem] theorem Xd4:aC Tryz.prog 121=some ⟨1,false,8,[.az], .func⟩:=by kernel_rfl
@[go_sem] theorem Xgk:bK Tryz.prog 121=some ⟨⟨1,false,8,[.az], .func⟩,[],none,none⟩:=by kernel_rfl
@[go_sem] theorem Xcj:aC Tryz.prog 122=some ⟨6,true,96,[.aU, .bool false, .int .i64 0, .aU, .int .i64 0, .aU], .struct⟩:=by kernel_rfl
@[go_sem] theorem Xhl:bK Tryz.prog 122=some ⟨⟨6,true,96,[.aU, .bool false, .int .i64 0, .aU, .int .i64 0, .aU], .struct⟩,[(0,some ⟨1,false,24,[.aU], .slice⟩),(1,some ⟨5,true,72,[.bool false, .int .i64 0, .aU, .int .i64 0, .aU], .struct⟩)],none,none⟩:=by kernel_rfl
@[go_sem] theorem Xb3:aC Tryz.prog 123=some ⟨6,true,96,[.aU, .bool false, .int .i64 0, .aU, .int .i64 0, .aU], .struct⟩:=by kernel_rfl
@[go_sem] theorem Xgx:bK Tryz.prog 123=some ⟨⟨6,true,96,[.aU, .bool false, .int .i64 0, .aU, .int .i64 0, .aU], .struct⟩,[(0,some ⟨1,false,24,[.aU], .slice⟩),(1,some ⟨5,true,72,[.bool false, .int .i64 0, .aU, .int .i64 0, .aU], .struct⟩)],none,none⟩:=by kernel_rfl
@[go_sem] theorem Xf5:aC Tryz.prog 124=some ⟨1,false,8,[.az], .func⟩:=by kernel_rfl
@[go_sem] theorem Xjg:bK Tryz.prog 124=some ⟨⟨1,false,8,[.az], .func⟩,[],none,none⟩:=by kernel_rfl
@[go_sem] theorem Xcc:aC Tryz.prog 125=some ⟨1,false,8,[.az], .func⟩:=by kernel_rfl
@[go_sem] theorem Xmo:bK Tryz.prog 125=some ⟨⟨1,false,8,[.az], .func⟩,[],none,none⟩:=by kernel_rfl
@[go_sem] theorem Xar:aC Tryz.prog 126=some ⟨1,false,8,[.az], .func⟩:=by kernel_rfl
@[go_sem] theorem Xkw:bK Tryz.prog 126=some ⟨⟨1,false,8,[.az], .func⟩,[],none,none⟩:=by kernel_rfl
@[go_sem] theorem Xcb:aC Tryz.prog 127=some ⟨1,false,8,[.az], .func⟩:=by kernel_rfl
@[go_sem] theorem Xke:bK Tryz.prog 127=some ⟨⟨1,false,8,[.az], .func⟩,[],none,none⟩:=by kernel_rfl
@[go_sem] theorem Xdq:aC Tryz.prog 128=some ⟨1,false,24,[.aU], .slice⟩:=by kernel_rfl
@[go_sem] theorem Xht:bK Tryz.prog 128=some ⟨⟨1,false,24,[.aU], .slice⟩,[],some ⟨5,true,72,[.int .i64 0, .aU, .int .i64 0, .aU, .int .i64 0], .struct⟩,none⟩:=by kernel_rfl
@[go_sem] theorem Xca:aC Tryz.prog 129=some ⟨1,false,8,[.az], .func⟩:=by kernel_rfl
@[go_sem] theorem Xhr:bK Tryz.prog 129=some ⟨⟨1,false,8,[.az], .func⟩,[],none,none⟩:=by kernel_rfl
@[go_sem] theorem Xfk:aC Tryz.prog 130=some ⟨1,false,8,[.az], .func⟩:=by kernel_rfl
@[go_sem] theorem Xi6:bK Tryz.prog 130=some ⟨⟨1,false,8,[.az], .func⟩,[],none,none⟩:=by kernel_rfl
@[go_sem] theorem Xbm:aC Tryz.prog 131=some ⟨1,false,8,[.az], .func⟩:=by kernel_rfl
@[go_sem] theorem Xkp:bK Tryz.prog 131=some ⟨⟨1,false,8,[.az], .func⟩,[],none,none⟩:=by kernel_rfl
@[go_sem] theorem Xee:aC Tryz.prog 132=some ⟨1,false,8,[.az], .func⟩:=by kernel_rfl
@[go_sem] theorem Xid:bK Tryz.prog 132=some ⟨⟨1,false,8,[.az], .func⟩,[],none,none⟩:=by kernel_rfl
@[go_sem] theorem Xem:aC Tryz.prog 133=some ⟨1,false,8,[.az], .func⟩:=by kernel_rfl
@[go_sem] theorem Xge:bK Tryz.prog 133=some ⟨⟨1,false,8,[.az], .func⟩,[],none,none⟩:=by kernel_rfl
@[go_sem] theorem Xfi:aC Tryz.prog 134=some ⟨1,false,8,[.cw], .map⟩:=by kernel_rfl
@[go_sem] theorem Xj2:bK Tryz.prog 134=some ⟨⟨1,false,8,[.cw], .map⟩,[],some ⟨1,false,8,[.int .i64 0],(.int .i64)⟩,some ⟨1,false,8,[.int .i64 0],(.int .i64)⟩⟩:=by kernel_rfl
@[go_sem] theorem Xcn:aC Tryz.prog 136=some ⟨1,false,8,[.az], .func⟩:=by kernel_rfl
@[go_sem] theorem Xnl:bK Tryz.prog 136=some ⟨⟨1,false,8,[.az], .func⟩,[],none,none⟩:=by kernel_rfl
@[go_sem] theorem Xc0:aC Tryz.prog 137=some ⟨1,true,8,[.az], .struct⟩:=by kernel_rfl
@[go_sem] theorem Xm2:bK Tryz.prog 137=some ⟨⟨1,true,8,[.az], .struct⟩,[(0,some ⟨1,false,8,[.az], .func⟩)],none,none⟩:=by kernel_rfl
@[go_sem] theorem Xfx:aC Tryz.prog 138=some ⟨1,true,8,[.az], .struct⟩:=by kernel_rfl
@[go_sem] theorem Xlw:bK Tryz.prog 138=some ⟨⟨1,true,8,[.az], .struct⟩,[(0,some ⟨1,false,8,[.az], .func⟩)],none,none⟩:=by kernel_rfl
@[go_sem] theorem Xcr:aC Tryz.prog 139=some ⟨1,false,8,[.az], .func⟩:=by kernel_rfl
@[go_sem] theorem Xk9:bK Tryz.prog 139=some ⟨⟨1,false,8,[.az], .func⟩,[],none,none⟩:=by kernel_rfl
@[go_sem] theorem Xbs:aC Tryz.prog 140=some ⟨1,false,8,[.az], .func⟩:=by kernel_rfl
@[go_sem] theorem Xj6:bK Tryz.prog 140=some ⟨⟨1,false,8,[.az], .func⟩,[],none,none⟩:=by kernel_rfl
@[go_sem] theorem Xdz:aC Tryz.prog 141=some ⟨1,false,24,[.aU], .slice⟩:=by kernel_rfl
@[go_sem] theorem Xmm:bK Tryz.prog 141=some ⟨⟨1,false,24,[.aU], .slice⟩,[],some ⟨3,true,40,[.int .i64 0, .int .i64 0, .aU], .struct⟩,none⟩:=by kernel_rfl
@[go_sem] theorem Xbh:aC Tryz.prog 142=some ⟨1,false,8,[.az], .func⟩:=by kernel_rfl
@[go_sem] theorem Xkg:bK Tryz.prog 142=some ⟨⟨1,false,8,[.az], .func⟩,[],none,none⟩:=by kernel_rfl
@[go_sem] theorem Xfb:aC Tryz.prog 143=some ⟨1,false,8,[.az], .func⟩:=by kernel_rfl
@[go_sem] theorem Xm5:bK Tryz.prog 143=some ⟨⟨1,false,8,[.az], .func⟩,[],none,none⟩:=by kernel_rfl
@[go_sem] theorem Xcx:aC Tryz.prog 144=some ⟨1,false,8,[.az], .func⟩:=by kernel_rfl
@[go_sem] theorem Xky:bK Tryz.prog 144=some ⟨⟨1,false,8,[.az], .func⟩,[],none,none⟩:=by kernel_rfl
@[go_sem] theorem Xfy:aC Tryz.prog 145=some ⟨1,false,8,[.az], .func⟩:=by kernel_rfl
@[go_sem] theorem Xio:bK Tryz.prog 145=some ⟨⟨1,false,8,[.az], .func⟩,[],none,none⟩:=by kernel_rfl
@[go_sem] theorem Xfj:aC Tryz.prog 146=some ⟨1,false,8,[.az], .func⟩:=by kernel_rfl
@[go_sem] theorem Xmf:bK Tryz.prog 146=some ⟨⟨1,false,8,[.az], .func⟩,[],none,none⟩:=by kernel_rfl
@[go_sem] theorem Xfr:aC Tryz.prog 147=some ⟨1,false,8,[.az], .func⟩:=by kernel_rfl
@[go_sem] theorem Xnd:bK Tryz.prog 147=some ⟨⟨1,false,8,[.az], .func⟩,[],none,none⟩:=by kernel_rfl
@[go_sem] theorem Xdt:aC Tryz.prog 148=some ⟨1,false,8,[.az], .func⟩:=by kernel_rfl
@[go_sem] theorem Xm0:bK Tryz.prog 148=some ⟨⟨1,false,8,[.az], .func⟩,[],none,none⟩:=by kernel_rfl
@[go_sem] theorem Xdg:aC Tryz.prog 149=some ⟨1,false,8,[.az], .func⟩:=by kernel_rfl
@[go_sem] theorem Xjb:bK Tryz.prog 149=some ⟨⟨1,false,8,[.az], .func⟩,[],none,none⟩:=by kernel_rfl
@[go_sem] theorem Xbv:aC Tryz.prog 150=some ⟨1,false,8,[.az], .func⟩:=by kernel_rfl
@[go_sem] theorem Xnp:bK Tryz.prog 150=some ⟨⟨1,false,8,[.az], .func⟩,[],none,none⟩:=by kernel_rfl
@[go_sem] theorem Xe5:aC Tryz.prog 151=some ⟨1,false,8,[.az], .func⟩:=by kernel_rfl
@[go_sem] theorem Xl9:bK Tryz.prog 151=some ⟨⟨1,false,8,[.az], .func⟩,[],none,none⟩:=by kernel_rfl
@[go_sem] theorem Xf6:aC Tryz.prog 152=some ⟨1,false,8,[.az], .func⟩:=by kernel_rfl
@[go_sem] theorem Xl3:bK Tryz.prog 152=some ⟨⟨1,false,8,[.az], .func⟩,[],none,none⟩:=by kernel_rfl
@[go_sem] theorem Xd2:aC Tryz.prog 153=some ⟨4,true,64,[.int .i64 0, .aU, .int .i64 0, .aU],(.array 2)⟩:=by kernel_rfl
@[go_sem] theorem Xgy:bK Tryz.prog 153=some ⟨⟨4,true,64,[.int .i64 0, .aU, .int .i64 0, .aU],(.array 2)⟩,[],some ⟨2,true,32,[.int .i64 0, .aU], .struct⟩,none⟩:=by kernel_rfl
@[go_sem] theorem Xaw:aC Tryz.prog 154=some ⟨1,false,24,[.aU], .slice⟩:=by kernel_rfl
@[go_sem] theorem Xm9:bK Tryz.prog 154=some ⟨⟨1,false,24,[.aU], .slice⟩,[],some ⟨4,true,64,[.int .i64 0, .aU, .int .i64 0, .aU],(.array 2)⟩,none⟩:=by kernel_rfl
@[go_sem] theorem Xf9:aC Tryz.prog 155=some ⟨1,false,8,[.az], .func⟩:=by kernel_rfl
@[go_sem] theorem Xmv:bK Tryz.prog 155=some ⟨⟨1,false,8,[.az], .func⟩,[],none,none⟩:=by kernel_rfl
@[go_sem] theorem Xfn:aC Tryz.prog 156=some ⟨1,false,8,[.az], .func⟩:=by kernel_rfl
@[go_sem] theorem Xjd:bK Tryz.prog 156=some ⟨⟨1,false,8,[.az], .func⟩,[],none,none⟩:=by kernel_rfl
@[go_sem] theorem Xd7:aC Tryz.prog 157=some ⟨1,false,8,[.az], .func⟩:=by kernel_rfl
@[go_sem] theorem Xg6:bK Tryz.prog 157=some ⟨⟨1,false,8,[.az], .func⟩,[],none,none⟩:=by kernel_rfl
@[go_sem] theorem Xg2:aC Tryz.prog 158=some ⟨1,false,24,[.aU], .slice⟩:=by kernel_rfl
@[go_sem] theorem Xkb:bK Tryz.prog 158=some ⟨⟨1,false,24,[.aU], .slice⟩,[],some ⟨1,false,8,[.az], .func⟩,none⟩:=by kernel_rfl
@[go_sem] theorem Xdl:aC Tryz.prog 159=some ⟨1,false,8,[.az], .func⟩:=by kernel_rfl
@[go_sem] theorem Xix:bK Tryz.prog 159=some ⟨⟨1,false,8,[.az], .func⟩,[],none,none⟩:=by kernel_rfl
@[go_sem] theorem Xdc:aC Tryz.prog 160=some ⟨5,true,72,[.int .i64 0, .aU, .int .i64 0, .aU, .int .i64 0], .struct⟩:=by kernel_rfl
@[go_sem] theorem Xie:bK Tryz.prog 160=some ⟨⟨5,true,72,[.int .i64 0, .aU, .int .i64 0, .aU, .int .i64 0], .struct⟩,[(0,some ⟨2,true,32,[.int .i64 0, .aU], .struct⟩),(2,some ⟨2,true,32,[.int .i64 0, .aU], .struct⟩),(4,some ⟨1,false,8,[.int .i64 0],(.int .i64)⟩)],none,none⟩:=by kernel_rfl
@[go_sem] theorem Xe6:aC Tryz.prog 161=some ⟨5,true,72,[.int .i64 0, .aU, .int .i64 0, .aU, .int .i64 0], .struct⟩:=by kernel_rfl
@[go_sem] theorem Xhz:bK Tryz.prog 161=some ⟨⟨5,true,72,[.int .i64 0, .aU, .int .i64 0, .aU, .int .i64 0], .struct⟩,[(0,some ⟨2,true,32,[.int .i64 0, .aU], .struct⟩),(2,some ⟨2,true,32,[.int .i64 0, .aU], .struct⟩),(4,some ⟨1,false,8,[.int .i64 0],(.int .i64)⟩)],none,none⟩:=by kernel_rfl
@[go_sem] theorem Xeh:aC Tryz.prog 162=some ⟨1,false,8,[.az], .func⟩:=by kernel_rfl
@[go_sem] theorem Xje:bK Tryz.prog 162=some ⟨⟨1,false,8,[.az], .func⟩,[],none,none⟩:=by kernel_rfl
@[go_sem] theorem Xew:aC Tryz.prog 163=some ⟨1,false,8,[.az], .func⟩:=by kernel_rfl
@[go_sem] theorem Xg7:bK Tryz.prog 163=some ⟨⟨1,false,8,[.az], .func⟩,[],none,none⟩:=by kernel_rfl
@[go_sem] theorem Xdp:aC Tryz.prog 164=some ⟨1,false,8,[.az], .func⟩:=by kernel_rfl
@[go_sem] theorem Xj9:bK Tryz.prog 164=some ⟨⟨1,false,8,[.az], .func⟩,[],none,none⟩:=by kernel_rfl
@[go_sem] theorem Xeo:aC Tryz.prog 165=some ⟨1,false,8,[.az], .func⟩:=by kernel_rfl
@[go_sem] theorem Xjf:bK Tryz.prog 165=some ⟨⟨1,false,8,[.az], .func⟩,[],none,none⟩:=by kernel_rfl
@[go_sem] theorem Xc2:aC Tryz.prog 166=some ⟨1,false,8,[.az], .func⟩:=by kernel_rfl
@[go_sem] theorem Xh9:bK Tryz.prog 166=some ⟨⟨1,false,8,[.az], .func⟩,[],none,none⟩:=by kernel_rfl
@[go_sem] theorem Xd8:aC Tryz.prog 167=some ⟨5,true,72,[.int .i64 0, .bool false, .aU, .int .i64 0, .aU], .struct⟩:=by kernel_rfl
@[go_sem] theorem Xne:bK Tryz.prog 167=some ⟨⟨5,true,72,[.int .i64 0, .bool false, .aU, .int .i64 0, .aU], .struct⟩,[(0,some ⟨1,false,8,[.int .i64 0],(.int .i64)⟩),(1,some ⟨1,false,1,[.bool false], .bool⟩),(2,some ⟨1,false,24,[.aU], .slice⟩),(3,some ⟨2,true,32,[.int .i64 0, .aU], .struct⟩)],none,none⟩:=by kernel_rfl
@[go_sem] theorem Xdm:aC Tryz.prog 168=some ⟨5,true,72,[.int .i64 0, .bool false, .aU, .int .i64 0, .aU], .struct⟩:=by kernel_rfl
@[go_sem] theorem Xnk:bK Tryz.prog 168=some ⟨⟨5,true,72,[.int .i64 0, .bool false, .aU, .int .i64 0, .aU], .struct⟩,[(0,some ⟨1,false,8,[.int .i64 0],(.int .i64)⟩),(1,some ⟨1,false,1,[.bool false], .bool⟩),(2,some ⟨1,false,24,[.aU], .slice⟩),(3,some ⟨2,true,32,[.int .i64 0, .aU], .struct⟩)],none,none⟩:=by kernel_rfl
@[go_sem] theorem Xd3:aC Tryz.prog 170=some ⟨1,false,8,[.az], .func⟩:=by kernel_rfl
@[go_sem] theorem Xlv:bK Tryz.prog 170=some ⟨⟨1,false,8,[.az], .func⟩,[],none,none⟩:=by kernel_rfl
@[go_sem] theorem Xdn:aC Tryz.prog 171=some ⟨1,false,8,[.az], .func⟩:=by kernel_rfl
@[go_sem] theorem Xib:bK Tryz.prog 171=some ⟨⟨1,false,8,[.az], .func⟩,[],none,none⟩:=by kernel_rfl
@[go_sem] theorem Xck:aC Tryz.prog 172=some ⟨1,false,8,[.az], .func⟩:=by kernel_rfl
@[go_sem] theorem Xlh:bK Tryz.prog 172=some ⟨⟨1,false,8,[.az], .func⟩,[],none,none⟩:=by kernel_rfl
@[go_sem] theorem Xb7:aC Tryz.prog 173=some ⟨1,false,8,[.az], .func⟩:=by kernel_rfl
@[go_sem] theorem Xm3:bK Tryz.prog 173=some ⟨⟨1,false,8,[.az], .func⟩,[],none,none⟩:=by kernel_rfl
@[go_sem] theorem Xea:aC Tryz.prog 174=some ⟨1,false,8,[.az], .func⟩:=by kernel_rfl
@[go_sem] theorem Xhk:bK Tryz.prog 174=some ⟨⟨1,false,8,[.az], .func⟩,[],none,none⟩:=by kernel_rfl
@[go_sem] theorem Xbl:aC Tryz.prog 175=some ⟨3,true,40,[.int .i64 0, .int .i64 0, .aU], .struct⟩:=by kernel_rfl
@[go_sem] theorem Xi9:bK Tryz.prog 175=some ⟨⟨3,true,40,[.int .i64 0, .int .i64 0, .aU], .struct⟩,[(0,some ⟨1,false,8,[.int .i64 0],(.int .i64)⟩),(1,some ⟨2,true,32,[.int .i64 0, .aU], .struct⟩)],none,none⟩:=by kernel_rfl
@[go_sem] theorem Xch:aC Tryz.prog 176=some ⟨3,true,40,[.int .i64 0, .int .i64 0, .aU], .struct⟩:=by kernel_rfl
@[go_sem] theorem Xlq:bK Tryz.prog 176=some ⟨⟨3,true,40,[.int .i64 0, .int .i64 0, .aU], .struct⟩,[(0,some ⟨1,false,8,[.int .i64 0],(.int .i64)⟩),(1,some ⟨2,true,32,[.int .i64 0, .aU], .struct⟩)],none,none⟩:=by kernel_rfl
@[go_sem] theorem Xdk:aC Tryz.prog 178=some ⟨1,false,8,[.az], .func⟩:=by kernel_rfl
@[go_sem] theorem Xmg:bK Tryz.prog 178=some ⟨⟨1,false,8,[.az], .func⟩,[],none,none⟩:=by kernel_rfl
@[go_sem] theorem Xe7:aC Tryz.prog 179=some ⟨1,false,8,[.az], .func⟩:=by kernel_rfl
@[go_sem] theorem Xlp:bK Tryz.prog 179=some ⟨⟨1,false,8,[.az], .func⟩,[],none,none⟩:=by kernel_rfl
@[go_sem] theorem Xfd:aC Tryz.prog 180=some ⟨1,false,8,[.az], .func⟩:=by kernel_rfl
@[go_sem] theorem Xh4:bK Tryz.prog 180=some ⟨⟨1,false,8,[.az], .func⟩,[],none,none⟩:=by kernel_rfl
@[go_sem] theorem Xc9:aC Tryz.prog 181=some ⟨1,false,24,[.aU], .slice⟩:=by kernel_rfl
@[go_sem] theorem Xja:bK Tryz.prog 181=some ⟨⟨1,false,24,[.aU], .slice⟩,[],some ⟨1,false,24,[.aU], .slice⟩,none⟩:=by kernel_rfl
@[go_sem] theorem Xfh:aC Tryz.prog 182=some ⟨1,false,8,[.az], .func⟩:=by kernel_rfl
@[go_sem] theorem Xjk:bK Tryz.prog 182=some ⟨⟨1,false,8,[.az], .func⟩,[],none,none⟩:=by kernel_rfl
@[go_sem] theorem Xe8:aC Tryz.prog 183=some ⟨1,false,8,[.az], .func⟩:=by kernel_rfl
@[go_sem] theorem Xk5:bK Tryz.prog 183=some ⟨⟨1,false,8,[.az], .func⟩,[],none,none⟩:=by kernel_rfl
@[go_sem] theorem Xfl:aC Tryz.prog 184=some ⟨1,false,8,[.az], .func⟩:=by kernel_rfl
@[go_sem] theorem Xmj:bK Tryz.prog 184=some ⟨⟨1,false,8,[.az], .func⟩,[],none,none⟩:=by kernel_rfl
@[go_sem] theorem Xbt:aC Tryz.prog 185=some ⟨3,true,40,[.int .i64 0, .aU, .int .i64 0], .struct⟩:=by kernel_rfl
@[go_sem] theorem Xj5:bK Tryz.prog 185=some ⟨⟨3,true,40,[.int .i64 0, .aU, .int .i64 0], .struct⟩,[(0,some ⟨2,true,32,[.int .i64 0, .aU], .struct⟩),(2,some ⟨1,false,8,[.int .i64 0],(.int .i64)⟩)],none,none⟩:=by kernel_rfl
@[go_sem] theorem Xc4:aC Tryz.prog 186=some ⟨3,true,40,[.int .i64 0, .aU, .int .i64 0], .struct⟩:=by kernel_rfl
@[go_sem] theorem Xj8:bK Tryz.prog 186=some ⟨⟨3,true,40,[.int .i64 0, .aU, .int .i64 0], .struct⟩,[(0,some ⟨2,true,32,[.int .i64 0, .aU], .struct⟩),(2,some ⟨1,false,8,[.int .i64 0],(.int .i64)⟩)],none,none⟩:=by kernel_rfl
@[go_sem] theorem Xd9:aC Tryz.prog 187=some ⟨1,false,24,[.aU], .slice⟩:=by kernel_rfl
@[go_sem] theorem Xli:bK Tryz.prog 187=some ⟨⟨1,false,24,[.aU], .slice⟩,[],some ⟨3,true,40,[.int .i64 0, .aU, .int .i64 0], .struct⟩,none⟩:=by kernel_rfl
@[go_sem] theorem Xdv:aC Tryz.prog 188=some ⟨1,false,8,[.az], .func⟩:=by kernel_rfl
@[go_sem] theorem Xhd:bK Tryz.prog 188=some ⟨⟨1,false,8,[.az], .func⟩,[],none,none⟩:=by kernel_rfl
@[go_sem] theorem Xek:aC Tryz.prog 189=some ⟨1,false,8,[.az], .func⟩:=by kernel_rfl
@[go_sem] theorem Xi3:bK Tryz.prog 189=some ⟨⟨1,false,8,[.az], .func⟩,[],none,none⟩:=by kernel_rfl
@[go_sem] theorem Xdr:aC Tryz.prog 190=some ⟨1,false,8,[.az], .func⟩:=by kernel_rfl
@[go_sem] theorem Xi5:bK Tryz.prog 190=some ⟨⟨1,false,8,[.az], .func⟩,[],none,none⟩:=by kernel_rfl
@[go_sem] theorem Xcf:aC Tryz.prog 191=some ⟨1,false,8,[.az], .func⟩:=by kernel_rfl
@[go_sem] theorem Xk7:bK Tryz.prog 191=some ⟨⟨1,false,8,[.az], .func⟩,[],none,none⟩:=by kernel_rfl
@[go_sem] theorem Xce:aC Tryz.prog 192=some ⟨1,false,8,[.az], .func⟩:=by kernel_rfl
@[go_sem] theorem Xkl:bK Tryz.prog 192=some ⟨⟨1,false,8,[.az], .func⟩,[],none,none⟩:=by kernel_rfl
@[go_sem] theorem Xbg:aC Tryz.prog 193=some ⟨1,false,8,[.az], .func⟩:=by kernel_rfl
@[go_sem] theorem Xns:bK Tryz.prog 193=some ⟨⟨1,false,8,[.az], .func⟩,[],none,none⟩:=by kernel_rfl
@[go_sem] theorem Xd0:aC Tryz.prog 194=some ⟨1,false,8,[.az], .func⟩:=by kernel_rfl
@[go_sem] theorem Xhf:bK Tryz.prog 194=some ⟨⟨1,false,8,[.az], .func⟩,[],none,none⟩:=by kernel_rfl
@[go_sem] theorem Xau:aC Tryz.prog 195=some ⟨1,false,8,[.az], .func⟩:=by kernel_rfl
@[go_sem] theorem Xld:bK Tryz.prog 195=some ⟨⟨1,false,8,[.az], .func⟩,[],none,none⟩:=by kernel_rfl
@[go_sem] theorem Xbf:aC Tryz.prog 196=some ⟨1,false,8,[.az], .func⟩:=by kernel_rfl
@[go_sem] theorem Xhj:bK Tryz.prog 196=some ⟨⟨1,false,8,[.az], .func⟩,[],none,none⟩:=by kernel_rfl
@[go_sem] theorem Xc7:aC Tryz.prog 198=some ⟨1,false,8,[.az], .func⟩:=by kernel_rfl
@[go_sem] theorem Xgc:bK Tryz.prog 198=some ⟨⟨1,false,8,[.az], .func⟩,[],none,none⟩:=by kernel_rfl
@[go_sem] theorem Xdh:aC Tryz.prog 200=some ⟨1,false,8,[.az], .func⟩:=by kernel_rfl
@[go_sem] theorem Xj7:bK Tryz.prog 200=some ⟨⟨1,false,8,[.az], .func⟩,[],none,none⟩:=by kernel_rfl
@[go_sem] theorem Xc6:aC Tryz.prog 202=some ⟨1,false,8,[.az], .func⟩:=by kernel_rfl
@[go_sem] theorem Xlo:bK Tryz.prog 202=some ⟨⟨1,false,8,[.az], .func⟩,[],none,none⟩:=by kernel_rfl
@[go_sem] theorem Xeb:aC Tryz.prog 203=some ⟨1,false,8,[.az], .func⟩:=by kernel_rfl
@[go_sem] theorem Xkc:bK Tryz.prog 203=some ⟨⟨1,false,8,[.az], .func⟩,[],none,none⟩:=by kernel_rfl
@[go_sem] theorem Xes:aC Tryz.prog 204=some ⟨1,false,8,[.bM], .ptr⟩:=by kernel_rfl
@[go_sem] theorem Xji:bK Tryz.prog 204=some ⟨⟨1,false,8,[.bM], .ptr⟩,[],none,none⟩:=by kernel_rfl
@[go_sem] theorem Xe9:aC Tryz.prog 205=some ⟨1,false,8,[.az], .func⟩:=by kernel_rfl
@[go_sem] theorem Xi0:bK Tryz.prog 205=some ⟨⟨1,false,8,[.az], .func⟩,[],none,none⟩:=by kernel_rfl
@[go_sem] theorem Xan:aC Tryz.prog 206=some ⟨1,false,8,[.az], .func⟩:=by kernel_rfl
@[go_sem] theorem Xma:bK Tryz.prog 206=some ⟨⟨1,false,8,[.az], .func⟩,[],none,none⟩:=by kernel_rfl
@[go_sem] theorem Xe0:aC Tryz.prog 207=some ⟨1,false,8,[.az], .func⟩:=by kernel_rfl
@[go_sem] theorem Xlz:bK Tryz.prog 207=some ⟨⟨1,false,8,[.az], .func⟩,[],none,none⟩:=by kernel_rfl
@[go_sem] theorem Xfz:aC Tryz.prog 208=some ⟨1,false,8,[.az], .func⟩:=by kernel_rfl
@[go_sem] theorem Xn7:bK Tryz.prog 208=some ⟨⟨1,false,8,[.az], .func⟩,[],none,none⟩:=by kernel_rfl
@[go_sem] theorem Xd5:aC Tryz.prog 209=some ⟨1,false,8,[.az], .func⟩:=by kernel_rfl
@[go_sem] theorem Xjl:bK Tryz.prog 209=some ⟨⟨1,false,8,[.az], .func⟩,[],none,none⟩:=by kernel_rfl
@[go_sem] theorem Xdx:aC Tryz.prog 210=some ⟨1,false,8,[.az], .func⟩:=by kernel_rfl
@[go_sem] theorem Xk1:bK Tryz.prog 210=some ⟨⟨1,false,8,[.az], .func⟩,[],none,none⟩:=by kernel_rfl
@[go_sem] theorem Xdf:aC Tryz.prog 212=some ⟨1,false,8,[.az], .func⟩:=by kernel_rfl
@[go_sem] theorem Xmp:bK Tryz.prog 212=some ⟨⟨1,false,8,[.az], .func⟩,[],none,none⟩:=by kernel_rfl
@[go_sem] theorem Xcp:aC Tryz.prog 213=some ⟨1,false,8,[.az], .func⟩:=by kernel_rfl
@[go_sem] theorem Xlm:bK Tryz.prog 213=some ⟨⟨1,false,8,[.az], .func⟩,[],none,none⟩:=by kernel_rfl
@[go_sem] theorem Xf7:aC Tryz.prog 214=some ⟨1,false,8,[.az], .func⟩:=by kernel_rfl
@[go_sem] theorem Xh7:bK Tryz.prog 214=some ⟨⟨1,false,8,[.az], .func⟩,[],none,none⟩:=by kernel_rfl
@[go_sem] theorem Xf4:aC Tryz.prog 215=some ⟨1,false,8,[.az], .func⟩:=by kernel_rfl
@[go_sem] theorem Xni:bK Tryz.prog 215=some ⟨⟨1,false,8,[.az], .func⟩,[],none,none⟩:=by kernel_rfl
@[go_sem] theorem Xe2:aC Tryz.prog 216=some ⟨1,false,8,[.az], .func⟩:=by kernel_rfl
@[go_sem] theorem Xkz:bK Tryz.prog 216=some ⟨⟨1,false,8,[.az], .func⟩,[],none,none⟩:=by kernel_rfl
@[go_sem] theorem Xbo:aC Tryz.prog 217=some ⟨1,false,8,[.az], .func⟩:=by kernel_rfl
@[go_sem] theorem Xjj:bK Tryz.prog 217=some ⟨⟨1,false,8,[.az], .func⟩,[],none,none⟩:=by kernel_rfl
@[go_sem] theorem Xb0:aC Tryz.prog 218=some ⟨1,false,8,[.az], .func⟩:=by kernel_rfl
@[go_sem] theorem Xl5:bK Tryz.prog 218=some ⟨⟨1,false,8,[.az], .func⟩,[],none,none⟩:=by kernel_rfl
@[go_sem] theorem Xf2:aC Tryz.prog 219=some ⟨1,false,8,[.az], .func⟩:=by kernel_rfl
@[go_sem] theorem Xif:bK Tryz.prog 219=some ⟨⟨1,false,8,[.az], .func⟩,[],none,none⟩:=by kernel_rfl
@[go_sem] theorem Xc5:aC Tryz.prog 220=some ⟨1,false,8,[.az], .func⟩:=by kernel_rfl
@[go_sem] theorem Xg8:bK Tryz.prog 220=some ⟨⟨1,false,8,[.az], .func⟩,[],none,none⟩:=by kernel_rfl
@[go_sem] theorem Xcs:aC Tryz.prog 221=some ⟨1,false,8,[.cw], .map⟩:=by kernel_rfl
@[go_sem] theorem Xno:bK Tryz.prog 221=some ⟨⟨1,false,8,[.cw], .map⟩,[],some ⟨2,true,32,[.int .i64 0, .aU], .struct⟩,some ⟨1,false,8,[.int .i64 0],(.int .i64)⟩⟩:=by kernel_rfl
@[go_sem] theorem Xbc:aC Tryz.prog 222=some ⟨1,false,8,[.az], .func⟩:=by kernel_rfl
@[go_sem] theorem Xi4:bK Tryz.prog 222=some ⟨⟨1,false,8,[.az], .func⟩,[],none,none⟩:=by kernel_rfl
@[go_sem] theorem Xev:aC Tryz.prog 223=some ⟨1,false,8,[.az], .func⟩:=by kernel_rfl
@[go_sem] theorem Xn5:bK Tryz.prog 223=some ⟨⟨1,false,8,[.az], .func⟩,[],none,none⟩:=by kernel_rfl
@[go_sem] theorem Xdu:aC Tryz.prog 224=some ⟨1,false,8,[.az], .func⟩:=by kernel_rfl
@[go_sem] theorem Xn4:bK Tryz.prog 224=some ⟨⟨1,false,8,[.az], .func⟩,[],none,none⟩:=by kernel_rfl
@[go_sem] theorem Xba:aC Tryz.prog 225=some ⟨1,false,8,[.az], .func⟩:=by kernel_rfl
@[go_sem] theorem Xi7:bK Tryz.prog 225=some ⟨⟨1,false,8,[.az], .func⟩,[],none,none⟩:=by kernel_rfl
@[go_sem] theorem Xbz:aC Tryz.prog 226=some ⟨1,false,8,[.az], .func⟩:=by kernel_rfl
@[go_sem] theorem Xgv:bK Tryz.prog 226=some ⟨⟨1,false,8,[.az], .func⟩,[],none,none⟩:=by kernel_rfl
@[go_sem] theorem Xcg:aC Tryz.prog 227=some ⟨1,false,8,[.az], .func⟩:=by kernel_rfl
@[go_sem] theorem Xik:bK Tryz.prog 227=some ⟨⟨1,false,8,[.az], .func⟩,[],none,none⟩:=by kernel_rfl
@[go_sem] theorem Xdw:aC Tryz.prog 228=some ⟨1,false,8,[.bM], .ptr⟩:=by kernel_rfl
@[go_sem] theorem Xlb:bK Tryz.prog 228=some ⟨⟨1,false,8,[.bM], .ptr⟩,[],none,none⟩:=by kernel_rfl
@[go_sem] theorem Xdj:aC Tryz.prog 229=some ⟨1,false,8,[.az], .func⟩:=by kernel_rfl
@[go_sem] theorem Xgs:bK Tryz.prog 229=some ⟨⟨1,false,8,[.az], .func⟩,[],none,none⟩:=by kernel_rfl
@[go_sem] theorem Xb5:aC Tryz.prog 230=some ⟨1,false,8,[.az], .func⟩:=by kernel_rfl
@[go_sem] theorem Xmn:bK Tryz.prog 230=some ⟨⟨1,false,8,[.az], .func⟩,[],none,none⟩:=by kernel_rfl
@[go_sem] theorem Xg0:aC Tryz.prog 231=some ⟨1,false,8,[.az], .func⟩:=by kernel_rfl
@[go_sem] theorem Xk8:bK Tryz.prog 231=some ⟨⟨1,false,8,[.az], .func⟩,[],none,none⟩:=by kernel_rfl
@[go_sem] theorem Xb6:aC Tryz.prog 232=some ⟨1,false,8,[.az], .func⟩:=by kernel_rfl
@[go_sem] theorem Xhi:bK Tryz.prog 232=some ⟨⟨1,false,8,[.az], .func⟩,[],none,none⟩:=by kernel_rfl
@[go_sem] theorem Xeg:aC Tryz.prog 233=some ⟨1,false,8,[.az], .func⟩:=by kernel_rfl
@[go_sem] theorem Xmt:bK Tryz.prog 233=some ⟨⟨1,false,8,[.az], .func⟩,[],none,none⟩:=by kernel_rfl
@[go_sem] theorem Xd1:aC Tryz.prog 234=some ⟨1,false,8,[.az], .func⟩:=by kernel_rfl
@[go_sem] theorem Xj1:bK Tryz.prog 234=some ⟨⟨1,false,8,[.az], .func⟩,[],none,none⟩:=by kernel_rfl
@[go_sem] theorem Xbx:aC Tryz.prog 235=some ⟨1,false,8,[.az], .func⟩:=by kernel_rfl
@[go_sem] theorem Xih:bK Tryz.prog 235=some ⟨⟨1,false,8,[.az], .func⟩,[],none,none⟩:=by kernel_rfl
@[go_sem] theorem Xcz:aC Tryz.prog 236=some ⟨1,false,8,[.az], .func⟩:=by kernel_rfl
@[go_sem] theorem Xjm:bK Tryz.prog 236=some ⟨⟨1,false,8,[.az], .func⟩,[],none,none⟩:=by kernel_rfl
@[go_sem] theorem Xfq:aC Tryz.prog 237=some ⟨1,false,8,[.az], .func⟩:=by kernel_rfl
@[go_sem] theorem Xhm:bK Tryz.prog 237=some ⟨⟨1,false,8,[.az], .func⟩,[],none,none⟩:=by kernel_rfl
@[go_sem] theorem Xcy:aC Tryz.prog 238=some ⟨1,false,8,[.az], .func⟩:=by kernel_rfl
@[go_sem] theorem Xkr:bK Tryz.prog 238=some ⟨⟨1,false,8,[.az], .func⟩,[],none,none⟩:=by kernel_rfl
@[go_sem] theorem Xff:aC Tryz.prog 239=some ⟨1,false,8,[.az], .func⟩:=by kernel_rfl
@[go_sem] theorem Xj4:bK Tryz.prog 239=some ⟨⟨1,false,8,[.az], .func⟩,[],none,none⟩:=by kernel_rfl
@[go_sem] theorem Xfs:aC Tryz.prog 240=some ⟨1,false,8,[.az], .func⟩:=by kernel_rfl
@[go_sem] theorem Xmd:bK Tryz.prog 240=some ⟨⟨1,false,8,[.az], .func⟩,[],none,none⟩:=by kernel_rfl
@[go_sem] theorem Xf3:aC Tryz.prog 241=some ⟨1,false,8,[.az], .func⟩:=by kernel_rfl
@[go_sem] theorem Xjv:bK Tryz.prog 241=some ⟨⟨1,false,8,[.az], .func⟩,[],none,none⟩:=by kernel_rfl
@[go_sem] theorem Xfu:aC Tryz.prog 242=some ⟨1,false,8,[.bM], .ptr⟩:=by kernel_rfl
@[go_sem] theorem Xls:bK Tryz.prog 242=some ⟨⟨1,false,8,[.bM], .ptr⟩,[],none,none⟩:=by kernel_rfl
@[go_sem] theorem Xey:aC Tryz.prog 243=some ⟨2,true,16,[.int .i64 0, .cw], .struct⟩:=by kernel_rfl
@[go_sem] theorem Xko:bK Tryz.prog 243=some ⟨⟨2,true,16,[.int .i64 0, .cw], .struct⟩,[(0,some ⟨1,false,8,[.int .i64 0],(.int .i64)⟩),(1,some ⟨1,false,8,[.cw], .map⟩)],none,none⟩:=by kernel_rfl
@[go_sem] theorem Xb1:aC Tryz.prog 244=some ⟨2,true,16,[.int .i64 0, .cw], .struct⟩:=by kernel_rfl
@[go_sem] theorem Xl7:bK Tryz.prog 244=some ⟨⟨2,true,16,[.int .i64 0, .cw], .struct⟩,[(0,some ⟨1,false,8,[.int .i64 0],(.int .i64)⟩),(1,some ⟨1,false,8,[.cw], .map⟩)],none,none⟩:=by kernel_rfl
@[go_sem] theorem Xe3:aC Tryz.prog 245=some ⟨1,false,8,[.az], .func⟩:=by kernel_rfl
@[go_sem] theorem Xkt:bK Tryz.prog 245=some ⟨⟨1,false,8,[.az], .func⟩,[],none,none⟩:=by kernel_rfl
@[go_sem] theorem Xby:aC Tryz.prog 246=some ⟨1,false,8,[.az], .func⟩:=by kernel_rfl
@[go_sem] theorem Xju:bK Tryz.prog 246=some ⟨⟨1,false,8,[.az], .func⟩,[],none,none⟩:=by kernel_rfl
@[go_sem] theorem Xay:aC Tryz.prog 247=some ⟨1,false,8,[.az], .func⟩:=by kernel_rfl
@[go_sem] theorem Xkn:bK Tryz.prog 247=some ⟨⟨1,false,8,[.az], .func⟩,[],none,none⟩:=by kernel_rfl
@[go_sem] theorem Xb2:aC Tryz.prog 248=some ⟨1,false,8,[.az], .func⟩:=by kernel_rfl
@[go_sem] theorem Xip:bK Tryz.prog 248=some ⟨⟨1,false,8,[.az], .func⟩,[],none,none⟩:=by kernel_rfl
@[go_sem] theorem Xao:aC Tryz.prog 249=some ⟨1,false,8,[.az], .func⟩:=by kernel_rfl
@[go_sem] theorem Xjw:bK Tryz.prog 249=some ⟨⟨1,false,8,[.az], .func⟩,[],none,none⟩:=by kernel_rfl
@[go_sem] theorem Xep:aC Tryz.prog 250=some ⟨1,false,8,[.az], .func⟩:=by kernel_rfl
@[go_sem] theorem Xme:bK Tryz.prog 250=some ⟨⟨1,false,8,[.az], .func⟩,[],none,none⟩:=by kernel_rfl
@[go_sem] theorem Xex:aC Tryz.prog 251=some ⟨1,false,8,[.az], .func⟩:=by kernel_rfl
@[go_sem] theorem Xms:bK Tryz.prog 251=some ⟨⟨1,false,8,[.az], .func⟩,[],none,none⟩:=by kernel_rfl
@[go_sem] theorem Xef:aC Tryz.prog 252=some ⟨1,false,8,[.az], .func⟩:=by kernel_rfl
@[go_sem] theorem Xle:bK Tryz.prog 252=some ⟨⟨1,false,8,[.az], .func⟩,[],none,none⟩:=by kernel_rfl
@[go_sem] theorem Xfw:aC Tryz.prog 253=some ⟨1,false,8,[.az], .func⟩:=by kernel_rfl
@[go_sem] theorem Xhb:bK Tryz.prog 253=some ⟨⟨1,false,8,[.az], .func⟩,[],none,none⟩:=by kernel_rfl
@[go_sem] theorem Xbb:aC Tryz.prog 255=some ⟨1,false,8,[.az], .func⟩:=by kernel_rfl
@[go_sem] theorem Xgb:bK Tryz.prog 255=some ⟨⟨1,false,8,[.az], .func⟩,[],none,none⟩:=by kernel_rfl
@[go_sem] theorem Xeq:aC Tryz.prog 256=some ⟨1,false,8,[.az], .func⟩:=by kernel_rfl
@[go_sem] theorem Xir:bK Tryz.prog 256=some ⟨⟨1,false,8,[.az], .func⟩,[],none,none⟩:=by kernel_rfl
@[go_sem] theorem Xg3:aC Tryz.prog 257=some ⟨1,false,8,[.az], .func⟩:=by kernel_rfl
@[go_sem] theorem Xii:bK Tryz.prog 257=some ⟨⟨1,false,8,[.az], .func⟩,[],none,none⟩:=by kernel_rfl
@[go_sem] theorem Xfa:aC Tryz.prog 258=some ⟨1,false,8,[.az], .func⟩:=by kernel_rfl
@[go_sem] theorem Xit:bK Tryz.prog 258=some ⟨⟨1,false,8,[.az], .func⟩,[],none,none⟩:=by kernel_rfl
@[go_sem] theorem Xb4:aC Tryz.prog 259=some ⟨1,false,8,[.az], .func⟩:=by kernel_rfl
@[go_sem] theorem Xjr:bK Tryz.prog 259=some ⟨⟨1,false,8,[.az], .func⟩,[],none,none⟩:=by kernel_rfl
@[go_sem] theorem Xel:aC Tryz.prog 260=some ⟨1,false,8,[.az], .func⟩:=by kernel_rfl
@[go_sem] theorem Xl6:bK Tryz.prog 260=some ⟨⟨1,false,8,[.az], .func⟩,[],none,none⟩:=by kernel_rfl
@[go_sem] theorem Xc3:aC Tryz.prog 261=some ⟨1,false,8,[.az], .func⟩:=by kernel_rfl
@[go_sem] theorem Xg9:bK Tryz.prog 261=some ⟨⟨1,false,8,[.az], .func⟩,[],none,none⟩:=by kernel_rfl
@[go_sem] theorem Xbj:aC Tryz.prog 262=some ⟨1,false,8,[.az], .func⟩:=by kernel_rfl
@[go_sem] theorem Xkv:bK Tryz.prog 262=some ⟨⟨1,false,8,[.az], .func⟩,[],none,none⟩:=by kernel_rfl
@[go_sem] theorem Xec:aC Tryz.prog 263=some ⟨1,false,8,[.az], .func⟩:=by kernel_rfl
@[go_sem] theorem Xh0:bK Tryz.prog 263=some ⟨⟨1,false,8,[.az], .func⟩,[],none,none⟩:=by kernel_rfl
@[go_sem] theorem Xb9:aC Tryz.prog 264=some ⟨1,false,8,[.az], .func⟩:=by kernel_rfl
@[go_sem] theorem Xhx:bK Tryz.prog 264=some ⟨⟨1,false,8,[.az], .func⟩,[],none,none⟩:=by kernel_rfl
@[go_sem] theorem Xbe:aC Tryz.prog 265=some ⟨1,false,8,[.int .u64 0],(.int .u64)⟩:=by kernel_rfl
@[go_sem] theorem Xlc:bK Tryz.prog 265=some ⟨⟨1,false,8,[.int .u64 0],(.int .u64)⟩,[],none,none⟩:=by kernel_rfl
@[go_sem] theorem Xdy:aC Tryz.prog 266=some ⟨1,false,24,[.aU], .slice⟩:=by kernel_rfl
@[go_sem] theorem Xkx:bK Tryz.prog 266=some ⟨⟨1,false,24,[.aU], .slice⟩,[],some ⟨1,false,24,[.aU], .slice⟩,none⟩:=by kernel_rfl
@[go_sem] theorem Xfv:aC Tryz.prog 267=some ⟨1,false,8,[.az], .func⟩:=by kernel_rfl
@[go_sem] theorem Xjp:bK Tryz.prog 267=some ⟨⟨1,false,8,[.az], .func⟩,[],none,none⟩:=by kernel_rfl
@[go_sem] theorem Xde:aC Tryz.prog 268=some ⟨1,false,8,[.az], .func⟩:=by kernel_rfl
@[go_sem] theorem Xil:bK Tryz.prog 268=some ⟨⟨1,false,8,[.az], .func⟩,[],none,none⟩:=by kernel_rfl
@[go_sem] theorem Xfg:aC Tryz.prog 269=some ⟨1,false,8,[.az], .func⟩:=by kernel_rfl
@[go_sem] theorem Xj3:bK Tryz.prog 269=some ⟨⟨1,false,8,[.az], .func⟩,[],none,none⟩:=by kernel_rfl
@[go_sem] theorem Xcv:aC Tryz.prog 270=some ⟨1,false,8,[.az], .func⟩:=by kernel_rfl
@[go_sem] theorem Xn6:bK Tryz.prog 270=some ⟨⟨1,false,8,[.az], .func⟩,[],none,none⟩:=by kernel_rfl
@[go_sem] theorem Xft:aC Tryz.prog 271=some ⟨1,false,8,[.int .i64 0],(.int .i64)⟩:=by kernel_rfl
@[go_sem] theorem Xm4:bK Tryz.prog 271=some ⟨⟨1,false,8,[.int .i64 0],(.int .i64)⟩,[],none,none⟩:=by kernel_rfl
@[go_sem] theorem Xej:aC Tryz.prog 273=some ⟨1,false,8,[.az], .func⟩:=by kernel_rfl
@[go_sem] theorem Xi1:bK Tryz.prog 273=some ⟨⟨1,false,8,[.az], .func⟩,[],none,none⟩:=by kernel_rfl
@[go_sem] theorem Xeu:aC Tryz.prog 274=some ⟨1,false,8,[.az], .func⟩:=by kernel_rfl
@[go_sem] theorem Xn8:bK Tryz.prog 274=some ⟨⟨1,false,8,[.az], .func⟩,[],none,none⟩:=by kernel_rfl
@[go_sem] theorem Xda:aC Tryz.prog 275=some ⟨1,false,8,[.az], .func⟩:=by kernel_rfl
@[go_sem] theorem Xg5:bK Tryz.prog 275=some ⟨⟨1,false,8,[.az], .func⟩,[],none,none⟩:=by kernel_rfl
@[go_sem] theorem Xbr:aC Tryz.prog 276=some ⟨1,false,8,[.az], .func⟩:=by kernel_rfl
@[go_sem] theorem Xnt:bK Tryz.prog 276=some ⟨⟨1,false,8,[.az], .func⟩,[],none,none⟩:=by kernel_rfl
@[go_sem] theorem Xd6:aC Tryz.prog 277=some ⟨1,false,8,[.az], .func⟩:=by kernel_rfl
@[go_sem] theorem Xgi:bK Tryz.prog 277=some ⟨⟨1,false,8,[.az], .func⟩,[],none,none⟩:=by kernel_rfl
@[go_sem] theorem Xg1:aC Tryz.prog 278=some ⟨1,false,8,[.az], .func⟩:=by kernel_rfl
@[go_sem] theorem Xjy:bK Tryz.prog 278=some ⟨⟨1,false,8,[.az], .func⟩,[],none,none⟩:=by kernel_rfl
@[go_sem] theorem Xfo:aC Tryz.prog 279=some ⟨1,false,4,[.int .u32 0],(.int .u32)⟩:=by kernel_rfl
@[go_sem] theorem Xhs:bK Tryz.prog 279=some ⟨⟨1,false,4,[.int .u32 0],(.int .u32)⟩,[],none,none⟩:=by kernel_rfl
@[go_sem] theorem Xbu:aC Tryz.prog 280=some ⟨1,false,8,[.az], .func⟩:=by kernel_rfl
@[go_sem] theorem Xla:bK Tryz.prog 280=some ⟨⟨1,false,8,[.az], .func⟩,[],none,none⟩:=by kernel_rfl
@[go_sem] theorem Xcu:aC Tryz.prog 281=some ⟨1,false,8,[.int .u64 0],(.int .u64)⟩:=by kernel_rfl
@[go_sem] theorem Xjo:bK Tryz.prog 281=some ⟨⟨1,false,8,[.int .u64 0],(.int .u64)⟩,[],none,none⟩:=by kernel_rfl
@[go_sem] theorem Xcl:aC Tryz.prog 282=some ⟨1,false,8,[.int .u64 0],(.int .u64)⟩:=by kernel_rfl
@[go_sem] theorem Xgj:bK Tryz.prog 282=some ⟨⟨1,false,8,[.int .u64 0],(.int .u64)⟩,[],none,none⟩:=by kernel_rfl
@[go_sem] theorem Xav:aC Tryz.prog 283=some ⟨1,false,8,[.az], .func⟩:=by kernel_rfl
@[go_sem] theorem Xmu:bK Tryz.prog 283=some ⟨⟨1,false,8,[.az], .func⟩,[],none,none⟩:=by kernel_rfl
@[go_sem] theorem Xdi:aC Tryz.prog 284=some ⟨1,false,8,[.az], .func⟩:=by kernel_rfl
@[go_sem] theorem Xgp:bK Tryz.prog 284=some ⟨⟨1,false,8,[.az], .func⟩,[],none,none⟩:=by kernel_rfl
@[go_sem] theorem Xaq:aC Tryz.prog 285=some ⟨1,false,8,[.az], .func⟩:=by kernel_rfl
@[go_sem] theorem Xjx:bK Tryz.prog 285=some ⟨⟨1,false,8,[.az], .func⟩,[],none,none⟩:=by kernel_rfl
@[go_sem] theorem Xbi:aC Tryz.prog 286=some ⟨1,false,8,[.bM], .ptr⟩:=by kernel_rfl
@[go_sem] theorem Xgr:bK Tryz.prog 286=some ⟨⟨1,false,8,[.bM], .ptr⟩,[],none,none⟩:=by kernel_rfl
@[go_sem] theorem Xed:aC Tryz.prog 287=some ⟨1,false,8,[.az], .func⟩:=by kernel_rfl
@[go_sem] theorem Xin:bK Tryz.prog 287=some ⟨⟨1,false,8,[.az], .func⟩,[],none,none⟩:=by kernel_rfl
@[go_sem] theorem Xco:aC Tryz.prog 288=some ⟨1,false,8,[.bM], .ptr⟩:=by kernel_rfl
@[go_sem] theorem Xgo:bK Tryz.prog 288=some ⟨⟨1,false,8,[.bM], .ptr⟩,[],none,none⟩:=by kernel_rfl
@[go_sem] theorem Xcm:aC Tryz.prog 290=some ⟨1,false,8,[.az], .func⟩:=by kernel_rfl
@[go_sem] theorem Xmh:bK Tryz.prog 290=some ⟨⟨1,false,8,[.az], .func⟩,[],none,none⟩:=by kernel_rfl
@[go_sem] theorem Xfp:aC Tryz.prog 291=some ⟨1,false,8,[.az], .func⟩:=by kernel_rfl
@[go_sem] theorem Xku:bK Tryz.prog 291=some ⟨⟨1,false,8,[.az], .func⟩,[],none,none⟩:=by kernel_rfl
@[go_sem] theorem Xf8:aC Tryz.prog 292=some ⟨4,true,40,[.bM, .bM, .bM, .str ⟨#[]⟩], .struct⟩:=by kernel_rfl
@[go_sem] theorem Xm7:bK Tryz.prog 292=some ⟨⟨4,true,40,[.bM, .bM, .bM, .str ⟨#[]⟩], .struct⟩,[(0,some ⟨1,false,8,[.bM], .ptr⟩),(1,some ⟨1,false,8,[.bM], .ptr⟩),(2,some ⟨1,false,8,[.bM], .ptr⟩),(3,some ⟨1,false,16,[.str ⟨#[]⟩], .str⟩)],none,none⟩:=by kernel_rfl
@[go_sem] theorem Xfc:aC Tryz.prog 293=some ⟨4,true,40,[.bM, .bM, .bM, .str ⟨#[]⟩], .struct⟩:=by kernel_rfl
@[go_sem] theorem Xiu:bK Tryz.prog 293=some ⟨⟨4,true,40,[.bM, .bM, .bM, .str ⟨#[]⟩], .struct⟩,[(0,some ⟨1,false,8,[.bM], .ptr⟩),(1,some ⟨1,false,8,[.bM], .ptr⟩),(2,some ⟨1,false,8,[.bM], .ptr⟩),(3,some ⟨1,false,16,[.str ⟨#[]⟩], .str⟩)],none,none⟩:=by kernel_rfl
@[go_sem] theorem Xe1:aC Tryz.prog 294=some ⟨0,true,0,[],(.array 0)⟩:=by kernel_rfl
@[go_sem] theorem Xn9:bK Tryz.prog 294=some ⟨⟨0,true,0,[],(.array 0)⟩,[],some ⟨1,false,8,[.bM], .ptr⟩,none⟩:=by kernel_rfl
@[go_sem] theorem Xdd:aC Tryz.prog 295=some ⟨0,true,0,[], .struct⟩:=by kernel_rfl
@[go_sem] theorem Xlf:bK Tryz.prog 295=some ⟨⟨0,true,0,[], .struct⟩,[(0,some ⟨0,true,0,[],(.array 0)⟩)],none,none⟩:=by kernel_rfl
@[go_sem] theorem Xc8:aC Tryz.prog 296=some ⟨0,true,0,[], .struct⟩:=by kernel_rfl
@[go_sem] theorem Xmc:bK Tryz.prog 296=some ⟨⟨0,true,0,[], .struct⟩,[(0,some ⟨0,true,0,[],(.array 0)⟩)],none,none⟩:=by kernel_rfl
@[go_sem] theorem Xbn:aC Tryz.prog 297=some ⟨1,false,1,[.int .u8 0],(.int .u8)⟩:=by kernel_rfl
@[go_sem] theorem Xk6:bK Tryz.prog 297=some ⟨⟨1,false,1,[.int .u8 0],(.int .u8)⟩,[],none,none⟩:=by kernel_rfl
@[go_sem] theorem Xen:aC Tryz.prog 298=some ⟨1,false,1,[.int .u8 0],(.int .u8)⟩:=by kernel_rfl
@[go_sem] theorem Xlt:bK Tryz.prog 298=some ⟨⟨1,false,1,[.int .u8 0],(.int .u8)⟩,[],none,none⟩:=by kernel_rfl
@[go_sem] theorem Xf0:aC Tryz.prog 299=some ⟨1,false,8,[.az], .func⟩:=by kernel_rfl
@[go_sem] theorem Xn3:bK Tryz.prog 299=some ⟨⟨1,false,8,[.az], .func⟩,[],none,none⟩:=by kernel_rfl
@[go_sem] theorem Xcq:aC Tryz.prog 300=some ⟨1,false,8,[.bM], .ptr⟩:=by kernel_rfl
@[go_sem] theorem Xnh:bK Tryz.prog 300=some ⟨⟨1,false,8,[.bM], .ptr⟩,[],none,none⟩:=by kernel_rfl
@[go_sem] theorem Xbw:aC Tryz.prog 301=some ⟨1,false,4,[.int .i32 0],(.int .i32)⟩:=by kernel_rfl
@[go_sem] theorem Xmr:bK Tryz.prog 301=some ⟨⟨1,false,4,[.int .i32 0],(.int .i32)⟩,[],none,none⟩:=by kernel_rfl
@[go_sem] theorem Xb8:aC Tryz.prog 302=some ⟨1,false,4,[.int .i32 0],(.int .i32)⟩:=by kernel_rfl
@[go_sem] theorem Xhw:bK Tryz.prog 302=some ⟨⟨1,false,4,[.int .i32 0],(.int .i32)⟩,[],none,none⟩:=by kernel_rfl
@[go_sem] theorem Xax:aC Tryz.prog 303=some ⟨11,true,48,[.int .u64 0, .int .u64 0, .int .u32 0, .int .u8 0, .int .u8 0, .int .u8 0, .int .u8 0, .az, .bM, .int .i32 0, .int .i32 0], .struct⟩:=by kernel_rfl
@[go_sem] theorem Xl4:bK Tryz.prog 303=some ⟨⟨11,true,48,[.int .u64 0, .int .u64 0, .int .u32 0, .int .u8 0, .int .u8 0, .int .u8 0, .int .u8 0, .az, .bM, .int .i32 0, .int .i32 0], .struct⟩,[(0,some ⟨1,false,8,[.int .u64 0],(.int .u64)⟩),(1,some ⟨1,false,8,[.int .u64 0],(.int .u64)⟩),(2,some ⟨1,false,4,[.int .u32 0],(.int .u32)⟩),(3,some ⟨1,false,1,[.int .u8 0],(.int .u8)⟩),(4,some ⟨1,false,1,[.int .u8 0],(.int .u8)⟩),(5,some ⟨1,false,1,[.int .u8 0],(.int .u8)⟩),(6,some ⟨1,false,1,[.int .u8 0],(.int .u8)⟩),(7,some ⟨1,false,8,[.az], .func⟩),(8,some ⟨1,false,8,[.bM], .ptr⟩),(9,some ⟨1,false,4,[.int .i32 0],(.int .i32)⟩),(10,some ⟨1,false,4,[.int .i32 0],(.int .i32)⟩)],none,none⟩:=by kernel_rfl
@[go_sem] theorem Xei:aC Tryz.prog 304=some ⟨11,true,48,[.int .u64 0, .int .u64 0, .int .u32 0, .int .u8 0, .int .u8 0, .int .u8 0, .int .u8 0, .az, .bM, .int .i32 0, .int .i32 0], .struct⟩:=by kernel_rfl
@[go_sem] theorem Xnq:bK Tryz.prog 304=some ⟨⟨11,true,48,[.int .u64 0, .int .u64 0, .int .u32 0, .int .u8 0, .int .u8 0, .int .u8 0, .int .u8 0, .az, .bM, .int .i32 0, .int .i32 0], .struct⟩,[(0,some ⟨1,false,8,[.int .u64 0],(.int .u64)⟩),(1,some ⟨1,false,8,[.int .u64 0],(.int .u64)⟩),(2,some ⟨1,false,4,[.int .u32 0],(.int .u32)⟩),(3,some ⟨1,false,1,[.int .u8 0],(.int .u8)⟩),(4,some ⟨1,false,1,[.int .u8 0],(.int .u8)⟩),(5,some ⟨1,false,1,[.int .u8 0],(.int .u8)⟩),(6,some ⟨1,false,1,[.int .u8 0],(.int .u8)⟩),(7,some ⟨1,false,8,[.az], .func⟩),(8,some ⟨1,false,8,[.bM], .ptr⟩),(9,some ⟨1,false,4,[.int .i32 0],(.int .i32)⟩),(10,some ⟨1,false,4,[.int .i32 0],(.int .i32)⟩)],none,none⟩:=by kernel_rfl
@[go_sem] theorem Xbq:aC Tryz.prog 305=some ⟨1,false,8,[.bM], .other⟩:=by kernel_rfl
@[go_sem] theorem Xnv:bK Tryz.prog 305=some ⟨⟨1,false,8,[.bM], .other⟩,[],none,none⟩:=by kernel_rfl
inductive Tm where
 | mk (head:Int) (args:List Tm)
def Tm.head:Tm→Int | .mk h _=>h
def Tm.args:Tm→List Tm | .mk _ l=>l
mutual
def Tm.aO:Tm→ae
 | .mk h ts=>.agg [.int .i64 h, .ps 2 (Tm.yR ts)]
def Tm.yR:List Tm→List ae
 | []=>[]
 | t :: ts=>t.aO :: Tm.yR ts
end
theorem Oe:∀ ts,Tm.yR ts=ts.map Tm.aO
 | []=>rfl
 | t :: ts=>by simp [Tm.yR,Oe ts]
theorem dc (t:Tm):t.aO = .agg [.int .i64 t.head, .ps 2 (t.args.map Tm.aO)]:=by cases t;simp [Tm.aO,Oe,Tm.head,Tm.args]
theorem ft (t:Tm):t.aO.cells=[.int .i64 t.head, .ps 2 (t.args.map Tm.aO)]:=by rw [dc];rfl
theorem FD (h:Int) (ts:List Tm):ae.agg [.int .i64 h, .ps 2 (ts.map Tm.aO)]=(Tm.mk h ts).aO:=by rw [dc];rfl
theorem uB {α:Type} {n:Nat} {f : α→ae}:∀ {l:List α},(∀ x∈l,(f x).low n)→bx n (l.map f)
 | [],_=>trivial
 | a :: l,h=>⟨h a (by simp),uB fun x hx=>h x (by simp [hx])⟩
mutual
theorem KY:∀ t:Tm,t.aO.low 0
 | .mk h ts=>by simp only [Tm.aO,ae.low,bx,and_true,true_and];exact SL ts
theorem SL:∀ ts:List Tm,bx 0 (Tm.yR ts)
 | []=>trivial
 | t :: ts=>⟨KY t,SL ts⟩
end
theorem dC {n:Nat} (t:Tm):t.aO.low n:=mQ (av n) (KY t)
theorem bQ {n:Nat} (ts:List Tm):bx n (ts.map Tm.aO):=uB fun x _=>dC x
theorem nO {α:Type} {f : α→ae} {l:List α} {i:Nat} (h:i<l.length):(l.map f).getD i .undef=f l[i]:=by simp [List.getD,h]
def ints (l:List Int):List ae:=l.map (.int .i64)
theorem lH (l:List Int):(ints l).length=l.length:=by simp [ints]
theorem du {n:Nat}:∀ l:List Int,bx n (ints l)
 | []=>trivial
 | _ :: l=>⟨trivial,du l⟩
theorem xd {l:List Int} {i:Nat} (h:i<l.length):(ints l).getD i .undef = .int .i64 l[i]:=by simp [ints,List.getD,h]
theorem E2:ints []=[]:=rfl
theorem RT (l:List Int) (n:Int):ints l++[.int .i64 n]=ints (l++[n]):=by simp [ints]
theorem ek {n:Int} (h : -9223372036854775808≤n∧n≤9223372036854775807):IntKind.i64.wrap n=n:=by rw [IntKind.wrap_i64];omega
def n5 (n:Int):Prop:=-9223372036854775808≤n∧n≤9223372036854775807
mutual
def Tm.size:Tm→Nat
 | .mk _ ts=>1+Tm.bF ts
def Tm.bF:List Tm→Nat
 | []=>0
 | t :: ts=>t.size+Tm.bF ts
end
mutual
def Tm.depth:Tm→Nat
 | .mk _ ts=>Tm.iy ts+1
def Tm.iy:List Tm→Nat
 | []=>0
 | t :: ts=>max t.depth (Tm.iy ts)
end
theorem B2:∀ (ts:List Tm) (i:Nat) (hi:i<ts.length),Tm.bF (ts.take (i+1))=Tm.bF (ts.take i)+Tm.size ts[i]
 | t :: ts,0,_=>by simp [Tm.bF]
 | t :: ts,i+1,hi=>by
  simp only [eN,Tm.bF,ix]
  rw [B2 ts i (by simpa using hi)];omega
theorem AZ:∀ (ts:List Tm) (i:Nat) (hi:i<ts.length),Tm.size ts[i]≤Tm.bF ts
 | t :: ts,0,_=>by simp only [eG,Tm.bF];omega
 | t :: ts,i+1,hi=>by
  have:=AZ ts i (by simpa using hi)
  simp only [ix,Tm.bF];omega
theorem BZ:∀ (ts:List Tm) (i:Nat),Tm.bF (ts.take i)≤Tm.bF ts
 | [],i=>by simp
 | t :: ts,0=>by simp [Tm.bF]
 | t :: ts,i+1=>by have:=BZ ts i;simp only [eN,Tm.bF];omega
theorem T8 (t:Tm) : 1≤t.size:=by cases t;simp only [Tm.size];omega
theorem p5:∀ ts:List Tm,ts.length≤Tm.bF ts
 | []=>by simp [Tm.bF]
 | t :: ts=>by have:=p5 ts;have:=T8 t;simp only [ax,Tm.bF];omega
mutual
theorem PY:∀ t:Tm,t.depth≤t.size
 | .mk _ ts=>by have:=PS ts;simp only [Tm.depth,Tm.size];omega
theorem PS:∀ ts:List Tm,Tm.iy ts≤Tm.bF ts
 | []=>by simp [Tm.iy,Tm.bF]
 | t :: ts=>by have:=PY t;have:=PS ts;simp only [Tm.iy,Tm.bF];omega
end
theorem Tm.kQ {p:Tm→Prop} (h:∀ hd ts,(∀ (i:Nat) (hi:i<ts.length),p ts[i])→p (.mk hd ts)):∀ t,p t:=by
 have key:∀ n (t:Tm),t.size=n→p t:=by
  intro n
  induction n using Nat.strongRecOn with
  | _ n ih =>
   intro t ht
   match t,ht with
   | .mk hd ts,ht =>
    refine h hd ts fun i hi=>ih _ ?_ ts[i] rfl
    have:=AZ ts i hi
    simp only [Tm.size] at ht
    omega
 exact fun t=>key _ t rfl
mutual
def Tm.rR:Tm→Int→Int
 | .mk _ ts,m=>Tm.nz ts 1 m
def Tm.nz:List Tm→Int→Int→Int
 | [],n,_=>n
 | t :: ts,n,m=>if n≤m then Tm.nz ts (n+t.rR (m - n)) m else n
end
mutual
theorem B3:∀ (t:Tm) (m:Int),0≤m→1≤t.rR m∧t.rR m≤m+1
 | .mk _ ts,m,h=>by simp only [Tm.rR];exact JN ts 1 m (by omega) (by omega)
theorem JN:∀ (ts:List Tm) (n m:Int),1≤n→n≤m+1→n≤Tm.nz ts n m∧Tm.nz ts n m≤m+1
 | [],n,m,h1,h2=>by simp only [Tm.nz];omega
 | t :: ts,n,m,h1,h2=>by
  simp only [Tm.nz]
  split
  ·have:=B3 t (m - n) (by omega)
   have:=JN ts (n+t.rR (m - n)) m (by omega) (by omega)
   omega
  ·omega
end
mutual
theorem Kw:∀ (t:Tm) (m:Int),0≤m→t.rR m≤m→t.rR m=t.size
 | .mk _ ts,m,h0,h=>by
  simp only [Tm.rR] at h ⊢
  have:=QZ ts 1 m (by omega) (by omega) h
  simp only [Tm.size];omega
theorem QZ:∀ (ts:List Tm) (n m:Int),1≤n→n≤m+1→Tm.nz ts n m≤m→Tm.nz ts n m=n+Tm.bF ts
 | [],n,m,_,_,_=>by simp [Tm.nz,Tm.bF]
 | t :: ts,n,m,h1,h2,h=>by
  simp only [Tm.nz] at h ⊢
  split at h
  ·rename_i hn
   rw [if_pos hn]
   have hb:=B3 t (m - n) (by omega)
   have uH:=JN ts (n+t.rR (m - n)) m (by omega) (by omega)
   have h3:=QZ ts (n+t.rR (m - n)) m (by omega) (by omega) h
   have h4:=Kw t (m - n) (by omega) (by omega)
   simp only [Tm.bF];omega
  ·omega
end
theorem Yh (ts:List Tm) (n m:Int) (h:¬ n≤m):Tm.nz ts n m=n:=by cases ts<;>simp [Tm.nz,h]
mutual
def Tm.good:Tm→Bool
 | .mk h ts=>!(h<0&&decide (0<ts.length)||h < -256||decide (1023<h)||decide (8<ts.length))&&Tm.fT ts
def Tm.fT:List Tm→Bool
 | []=>true
 | t :: ts=>t.good&&Tm.fT ts
end
theorem QN:∀ (ts:List Tm) (i:Nat) (hi:i<ts.length),Tm.fT ts=(Tm.fT (ts.take i)&&(ts[i].good&&Tm.fT (ts.drop (i+1))))
 | t :: ts,0,_=>by simp [Tm.fT]
 | t :: ts,i+1,hi=>by
  simp only [eN,Tm.fT,ix,List.drop_succ_cons]
  rw [QN ts i (by simpa using hi)];simp [Bool.and_assoc]
def Tm.check (t:Tm):Int:=if 400<t.size then 2 else if 40<t.depth then 7 else if t.good then 0 else 1
def kX (o:List Int) (v:Int):List Int:=if v∈o then o else o++[v]
def ew (o l:List Int):List Int:=l.foldl kX o
mutual
def Tm.vars:Tm→List Int
 | .mk h ts=>Tm.np ts (if h<0 then [-1 - h] else [])
def Tm.np:List Tm→List Int→List Int
 | [],o=>o
 | t :: ts,o=>Tm.np ts (ew o t.vars)
end
theorem T3 (o:List Int) (v:Int):(kX o v).length≤o.length+1:=by unfold kX;split<;>simp
theorem Ro:∀ (l o:List Int),(ew o l).length≤o.length+l.length
 | [],o=>by simp [ew]
 | v :: l,o=>by
  have h:ew o (v :: l)=ew (kX o v) l:=rfl
  rw [h]
  have:=Ro l (kX o v)
  have:=T3 o v
  simp only [ax];omega
mutual
theorem KN:∀ t:Tm,t.vars.length≤t.size
 | .mk h ts=>by
  have:=Ru ts (if h<0 then [-1 - h] else [])
  have h2:(if h<0 then [-1 - h] else ([]:List Int)).length≤1:=by split<;>simp
  simp only [Tm.vars,Tm.size];omega
theorem Ru:∀ (ts:List Tm) (o:List Int),(Tm.np ts o).length≤o.length+Tm.bF ts
 | [],o=>by simp [Tm.np,Tm.bF]
 | t :: ts,o=>by
  have h1:=Ru ts (ew o t.vars)
  have h2:=Ro t.vars o
  have h3:=KN t
  simp only [Tm.np,Tm.bF];omega
end
def i_ (b:Nat) (sz:Nat):List ae→ae
 | []=>.aU
 | x :: l=>.os b 0 (l.length+1) sz
def eV:List ae→Option bE
 | []=>none
 | x :: l=>some (.row (x :: l) 0)
mutual
def Tm.fit:Tm→Prop
 | .mk h ts=>n5 h∧Tm.fits ts
def Tm.fits:List Tm→Prop
 | []=>True
 | t :: ts=>t.fit∧Tm.fits ts
end
theorem H0:∀ {ts:List Tm},Tm.fits ts→∀ (i:Nat) (hi:i<ts.length),ts[i].fit
 | t :: ts,h,0,_=>h.1
 | t :: ts,h,i+1,hi=>H0 h.2 i (by simpa using hi)
theorem uD (b sz:Nat):i_ b sz [] = .aU:=rfl
theorem Z5 (b sz:Nat) (x:ae) (l:List ae):i_ b sz (x :: l) = .os b 0 (l.length+1) sz:=rfl
theorem tz:eV []=none:=rfl
theorem TG (x:ae) (l:List ae):eV (x :: l)=some (.row (x :: l) 0):=rfl
theorem Be {b n:Nat} (h:b<n) (sz:Nat):∀ l:List ae,(i_ b sz l).low n
 | []=>trivial
 | _ :: _=>h
theorem zM {n:Nat}:∀ l:List ae,bx n l→jg n (eV l)
 | [],_=>trivial
 | _ :: _,h=>h
theorem Ck {b sz:Nat} {l:List ae} (h:l≠[]):i_ b sz l = .os b 0 l.length sz:=by cases l;exact absurd rfl h;rfl
theorem Bg {l:List ae} (h:l≠[]):eV l=some (.row l 0):=by cases l;exact absurd rfl h;rfl
theorem Fg (b sz:Nat) (l:List ae) (x:ae):i_ b sz (l++[x]) = .os b 0 (l.length+1) sz:=by
 rw [Ck (by simp)];simp
theorem E6 (l:List ae) (x:ae):eV (l++[x])=some (.row (l++[x]) 0):=Bg (by simp)
theorem B_ (l:List Int) (n:Int):ints (l++[n])=ints l++[.int .i64 n]:=(RT l n).symm
theorem rQ {F:Nat→Bool} {σ:ai} {b sz:Nat} {l:List ae} (hF:F b=true) (h:bG σ b=eV l):pT F σ (.ps sz l) (i_ b sz l)=True:=by
 cases l with
 | nil=>simp [i_,pT]
 | cons x l =>
  simp only [i_,PJ,h,eV,Rj,hF,di,ax]
  simp [cE]
theorem Uk {σ:ai} {b:Nat} (h:bG σ b=none) : σ.set b none = σ:=by
 apply bP
 intro c
 by_cases e:b=c
 ·subst e
  rw [oF]
  simp only [bG] at h
  cases hc : σ[b]? with
  | none=>rfl
  | some x=>rw [hc] at h;simp at h;subst h;rfl
 ·rw [bL e]
open Classical in
theorem uO {σ:ai} {nm b sz bs:Nat} {ag:Bool} {z:List ae} {key:KA} {l:List ae} {x:ae} (h:bG σ b=eV l):dY σ nm ⟨sz,ag,bs,z,key⟩ (i_ b sz l) [x]=if eI ⟨sz,ag,bs,z,key⟩ [x]∧l.length+1≤cH bs then some (.os nm 0 (l.length+1) sz,bZ (σ.set b none) nm (.row (l++[x]) 0)) else none:=by
 cases l with
 | nil =>
  have h0:bG σ b=none:=h
  rw [Uk h0]
  by_cases c:eI ⟨sz,ag,bs,z,key⟩ [x]<;>simp [i_,K2,c]
 | cons y l =>
  simp only [i_]
  rw [Jo,h]
  simp only [eV,JF,ax,aR,di]
  by_cases c:eI ⟨sz,ag,bs,z,key⟩ [x]
  ·simp only [c,if_true,true_and,bm,ah,av,d_]
   rw [a_ (by simp)]
  ·simp [c]
theorem vQ {b sz:Nat} {l xs:List ae} (h:xs≠[]):i_ b sz (l++xs) = .os b 0 (l.length+xs.length) sz:=by
 rw [Ck (by simp [h])];simp
theorem vS {l xs:List ae} (h:xs≠[]):eV (l++xs)=some (.row (l++xs) 0):=Bg (by simp [h])
open Classical in
theorem K_ {σ:ai} {nm b sz bs:Nat} {ag:Bool} {z:List ae} {key:KA} {l:List ae} {x y:ae} (h:bG σ b=eV l):dY σ nm ⟨sz,ag,bs,z,key⟩ (i_ b sz l) [x,y]=if eI ⟨sz,ag,bs,z,key⟩ [x,y]∧l.length+2≤cH bs then some (.os nm 0 (l.length+2) sz,bZ (σ.set b none) nm (.row (l++[x,y]) 0)) else none:=by
 cases l with
 | nil =>
  have h0:bG σ b=none:=h
  rw [Uk h0]
  by_cases c:eI ⟨sz,ag,bs,z,key⟩ [x,y]<;>simp [i_,K2,c]
 | cons u l =>
  simp only [i_]
  rw [Jo,h]
  simp only [eV,JF,ax,aR,di]
  by_cases c:eI ⟨sz,ag,bs,z,key⟩ [x,y]
  ·simp only [c,if_true,true_and,bm,ah,av,d_]
   rw [a_ (by simp)]
  ·simp [c]
end Go.Proofs
namespace Go.Proofs
open Go Go.c8
attribute [local go_sem] Nat.reduceAdd Nat.reduceSub Nat.reduceMul Nat.reduceLeDiff Nat.reduceEqDiff Nat.reduceBEq
theorem mixed:Tryz.prog.follows .mixedOrders=true:=by rfl
theorem Yqf (a b:List Int) (ha:a.length<2 ^ 62):aJ Tryz.prog 46 [.ps 1 (ints a), .ps 1 (ints b)] (.bool (decide (a=b))):=by
 refine aJ.begin (rs:=[.tmp 4]) (m:=24) 1000 Tryz.func46 rfl rfl rfl (by decide) trivial ?_
 simp only [go_sem,lH]
 refine ⟨fun eg=>?_,fun heq=>?_⟩
 ·have:a≠b:=fun e=>eg (by rw [e])
  simp [this]
 have hlen:a.length=b.length:=by omega
 refine aK.c_ (ι:={i:Nat // i≤a.length∧a.take i=b.take i}) 1000 (fun i=>fG 26 [(0, .ps 1 (ints a)),(1, .ps 1 (ints b)),(5, .int .i64 i.1)]) (fun _=>[]) (fun i=>a.length - i.1) ⟨0,by simp⟩ ?_ (fun _=>av _) ?_
 ·simp only [go_sem,du,cI]
 ·rintro ⟨i,hi,aP⟩
  simp only [go_sem,lH]
  refine ⟨fun bD=>?_,fun u_=>?_⟩
  ·have sB:i<a.length:=by omega
   have Ap:i<b.length:=by omega
   refine aK.draw [] 0 0 mixed rfl rfl (ah _) ?_
   simp only [go_sem,dx,lH,b_,xd sB,xd Ap]
   refine ⟨by omega,by omega,?_⟩
   refine aK.go 1000 ?_
   simp only [go_sem]
   refine ⟨fun eg=>?_,fun heq=>?_⟩
   ·have:a≠b:=fun e=>eg (by subst e;rfl)
    refine aK.go 1000 ?_
    simp only [go_sem]
    simp [this]
   ·refine ⟨⟨i+1,by omega,?_⟩,?_,by simp only;omega⟩
    ·rw [eH,eH,aP,aA sB,aA Ap,heq]
    ·simp only [go_sem,du]
     rw [ek (by omega)];rfl
  ·refine aK.go 1000 ?_
   simp only [go_sem]
   have:i=a.length:=by omega
   subst this
   rw [dm,hlen,dm] at aP
   simp [aP]
theorem OB (t:Tm):t.size<2 ^ 62→aJ Tryz.prog 152 [t.aO] (.int .i64 t.size):=by
 induction t using Tm.kQ with
 | h h ts ih =>
 intro hs
 simp only [Tm.size] at hs
 have hlen:=p5 ts
 refine aJ.begin (rs:=[.tmp 2]) (m:=20) 1000 Tryz.func152 rfl rfl rfl (by decide) trivial ?_
 simp only [go_sem,dc,Tm.head,Tm.args]
 refine aK.c_ (ι:={i:Nat // i≤ts.length}) 1000 (fun i=>fG 21 [(1, .ptr 0 0),(3, .int .i64 (1+Tm.bF (ts.take i.1):Nat)),(4, .int .i64 i.1)]) (fun _=>[some (.var [.int .i64 h, .ps 2 (ts.map Tm.aO)])]) (fun i=>ts.length - i.1) ⟨0,by omega⟩ ?_ (fun _=>by simp) ?_
 ·simp only [go_sem,Tm.bF,bQ,cI,cm]
  simp
 ·rintro ⟨i,hi⟩
  simp only [go_sem,ak]
  refine ⟨fun bD=>?_,fun u_=>?_⟩
  ·have aZ:i<ts.length:=by omega
   refine ⟨by omega,?_⟩
   simp only [go_sem,b_,nO aZ,ft,ah]
   rw [← dc]
   have fF:=AZ ts i aZ
   refine aq.bU [] (ih i aZ (by omega)) (cE _ _ _) (by simp [go_sem,dC]) ?_
   simp only [bO,bX,bW,if_true]
   refine aK.go 1000 ?_
   simp only [go_sem]
   refine ⟨⟨i+1,aZ⟩,?_,by simp only;omega⟩
   simp only [go_sem,bQ,cm]
   have h1:=B2 ts i aZ
   have h2:=BZ ts (i+1)
   rw [ek (by omega),ek (by omega),h1]
   simp;omega
  ·refine aK.go 1000 ?_
   simp only [go_sem,Tm.size]
   have:i=ts.length:=by omega
   subst this
   simp
theorem Ut (t:Tm):∀ m:Int,0≤m→m<2 ^ 62→aJ Tryz.prog 58 [t.aO, .int .i64 m] (.int .i64 (t.rR m)):=by
 induction t using Tm.kQ with
 | h h ts ih =>
 intro m rV vW
 refine aJ.begin (rs:=[.tmp 4]) (m:=29) 1000 Tryz.func58 rfl rfl rfl (by decide) trivial ?_
 simp only [go_sem,dc,Tm.head,Tm.args]
 refine aK.c_ (ι:={p:Nat×Int // p.1≤ts.length∧1≤p.2∧p.2≤m+1∧p.1≤p.2∧Tm.nz (ts.drop p.1) p.2 m=Tm.nz ts 1 m}) 1000 (fun p=>fG 31 [(1, .int .i64 m),(2, .ptr 0 0),(5, .int .i64 p.1.2),(6, .int .i64 p.1.1)]) (fun _=>[some (.var [.int .i64 h, .ps 2 (ts.map Tm.aO)])]) (fun p=>ts.length - p.1.1) ⟨(0,1),by simp;omega⟩ ?_ (fun _=>by simp) ?_
 ·simp only [go_sem,bQ,cI,cm]
 ·rintro ⟨⟨i,n⟩,hi,h1,h2,h4,h3⟩
  simp only at hi h1 h2 h3 h4
  by_cases bD:(i:Int)<ts.length
  ·have aZ:i<ts.length:=by omega
   by_cases hn:n≤m
   ·simp only [go_sem,ak,bD,hn]
    refine ⟨by omega,?_⟩
    simp only [go_sem,b_,nO aZ,ft,ah]
    rw [← dc,ek (by omega)]
    refine aq.bU [] (ih i aZ (m - n) (by omega) (by omega)) (cE _ _ _) (by simp [go_sem,dC]) ?_
    simp only [bO,bX,bW,if_true]
    refine aK.go 1000 ?_
    simp only [go_sem]
    have hb:=B3 ts[i] (m - n) (by omega)
    refine ⟨⟨(i+1,n+ts[i].rR (m - n)),aZ,by omega,by omega,by simp only;omega,?_⟩,?_,by simp only;omega⟩
    ·simp only
     rw [← h3,ao aZ,Tm.nz,if_pos hn]
    ·simp only [go_sem,bQ,cm]
     rw [ek (by omega),ek (by omega)]
     simp
   ·simp only [go_sem,ak,bD,hn]
    refine aK.go 1000 ?_
    simp only [go_sem]
    rw [Tm.rR,← h3,Yh _ _ _ hn]
  ·simp only [go_sem,ak,bD]
   refine aK.go 1000 ?_
   simp only [go_sem]
   have:i=ts.length:=by omega
   subst this
   rw [Tm.rR,← h3,aV,Tm.nz]
end Go.Proofs
namespace Go.Proofs
open Go Go.c8
structure Sy where
 name:ByteArray
 arity:Int
 weight:Int
 cx:Bool
def Sy.aO (s:Sy):ae:=.agg [.str s.name, .int .i64 s.arity, .int .i64 s.weight, .bool s.cx]
theorem xb (s:Sy):s.aO.cells=[.str s.name, .int .i64 s.arity, .int .i64 s.weight, .bool s.cx]:=rfl
theorem VR (s:Sy):s.aO = .agg [.str s.name, .int .i64 s.arity, .int .i64 s.weight, .bool s.cx]:=rfl
def syms (g:List Sy):List ae:=g.map Sy.aO
theorem rj (g:List Sy):(syms g).length=g.length:=by simp [syms]
theorem dK {n:Nat} (g:List Sy):bx n (syms g):=uB fun _ _=>⟨trivial,trivial,trivial,trivial,trivial⟩
theorem xa {g:List Sy} {i:Nat} (h:i<g.length):(syms g).getD i .undef=g[i].aO:=nO h
structure Li where
 neg:Bool
 l:Tm
 r:Tm
def Li.cs (c:Li):List ae:=[.bool c.neg, .int .i64 c.l.head, .ps 2 (c.l.args.map Tm.aO), .int .i64 c.r.head, .ps 2 (c.r.args.map Tm.aO)]
def Li.aO (c:Li):ae:=.agg c.cs
theorem ky (c:Li):c.aO.cells=[.bool c.neg, .int .i64 c.l.head, .ps 2 (c.l.args.map Tm.aO), .int .i64 c.r.head, .ps 2 (c.r.args.map Tm.aO)]:=rfl
def lits (c:List Li):List ae:=c.map Li.aO
theorem fP (c:List Li):(lits c).length=c.length:=by simp [lits]
theorem mR {n:Nat} (c:Li):c.aO.low n:=⟨trivial,trivial,bQ _,trivial,bQ _,trivial⟩
theorem cr {n:Nat} (c:List Li):bx n (lits c):=uB fun x _=>mR x
theorem tu {c:List Li} {i:Nat} (h:i<c.length):(lits c).getD i .undef=c[i].aO:=nO h
structure Wo where
 size:Int
 rows:List (List Int)
def cR (c:List Li):List Tm:=c.flatMap fun l=>[l.l,l.r]
theorem Rl (c:List Li) (i:Nat) (h:i<c.length):cR (c.take (i+1))=cR (c.take i)++[c[i].l,c[i].r]:=by
 simp only [cR,eH,aA h,Option.toList_some,List.flatMap_append,List.flatMap_cons,oE,bn]
theorem EW (c:List Li):(cR c).length=2*c.length:=by
 induction c with
 | nil=>rfl
 | cons a c ih=>simp [cR] at ih ⊢;omega
def ly (g:List Sy):Bool:=decide (g.length≤300)&&g.all fun s=>decide (s.name.size≤100)
def oe:List Tm→Int→Int
 | [],n=>n
 | t :: ts,n=>if n≤500 then oe ts (n+t.rR 500) else n
def iG (c:List Li):Bool:=decide (c.length≤40)&&decide (oe (cR c) 0≤500)
theorem Re:∀ (ts:List Tm) (n:Int),0≤n→n≤1001→0≤oe ts n∧(oe ts n≤500→oe ts n=n+Tm.bF ts)
 | [],n,h,_=>⟨by simp [oe,h],fun _=>by simp [oe,Tm.bF]⟩
 | t :: ts,n,h,h2=>by
  simp only [oe]
  split
  ·rename_i hn
   have hb:=B3 t 500 (by omega)
   obtain ⟨h3,h4⟩:=Re ts (n+t.rR 500) (by omega) (by omega)
   refine ⟨h3,fun h5=>?_⟩
   have h6:=h4 h5
   have h7:=Kw t 500 (by omega) (by omega)
   simp only [Tm.bF];omega
  ·rename_i hn
   exact ⟨h,fun h5=>absurd h5 hn⟩
theorem DF:∀ a b:List Tm,Tm.bF (a++b)=Tm.bF a+Tm.bF b
 | [],b=>by simp [Tm.bF]
 | t :: a,b=>by simp only [bj,Tm.bF,DF a b];omega
end Go.Proofs
namespace Go.Proofs
open Go Go.c8
attribute [local go_sem] Nat.reduceAdd Nat.reduceSub Nat.reduceMul Nat.reduceLeDiff Nat.reduceEqDiff Nat.reduceBEq
theorem V9 (g:List Sy):aJ Tryz.prog 24 [.ps 4 (syms g)] (.bool (ly g)):=by
 refine aJ.begin (rs:=[.tmp 2]) (m:=24) 1000 Tryz.func24 rfl rfl rfl (by decide) trivial ?_
 simp only [go_sem]
 by_cases hg:(g.length:Int)≤300
 ·refine aK.c_ (ι:={i:Nat // i≤g.length∧(g.take i).all (fun s=>decide (s.name.size≤100))=true}) 1000 (fun i=>fG 25 [(0, .ps 4 (syms g)),(3, .int .i64 i.1)]) (fun _=>[]) (fun i=>g.length - i.1) ⟨0,by simp⟩ ?_ (fun _=>av _) ?_
  ·simp only [go_sem,dK,cI]
  ·rintro ⟨i,hi,aP⟩
   by_cases bD:(i:Int)<g.length
   ·have aZ:i<g.length:=by omega
    simp only [go_sem,rj,bD,hg,b_,xa aZ,xb]
    refine ⟨by omega,fun qC=>?_,fun j9=>?_⟩
    ·refine aK.go 1000 ?_
     simp only [go_sem]
     have h1:g.all (fun s=>decide (s.name.size≤100))=false:=by
      rw [List.all_eq_false]
      exact ⟨g[i],aE aZ,by simp;omega⟩
     simp [ly,h1]
    ·refine ⟨⟨i+1,aZ,?_⟩,?_,by simp only;omega⟩
     ·rw [eH,List.all_append,aP,aA aZ]
      simp;omega
     ·simp only [go_sem,dK]
      rw [ek (by omega)];rfl
   ·simp only [go_sem,rj,bD]
    refine aK.go 1000 ?_
    simp only [go_sem,rj]
    have:i=g.length:=by omega
    subst this
    rw [dm] at aP
    simp only [ly,aP,nZ]
    congr 1
    simp;omega
 ·refine aK.c_ (ι:=Unit) 1000 (fun _=>fG 25 [(0, .ps 4 (syms g)),(3, .int .i64 0)]) (fun _=>[]) (fun _=>0) () ?_ (fun _=>av _) ?_
  ·simp only [go_sem,dK]
  ·rintro ⟨⟩
   have bD:(0:Int)<g.length:=by omega
   simp only [go_sem,rj,bD,hg]
   refine aK.go 1000 ?_
   simp only [go_sem,rj,hg]
   have:¬ g.length≤300:=by omega
   simp [ly,this]
theorem Yb (ts:List Tm) (hl:ts.length<2 ^ 62):aJ Tryz.prog 93 [.ps 2 (ts.map Tm.aO)] (.bool (decide (oe ts 0≤500))):=by
 refine aJ.begin (rs:=[.tmp 2]) (m:=23) 1000 Tryz.func93 rfl rfl rfl (by decide) trivial ?_
 simp only [go_sem]
 refine aK.c_ (ι:={p:Nat×Int // p.1≤ts.length∧0≤p.2∧p.2≤1001∧oe (ts.drop p.1) p.2=oe ts 0}) 1000 (fun p=>fG 24 [(0, .ps 2 (ts.map Tm.aO)),(3, .int .i64 p.1.2),(4, .int .i64 p.1.1)]) (fun _=>[]) (fun p=>ts.length - p.1.1) ⟨(0,0),by simp⟩ ?_ (fun _=>av _) ?_
 ·simp only [go_sem,bQ,cI]
 ·rintro ⟨⟨i,n⟩,hi,h1,h2,h3⟩
  simp only at hi h1 h2 h3
  by_cases bD:(i:Int)<ts.length
  ·have aZ:i<ts.length:=by omega
   by_cases hn:n≤500
   ·simp only [go_sem,ak,bD,hn,b_,nO aZ,ft,ah]
    refine ⟨by omega,?_⟩
    rw [← dc]
    refine aq.bU [] (Ut ts[i] 500 (by omega) (by omega)) (cE _ _ _) (by simp [go_sem,dC]) ?_
    simp only [bO,bX,bW,if_true]
    refine aK.go 1000 ?_
    simp only [go_sem]
    have hb:=B3 ts[i] 500 (by omega)
    refine ⟨⟨(i+1,n+ts[i].rR 500),aZ,by simp only;omega,by simp only;omega,?_⟩,?_,by simp only;omega⟩
    ·simp only
     rw [← h3,ao aZ,oe,if_pos hn]
    ·simp only [go_sem,bQ]
     rw [ek (by omega),ek (by omega)]
     simp
   ·simp only [go_sem,ak,bD,hn]
    refine aK.go 1000 ?_
    simp only [go_sem,hn]
    have:oe (ts.drop i) n=n:=by cases ts.drop i<;>simp [oe,hn]
    simp [← h3,this,hn]
  ·simp only [go_sem,ak,bD]
   refine aK.go 1000 ?_
   simp only [go_sem]
   have:i=ts.length:=by omega
   subst this
   rw [← h3,aV,oe]
theorem QO (c:List Li) (hc:c.length≤2600000000000):aJ Tryz.prog 57 [.ps 5 (lits c)] (.ps 2 ((cR c).map Tm.aO)):=by
 refine aJ.begin (rs:=[.tmp 2]) (m:=24) 1000 Tryz.func57 rfl rfl rfl (by decide) (bQ _) ?_
 simp only [go_sem]
 refine aK.h_ (ι:={i:Nat // i≤c.length}) 1000 (fun i=>fG 25 [(0, .ps 5 (lits c)),(3,i_ 0 2 ((cR (c.take i.1)).map Tm.aO)),(4, .int .i64 i.1)]) (fun i=>[eV ((cR (c.take i.1)).map Tm.aO)]) (fun i=>c.length - i.1) ⟨0,by omega⟩ [] ?_ (fun _=>by simp) ?_
 ·refine iP rfl ?_
  simp only [go_sem,cR,oE,uD,tz,cr,cD,cI]
 ·rintro ⟨i,hi⟩
  have Vh:=EW (c.take i)
  have oQ:(c.take i).length≤c.length:=by rw [cV];omega
  have iq:=fun h=>Rl c i h
  generalize hq:cR (c.take i)=q at *
  simp only [go_sem,fP,hq]
  refine ⟨fun bD=>?_,fun u_=>?_⟩
  ·have aZ:i<c.length:=by omega
   refine aK.draw [⟨none,[],[1]⟩, .no, .no, .no, .no, .no, .no, .no, .no, .no, .no,⟨some 1,[1],[]⟩,⟨some 2,[0,2],[]⟩] 1 3 mixed rfl rfl (by decide) ?_
   simp only [go_sem,dx,fP,b_,tu aZ,ky,ah,K_,eI,aQ,en,forall_eq_or_imp,forall_eq,ef,ak]
   refine ⟨by omega,by omega,by omega,?_⟩
   refine aK.go 1000 ?_
   simp only [go_sem]
   refine ⟨⟨i+1,aZ⟩,[(0,2),(2,0)],iP rfl ?_,by simp only;omega⟩
   simp only [iq aZ]
   rw [ek (by omega)]
   have e1:(q++[c[i].l,c[i].r]).map Tm.aO=q.map Tm.aO++[.agg [.int .i64 c[i].l.head, .ps 2 (c[i].l.args.map Tm.aO)], .agg [.int .i64 c[i].r.head, .ps 2 (c[i].r.args.map Tm.aO)]]:=by
    rw [cL,aF,aF,aS,dc c[i].l,dc c[i].r]
   have lw:bx 0 ((q++[c[i].l,c[i].r]).map Tm.aO):=bQ _
   rw [e1] at lw ⊢
   rw [vQ (by simp),vS (by simp)]
   simp only [go_sem,cr,cD,cD lw,ak,il (av 1) lw,lZ,l5,cm]
  ·refine aK.go 1000 ?_
   have:i=c.length:=by omega
   subst this
   rw [dm] at hq
   simp only [go_sem,hq,rQ]
theorem Rb (c:List Li):aJ Tryz.prog 56 [.ps 5 (lits c)] (.bool (iG c)):=by
 refine aJ.begin (rs:=[.tmp 2]) (m:=10) 1000 Tryz.func56 rfl rfl rfl (by decide) trivial ?_
 by_cases h:(c.length:Int)≤40
 ·simp only [go_sem,fP,h]
  refine aq.bU [] (QO c (by omega)) (cE _ _ _) (by simp [go_sem,cr]) ?_
  rw [jb]
  simp only [ite_self]
  refine aK.go 1000 ?_
  simp only [go_sem]
  have hl:=EW c
  refine aq.bU [] (Yb (cR c) (by omega)) (cE _ _ _) (by simp [go_sem,bQ]) ?_
  simp only [bO,bX,bW,if_true]
  refine aK.go 1000 ?_
  have:c.length≤40:=by omega
  simp only [go_sem,iG,this]
 ·simp only [go_sem,fP,h]
  have:¬ c.length≤40:=by omega
  simp [iG,this]
end Go.Proofs
namespace Go.Proofs
open Go Go.c8
theorem A6 (s:ByteArray):(s.toList==ByteArray.toList { data:=#[] })=decide ((s.size:Int)<1):=by
 by_cases h:(s.size:Int)<1
 ·have e:s = { data:=#[] }:=by
   obtain ⟨d⟩:=s
   have:d.size=0:=by have:d.size=(ByteArray.mk d).size:=rfl;omega
   rw [Array.size_eq_zero_iff.1 this]
  rw [decide_eq_true h,e];exact beq_self_eq_true _
 ·rw [decide_eq_false h]
  cases c:(s.toList==ByteArray.toList { data:=#[] }) with
  | false=>rfl
  | true =>
   rw [Ug c] at h
   exact absurd (by decide) h
def Sy.right (x:Sy):Bool:=!(decide ((x.name.size:Int)<1)||decide (64<(x.name.size:Int))||decide (x.arity<0)||decide (8<x.arity)||decide (x.weight<1)||decide (1000<x.weight))
def Sy.tG:Sy:=⟨⟨#[]⟩,0,0,false⟩
def uv:ByteArray:=⟨#[36,116,114,117,101]⟩
def fresh (g:List Sy) (i:Nat):Bool:=(g.take i).all fun s=>!(s.name.toList==(g.getD i Sy.tG).name.toList)
def ui (g:List Sy) (i:Nat):Bool:=(g.getD i Sy.tG).right&&fresh g i
def isTrue (x:Sy):Bool:=x.name.toList==uv.toList&&(x.arity==0&&(x.weight==1&&x.cx))
def fV (g:List Sy):Bool:=!(decide ((g.length:Int)<1)||decide (256<(g.length:Int)))&&(List.range g.length).all (ui g)&&isTrue (g.getD 0 Sy.tG)
theorem Fl {g:List Sy} {i:Nat} (h:i<g.length):g.getD i Sy.tG=g[i]:=by simp [List.getD,h]
theorem Zm8 (p:Nat→Bool) (n:Nat):(List.range (n+1)).all p=((List.range n).all p&&p n):=by
 rw [List.range_succ,List.all_append];simp
theorem Zqb {p:Nat→Bool} {n i:Nat} (hi:i<n) (h:p i=false):(List.range n).all p=false:=by
 rw [List.all_eq_false];exact ⟨i,by simpa using hi,by simp [h]⟩
theorem D6 {x:Sy} (h:(x.name.size:Int)<1∨64<(x.name.size:Int)∨x.arity<0∨8<x.arity∨x.weight<1∨1000<x.weight):x.right=false:=by
 simp only [Sy.right,iw,bY,decide_eq_true_eq];omega
theorem Ym1 {x:Sy} (h:¬ (x.name.size:Int)<1∧¬ 64<(x.name.size:Int)∧¬ x.arity<0∧¬ 8<x.arity∧¬ x.weight<1∧¬ 1000<x.weight):x.right=true:=by
 simp only [Sy.right,bT,cA,decide_eq_false_iff_not];omega
def lx (g:List Sy) (h:Int):Sy:=g.getD h.toNat Sy.tG
mutual
def Tm.known (g:List Sy):Tm→Bool
 | .mk h ts=>decide (h<0)||(!(decide ((g.length:Int)≤h))&&decide ((ts.length:Int)=(lx g h).arity)&&Tm.gN g ts)
def Tm.gN (g:List Sy):List Tm→Bool
 | []=>true
 | t :: ts=>t.known g&&Tm.gN g ts
end
def Tm.cx (g:List Sy) (t:Tm):Bool:=decide (0≤t.head)&&decide (t.head<(g.length:Int))&&(lx g t.head).cx
mutual
def Tm.jm (g:List Sy):Tm→Bool
 | .mk _ ts=>Tm.jn g ts
def Tm.jn (g:List Sy):List Tm→Bool
 | []=>true
 | t :: ts=>(!t.cx g&&t.jm g)&&Tm.jn g ts
end
def Tm.term (g:List Sy) (t:Tm):Int:=if fV g=false then 1 else if t.check≠0 then t.check else if t.known g=false then 1 else if t.jm g=false then 10 else 0
def Li.check (g:List Sy) (l:Li):Int:=if l.l.term g≠0 then l.l.term g else if l.r.term g≠0 then l.r.term g else
 if (l.l.cx g&&decide (l.r.head≠0))||(!l.l.cx g&&l.r.cx g) then 10 else 0
def dA (g:List Sy):List Li→Int
 | []=>0
 | l :: c=>if l.check g≠0 then l.check g else dA g c
def bd (g:List Sy) (c:List Li):Int:=if fV g=false then 1 else if 32<(c.length:Int) then 2 else dA g c
theorem Zmd (g:List Sy) (c:List Li) (i:Nat) (h:i<c.length):dA g (c.drop i)=if c[i].check g≠0 then c[i].check g else dA g (c.drop (i+1)):=by
 rw [ao h,dA]
end Go.Proofs
namespace Go.Proofs
open Go Go.c8
attribute [local go_sem] Nat.reduceAdd Nat.reduceSub Nat.reduceMul Nat.reduceLeDiff Nat.reduceEqDiff Nat.reduceBEq
end Go.Proofs
namespace Go.Proofs
open Go Go.c8
theorem RA {g:List Sy} (h:fV g=true) : 1≤g.length∧g.length≤256:=by
 simp only [fV,aD,bT,cA,decide_eq_false_iff_not] at h
 omega
theorem Zzg {g:List Sy} (h:fV g=true):isTrue (g.getD 0 Sy.tG)=true:=by
 simp only [fV,aD] at h;exact h.2
end Go.Proofs
namespace Go.Proofs
open Go Go.c8
attribute [local go_sem] Nat.reduceAdd Nat.reduceSub Nat.reduceMul Nat.reduceLeDiff Nat.reduceEqDiff Nat.reduceBEq
end Go.Proofs
namespace Go.Proofs
open Go Go.c8
mutual
def Tm.val (w:Wo) (f:Int→Int):Tm→Int
 | .mk h ts=>if h<0 then f (-1 - h) else (w.rows.getD h.toNat []).getD (Tm.UC w f ts 0).toNat 0
def Tm.UC (w:Wo) (f:Int→Int):List Tm→Int→Int
 | [],a=>a
 | t :: ts,a=>Tm.UC w f ts (a*w.size+t.val w f)
end
def Tm.Dy (w:Wo) (t:Tm):Prop:=t.head<0∨∀ v∈w.rows.getD t.head.toNat [],0≤v∧v<w.size
mutual
def Tm.okW (w:Wo):Tm→Prop
 | .mk h ts=>h<0∨(h<w.rows.length∧ts.length≤4∧((w.rows.getD h.toNat []).length:Int)=w.size ^ ts.length∧Tm.G1 w ts)
def Tm.G1 (w:Wo):List Tm→Prop
 | []=>True
 | t :: ts=>(t.okW w∧t.Dy w)∧Tm.G1 w ts
end
mutual
def Tm.gU (p:Int→Prop):Tm→Prop
 | .mk h ts=>(h<0→p (-1 - h))∧Tm.jc p ts
def Tm.jc (p:Int→Prop):List Tm→Prop
 | []=>True
 | t :: ts=>t.gU p∧Tm.jc p ts
end
theorem KR {p:Int→Prop}:∀ (ts:List Tm),(∀ (i:Nat) (hi:i<ts.length),ts[i].gU p)→Tm.jc p ts
 | [],_=>trivial
 | t :: ts,h=>⟨h 0 (by simp),KR ts fun i hi=>h (i+1) (by simpa using hi)⟩
theorem Yjm {o:List Int} {v x:Int}:x∈kX o v↔x∈o∨x=v:=by
 unfold kX;split
 ·constructor
  ·exact .inl
  ·rintro (h | rfl)<;>assumption
 ·simp
theorem JR:∀ (l o:List Int) (x:Int),x∈ew o l↔x∈o∨x∈l
 | [],o,x=>by simp [ew]
 | v :: l,o,x=>by
  have h:ew o (v :: l)=ew (kX o v) l:=rfl
  rw [h,JR l,Yjm,aQ,or_assoc]
mutual
theorem DZ {p:Int→Prop}:∀ t:Tm,(∀ v∈t.vars,p v)↔t.gU p
 | .mk h ts=>by
  simp only [Tm.vars,Tm.gU]
  rw [Rv ts]
  refine and_congr_left fun _=>?_
  split
  ·simp_all
  ·rename_i hn;simp [hn]
theorem Rv {p:Int→Prop}:∀ (ts:List Tm) (o:List Int),(∀ v∈Tm.np ts o,p v)↔(∀ v∈o,p v)∧Tm.jc p ts
 | [],o=>by simp [Tm.np,Tm.jc]
 | t :: ts,o=>by
  simp only [Tm.np,Tm.jc]
  rw [Rv ts,← and_assoc]
  refine and_congr_left fun _=>?_
  rw [← DZ t]
  simp only [JR]
  constructor
  ·exact fun h=>⟨fun v hv=>h v (.inl hv),fun v hv=>h v (.inr hv)⟩
  ·rintro ⟨h1,h2⟩ v (hv | hv)
   ·exact h1 v hv
   ·exact h2 v hv
end
theorem oH {g:List Sy} {t:Tm} (h:t.term g=0):t.check=0∧t.known g=true∧t.jm g=true:=by
 unfold Tm.term at h
 split at h
 ·omega
 ·split at h
  ·rename_i h2;exact absurd h h2
  ·rename_i h2
   split at h
   ·omega
   ·split at h
    ·omega
    ·rename_i h3 h4
     exact ⟨by simpa using h2,by simpa using h3,by simpa using h4⟩
theorem Zus (t:Tm):∀ v∈t.vars,0≤v:=by
 refine (DZ (p:=fun v=>0≤v) t).2 ?_
 have key:∀ t:Tm,t.gU (fun v=>0≤v):=by
  intro t
  induction t using Tm.kQ with
  | h h ts ih =>
   exact ⟨fun _=>by omega,KR ts ih⟩
 exact key t
end Go.Proofs
namespace Go.Proofs
open Go Go.c8
attribute [local go_sem] Nat.reduceAdd Nat.reduceSub Nat.reduceMul Nat.reduceLeDiff Nat.reduceEqDiff Nat.reduceBEq
end Go.Proofs
namespace Go.Proofs
open Go Go.c8
theorem XJ (t:Tm):t.good=true→t.gU (fun v=>0≤v∧v<256):=by
 induction t using Tm.kQ with
 | h h ts ih =>
  intro hg
  have u9:=hg
  simp only [Tm.good,aD,bT,cA,decide_eq_false_iff_not] at hg
  refine ⟨fun hn=>by omega,KR ts fun i hi=>ih i hi ?_⟩
  have:=hg.2
  rw [QN ts i hi,aD,aD] at this
  exact this.2.1
theorem Zyq {t:Tm} (h:t.check=0):t.good=true∧t.size≤400∧t.depth≤40:=by
 unfold Tm.check at h
 split at h
 ·omega
 ·split at h
  ·omega
  ·split at h
   ·exact ⟨by assumption,by omega,by omega⟩
   ·omega
end Go.Proofs
namespace Go.Proofs
open Go Go.c8
attribute [local go_sem] Nat.reduceAdd Nat.reduceSub Nat.reduceMul Nat.reduceLeDiff Nat.reduceEqDiff Nat.reduceBEq
def dF {α:Type} (p : α→Bool):List α→Int→Int
 | [],_=>-1
 | a :: l,i=>if p a then i else dF p l (i+1)
theorem Ca {α:Type} (p : α→Bool):∀ (l:List α) (i:Int),0≤i→decide (0≤dF p l i)=l.any p
 | [],i,_=>by simp [dF]
 | a :: l,i,h=>by
  simp only [dF,dX]
  by_cases c:p a=true
  ·simp [c,h]
  ·rw [da] at c
   simp only [c,a8,if_false,dn];exact Ca p l (i+1) (by omega)
theorem Zul (σ:ai) (c:ae) (p:Sy→Bool) (l:List Sy) (hl:l.length<2 ^ 62) (hs:bt σ.length σ) (hc:c.low σ.length)
  (hp:∀ (i:Nat) (h:i<l.length),aq Tryz.prog c [l[i].aO] σ (fun r σ'=>r = .bool (p l[i])∧σ' = σ)) :
  aq Tryz.prog (.fn 134 [] []) [.ps 4 (syms l),c] σ (fun r σ'=>r = .int .i64 (dF p l 0)∧σ' = σ):=by
 refine aq.begin (rs:=[.tmp 4]) (m:=17) 1000 Tryz.func134 rfl rfl rfl rfl rfl ?_
 simp only [go_sem]
 refine aK.c_ (ι:={i:Nat // i≤l.length∧dF p (l.drop i) i=dF p l 0}) 1000 (fun i=>fG 19 [(0, .ps 4 (syms l)),(1,c),(7, .int .i64 l.length),(8, .int .i64 i.1)]) (fun _=>σ) (fun i=>l.length - i.1) ⟨0,by simp⟩ ?_ (fun _=>ah _) ?_
 ·simp only [go_sem,dK,rj,hc,hs,cI]
  exact fx σ
 ·rintro ⟨i,hi,aP⟩
  by_cases bD:(i:Int)<l.length
  ·have aZ:i<l.length:=by omega
   have hd:dF p (l.drop i) i=if p l[i] then (i:Int) else dF p (l.drop (i+1)) ((i:Int)+1):=by
    rw [ao aZ];rfl
   simp only [go_sem,bD,rj,b_,xa aZ,xb,ah]
   (repeat ((with_reducible refine And.intro ?_ ?_); ·omega))
   refine (hp i aZ).mono ?_
   rintro r σ' ⟨rfl,rfl⟩
   refine aK.go 1000 ?_
   cases e:p l[i] with
   | true =>
    rw [hd,e,if_pos rfl] at aP
    simp only [go_sem]
    refine aK.go 1000 ?_
    simp only [go_sem,← aP]
    rw [fL];exact ⟨σ',fx σ',ah _,hs,trivial,rfl,rfl⟩
   | false =>
    rw [hd,e,if_neg (by decide)] at aP
    simp only [go_sem]
    refine ⟨⟨i+1,aZ,aP⟩,?_,by simp only;omega⟩
    simp only [go_sem,dK,hc,hs]
    rw [ek (by omega)];exact ⟨rfl,fx σ'⟩
  ·have dP:i=l.length:=by omega
   subst dP
   rw [aV] at aP
   simp only [go_sem,bD]
   refine aK.go 1000 ?_
   simp only [go_sem,← aP]
   rw [fL];exact ⟨σ,fx σ,ah _,hs,trivial,rfl,rfl⟩
theorem Zma (σ:ai) (c:ae) (p:Sy→Bool) (l:List Sy) (hl:l.length<2 ^ 62) (hs:bt σ.length σ) (hc:c.low σ.length)
  (hp:∀ (i:Nat) (h:i<l.length),aq Tryz.prog c [l[i].aO] σ (fun r σ'=>r = .bool (p l[i])∧σ' = σ)) :
  aq Tryz.prog (.fn 95 [] []) [.ps 4 (syms l),c] σ (fun r σ'=>r = .bool (l.any p)∧σ' = σ):=by
 refine aq.begin (rs:=[.tmp 4]) (m:=7) 1000 Tryz.func95 rfl rfl rfl rfl rfl ?_
 simp only [go_sem]
 refine (Zul σ c p l hl hs hc hp).mono ?_
 rintro r σ' ⟨rfl,rfl⟩
 refine aK.go 1000 ?_
 simp only [go_sem]
 rw [fL,Ca p l 0 (by omega)];exact ⟨σ',fx σ',ah _,hs,trivial,rfl,rfl⟩
theorem Zuk (x y:Sy):aq Tryz.prog (.fn 96 [] [.ptr 0 0]) [y.aO] [some (.var [.str x.name, .int .i64 x.arity, .int .i64 x.weight, .bool x.cx])]
  (fun r σ'=>r = .bool (y.name.toList==x.name.toList)∧σ'=[some (.var [.str x.name, .int .i64 x.arity, .int .i64 x.weight, .bool x.cx])]):=by
 refine aq.begin (rs:=[.tmp 3]) (m:=7) 1000 Tryz.func96 rfl rfl rfl rfl rfl ?_
 simp only [go_sem,VR]
 rw [fL]
 exact ⟨[some (.var [.str x.name, .int .i64 x.arity, .int .i64 x.weight, .bool x.cx])],by simp [go_sem],ah _,by simp [go_sem],trivial,rfl,rfl⟩
theorem Qt (g:List Sy):aJ Tryz.prog 61 [.ps 4 (syms g)] (.int .i64 (if fV g then 0 else 1)):=by
 refine aJ.begin (rs:=[.tmp 2]) (m:=65) 1000 Tryz.func61 rfl rfl rfl (by decide) trivial ?_
 by_cases c1:(g.length:Int)<1
 ·simp only [go_sem,rj,c1,fV]
 by_cases c2 : 256<(g.length:Int)
 ·simp only [go_sem,rj,c1,c2,fV]
 have h0 : 0<g.length:=by omega
 have e0:(syms g).getD 0 .undef=g[0].aO:=xa h0
 have f1:decide ((g.length:Int)<1)=false:=decide_eq_false c1
 have f2:decide (256<(g.length:Int))=false:=decide_eq_false c2
 have C_:fV g=((List.range g.length).all (ui g)&&isTrue g[0]):=by rw [fV,f1,f2,Fl h0];simp
 have bad:∀ i,i<g.length→ui g i=false→fV g=false:=fun i hi hb=>by
  rw [C_,Zqb (p:=ui g) hi hb];rfl
 have hT:(g[0].name.toList==ByteArray.toList { data:=#[36,116,114,117,101] }&&(g[0].arity==0&&(g[0].weight==1&&g[0].cx==true)))=isTrue g[0]:=by simp [isTrue,uv]
 simp only [go_sem,rj,c1,c2,Int.toNat_zero,e0,xb,ah,N3,km,e8,hT]
 refine ⟨by omega,fun h=>?_,fun h=>?_⟩
 ·have hf:isTrue g[0]=false:=by simpa using h
  have:fV g=false:=by rw [C_,hf,gW]
  rw [this];rfl
 have U1:isTrue g[0]=true:=by simpa using h
 simp only [go_sem,U1]
 refine aK.c_ (ι:={i:Nat // i≤g.length∧(List.range i).all (ui g)=true}) 1000 (fun i=>fG 66 [(0, .ps 4 (syms g)),(21, .ps 4 (syms g)),(22, .int .i64 g.length),(23, .int .i64 i.1)]) (fun _=>[]) (fun i=>g.length - i.1) ⟨0,by simp⟩ ?_ (fun _=>av _) ?_
 ·simp only [go_sem,dK,cI,rj]
 ·rintro ⟨i,hi,aP⟩
  by_cases bD:(i:Int)<g.length
  ·have aZ:i<g.length:=by omega
   have Bu:=Fl aZ
   have U8:(syms g).getD i .undef=g[i].aO:=xa aZ
   have rZ:List.take i (syms g)=syms (g.take i):=by simp [syms,List.map_take]
   generalize hx:g[i]=x at Bu U8
   simp only [go_sem,rj,bD,b_,U8,xb,ah]
   (repeat ((with_reducible refine And.intro ?_ ?_); ·omega))
   rw [show List.take (i - 0) (syms g)=syms (g.take i) from rZ]
   refine (Zma _ _ (fun y=>y.name.toList==x.name.toList) (g.take i) (by rw [cV];omega) ?_ ?_ ?_).mono ?_
   ·simp [go_sem]
   ·simp [go_sem]
   ·exact fun j hj=>Zuk x _
   rintro r σ' ⟨rfl,rfl⟩
   refine aK.go 1000 ?_
   have zg:fresh g i = !(g.take i).any (fun y=>y.name.toList==x.name.toList):=by
    rw [fresh,Bu,List.all_eq_not_any_not];simp
   have j9:ui g i=(x.right && !(g.take i).any (fun y=>y.name.toList==x.name.toList)):=by rw [ui,Bu,zg]
   have qC:∀ (hb:x.right=false∨(g.take i).any (fun y=>y.name.toList==x.name.toList)=true),(if fV g=true then (0:Int) else 1)=1:=fun hb=>by
    rw [bad i aZ (by rw [j9];rcases hb with h | h<;>simp [h])];rfl
   generalize (g.take i).any (fun y=>y.name.toList==x.name.toList)=tw at *
   by_cases d1:(x.name.size:Int)<1
   ·simp only [go_sem,A6,d1]
    refine aK.go 1000 ?_
    simp only [go_sem,qC (.inl (D6 (.inl d1)))]
   by_cases d2 : 64<(x.name.size:Int)
   ·simp only [go_sem,A6,d1,d2]
    refine aK.go 1000 ?_
    simp only [go_sem,qC (.inl (D6 (.inr (.inl d2))))]
   cases tw with
   | true =>
    simp only [go_sem,A6,d1,d2]
    refine aK.go 1000 ?_
    simp only [go_sem,qC (.inr rfl)]
   | false =>
   by_cases d3:x.arity<0
   ·simp only [go_sem,A6,d1,d2,d3]
    refine aK.go 1000 ?_
    simp only [go_sem,qC (.inl (D6 (.inr (.inr (.inl d3)))))]
   by_cases d4 : 8<x.arity
   ·simp only [go_sem,A6,d1,d2,d3,d4]
    refine aK.go 1000 ?_
    simp only [go_sem,qC (.inl (D6 (.inr (.inr (.inr (.inl d4))))))]
   by_cases d5:x.weight<1
   ·simp only [go_sem,A6,d1,d2,d3,d4,d5]
    refine aK.go 1000 ?_
    simp only [go_sem,qC (.inl (D6 (.inr (.inr (.inr (.inr (.inl d5)))))))]
   by_cases d6 : 1000<x.weight
   ·simp only [go_sem,A6,d1,d2,d3,d4,d5,d6]
    refine aK.go 1000 ?_
    simp only [go_sem,qC (.inl (D6 (.inr (.inr (.inr (.inr (.inr d6)))))))]
   have BI:=Ym1 ⟨d1,d2,d3,d4,d5,d6⟩
   simp only [go_sem,A6,d1,d2,d3,d4,d5,d6]
   refine ⟨⟨i+1,aZ,by rw [Zm8,aP,j9,BI];rfl⟩,?_,by simp only;omega⟩
   simp only [go_sem,dK,rj]
   rw [ek (by omega)];rfl
  ·have dP:i=g.length:=by omega
   simp only [go_sem,bD]
   subst dP
   refine aK.go 1000 ?_
   rw [C_,aP,U1]
   simp only [go_sem]
end Go.Proofs
namespace Go.Proofs
open Go Go.c8
mutual
def Tm.pre:Tm→Int→List (Int×Tm)
 | .mk h ts,d=>(d, .mk h ts) :: Tm.lX ts (d+1)
def Tm.lX:List Tm→Int→List (Int×Tm)
 | [],_=>[]
 | t :: ts,d=>t.pre d++Tm.lX ts d
end
mutual
theorem Fh:∀ (t:Tm) (d:Int),(t.pre d).length=t.size
 | .mk h ts,d=>by simp only [Tm.pre,ax,Tm.size];rw [Lb ts];omega
theorem Lb:∀ (ts:List Tm) (d:Int),(Tm.lX ts d).length=Tm.bF ts
 | [],_=>rfl
 | t :: ts,d=>by simp only [Tm.lX,ay,Tm.bF];rw [Fh t,Lb ts]
end
def rem (Dx:List (Int×Tm)):List (Int×Tm):=Dx.flatMap fun x=>x.2.pre x.1
theorem Yp7:rem []=[]:=rfl
theorem H8 (x:Int×Tm) (r:List (Int×Tm)):rem (x :: r)=x.2.pre x.1++rem r:=rfl
theorem Yq7 (t:Tm) (d:Int):rem [(d,t)]=t.pre d:=by rw [H8,Yp7,bn]
theorem Ui (d:Int) (ts:List Tm) (r:List (Int×Tm)):rem (ts.map (fun t=>(d,t))++r)=Tm.lX ts d++rem r:=by
 induction ts with
 | nil=>rfl
 | cons t ts ih =>
  rw [aF,bj,H8,ih,← cG];rfl
theorem Lx (Dx:List (Int×Tm)):Dx.length≤(rem Dx).length:=by
 induction Dx with
 | nil=>exact ah _
 | cons x r ih=>rw [H8,ay,Fh,ax];have:=T8 x.2;omega
def kC (x:Int×Tm):ae:=.agg [.int .i64 x.2.head, .ps 2 (x.2.args.map Tm.aO), .int .i64 x.1]
theorem YJ (x:Int×Tm):(kC x).cells=[.int .i64 x.2.head, .ps 2 (x.2.args.map Tm.aO), .int .i64 x.1]:=rfl
theorem PH (x:Int×Tm):kC x = .agg [.int .i64 x.2.head, .ps 2 (x.2.args.map Tm.aO), .int .i64 x.1]:=rfl
theorem Fw {n:Nat} (x:Int×Tm):(kC x).low n:=⟨trivial,bQ _,trivial,trivial⟩
theorem Bc {n:Nat} (l:List (Int×Tm)):bx n (l.map kC):=uB fun x _=>Fw x
theorem rO {n:Nat} {b:List ae}:∀ {a:List ae},bx n a→bx n b→bx n (a++b)
 | [],_,h=>h
 | _ :: _,ha,h=>⟨ha.1,rO ha.2 h⟩
def pj (T:Int) (x:Int×Tm):Prop:=1≤x.1∧x.1+x.2.size≤T
def jq (t:Tm):Bool:=!(t.head<0&&decide (0<t.args.length)||t.head < -256||decide (1023<t.head)||decide (8<t.args.length))
def fB (l:List (Int×Tm)) (a:Int):Int:=l.foldl (fun m x=>max m x.1) a
theorem Qq (l m:List (Int×Tm)) (a:Int):fB (l++m) a=fB m (fB l a):=List.foldl_append
mutual
theorem Uh:∀ (t:Tm) (d a:Int),fB (t.pre d) a=max a (d+t.depth - 1)
 | .mk h ts,d,a=>by
  have e:fB ((Tm.mk h ts).pre d) a=fB (Tm.lX ts (d+1)) (max a d):=rfl
  rw [e,R6 ts (d+1) (max a d) (by omega)]
  simp only [Tm.depth];omega
theorem R6:∀ (ts:List Tm) (d a:Int),d - 1≤a→fB (Tm.lX ts d) a=max a (d+Tm.iy ts - 1)
 | [],d,a,h=>by simp only [Tm.lX,fB,List.foldl_nil,Tm.iy];omega
 | t :: ts,d,a,h=>by
  simp only [Tm.lX,Qq,Tm.iy]
  rw [Uh t d a,R6 ts d _ (by omega)];omega
end
mutual
theorem Tv:∀ (t:Tm) (d:Int),(t.pre d).any (fun x=>!jq x.2) = !t.good
 | .mk h ts,d=>by
  simp only [Tm.pre,dX,Tm.good]
  rw [RB ts]
  simp only [jq,Tm.head,Tm.args,Bool.not_and,Bool.not_not]
  rfl
theorem RB:∀ (ts:List Tm) (d:Int),(Tm.lX ts d).any (fun x=>!jq x.2) = !Tm.fT ts
 | [],d=>rfl
 | t :: ts,d=>by
  simp only [Tm.lX,List.any_append,Tm.fT]
  rw [Tv t,RB ts,Bool.not_and]
end
theorem PV:∀ (l:List (Int×Tm)) (a:Int),0≤a→a<2 ^ 62→(∀ x∈l,x.1<2 ^ 62)→0≤fB l a∧fB l a<2 ^ 62
 | [],a,h0,h1,_=>⟨h0,h1⟩
 | x :: l,a,h0,h1,h=>by
  have hx:=h x (by simp)
  exact PV l (max a x.1) (by omega) (by omega) fun z hz=>h z (by simp [hz])
theorem SN {α:Type} {l:List α} {k:Nat} (h:k<l.length):l.take (k+1)=l.take k++[l[k]]:=by
 rw [eH,aA h];rfl
theorem Xu (t:Tm) (d:Int):∀ x∈t.pre d,d≤x.1∧x.1≤d+t.size:=by
 have key:∀ (t:Tm) (d:Int), ∀ x∈t.pre d,d≤x.1∧x.1≤d+t.depth - 1:=by
  intro t
  induction t using Tm.kQ with
  | h h ts ih =>
   intro d x hx
   simp only [Tm.pre,aQ] at hx
   rcases hx with rfl | hx
   ·simp only [Tm.depth];omega
   ·have hs:∀ (us:List Tm) (e:Int),(∀ (i:Nat) (hi:i<us.length) (d:Int) (x:Int×Tm),x∈us[i].pre d→d≤x.1∧x.1≤d+us[i].depth - 1)→∀ x∈Tm.lX us e,e≤x.1∧x.1≤e+Tm.iy us - 1:=by
     intro us
     induction us with
     | nil=>intro e _ x hx;simp [Tm.lX] at hx
     | cons u us oA =>
      intro e hh x hx
      simp only [Tm.lX,aW] at hx
      simp only [Tm.iy]
      rcases hx with hx | hx
      ·have:=hh 0 (by simp) e x hx;simp only [eG] at this;omega
      ·have:=oA e (fun i hi=>hh (i+1) (by simpa using hi)) x hx;omega
    have:=hs ts (d+1) (fun i hi d x hx=>ih i hi d x hx) x hx
    simp only [Tm.depth];omega
 intro x hx
 have:=key t d x hx
 have:=PY t
 omega
def tB (o:List Int) (x:Int×Tm):List Int:=if x.2.head<0 then kX o (-1 - x.2.head) else o
def jV (l:List (Int×Tm)) (o:List Int):List Int:=l.foldl tB o
theorem SK (l m:List (Int×Tm)) (o:List Int):jV (l++m) o=jV m (jV l o):=List.foldl_append
theorem YV (o l:List Int) (v:Int):ew o (kX l v)=kX (ew o l) v:=by
 unfold kX
 by_cases h:v∈l
 ·rw [if_pos h,if_pos ((JR l o v).2 (.inr h))]
 ·rw [if_neg h]
  simp only [ew,List.foldl_append,List.foldl_cons,List.foldl_nil];rfl
theorem PZ:∀ (l2 o l1:List Int),ew o (ew l1 l2)=ew (ew o l1) l2
 | [],_,_=>rfl
 | v :: l2,o,l1=>by
  have h:∀ o,ew o (v :: l2)=ew (kX o v) l2:=fun _=>rfl
  rw [h,PZ l2,YV,h]
mutual
theorem S0:∀ (t:Tm) (d:Int) (o:List Int),jV (t.pre d) o=ew o t.vars
 | .mk h ts,d,o=>by
  have e:jV ((Tm.mk h ts).pre d) o=jV (Tm.lX ts (d+1)) (if h<0 then kX o (-1 - h) else o):=rfl
  rw [e,R4 ts (d+1) _ (if h<0 then [-1 - h] else []) o ?_]
  ·rfl
  ·split<;>rfl
theorem R4:∀ (ts:List Tm) (d:Int) (o l o0:List Int),ew o0 l=o→jV (Tm.lX ts d) o=ew o0 (Tm.np ts l)
 | [],d,o,l,o0,h=>h.symm
 | t :: ts,d,o,l,o0,h=>by
  simp only [Tm.lX,SK,Tm.np]
  rw [S0 t d o]
  exact R4 ts d _ _ o0 (by rw [PZ,h])
end
theorem Zyr {o:List Int} {v:Int} (h:o.Nodup):(kX o v).Nodup:=by
 unfold kX;split
 ·exact h
 ·rename_i hn;rw [gD];exact ⟨h,by simp,by simp;intro a ha tQ;exact hn (tQ ▸ ha)⟩
theorem P_:∀ (l o:List Int),o.Nodup→(ew o l).Nodup
 | [],_,h=>h
 | v :: l,o,h=>P_ l (kX o v) (Zyr h)
theorem P1:∀ (l o:List Int),l.Nodup→(∀ v∈l,v ∉ o)→ew o l=o++l
 | [],o,_,_=>by simp [ew]
 | v :: l,o,h,hd=>by
  have h':ew o (v :: l)=ew (kX o v) l:=rfl
  have hv:kX o v=o++[v]:=if_neg (hd v (by simp))
  rw [h',hv,P1 l _ (eQ.1 h).2]
  ·simp
  ·intro x hx hm
   rcases aW.1 hm with hm | hm
   ·exact hd x (by simp [hx]) hm
   ·rw [aN.1 hm] at hx;exact (eQ.1 h).1 hx
mutual
theorem Zz2:∀ t:Tm,t.vars.Nodup
 | .mk h ts=>Qh ts _ (by split<;>simp)
theorem Qh:∀ (ts:List Tm) (o:List Int),o.Nodup→(Tm.np ts o).Nodup
 | [],_,h=>h
 | t :: ts,o,h=>Qh ts _ (P_ _ _ h)
end
theorem WE (t:Tm) (d:Int):jV (t.pre d) []=t.vars:=by
 rw [S0,P1 _ _ (Zz2 t) (by simp),bh]
theorem XY (l:List (Int×Tm)):∀ o:List Int,(jV l o).length≤o.length+l.length:=by
 induction l with
 | nil=>intro o;simp [jV]
 | cons x l ih =>
  intro o
  have:=ih (tB o x)
  have h2:(tB o x).length≤o.length+1:=by
   unfold tB;split
   ·exact T3 _ _
   ·omega
  have e:jV (x :: l) o=jV l (tB o x):=rfl
  rw [e];simp only [ax];omega
mutual
theorem OZ:∀ (t:Tm),t.fit→∀ (d:Int), ∀ x∈t.pre d,x.2.fit
 | .mk h ts,hf,d,x,hx=>by
  simp only [Tm.pre,aQ] at hx
  rcases hx with rfl | hx
  ·exact hf
  ·exact TY ts hf.2 _ x hx
theorem TY:∀ (ts:List Tm),Tm.fits ts→∀ (d:Int), ∀ x∈Tm.lX ts d,x.2.fit
 | [],_,d,x,hx=>by simp [Tm.lX] at hx
 | t :: ts,hf,d,x,hx=>by
  simp only [Tm.lX,aW] at hx
  rcases hx with hx | hx
  ·exact OZ t hf.1 d x hx
  ·exact TY ts hf.2 d x hx
end
end Go.Proofs
namespace Go.Proofs
open Go Go.c8
attribute [local go_sem] Nat.reduceAdd Nat.reduceSub Nat.reduceMul Nat.reduceLeDiff Nat.reduceEqDiff Nat.reduceBEq
theorem Zuc (ts:List Tm) (n0:Nat) (kf:ai) (S:Nat→ai) (p:Nat) (y:ae) (h0 : kf.length=n0) (xO : kf++[none]=S 0) (hlen:∀ i,(S i).length=n0+1) (eE:∀ i,bG (S i) p=some (.var [.ps 2 (ts.map Tm.aO)])) (hp:p<n0)
  (hs:∀ i,bt (n0+1) (S i)) (nH:bt n0 kf) (nJ:y.low n0) (hl:ts.length<2 ^ 62)
  (hy:∀ i (h:i<ts.length),aq Tryz.prog y [.int .i64 ((ts.length:Int) - 1 - i),ts[ts.length - 1 - i].aO] (S i) (fun r σ'=>r = .bool true∧n0+1≤σ'.length∧bt σ'.length σ'∧∃ π:Nat→Nat,(∀ b,b<n0→π b=b)∧(∀ b b',b<n0+1→b'<n0+1→π b = π b'→b=b')∧gj π σ' 0 (S (i+1)))) :
  aq Tryz.prog (.fn 183 [] [.ptr p 0]) [y] kf (fun _ σ'=>σ'=S ts.length):=by
 subst h0
 refine aq.l8 (rs:=[]) (m:=17) Tryz.func183 rfl rfl rfl rfl rfl ?_
 refine aK.pad 1 (ah _) (by simp [go_sem,nJ,hp]) nH ?_
 rw [show List.replicate 1 (none:Option bE)=[none] from rfl,xO]
 refine aK.go 1000 ?_
 simp only [go_sem,eE,ah,ak]
 rw [ek (by omega)]
 have CZ:bt (kf.length+1) (S 0):=hs 0
 refine aK.c_ (ι:={i:Nat // i≤ts.length}) 1000 (fun i=>fG 19 [(0,y),(1, .ptr p 0),(3, .int .i64 ((ts.length:Int) - 1 - i.1))]) (fun i=>S i.1) (fun i=>ts.length - i.1) ⟨0,by omega⟩ ?_ (fun i=>by rw [hlen];exact dI _) ?_
 ·simp only [go_sem,hlen,CZ,mQ (dI _) nJ,cI,Int.sub_zero]
  exact ⟨fx _,by omega⟩
 ·rintro ⟨i,hi⟩
  by_cases bD : 0≤(ts.length:Int) - 1 - i
  ·have aZ:i<ts.length:=by omega
   have hb:ts.length - 1 - i<ts.length:=by omega
   have hn:((ts.length:Int) - 1 - i).toNat=ts.length - 1 - i:=by omega
   simp only [go_sem,bD,eE,ah,ak,hn,nO hb,ft]
   rw [← dc]
   (repeat ((with_reducible refine And.intro ?_ ?_); ·omega))
   refine aK.xG (.bool true) trivial (by rw [hlen];exact dI _) ?_ ?_ ?_ ?_ ?_ ?_
   ·rw [hlen];exact mQ (dI _) nJ
   ·simp [go_sem,dC]
   ·rw [hlen];exact hs i
   ·rw [hlen]
    simp [go_sem,DM,DX,Ci,nJ,hp,bQ,dC]
   ·rw [hlen]
    have nU:=mQ (dI _) nJ
    simp [go_sem,nU,bQ,dC];omega
   rw [hlen]
   refine (hy i aZ).mono ?_
   rintro r σ' ⟨k1,k2,k3,π,k4,k5,k6⟩
   refine ⟨k1,k2,k3,π,S (i+1),hlen _,k4,k5,k6,hs _,?_⟩
   refine aK.go 1000 ?_
   simp only [go_sem]
   refine ⟨⟨i+1,aZ⟩,?_,by simp only;omega⟩
   have C0:bt (kf.length+1) (S (i+1)):=hs (i+1)
   simp only [go_sem,hlen,C0,mQ (dI _) nJ]
   rw [ek (by omega)]
   exact ⟨by rw [show (ts.length:Int) - 1 - i - 1=ts.length - 1 - ((i+1:Nat):Int) by omega],fx _,by omega⟩
  ·have dP:i=ts.length:=by omega
   subst dP
   simp only [go_sem,bD]
   refine aK.go 1000 ?_
   simp only [go_sem]
   rw [fL]
   exact ⟨S ts.length,fx _,by rw [hlen];exact dI _,by rw [hlen];exact hs _,trivial,rfl⟩
theorem Zqo (ts:List Tm) (σ:ai) (hs:bt σ.length σ):aq Tryz.prog (.fn 157 [] []) [.ps 2 (ts.map Tm.aO)] σ
  (fun r σ'=>r = .fn 183 [] [.ptr σ.length 0]∧σ' = σ++[some (.var [.ps 2 (ts.map Tm.aO)])]):=by
 refine aq.begin (rs:=[.tmp 2]) (m:=3) 1000 Tryz.func157 rfl rfl rfl rfl rfl ?_
 simp only [go_sem]
 rw [Ba,fL]
 exact ⟨_,fx _,by simp,o8 (nx (by simp) hs) (by simp [go_sem,bQ]),by simp [go_sem],rfl,rfl⟩
theorem T2 (t:Tm) (σ:ai) (hs:bt σ.length σ):aq Tryz.prog (.fn 130 [] []) [t.aO] σ
  (fun r σ'=>r = .fn 156 [] [.ptr σ.length 0]∧σ' = σ++[some (.var [.int .i64 t.head, .ps 2 (t.args.map Tm.aO)])]):=by
 refine aq.begin (rs:=[.tmp 2]) (m:=3) 1000 Tryz.func130 rfl rfl rfl rfl rfl ?_
 simp only [go_sem,dc]
 rw [Ba,fL]
 exact ⟨_,fx _,by simp,o8 (nx (by simp) hs) (by simp [go_sem,bQ]),by simp [go_sem],rfl,rfl⟩
theorem RJ (t:Tm) (fF:t.size<999999999) (n0:Nat) (xn:n0≤8) (kf:ai) (b0 b1 b2 b3 b4 b5 b6 b7:Nat→Option bE) (p:Nat) (y:ae) (h0 : kf.length=n0)
  (xO : kf++List.replicate (8 - n0) none=[b0 0,b1 0,b2 0,b3 0,b4 0,b5 0,b6 0,b7 0]) (eE:bG [b0 0,b1 0,b2 0,b3 0,b4 0,b5 0,b6 0,b7 0] p=some (.var [.int .i64 t.head, .ps 2 (t.args.map Tm.aO)])) (hp:p<n0)
  (hs:∀ k,bt 8 [b0 k,b1 k,b2 k,b3 k,b4 k,b5 k,b6 k,b7 k]) (nH:bt n0 kf) (nJ:y.low n0)
  (hy:∀ k (h:k<(t.pre 1).length),aq Tryz.prog y [.int .i64 (t.pre 1)[k].1,(t.pre 1)[k].2.aO] [b0 k,b1 k,b2 k,b3 k,b4 k,b5 k,b6 k,b7 k]
   (fun r σ'=>r = .bool true∧8≤σ'.length∧bt σ'.length σ'∧∃ π:Nat→Nat,(∀ b,b<n0→π b=b)∧(∀ b b',b<8→b'<8→π b = π b'→b=b')∧gj π σ' 0 [b0 (k+1),b1 (k+1),b2 (k+1),b3 (k+1),b4 (k+1),b5 (k+1),b6 (k+1),b7 (k+1)])) :
  aq Tryz.prog (.fn 156 [] [.ptr p 0]) [y] kf (fun _ σ'=>σ'=[b0 t.size,b1 t.size,b2 t.size,b3 t.size,b4 t.size,b5 t.size,b6 t.size,b7 t.size]):=by
 subst h0
 refine aq.l8 (rs:=[]) (m:=43) Tryz.func156 rfl rfl rfl rfl rfl ?_
 refine aK.pad (8 - kf.length) (ah _) (by simp [go_sem,nJ,hp]) nH ?_
 rw [xO]
 have C8:=Fh t 1
 refine aK.go 1000 ?_
 simp only [go_sem,eE,ah]
 refine ⟨by decide,?_⟩
 refine aK.h_ (ι:={x:List (Int×Tm)×List ae×Nat // x.2.2≤t.size∧(t.pre 1).drop x.2.2=rem x.1∧(∀ z∈x.1,pj (t.size+1) z)∧bx 0 x.2.1}) 1000 (fun x=>fG 45 [(0,y),(1, .ptr p 0),(3, .ptr 9 0)])
  (fun x=>[b0 x.1.2.2,b1 x.1.2.2,b2 x.1.2.2,b3 x.1.2.2,b4 x.1.2.2,b5 x.1.2.2,b6 x.1.2.2,b7 x.1.2.2,some (.row (x.1.1.reverse.map kC++x.1.2.1) 0),some (.var [.os 8 0 x.1.1.length 3])]) (fun x=>t.size - x.1.2.2)
  ⟨([(1,t)],[],0),av _,by rw [di];exact (Yq7 t 1).symm,by simp [pj,Int.add_comm],trivial⟩ [] ?_ (fun _=>by simp;omega) ?_
 ·refine iP (KV _ _) ⟨?_,?_,?_,?_⟩
  ·have nU:=qg (pi []) _ (fun _ _=>rfl) [y] ⟨nJ,trivial⟩
   simp only [dU,gA,and_true] at nU
   simp only [go_sem,nU]
  ·refine zG (B:=[b0 0,b1 0,b2 0,b3 0,b4 0,b5 0,b6 0,b7 0]) (hs 0) (fun _ _=>rfl) ?_
   simp only [go_sem,nN,lE,bh,aF,aS,bn,PH,cD (bQ _)]
  ·have nU:=mQ (m:=10) (by omega) nJ
   simp only [go_sem,nU]
   omega
  ·refine o8 (σ:=[b0 0,b1 0,b2 0,b3 0,b4 0,b5 0,b6 0,b7 0]) (nx (bN 8 2) (hs 0)) ?_
   simp [go_sem,bQ,PH]
 ·rintro ⟨⟨Dx,junk,k⟩,h1,h2,h3,h4⟩
  simp only at h1 h2 h3 h4
  cases Dx with
  | nil =>
   have hk:k=t.size:=by
    have:=congrArg List.length h2
    simp only [rem,oE,aR,cf,C8] at this;omega
   subst hk
   simp only [go_sem,aR,cI,lL]
   refine aK.go 1000 ?_
   simp only [go_sem]
   rw [fL]
   refine ⟨[b0 t.size,b1 t.size,b2 t.size,b3 t.size,b4 t.size,b5 t.size,b6 t.size,b7 t.size],by simp [go_sem],by simpa using xn,hs _,trivial,rfl⟩
  | cons x r =>
   have hlen:((x :: r).reverse.map kC++junk).length=r.length+1+junk.length:=by simp;omega
   have ow:(x :: r).reverse.map kC++junk=r.reverse.map kC++kC x :: junk:=by simp
   have hgx:(r.reverse.map kC++kC x :: junk).getD r.length .undef=kC x:=by simp
   have BA:(r.reverse.map kC++kC x :: junk).length=r.length+1+junk.length:=by rw [← ow,hlen]
   have Nf:r.length<1000000000:=by
    have:=congrArg List.length h2
    have h5:=Lx (x :: r)
    rw [cf,C8] at this
    simp only [ax] at h5;omega
   have rG:IntKind.i64.wrap ((r.length:Int)+1 - 1)=r.length:=by rw [ek (by omega)];omega
   have nE:(0:Int)<r.length+1:=by omega
   simp only [go_sem,ax,ow,lZ,l5,nE,rG,BA,b_,hgx,YJ,ah]
   obtain ⟨d,⟨hd,ts⟩⟩:=x
   have hk:k<(t.pre 1).length:=by
    have:=congrArg List.length h2
    have h5:=Lx ((d,Tm.mk hd ts) :: r)
    rw [cf] at this
    simp only [ax] at h5;omega
   rw [ao hk,H8,Tm.pre,bj,← Ui] at h2
   obtain ⟨hLk,hdr⟩:=jT h2
   have jd:r.length+Tm.bF ts<999999999:=by
    have:=congrArg List.length hdr
    rw [cf,Ui,ay,Lb] at this
    have:=Lx r
    omega
   have F7:pj (t.size+1) (d,Tm.mk hd ts):=h3 _ (by simp)
   simp only [pj,Tm.size] at F7
   have wa:=hy k hk
   rw [hLk] at wa
   simp only [Tm.head,Tm.args,gG]
   rw [FD]
   have Bw:∀ n,bx n (r.reverse.map kC++kC (d,Tm.mk hd ts) :: junk):=fun n=>rO (Bc _) ⟨Fw _,il (av _) h4⟩
   (repeat ((with_reducible refine And.intro ?_ ?_); ·omega))
   refine aK.qw (σ:=[b0 k,b1 k,b2 k,b3 k,b4 k,b5 k,b6 k,b7 k]) (τ:=[some (.row (r.reverse.map kC++kC (d,Tm.mk hd ts) :: junk) 0),some (.var [.os 8 0 r.length 3]),some (.var [.int .i64 hd, .ps 2 (ts.map Tm.aO), .int .i64 d])]) (.bool true) trivial (by simpa using xn) ?_ ?_ (hs k) ?_ ?_ ?_ ?_ ?_
   ·exact mQ xn nJ
   ·simp [go_sem,dC]
   ·simp [go_sem,DM,DX,Ci,Ytz,PL,Yzv,nJ,hp,bQ,dC]
   ·simp only [QI,Sk,Yq3,Yre]
    refine ⟨Xt (Bw _),?_,?_,trivial⟩
    ·simp [DM,DX,PL]
    ·simp [DM,DX,Ci,go_sem,bQ]
   ·have nU:=mQ (m:=11) (by omega) nJ
    simp [go_sem,nU,bQ,dC];omega
   ·exact ⟨Bw _,⟨by simp [go_sem],trivial⟩,by simp [go_sem,jg,bE.low,bQ],trivial⟩
   refine wa.mono ?_
   rintro r' σ' ⟨k1,k2,k3,π,k4,k5,k6⟩
   refine ⟨k1,k2,k3,π,[b0 (k+1),b1 (k+1),b2 (k+1),b3 (k+1),b4 (k+1),b5 (k+1),b6 (k+1),b7 (k+1)],rfl,k4,k5,k6,hs _,?_⟩
   refine aK.go 1000 ?_
   simp only [go_sem]
   have zn:=nx (m:=11) (by decide) (hs (k+1))
   simp only [wy,EZ,and_true] at zn
   refine (Zqo ts _ ?_).mono ?_
   ·simp only [go_sem,wy,zn,Bw,bQ,w9,and_true,true_and,ax,aR];decide
   rintro _ _ ⟨rfl,rfl⟩
   refine aK.go 1000 ?_
   simp only [go_sem]
   refine aK.rangeFunc (fG 45 [(3, .ptr 9 0),(4, .ptr 10 0)]) ?_ ?_ (fun ρ ht vl kV qD=>?_)
   ·simp only [go_sem]
   ·exact fun b hb=>by cases hb
   simp only [go_sem]
   let S:Nat→ai:=fun i=>match i with
    | 0=>[b0 (k+1),b1 (k+1),b2 (k+1),b3 (k+1),b4 (k+1),b5 (k+1),b6 (k+1),b7 (k+1),some (.row (r.reverse.map kC++kC (d,Tm.mk hd ts) :: junk) 0),some (.var [.os 8 0 r.length 3]),some (.var [.int .i64 hd, .ps 2 (ts.map Tm.aO), .int .i64 d]),some (.var [.ps 2 (ts.map Tm.aO)]),some (.loop (ρ.at .ready)),none]
    | i+1=>[b0 (k+1),b1 (k+1),b2 (k+1),b3 (k+1),b4 (k+1),b5 (k+1),b6 (k+1),b7 (k+1),none,some (.var [.os 13 0 (r.length+(i+1)) 3]),some (.var [.int .i64 hd, .ps 2 (ts.map Tm.aO), .int .i64 d]),some (.var [.ps 2 (ts.map Tm.aO)]),some (.loop (ρ.at .ready)),some (.row (((ts.drop (ts.length - (i+1))).map (fun u=>(d+1,u))++r).reverse.map kC) 0)]
   have xO:S 0=[b0 (k+1),b1 (k+1),b2 (k+1),b3 (k+1),b4 (k+1),b5 (k+1),b6 (k+1),b7 (k+1),some (.row (r.reverse.map kC++kC (d,Tm.mk hd ts) :: junk) 0),some (.var [.os 8 0 r.length 3]),some (.var [.int .i64 hd, .ps 2 (ts.map Tm.aO), .int .i64 d]),some (.var [.ps 2 (ts.map Tm.aO)]),some (.loop (ρ.at .ready)),none]:=rfl
   have FV:∀ i,S (i+1)=[b0 (k+1),b1 (k+1),b2 (k+1),b3 (k+1),b4 (k+1),b5 (k+1),b6 (k+1),b7 (k+1),none,some (.var [.os 13 0 (r.length+(i+1)) 3]),some (.var [.int .i64 hd, .ps 2 (ts.map Tm.aO), .int .i64 d]),some (.var [.ps 2 (ts.map Tm.aO)]),some (.loop (ρ.at .ready)),some (.row (((ts.drop (ts.length - (i+1))).map (fun u=>(d+1,u))++r).reverse.map kC) 0)]:=fun i=>rfl
   refine (Zuc ts 13 _ S 11 (.ld 12) rfl rfl (fun i=>by cases i<;>rfl) (fun i=>by cases i<;>rfl) (by decide) (fun i=>?_) ?_ (cy 12) ?_ (fun i hi=>?_)).mono ?_
   ·have jf:bx 14 ρ.tm:=by rw [ht];simp [go_sem,zP,zT]
    have aP:=nx (m:=14) (by decide) (hs (k+1))
    cases i with
    | zero=>exact o8 (σ:=[b0 (k+1),b1 (k+1),b2 (k+1),b3 (k+1),b4 (k+1),b5 (k+1),b6 (k+1),b7 (k+1)]) aP ⟨Bw _,⟨by simp [go_sem],trivial⟩,by simp [go_sem,jg,bE.low,bQ],by simp [go_sem,jg,bE.low,bQ],jf,trivial,trivial⟩
    | succ i=>exact o8 (σ:=[b0 (k+1),b1 (k+1),b2 (k+1),b3 (k+1),b4 (k+1),b5 (k+1),b6 (k+1),b7 (k+1)]) aP ⟨trivial,⟨by simp [go_sem],trivial⟩,by simp [go_sem,jg,bE.low,bQ],by simp [go_sem,jg,bE.low,bQ],jf,Bc _,trivial⟩
   ·have jf:bx 13 ρ.tm:=by rw [ht];simp [go_sem,zP,zT]
    have aP:=nx (m:=13) (by decide) (hs (k+1))
    exact o8 (σ:=[b0 (k+1),b1 (k+1),b2 (k+1),b3 (k+1),b4 (k+1),b5 (k+1),b6 (k+1),b7 (k+1)]) aP ⟨Bw _,⟨by simp [go_sem],trivial⟩,by simp [go_sem,jg,bE.low,bQ],by simp [go_sem,jg,bE.low,bQ],jf,trivial⟩
   ·have:=p5 ts
    omega
   ·have Ey:IntKind.i64.wrap (d+1)=d+1:=ek (by omega)
    have bD:=p5 ts
    have htn:t.size<999999999:=fF
    have hb:ts.length - 1 - i<ts.length:=by omega
    have F5:ts.drop (ts.length - (i+1))=ts[ts.length - 1 - i] :: ts.drop (ts.length - i):=by
     rw [show ts.length - (i+1)=ts.length - 1 - i by omega,ao hb,show ts.length - 1 - i+1=ts.length - i by omega]
    generalize ts[ts.length - 1 - i]=u at *
    have I6:ae.agg [.int .i64 u.head, .ps 2 (u.args.map Tm.aO), .int .i64 (d+1)]=kC (d+1,u):=rfl
    have yv:bx 13 ρ.tm:=by rw [ht];simp [go_sem,zP,zT]
    have vV:∀ π:Nat→Nat,(∀ b,b<13→π b=b)→dE π (.loop (ρ.at .ready)) = .loop (ρ.at .ready):=fun π ED=>Bb π 13 ED _ yv
    cases i with
    | zero =>
     have rZ:List.take r.length (r.reverse.map kC++kC (d,Tm.mk hd ts) :: junk)=r.reverse.map kC:=by rw [List.take_left' (by simp)]
     refine aq.lK 1000 ht vl kV qD (by rw [xO];rfl) rfl ?_
     clear_value S
     rw [xO]
     simp only [go_sem,ft,ah,Ey,eI,aN,forall_eq,BA,rZ]
     (repeat ((with_reducible refine And.intro ?_ ?_); ·omega))
     rw [tA]
     have vX:∀ b,b<13→pi [(13,16),(16,13)] b=b:=by decide
     have fQ : [b0 (k+1),b1 (k+1),b2 (k+1),b3 (k+1),b4 (k+1),b5 (k+1),b6 (k+1),b7 (k+1),none,some (.var [.os 16 0 (r.length+1) 3]),some (.var [.int .i64 hd, .ps 2 (ts.map Tm.aO), .int .i64 d]),some (.var [.ps 2 (ts.map Tm.aO)]),some (.loop (ρ.at .ready)),none,none,none,some (.row (r.reverse.map kC++[kC (d+1,u)]) 0)]=([b0 (k+1),b1 (k+1),b2 (k+1),b3 (k+1),b4 (k+1),b5 (k+1),b6 (k+1),b7 (k+1)]++[none,some (.var [.os 16 0 (r.length+1) 3]),some (.var [.int .i64 hd, .ps 2 (ts.map Tm.aO), .int .i64 d]),some (.var [.ps 2 (ts.map Tm.aO)]),some (.loop (ρ.at .ready)),none,none,none,some (.row (r.reverse.map kC++[kC (d+1,u)]) 0)]:ai):=rfl
     have tW:bt 17 [b0 (k+1),b1 (k+1),b2 (k+1),b3 (k+1),b4 (k+1),b5 (k+1),b6 (k+1),b7 (k+1),none,some (.var [.os 16 0 (r.length+1) 3]),some (.var [.int .i64 hd, .ps 2 (ts.map Tm.aO), .int .i64 d]),some (.var [.ps 2 (ts.map Tm.aO)]),some (.loop (ρ.at .ready)),none,none,none,some (.row (r.reverse.map kC++[kC (d+1,u)]) 0)]:=by
      rw [fQ]
      exact o8 (nx (bN 8 9) (hs (k+1))) ⟨trivial,⟨cy 16,trivial⟩,by simp [go_sem,jg,bE.low,bQ],by simp [go_sem,jg,bE.low,bQ],il (bN 13 4) yv,trivial,trivial,trivial,rO (Bc _) ⟨Fw _,trivial⟩,trivial⟩
     refine ⟨rfl,[b0 (k+1),b1 (k+1),b2 (k+1),b3 (k+1),b4 (k+1),b5 (k+1),b6 (k+1),b7 (k+1),none,some (.var [.os 16 0 (r.length+1) 3]),some (.var [.int .i64 hd, .ps 2 (ts.map Tm.aO), .int .i64 d]),some (.var [.ps 2 (ts.map Tm.aO)]),some (.loop (ρ.at .ready)),none,none,none,some (.row (r.reverse.map kC++[kC (d+1,u)]) 0)],?_,?_,tW,rfl,?_,tW,pi [(13,16),(16,13)],vX,?_,?_⟩
     ·simp [go_sem,I6]
     ·exact bN 14 3
     ·exact bN 14 3
     ·exact HZ (lo:=0) rfl
     ·rw [FV]
      refine zG (B:=[b0 (k+1),b1 (k+1),b2 (k+1),b3 (k+1),b4 (k+1),b5 (k+1),b6 (k+1),b7 (k+1)]) (hs (k+1)) (fun b hb=>vX b (by simp at hb;omega)) ?_
      simp only [go_sem,vV _ vX,Nat.reduceEqDiff,if_true,if_false,Nat.reduceAdd,ax,aR,and_true,true_and,cD (bQ _),cD (Bc _)]
      refine ⟨(vV _ vX).symm,?_⟩
      rw [show ts.length - 1=ts.length - (0+1) from rfl,F5]
      simp
    | succ i =>
     have Gr:(((ts.drop (ts.length - (i+1))).map (fun u=>(d+1,u))++r).reverse.map kC).length=r.length+(i+1):=by simp;omega
     have Ns:List.take (r.length+(i+1)) (((ts.drop (ts.length - (i+1))).map (fun u=>(d+1,u))++r).reverse.map kC)=((ts.drop (ts.length - (i+1))).map (fun u=>(d+1,u))++r).reverse.map kC:=a_ (by rw [Gr];exact ah _)
     refine aq.lK 1000 ht vl kV qD (by rw [FV];rfl) rfl ?_
     clear_value S
     rw [FV]
     simp only [go_sem,ft,ah,Ey,eI,aN,forall_eq,Gr,Ns]
     (repeat ((with_reducible refine And.intro ?_ ?_); ·omega))
     rw [tA]
     have vX:∀ b,b<13→pi [(13,16),(16,13)] b=b:=by decide
     have fQ : [b0 (k+1),b1 (k+1),b2 (k+1),b3 (k+1),b4 (k+1),b5 (k+1),b6 (k+1),b7 (k+1),none,some (.var [.os 16 0 (r.length+(i+1)+1) 3]),some (.var [.int .i64 hd, .ps 2 (ts.map Tm.aO), .int .i64 d]),some (.var [.ps 2 (ts.map Tm.aO)]),some (.loop (ρ.at .ready)),none,none,none,some (.row (((ts.drop (ts.length - (i+1))).map (fun u=>(d+1,u))++r).reverse.map kC++[kC (d+1,u)]) 0)]=([b0 (k+1),b1 (k+1),b2 (k+1),b3 (k+1),b4 (k+1),b5 (k+1),b6 (k+1),b7 (k+1)]++[none,some (.var [.os 16 0 (r.length+(i+1)+1) 3]),some (.var [.int .i64 hd, .ps 2 (ts.map Tm.aO), .int .i64 d]),some (.var [.ps 2 (ts.map Tm.aO)]),some (.loop (ρ.at .ready)),none,none,none,some (.row (((ts.drop (ts.length - (i+1))).map (fun u=>(d+1,u))++r).reverse.map kC++[kC (d+1,u)]) 0)]:ai):=rfl
     have tW:bt 17 [b0 (k+1),b1 (k+1),b2 (k+1),b3 (k+1),b4 (k+1),b5 (k+1),b6 (k+1),b7 (k+1),none,some (.var [.os 16 0 (r.length+(i+1)+1) 3]),some (.var [.int .i64 hd, .ps 2 (ts.map Tm.aO), .int .i64 d]),some (.var [.ps 2 (ts.map Tm.aO)]),some (.loop (ρ.at .ready)),none,none,none,some (.row (((ts.drop (ts.length - (i+1))).map (fun u=>(d+1,u))++r).reverse.map kC++[kC (d+1,u)]) 0)]:=by
      rw [fQ]
      exact o8 (nx (bN 8 9) (hs (k+1))) ⟨trivial,⟨cy 16,trivial⟩,by simp [go_sem,jg,bE.low,bQ],by simp [go_sem,jg,bE.low,bQ],il (bN 13 4) yv,trivial,trivial,trivial,rO (Bc _) ⟨Fw _,trivial⟩,trivial⟩
     refine ⟨rfl,[b0 (k+1),b1 (k+1),b2 (k+1),b3 (k+1),b4 (k+1),b5 (k+1),b6 (k+1),b7 (k+1),none,some (.var [.os 16 0 (r.length+(i+1)+1) 3]),some (.var [.int .i64 hd, .ps 2 (ts.map Tm.aO), .int .i64 d]),some (.var [.ps 2 (ts.map Tm.aO)]),some (.loop (ρ.at .ready)),none,none,none,some (.row (((ts.drop (ts.length - (i+1))).map (fun u=>(d+1,u))++r).reverse.map kC++[kC (d+1,u)]) 0)],?_,?_,tW,rfl,?_,tW,pi [(13,16),(16,13)],vX,?_,?_⟩
     ·simp [go_sem,I6]
     ·exact bN 14 3
     ·exact bN 14 3
     ·exact HZ (lo:=0) rfl
     ·rw [FV]
      refine zG (B:=[b0 (k+1),b1 (k+1),b2 (k+1),b3 (k+1),b4 (k+1),b5 (k+1),b6 (k+1),b7 (k+1)]) (hs (k+1)) (fun b hb=>vX b (by simp at hb;omega)) ?_
      simp only [go_sem,vV _ vX,Nat.reduceEqDiff,if_true,if_false,Nat.reduceAdd,ax,aR,and_true,true_and,cD (bQ _),cD (Bc _)]
      refine ⟨by rw [fc],(vV _ vX).symm,?_⟩
      rw [F5]
      simp
   rintro r' iM rfl
   rw [Cm]
   refine ⟨.ready,?_,?_⟩
   ·cases ts.length<;>rfl
   rw [D2]
   refine aK.go 1000 ?_
   have Mt:∀ z∈ts.map (fun u=>(d+1,u))++r,pj (t.size+1) z:=by
    intro z hz
    rcases aW.1 hz with hz | hz
    ·obtain ⟨u,hu,rfl⟩:=cn.1 hz
     obtain ⟨j,hj,rfl⟩:=lM.1 hu
     have:=AZ ts j hj
     simp only [pj];omega
    ·exact h3 z (by simp [hz])
   cases hN:ts.length with
   | zero =>
    obtain rfl:=gX.1 hN
    rw [xO]
    simp only [go_sem]
    refine ⟨⟨(r,kC (d,Tm.mk hd []) :: junk,k+1),by simp only;omega,by simp only;rw [hdr];rfl,fun z hz=>h3 z (by simp at hz;simp [hz]),⟨Fw _,h4⟩⟩,[],iP (KV _ _) ⟨?_,?_,?_,?_⟩,by simp only;omega⟩
    ·have nU:=qg (pi []) _ (fun _ _=>rfl) [y] ⟨nJ,trivial⟩
     simp only [dU,gA,and_true] at nU
     simp only [go_sem,nU]
    ·refine zG (B:=[b0 (k+1),b1 (k+1),b2 (k+1),b3 (k+1),b4 (k+1),b5 (k+1),b6 (k+1),b7 (k+1)]) (hs (k+1)) (fun _ _=>rfl) ?_
     simp only [go_sem,cD (Bw 0)]
    ·have nU:=mQ (m:=10) (by omega) nJ
     simp only [go_sem,nU]
     omega
    ·refine o8 (σ:=[b0 (k+1),b1 (k+1),b2 (k+1),b3 (k+1),b4 (k+1),b5 (k+1),b6 (k+1),b7 (k+1)]) (nx (bN 8 2) (hs (k+1))) ?_
     exact ⟨Bw _,⟨by simp [go_sem],trivial⟩,trivial⟩
   | succ N =>
    rw [FV]
    have hd0:ts.drop (ts.length - (N+1))=ts:=by rw [hN,d_,di]
    simp only [go_sem,hd0]
    refine ⟨⟨(ts.map (fun u=>(d+1,u))++r,[],k+1),by simp only;omega,hdr,Mt,trivial⟩,[(8,13),(13,8)],iP (Yqo xn rfl) ⟨?_,?_,?_,?_⟩,by simp only;omega⟩
    ·have nU:=qg (pi [(8,13),(13,8)]) 8 (by decide) [y] ⟨mQ xn nJ,trivial⟩
     simp only [dU,gA,and_true] at nU
     simp only [go_sem,nU]
     rw [if_neg (by omega),if_neg (by omega)]
    ·refine zG (B:=[b0 (k+1),b1 (k+1),b2 (k+1),b3 (k+1),b4 (k+1),b5 (k+1),b6 (k+1),b7 (k+1)]) (hs (k+1)) (fun b hb=>by simp only [ax,aR] at hb;revert b;decide) ?_
     simp only [go_sem,cD (Bc _),bn]
     simp only [ay,ak,hN]
     rw [Nat.add_comm]
    ·have nU:=mQ (m:=10) (by omega) nJ
     simp only [go_sem,nU]
     omega
    ·refine o8 (σ:=[b0 (k+1),b1 (k+1),b2 (k+1),b3 (k+1),b4 (k+1),b5 (k+1),b6 (k+1),b7 (k+1)]) (nx (bN 8 2) (hs (k+1))) ?_
     exact ⟨rO (Bc _) trivial,⟨by simp [go_sem],trivial⟩,trivial⟩
theorem B8 (t:Tm) (fF:t.size<999999999):aJ Tryz.prog 90 [t.aO] (.int .i64 t.check):=by
 refine aJ.begin (rs:=[.tmp 2]) (m:=52) 1000 Tryz.func90 rfl rfl rfl (by decide) trivial ?_
 simp only [go_sem,dc,ah]
 rw [← dc]
 refine (T2 t _ ?_).mono ?_
 ·simp [go_sem,bQ]
 rintro _ _ ⟨rfl,rfl⟩
 refine aK.go 1000 ?_
 simp only [go_sem]
 refine aK.rangeFunc (fG 53 [(3, .ptr 1 0),(4, .ptr 2 0),(5, .ptr 3 0)]) ?_ ?_ (fun ρ ht vl kV qD=>?_)
 ·simp only [go_sem]
 ·exact fun b hb=>by cases hb
 simp only [go_sem]
 have C8:=Fh t 1
 have Mt:=Uh t 1 0
 have vU:=Tv t 1
 have U4:=Xu t 1
 have jf:bx 6 ρ.tm:=by rw [ht];simp [go_sem,zP,zT]
 have fQ:∀ k,bt 8 [some (.var [.int .i64 t.head, .ps 2 (t.args.map Tm.aO)]),some (.var [.int .i64 (k:Nat)]),some (.var [.int .i64 (fB ((t.pre 1).take k) 0)]),some (.var [.bool (((t.pre 1).take k).any fun x=>!jq x.2)]),some (.var [.int .i64 t.head, .ps 2 (t.args.map Tm.aO)]),some (.loop (ρ.at .ready)),none,none] :=
  fun k=>⟨⟨trivial,bQ _,trivial⟩,⟨trivial,trivial⟩,⟨trivial,trivial⟩,⟨trivial,trivial⟩,⟨trivial,bQ _,trivial⟩,il (by decide) jf,trivial,trivial,trivial⟩
 refine (RJ t fF 6 (by decide) _ (fun _=>some (.var [.int .i64 t.head, .ps 2 (t.args.map Tm.aO)])) (fun k=>some (.var [.int .i64 (k:Nat)])) (fun k=>some (.var [.int .i64 (fB ((t.pre 1).take k) 0)]))
  (fun k=>some (.var [.bool (((t.pre 1).take k).any fun x=>!jq x.2)])) (fun _=>some (.var [.int .i64 t.head, .ps 2 (t.args.map Tm.aO)])) (fun _=>some (.loop (ρ.at .ready))) (fun _=>none) (fun _=>none) 4 (.ld 5) rfl rfl rfl (by decide) fQ ?_ (cy 5) (fun k hk=>?_)).mono ?_
 ·exact ⟨⟨trivial,bQ _,trivial⟩,⟨trivial,trivial⟩,⟨trivial,trivial⟩,⟨trivial,trivial⟩,⟨trivial,bQ _,trivial⟩,jf,trivial⟩
 ·have rZ:=SN hk
  have hbk:=U4 _ (aE hk)
  have I3 : 0≤fB ((t.pre 1).take k) 0∧fB ((t.pre 1).take k) 0<2 ^ 62:=PV _ 0 (by omega) (by omega) fun x hx=>by have:=U4 x (lO hx);omega
  have vW:fB ((t.pre 1).take (k+1)) 0=max (fB ((t.pre 1).take k) 0) (t.pre 1)[k].1:=by rw [rZ,Qq];rfl
  have rE:((t.pre 1).take (k+1)).any (fun x=>!jq x.2)=(((t.pre 1).take k).any (fun x=>!jq x.2) || !jq (t.pre 1)[k].2):=by rw [rZ,List.any_append];simp
  refine aq.stay rfl (fQ (k+1)) ?_
  rw [vW,rE]
  generalize (t.pre 1)[k]=x at *
  generalize fB ((t.pre 1).take k) 0=mx at *
  generalize ((t.pre 1).take k).any (fun x=>!jq x.2)=wr at *
  obtain ⟨d,u⟩:=x
  simp only at hbk
  have p_:(if mx<d then d else mx)=max mx d:=by omega
  refine aq.lK 1000 ht vl kV qD rfl rfl ?_
  simp only [go_sem,ft,ah,ak]
  have vj : -9223372036854775808≤(k:Int)+1∧(k:Int)+1≤9223372036854775807:=by omega
  have vg:((k+1:Nat):Int)=(k:Int)+1:=rfl
  have vo:∀ X,bt 8 [some (.var [.int .i64 t.head, .ps 2 (t.args.map Tm.aO)]),some (.var [.int .i64 (k+1:Nat)]),some (.var [.int .i64 (max mx d)]),some (.var [.bool X]),some (.var [.int .i64 t.head, .ps 2 (t.args.map Tm.aO)]),some (.loop (ρ.at .ready)),none,none]:=fun X=>⟨⟨trivial,bQ _,trivial⟩,⟨trivial,trivial⟩,⟨trivial,trivial⟩,⟨trivial,trivial⟩,⟨trivial,bQ _,trivial⟩,il (by decide) jf,trivial,trivial,trivial⟩
  refine aK.go 1000 ?_
  refine aK.draw [.no, .no,⟨none,[],[1]⟩,⟨none,[],[1]⟩,⟨none,[],[1]⟩,⟨none,[1],[]⟩,⟨none,[2],[]⟩] 9 9 mixed rfl rfl (by decide) ?_
  simp only [go_sem,dx,p_]
  refine aK.go 1000 ?_
  have zi:jq u = !(u.head<0&&decide ((0:Int)<u.args.length)||u.head < -256||decide (1023<u.head)||decide ((8:Int)<u.args.length)):=by
   simp only [jq,Int.natCast_pos,show (8:Int)<u.args.length↔8<u.args.length by omega]
  cases wr with
  | true =>
   simp only [go_sem,p_,ak,ek vj]
   rw [tA]
   refine ⟨rfl,[some (.var [.int .i64 t.head, .ps 2 (t.args.map Tm.aO)]),some (.var [.int .i64 (k+1:Nat)]),some (.var [.int .i64 (max mx d)]),some (.var [.bool true]),some (.var [.int .i64 t.head, .ps 2 (t.args.map Tm.aO)]),some (.loop (ρ.at .ready)),none,none],by simp [go_sem,vg],ah _,vo _,rfl,?_⟩
   rfl
  | false =>
   by_cases d1:u.head<0
   ·by_cases d2:(0:Int)<u.args.length
    ·simp only [go_sem,p_,d1,d2,ak,ek vj]
     rw [tA]
     refine ⟨rfl,[some (.var [.int .i64 t.head, .ps 2 (t.args.map Tm.aO)]),some (.var [.int .i64 (k+1:Nat)]),some (.var [.int .i64 (max mx d)]),some (.var [.bool true]),some (.var [.int .i64 t.head, .ps 2 (t.args.map Tm.aO)]),some (.loop (ρ.at .ready)),none,none],by simp [go_sem,vg],ah _,vo _,rfl,?_⟩
     rw [zi,decide_eq_true d1,decide_eq_true d2];rfl
    by_cases d3:u.head < -256
    ·simp only [go_sem,p_,d1,d2,d3,ak,ek vj]
     rw [tA]
     refine ⟨rfl,[some (.var [.int .i64 t.head, .ps 2 (t.args.map Tm.aO)]),some (.var [.int .i64 (k+1:Nat)]),some (.var [.int .i64 (max mx d)]),some (.var [.bool true]),some (.var [.int .i64 t.head, .ps 2 (t.args.map Tm.aO)]),some (.loop (ρ.at .ready)),none,none],by simp [go_sem,vg],ah _,vo _,rfl,?_⟩
     rw [zi,decide_eq_true d1,decide_eq_false d2,decide_eq_true d3];rfl
    have d4:¬ 1023<u.head:=by omega
    have d5:¬ (8:Int)<u.args.length:=by omega
    simp only [go_sem,p_,d1,d2,d3,d4,d5,ak,ek vj]
    rw [tA]
    refine ⟨rfl,[some (.var [.int .i64 t.head, .ps 2 (t.args.map Tm.aO)]),some (.var [.int .i64 (k+1:Nat)]),some (.var [.int .i64 (max mx d)]),some (.var [.bool false]),some (.var [.int .i64 t.head, .ps 2 (t.args.map Tm.aO)]),some (.loop (ρ.at .ready)),none,none],by simp [go_sem,vg],ah _,vo _,rfl,?_⟩
    rw [zi,decide_eq_true d1,decide_eq_false d2,decide_eq_false d3,decide_eq_false d4,decide_eq_false d5];rfl
   have d3:¬ u.head < -256:=by omega
   by_cases d4 : 1023<u.head
   ·simp only [go_sem,p_,d1,d3,d4,ak,ek vj]
    rw [tA]
    refine ⟨rfl,[some (.var [.int .i64 t.head, .ps 2 (t.args.map Tm.aO)]),some (.var [.int .i64 (k+1:Nat)]),some (.var [.int .i64 (max mx d)]),some (.var [.bool true]),some (.var [.int .i64 t.head, .ps 2 (t.args.map Tm.aO)]),some (.loop (ρ.at .ready)),none,none],by simp [go_sem,vg],ah _,vo _,rfl,?_⟩
    rw [zi,decide_eq_false d1,decide_eq_false d3,decide_eq_true d4];rfl
   by_cases d5:(8:Int)<u.args.length
   ·simp only [go_sem,p_,d1,d3,d4,d5,ak,ek vj]
    rw [tA]
    refine ⟨rfl,[some (.var [.int .i64 t.head, .ps 2 (t.args.map Tm.aO)]),some (.var [.int .i64 (k+1:Nat)]),some (.var [.int .i64 (max mx d)]),some (.var [.bool true]),some (.var [.int .i64 t.head, .ps 2 (t.args.map Tm.aO)]),some (.loop (ρ.at .ready)),none,none],by simp [go_sem,vg],ah _,vo _,rfl,?_⟩
    rw [zi,decide_eq_false d1,decide_eq_false d3,decide_eq_false d4,decide_eq_true d5];rfl
   simp only [go_sem,p_,d1,d3,d4,d5,ak,ek vj]
   rw [tA]
   refine ⟨rfl,[some (.var [.int .i64 t.head, .ps 2 (t.args.map Tm.aO)]),some (.var [.int .i64 (k+1:Nat)]),some (.var [.int .i64 (max mx d)]),some (.var [.bool false]),some (.var [.int .i64 t.head, .ps 2 (t.args.map Tm.aO)]),some (.loop (ρ.at .ready)),none,none],by simp [go_sem,vg],ah _,vo _,rfl,?_⟩
   rw [zi,decide_eq_false d1,decide_eq_false d3,decide_eq_false d4,decide_eq_false d5];rfl
 rintro r' iM rfl
 rw [Cm]
 refine ⟨.ready,rfl,?_⟩
 rw [D2]
 rw [← C8,dm,Mt,vU,C8]
 refine aK.go 1000 ?_
 simp only [go_sem]
 have hdd : 1≤t.depth:=by cases t;simp only [Tm.depth];omega
 unfold Tm.check
 refine ⟨fun h=>by rw [if_pos (by omega)],fun h=>⟨fun h'=>by rw [if_neg (by omega),if_pos (by omega)],fun h'=>⟨fun hg=>?_,fun hg=>?_⟩⟩⟩<;>rw [if_neg (by omega),if_neg (by omega)]
 ·rw [if_neg (by simpa using hg)]
 ·rw [if_pos (by simpa using hg)]
theorem Zv2 (l:List Int) (v:Int) (hl:l.length<2 ^ 62):aJ Tryz.prog 143 [.ps 1 (ints l), .int .i64 v] (.int .i64 (dF (fun x=>decide (v=x)) l 0)):=by
 refine aJ.begin (rs:=[.tmp 4]) (m:=17) 1000 Tryz.func143 rfl rfl rfl (by decide) trivial ?_
 simp only [go_sem]
 refine aK.c_ (ι:={i:Nat // i≤l.length∧dF (fun x=>decide (v=x)) (l.drop i) i=dF (fun x=>decide (v=x)) l 0}) 1000 (fun i=>fG 19 [(0, .ps 1 (ints l)),(1, .int .i64 v),(7, .int .i64 l.length),(8, .int .i64 i.1)]) (fun _=>[]) (fun i=>l.length - i.1) ⟨0,by simp⟩ ?_ (fun _=>av _) ?_
 ·simp only [go_sem,du,lH,cI]
 ·rintro ⟨i,hi,aP⟩
  by_cases bD:(i:Int)<l.length
  ·have aZ:i<l.length:=by omega
   have hd:dF (fun x=>decide (v=x)) (l.drop i) i=if decide (v=l[i])=true then (i:Int) else dF (fun x=>decide (v=x)) (l.drop (i+1)) ((i:Int)+1):=by
    rw [ao aZ];rfl
   by_cases e:v=l[i]
   ·rw [hd,if_pos (by simp [← e])] at aP
    simp only [go_sem,bD,lH,b_,xd aZ,← e]
    (repeat ((with_reducible refine And.intro ?_ ?_); ·omega))
    refine aK.go 1000 ?_
    simp only [go_sem]
    rw [aP]
   ·rw [hd,if_neg (by simp [e])] at aP
    simp only [go_sem,bD,lH,b_,xd aZ,e]
    (repeat ((with_reducible refine And.intro ?_ ?_); ·omega))
    refine ⟨⟨i+1,aZ,aP⟩,?_,by simp only;omega⟩
    simp only [go_sem,du]
    rw [ek (by omega)];trivial
  ·have dP:i=l.length:=by omega
   subst dP
   rw [aV] at aP
   simp only [go_sem,bD]
   refine aK.go 1000 ?_
   simp only [go_sem,← aP]
   trivial
theorem Hb (l:List Int) (v:Int) (hl:l.length<2 ^ 62):aJ Tryz.prog 110 [.ps 1 (ints l), .int .i64 v] (.bool (decide (v∈l))):=by
 refine aJ.begin (rs:=[.tmp 4]) (m:=7) 1000 Tryz.func110 rfl rfl rfl (by decide) trivial ?_
 simp only [go_sem]
 refine aq.bU [] (Zv2 l v hl) (cE _ _ _) (by simp [go_sem,du]) ?_;simp only [bO,bX,bW,if_true];refine aK.go 1000 ?_
 simp only [go_sem,Ca _ l 0 (qo 0)]
 congr 1
 rw [fq];simp
theorem TS (t:Tm) (xW:t.fit) (fF:t.size<999999999):aJ Tryz.prog 162 [t.aO] (.ps 1 (ints t.vars)):=by
 refine aJ.begin (rs:=[.tmp 2]) (m:=26) 1000 Tryz.func162 rfl rfl rfl (by decide) (du _) ?_
 simp only [go_sem,dc,ah]
 rw [← dc]
 refine (T2 t _ ?_).mono ?_
 ·simp [go_sem,bQ]
 rintro _ _ ⟨rfl,rfl⟩
 refine aK.go 1000 ?_
 simp only [go_sem]
 refine aK.rangeFunc (fG 27 [(3, .ptr 1 0)]) ?_ ?_ (fun ρ ht vl kV qD=>?_)
 ·simp only [go_sem]
 ·exact fun b hb=>by cases hb
 simp only [go_sem]
 have C8:=Fh t 1
 have Nv:=WE t 1
 have jf:bx 4 ρ.tm:=by rw [ht];simp [go_sem,zP,zT]
 have fQ:∀ l:List Int,bt 8 [some (.var [.int .i64 t.head, .ps 2 (t.args.map Tm.aO)]),some (.var [i_ 4 1 (ints l)]),some (.var [.int .i64 t.head, .ps 2 (t.args.map Tm.aO)]),some (.loop (ρ.at .ready)),eV (ints l),none,none,none] :=
  fun l=>⟨⟨trivial,bQ _,trivial⟩,⟨Be (by decide) 1 _,trivial⟩,⟨trivial,bQ _,trivial⟩,il (by decide) jf,zM _ (du _),trivial,trivial,trivial,trivial⟩
 refine (RJ t fF 4 (by decide) _ (fun _=>some (.var [.int .i64 t.head, .ps 2 (t.args.map Tm.aO)])) (fun k=>some (.var [i_ 4 1 (ints (jV ((t.pre 1).take k) []))])) (fun _=>some (.var [.int .i64 t.head, .ps 2 (t.args.map Tm.aO)])) (fun _=>some (.loop (ρ.at .ready)))
  (fun k=>eV (ints (jV ((t.pre 1).take k) []))) (fun _=>none) (fun _=>none) (fun _=>none) 2 (.ld 3) rfl rfl rfl (by decide) (fun k=>fQ _) ?_ (cy 3) (fun k hk=>?_)).mono ?_
 ·exact ⟨⟨trivial,bQ _,trivial⟩,⟨trivial,trivial⟩,⟨trivial,bQ _,trivial⟩,jf,trivial⟩
 ·have uZ:jV ((t.pre 1).take (k+1)) []=tB (jV ((t.pre 1).take k) []) (t.pre 1)[k]:=by rw [SN hk,SK];rfl
  have hlen:=XY ((t.pre 1).take k) []
  rw [cV] at hlen
  have Ek:(t.pre 1)[k].2.fit:=OZ t xW 1 _ (aE hk)
  rw [uZ]
  generalize (t.pre 1)[k]=x at *
  generalize jV ((t.pre 1).take k) []=o at *
  obtain ⟨d,u⟩:=x
  simp only at Ek
  have Ej : -9223372036854775808≤u.head∧u.head≤9223372036854775807:=by obtain ⟨h,ts⟩:=u;exact Ek.1
  have s_:IntKind.i64.wrap (-1 - u.head) = -1 - u.head:=ek (by omega)
  have hol:o.length<999999999:=by simp only [aR] at hlen;omega
  by_cases c1:u.head<0
  ·have zl : 0≤-1 - u.head:=by omega
   have tQ:tB o (d,u)=kX o (-1 - u.head):=if_pos c1
   rw [tQ]
   generalize hv : -1 - u.head=v at *
   by_cases c2:v∈o
   ·have hn:kX o v=o:=if_pos c2
    rw [hn]
    refine aq.stay rfl (fQ _) ?_
    refine aq.lK 1000 ht vl kV qD rfl rfl ?_
    simp only [go_sem,ft,ah,ak,hv,s_,zl]
    refine aq.bU [4] (Hb o v (by omega)) ?_ (by simp [go_sem,du]) ?_
    ·simp only [go_sem,rf,rh,rQ]
    simp only [bO,bX,bW,if_true]
    refine aK.go 1000 ?_
    simp only [go_sem,c2]
    rw [tA]
    exact ⟨rfl,[some (.var [.int .i64 t.head, .ps 2 (t.args.map Tm.aO)]),some (.var [i_ 4 1 (ints o)]),some (.var [.int .i64 t.head, .ps 2 (t.args.map Tm.aO)]),some (.loop (ρ.at .ready)),eV (ints o),none,none,none],by simp [go_sem],ah _,fQ _,rfl,rfl⟩
   ·have hn:kX o v=o++[v]:=if_neg c2
    have vX:∀ b,b<4→pi [(4,10),(10,4)] b=b:=by decide
    rw [hn]
    refine aq.move [(4,10),(10,4)] (S':=[some (.var [.int .i64 t.head, .ps 2 (t.args.map Tm.aO)]),some (.var [.os 10 0 (o.length+1) 1]),some (.var [.int .i64 t.head, .ps 2 (t.args.map Tm.aO)]),some (.loop (ρ.at .ready)),none,none,none,none,none,none,some (.row (ints o++[.int .i64 v]) 0)]) ?_ ?_ rfl ?_ ?_
    ·exact bN 8 3
    ·exact ⟨⟨trivial,bQ _,trivial⟩,⟨cy 10,trivial⟩,⟨trivial,bQ _,trivial⟩,il (bN 4 7) jf,trivial,trivial,trivial,trivial,trivial,trivial,rO (du _) ⟨trivial,trivial⟩,trivial⟩
    ·have sZ:=Bb (pi [(4,10),(10,4)]) 4 vX (.loop (ρ.at .ready)) jf
     simp only [B_,Fg,E6,Hx,Hu,Kq,sZ]
     simp [go_sem,cD (bQ _),cD (du _),cD (rO (du o) (show bx 0 [ae.int .i64 v] from ⟨trivial,trivial⟩)),lH]
    refine aq.lK 1000 ht vl kV qD rfl rfl ?_
    simp only [go_sem,ft,ah,ak,hv,s_,zl]
    refine aq.bU [4] (Hb o v (by omega)) ?_ (by simp [go_sem,du]) ?_
    ·simp only [go_sem,rf,rh,rQ]
    simp only [bO,bX,bW,if_true]
    refine aK.go 1000 ?_
    simp only [go_sem,c2,eI,aN,forall_eq,cm,uO,lH]
    refine ⟨by omega,?_⟩
    rw [tA]
    exact ⟨rfl,[some (.var [.int .i64 t.head, .ps 2 (t.args.map Tm.aO)]),some (.var [.os 10 0 (o.length+1) 1]),some (.var [.int .i64 t.head, .ps 2 (t.args.map Tm.aO)]),some (.loop (ρ.at .ready)),none,none,none,none,none,none,some (.row (ints o++[.int .i64 v]) 0)],by simp [go_sem],bN 8 3,⟨⟨trivial,bQ _,trivial⟩,⟨cy 10,trivial⟩,⟨trivial,bQ _,trivial⟩,il (bN 4 7) jf,trivial,trivial,trivial,trivial,trivial,trivial,rO (du _) (show bx 11 [ae.int .i64 v] from ⟨trivial,trivial⟩),trivial⟩,rfl,rfl⟩
  ·have hn:tB o (d,u)=o:=if_neg c1
   rw [hn]
   refine aq.stay rfl (fQ _) ?_
   refine aq.lK 1000 ht vl kV qD rfl rfl ?_
   have zl:¬ 0≤-1 - u.head:=by omega
   simp only [go_sem,ft,ah,ak,s_,zl]
   rw [tA]
   exact ⟨rfl,[some (.var [.int .i64 t.head, .ps 2 (t.args.map Tm.aO)]),some (.var [i_ 4 1 (ints o)]),some (.var [.int .i64 t.head, .ps 2 (t.args.map Tm.aO)]),some (.loop (ρ.at .ready)),eV (ints o),none,none,none],by simp [go_sem],ah _,fQ _,rfl,rfl⟩
 rintro r' iM rfl
 rw [Cm]
 refine ⟨.ready,rfl,?_⟩
 rw [D2]
 rw [← C8,dm,Nv]
 refine aK.go 1000 ?_
 simp only [go_sem]
 rw [rQ rfl rfl];trivial
end Go.Proofs
namespace Go.Proofs
open Go Go.c8
mutual
def Tm.walk {ι:Type} (step : ι→Tm→Bool→ι):Tm→Bool→ι→ι
 | .mk h ts,top,x=>Tm.walks step ts (step x (.mk h ts) top)
def Tm.walks {ι:Type} (step : ι→Tm→Bool→ι):List Tm→ι→ι
 | [],x=>x
 | t :: ts,x=>Tm.walks step ts (t.walk step false x)
end
theorem QS {ι:Type} (step : ι→Tm→Bool→ι):∀ (ts:List Tm) (i:Nat) (hi:i<ts.length) (x : ι),Tm.walks step (ts.take (i+1)) x=ts[i].walk step false (Tm.walks step (ts.take i) x)
 | t :: ts,0,_,x=>by simp [Tm.walks]
 | t :: ts,i+1,hi,x=>by
  simp only [eN,Tm.walks,ix]
  exact QS step ts i (by simpa using hi) _
def ku (g:List Sy) (x:Bool×Bool) (t:Tm) (top:Bool):Bool×Bool :=
 if t.head<0 then x else if (g.length:Int)≤t.head∨¬ (t.args.length:Int)=(lx g t.head).arity then (true,x.2) else if (lx g t.head).cx=true∧top=false then (x.1,true) else x
def jO (g:List Sy) (t:Tm):Bool:=decide (t.head<0)||(!(decide ((g.length:Int)≤t.head))&&decide ((t.args.length:Int)=(lx g t.head).arity))
theorem Zqe (g:List Sy) (h:Int) (ts:List Tm):jO g (.mk h ts)=(decide (h<0)||(!(decide ((g.length:Int)≤h))&&decide ((ts.length:Int)=(lx g h).arity))):=rfl
theorem Ywl (g:List Sy) (x:Bool×Bool) (t:Tm) (top:Bool):(ku g x t top).1=(x.1 || !jO g t):=by
 unfold ku jO
 by_cases c1:t.head<0
 ·simp [c1]
 ·by_cases c2:(g.length:Int)≤t.head
  ·simp [c1,c2]
  ·by_cases c3:(t.args.length:Int)=(lx g t.head).arity
   ·rw [if_neg c1,if_neg (by simp [c2,c3])]
    split<;>simp [c1,c2,c3]
   ·simp [c1,c2,c3]
theorem Tn {h:Int} {ts:List Tm} (hg:(Tm.mk h ts).good=true) (c:h<0):ts=[]:=by
 simp only [Tm.good,aD,bT,cA,eW,decide_eq_false_iff_not] at hg
 rcases hg.1.1.1.1 with h' | h'
 ·exact absurd c h'
 ·exact gX.1 (by omega)
theorem SV {h:Int} {ts:List Tm} (hg:(Tm.mk h ts).good=true):Tm.fT ts=true:=by
 simp only [Tm.good,aD] at hg;exact hg.2
mutual
theorem Pu (g:List Sy):∀ (t:Tm) (top:Bool) (x:Bool×Bool),t.good=true→(t.walk (ku g) top x).1=(x.1 || !t.known g)
 | .mk h ts,top,x,hg=>by
  simp only [Tm.walk,Tm.known]
  rw [OV g ts _ (SV hg),Ywl,Zqe]
  by_cases c1:h<0
  ·have:=Tn hg c1
   subst this
   simp [c1,Tm.gN]
  ·have e1:decide (h<0)=false:=decide_eq_false c1
   rw [e1]
   simp only [dn,Bool.not_and,Bool.or_assoc]
theorem OV (g:List Sy):∀ (ts:List Tm) (x:Bool×Bool),Tm.fT ts=true→(Tm.walks (ku g) ts x).1=(x.1 || !Tm.gN g ts)
 | [],x,_=>by simp [Tm.walks,Tm.gN]
 | t :: ts,x,hg=>by
  simp only [Tm.fT,aD] at hg
  simp only [Tm.walks,Tm.gN]
  rw [OV g ts _ hg.2,Pu g t _ _ hg.1,Bool.not_and,Bool.or_assoc]
end
theorem Yw8 (g:List Sy) (x:Bool×Bool) (t:Tm) (top:Bool) (hk:jO g t=true):(ku g x t top).2=(x.2||(!top&&t.cx g)):=by
 unfold ku
 unfold jO at hk
 by_cases c1:t.head<0
 ·simp [c1,Tm.cx,show ¬ 0≤t.head by omega]
 ·simp only [decide_eq_false c1,dn,aD,bT,decide_eq_false_iff_not,decide_eq_true_eq] at hk
  rw [if_neg c1,if_neg (by simp only [hk.2,not_true_eq_false,or_false];exact hk.1)]
  have h0 : 0≤t.head:=by omega
  have h1:t.head<(g.length:Int):=by omega
  cases ht:(lx g t.head).cx<;>cases top<;>simp [Tm.cx,h0,h1,ht]
mutual
theorem PD (g:List Sy):∀ (t:Tm) (top:Bool) (x:Bool×Bool),t.good=true→t.known g=true→(t.walk (ku g) top x).2=(x.2||((!top&&t.cx g) || !t.jm g))
 | .mk h ts,top,x,hg,hk=>by
  have hh:jO g (.mk h ts)=true:=by
   simp only [Tm.known,bY,aD] at hk
   simp only [jO,Tm.head,Tm.args,bY,aD]
   exact hk.imp id And.left
  have MN:Tm.gN g ts=true:=by
   by_cases c1:h<0
   ·rw [Tn hg c1];rfl
   ·simp only [Tm.known,decide_eq_false c1,dn,aD] at hk;exact hk.2
  simp only [Tm.walk,Tm.jm]
  rw [Om g ts _ (SV hg) MN,Yw8 g x _ top hh,Bool.or_assoc]
theorem Om (g:List Sy):∀ (ts:List Tm) (x:Bool×Bool),Tm.fT ts=true→Tm.gN g ts=true→(Tm.walks (ku g) ts x).2=(x.2 || !Tm.jn g ts)
 | [],x,_,_=>by simp [Tm.walks,Tm.jn]
 | t :: ts,x,hg,hk=>by
  simp only [Tm.fT,Tm.gN,aD] at hg hk
  simp only [Tm.walks,Tm.jn]
  rw [Om g ts _ hg.2 hk.2,PD g t _ _ hg.1 hk.1]
  cases t.cx g<;>cases t.jm g<;>cases x.2<;>simp
end
end Go.Proofs
namespace Go.Proofs
open Go Go.c8
attribute [local go_sem] Nat.reduceAdd Nat.reduceSub Nat.reduceMul Nat.reduceLeDiff Nat.reduceEqDiff Nat.reduceBEq
theorem Yrm {ι:Type} (b0 b1 b2 b3 b4 b5 b6 b7 : ι→Option bE) (step : ι→Tm→Bool→ι) (c:ae) (hs:∀ x,bt 8 [b0 x,b1 x,b2 x,b3 x,b4 x,b5 x,b6 x,b7 x]) (hc:c.low 8)
  (hy:∀ x t top,aq Tryz.prog c [t.aO, .bool top] [b0 x,b1 x,b2 x,b3 x,b4 x,b5 x,b6 x,b7 x] (fun _ σ'=>σ'=[b0 (step x t top),b1 (step x t top),b2 (step x t top),b3 (step x t top),b4 (step x t top),b5 (step x t top),b6 (step x t top),b7 (step x t top)])) (t:Tm) :
  t.size<2 ^ 62→∀ top x,aq Tryz.prog (.fn 159 [] []) [t.aO, .bool top,c] [b0 x,b1 x,b2 x,b3 x,b4 x,b5 x,b6 x,b7 x]
   (fun r σ'=>r = .dz []∧σ'=[b0 (t.walk step top x),b1 (t.walk step top x),b2 (t.walk step top x),b3 (t.walk step top x),b4 (t.walk step top x),b5 (t.walk step top x),b6 (t.walk step top x),b7 (t.walk step top x)]):=by
 induction t using Tm.kQ with
 | h h ts ih =>
 intro fF top x
 simp only [Tm.size] at fF
 have hlen:=p5 ts
 have F1:=mQ (m:=9) (by decide) hc
 refine aq.begin (rs:=[]) (m:=20) 1000 Tryz.func159 rfl rfl rfl rfl rfl ?_
 simp only [go_sem,dc,Tm.head,Tm.args,ah]
 rw [FD]
 refine aq.tail (σ:=[b0 x,b1 x,b2 x,b3 x,b4 x,b5 x,b6 x,b7 x]) (τ:=[some (.var [.int .i64 h, .ps 2 (ts.map Tm.aO)])]) hc (by simp [go_sem,dC]) (hs x) ?_
 refine (hy x (.mk h ts) top).mono ?_
 rintro r σ' rfl
 refine ⟨rfl,?_⟩
 refine aK.go 1000 ?_
 simp only [go_sem,ak]
 generalize yt:step x (.mk h ts) top=x1
 have hend:Tm.walk step (.mk h ts) top x=Tm.walks step ts x1:=by rw [← yt];rfl
 rw [hend]
 refine aK.c_ (ι:={i:Nat // i≤ts.length}) 1000 (fun i=>fG 23 [(2,c),(13, .ps 2 (ts.map Tm.aO)),(14, .int .i64 ts.length),(15, .int .i64 i.1)]) (fun i=>[b0 (Tm.walks step (ts.take i.1) x1),b1 (Tm.walks step (ts.take i.1) x1),b2 (Tm.walks step (ts.take i.1) x1),b3 (Tm.walks step (ts.take i.1) x1),b4 (Tm.walks step (ts.take i.1) x1),b5 (Tm.walks step (ts.take i.1) x1),b6 (Tm.walks step (ts.take i.1) x1),b7 (Tm.walks step (ts.take i.1) x1),some (.var [.int .i64 h, .ps 2 (ts.map Tm.aO)])]) (fun i=>ts.length - i.1) ⟨0,by omega⟩ ?_ (fun _=>bN 8 1) ?_
 ·have h9:=nx (m:=9) (by decide) (hs x1)
  simp only [wy,EZ,and_true] at h9
  simp only [go_sem,F1,bQ,wy,h9,List.take_zero,Tm.walks,w9,cI]
 ·rintro ⟨i,hi⟩
  by_cases bD:(i:Int)<ts.length
  ·have aZ:i<ts.length:=by omega
   have GJ:=AZ ts i aZ
   have GH:=QS step ts i aZ x1
   simp only [go_sem,bD,ak,b_,nO aZ,ft,ah]
   rw [← dc]
   (repeat ((with_reducible refine And.intro ?_ ?_); ·omega))
   refine aq.tail (σ:=[b0 (Tm.walks step (ts.take i) x1),b1 (Tm.walks step (ts.take i) x1),b2 (Tm.walks step (ts.take i) x1),b3 (Tm.walks step (ts.take i) x1),b4 (Tm.walks step (ts.take i) x1),b5 (Tm.walks step (ts.take i) x1),b6 (Tm.walks step (ts.take i) x1),b7 (Tm.walks step (ts.take i) x1)]) (τ:=[some (.var [.int .i64 h, .ps 2 (ts.map Tm.aO)]),some (.var [.int .i64 ts[i].head, .ps 2 (ts[i].args.map Tm.aO)])]) ⟨trivial,trivial⟩ (by simp [go_sem,dC,hc]) (hs _) ?_
   refine (ih i aZ (by omega) false _).mono ?_
   rintro r' iM ⟨rfl,rfl⟩
   refine ⟨rfl,?_⟩
   rw [← GH]
   refine aK.go 1000 ?_
   simp only [go_sem]
   refine ⟨⟨i+1,aZ⟩,?_,by simp only;omega⟩
   have h9:=nx (m:=9) (by decide) (hs (Tm.walks step (ts.take (i+1)) x1))
   simp only [wy,EZ,and_true] at h9
   simp only [go_sem,F1,bQ,wy,h9,w9]
   rw [ek (by omega)];rfl
  ·have dP:i=ts.length:=by omega
   subst dP
   simp only [go_sem,bD,dm]
   refine aK.go 1000 ?_
   simp only [go_sem]
   rw [fL]
   exact ⟨[b0 (Tm.walks step ts x1),b1 (Tm.walks step ts x1),b2 (Tm.walks step ts x1),b3 (Tm.walks step ts x1),b4 (Tm.walks step ts x1),b5 (Tm.walks step ts x1),b6 (Tm.walks step ts x1),b7 (Tm.walks step ts x1)],by simp [go_sem],ah _,hs _,trivial,rfl,rfl⟩
theorem Yk5 (g:List Sy) (b1:Option bE) (qA:jg 8 b1) (x:Bool×Bool) (t:Tm) (top:Bool):aq Tryz.prog (.fn 160 [] [.ptr 0 0, .ptr 2 0, .ptr 3 0]) [t.aO, .bool top] [some (.var [.ps 4 (syms g)]),b1,some (.var [.bool x.1]),some (.var [.bool x.2]),none,none,none,none]
  (fun _ σ'=>σ'=[some (.var [.ps 4 (syms g)]),b1,some (.var [.bool (ku g x t top).1]),some (.var [.bool (ku g x t top).2]),none,none,none,none]):=by
 obtain ⟨un,mx⟩:=x
 have jY:∀ u m,bt 8 [some (.var [.ps 4 (syms g)]),b1,some (.var [.bool u]),some (.var [.bool m]),none,none,none,none]:=fun u m=>⟨⟨dK g,trivial⟩,qA,⟨trivial,trivial⟩,⟨trivial,trivial⟩,trivial,trivial,trivial,trivial,trivial⟩
 refine aq.begin (rs:=[]) (m:=35) 1000 Tryz.func160 rfl rfl rfl rfl rfl ?_
 by_cases c1:t.head<0
 ·have qO:ku g (un,mx) t top=(un,mx):=if_pos c1
  simp only [go_sem,dc,c1]
  rw [fL]
  exact ⟨[some (.var [.ps 4 (syms g)]),b1,some (.var [.bool un]),some (.var [.bool mx]),none,none,none,none],by simp [go_sem],ah _,jY _ _,trivial,by rw [qO]⟩
 simp only [go_sem,dc,c1]
 refine aK.draw [] 9 9 mixed rfl rfl (ah _) ?_
 by_cases c2:(g.length:Int)≤t.head
 ·have qO:ku g (un,mx) t top=(true,mx):=by rw [ku,if_neg c1,if_pos (.inl c2)]
  simp only [go_sem,dx,rj,c2]
  refine aK.go 1000 ?_
  simp only [go_sem]
  rw [fL]
  exact ⟨[some (.var [.ps 4 (syms g)]),b1,some (.var [.bool true]),some (.var [.bool mx]),none,none,none,none],by simp [go_sem],ah _,jY _ _,trivial,by rw [qO]⟩
 have hi:t.head.toNat<g.length:=by omega
 have BG:lx g t.head=g[t.head.toNat]:=Fl hi
 by_cases c3:(t.args.length:Int)=g[t.head.toNat].arity
 ·simp only [go_sem,dx,rj,c2,ak,xa hi,xb,c3,ah]
  (repeat ((with_reducible refine And.intro ?_ ?_); ·omega))
  refine aK.go 1000 ?_
  cases ht:g[t.head.toNat].cx with
  | false =>
   have qO:ku g (un,mx) t top=(un,mx):=by rw [ku,if_neg c1,if_neg (by rw [BG];simp only [c3,not_true_eq_false,or_false];exact c2),if_neg (by rw [BG,ht];simp)]
   simp only [go_sem,rj,xa hi,xb,ht]
   (repeat ((with_reducible refine And.intro ?_ ?_); ·omega))
   rw [fL]
   exact ⟨[some (.var [.ps 4 (syms g)]),b1,some (.var [.bool un]),some (.var [.bool mx]),none,none,none,none],by simp [go_sem],ah _,jY _ _,trivial,by rw [qO]⟩
  | true =>
   cases top with
   | false =>
    have qO:ku g (un,mx) t false=(un,true):=by rw [ku,if_neg c1,if_neg (by rw [BG];simp only [c3,not_true_eq_false,or_false];exact c2),if_pos (by rw [BG,ht];simp)]
    simp only [go_sem,rj,xa hi,xb,ht]
    (repeat ((with_reducible refine And.intro ?_ ?_); ·omega))
    rw [fL]
    exact ⟨[some (.var [.ps 4 (syms g)]),b1,some (.var [.bool un]),some (.var [.bool true]),none,none,none,none],by simp [go_sem],ah _,jY _ _,trivial,by rw [qO]⟩
   | true =>
    have qO:ku g (un,mx) t true=(un,mx):=by rw [ku,if_neg c1,if_neg (by rw [BG];simp only [c3,not_true_eq_false,or_false];exact c2),if_neg (by simp)]
    simp only [go_sem,rj,xa hi,xb,ht]
    (repeat ((with_reducible refine And.intro ?_ ?_); ·omega))
    rw [fL]
    exact ⟨[some (.var [.ps 4 (syms g)]),b1,some (.var [.bool un]),some (.var [.bool mx]),none,none,none,none],by simp [go_sem],ah _,jY _ _,trivial,by rw [qO]⟩
 ·have qO:ku g (un,mx) t top=(true,mx):=by rw [ku,if_neg c1,if_pos (.inr (by rw [BG];exact c3))]
  simp only [go_sem,dx,rj,c2,ak,xa hi,xb,c3,ah]
  (repeat ((with_reducible refine And.intro ?_ ?_); ·omega))
  refine aK.go 1000 ?_
  simp only [go_sem]
  rw [fL]
  exact ⟨[some (.var [.ps 4 (syms g)]),b1,some (.var [.bool true]),some (.var [.bool mx]),none,none,none,none],by simp [go_sem],ah _,jY _ _,trivial,by rw [qO]⟩
theorem K7 (g:List Sy) (t:Tm) (fF:t.size<999999999):aJ Tryz.prog 135 [.ps 4 (syms g),t.aO] (.int .i64 (t.term g)):=by
 refine aJ.begin (rs:=[.tmp 4]) (m:=24) 1000 Tryz.func135 rfl rfl rfl (by decide) trivial ?_
 simp only [go_sem,dc,ah]
 refine aq.bU [] (Qt g) (cE _ _ _) (by simp [go_sem,dK]) ?_;simp only [bO,bX,bW,if_true];refine aK.go 1000 ?_
 cases c1:fV g with
 | false=>simp only [go_sem,Tm.term,c1,Int.reduceEq]
 | true =>
 simp only [go_sem,ah]
 rw [← dc]
 refine aq.bU [] (B8 t fF) (cE _ _ _) (by simp [go_sem,dC]) ?_;simp only [bO,bX,bW,if_true];refine aK.go 1000 ?_
 by_cases c2:t.check=0
 case neg=>simp only [go_sem,c2,Tm.term,c1]
 simp only [go_sem,c2,ah]
 rw [← dc]
 have vU:=(Zyq c2).1
 have qA:jg 8 (some (.var [.int .i64 t.head, .ps 2 (t.args.map Tm.aO)])):=⟨trivial,bQ _,trivial⟩
 refine aq.pad 4 ?_
 refine (Yrm (ι:=Bool×Bool) (fun _=>some (.var [.ps 4 (syms g)])) (fun _=>some (.var [.int .i64 t.head, .ps 2 (t.args.map Tm.aO)])) (fun x=>some (.var [.bool x.1])) (fun x=>some (.var [.bool x.2])) (fun _=>none) (fun _=>none) (fun _=>none) (fun _=>none)
  (ku g) (.fn 160 [] [.ptr 0 0, .ptr 2 0, .ptr 3 0]) (fun x=>⟨⟨dK g,trivial⟩,qA,⟨trivial,trivial⟩,⟨trivial,trivial⟩,trivial,trivial,trivial,trivial,trivial⟩) (by simp [go_sem]) (fun x t top=>Yk5 g _ qA x t top) t (by omega) true (false,false)).mono ?_
 rintro r σ' ⟨rfl,rfl⟩
 rw [fL]
 refine ⟨[some (.var [.ps 4 (syms g)]),some (.var [.int .i64 t.head, .ps 2 (t.args.map Tm.aO)]),some (.var [.bool (t.walk (ku g) true (false,false)).1]),some (.var [.bool (t.walk (ku g) true (false,false)).2])],by simp [go_sem],ah _,⟨⟨dK g,trivial⟩,⟨trivial,bQ _,trivial⟩,⟨trivial,trivial⟩,⟨trivial,trivial⟩,trivial⟩,trivial,?_⟩
 rw [Pu g t true _ vU]
 refine aK.go 1000 ?_
 cases c3:t.known g with
 | false =>
  simp only [go_sem]
  simp [Tm.term,c1,c2,c3]
 | true =>
  rw [PD g t true _ vU c3]
  cases c4:t.jm g with
  | false =>
   simp only [go_sem]
   simp [Tm.term,c1,c2,c3,c4]
  | true =>
   simp only [go_sem]
   simp [Tm.term,c1,c2,c3,c4]
def qW (g:List Sy) (l:Li):ae:=.agg [.ps 4 (syms g), .bool l.neg, .int .i64 l.l.head, .ps 2 (l.l.args.map Tm.aO), .int .i64 l.r.head, .ps 2 (l.r.args.map Tm.aO)]
theorem xe (g:List Sy) (l:Li):qW g l = .agg [.ps 4 (syms g), .bool l.neg, .int .i64 l.l.head, .ps 2 (l.l.args.map Tm.aO), .int .i64 l.r.head, .ps 2 (l.r.args.map Tm.aO)]:=rfl
theorem DU {n:Nat} (g:List Sy) (l:Li):(qW g l).low n:=⟨dK _,trivial,trivial,bQ _,trivial,bQ _,trivial⟩
theorem Yq0 (g:List Sy) (l:Li) (fF:l.l.size<999999999):aJ Tryz.prog 98 [qW g l] (.int .i64 (l.l.term g)):=by
 refine aJ.begin (rs:=[.tmp 2]) (m:=8) 1000 Tryz.func98 rfl rfl rfl (by decide) trivial ?_
 simp only [go_sem,xe,ah]
 rw [← dc]
 refine aq.bU [] (K7 g l.l fF) (cE _ _ _) (by simp [go_sem,dK,dC]) ?_;simp only [bO,bX,bW,if_true];refine aK.go 1000 ?_
 simp only [go_sem]
theorem YK (g:List Sy) (l:Li) (fF:l.r.size<999999999):aJ Tryz.prog 99 [qW g l] (.int .i64 (l.r.term g)):=by
 refine aJ.begin (rs:=[.tmp 2]) (m:=8) 1000 Tryz.func99 rfl rfl rfl (by decide) trivial ?_
 simp only [go_sem,xe,ah]
 rw [← dc]
 refine aq.bU [] (K7 g l.r fF) (cE _ _ _) (by simp [go_sem,dK,dC]) ?_;simp only [bO,bX,bW,if_true];refine aK.go 1000 ?_
 simp only [go_sem]
theorem RI (g:List Sy) (l:Li) (t:Tm) (h:t.head<g.length):aJ Tryz.prog 136 [qW g l,t.aO] (.bool (t.cx g)):=by
 refine aJ.begin (rs:=[.tmp 4]) (m:=15) 1000 Tryz.func136 rfl rfl rfl (by decide) trivial ?_
 by_cases c1 : 0≤t.head
 ·have hi:t.head.toNat<g.length:=by omega
  have BG:lx g t.head=g[t.head.toNat]:=Fl hi
  simp only [go_sem,xe,dc,c1,rj,xa hi,xb]
  refine ⟨by omega,?_⟩
  simp [Tm.cx,c1,h,BG]
 ·simp only [go_sem,xe,dc,c1,Tm.cx]
def Li.sorts (g:List Sy) (l:Li):Int:=if (l.l.cx g&&decide (l.r.head≠0))||(!l.l.cx g&&l.r.cx g) then 10 else 0
theorem Zt (g:List Sy) (l:Li) (h1:l.l.head<g.length) (h2:l.r.head<g.length):aJ Tryz.prog 100 [qW g l] (.int .i64 (l.sorts g)):=by
 refine aJ.begin (rs:=[.tmp 2]) (m:=27) 1000 Tryz.func100 rfl rfl rfl (by decide) trivial ?_
 simp only [go_sem,xe,ah]
 rw [← dc,← xe]
 refine aq.bU [] (RI g l l.l h1) (cE _ _ _) (by simp [go_sem,DU,dC]) ?_;simp only [bO,bX,bW,if_true];refine aK.go 1000 ?_
 cases c1:l.l.cx g with
 | true =>
  by_cases c2:l.r.head=0
  ·simp only [go_sem,c2]
   simp [Li.sorts,c1,c2]
  ·simp only [go_sem,c2]
   simp [Li.sorts,c1,c2]
 | false =>
  simp only [go_sem,ah]
  rw [← dc,← xe]
  refine aq.bU [] (RI g l l.r h2) (cE _ _ _) (by simp [go_sem,DU,dC]) ?_;simp only [bO,bX,bW,if_true];refine aK.go 1000 ?_
  cases c2:l.r.cx g <;>
  ·simp only [go_sem]
   simp [Li.sorts,c1,c2]
theorem Hc (g:List Sy) (l:Li):l.check g=if l.l.term g≠0 then l.l.term g else if l.r.term g≠0 then l.r.term g else l.sorts g:=rfl
theorem OE {g:List Sy} {t:Tm} (h:t.known g=true) (hg : 1≤g.length):t.head<g.length:=by
 obtain ⟨hd,ts⟩:=t
 simp only [Tm.head]
 by_cases c:hd<0
 ·omega
 ·simp only [Tm.known,decide_eq_false c,dn,aD,bT,decide_eq_false_iff_not] at h
  omega
theorem Yk2 {g:List Sy} {t:Tm} (h:t.term g=0):fV g=true:=by
 unfold Tm.term at h
 split at h
 ·omega
 ·rename_i h2;simpa using h2
theorem Ykk (g:List Sy) (l:Li) (hl:l.l.size<999999999) (hr:l.r.size<999999999):aJ Tryz.prog 97 [qW g l, .ps 1 [.fn 98 [] [], .fn 99 [] [], .fn 100 [] []]] (.int .i64 (l.check g)):=by
 refine aJ.begin (rs:=[.tmp 4]) (m:=19) 1000 Tryz.func97 rfl rfl rfl (by decide) trivial ?_
 simp only [go_sem,xe]
 refine aK.c_ (ι:={i:Nat // i≤3∧(1≤i→l.l.term g=0)∧(2≤i→l.r.term g=0)∧(3≤i→l.sorts g=0)}) 1000 (fun i=>fG 21 [(2, .ptr 0 0),(8, .ps 1 [.fn 98 [] [], .fn 99 [] [], .fn 100 [] []]),(9, .int .i64 ((3:Nat):Int)),(10, .int .i64 i.1)])
  (fun _=>[some (.var [.ps 4 (syms g), .bool l.neg, .int .i64 l.l.head, .ps 2 (l.l.args.map Tm.aO), .int .i64 l.r.head, .ps 2 (l.r.args.map Tm.aO)])]) (fun i=>3 - i.1) ⟨0,by omega,by omega,by omega,by omega⟩ ?_ (fun _=>av _) ?_
 ·simp only [go_sem,dK,bQ,cI,cm]
 ·rintro ⟨i,hi,h1,h2,h3⟩
  have n0:((0:Nat):Int)=0:=rfl
  have n1:((1:Nat):Int)=1:=rfl
  have n2:((2:Nat):Int)=2:=rfl
  have n3:((3:Nat):Int)=3:=rfl
  rcases (by omega:i=0∨i=1∨i=2∨i=3) with rfl | rfl | rfl | rfl
  ·simp only [go_sem,n0,n1,n2,n3,Int.reduceLT,Int.reduceLE,ax,aR,Int.reduceToNat,bf,bB,ah]
   rw [← xe]
   refine aq.bU [] (Yq0 g l hl) (cE _ _ _) (by simp [go_sem,DU]) ?_;simp only [bO,bX,bW,if_true];refine aK.go 1000 ?_
   by_cases c:l.l.term g=0
   ·simp only [go_sem,c]
    refine ⟨⟨1,by omega,fun _=>c,by omega,by omega⟩,?_,by simp only;omega⟩
    simp only [go_sem,dK,bQ,cm]
    rfl
   ·simp only [go_sem,c]
    refine aK.go 1000 ?_
    simp only [go_sem]
    rw [Hc,if_pos c]
  ·simp only [go_sem,n0,n1,n2,n3,Int.reduceLT,Int.reduceLE,ax,aR,Int.reduceToNat,bf,bB,ah]
   rw [← xe]
   refine aq.bU [] (YK g l hr) (cE _ _ _) (by simp [go_sem,DU]) ?_;simp only [bO,bX,bW,if_true];refine aK.go 1000 ?_
   by_cases c:l.r.term g=0
   ·simp only [go_sem,c]
    refine ⟨⟨2,by omega,fun _=>h1 (by omega),fun _=>c,by omega⟩,?_,by simp only;omega⟩
    simp only [go_sem,dK,bQ,cm]
    rfl
   ·simp only [go_sem,c]
    refine aK.go 1000 ?_
    simp only [go_sem]
    rw [Hc,if_neg (by simp [h1 (by omega)]),if_pos c]
  ·have t1:=h1 (by omega)
   have t2:=h2 (by omega)
   have hg:=(RA (Yk2 t1)).1
   simp only [go_sem,n0,n1,n2,n3,Int.reduceLT,Int.reduceLE,ax,aR,Int.reduceToNat,bf,bB,ah]
   rw [← xe]
   refine aq.bU [] (Zt g l (OE (oH t1).2.1 hg) (OE (oH t2).2.1 hg)) (cE _ _ _) (by simp [go_sem,DU]) ?_;simp only [bO,bX,bW,if_true];refine aK.go 1000 ?_
   by_cases c:l.sorts g=0
   ·simp only [go_sem,c]
    refine ⟨⟨3,by omega,fun _=>t1,fun _=>t2,fun _=>c⟩,?_,by simp only;omega⟩
    simp only [go_sem,dK,bQ,cm]
    rfl
   ·simp only [go_sem,c]
    refine aK.go 1000 ?_
    simp only [go_sem]
    rw [Hc,if_neg (by simp [t1]),if_neg (by simp [t2])]
  ·simp only [go_sem,n0,n1,n2,n3,Int.reduceLT]
   refine aK.go 1000 ?_
   simp only [go_sem]
   rw [Hc,if_neg (by simp [h1 (by omega)]),if_neg (by simp [h2 (by omega)]),h3 (by omega)]
theorem Ks (g:List Sy) (l:Li) (hl:l.l.size<999999999) (hr:l.r.size<999999999):aJ Tryz.prog 62 [.ps 4 (syms g),l.aO] (.int .i64 (l.check g)):=by
 refine aJ.begin (rs:=[.tmp 4]) (m:=8) 1000 Tryz.func62 rfl rfl rfl (by decide) trivial ?_
 simp only [go_sem,Li.aO,Li.cs]
 refine ⟨rfl,rfl,rfl,by decide,?_⟩
 rw [← xe]
 refine aq.bU [1] (Ykk g l hl hr) ?_ (by simp [go_sem,DU]) ?_
 ·simp only [go_sem,rf,rh]
 simp only [bO,bX,bW,if_true]
 refine aK.go 1000 ?_
 simp only [go_sem]
theorem E0 (g:List Sy) (c:List Li) (hs:∀ (i:Nat) (h:i<c.length),c[i].l.size<999999999∧c[i].r.size<999999999):aJ Tryz.prog 28 [.ps 4 (syms g), .ps 5 (lits c)] (.int .i64 (bd g c)):=by
 refine aJ.begin (rs:=[.tmp 4]) (m:=28) 1000 Tryz.func28 rfl rfl rfl (by decide) trivial ?_
 simp only [go_sem]
 refine aq.bU [] (Qt g) (cE _ _ _) (by simp [go_sem,dK]) ?_;simp only [bO,bX,bW,if_true];refine aK.go 1000 ?_
 cases c1:fV g with
 | false =>
  simp only [go_sem,Int.reduceEq]
  simp [bd,c1]
 | true =>
 by_cases c2 : 32<(c.length:Int)
 ·simp only [go_sem,fP,c2]
  simp [bd,c1,c2]
 simp only [go_sem,fP,c2]
 have IY:bd g c=dA g c:=by simp [bd,c1,c2]
 rw [IY]
 refine aK.c_ (ι:={i:Nat // i≤c.length∧dA g (c.drop i)=dA g c}) 1000 (fun i=>fG 30 [(0, .ps 4 (syms g)),(17, .ps 5 (lits c)),(18, .int .i64 c.length),(19, .int .i64 i.1)]) (fun _=>[]) (fun i=>c.length - i.1) ⟨0,by simp⟩ ?_ (fun _=>av _) ?_
 ·simp only [go_sem,dK,cr,fP,cI]
 ·rintro ⟨i,hi,aP⟩
  by_cases bD:(i:Int)<c.length
  ·have aZ:i<c.length:=by omega
   rw [Zmd g c i aZ] at aP
   simp only [go_sem,fP,bD,b_,tu aZ,ky,ah]
   refine ⟨by omega,?_⟩
   have fF:=hs i aZ
   refine aq.bU [] (Ks g c[i] fF.1 fF.2) (by simp only [Li.aO,Li.cs];exact cE _ _ _) (by simp [go_sem,dK,mR]) ?_
   simp only [bO,bX,bW,if_true]
   refine aK.go 1000 ?_
   by_cases c3:c[i].check g=0
   ·simp only [go_sem,c3]
    rw [if_neg (by simp [c3])] at aP
    refine ⟨⟨i+1,aZ,aP⟩,?_,by simp only;omega⟩
    simp only [go_sem,dK,cr]
    rw [ek (by omega)];rfl
   ·simp only [go_sem,c3]
    rw [if_pos c3] at aP
    refine aK.go 1000 ?_
    simp only [go_sem,aP]
  ·simp only [go_sem,fP,bD]
   refine aK.go 1000 ?_
   simp only [go_sem]
   have:i=c.length:=by omega
   subst this
   rw [← aP,aV,dA]
theorem X9 (c:List Li) (hc:c.length<1000000):aJ Tryz.prog 74 [.ps 5 (lits c)] (.ps 2 ((cR c).map Tm.aO)):=by
 refine aJ.begin (rs:=[.tmp 2]) (m:=20) 1000 Tryz.func74 rfl rfl rfl (by decide) (bQ _) ?_
 simp only [go_sem,fP]
 refine aK.h_ (ι:={i:Nat // i≤c.length}) 1000 (fun i=>fG 21 [(3,i_ 0 2 ((cR (c.take i.1)).map Tm.aO)),(6, .ps 5 (lits c)),(7, .int .i64 c.length),(8, .int .i64 i.1)]) (fun i=>[eV ((cR (c.take i.1)).map Tm.aO)]) (fun i=>c.length - i.1) ⟨0,by omega⟩ [] ?_ (fun _=>by simp) ?_
 ·refine iP rfl ?_
  simp only [go_sem,cR,oE,uD,tz,cr,cD,cI]
 ·rintro ⟨i,hi⟩
  have Vh:=EW (c.take i)
  have oQ:(c.take i).length≤c.length:=by rw [cV];omega
  have iq:=fun h=>Rl c i h
  generalize hq:cR (c.take i)=q at *
  by_cases bD:(i:Int)<c.length
  ·have aZ:i<c.length:=by omega
   simp only [go_sem,fP,bD,hq,b_,tu aZ,ky,ah,K_,eI,aQ,en,forall_eq_or_imp,forall_eq,ef,ak]
   refine ⟨by omega,by omega,⟨i+1,aZ⟩,[(0,3),(3,0)],iP rfl ?_,by simp only;omega⟩
   simp only [iq aZ]
   rw [ek (by omega)]
   have e1:(q++[c[i].l,c[i].r]).map Tm.aO=q.map Tm.aO++[.agg [.int .i64 c[i].l.head, .ps 2 (c[i].l.args.map Tm.aO)], .agg [.int .i64 c[i].r.head, .ps 2 (c[i].r.args.map Tm.aO)]]:=by
    rw [cL,aF,aF,aS,dc c[i].l,dc c[i].r]
   have lw:bx 0 ((q++[c[i].l,c[i].r]).map Tm.aO):=bQ _
   rw [e1] at lw ⊢
   rw [vQ (by simp),vS (by simp)]
   simp only [go_sem,cr,cD,cD lw,ak,il (av 1) lw,lZ,l5,cm]
  ·simp only [go_sem,bD]
   refine aK.go 1000 ?_
   have:i=c.length:=by omega
   subst this
   rw [dm] at hq
   simp only [go_sem,hq,rQ]
end Go.Proofs
namespace Go.Proofs
open Go Go.c8
attribute [local go_sem] Nat.reduceAdd Nat.reduceSub Nat.reduceMul Nat.reduceLeDiff Nat.reduceEqDiff Nat.reduceBEq Nat.reduceLT Nat.le_refl Int.natCast_zero Nat.sub_zero List.length_map Int.toNat_natCast Int.natCast_one Int.reduceEq Int.reduceLT Int.reduceLE Int.reduceNe Int.sub_zero Int.zero_add Int.toNat_one
def jR (p:Int→Bool) (vs:List Int) (seen:List Nat):Bool:=seen.any fun i=>p (vs.getD i 0)
theorem OL (p q:Nat→Bool) (h:∀ x,p x=true→q x=true):∀ l:List Nat,(l.filter p).length≤(l.filter q).length
 | []=>ah _
 | x :: l=>by
  have:=OL p q h l
  simp only [List.filter_cons]
  cases hp:p x with
  | true=>simp [h x hp];omega
  | false=>cases hq:q x<;>simp<;>omega
theorem O9 (p q:Nat→Bool) (h:∀ x,p x=true→q x=true):∀ (l:List Nat) (i:Nat),i∈l→q i=true→p i=false→(l.filter p).length<(l.filter q).length
 | x :: l,i,hi,h1,h2=>by
  have hle:=OL p q h l
  simp only [List.filter_cons]
  rcases aQ.1 hi with rfl | hi
  ·simp [h1,h2];omega
  ·have:=O9 p q h l i hi h1 h2
   cases hp:p x with
   | true=>simp [h x hp];omega
   | false=>cases hq:q x<;>simp<;>omega
def sQ (n:Nat) (seen:List Nat):Nat:=((List.range n).filter fun j=>!seen.contains j).length
theorem Sn {n j:Nat} {seen:List Nat} (hj:j<n) (hn:j ∉ seen):sQ n (seen++[j])<sQ n seen :=
 O9 _ _ (fun x hx=>by
  simp only [bT,← da,pZ] at hx ⊢
  exact fun h=>hx (aW.2 (.inl h))) _ j (cu.2 hj) (by simpa using hn) (by simp)
theorem Ykj (w:Int) (ks:List ae) (vs:List Int) (h:ks.length=vs.length) (hk:bx 0 ks):aJ Tryz.prog 228 [.pp [.int .i64 w, .pm ks (ints vs)]] (.dz [.bool (vs.any fun n=>decide (0<n)), .bool (vs.any fun n=>decide (n<0))]):=by
 refine aJ.begin (rs:=[.tmp 2, .tmp 3]) (m:=28) 1000 Tryz.func228 rfl rfl rfl (by decide) ⟨trivial,trivial,trivial⟩ ?_
 simp only [go_sem]
 refine aK.c_ (ι:={seen:List Nat // ∀ i∈seen,i<ks.length}) 1000 (fun x=>fG 29 [(2, .bool false),(3, .bool false),(4, .bool (jR (fun n=>decide (0<n)) vs x.1)),(5, .bool (jR (fun n=>decide (n<0)) vs x.1)),(12, .it 0)])
  (fun x=>[some (.kZ ks (ints vs) x.1)]) (fun x=>sQ ks.length x.1) ⟨[],fun i hi=>by cases hi⟩ ?_ (fun _=>av _) ?_
 ·simp only [go_sem,jR,mG]
  exact ⟨il (av 1) hk,du _⟩
 ·rintro ⟨seen,hs⟩
  simp only [go_sem]
  refine ⟨0,ks,ints vs,seen,rfl,rfl,fun j hj hn=>?_,fun eK=>?_⟩
  ·have Ve:j<vs.length:=by omega
   have GG:∀ i∈seen++[j],i<ks.length:=fun i hi=>by
    rcases aW.1 hi with hi | hi
    ·exact hs i hi
    ·rw [aN.1 hi];exact hj
   have sv:∀ p:Int→Bool,jR p vs (seen++[j])=(jR p vs seen||p (vs.getD j 0)):=fun p=>by simp [jR]
   have hg:(ints vs).getD j .undef = .int .i64 (vs.getD j 0):=by
    rw [xd Ve];simp [List.getD,aA Ve]
   generalize vs.getD j 0=v at sv hg
   have h1:=sv fun n=>decide (0<n)
   have h2:=sv fun n=>decide (n<0)
   generalize ha:jR (fun n=>decide (0<n)) vs seen=a at h1
   generalize hb:jR (fun n=>decide (n<0)) vs seen=b at h2
   cases a<;>cases b<;>(
    refine aK.go 1000 ?_
    simp only [go_sem,hg,ha,hb]
    refine ⟨⟨seen++[j],GG⟩,?_,Sn hj hn⟩
    simp only [go_sem,h1,h2,du,hk,il (av 1) hk]
    first | done | exact ⟨fx _,by decide⟩ | exact fx _ | decide | trace_state)
  ·have fZ:∀ p:Int→Bool,jR p vs seen=vs.any p:=fun p=>by
    rw [fq,jR,dM,dM]
    constructor
    ·rintro ⟨i,hi,hp⟩
     have Vb:i<vs.length:=by have:=hs i hi;omega
     exact ⟨vs[i],aE Vb,by simpa [List.getD,aA Vb] using hp⟩
    ·rintro ⟨x,hx,hp⟩
     obtain ⟨i,hi,rfl⟩:=lM.1 hx
     exact ⟨i,eK i (by omega),by simpa [List.getD,aA hi] using hp⟩
   refine aK.go 1000 ?_
   simp only [go_sem]
   refine aK.go 1000 ?_
   simp only [go_sem,fZ]
def mF (n:Int) (more less:Bool):Int:=if 0<n∧less=false then 1 else if n<0∧more=false then -1 else 2
theorem Yol (w n:Int) (ks:List ae) (vs:List Int) (h:ks.length=vs.length) (hk:bx 0 ks):aJ Tryz.prog 213 [.pp [.int .i64 w, .pm ks (ints vs)], .int .i64 n] (.int .i64 (mF n (vs.any fun n=>decide (0<n)) (vs.any fun n=>decide (n<0)))):=by
 refine aJ.begin (rs:=[.tmp 4]) (m:=24) 1000 Tryz.func213 rfl rfl rfl (by decide) trivial ?_
 have hS:=Ykj w ks vs h hk
 generalize (vs.any fun n=>decide (0<n))=a at *
 generalize (vs.any fun n=>decide (n<0))=b at *
 simp only [go_sem]
 refine aq.bU [] hS (cE _ _ _) ⟨⟨trivial,⟨hk,du _⟩,trivial⟩,trivial⟩ ?_
 rw [jb]
 simp only [ite_self]
 refine aK.go 1000 ?_
 by_cases c1 : 0<n
 ·have c2:¬ n<0:=by omega
  cases b
  ·simp only [go_sem,c1,c2]
   simp [mF,c1]
  ·simp only [go_sem,c1,c2]
   simp [mF,c1,c2]
 ·by_cases c2:n<0
  ·cases a
   ·simp only [go_sem,c1,c2]
    simp [mF,c1,c2]
   ·simp only [go_sem,c1,c2]
    simp [mF,c1,c2]
  ·simp only [go_sem,c1,c2]
   simp [mF,c1,c2]
end Go.Proofs
namespace Go.c8
open Go
section
variable {P:Program} {F:Frame→List Frame→Sem Next→World→Value→World→Prop} {σ:ai}
def yS (K:ae→ai→Prop) (n:Nat) (r0:ae) (σ':ai):Prop :=
 ∃ r lC,pT (fun b=>decide (n≤b)) σ' r r0∧ic lC σ'∧lC.length=n∧bt n lC∧r.low 0∧K r lC
theorem bS.tree {g:FuncId} {args:List ae} {K:ae→ai→Prop} (h:gQ P F g args σ (yS K σ.length)):gQ P F g args σ K:=by
 intro X base β w vs h1 h2 h3 fr cs h4
 obtain ⟨r0,σ',β',v,w',⟨r,lC,k1,k2,k3,k4,k5,k6⟩,g1,g2,g3,g4,g5⟩:=h X base β w vs h1 h2 h3 fr cs h4
 have hf:=zJ (fun b=>decide (σ.length≤b)) σ'
 have eE:∀ b,b < σ.length→(fM (fun b=>decide (σ.length≤b)) 0 σ')[b]? = σ'[b]?:=fun b hb=>by
  rw [D5,bm]
  have:decide (σ.length≤b)=false:=by simp;omega
  rw [this]
  cases σ'[b]?<;>rfl
 generalize yw:fM (fun b=>decide (σ.length≤b)) 0 σ' = kW at hf eE
 have BB:=g1.oi hf.oi
 have qj:=(Fm BB hf r k1).1 v (g2.mono (A7 hf.oi) (fun _ _ h=>h))
 have hle:xo lC kW:=fun b x hb=>by
  have mf:b < σ.length:=by have:=(aI.1 hb).1;omega
  rw [eE b mf];exact uN k2 b x hb
 have hs:=BB.drop hle k3 (qs k4)
 have qN:=bR.drop qj hle k3 (mQ (av _) k5)
 exact ⟨r,lC,_,v,w',k6,hs,qN,g3.drop (uN k2) k3 (ah _),by omega,g5⟩
end
section
variable {P:Program} {lo:Ctx} {Q:b9→St→Prop} {ops:Array Oper}
end
section
variable {P:Program} {σ:ai}
end
section
variable {P:Program}
theorem Fj {B x:bE} {b:Nat}:([some B]:ai)[b]? = some (some x)↔b=0∧B=x:=by
 cases b with
 | zero=>simp
 | succ b=>simp
end
def dw (sz:Nat):ae:=if sz=1 then .undef else .agg (List.replicate sz .undef)
theorem W0 (sz:Nat):(dw sz).cells.length=sz:=by
 unfold dw;split
 ·rename_i h;rw [h];rfl
 ·simp [ae.cells]
theorem X0 (sz j:Nat):(dw sz).cells.getD j .undef = .undef:=by
 unfold dw;split
 ·cases j<;>simp [ae.cells]
 ·simp only [ae.cells,dj,c9];split<;>rfl
def rK:ae→ae
 | .oc b off n _ sz=>.os b off n sz
 | a=>a
section
variable {P:Program} {X:Nat→Nat→Prop} {base:Nat} {σ:ai} {β β':Env} {w w':World}
theorem Tp {M:Nat→Nat→Prop} {v:Value} {a:ae} (h:bR w M β v a):bR w M β v (rK a):=by
 cases a with
 | oc b off n c sz=>cases h with
  | sc a h=>exact .sd a h
  | oc h1 h2 h3=>exact .os h1 h2 h3
 | _=>exact h
theorem zE {b:Nat} {x y:bE} (hb:bG σ b=some x) (hm:∀ L o,y.mut L o↔x.mut L o) {g o:Nat}:iO (bZ σ b y) β g o↔iO σ β g o:=by
 have m0:=jU hb
 have bD:b < σ.length:=(aI.1 m0).1
 have hO:bZ σ b y = σ.set b (some y):=by unfold bZ;rw [if_pos bD]
 constructor
 ·rintro ⟨c,z,L,m1,m2,m3,m4⟩
  rw [hO,dR] at m1
  split at m1
  ·rename_i e;subst e
   cases m1
   exact ⟨b,x,L,m0,m2,m3,(hm _ _).1 m4⟩
  ·exact ⟨c,z,L,m1,m2,m3,m4⟩
 ·rintro ⟨c,z,L,m1,m2,m3,m4⟩
  by_cases e:b=c
  ·subst e
   rw [m0] at m1
   cases m1
   exact ⟨b,y,L,by rw [hO,dR,if_pos rfl,if_pos bD],m2,m3,(hm _ _).2 m4⟩
  ·exact ⟨c,z,L,by rw [hO,dR,if_neg e];exact m1,m2,m3,m4⟩
theorem DI {b:Nat} {x y:bE} (hb:bG σ b=some x):(bZ σ b y).length = σ.length:=by
 have m0:=jU hb
 have bD:b < σ.length:=(aI.1 m0).1
 unfold bZ;rw [if_pos bD,bg]
theorem cC.um (hr:cC X base σ β w) {b:Nat} {x y:bE} (hb:bG σ b=some x) (hm:∀ L o,y.mut L o↔x.mut L o) (j9:∀ M L,β b=some L→fR w M β L x→fR w M β L y):cC X base (bZ σ b y) β w:=by
 have m0:=jU hb
 have bD:b < σ.length:=(aI.1 m0).1
 have hO:bZ σ b y = σ.set b (some y):=by unfold bZ;rw [if_pos bD]
 have hM:MT X (bZ σ b y) β=MT X σ β:=funext fun g=>funext fun o=>propext (by unfold MT;rw [zE hb hm])
 have eE:∀ c z,(bZ σ b y)[c]? = some (some z)→(c=b∧z=y)∨σ[c]? = some (some z):=fun c z h=>by
  rw [hO,dR] at h
  split at h
  ·rename_i e;subst e;cases h;exact .inl ⟨rfl,rfl⟩
  ·exact .inr h
 have uc:∀ c z,(bZ σ b y)[c]? = some (some z)→∃ z',σ[c]? = some (some z'):=fun c z h=>by
  rcases eE c z h with ⟨rfl,rfl⟩ | h
  ·exact ⟨x,m0⟩
  ·exact ⟨z,h⟩
 refine ⟨fun c hc=>hr.nA c (by rw [DI hb] at hc;exact hc),fun c z hc=>?_,fun c c' z z' L L' h1 h2 h3 h4 h5=>?_,hr.size,hr.pW,hr.gl⟩
 ·rw [hM]
  rcases eE c z hc with ⟨rfl,rfl⟩ | h
  ·obtain ⟨L,q1,q2,q3,q4⟩:=hr.cd c x m0
   exact ⟨L,q1,q2,q3,j9 _ L q1 q4⟩
  ·exact hr.cd c z h
 ·obtain ⟨u,hu⟩:=uc c z h1
  obtain ⟨u',uI⟩:=uc c' z' h2
  exact hr.inj c c' u u' L L' hu uI h3 h4 h5
theorem Ext.um {b lo:Nat} {x y:bE} (hb:bG σ b=some x) (hm:∀ L o,y.mut L o↔x.mut L o) {σ':ai} (h:Ext lo (bZ σ b y) β w σ' β' w'):Ext lo σ β w σ' β' w' :=
 ⟨h.os,h.tape,h.output,h.size,fun g o v hc hn=>h.cell g o v hc fun hx=>hn ((zE hb hm).1 hx),fun g hg hn=>h.block g hg fun o hx=>hn o ((zE hb hm).1 hx),fun g o hx=>(h.iB g o hx).imp (zE hb hm).1 fun h=>h,h.env⟩
theorem bS.su {F:Frame→List Frame→Sem Next→World→Value→World→Prop} {g:FuncId} {args pre post:List ae} {K:ae→ai→Prop} {b off n sz fz:Nat} {es:List ae} (ha:args=pre++.os b off n sz :: post) (hb:bG σ b=some (.row es fz)) (hl:es.length=off+n) (hn : 0<n)
  (h:∀ c,n≤c→gQ P F g (pre++.oc b off n c sz :: post) (bZ σ b (.row (es++List.replicate (c - n) (dw sz)) fz)) K):gQ P F g args σ K:=by
 subst ha
 intro X base β w vs h1 h2 h3 fr cs h4
 have hk:=h3 pre.length (by simp)
 rw [sS,if_neg (iF _),d_,bf] at hk
 rcases hk.qS with ⟨rfl,_⟩ | ⟨L,cap,hL,jt,jd,xW,hv⟩
 ·exact absurd hn (iF _)
 have hm:∀ L o,(bE.row (es++List.replicate (cap - n) (dw sz)) fz).mut L o↔(bE.row es fz).mut L o:=fun _ _=>Iff.rfl
 have hM:MT X (bZ σ b (.row (es++List.replicate (cap - n) (dw sz)) fz)) β=MT X σ β:=funext fun g=>funext fun o=>propext (by unfold MT;rw [zE hb hm])
 have hr:=h1.um hb hm (fun M L' hL' j9=>by
  obtain rfl:=aM (hL.symm.trans hL')
  obtain ⟨c,e,g1,g2,g3,g4,g5⟩:=j9
  refine ⟨c,e,g1,g2,by simp only [ay,bz];omega,fun i hi=>?_,fun i j hi hj=>?_⟩
  ·rw [sS]
   split
   ·exact g4 i (by assumption)
   ·simp only [ay,bz] at hi
    rw [show (List.replicate (cap - n) (dw sz)).getD (i - es.length) ae.undef=dw sz by simp [List.getD,show i - es.length<cap - n by omega],W0,jt]
  ·rw [sS]
   split
   ·exact g5 i j (by assumption) hj
   ·simp only [ay,bz] at hi
    rw [show (List.replicate (cap - n) (dw sz)).getD (i - es.length) ae.undef=dw sz by simp [List.getD,show i - es.length<cap - n by omega],X0]
    exact .undef _)
 obtain ⟨r,σ',β',v,w',q,g1,g2,g3,g4,g5⟩:=h cap jd X base β w vs hr (by simpa using h2) (fun k hk=>by
  have er:k<(pre++.os b off n sz :: post).length:=by simpa using hk
  have:=h3 k er
  rw [hM]
  by_cases e:k=pre.length
  ·subst e
   rw [sS,if_neg (iF _),d_,bf] at this ⊢
   rw [hv,← jt];exact .oc hL jd xW
  ·rw [sS] at this ⊢
   split
   ·rename_i bD;rw [if_pos bD] at this;exact this
   ·rename_i bD;rw [if_neg bD] at this
    obtain ⟨m,hm⟩:∃ m,k - pre.length=m+1:=⟨k - pre.length - 1,by omega⟩
    rw [hm,bB] at this ⊢;exact this) fr cs h4
 exact ⟨r,σ',β',v,w',q,g1,g2,by rw [DI hb] at g3;exact g3.um hb hm,by rw [DI hb] at g4;exact g4,g5⟩
def yO (K:ae→ai→Prop) (b:Nat) (r:ae) (σ':ai):Prop:=∃ es fz m,bG σ' b=some (.row es fz)∧K (rK r) (bZ σ' b (.row (es.take m) fz))
theorem bS.short {F:Frame→List Frame→Sem Next→World→Value→World→Prop} {g:FuncId} {args:List ae} {K:ae→ai→Prop} (b:Nat)
  (h:gQ P F g args σ (yO K b)):gQ P F g args σ K:=by
 intro X base β w vs h1 h2 h3 fr cs h4
 obtain ⟨r,σ',β',v,w',⟨es,fz,m,hb,q⟩,g1,g2,g3,g4,g5⟩:=h X base β w vs h1 h2 h3 fr cs h4
 have hm:∀ L o,(bE.row (es.take m) fz).mut L o↔(bE.row es fz).mut L o:=fun _ _=>Iff.rfl
 have hM:MT X (bZ σ' b (.row (es.take m) fz)) β'=MT X σ' β':=funext fun g=>funext fun o=>propext (by unfold MT;rw [zE hb hm])
 refine ⟨rK r,_,β',v,w',q,g1.um hb hm (fun M L hL j9=>?_),by rw [hM];exact Tp g2,⟨g3.os,g3.tape,g3.output,g3.size,g3.cell,g3.block,fun g o hx=>g3.iB g o ((zE hb hm).1 hx),g3.env⟩,by rw [DI hb];exact g4,g5⟩
 obtain ⟨c,e,k1,k2,k3,k4,k5⟩:=j9
 have hg:∀ i,i<(es.take m).length→(es.take m).getD i ae.undef=es.getD i .undef:=fun i hi=>by
  rw [cV] at hi
  simp [List.getD,show i<m by omega]
 have hl:(es.take m).length≤es.length:=by rw [cV];omega
 exact ⟨c,e,k1,k2,by omega,fun i hi=>by rw [hg i hi];exact k4 i (by omega),fun i j hi hj=>by rw [hg i hi];exact k5 i j (by omega) hj⟩
theorem bS.n9 {g:FuncId} {fn:Func} {c:Code} {args:List ae} {K:ae→ai→Prop} {m:Nat} {rs:List ResultVar} (n:Nat) (hf:P.funcs[g]? = some fn) (hb:fn.body=some c) (hr:fn.results.toList=rs) (hm:fn.ntmps - args.length=m)
  (eA : (fn.name == "runtime.NumGoroutine") = false)
  (h:dT P ⟨σ.length,none⟩ (qf P rs (mz K σ.length)) n [.code c] .normal (args++List.replicate m .undef) σ):bS P g args σ K:=bS.drop (bS.start n hf hb hr hm eA h)
theorem IA {K:ae→ai→Prop} {b:Nat} {r:ae} {σ':ai}:yO K b r σ' = ∃ es fz m,bG σ' b=some (.row es fz)∧K (rK r) (bZ σ' b (.row (es.take m) fz)):=rfl
end
end Go.c8
