/- Part 43 of my own framework and of the walks of functions: Tl, Ty, Ma, Pa, Pb, Pc, Mb, Pd, Pe, Mc, Pf, Pg, Md, Ph, Me, Pi, Mf, Pj, Pk, Pl, Mg, Pm, Pn, Po, Mh, Pp, Pq, Pr. -/
import Derived.Test.YtfjbdamcmiglgaaGreatOwn42
import Derived.Test.YtfjbdamcmiglgaaGreatProg
import Derived.KernelRfl
abbrev dU:=@Bool.eq_iff_iff
abbrev cE:=@Bool.false_and
abbrev dk:=@Bool.false_or
abbrev dB:=@Bool.not_eq_false'
abbrev oV:=@Bool.or_assoc
abbrev bK:=@Bool.or_eq_false_iff
abbrev oF:=@Int.le_refl
abbrev km:=@Int.lt_irrefl
abbrev oX:=@Int.mul_assoc
abbrev np:=@Int.mul_comm
abbrev du:=@Int.mul_le_mul_of_nonneg_left
abbrev rJ:=@Int.mul_nonneg
abbrev eR:=@Int.natCast_add
abbrev eS:=@Int.natCast_one
abbrev br:=@Int.natCast_zero
abbrev rK:=@Int.pow_pos
abbrev nq:=@Int.pow_succ
abbrev aR:=@Int.toNat_natCast
abbrev qx:=@List.all_append
abbrev oG:=@List.all_eq_false
abbrev dC:=@List.any_cons
abbrev ko:=@List.cons.inj
abbrev ao:=@List.drop_eq_getElem_cons
abbrev aX:=@List.drop_length
abbrev mW:=@List.drop_succ_cons
abbrev lY:=@List.flatMap_nil
abbrev oH:=@List.foldl_append
abbrev dj:=@List.getElem_cons_succ
abbrev ez:=@List.getElem_cons_zero
abbrev iE:=@List.length_eq_zero_iff
abbrev cY:=@List.map_append
abbrev e9:=@List.mem_iff_getElem
abbrev jF:=@List.mem_of_mem_take
abbrev fU:=@List.nodup_append
abbrev dW:=@List.not_mem_nil
abbrev oI:=@List.reverse_cons
abbrev c9:=@List.take_add_one
abbrev bZ:=@List.take_length
abbrev bh:=@List.take_of_length_le
abbrev df:=@List.take_succ_cons
abbrev rM:=@List.take_zero
abbrev ep:=@Nat.le_succ
abbrev qC:=@Nat.min_eq_left
abbrev eN:=@Nat.one_lt_two
abbrev a_:=@Nat.zero_lt_one
abbrev cI:=@Nat.zero_lt_two
abbrev gK:=@Option.toList_some
set_option linter.unusedVariables false
set_option linter.unusedSectionVars false
set_option linter.unusedSimpArgs false
namespace Go.Proofs
open Go Go.dm
@[go_sem] theorem aqc:aF Tryz.prog 1=some ⟨1,false,8,[.aA], .func⟩:=by kernel_rfl
@[go_sem] theorem ty1:bU Tryz.prog 1=some ⟨⟨1,false,8,[.aA], .func⟩,[],none,none⟩:=by kernel_rfl
@[go_sem] theorem aqd:aF Tryz.prog 2=some ⟨1,false,8,[.int .i64 0],(.int .i64)⟩:=by kernel_rfl
@[go_sem] theorem ty2:bU Tryz.prog 2=some ⟨⟨1,false,8,[.int .i64 0],(.int .i64)⟩,[],none,none⟩:=by kernel_rfl
@[go_sem] theorem aqe:aF Tryz.prog 3=some ⟨1,false,8,[.int .i64 0],(.int .i64)⟩:=by kernel_rfl
@[go_sem] theorem ty3:bU Tryz.prog 3=some ⟨⟨1,false,8,[.int .i64 0],(.int .i64)⟩,[],none,none⟩:=by kernel_rfl
@[go_sem] theorem aqf:aF Tryz.prog 4=some ⟨1,false,1,[.bool false], .bool⟩:=by kernel_rfl
@[go_sem] theorem ty4:bU Tryz.prog 4=some ⟨⟨1,false,1,[.bool false], .bool⟩,[],none,none⟩:=by kernel_rfl
@[go_sem] theorem aqg:aF Tryz.prog 5=some ⟨1,false,1,[.int .u8 0],(.int .u8)⟩:=by kernel_rfl
@[go_sem] theorem ty5:bU Tryz.prog 5=some ⟨⟨1,false,1,[.int .u8 0],(.int .u8)⟩,[],none,none⟩:=by kernel_rfl
@[go_sem] theorem aqh:aF Tryz.prog 6=some ⟨1,false,1,[.int .u8 0],(.int .u8)⟩:=by kernel_rfl
@[go_sem] theorem ty6:bU Tryz.prog 6=some ⟨⟨1,false,1,[.int .u8 0],(.int .u8)⟩,[],none,none⟩:=by kernel_rfl
@[go_sem] theorem aqi:aF Tryz.prog 7=some ⟨4,true,24,[.int .i64 0, .int .i64 0, .bool false, .int .u8 0], .struct⟩:=by kernel_rfl
@[go_sem] theorem ty7:bU Tryz.prog 7=some ⟨⟨4,true,24,[.int .i64 0, .int .i64 0, .bool false, .int .u8 0], .struct⟩,[(0,some ⟨1,false,8,[.int .i64 0],(.int .i64)⟩),(1,some ⟨1,false,8,[.int .i64 0],(.int .i64)⟩),(2,some ⟨1,false,1,[.bool false], .bool⟩),(3,some ⟨1,false,1,[.int .u8 0],(.int .u8)⟩)],none,none⟩:=by kernel_rfl
@[go_sem] theorem aox:va Tryz.prog 7 [(.int .i64),(.int .i64), .bool,(.int .u8)]=true:=by kernel_rfl
@[go_sem] theorem aqj:aF Tryz.prog 8=some ⟨4,true,24,[.int .i64 0, .int .i64 0, .bool false, .int .u8 0], .struct⟩:=by kernel_rfl
@[go_sem] theorem ty8:bU Tryz.prog 8=some ⟨⟨4,true,24,[.int .i64 0, .int .i64 0, .bool false, .int .u8 0], .struct⟩,[(0,some ⟨1,false,8,[.int .i64 0],(.int .i64)⟩),(1,some ⟨1,false,8,[.int .i64 0],(.int .i64)⟩),(2,some ⟨1,false,1,[.bool false], .bool⟩),(3,some ⟨1,false,1,[.int .u8 0],(.int .u8)⟩)],none,none⟩:=by kernel_rfl
@[go_sem] theorem aoy:va Tryz.prog 8 [(.int .i64),(.int .i64), .bool,(.int .u8)]=true:=by kernel_rfl
@[go_sem] theorem aqk:aF Tryz.prog 9=some ⟨1,false,16,[.str ⟨#[]⟩], .str⟩:=by kernel_rfl
@[go_sem] theorem ty9:bU Tryz.prog 9=some ⟨⟨1,false,16,[.str ⟨#[]⟩], .str⟩,[],none,none⟩:=by kernel_rfl
@[go_sem] theorem Xm4:aF Tryz.prog 10=some ⟨1,false,16,[.str ⟨#[]⟩], .str⟩:=by kernel_rfl
@[go_sem] theorem aqp:bU Tryz.prog 10=some ⟨⟨1,false,16,[.str ⟨#[]⟩], .str⟩,[],none,none⟩:=by kernel_rfl
@[go_sem] theorem Xme:aF Tryz.prog 11=some ⟨1,false,16,[.str ⟨#[]⟩], .str⟩:=by kernel_rfl
@[go_sem] theorem aqq:bU Tryz.prog 11=some ⟨⟨1,false,16,[.str ⟨#[]⟩], .str⟩,[],none,none⟩:=by kernel_rfl
@[go_sem] theorem Xqg:aF Tryz.prog 12=some ⟨1,false,8,[.int .u64 0],(.int .u64)⟩:=by kernel_rfl
@[go_sem] theorem aqr:bU Tryz.prog 12=some ⟨⟨1,false,8,[.int .u64 0],(.int .u64)⟩,[],none,none⟩:=by kernel_rfl
@[go_sem] theorem Xr9:aF Tryz.prog 13=some ⟨2,true,24,[.str ⟨#[]⟩, .int .u64 0], .struct⟩:=by kernel_rfl
@[go_sem] theorem aqs:bU Tryz.prog 13=some ⟨⟨2,true,24,[.str ⟨#[]⟩, .int .u64 0], .struct⟩,[(0,some ⟨1,false,16,[.str ⟨#[]⟩], .str⟩),(1,some ⟨1,false,8,[.int .u64 0],(.int .u64)⟩)],none,none⟩:=by kernel_rfl
@[go_sem] theorem Xmx:aF Tryz.prog 14=some ⟨2,true,24,[.str ⟨#[]⟩, .int .u64 0], .struct⟩:=by kernel_rfl
@[go_sem] theorem aqt:bU Tryz.prog 14=some ⟨⟨2,true,24,[.str ⟨#[]⟩, .int .u64 0], .struct⟩,[(0,some ⟨1,false,16,[.str ⟨#[]⟩], .str⟩),(1,some ⟨1,false,8,[.int .u64 0],(.int .u64)⟩)],none,none⟩:=by kernel_rfl
@[go_sem] theorem Xr3:aF Tryz.prog 15=some ⟨1,false,8,[.bY], .ptr⟩:=by kernel_rfl
@[go_sem] theorem aqu:bU Tryz.prog 15=some ⟨⟨1,false,8,[.bY], .ptr⟩,[],none,none⟩:=by kernel_rfl
@[go_sem] theorem Xo4:aF Tryz.prog 16=some ⟨1,false,8,[.bY], .ptr⟩:=by kernel_rfl
@[go_sem] theorem aqv:bU Tryz.prog 16=some ⟨⟨1,false,8,[.bY], .ptr⟩,[],none,none⟩:=by kernel_rfl
@[go_sem] theorem Xoy:aF Tryz.prog 17=some ⟨1,false,8,[.bY], .ptr⟩:=by kernel_rfl
@[go_sem] theorem aqw:bU Tryz.prog 17=some ⟨⟨1,false,8,[.bY], .ptr⟩,[],none,none⟩:=by kernel_rfl
@[go_sem] theorem Xlf:aF Tryz.prog 18=some ⟨1,true,8,[.bY], .struct⟩:=by kernel_rfl
@[go_sem] theorem aqx:bU Tryz.prog 18=some ⟨⟨1,true,8,[.bY], .struct⟩,[(0,some ⟨1,false,8,[.bY], .ptr⟩)],none,none⟩:=by kernel_rfl
@[go_sem] theorem Xnn:aF Tryz.prog 19=some ⟨1,true,8,[.bY], .struct⟩:=by kernel_rfl
@[go_sem] theorem aqy:bU Tryz.prog 19=some ⟨⟨1,true,8,[.bY], .struct⟩,[(0,some ⟨1,false,8,[.bY], .ptr⟩)],none,none⟩:=by kernel_rfl
@[go_sem] theorem Xmz:aF Tryz.prog 20=some ⟨1,false,16,[.gk], .iface⟩:=by kernel_rfl
@[go_sem] theorem aqz:bU Tryz.prog 20=some ⟨⟨1,false,16,[.gk], .iface⟩,[],none,none⟩:=by kernel_rfl
@[go_sem] theorem Xqv:aF Tryz.prog 21=some ⟨1,false,4,[.int .i32 0],(.int .i32)⟩:=by kernel_rfl
@[go_sem] theorem aqA:bU Tryz.prog 21=some ⟨⟨1,false,4,[.int .i32 0],(.int .i32)⟩,[],none,none⟩:=by kernel_rfl
@[go_sem] theorem Xpq:aF Tryz.prog 22=some ⟨1,false,24,[.aW], .slice⟩:=by kernel_rfl
@[go_sem] theorem aqB:bU Tryz.prog 22=some ⟨⟨1,false,24,[.aW], .slice⟩,[],some ⟨4,true,40,[.str ⟨#[]⟩, .int .i64 0, .int .i64 0, .bool false], .struct⟩,none⟩:=by kernel_rfl
@[go_sem] theorem Xpk:aF Tryz.prog 23=some ⟨1,false,24,[.aW], .slice⟩:=by kernel_rfl
@[go_sem] theorem aqC:bU Tryz.prog 23=some ⟨⟨1,false,24,[.aW], .slice⟩,[],some ⟨1,false,24,[.aW], .slice⟩,none⟩:=by kernel_rfl
@[go_sem] theorem Zk:aF Tryz.prog 24=some ⟨1,false,24,[.aW], .slice⟩:=by kernel_rfl
@[go_sem] theorem aqD:bU Tryz.prog 24=some ⟨⟨1,false,24,[.aW], .slice⟩,[],some ⟨5,true,72,[.bool false, .int .i64 0, .aW, .int .i64 0, .aW], .struct⟩,none⟩:=by kernel_rfl
@[go_sem] theorem Xpb:aF Tryz.prog 25=some ⟨1,false,8,[.aA], .func⟩:=by kernel_rfl
@[go_sem] theorem aqE:bU Tryz.prog 25=some ⟨⟨1,false,8,[.aA], .func⟩,[],none,none⟩:=by kernel_rfl
@[go_sem] theorem Xoe:aF Tryz.prog 26=some ⟨1,false,24,[.aW], .slice⟩:=by kernel_rfl
@[go_sem] theorem aqF:bU Tryz.prog 26=some ⟨⟨1,false,24,[.aW], .slice⟩,[],some ⟨1,false,8,[.int .i64 0],(.int .i64)⟩,none⟩:=by kernel_rfl
@[go_sem] theorem Xms:aF Tryz.prog 27=some ⟨4,true,64,[.aW, .aW, .int .i64 0, .int .i64 0], .struct⟩:=by kernel_rfl
@[go_sem] theorem aqG:bU Tryz.prog 27=some ⟨⟨4,true,64,[.aW, .aW, .int .i64 0, .int .i64 0], .struct⟩,[(0,some ⟨1,false,24,[.aW], .slice⟩),(1,some ⟨1,false,24,[.aW], .slice⟩),(2,some ⟨1,false,8,[.int .i64 0],(.int .i64)⟩),(3,some ⟨1,false,8,[.int .i64 0],(.int .i64)⟩)],none,none⟩:=by kernel_rfl
@[go_sem] theorem Xrc:aF Tryz.prog 28=some ⟨4,true,64,[.aW, .aW, .int .i64 0, .int .i64 0], .struct⟩:=by kernel_rfl
@[go_sem] theorem aqH:bU Tryz.prog 28=some ⟨⟨4,true,64,[.aW, .aW, .int .i64 0, .int .i64 0], .struct⟩,[(0,some ⟨1,false,24,[.aW], .slice⟩),(1,some ⟨1,false,24,[.aW], .slice⟩),(2,some ⟨1,false,8,[.int .i64 0],(.int .i64)⟩),(3,some ⟨1,false,8,[.int .i64 0],(.int .i64)⟩)],none,none⟩:=by kernel_rfl
@[go_sem] theorem Xow:aF Tryz.prog 29=some ⟨1,false,8,[.int .i64 0],(.int .i64)⟩:=by kernel_rfl
@[go_sem] theorem aqI:bU Tryz.prog 29=some ⟨⟨1,false,8,[.int .i64 0],(.int .i64)⟩,[],none,none⟩:=by kernel_rfl
@[go_sem] theorem Xkv:aF Tryz.prog 31=some ⟨1,false,8,[.aA], .func⟩:=by kernel_rfl
@[go_sem] theorem aqJ:bU Tryz.prog 31=some ⟨⟨1,false,8,[.aA], .func⟩,[],none,none⟩:=by kernel_rfl
@[go_sem] theorem Xqd:aF Tryz.prog 33=some ⟨1,false,8,[.aA], .func⟩:=by kernel_rfl
@[go_sem] theorem aqK:bU Tryz.prog 33=some ⟨⟨1,false,8,[.aA], .func⟩,[],none,none⟩:=by kernel_rfl
@[go_sem] theorem Xlk:aF Tryz.prog 34=some ⟨1,false,8,[.aA], .func⟩:=by kernel_rfl
@[go_sem] theorem aqL:bU Tryz.prog 34=some ⟨⟨1,false,8,[.aA], .func⟩,[],none,none⟩:=by kernel_rfl
@[go_sem] theorem Xnc:aF Tryz.prog 35=some ⟨1,false,8,[.aA], .func⟩:=by kernel_rfl
@[go_sem] theorem aqM:bU Tryz.prog 35=some ⟨⟨1,false,8,[.aA], .func⟩,[],none,none⟩:=by kernel_rfl
@[go_sem] theorem Xox:aF Tryz.prog 36=some ⟨1,false,24,[.aW], .slice⟩:=by kernel_rfl
@[go_sem] theorem aqN:bU Tryz.prog 36=some ⟨⟨1,false,24,[.aW], .slice⟩,[],some ⟨1,false,24,[.aW], .slice⟩,none⟩:=by kernel_rfl
@[go_sem] theorem Xlq:aF Tryz.prog 37=some ⟨2,true,32,[.int .i64 0, .aW], .struct⟩:=by kernel_rfl
@[go_sem] theorem aqO:bU Tryz.prog 37=some ⟨⟨2,true,32,[.int .i64 0, .aW], .struct⟩,[(0,some ⟨1,false,8,[.int .i64 0],(.int .i64)⟩),(1,some ⟨1,false,24,[.aW], .slice⟩)],none,none⟩:=by kernel_rfl
@[go_sem] theorem Xlh:aF Tryz.prog 38=some ⟨2,true,32,[.int .i64 0, .aW], .struct⟩:=by kernel_rfl
@[go_sem] theorem aqP:bU Tryz.prog 38=some ⟨⟨2,true,32,[.int .i64 0, .aW], .struct⟩,[(0,some ⟨1,false,8,[.int .i64 0],(.int .i64)⟩),(1,some ⟨1,false,24,[.aW], .slice⟩)],none,none⟩:=by kernel_rfl
@[go_sem] theorem Xjz:aF Tryz.prog 39=some ⟨1,false,8,[.aA], .func⟩:=by kernel_rfl
@[go_sem] theorem aqQ:bU Tryz.prog 39=some ⟨⟨1,false,8,[.aA], .func⟩,[],none,none⟩:=by kernel_rfl
@[go_sem] theorem Xki:aF Tryz.prog 40=some ⟨1,false,8,[.aA], .func⟩:=by kernel_rfl
@[go_sem] theorem aqR:bU Tryz.prog 40=some ⟨⟨1,false,8,[.aA], .func⟩,[],none,none⟩:=by kernel_rfl
@[go_sem] theorem Xm2:aF Tryz.prog 41=some ⟨1,false,8,[.aA], .func⟩:=by kernel_rfl
@[go_sem] theorem aqS:bU Tryz.prog 41=some ⟨⟨1,false,8,[.aA], .func⟩,[],none,none⟩:=by kernel_rfl
@[go_sem] theorem Xqh:aF Tryz.prog 42=some ⟨1,false,8,[.aA], .func⟩:=by kernel_rfl
@[go_sem] theorem aqT:bU Tryz.prog 42=some ⟨⟨1,false,8,[.aA], .func⟩,[],none,none⟩:=by kernel_rfl
@[go_sem] theorem Xls:aF Tryz.prog 43=some ⟨1,false,8,[.aA], .func⟩:=by kernel_rfl
@[go_sem] theorem aqU:bU Tryz.prog 43=some ⟨⟨1,false,8,[.aA], .func⟩,[],none,none⟩:=by kernel_rfl
@[go_sem] theorem Xk6:aF Tryz.prog 44=some ⟨1,false,8,[.aA], .func⟩:=by kernel_rfl
@[go_sem] theorem aqV:bU Tryz.prog 44=some ⟨⟨1,false,8,[.aA], .func⟩,[],none,none⟩:=by kernel_rfl
@[go_sem] theorem Xmw:aF Tryz.prog 45=some ⟨1,false,8,[.aA], .func⟩:=by kernel_rfl
@[go_sem] theorem aqW:bU Tryz.prog 45=some ⟨⟨1,false,8,[.aA], .func⟩,[],none,none⟩:=by kernel_rfl
@[go_sem] theorem Xpa:aF Tryz.prog 46=some ⟨1,false,8,[.aA], .func⟩:=by kernel_rfl
@[go_sem] theorem aqX:bU Tryz.prog 46=some ⟨⟨1,false,8,[.aA], .func⟩,[],none,none⟩:=by kernel_rfl
@[go_sem] theorem Xnt:aF Tryz.prog 47=some ⟨1,false,8,[.aA], .func⟩:=by kernel_rfl
@[go_sem] theorem aqY:bU Tryz.prog 47=some ⟨⟨1,false,8,[.aA], .func⟩,[],none,none⟩:=by kernel_rfl
@[go_sem] theorem Xog:aF Tryz.prog 48=some ⟨1,false,8,[.aA], .func⟩:=by kernel_rfl
@[go_sem] theorem aqZ:bU Tryz.prog 48=some ⟨⟨1,false,8,[.aA], .func⟩,[],none,none⟩:=by kernel_rfl
@[go_sem] theorem Xpe:aF Tryz.prog 49=some ⟨1,false,8,[.aA], .func⟩:=by kernel_rfl
@[go_sem] theorem aq0:bU Tryz.prog 49=some ⟨⟨1,false,8,[.aA], .func⟩,[],none,none⟩:=by kernel_rfl
@[go_sem] theorem Xlv:aF Tryz.prog 50=some ⟨1,false,8,[.aA], .func⟩:=by kernel_rfl
@[go_sem] theorem aq1:bU Tryz.prog 50=some ⟨⟨1,false,8,[.aA], .func⟩,[],none,none⟩:=by kernel_rfl
@[go_sem] theorem Xkw:aF Tryz.prog 51=some ⟨1,false,8,[.aA], .func⟩:=by kernel_rfl
@[go_sem] theorem aq2:bU Tryz.prog 51=some ⟨⟨1,false,8,[.aA], .func⟩,[],none,none⟩:=by kernel_rfl
@[go_sem] theorem Xqi:aF Tryz.prog 52=some ⟨1,false,8,[.aA], .func⟩:=by kernel_rfl
@[go_sem] theorem aq3:bU Tryz.prog 52=some ⟨⟨1,false,8,[.aA], .func⟩,[],none,none⟩:=by kernel_rfl
@[go_sem] theorem Xqa:aF Tryz.prog 53=some ⟨1,false,8,[.bY], .ptr⟩:=by kernel_rfl
@[go_sem] theorem aq4:bU Tryz.prog 53=some ⟨⟨1,false,8,[.bY], .ptr⟩,[],none,none⟩:=by kernel_rfl
@[go_sem] theorem Xjn:aF Tryz.prog 54=some ⟨1,false,8,[.aA], .func⟩:=by kernel_rfl
@[go_sem] theorem aq5:bU Tryz.prog 54=some ⟨⟨1,false,8,[.aA], .func⟩,[],none,none⟩:=by kernel_rfl
@[go_sem] theorem Xlp:aF Tryz.prog 55=some ⟨7,true,120,[.aW, .aW, .aW, .aW, .int .i64 0, .int .i64 0, .int .i64 0], .struct⟩:=by kernel_rfl
@[go_sem] theorem aq6:bU Tryz.prog 55=some ⟨⟨7,true,120,[.aW, .aW, .aW, .aW, .int .i64 0, .int .i64 0, .int .i64 0], .struct⟩,[(0,some ⟨1,false,24,[.aW], .slice⟩),(1,some ⟨1,false,24,[.aW], .slice⟩),(2,some ⟨1,false,24,[.aW], .slice⟩),(3,some ⟨1,false,24,[.aW], .slice⟩),(4,some ⟨1,false,8,[.int .i64 0],(.int .i64)⟩),(5,some ⟨1,false,8,[.int .i64 0],(.int .i64)⟩),(6,some ⟨1,false,8,[.int .i64 0],(.int .i64)⟩)],none,none⟩:=by kernel_rfl
@[go_sem] theorem Xq2:aF Tryz.prog 56=some ⟨7,true,120,[.aW, .aW, .aW, .aW, .int .i64 0, .int .i64 0, .int .i64 0], .struct⟩:=by kernel_rfl
@[go_sem] theorem aq7:bU Tryz.prog 56=some ⟨⟨7,true,120,[.aW, .aW, .aW, .aW, .int .i64 0, .int .i64 0, .int .i64 0], .struct⟩,[(0,some ⟨1,false,24,[.aW], .slice⟩),(1,some ⟨1,false,24,[.aW], .slice⟩),(2,some ⟨1,false,24,[.aW], .slice⟩),(3,some ⟨1,false,24,[.aW], .slice⟩),(4,some ⟨1,false,8,[.int .i64 0],(.int .i64)⟩),(5,some ⟨1,false,8,[.int .i64 0],(.int .i64)⟩),(6,some ⟨1,false,8,[.int .i64 0],(.int .i64)⟩)],none,none⟩:=by kernel_rfl
@[go_sem] theorem Xku:aF Tryz.prog 57=some ⟨1,false,8,[.aA], .func⟩:=by kernel_rfl
@[go_sem] theorem aq8:bU Tryz.prog 57=some ⟨⟨1,false,8,[.aA], .func⟩,[],none,none⟩:=by kernel_rfl
@[go_sem] theorem Xmj:aF Tryz.prog 58=some ⟨1,false,24,[.aW], .slice⟩:=by kernel_rfl
@[go_sem] theorem aq9:bU Tryz.prog 58=some ⟨⟨1,false,24,[.aW], .slice⟩,[],some ⟨1,false,8,[.aA], .func⟩,none⟩:=by kernel_rfl
@[go_sem] theorem Xld:aF Tryz.prog 60=some ⟨1,false,8,[.aA], .func⟩:=by kernel_rfl
@[go_sem] theorem aq_:bU Tryz.prog 60=some ⟨⟨1,false,8,[.aA], .func⟩,[],none,none⟩:=by kernel_rfl
@[go_sem] theorem Xnk:aF Tryz.prog 61=some ⟨1,false,8,[.aA], .func⟩:=by kernel_rfl
@[go_sem] theorem ara:bU Tryz.prog 61=some ⟨⟨1,false,8,[.aA], .func⟩,[],none,none⟩:=by kernel_rfl
@[go_sem] theorem Xq7:aF Tryz.prog 63=some ⟨1,false,8,[.aA], .func⟩:=by kernel_rfl
@[go_sem] theorem arb:bU Tryz.prog 63=some ⟨⟨1,false,8,[.aA], .func⟩,[],none,none⟩:=by kernel_rfl
@[go_sem] theorem Xka:aF Tryz.prog 64=some ⟨1,false,8,[.aA], .func⟩:=by kernel_rfl
@[go_sem] theorem arc:bU Tryz.prog 64=some ⟨⟨1,false,8,[.aA], .func⟩,[],none,none⟩:=by kernel_rfl
@[go_sem] theorem Xot:aF Tryz.prog 66=some ⟨1,false,8,[.aA], .func⟩:=by kernel_rfl
@[go_sem] theorem ard:bU Tryz.prog 66=some ⟨⟨1,false,8,[.aA], .func⟩,[],none,none⟩:=by kernel_rfl
@[go_sem] theorem Xp1:aF Tryz.prog 67=some ⟨1,false,8,[.aA], .func⟩:=by kernel_rfl
@[go_sem] theorem arf:bU Tryz.prog 67=some ⟨⟨1,false,8,[.aA], .func⟩,[],none,none⟩:=by kernel_rfl
@[go_sem] theorem Xq5:aF Tryz.prog 68=some ⟨1,false,24,[.aW], .slice⟩:=by kernel_rfl
@[go_sem] theorem arh:bU Tryz.prog 68=some ⟨⟨1,false,24,[.aW], .slice⟩,[],some ⟨2,true,32,[.int .i64 0, .aW], .struct⟩,none⟩:=by kernel_rfl
@[go_sem] theorem Xky:aF Tryz.prog 69=some ⟨2,true,32,[.int .i64 0, .aW], .struct⟩:=by kernel_rfl
@[go_sem] theorem ari:bU Tryz.prog 69=some ⟨⟨2,true,32,[.int .i64 0, .aW], .struct⟩,[(0,some ⟨1,false,8,[.int .i64 0],(.int .i64)⟩),(1,some ⟨1,false,24,[.aW], .slice⟩)],none,none⟩:=by kernel_rfl
@[go_sem] theorem Xom:aF Tryz.prog 70=some ⟨2,true,32,[.int .i64 0, .aW], .struct⟩:=by kernel_rfl
@[go_sem] theorem arj:bU Tryz.prog 70=some ⟨⟨2,true,32,[.int .i64 0, .aW], .struct⟩,[(0,some ⟨1,false,8,[.int .i64 0],(.int .i64)⟩),(1,some ⟨1,false,24,[.aW], .slice⟩)],none,none⟩:=by kernel_rfl
@[go_sem] theorem Xrb:aF Tryz.prog 71=some ⟨1,false,8,[.aA], .func⟩:=by kernel_rfl
@[go_sem] theorem ark:bU Tryz.prog 71=some ⟨⟨1,false,8,[.aA], .func⟩,[],none,none⟩:=by kernel_rfl
@[go_sem] theorem Xop:aF Tryz.prog 72=some ⟨1,false,8,[.aA], .func⟩:=by kernel_rfl
@[go_sem] theorem arl:bU Tryz.prog 72=some ⟨⟨1,false,8,[.aA], .func⟩,[],none,none⟩:=by kernel_rfl
@[go_sem] theorem Xnb:aF Tryz.prog 73=some ⟨5,true,72,[.bool false, .int .i64 0, .aW, .int .i64 0, .aW], .struct⟩:=by kernel_rfl
@[go_sem] theorem arn:bU Tryz.prog 73=some ⟨⟨5,true,72,[.bool false, .int .i64 0, .aW, .int .i64 0, .aW], .struct⟩,[(0,some ⟨1,false,1,[.bool false], .bool⟩),(1,some ⟨2,true,32,[.int .i64 0, .aW], .struct⟩),(3,some ⟨2,true,32,[.int .i64 0, .aW], .struct⟩)],none,none⟩:=by kernel_rfl
@[go_sem] theorem Xq3:aF Tryz.prog 74=some ⟨5,true,72,[.bool false, .int .i64 0, .aW, .int .i64 0, .aW], .struct⟩:=by kernel_rfl
@[go_sem] theorem aro:bU Tryz.prog 74=some ⟨⟨5,true,72,[.bool false, .int .i64 0, .aW, .int .i64 0, .aW], .struct⟩,[(0,some ⟨1,false,1,[.bool false], .bool⟩),(1,some ⟨2,true,32,[.int .i64 0, .aW], .struct⟩),(3,some ⟨2,true,32,[.int .i64 0, .aW], .struct⟩)],none,none⟩:=by kernel_rfl
@[go_sem] theorem Xnf:aF Tryz.prog 75=some ⟨1,false,8,[.aA], .func⟩:=by kernel_rfl
@[go_sem] theorem arp:bU Tryz.prog 75=some ⟨⟨1,false,8,[.aA], .func⟩,[],none,none⟩:=by kernel_rfl
@[go_sem] theorem Xm7:aF Tryz.prog 76=some ⟨1,false,8,[.aA], .func⟩:=by kernel_rfl
@[go_sem] theorem arq:bU Tryz.prog 76=some ⟨⟨1,false,8,[.aA], .func⟩,[],none,none⟩:=by kernel_rfl
@[go_sem] theorem Xqs:aF Tryz.prog 77=some ⟨1,false,8,[.aA], .func⟩:=by kernel_rfl
@[go_sem] theorem ars:bU Tryz.prog 77=some ⟨⟨1,false,8,[.aA], .func⟩,[],none,none⟩:=by kernel_rfl
@[go_sem] theorem Xkx:aF Tryz.prog 78=some ⟨4,true,40,[.str ⟨#[]⟩, .int .i64 0, .int .i64 0, .bool false], .struct⟩:=by kernel_rfl
@[go_sem] theorem aru:bU Tryz.prog 78=some ⟨⟨4,true,40,[.str ⟨#[]⟩, .int .i64 0, .int .i64 0, .bool false], .struct⟩,[(0,some ⟨1,false,16,[.str ⟨#[]⟩], .str⟩),(1,some ⟨1,false,8,[.int .i64 0],(.int .i64)⟩),(2,some ⟨1,false,8,[.int .i64 0],(.int .i64)⟩),(3,some ⟨1,false,1,[.bool false], .bool⟩)],none,none⟩:=by kernel_rfl
@[go_sem] theorem Xn7:va Tryz.prog 78 [.str,(.int .i64),(.int .i64), .bool]=true:=by kernel_rfl
@[go_sem] theorem Xlt:aF Tryz.prog 79=some ⟨4,true,40,[.str ⟨#[]⟩, .int .i64 0, .int .i64 0, .bool false], .struct⟩:=by kernel_rfl
@[go_sem] theorem arv:bU Tryz.prog 79=some ⟨⟨4,true,40,[.str ⟨#[]⟩, .int .i64 0, .int .i64 0, .bool false], .struct⟩,[(0,some ⟨1,false,16,[.str ⟨#[]⟩], .str⟩),(1,some ⟨1,false,8,[.int .i64 0],(.int .i64)⟩),(2,some ⟨1,false,8,[.int .i64 0],(.int .i64)⟩),(3,some ⟨1,false,1,[.bool false], .bool⟩)],none,none⟩:=by kernel_rfl
@[go_sem] theorem Xjx:va Tryz.prog 79 [.str,(.int .i64),(.int .i64), .bool]=true:=by kernel_rfl
@[go_sem] theorem Xno:aF Tryz.prog 80=some ⟨1,false,8,[.aA], .func⟩:=by kernel_rfl
@[go_sem] theorem arw:bU Tryz.prog 80=some ⟨⟨1,false,8,[.aA], .func⟩,[],none,none⟩:=by kernel_rfl
@[go_sem] theorem Xl6:aF Tryz.prog 81=some ⟨1,false,8,[.aA], .func⟩:=by kernel_rfl
@[go_sem] theorem arx:bU Tryz.prog 81=some ⟨⟨1,false,8,[.aA], .func⟩,[],none,none⟩:=by kernel_rfl
@[go_sem] theorem Xn8:aF Tryz.prog 82=some ⟨1,false,8,[.aA], .func⟩:=by kernel_rfl
@[go_sem] theorem ary:bU Tryz.prog 82=some ⟨⟨1,false,8,[.aA], .func⟩,[],none,none⟩:=by kernel_rfl
@[go_sem] theorem Xmt:aF Tryz.prog 83=some ⟨1,false,8,[.aA], .func⟩:=by kernel_rfl
@[go_sem] theorem arz:bU Tryz.prog 83=some ⟨⟨1,false,8,[.aA], .func⟩,[],none,none⟩:=by kernel_rfl
@[go_sem] theorem Xjs:aF Tryz.prog 84=some ⟨1,false,8,[.aA], .func⟩:=by kernel_rfl
@[go_sem] theorem arA:bU Tryz.prog 84=some ⟨⟨1,false,8,[.aA], .func⟩,[],none,none⟩:=by kernel_rfl
@[go_sem] theorem Xne:aF Tryz.prog 85=some ⟨1,false,8,[.aA], .func⟩:=by kernel_rfl
@[go_sem] theorem arB:bU Tryz.prog 85=some ⟨⟨1,false,8,[.aA], .func⟩,[],none,none⟩:=by kernel_rfl
@[go_sem] theorem Xn9:aF Tryz.prog 86=some ⟨1,false,8,[.aA], .func⟩:=by kernel_rfl
@[go_sem] theorem arC:bU Tryz.prog 86=some ⟨⟨1,false,8,[.aA], .func⟩,[],none,none⟩:=by kernel_rfl
@[go_sem] theorem Xqk:aF Tryz.prog 87=some ⟨1,false,8,[.bY], .ptr⟩:=by kernel_rfl
@[go_sem] theorem arD:bU Tryz.prog 87=some ⟨⟨1,false,8,[.bY], .ptr⟩,[],none,none⟩:=by kernel_rfl
@[go_sem] theorem Xnd:aF Tryz.prog 88=some ⟨1,false,24,[.aW], .slice⟩:=by kernel_rfl
@[go_sem] theorem arE:bU Tryz.prog 88=some ⟨⟨1,false,24,[.aW], .slice⟩,[],some ⟨1,false,1,[.bool false], .bool⟩,none⟩:=by kernel_rfl
@[go_sem] theorem Xlr:aF Tryz.prog 89=some ⟨2,true,48,[.aW, .aW], .struct⟩:=by kernel_rfl
@[go_sem] theorem arF:bU Tryz.prog 89=some ⟨⟨2,true,48,[.aW, .aW], .struct⟩,[(0,some ⟨1,false,24,[.aW], .slice⟩),(1,some ⟨1,false,24,[.aW], .slice⟩)],none,none⟩:=by kernel_rfl
@[go_sem] theorem Xp9:aF Tryz.prog 90=some ⟨2,true,48,[.aW, .aW], .struct⟩:=by kernel_rfl
@[go_sem] theorem arG:bU Tryz.prog 90=some ⟨⟨2,true,48,[.aW, .aW], .struct⟩,[(0,some ⟨1,false,24,[.aW], .slice⟩),(1,some ⟨1,false,24,[.aW], .slice⟩)],none,none⟩:=by kernel_rfl
@[go_sem] theorem Xpu:aF Tryz.prog 91=some ⟨1,false,8,[.aA], .func⟩:=by kernel_rfl
@[go_sem] theorem arH:bU Tryz.prog 91=some ⟨⟨1,false,8,[.aA], .func⟩,[],none,none⟩:=by kernel_rfl
@[go_sem] theorem Xn6:aF Tryz.prog 92=some ⟨1,false,8,[.cM], .map⟩:=by kernel_rfl
@[go_sem] theorem arI:bU Tryz.prog 92=some ⟨⟨1,false,8,[.cM], .map⟩,[],some ⟨2,true,32,[.int .i64 0, .aW], .struct⟩,some ⟨1,false,8,[.int .i64 0],(.int .i64)⟩⟩:=by kernel_rfl
@[go_sem] theorem Xm6:aF Tryz.prog 93=some ⟨1,false,8,[.cM], .map⟩:=by kernel_rfl
@[go_sem] theorem arJ:bU Tryz.prog 93=some ⟨⟨1,false,8,[.cM], .map⟩,[],some ⟨2,true,32,[.int .i64 0, .aW], .struct⟩,some ⟨1,false,8,[.int .i64 0],(.int .i64)⟩⟩:=by kernel_rfl
@[go_sem] theorem Xkh:aF Tryz.prog 94=some ⟨1,false,8,[.aA], .func⟩:=by kernel_rfl
@[go_sem] theorem arK:bU Tryz.prog 94=some ⟨⟨1,false,8,[.aA], .func⟩,[],none,none⟩:=by kernel_rfl
@[go_sem] theorem Xnu:aF Tryz.prog 95=some ⟨1,false,8,[.aA], .func⟩:=by kernel_rfl
@[go_sem] theorem arL:bU Tryz.prog 95=some ⟨⟨1,false,8,[.aA], .func⟩,[],none,none⟩:=by kernel_rfl
@[go_sem] theorem Xob:aF Tryz.prog 96=some ⟨1,false,8,[.aA], .func⟩:=by kernel_rfl
@[go_sem] theorem arM:bU Tryz.prog 96=some ⟨⟨1,false,8,[.aA], .func⟩,[],none,none⟩:=by kernel_rfl
@[go_sem] theorem Xpf:aF Tryz.prog 97=some ⟨1,false,8,[.aA], .func⟩:=by kernel_rfl
@[go_sem] theorem arN:bU Tryz.prog 97=some ⟨⟨1,false,8,[.aA], .func⟩,[],none,none⟩:=by kernel_rfl
@[go_sem] theorem Xq6:aF Tryz.prog 98=some ⟨1,false,8,[.aA], .func⟩:=by kernel_rfl
@[go_sem] theorem arO:bU Tryz.prog 98=some ⟨⟨1,false,8,[.aA], .func⟩,[],none,none⟩:=by kernel_rfl
@[go_sem] theorem Xk1:aF Tryz.prog 99=some ⟨1,false,8,[.aA], .func⟩:=by kernel_rfl
@[go_sem] theorem arP:bU Tryz.prog 99=some ⟨⟨1,false,8,[.aA], .func⟩,[],none,none⟩:=by kernel_rfl
@[go_sem] theorem Xfr:aF Tryz.prog 100=some ⟨1,false,8,[.aA], .func⟩:=by kernel_rfl
@[go_sem] theorem Xnz:bU Tryz.prog 100=some ⟨⟨1,false,8,[.aA], .func⟩,[],none,none⟩:=by kernel_rfl
@[go_sem] theorem Xix:aF Tryz.prog 102=some ⟨1,false,8,[.aA], .func⟩:=by kernel_rfl
@[go_sem] theorem Xju:bU Tryz.prog 102=some ⟨⟨1,false,8,[.aA], .func⟩,[],none,none⟩:=by kernel_rfl
@[go_sem] theorem Xf6:aF Tryz.prog 103=some ⟨1,false,8,[.aA], .func⟩:=by kernel_rfl
@[go_sem] theorem Xnr:bU Tryz.prog 103=some ⟨⟨1,false,8,[.aA], .func⟩,[],none,none⟩:=by kernel_rfl
@[go_sem] theorem Xgt:aF Tryz.prog 105=some ⟨1,false,8,[.aA], .func⟩:=by kernel_rfl
@[go_sem] theorem Xjm:bU Tryz.prog 105=some ⟨⟨1,false,8,[.aA], .func⟩,[],none,none⟩:=by kernel_rfl
@[go_sem] theorem Xjb:aF Tryz.prog 106=some ⟨1,false,8,[.aA], .func⟩:=by kernel_rfl
@[go_sem] theorem Xqn:bU Tryz.prog 106=some ⟨⟨1,false,8,[.aA], .func⟩,[],none,none⟩:=by kernel_rfl
@[go_sem] theorem Xf8:aF Tryz.prog 108=some ⟨1,false,8,[.aA], .func⟩:=by kernel_rfl
@[go_sem] theorem Xp3:bU Tryz.prog 108=some ⟨⟨1,false,8,[.aA], .func⟩,[],none,none⟩:=by kernel_rfl
@[go_sem] theorem Xfu:aF Tryz.prog 109=some ⟨1,false,8,[.aA], .func⟩:=by kernel_rfl
@[go_sem] theorem Xks:bU Tryz.prog 109=some ⟨⟨1,false,8,[.aA], .func⟩,[],none,none⟩:=by kernel_rfl
@[go_sem] theorem Xic:aF Tryz.prog 110=some ⟨1,false,8,[.aA], .func⟩:=by kernel_rfl
@[go_sem] theorem Xl7:bU Tryz.prog 110=some ⟨⟨1,false,8,[.aA], .func⟩,[],none,none⟩:=by kernel_rfl
@[go_sem] theorem Xhg:aF Tryz.prog 111=some ⟨1,false,8,[.aA], .func⟩:=by kernel_rfl
@[go_sem] theorem Xla:bU Tryz.prog 111=some ⟨⟨1,false,8,[.aA], .func⟩,[],none,none⟩:=by kernel_rfl
@[go_sem] theorem Xg5:aF Tryz.prog 112=some ⟨1,false,8,[.aA], .func⟩:=by kernel_rfl
@[go_sem] theorem Xn1:bU Tryz.prog 112=some ⟨⟨1,false,8,[.aA], .func⟩,[],none,none⟩:=by kernel_rfl
@[go_sem] theorem Xjd:aF Tryz.prog 113=some ⟨1,false,8,[.aA], .func⟩:=by kernel_rfl
@[go_sem] theorem Xmo:bU Tryz.prog 113=some ⟨⟨1,false,8,[.aA], .func⟩,[],none,none⟩:=by kernel_rfl
@[go_sem] theorem Xhj:aF Tryz.prog 114=some ⟨1,false,8,[.aA], .func⟩:=by kernel_rfl
@[go_sem] theorem Xqf:bU Tryz.prog 114=some ⟨⟨1,false,8,[.aA], .func⟩,[],none,none⟩:=by kernel_rfl
@[go_sem] theorem Xfh:aF Tryz.prog 115=some ⟨1,false,8,[.aA], .func⟩:=by kernel_rfl
@[go_sem] theorem Xl1:bU Tryz.prog 115=some ⟨⟨1,false,8,[.aA], .func⟩,[],none,none⟩:=by kernel_rfl
@[go_sem] theorem Xin:aF Tryz.prog 116=some ⟨1,false,8,[.aA], .func⟩:=by kernel_rfl
@[go_sem] theorem Xnl:bU Tryz.prog 116=some ⟨⟨1,false,8,[.aA], .func⟩,[],none,none⟩:=by kernel_rfl
@[go_sem] theorem Xfj:aF Tryz.prog 117=some ⟨1,false,8,[.aA], .func⟩:=by kernel_rfl
@[go_sem] theorem Xln:bU Tryz.prog 117=some ⟨⟨1,false,8,[.aA], .func⟩,[],none,none⟩:=by kernel_rfl
@[go_sem] theorem Xew:aF Tryz.prog 118=some ⟨1,false,8,[.aA], .func⟩:=by kernel_rfl
@[go_sem] theorem Xk0:bU Tryz.prog 118=some ⟨⟨1,false,8,[.aA], .func⟩,[],none,none⟩:=by kernel_rfl
@[go_sem] theorem Xfq:aF Tryz.prog 119=some ⟨1,false,8,[.aA], .func⟩:=by kernel_rfl
@[go_sem] theorem Xp5:bU Tryz.prog 119=some ⟨⟨1,false,8,[.aA], .func⟩,[],none,none⟩:=by kernel_rfl
@[go_sem] theorem Xg4:aF Tryz.prog 120=some ⟨1,false,8,[.aA], .func⟩:=by kernel_rfl
@[go_sem] theorem Xps:bU Tryz.prog 120=some ⟨⟨1,false,8,[.aA], .func⟩,[],none,none⟩:=by kernel_rfl
@[go_sem] theorem Xf2:aF Tryz.prog 121=some ⟨1,false,8,[.aA], .func⟩:=by kernel_rfl
@[go_sem] theorem Xmr:bU Tryz.prog 121=some ⟨⟨1,false,8,[.aA], .func⟩,[],none,none⟩:=by kernel_rfl
@[go_sem] theorem Xhk:aF Tryz.prog 122=some ⟨6,true,96,[.aW, .bool false, .int .i64 0, .aW, .int .i64 0, .aW], .struct⟩:=by kernel_rfl
@[go_sem] theorem Xpt:bU Tryz.prog 122=some ⟨⟨6,true,96,[.aW, .bool false, .int .i64 0, .aW, .int .i64 0, .aW], .struct⟩,[(0,some ⟨1,false,24,[.aW], .slice⟩),(1,some ⟨5,true,72,[.bool false, .int .i64 0, .aW, .int .i64 0, .aW], .struct⟩)],none,none⟩:=by kernel_rfl
@[go_sem] theorem Xfs:aF Tryz.prog 123=some ⟨6,true,96,[.aW, .bool false, .int .i64 0, .aW, .int .i64 0, .aW], .struct⟩:=by kernel_rfl
@[go_sem] theorem Xod:bU Tryz.prog 123=some ⟨⟨6,true,96,[.aW, .bool false, .int .i64 0, .aW, .int .i64 0, .aW], .struct⟩,[(0,some ⟨1,false,24,[.aW], .slice⟩),(1,some ⟨5,true,72,[.bool false, .int .i64 0, .aW, .int .i64 0, .aW], .struct⟩)],none,none⟩:=by kernel_rfl
@[go_sem] theorem Xia:aF Tryz.prog 124=some ⟨1,false,8,[.aA], .func⟩:=by kernel_rfl
@[go_sem] theorem Xm9:bU Tryz.prog 124=some ⟨⟨1,false,8,[.aA], .func⟩,[],none,none⟩:=by kernel_rfl
@[go_sem] theorem Xek:aF Tryz.prog 125=some ⟨1,false,8,[.aA], .func⟩:=by kernel_rfl
@[go_sem] theorem Xo1:bU Tryz.prog 125=some ⟨⟨1,false,8,[.aA], .func⟩,[],none,none⟩:=by kernel_rfl
@[go_sem] theorem Xhz:aF Tryz.prog 126=some ⟨1,false,8,[.aA], .func⟩:=by kernel_rfl
@[go_sem] theorem Xoc:bU Tryz.prog 126=some ⟨⟨1,false,8,[.aA], .func⟩,[],none,none⟩:=by kernel_rfl
@[go_sem] theorem Xir:aF Tryz.prog 127=some ⟨1,false,8,[.aA], .func⟩:=by kernel_rfl
@[go_sem] theorem Xn4:bU Tryz.prog 127=some ⟨⟨1,false,8,[.aA], .func⟩,[],none,none⟩:=by kernel_rfl
@[go_sem] theorem Xgm:aF Tryz.prog 128=some ⟨1,false,24,[.aW], .slice⟩:=by kernel_rfl
@[go_sem] theorem Xkg:bU Tryz.prog 128=some ⟨⟨1,false,24,[.aW], .slice⟩,[],some ⟨5,true,72,[.int .i64 0, .aW, .int .i64 0, .aW, .int .i64 0], .struct⟩,none⟩:=by kernel_rfl
@[go_sem] theorem Xje:aF Tryz.prog 129=some ⟨1,false,8,[.aA], .func⟩:=by kernel_rfl
@[go_sem] theorem Xk5:bU Tryz.prog 129=some ⟨⟨1,false,8,[.aA], .func⟩,[],none,none⟩:=by kernel_rfl
@[go_sem] theorem Xis:aF Tryz.prog 130=some ⟨1,false,8,[.aA], .func⟩:=by kernel_rfl
@[go_sem] theorem Xlc:bU Tryz.prog 130=some ⟨⟨1,false,8,[.aA], .func⟩,[],none,none⟩:=by kernel_rfl
@[go_sem] theorem Xej:aF Tryz.prog 131=some ⟨1,false,8,[.aA], .func⟩:=by kernel_rfl
@[go_sem] theorem Xr1:bU Tryz.prog 131=some ⟨⟨1,false,8,[.aA], .func⟩,[],none,none⟩:=by kernel_rfl
@[go_sem] theorem Xeh:aF Tryz.prog 132=some ⟨1,false,8,[.aA], .func⟩:=by kernel_rfl
@[go_sem] theorem Xq0:bU Tryz.prog 132=some ⟨⟨1,false,8,[.aA], .func⟩,[],none,none⟩:=by kernel_rfl
@[go_sem] theorem Xgo:aF Tryz.prog 133=some ⟨1,false,8,[.aA], .func⟩:=by kernel_rfl
@[go_sem] theorem Xpy:bU Tryz.prog 133=some ⟨⟨1,false,8,[.aA], .func⟩,[],none,none⟩:=by kernel_rfl
@[go_sem] theorem Xff:aF Tryz.prog 134=some ⟨1,false,8,[.cM], .map⟩:=by kernel_rfl
@[go_sem] theorem Xo9:bU Tryz.prog 134=some ⟨⟨1,false,8,[.cM], .map⟩,[],some ⟨1,false,8,[.int .i64 0],(.int .i64)⟩,some ⟨1,false,8,[.int .i64 0],(.int .i64)⟩⟩:=by kernel_rfl
@[go_sem] theorem Xj2:aF Tryz.prog 136=some ⟨1,false,8,[.aA], .func⟩:=by kernel_rfl
@[go_sem] theorem Xlm:bU Tryz.prog 136=some ⟨⟨1,false,8,[.aA], .func⟩,[],none,none⟩:=by kernel_rfl
@[go_sem] theorem Xfy:aF Tryz.prog 137=some ⟨1,true,8,[.aA], .struct⟩:=by kernel_rfl
@[go_sem] theorem Xkt:bU Tryz.prog 137=some ⟨⟨1,true,8,[.aA], .struct⟩,[(0,some ⟨1,false,8,[.aA], .func⟩)],none,none⟩:=by kernel_rfl
@[go_sem] theorem Xhb:aF Tryz.prog 138=some ⟨1,true,8,[.aA], .struct⟩:=by kernel_rfl
@[go_sem] theorem Xok:bU Tryz.prog 138=some ⟨⟨1,true,8,[.aA], .struct⟩,[(0,some ⟨1,false,8,[.aA], .func⟩)],none,none⟩:=by kernel_rfl
@[go_sem] theorem Xgr:aF Tryz.prog 139=some ⟨1,false,8,[.aA], .func⟩:=by kernel_rfl
@[go_sem] theorem Xl3:bU Tryz.prog 139=some ⟨⟨1,false,8,[.aA], .func⟩,[],none,none⟩:=by kernel_rfl
@[go_sem] theorem Xfi:aF Tryz.prog 140=some ⟨1,false,8,[.aA], .func⟩:=by kernel_rfl
@[go_sem] theorem Xnw:bU Tryz.prog 140=some ⟨⟨1,false,8,[.aA], .func⟩,[],none,none⟩:=by kernel_rfl
@[go_sem] theorem Xj6:aF Tryz.prog 141=some ⟨1,false,24,[.aW], .slice⟩:=by kernel_rfl
@[go_sem] theorem Xqc:bU Tryz.prog 141=some ⟨⟨1,false,24,[.aW], .slice⟩,[],some ⟨3,true,40,[.int .i64 0, .int .i64 0, .aW], .struct⟩,none⟩:=by kernel_rfl
@[go_sem] theorem Xfn:aF Tryz.prog 142=some ⟨1,false,8,[.aA], .func⟩:=by kernel_rfl
@[go_sem] theorem Xpv:bU Tryz.prog 142=some ⟨⟨1,false,8,[.aA], .func⟩,[],none,none⟩:=by kernel_rfl
@[go_sem] theorem Xfl:aF Tryz.prog 143=some ⟨1,false,8,[.aA], .func⟩:=by kernel_rfl
@[go_sem] theorem Xmp:bU Tryz.prog 143=some ⟨⟨1,false,8,[.aA], .func⟩,[],none,none⟩:=by kernel_rfl
@[go_sem] theorem Xi0:aF Tryz.prog 144=some ⟨1,false,8,[.aA], .func⟩:=by kernel_rfl
@[go_sem] theorem Xpl:bU Tryz.prog 144=some ⟨⟨1,false,8,[.aA], .func⟩,[],none,none⟩:=by kernel_rfl
@[go_sem] theorem Xid:aF Tryz.prog 145=some ⟨1,false,8,[.aA], .func⟩:=by kernel_rfl
@[go_sem] theorem Xpw:bU Tryz.prog 145=some ⟨⟨1,false,8,[.aA], .func⟩,[],none,none⟩:=by kernel_rfl
@[go_sem] theorem Xj8:aF Tryz.prog 146=some ⟨1,false,8,[.aA], .func⟩:=by kernel_rfl
@[go_sem] theorem Xkf:bU Tryz.prog 146=some ⟨⟨1,false,8,[.aA], .func⟩,[],none,none⟩:=by kernel_rfl
@[go_sem] theorem Xiw:aF Tryz.prog 147=some ⟨1,false,8,[.aA], .func⟩:=by kernel_rfl
@[go_sem] theorem Xpo:bU Tryz.prog 147=some ⟨⟨1,false,8,[.aA], .func⟩,[],none,none⟩:=by kernel_rfl
@[go_sem] theorem Xhm:aF Tryz.prog 148=some ⟨1,false,8,[.aA], .func⟩:=by kernel_rfl
@[go_sem] theorem Xly:bU Tryz.prog 148=some ⟨⟨1,false,8,[.aA], .func⟩,[],none,none⟩:=by kernel_rfl
@[go_sem] theorem Xhf:aF Tryz.prog 149=some ⟨1,false,8,[.aA], .func⟩:=by kernel_rfl
@[go_sem] theorem Xn0:bU Tryz.prog 149=some ⟨⟨1,false,8,[.aA], .func⟩,[],none,none⟩:=by kernel_rfl
@[go_sem] theorem Xf9:aF Tryz.prog 150=some ⟨1,false,8,[.aA], .func⟩:=by kernel_rfl
@[go_sem] theorem Xl9:bU Tryz.prog 150=some ⟨⟨1,false,8,[.aA], .func⟩,[],none,none⟩:=by kernel_rfl
@[go_sem] theorem Xj1:aF Tryz.prog 151=some ⟨1,false,8,[.aA], .func⟩:=by kernel_rfl
@[go_sem] theorem Xlz:bU Tryz.prog 151=some ⟨⟨1,false,8,[.aA], .func⟩,[],none,none⟩:=by kernel_rfl
@[go_sem] theorem Xht:aF Tryz.prog 152=some ⟨1,false,8,[.aA], .func⟩:=by kernel_rfl
@[go_sem] theorem Xn2:bU Tryz.prog 152=some ⟨⟨1,false,8,[.aA], .func⟩,[],none,none⟩:=by kernel_rfl
@[go_sem] theorem Xe6:aF Tryz.prog 153=some ⟨4,true,64,[.int .i64 0, .aW, .int .i64 0, .aW],(.array 2)⟩:=by kernel_rfl
@[go_sem] theorem Xr5:bU Tryz.prog 153=some ⟨⟨4,true,64,[.int .i64 0, .aW, .int .i64 0, .aW],(.array 2)⟩,[],some ⟨2,true,32,[.int .i64 0, .aW], .struct⟩,none⟩:=by kernel_rfl
@[go_sem] theorem Xgj:aF Tryz.prog 154=some ⟨1,false,24,[.aW], .slice⟩:=by kernel_rfl
@[go_sem] theorem Xpj:bU Tryz.prog 154=some ⟨⟨1,false,24,[.aW], .slice⟩,[],some ⟨4,true,64,[.int .i64 0, .aW, .int .i64 0, .aW],(.array 2)⟩,none⟩:=by kernel_rfl
@[go_sem] theorem Xha:aF Tryz.prog 155=some ⟨1,false,8,[.aA], .func⟩:=by kernel_rfl
@[go_sem] theorem Xkp:bU Tryz.prog 155=some ⟨⟨1,false,8,[.aA], .func⟩,[],none,none⟩:=by kernel_rfl
@[go_sem] theorem Xg0:aF Tryz.prog 156=some ⟨1,false,8,[.aA], .func⟩:=by kernel_rfl
@[go_sem] theorem Xq4:bU Tryz.prog 156=some ⟨⟨1,false,8,[.aA], .func⟩,[],none,none⟩:=by kernel_rfl
@[go_sem] theorem Xio:aF Tryz.prog 157=some ⟨1,false,8,[.aA], .func⟩:=by kernel_rfl
@[go_sem] theorem Xng:bU Tryz.prog 157=some ⟨⟨1,false,8,[.aA], .func⟩,[],none,none⟩:=by kernel_rfl
@[go_sem] theorem Xi1:aF Tryz.prog 158=some ⟨1,false,24,[.aW], .slice⟩:=by kernel_rfl
@[go_sem] theorem Xph:bU Tryz.prog 158=some ⟨⟨1,false,24,[.aW], .slice⟩,[],some ⟨1,false,8,[.aA], .func⟩,none⟩:=by kernel_rfl
@[go_sem] theorem Xfw:aF Tryz.prog 159=some ⟨1,false,8,[.aA], .func⟩:=by kernel_rfl
@[go_sem] theorem Xor:bU Tryz.prog 159=some ⟨⟨1,false,8,[.aA], .func⟩,[],none,none⟩:=by kernel_rfl
@[go_sem] theorem Xhq:aF Tryz.prog 160=some ⟨5,true,72,[.int .i64 0, .aW, .int .i64 0, .aW, .int .i64 0], .struct⟩:=by kernel_rfl
@[go_sem] theorem Xpp:bU Tryz.prog 160=some ⟨⟨5,true,72,[.int .i64 0, .aW, .int .i64 0, .aW, .int .i64 0], .struct⟩,[(0,some ⟨2,true,32,[.int .i64 0, .aW], .struct⟩),(2,some ⟨2,true,32,[.int .i64 0, .aW], .struct⟩),(4,some ⟨1,false,8,[.int .i64 0],(.int .i64)⟩)],none,none⟩:=by kernel_rfl
@[go_sem] theorem Xfe:aF Tryz.prog 161=some ⟨5,true,72,[.int .i64 0, .aW, .int .i64 0, .aW, .int .i64 0], .struct⟩:=by kernel_rfl
@[go_sem] theorem Xov:bU Tryz.prog 161=some ⟨⟨5,true,72,[.int .i64 0, .aW, .int .i64 0, .aW, .int .i64 0], .struct⟩,[(0,some ⟨2,true,32,[.int .i64 0, .aW], .struct⟩),(2,some ⟨2,true,32,[.int .i64 0, .aW], .struct⟩),(4,some ⟨1,false,8,[.int .i64 0],(.int .i64)⟩)],none,none⟩:=by kernel_rfl
@[go_sem] theorem Xgx:aF Tryz.prog 162=some ⟨1,false,8,[.aA], .func⟩:=by kernel_rfl
@[go_sem] theorem Xmu:bU Tryz.prog 162=some ⟨⟨1,false,8,[.aA], .func⟩,[],none,none⟩:=by kernel_rfl
@[go_sem] theorem Xg2:aF Tryz.prog 163=some ⟨1,false,8,[.aA], .func⟩:=by kernel_rfl
@[go_sem] theorem Xmn:bU Tryz.prog 163=some ⟨⟨1,false,8,[.aA], .func⟩,[],none,none⟩:=by kernel_rfl
@[go_sem] theorem Xjj:aF Tryz.prog 164=some ⟨1,false,8,[.aA], .func⟩:=by kernel_rfl
@[go_sem] theorem Xlg:bU Tryz.prog 164=some ⟨⟨1,false,8,[.aA], .func⟩,[],none,none⟩:=by kernel_rfl
@[go_sem] theorem Xe5:aF Tryz.prog 165=some ⟨1,false,8,[.aA], .func⟩:=by kernel_rfl
@[go_sem] theorem Xmm:bU Tryz.prog 165=some ⟨⟨1,false,8,[.aA], .func⟩,[],none,none⟩:=by kernel_rfl
@[go_sem] theorem Xi6:aF Tryz.prog 166=some ⟨1,false,8,[.aA], .func⟩:=by kernel_rfl
@[go_sem] theorem Xmd:bU Tryz.prog 166=some ⟨⟨1,false,8,[.aA], .func⟩,[],none,none⟩:=by kernel_rfl
@[go_sem] theorem Xgy:aF Tryz.prog 167=some ⟨5,true,72,[.int .i64 0, .bool false, .aW, .int .i64 0, .aW], .struct⟩:=by kernel_rfl
@[go_sem] theorem Xlj:bU Tryz.prog 167=some ⟨⟨5,true,72,[.int .i64 0, .bool false, .aW, .int .i64 0, .aW], .struct⟩,[(0,some ⟨1,false,8,[.int .i64 0],(.int .i64)⟩),(1,some ⟨1,false,1,[.bool false], .bool⟩),(2,some ⟨1,false,24,[.aW], .slice⟩),(3,some ⟨2,true,32,[.int .i64 0, .aW], .struct⟩)],none,none⟩:=by kernel_rfl
@[go_sem] theorem Xhv:aF Tryz.prog 168=some ⟨5,true,72,[.int .i64 0, .bool false, .aW, .int .i64 0, .aW], .struct⟩:=by kernel_rfl
@[go_sem] theorem Xpi:bU Tryz.prog 168=some ⟨⟨5,true,72,[.int .i64 0, .bool false, .aW, .int .i64 0, .aW], .struct⟩,[(0,some ⟨1,false,8,[.int .i64 0],(.int .i64)⟩),(1,some ⟨1,false,1,[.bool false], .bool⟩),(2,some ⟨1,false,24,[.aW], .slice⟩),(3,some ⟨2,true,32,[.int .i64 0, .aW], .struct⟩)],none,none⟩:=by kernel_rfl
@[go_sem] theorem Xj3:aF Tryz.prog 170=some ⟨1,false,8,[.aA], .func⟩:=by kernel_rfl
@[go_sem] theorem Xl5:bU Tryz.prog 170=some ⟨⟨1,false,8,[.aA], .func⟩,[],none,none⟩:=by kernel_rfl
@[go_sem] theorem Xfm:aF Tryz.prog 171=some ⟨1,false,8,[.aA], .func⟩:=by kernel_rfl
@[go_sem] theorem Xn5:bU Tryz.prog 171=some ⟨⟨1,false,8,[.aA], .func⟩,[],none,none⟩:=by kernel_rfl
@[go_sem] theorem Xja:aF Tryz.prog 172=some ⟨1,false,8,[.aA], .func⟩:=by kernel_rfl
@[go_sem] theorem Xko:bU Tryz.prog 172=some ⟨⟨1,false,8,[.aA], .func⟩,[],none,none⟩:=by kernel_rfl
@[go_sem] theorem Xj0:aF Tryz.prog 173=some ⟨1,false,8,[.aA], .func⟩:=by kernel_rfl
@[go_sem] theorem Xo7:bU Tryz.prog 173=some ⟨⟨1,false,8,[.aA], .func⟩,[],none,none⟩:=by kernel_rfl
@[go_sem] theorem Xi9:aF Tryz.prog 174=some ⟨1,false,8,[.aA], .func⟩:=by kernel_rfl
@[go_sem] theorem Xkk:bU Tryz.prog 174=some ⟨⟨1,false,8,[.aA], .func⟩,[],none,none⟩:=by kernel_rfl
@[go_sem] theorem Xh0:aF Tryz.prog 175=some ⟨3,true,40,[.int .i64 0, .int .i64 0, .aW], .struct⟩:=by kernel_rfl
@[go_sem] theorem Xm0:bU Tryz.prog 175=some ⟨⟨3,true,40,[.int .i64 0, .int .i64 0, .aW], .struct⟩,[(0,some ⟨1,false,8,[.int .i64 0],(.int .i64)⟩),(1,some ⟨2,true,32,[.int .i64 0, .aW], .struct⟩)],none,none⟩:=by kernel_rfl
@[go_sem] theorem Xev:aF Tryz.prog 176=some ⟨3,true,40,[.int .i64 0, .int .i64 0, .aW], .struct⟩:=by kernel_rfl
@[go_sem] theorem Xou:bU Tryz.prog 176=some ⟨⟨3,true,40,[.int .i64 0, .int .i64 0, .aW], .struct⟩,[(0,some ⟨1,false,8,[.int .i64 0],(.int .i64)⟩),(1,some ⟨2,true,32,[.int .i64 0, .aW], .struct⟩)],none,none⟩:=by kernel_rfl
@[go_sem] theorem Xiv:aF Tryz.prog 178=some ⟨1,false,8,[.aA], .func⟩:=by kernel_rfl
@[go_sem] theorem Xpd:bU Tryz.prog 178=some ⟨⟨1,false,8,[.aA], .func⟩,[],none,none⟩:=by kernel_rfl
@[go_sem] theorem Xer:aF Tryz.prog 179=some ⟨1,false,8,[.aA], .func⟩:=by kernel_rfl
@[go_sem] theorem Xl2:bU Tryz.prog 179=some ⟨⟨1,false,8,[.aA], .func⟩,[],none,none⟩:=by kernel_rfl
@[go_sem] theorem Xip:aF Tryz.prog 180=some ⟨1,false,8,[.aA], .func⟩:=by kernel_rfl
@[go_sem] theorem Xr2:bU Tryz.prog 180=some ⟨⟨1,false,8,[.aA], .func⟩,[],none,none⟩:=by kernel_rfl
@[go_sem] theorem Xi4:aF Tryz.prog 181=some ⟨1,false,24,[.aW], .slice⟩:=by kernel_rfl
@[go_sem] theorem Xqb:bU Tryz.prog 181=some ⟨⟨1,false,24,[.aW], .slice⟩,[],some ⟨1,false,24,[.aW], .slice⟩,none⟩:=by kernel_rfl
@[go_sem] theorem Xh7:aF Tryz.prog 182=some ⟨1,false,8,[.aA], .func⟩:=by kernel_rfl
@[go_sem] theorem Xoj:bU Tryz.prog 182=some ⟨⟨1,false,8,[.aA], .func⟩,[],none,none⟩:=by kernel_rfl
@[go_sem] theorem Xji:aF Tryz.prog 183=some ⟨1,false,8,[.aA], .func⟩:=by kernel_rfl
@[go_sem] theorem Xpg:bU Tryz.prog 183=some ⟨⟨1,false,8,[.aA], .func⟩,[],none,none⟩:=by kernel_rfl
@[go_sem] theorem Xee:aF Tryz.prog 184=some ⟨1,false,8,[.aA], .func⟩:=by kernel_rfl
@[go_sem] theorem Xpr:bU Tryz.prog 184=some ⟨⟨1,false,8,[.aA], .func⟩,[],none,none⟩:=by kernel_rfl
@[go_sem] theorem Xi3:aF Tryz.prog 185=some ⟨3,true,40,[.int .i64 0, .aW, .int .i64 0], .struct⟩:=by kernel_rfl
@[go_sem] theorem Xos:bU Tryz.prog 185=some ⟨⟨3,true,40,[.int .i64 0, .aW, .int .i64 0], .struct⟩,[(0,some ⟨2,true,32,[.int .i64 0, .aW], .struct⟩),(2,some ⟨1,false,8,[.int .i64 0],(.int .i64)⟩)],none,none⟩:=by kernel_rfl
@[go_sem] theorem Xj7:aF Tryz.prog 186=some ⟨3,true,40,[.int .i64 0, .aW, .int .i64 0], .struct⟩:=by kernel_rfl
@[go_sem] theorem Xq9:bU Tryz.prog 186=some ⟨⟨3,true,40,[.int .i64 0, .aW, .int .i64 0], .struct⟩,[(0,some ⟨2,true,32,[.int .i64 0, .aW], .struct⟩),(2,some ⟨1,false,8,[.int .i64 0],(.int .i64)⟩)],none,none⟩:=by kernel_rfl
@[go_sem] theorem Xik:aF Tryz.prog 187=some ⟨1,false,24,[.aW], .slice⟩:=by kernel_rfl
@[go_sem] theorem Xjt:bU Tryz.prog 187=some ⟨⟨1,false,24,[.aW], .slice⟩,[],some ⟨3,true,40,[.int .i64 0, .aW, .int .i64 0], .struct⟩,none⟩:=by kernel_rfl
@[go_sem] theorem Xgk:aF Tryz.prog 188=some ⟨1,false,8,[.aA], .func⟩:=by kernel_rfl
@[go_sem] theorem Xmh:bU Tryz.prog 188=some ⟨⟨1,false,8,[.aA], .func⟩,[],none,none⟩:=by kernel_rfl
@[go_sem] theorem Xfv:aF Tryz.prog 189=some ⟨1,false,8,[.aA], .func⟩:=by kernel_rfl
@[go_sem] theorem Xmy:bU Tryz.prog 189=some ⟨⟨1,false,8,[.aA], .func⟩,[],none,none⟩:=by kernel_rfl
@[go_sem] theorem Xim:aF Tryz.prog 190=some ⟨1,false,8,[.aA], .func⟩:=by kernel_rfl
@[go_sem] theorem Xjq:bU Tryz.prog 190=some ⟨⟨1,false,8,[.aA], .func⟩,[],none,none⟩:=by kernel_rfl
@[go_sem] theorem Xes:aF Tryz.prog 191=some ⟨1,false,8,[.aA], .func⟩:=by kernel_rfl
@[go_sem] theorem Xm3:bU Tryz.prog 191=some ⟨⟨1,false,8,[.aA], .func⟩,[],none,none⟩:=by kernel_rfl
@[go_sem] theorem Xh8:aF Tryz.prog 192=some ⟨1,false,8,[.aA], .func⟩:=by kernel_rfl
@[go_sem] theorem Xp0:bU Tryz.prog 192=some ⟨⟨1,false,8,[.aA], .func⟩,[],none,none⟩:=by kernel_rfl
@[go_sem] theorem Xfo:aF Tryz.prog 193=some ⟨1,false,8,[.aA], .func⟩:=by kernel_rfl
@[go_sem] theorem Xof:bU Tryz.prog 193=some ⟨⟨1,false,8,[.aA], .func⟩,[],none,none⟩:=by kernel_rfl
@[go_sem] theorem Xhy:aF Tryz.prog 194=some ⟨1,false,8,[.aA], .func⟩:=by kernel_rfl
@[go_sem] theorem Xo0:bU Tryz.prog 194=some ⟨⟨1,false,8,[.aA], .func⟩,[],none,none⟩:=by kernel_rfl
@[go_sem] theorem Xen:aF Tryz.prog 195=some ⟨1,false,8,[.aA], .func⟩:=by kernel_rfl
@[go_sem] theorem Xli:bU Tryz.prog 195=some ⟨⟨1,false,8,[.aA], .func⟩,[],none,none⟩:=by kernel_rfl
@[go_sem] theorem Xgi:aF Tryz.prog 196=some ⟨1,false,8,[.aA], .func⟩:=by kernel_rfl
@[go_sem] theorem Xmq:bU Tryz.prog 196=some ⟨⟨1,false,8,[.aA], .func⟩,[],none,none⟩:=by kernel_rfl
@[go_sem] theorem Xft:aF Tryz.prog 198=some ⟨1,false,8,[.aA], .func⟩:=by kernel_rfl
@[go_sem] theorem Xkc:bU Tryz.prog 198=some ⟨⟨1,false,8,[.aA], .func⟩,[],none,none⟩:=by kernel_rfl
@[go_sem] theorem Xg1:aF Tryz.prog 200=some ⟨1,false,8,[.aA], .func⟩:=by kernel_rfl
@[go_sem] theorem Xoz:bU Tryz.prog 200=some ⟨⟨1,false,8,[.aA], .func⟩,[],none,none⟩:=by kernel_rfl
@[go_sem] theorem Xe8:aF Tryz.prog 202=some ⟨1,false,8,[.aA], .func⟩:=by kernel_rfl
@[go_sem] theorem Xlb:bU Tryz.prog 202=some ⟨⟨1,false,8,[.aA], .func⟩,[],none,none⟩:=by kernel_rfl
@[go_sem] theorem Xge:aF Tryz.prog 203=some ⟨1,false,8,[.aA], .func⟩:=by kernel_rfl
@[go_sem] theorem Xkd:bU Tryz.prog 203=some ⟨⟨1,false,8,[.aA], .func⟩,[],none,none⟩:=by kernel_rfl
@[go_sem] theorem Xhd:aF Tryz.prog 204=some ⟨1,false,8,[.bY], .ptr⟩:=by kernel_rfl
@[go_sem] theorem Xo6:bU Tryz.prog 204=some ⟨⟨1,false,8,[.bY], .ptr⟩,[],none,none⟩:=by kernel_rfl
@[go_sem] theorem Xj5:aF Tryz.prog 205=some ⟨1,false,8,[.aA], .func⟩:=by kernel_rfl
@[go_sem] theorem Xqm:bU Tryz.prog 205=some ⟨⟨1,false,8,[.aA], .func⟩,[],none,none⟩:=by kernel_rfl
@[go_sem] theorem Xh2:aF Tryz.prog 206=some ⟨1,false,8,[.aA], .func⟩:=by kernel_rfl
@[go_sem] theorem Xoo:bU Tryz.prog 206=some ⟨⟨1,false,8,[.aA], .func⟩,[],none,none⟩:=by kernel_rfl
@[go_sem] theorem Xf3:aF Tryz.prog 207=some ⟨1,false,8,[.aA], .func⟩:=by kernel_rfl
@[go_sem] theorem Xkm:bU Tryz.prog 207=some ⟨⟨1,false,8,[.aA], .func⟩,[],none,none⟩:=by kernel_rfl
@[go_sem] theorem Xhh:aF Tryz.prog 208=some ⟨1,false,8,[.aA], .func⟩:=by kernel_rfl
@[go_sem] theorem Xk4:bU Tryz.prog 208=some ⟨⟨1,false,8,[.aA], .func⟩,[],none,none⟩:=by kernel_rfl
@[go_sem] theorem Xgg:aF Tryz.prog 209=some ⟨1,false,8,[.aA], .func⟩:=by kernel_rfl
@[go_sem] theorem Xqy:bU Tryz.prog 209=some ⟨⟨1,false,8,[.aA], .func⟩,[],none,none⟩:=by kernel_rfl
@[go_sem] theorem Xh3:aF Tryz.prog 210=some ⟨1,false,8,[.aA], .func⟩:=by kernel_rfl
@[go_sem] theorem Xr8:bU Tryz.prog 210=some ⟨⟨1,false,8,[.aA], .func⟩,[],none,none⟩:=by kernel_rfl
@[go_sem] theorem Xe4:aF Tryz.prog 212=some ⟨1,false,8,[.aA], .func⟩:=by kernel_rfl
@[go_sem] theorem Xl8:bU Tryz.prog 212=some ⟨⟨1,false,8,[.aA], .func⟩,[],none,none⟩:=by kernel_rfl
@[go_sem] theorem Xgz:aF Tryz.prog 213=some ⟨1,false,8,[.aA], .func⟩:=by kernel_rfl
@[go_sem] theorem Xoh:bU Tryz.prog 213=some ⟨⟨1,false,8,[.aA], .func⟩,[],none,none⟩:=by kernel_rfl
@[go_sem] theorem Xeb:aF Tryz.prog 214=some ⟨1,false,8,[.aA], .func⟩:=by kernel_rfl
@[go_sem] theorem Xoa:bU Tryz.prog 214=some ⟨⟨1,false,8,[.aA], .func⟩,[],none,none⟩:=by kernel_rfl
@[go_sem] theorem Xjk:aF Tryz.prog 215=some ⟨1,false,8,[.aA], .func⟩:=by kernel_rfl
@[go_sem] theorem Xmg:bU Tryz.prog 215=some ⟨⟨1,false,8,[.aA], .func⟩,[],none,none⟩:=by kernel_rfl
@[go_sem] theorem Xjl:aF Tryz.prog 216=some ⟨1,false,8,[.aA], .func⟩:=by kernel_rfl
@[go_sem] theorem Xmf:bU Tryz.prog 216=some ⟨⟨1,false,8,[.aA], .func⟩,[],none,none⟩:=by kernel_rfl
@[go_sem] theorem Xhs:aF Tryz.prog 217=some ⟨1,false,8,[.aA], .func⟩:=by kernel_rfl
@[go_sem] theorem Xqz:bU Tryz.prog 217=some ⟨⟨1,false,8,[.aA], .func⟩,[],none,none⟩:=by kernel_rfl
@[go_sem] theorem Xem:aF Tryz.prog 218=some ⟨1,false,8,[.aA], .func⟩:=by kernel_rfl
@[go_sem] theorem Xm5:bU Tryz.prog 218=some ⟨⟨1,false,8,[.aA], .func⟩,[],none,none⟩:=by kernel_rfl
@[go_sem] theorem Xfx:aF Tryz.prog 219=some ⟨1,false,8,[.aA], .func⟩:=by kernel_rfl
@[go_sem] theorem Xmc:bU Tryz.prog 219=some ⟨⟨1,false,8,[.aA], .func⟩,[],none,none⟩:=by kernel_rfl
@[go_sem] theorem Xiu:aF Tryz.prog 220=some ⟨1,false,8,[.aA], .func⟩:=by kernel_rfl
@[go_sem] theorem Xk7:bU Tryz.prog 220=some ⟨⟨1,false,8,[.aA], .func⟩,[],none,none⟩:=by kernel_rfl
@[go_sem] theorem Xhr:aF Tryz.prog 221=some ⟨1,false,8,[.cM], .map⟩:=by kernel_rfl
@[go_sem] theorem Xkb:bU Tryz.prog 221=some ⟨⟨1,false,8,[.cM], .map⟩,[],some ⟨2,true,32,[.int .i64 0, .aW], .struct⟩,some ⟨1,false,8,[.int .i64 0],(.int .i64)⟩⟩:=by kernel_rfl
@[go_sem] theorem Xfa:aF Tryz.prog 222=some ⟨1,false,8,[.aA], .func⟩:=by kernel_rfl
@[go_sem] theorem Xpz:bU Tryz.prog 222=some ⟨⟨1,false,8,[.aA], .func⟩,[],none,none⟩:=by kernel_rfl
@[go_sem] theorem Xf5:aF Tryz.prog 223=some ⟨1,false,8,[.aA], .func⟩:=by kernel_rfl
@[go_sem] theorem Xqj:bU Tryz.prog 223=some ⟨⟨1,false,8,[.aA], .func⟩,[],none,none⟩:=by kernel_rfl
@[go_sem] theorem Xij:aF Tryz.prog 224=some ⟨1,false,8,[.aA], .func⟩:=by kernel_rfl
@[go_sem] theorem Xlo:bU Tryz.prog 224=some ⟨⟨1,false,8,[.aA], .func⟩,[],none,none⟩:=by kernel_rfl
@[go_sem] theorem Xg3:aF Tryz.prog 225=some ⟨1,false,8,[.aA], .func⟩:=by kernel_rfl
@[go_sem] theorem Xk3:bU Tryz.prog 225=some ⟨⟨1,false,8,[.aA], .func⟩,[],none,none⟩:=by kernel_rfl
@[go_sem] theorem Xii:aF Tryz.prog 226=some ⟨1,false,8,[.aA], .func⟩:=by kernel_rfl
@[go_sem] theorem Xpx:bU Tryz.prog 226=some ⟨⟨1,false,8,[.aA], .func⟩,[],none,none⟩:=by kernel_rfl
@[go_sem] theorem Xhi:aF Tryz.prog 227=some ⟨1,false,8,[.aA], .func⟩:=by kernel_rfl
@[go_sem] theorem Xnx:bU Tryz.prog 227=some ⟨⟨1,false,8,[.aA], .func⟩,[],none,none⟩:=by kernel_rfl
@[go_sem] theorem Xgv:aF Tryz.prog 228=some ⟨1,false,8,[.bY], .ptr⟩:=by kernel_rfl
@[go_sem] theorem Xl0:bU Tryz.prog 228=some ⟨⟨1,false,8,[.bY], .ptr⟩,[],none,none⟩:=by kernel_rfl
@[go_sem] theorem Xey:aF Tryz.prog 229=some ⟨1,false,8,[.aA], .func⟩:=by kernel_rfl
@[go_sem] theorem Xkn:bU Tryz.prog 229=some ⟨⟨1,false,8,[.aA], .func⟩,[],none,none⟩:=by kernel_rfl
@[go_sem] theorem Xf4:aF Tryz.prog 230=some ⟨1,false,8,[.aA], .func⟩:=by kernel_rfl
@[go_sem] theorem Xp4:bU Tryz.prog 230=some ⟨⟨1,false,8,[.aA], .func⟩,[],none,none⟩:=by kernel_rfl
@[go_sem] theorem Xeg:aF Tryz.prog 231=some ⟨1,false,8,[.aA], .func⟩:=by kernel_rfl
@[go_sem] theorem Xny:bU Tryz.prog 231=some ⟨⟨1,false,8,[.aA], .func⟩,[],none,none⟩:=by kernel_rfl
@[go_sem] theorem Xi2:aF Tryz.prog 232=some ⟨1,false,8,[.aA], .func⟩:=by kernel_rfl
@[go_sem] theorem Xma:bU Tryz.prog 232=some ⟨⟨1,false,8,[.aA], .func⟩,[],none,none⟩:=by kernel_rfl
@[go_sem] theorem Xeo:aF Tryz.prog 233=some ⟨1,false,8,[.aA], .func⟩:=by kernel_rfl
@[go_sem] theorem Xon:bU Tryz.prog 233=some ⟨⟨1,false,8,[.aA], .func⟩,[],none,none⟩:=by kernel_rfl
@[go_sem] theorem Xfk:aF Tryz.prog 234=some ⟨1,false,8,[.aA], .func⟩:=by kernel_rfl
@[go_sem] theorem Xmb:bU Tryz.prog 234=some ⟨⟨1,false,8,[.aA], .func⟩,[],none,none⟩:=by kernel_rfl
@[go_sem] theorem Xiq:aF Tryz.prog 235=some ⟨1,false,8,[.aA], .func⟩:=by kernel_rfl
@[go_sem] theorem Xni:bU Tryz.prog 235=some ⟨⟨1,false,8,[.aA], .func⟩,[],none,none⟩:=by kernel_rfl
@[go_sem] theorem Xib:aF Tryz.prog 236=some ⟨1,false,8,[.aA], .func⟩:=by kernel_rfl
@[go_sem] theorem Xn3:bU Tryz.prog 236=some ⟨⟨1,false,8,[.aA], .func⟩,[],none,none⟩:=by kernel_rfl
@[go_sem] theorem Xit:aF Tryz.prog 237=some ⟨1,false,8,[.aA], .func⟩:=by kernel_rfl
@[go_sem] theorem Xjr:bU Tryz.prog 237=some ⟨⟨1,false,8,[.aA], .func⟩,[],none,none⟩:=by kernel_rfl
@[go_sem] theorem Xf7:aF Tryz.prog 238=some ⟨1,false,8,[.aA], .func⟩:=by kernel_rfl
@[go_sem] theorem Xle:bU Tryz.prog 238=some ⟨⟨1,false,8,[.aA], .func⟩,[],none,none⟩:=by kernel_rfl
@[go_sem] theorem Xiy:aF Tryz.prog 239=some ⟨1,false,8,[.aA], .func⟩:=by kernel_rfl
@[go_sem] theorem Xo3:bU Tryz.prog 239=some ⟨⟨1,false,8,[.aA], .func⟩,[],none,none⟩:=by kernel_rfl
@[go_sem] theorem Xgb:aF Tryz.prog 240=some ⟨1,false,8,[.aA], .func⟩:=by kernel_rfl
@[go_sem] theorem Xr0:bU Tryz.prog 240=some ⟨⟨1,false,8,[.aA], .func⟩,[],none,none⟩:=by kernel_rfl
@[go_sem] theorem Xi8:aF Tryz.prog 241=some ⟨1,false,8,[.aA], .func⟩:=by kernel_rfl
@[go_sem] theorem Xq8:bU Tryz.prog 241=some ⟨⟨1,false,8,[.aA], .func⟩,[],none,none⟩:=by kernel_rfl
@[go_sem] theorem Xea:aF Tryz.prog 242=some ⟨1,false,8,[.bY], .ptr⟩:=by kernel_rfl
@[go_sem] theorem Xkj:bU Tryz.prog 242=some ⟨⟨1,false,8,[.bY], .ptr⟩,[],none,none⟩:=by kernel_rfl
@[go_sem] theorem Xe9:aF Tryz.prog 243=some ⟨2,true,16,[.int .i64 0, .cM], .struct⟩:=by kernel_rfl
@[go_sem] theorem Xqe:bU Tryz.prog 243=some ⟨⟨2,true,16,[.int .i64 0, .cM], .struct⟩,[(0,some ⟨1,false,8,[.int .i64 0],(.int .i64)⟩),(1,some ⟨1,false,8,[.cM], .map⟩)],none,none⟩:=by kernel_rfl
@[go_sem] theorem Xh1:aF Tryz.prog 244=some ⟨2,true,16,[.int .i64 0, .cM], .struct⟩:=by kernel_rfl
@[go_sem] theorem Xjv:bU Tryz.prog 244=some ⟨⟨2,true,16,[.int .i64 0, .cM], .struct⟩,[(0,some ⟨1,false,8,[.int .i64 0],(.int .i64)⟩),(1,some ⟨1,false,8,[.cM], .map⟩)],none,none⟩:=by kernel_rfl
@[go_sem] theorem Xfp:aF Tryz.prog 245=some ⟨1,false,8,[.aA], .func⟩:=by kernel_rfl
@[go_sem] theorem Xke:bU Tryz.prog 245=some ⟨⟨1,false,8,[.aA], .func⟩,[],none,none⟩:=by kernel_rfl
@[go_sem] theorem Xjc:aF Tryz.prog 246=some ⟨1,false,8,[.aA], .func⟩:=by kernel_rfl
@[go_sem] theorem Xqp:bU Tryz.prog 246=some ⟨⟨1,false,8,[.aA], .func⟩,[],none,none⟩:=by kernel_rfl
@[go_sem] theorem Xh9:aF Tryz.prog 247=some ⟨1,false,8,[.aA], .func⟩:=by kernel_rfl
@[go_sem] theorem Xlu:bU Tryz.prog 247=some ⟨⟨1,false,8,[.aA], .func⟩,[],none,none⟩:=by kernel_rfl
@[go_sem] theorem Xjf:aF Tryz.prog 248=some ⟨1,false,8,[.aA], .func⟩:=by kernel_rfl
@[go_sem] theorem Xl4:bU Tryz.prog 248=some ⟨⟨1,false,8,[.aA], .func⟩,[],none,none⟩:=by kernel_rfl
@[go_sem] theorem Xg9:aF Tryz.prog 249=some ⟨1,false,8,[.aA], .func⟩:=by kernel_rfl
@[go_sem] theorem Xqt:bU Tryz.prog 249=some ⟨⟨1,false,8,[.aA], .func⟩,[],none,none⟩:=by kernel_rfl
@[go_sem] theorem Xga:aF Tryz.prog 250=some ⟨1,false,8,[.aA], .func⟩:=by kernel_rfl
@[go_sem] theorem Xqu:bU Tryz.prog 250=some ⟨⟨1,false,8,[.aA], .func⟩,[],none,none⟩:=by kernel_rfl
@[go_sem] theorem Xei:aF Tryz.prog 251=some ⟨1,false,8,[.aA], .func⟩:=by kernel_rfl
@[go_sem] theorem Xqw:bU Tryz.prog 251=some ⟨⟨1,false,8,[.aA], .func⟩,[],none,none⟩:=by kernel_rfl
@[go_sem] theorem Xeu:aF Tryz.prog 252=some ⟨1,false,8,[.aA], .func⟩:=by kernel_rfl
@[go_sem] theorem Xm8:bU Tryz.prog 252=some ⟨⟨1,false,8,[.aA], .func⟩,[],none,none⟩:=by kernel_rfl
@[go_sem] theorem Xgs:aF Tryz.prog 253=some ⟨1,false,8,[.aA], .func⟩:=by kernel_rfl
@[go_sem] theorem Xnp:bU Tryz.prog 253=some ⟨⟨1,false,8,[.aA], .func⟩,[],none,none⟩:=by kernel_rfl
@[go_sem] theorem Xg6:aF Tryz.prog 255=some ⟨1,false,8,[.aA], .func⟩:=by kernel_rfl
@[go_sem] theorem Xjw:bU Tryz.prog 255=some ⟨⟨1,false,8,[.aA], .func⟩,[],none,none⟩:=by kernel_rfl
@[go_sem] theorem Xh4:aF Tryz.prog 256=some ⟨1,false,8,[.aA], .func⟩:=by kernel_rfl
@[go_sem] theorem Xmi:bU Tryz.prog 256=some ⟨⟨1,false,8,[.aA], .func⟩,[],none,none⟩:=by kernel_rfl
@[go_sem] theorem Xe7:aF Tryz.prog 257=some ⟨1,false,8,[.aA], .func⟩:=by kernel_rfl
@[go_sem] theorem Xk2:bU Tryz.prog 257=some ⟨⟨1,false,8,[.aA], .func⟩,[],none,none⟩:=by kernel_rfl
@[go_sem] theorem Xhe:aF Tryz.prog 258=some ⟨1,false,8,[.aA], .func⟩:=by kernel_rfl
@[go_sem] theorem Xnh:bU Tryz.prog 258=some ⟨⟨1,false,8,[.aA], .func⟩,[],none,none⟩:=by kernel_rfl
@[go_sem] theorem Xho:aF Tryz.prog 259=some ⟨1,false,8,[.aA], .func⟩:=by kernel_rfl
@[go_sem] theorem Xnv:bU Tryz.prog 259=some ⟨⟨1,false,8,[.aA], .func⟩,[],none,none⟩:=by kernel_rfl
@[go_sem] theorem Xif:aF Tryz.prog 260=some ⟨1,false,8,[.aA], .func⟩:=by kernel_rfl
@[go_sem] theorem Xna:bU Tryz.prog 260=some ⟨⟨1,false,8,[.aA], .func⟩,[],none,none⟩:=by kernel_rfl
@[go_sem] theorem Xgl:aF Tryz.prog 261=some ⟨1,false,8,[.aA], .func⟩:=by kernel_rfl
@[go_sem] theorem Xq1:bU Tryz.prog 261=some ⟨⟨1,false,8,[.aA], .func⟩,[],none,none⟩:=by kernel_rfl
@[go_sem] theorem Xf0:aF Tryz.prog 262=some ⟨1,false,8,[.aA], .func⟩:=by kernel_rfl
@[go_sem] theorem Xol:bU Tryz.prog 262=some ⟨⟨1,false,8,[.aA], .func⟩,[],none,none⟩:=by kernel_rfl
@[go_sem] theorem Xgd:aF Tryz.prog 263=some ⟨1,false,8,[.aA], .func⟩:=by kernel_rfl
@[go_sem] theorem Xjp:bU Tryz.prog 263=some ⟨⟨1,false,8,[.aA], .func⟩,[],none,none⟩:=by kernel_rfl
@[go_sem] theorem Xjg:aF Tryz.prog 264=some ⟨1,false,8,[.aA], .func⟩:=by kernel_rfl
@[go_sem] theorem Xqo:bU Tryz.prog 264=some ⟨⟨1,false,8,[.aA], .func⟩,[],none,none⟩:=by kernel_rfl
@[go_sem] theorem Xi5:aF Tryz.prog 265=some ⟨1,false,8,[.int .u64 0],(.int .u64)⟩:=by kernel_rfl
@[go_sem] theorem Xkl:bU Tryz.prog 265=some ⟨⟨1,false,8,[.int .u64 0],(.int .u64)⟩,[],none,none⟩:=by kernel_rfl
@[go_sem] theorem Xgw:aF Tryz.prog 266=some ⟨1,false,24,[.aW], .slice⟩:=by kernel_rfl
@[go_sem] theorem Xll:bU Tryz.prog 266=some ⟨⟨1,false,24,[.aW], .slice⟩,[],some ⟨1,false,24,[.aW], .slice⟩,none⟩:=by kernel_rfl
@[go_sem] theorem Xj4:aF Tryz.prog 267=some ⟨1,false,8,[.aA], .func⟩:=by kernel_rfl
@[go_sem] theorem Xkq:bU Tryz.prog 267=some ⟨⟨1,false,8,[.aA], .func⟩,[],none,none⟩:=by kernel_rfl
@[go_sem] theorem Xfg:aF Tryz.prog 268=some ⟨1,false,8,[.aA], .func⟩:=by kernel_rfl
@[go_sem] theorem Xp6:bU Tryz.prog 268=some ⟨⟨1,false,8,[.aA], .func⟩,[],none,none⟩:=by kernel_rfl
@[go_sem] theorem Xfc:aF Tryz.prog 269=some ⟨1,false,8,[.aA], .func⟩:=by kernel_rfl
@[go_sem] theorem Xpc:bU Tryz.prog 269=some ⟨⟨1,false,8,[.aA], .func⟩,[],none,none⟩:=by kernel_rfl
@[go_sem] theorem Xex:aF Tryz.prog 270=some ⟨1,false,8,[.aA], .func⟩:=by kernel_rfl
@[go_sem] theorem Xra:bU Tryz.prog 270=some ⟨⟨1,false,8,[.aA], .func⟩,[],none,none⟩:=by kernel_rfl
@[go_sem] theorem Xef:aF Tryz.prog 271=some ⟨1,false,8,[.int .i64 0],(.int .i64)⟩:=by kernel_rfl
@[go_sem] theorem Xoi:bU Tryz.prog 271=some ⟨⟨1,false,8,[.int .i64 0],(.int .i64)⟩,[],none,none⟩:=by kernel_rfl
@[go_sem] theorem Xiz:aF Tryz.prog 273=some ⟨1,false,8,[.aA], .func⟩:=by kernel_rfl
@[go_sem] theorem Xp7:bU Tryz.prog 273=some ⟨⟨1,false,8,[.aA], .func⟩,[],none,none⟩:=by kernel_rfl
@[go_sem] theorem Xhl:aF Tryz.prog 274=some ⟨1,false,8,[.aA], .func⟩:=by kernel_rfl
@[go_sem] theorem Xp8:bU Tryz.prog 274=some ⟨⟨1,false,8,[.aA], .func⟩,[],none,none⟩:=by kernel_rfl
@[go_sem] theorem Xgc:aF Tryz.prog 275=some ⟨1,false,8,[.aA], .func⟩:=by kernel_rfl
@[go_sem] theorem Xo2:bU Tryz.prog 275=some ⟨⟨1,false,8,[.aA], .func⟩,[],none,none⟩:=by kernel_rfl
@[go_sem] theorem Xfz:aF Tryz.prog 276=some ⟨1,false,8,[.aA], .func⟩:=by kernel_rfl
@[go_sem] theorem Xqr:bU Tryz.prog 276=some ⟨⟨1,false,8,[.aA], .func⟩,[],none,none⟩:=by kernel_rfl
@[go_sem] theorem Xhx:aF Tryz.prog 277=some ⟨1,false,8,[.aA], .func⟩:=by kernel_rfl
@[go_sem] theorem Xqq:bU Tryz.prog 277=some ⟨⟨1,false,8,[.aA], .func⟩,[],none,none⟩:=by kernel_rfl
@[go_sem] theorem Xih:aF Tryz.prog 278=some ⟨1,false,8,[.aA], .func⟩:=by kernel_rfl
@[go_sem] theorem Xr4:bU Tryz.prog 278=some ⟨⟨1,false,8,[.aA], .func⟩,[],none,none⟩:=by kernel_rfl
@[go_sem] theorem Xeq:aF Tryz.prog 279=some ⟨1,false,4,[.int .u32 0],(.int .u32)⟩:=by kernel_rfl
@[go_sem] theorem Xo8:bU Tryz.prog 279=some ⟨⟨1,false,4,[.int .u32 0],(.int .u32)⟩,[],none,none⟩:=by kernel_rfl
@[go_sem] theorem Xil:aF Tryz.prog 280=some ⟨1,false,8,[.aA], .func⟩:=by kernel_rfl
@[go_sem] theorem Xnq:bU Tryz.prog 280=some ⟨⟨1,false,8,[.aA], .func⟩,[],none,none⟩:=by kernel_rfl
@[go_sem] theorem Xhw:aF Tryz.prog 281=some ⟨1,false,8,[.int .u64 0],(.int .u64)⟩:=by kernel_rfl
@[go_sem] theorem Xmk:bU Tryz.prog 281=some ⟨⟨1,false,8,[.int .u64 0],(.int .u64)⟩,[],none,none⟩:=by kernel_rfl
@[go_sem] theorem Xhp:aF Tryz.prog 282=some ⟨1,false,8,[.int .u64 0],(.int .u64)⟩:=by kernel_rfl
@[go_sem] theorem Xkz:bU Tryz.prog 282=some ⟨⟨1,false,8,[.int .u64 0],(.int .u64)⟩,[],none,none⟩:=by kernel_rfl
@[go_sem] theorem Xel:aF Tryz.prog 283=some ⟨1,false,8,[.aA], .func⟩:=by kernel_rfl
@[go_sem] theorem Xkr:bU Tryz.prog 283=some ⟨⟨1,false,8,[.aA], .func⟩,[],none,none⟩:=by kernel_rfl
@[go_sem] theorem Xed:aF Tryz.prog 284=some ⟨1,false,8,[.aA], .func⟩:=by kernel_rfl
@[go_sem] theorem Xo5:bU Tryz.prog 284=some ⟨⟨1,false,8,[.aA], .func⟩,[],none,none⟩:=by kernel_rfl
@[go_sem] theorem Xfb:aF Tryz.prog 285=some ⟨1,false,8,[.aA], .func⟩:=by kernel_rfl
@[go_sem] theorem Xnj:bU Tryz.prog 285=some ⟨⟨1,false,8,[.aA], .func⟩,[],none,none⟩:=by kernel_rfl
@[go_sem] theorem Xgh:aF Tryz.prog 286=some ⟨1,false,8,[.bY], .ptr⟩:=by kernel_rfl
@[go_sem] theorem Xr6:bU Tryz.prog 286=some ⟨⟨1,false,8,[.bY], .ptr⟩,[],none,none⟩:=by kernel_rfl
@[go_sem] theorem Xgp:aF Tryz.prog 287=some ⟨1,false,8,[.aA], .func⟩:=by kernel_rfl
@[go_sem] theorem Xlw:bU Tryz.prog 287=some ⟨⟨1,false,8,[.aA], .func⟩,[],none,none⟩:=by kernel_rfl
@[go_sem] theorem Xep:aF Tryz.prog 288=some ⟨1,false,8,[.bY], .ptr⟩:=by kernel_rfl
@[go_sem] theorem Xoq:bU Tryz.prog 288=some ⟨⟨1,false,8,[.bY], .ptr⟩,[],none,none⟩:=by kernel_rfl
@[go_sem] theorem Xgu:aF Tryz.prog 290=some ⟨1,false,8,[.aA], .func⟩:=by kernel_rfl
@[go_sem] theorem Xjy:bU Tryz.prog 290=some ⟨⟨1,false,8,[.aA], .func⟩,[],none,none⟩:=by kernel_rfl
@[go_sem] theorem Xj9:aF Tryz.prog 291=some ⟨1,false,8,[.aA], .func⟩:=by kernel_rfl
@[go_sem] theorem Xlx:bU Tryz.prog 291=some ⟨⟨1,false,8,[.aA], .func⟩,[],none,none⟩:=by kernel_rfl
@[go_sem] theorem Xgf:aF Tryz.prog 292=some ⟨4,true,40,[.bY, .bY, .bY, .str ⟨#[]⟩], .struct⟩:=by kernel_rfl
@[go_sem] theorem Xns:bU Tryz.prog 292=some ⟨⟨4,true,40,[.bY, .bY, .bY, .str ⟨#[]⟩], .struct⟩,[(0,some ⟨1,false,8,[.bY], .ptr⟩),(1,some ⟨1,false,8,[.bY], .ptr⟩),(2,some ⟨1,false,8,[.bY], .ptr⟩),(3,some ⟨1,false,16,[.str ⟨#[]⟩], .str⟩)],none,none⟩:=by kernel_rfl
@[go_sem] theorem Xjh:aF Tryz.prog 293=some ⟨4,true,40,[.bY, .bY, .bY, .str ⟨#[]⟩], .struct⟩:=by kernel_rfl
@[go_sem] theorem Xpm:bU Tryz.prog 293=some ⟨⟨4,true,40,[.bY, .bY, .bY, .str ⟨#[]⟩], .struct⟩,[(0,some ⟨1,false,8,[.bY], .ptr⟩),(1,some ⟨1,false,8,[.bY], .ptr⟩),(2,some ⟨1,false,8,[.bY], .ptr⟩),(3,some ⟨1,false,16,[.str ⟨#[]⟩], .str⟩)],none,none⟩:=by kernel_rfl
@[go_sem] theorem Xez:aF Tryz.prog 294=some ⟨0,true,0,[],(.array 0)⟩:=by kernel_rfl
@[go_sem] theorem Xr7:bU Tryz.prog 294=some ⟨⟨0,true,0,[],(.array 0)⟩,[],some ⟨1,false,8,[.bY], .ptr⟩,none⟩:=by kernel_rfl
@[go_sem] theorem Xi7:aF Tryz.prog 295=some ⟨0,true,0,[], .struct⟩:=by kernel_rfl
@[go_sem] theorem Xk8:bU Tryz.prog 295=some ⟨⟨0,true,0,[], .struct⟩,[(0,some ⟨0,true,0,[],(.array 0)⟩)],none,none⟩:=by kernel_rfl
@[go_sem] theorem Xfd:aF Tryz.prog 296=some ⟨0,true,0,[], .struct⟩:=by kernel_rfl
@[go_sem] theorem Xql:bU Tryz.prog 296=some ⟨⟨0,true,0,[], .struct⟩,[(0,some ⟨0,true,0,[],(.array 0)⟩)],none,none⟩:=by kernel_rfl
@[go_sem] theorem Xg7:aF Tryz.prog 297=some ⟨1,false,1,[.int .u8 0],(.int .u8)⟩:=by kernel_rfl
@[go_sem] theorem Xqx:bU Tryz.prog 297=some ⟨⟨1,false,1,[.int .u8 0],(.int .u8)⟩,[],none,none⟩:=by kernel_rfl
@[go_sem] theorem Xet:aF Tryz.prog 298=some ⟨1,false,1,[.int .u8 0],(.int .u8)⟩:=by kernel_rfl
@[go_sem] theorem Xk9:bU Tryz.prog 298=some ⟨⟨1,false,1,[.int .u8 0],(.int .u8)⟩,[],none,none⟩:=by kernel_rfl
@[go_sem] theorem Xie:aF Tryz.prog 299=some ⟨1,false,8,[.aA], .func⟩:=by kernel_rfl
@[go_sem] theorem Xjo:bU Tryz.prog 299=some ⟨⟨1,false,8,[.aA], .func⟩,[],none,none⟩:=by kernel_rfl
@[go_sem] theorem Xhc:aF Tryz.prog 300=some ⟨1,false,8,[.bY], .ptr⟩:=by kernel_rfl
@[go_sem] theorem Xm1:bU Tryz.prog 300=some ⟨⟨1,false,8,[.bY], .ptr⟩,[],none,none⟩:=by kernel_rfl
@[go_sem] theorem Xgq:aF Tryz.prog 301=some ⟨1,false,4,[.int .i32 0],(.int .i32)⟩:=by kernel_rfl
@[go_sem] theorem Xml:bU Tryz.prog 301=some ⟨⟨1,false,4,[.int .i32 0],(.int .i32)⟩,[],none,none⟩:=by kernel_rfl
@[go_sem] theorem Xh5:aF Tryz.prog 302=some ⟨1,false,4,[.int .i32 0],(.int .i32)⟩:=by kernel_rfl
@[go_sem] theorem Xp2:bU Tryz.prog 302=some ⟨⟨1,false,4,[.int .i32 0],(.int .i32)⟩,[],none,none⟩:=by kernel_rfl
@[go_sem] theorem Xh6:aF Tryz.prog 303=some ⟨11,true,48,[.int .u64 0, .int .u64 0, .int .u32 0, .int .u8 0, .int .u8 0, .int .u8 0, .int .u8 0, .aA, .bY, .int .i32 0, .int .i32 0], .struct⟩:=by kernel_rfl
@[go_sem] theorem Xmv:bU Tryz.prog 303=some ⟨⟨11,true,48,[.int .u64 0, .int .u64 0, .int .u32 0, .int .u8 0, .int .u8 0, .int .u8 0, .int .u8 0, .aA, .bY, .int .i32 0, .int .i32 0], .struct⟩,[(0,some ⟨1,false,8,[.int .u64 0],(.int .u64)⟩),(1,some ⟨1,false,8,[.int .u64 0],(.int .u64)⟩),(2,some ⟨1,false,4,[.int .u32 0],(.int .u32)⟩),(3,some ⟨1,false,1,[.int .u8 0],(.int .u8)⟩),(4,some ⟨1,false,1,[.int .u8 0],(.int .u8)⟩),(5,some ⟨1,false,1,[.int .u8 0],(.int .u8)⟩),(6,some ⟨1,false,1,[.int .u8 0],(.int .u8)⟩),(7,some ⟨1,false,8,[.aA], .func⟩),(8,some ⟨1,false,8,[.bY], .ptr⟩),(9,some ⟨1,false,4,[.int .i32 0],(.int .i32)⟩),(10,some ⟨1,false,4,[.int .i32 0],(.int .i32)⟩)],none,none⟩:=by kernel_rfl
@[go_sem] theorem Xec:aF Tryz.prog 304=some ⟨11,true,48,[.int .u64 0, .int .u64 0, .int .u32 0, .int .u8 0, .int .u8 0, .int .u8 0, .int .u8 0, .aA, .bY, .int .i32 0, .int .i32 0], .struct⟩:=by kernel_rfl
@[go_sem] theorem Xnm:bU Tryz.prog 304=some ⟨⟨11,true,48,[.int .u64 0, .int .u64 0, .int .u32 0, .int .u8 0, .int .u8 0, .int .u8 0, .int .u8 0, .aA, .bY, .int .i32 0, .int .i32 0], .struct⟩,[(0,some ⟨1,false,8,[.int .u64 0],(.int .u64)⟩),(1,some ⟨1,false,8,[.int .u64 0],(.int .u64)⟩),(2,some ⟨1,false,4,[.int .u32 0],(.int .u32)⟩),(3,some ⟨1,false,1,[.int .u8 0],(.int .u8)⟩),(4,some ⟨1,false,1,[.int .u8 0],(.int .u8)⟩),(5,some ⟨1,false,1,[.int .u8 0],(.int .u8)⟩),(6,some ⟨1,false,1,[.int .u8 0],(.int .u8)⟩),(7,some ⟨1,false,8,[.aA], .func⟩),(8,some ⟨1,false,8,[.bY], .ptr⟩),(9,some ⟨1,false,4,[.int .i32 0],(.int .i32)⟩),(10,some ⟨1,false,4,[.int .i32 0],(.int .i32)⟩)],none,none⟩:=by kernel_rfl
@[go_sem] theorem Xgn:aF Tryz.prog 305=some ⟨1,false,8,[.bY], .other⟩:=by kernel_rfl
@[go_sem] theorem Xpn:bU Tryz.prog 305=some ⟨⟨1,false,8,[.bY], .other⟩,[],none,none⟩:=by kernel_rfl
inductive Tm where
 | mk (head:Int) (args:List Tm)
def Tm.head:Tm→Int | .mk h _=>h
def Tm.args:Tm→List Tm | .mk _ l=>l
mutual
def Tm.aM:Tm→ah
 | .mk h ts=>.agg [.int .i64 h, .ps 2 (Tm.zX ts)]
def Tm.zX:List Tm→List ah
 | []=>[]
 | t :: ts=>t.aM :: Tm.zX ts
end
theorem QQ:∀ ts,Tm.zX ts=ts.map Tm.aM
 | []=>rfl
 | t :: ts=>by simp [Tm.zX,QQ ts]
theorem cZ (t:Tm):t.aM = .agg [.int .i64 t.head, .ps 2 (t.args.map Tm.aM)]:=by cases t;simp [Tm.aM,QQ,Tm.head,Tm.args]
theorem fL (t:Tm):t.aM.cells=[.int .i64 t.head, .ps 2 (t.args.map Tm.aM)]:=by rw [cZ];rfl
theorem FC (h:Int) (ts:List Tm):ah.agg [.int .i64 h, .ps 2 (ts.map Tm.aM)]=(Tm.mk h ts).aM:=by rw [cZ];rfl
theorem uU {α:Type} {n:Nat} {f : α→ah}:∀ {l:List α},(∀ x∈l,(f x).low n)→bF n (l.map f)
 | [],_=>trivial
 | a :: l,h=>⟨h a (by simp),uU fun x hx=>h x (by simp [hx])⟩
mutual
theorem M4:∀ t:Tm,t.aM.low 0
 | .mk h ts=>by simp only [Tm.aM,ah.low,bF,and_true,true_and];exact VI ts
theorem VI:∀ ts:List Tm,bF 0 (Tm.zX ts)
 | []=>trivial
 | t :: ts=>⟨M4 t,VI ts⟩
end
theorem dG {n:Nat} (t:Tm):t.aM.low n:=nG (au n) (M4 t)
theorem bW {n:Nat} (ts:List Tm):bF n (ts.map Tm.aM):=uU fun x _=>dG x
theorem mC {α:Type} {f : α→ah} {l:List α} {i:Nat} (h:i<l.length):(l.map f).getD i .undef=f l[i]:=by simp [List.getD,h]
def ints (l:List Int):List ah:=l.map (.int .i64)
theorem iZ (l:List Int):(ints l).length=l.length:=by simp [ints]
theorem dq {n:Nat}:∀ l:List Int,bF n (ints l)
 | []=>trivial
 | _ :: l=>⟨trivial,dq l⟩
theorem s0 {l:List Int} {i:Nat} (h:i<l.length):(ints l).getD i .undef = .int .i64 l[i]:=by simp [ints,List.getD,h]
theorem Af:ints []=[]:=rfl
theorem LY (l:List Int) (n:Int):ints l++[.int .i64 n]=ints (l++[n]):=by simp [ints]
theorem dQ {n:Int} (h : -9223372036854775808≤n∧n≤9223372036854775807):IntKind.i64.wrap n=n:=by rw [IntKind.wrap_i64];omega
def mE (n:Int):Prop:=-9223372036854775808≤n∧n≤9223372036854775807
mutual
def Tm.size:Tm→Nat
 | .mk _ ts=>1+Tm.bG ts
def Tm.bG:List Tm→Nat
 | []=>0
 | t :: ts=>t.size+Tm.bG ts
end
mutual
def Tm.depth:Tm→Nat
 | .mk _ ts=>Tm.fW ts+1
def Tm.fW:List Tm→Nat
 | []=>0
 | t :: ts=>max t.depth (Tm.fW ts)
end
theorem Ce:∀ (ts:List Tm) (i:Nat) (hi:i<ts.length),Tm.bG (ts.take (i+1))=Tm.bG (ts.take i)+Tm.size ts[i]
 | t :: ts,0,_=>by simp [Tm.bG]
 | t :: ts,i+1,hi=>by
  simp only [df,Tm.bG,dj];rw [Ce ts i (by simpa using hi)];omega
theorem Tw:∀ (ts:List Tm) (i:Nat) (hi:i<ts.length),Tm.fW (ts.take (i+1))=max (Tm.fW (ts.take i)) (Tm.depth ts[i])
 | t :: ts,0,_=>by simp [Tm.fW]
 | t :: ts,i+1,hi=>by
  simp only [df,Tm.fW,dj];rw [Tw ts i (by simpa using hi)];omega
theorem w7:∀ (ts:List Tm) (i:Nat) (hi:i<ts.length),Tm.size ts[i]≤Tm.bG ts
 | t :: ts,0,_=>by simp only [ez,Tm.bG];omega
 | t :: ts,i+1,hi=>by
  have:=w7 ts i (by simpa using hi);simp only [dj,Tm.bG];omega
theorem Ca:∀ (ts:List Tm) (i:Nat),Tm.bG (ts.take i)≤Tm.bG ts
 | [],i=>by simp
 | t :: ts,0=>by simp [Tm.bG]
 | t :: ts,i+1=>by have:=Ca ts i;simp only [df,Tm.bG];omega
theorem QL (t:Tm) : 1≤t.size:=by cases t;simp only [Tm.size];omega
theorem oZ:∀ ts:List Tm,ts.length≤Tm.bG ts
 | []=>by simp [Tm.bG]
 | t :: ts=>by have:=oZ ts;have:=QL t;simp only [ax,Tm.bG];omega
mutual
theorem Ld:∀ t:Tm,t.depth≤t.size
 | .mk _ ts=>by have:=K9 ts;simp only [Tm.depth,Tm.size];omega
theorem K9:∀ ts:List Tm,Tm.fW ts≤Tm.bG ts
 | []=>by simp [Tm.fW,Tm.bG]
 | t :: ts=>by have:=Ld t;have:=K9 ts;simp only [Tm.fW,Tm.bG];omega
end
theorem Tm.gN {p:Tm→Prop} (h:∀ hd ts,(∀ (i:Nat) (hi:i<ts.length),p ts[i])→p (.mk hd ts)):∀ t,p t:=by
 have key:∀ n (t:Tm),t.size=n→p t:=by
  intro n
  induction n using Nat.strongRecOn with
  | _ n ih =>
   intro t ht
   match t,ht with
   | .mk hd ts,ht =>
    refine h hd ts fun i hi=>ih _ ?_ ts[i] rfl;have:=w7 ts i hi;simp only [Tm.size] at ht;omega
 exact fun t=>key _ t rfl
mutual
def Tm.tC:Tm→Int→Int
 | .mk _ ts,m=>Tm.oh ts 1 m
def Tm.oh:List Tm→Int→Int→Int
 | [],n,_=>n
 | t :: ts,n,m=>if n≤m then Tm.oh ts (n+t.tC (m - n)) m else n
end
mutual
theorem Da:∀ (t:Tm) (m:Int),0≤m→1≤t.tC m∧t.tC m≤m+1
 | .mk _ ts,m,h=>by simp only [Tm.tC];exact LA ts 1 m (by omega) (by omega)
theorem LA:∀ (ts:List Tm) (n m:Int),1≤n→n≤m+1→n≤Tm.oh ts n m∧Tm.oh ts n m≤m+1
 | [],n,m,h1,h2=>by simp only [Tm.oh];omega
 | t :: ts,n,m,h1,h2=>by
  simp only [Tm.oh];split
  ·have:=Da t (m - n) (by omega);have:=LA ts (n+t.tC (m - n)) m (by omega) (by omega);omega
  ·omega
end
mutual
theorem Me:∀ (t:Tm) (m:Int),0≤m→t.tC m≤m→t.tC m=t.size
 | .mk _ ts,m,h0,h=>by
  simp only [Tm.tC] at h ⊢;have:=TH ts 1 m (by omega) (by omega) h;simp only [Tm.size];omega
theorem TH:∀ (ts:List Tm) (n m:Int),1≤n→n≤m+1→Tm.oh ts n m≤m→Tm.oh ts n m=n+Tm.bG ts
 | [],n,m,_,_,_=>by simp [Tm.oh,Tm.bG]
 | t :: ts,n,m,h1,h2,h=>by
  simp only [Tm.oh] at h ⊢;split at h
  ·rename_i hn;rw [if_pos hn];have hb:=Da t (m - n) (by omega);have v7:=LA ts (n+t.tC (m - n)) m (by omega) (by omega);have h3:=TH ts (n+t.tC (m - n)) m (by omega) (by omega) h;have h4:=Me t (m - n) (by omega) (by omega);simp only [Tm.bG];omega
  ·omega
end
theorem Ygd (ts:List Tm) (n m:Int) (h:¬ n≤m):Tm.oh ts n m=n:=by cases ts<;>simp [Tm.oh,h]
mutual
def Tm.good:Tm→Bool
 | .mk h ts=>!(h<0&&decide (0<ts.length)||h < -256||decide (1023<h)||decide (8<ts.length))&&Tm.fH ts
def Tm.fH:List Tm→Bool
 | []=>true
 | t :: ts=>t.good&&Tm.fH ts
end
theorem I4:∀ (ts:List Tm) (i:Nat) (hi:i<ts.length),Tm.fH ts=(Tm.fH (ts.take i)&&(ts[i].good&&Tm.fH (ts.drop (i+1))))
 | t :: ts,0,_=>by simp [Tm.fH]
 | t :: ts,i+1,hi=>by
  simp only [df,Tm.fH,dj,mW];rw [I4 ts i (by simpa using hi)];simp [nz]
theorem Yc4 (ts:List Tm) (i:Nat) (hi:i<ts.length):Tm.fH (ts.take (i+1))=(Tm.fH (ts.take i)&&ts[i].good):=by
 have h:=I4 (ts.take (i+1)) i (by simp;omega);rw [h,jG,qC (by omega),List.getElem_take,dP (by rw [cA];omega)];simp [Tm.fH]
def Tm.check (t:Tm):Int:=if 400<t.size then 2 else if 40<t.depth then 7 else if t.good then 0 else 1
def kU (o:List Int) (v:Int):List Int:=if v∈o then o else o++[v]
def dV (o l:List Int):List Int:=l.foldl kU o
mutual
def Tm.vars:Tm→List Int
 | .mk h ts=>Tm.gw ts (if h<0 then [-1 - h] else [])
def Tm.gw:List Tm→List Int→List Int
 | [],o=>o
 | t :: ts,o=>Tm.gw ts (dV o t.vars)
end
theorem Zvs (o l:List Int) (i:Nat) (hi:i<l.length):dV o (l.take (i+1))=kU (dV o (l.take i)) l[i]:=by
 simp only [dV,c9,av hi,gK,oH,qA,List.foldl_nil]
theorem Wq (o:List Int) (v:Int):(kU o v).length≤o.length+1:=by unfold kU;split<;>simp
theorem LC:∀ (l o:List Int),(dV o l).length≤o.length+l.length
 | [],o=>by simp [dV]
 | v :: l,o=>by
  have h:dV o (v :: l)=dV (kU o v) l:=rfl;rw [h];have:=LC l (kU o v);have:=Wq o v;simp only [ax];omega
theorem TU:∀ (ts:List Tm) (i:Nat) (hi:i<ts.length) (o:List Int),Tm.gw (ts.take (i+1)) o=dV (Tm.gw (ts.take i) o) ts[i].vars
 | t :: ts,0,_,o=>by simp [Tm.gw]
 | t :: ts,i+1,hi,o=>by
  simp only [df,Tm.gw,dj];exact TU ts i (by simpa using hi) _
mutual
theorem JB:∀ t:Tm,t.vars.length≤t.size
 | .mk h ts=>by
  have:=Gs ts (if h<0 then [-1 - h] else [])
  have h2:(if h<0 then [-1 - h] else ([]:List Int)).length≤1:=by split<;>simp
  simp only [Tm.vars,Tm.size];omega
theorem Gs:∀ (ts:List Tm) (o:List Int),(Tm.gw ts o).length≤o.length+Tm.bG ts
 | [],o=>by simp [Tm.gw,Tm.bG]
 | t :: ts,o=>by
  have h1:=Gs ts (dV o t.vars);have h2:=LC t.vars o;have h3:=JB t;simp only [Tm.gw,Tm.bG];omega
end
def jk (b:Nat) (sz:Nat):List ah→ah
 | []=>.aW
 | x :: l=>.os b 0 (l.length+1) sz
def fx:List ah→Option bO
 | []=>none
 | x :: l=>some (.row (x :: l) 0)
mutual
def Tm.fit:Tm→Prop
 | .mk h ts=>mE h∧Tm.fits ts
def Tm.fits:List Tm→Prop
 | []=>True
 | t :: ts=>t.fit∧Tm.fits ts
end
theorem Fm:∀ {ts:List Tm},Tm.fits ts→∀ (i:Nat) (hi:i<ts.length),ts[i].fit
 | t :: ts,h,0,_=>h.1
 | t :: ts,h,i+1,hi=>Fm h.2 i (by simpa using hi)
theorem Gn (n:Int) (l:List Int):ints (n :: l) = .int .i64 n :: ints l:=rfl
theorem s_ (b sz:Nat):jk b sz [] = .aW:=rfl
theorem Gx (b sz:Nat) (x:ah) (l:List ah):jk b sz (x :: l) = .os b 0 (l.length+1) sz:=rfl
theorem sM:fx []=none:=rfl
theorem Fk (x:ah) (l:List ah):fx (x :: l)=some (.row (x :: l) 0):=rfl
theorem Bh {b n:Nat} (h:b<n) (sz:Nat):∀ l:List ah,(jk b sz l).low n
 | []=>trivial
 | _ :: _=>h
theorem Ag {n:Nat}:∀ l:List ah,bF n l→jK n (fx l)
 | [],_=>trivial
 | _ :: _,h=>h
theorem Dt {b sz:Nat} {l:List ah} (h:l≠[]):jk b sz l = .os b 0 l.length sz:=by cases l;exact absurd rfl h;rfl
theorem Cu {l:List ah} (h:l≠[]):fx l=some (.row l 0):=by cases l;exact absurd rfl h;rfl
theorem Fq (b sz:Nat) (l:List ah) (x:ah):jk b sz (l++[x]) = .os b 0 (l.length+1) sz:=by
 rw [Dt (by simp)];simp
theorem Fg (l:List ah) (x:ah):fx (l++[x])=some (.row (l++[x]) 0):=Cu (by simp)
theorem Cp (l:List Int) (n:Int):ints (l++[n])=ints l++[.int .i64 n]:=(LY l n).symm
theorem rO {F:Nat→Bool} {σ:ai} {b sz:Nat} {l:List ah} (hF:F b=true) (h:bP σ b=fx l):pT F σ (.ps sz l) (jk b sz l)=True:=by
 cases l with
 | nil=>simp [jk,pT]
 | cons x l =>
  simp only [jk,Sz,h,fx,TR,hF,dH,ax];simp [cx]
theorem WJ {σ:ai} {b:Nat} (h:bP σ b=none) : σ.set b none = σ:=by
 apply b_;intro c;by_cases e:b=c
 ·subst e;rw [py];simp only [bP] at h;cases hc : σ[b]? with
  | none=>rfl
  | some x=>rw [hc] at h;simp at h;subst h;rfl
 ·rw [bX e]
open Classical in
theorem vX {σ:ai} {nm b sz bs:Nat} {ag:Bool} {z:List ah} {key:KA} {l:List ah} {x:ah} (h:bP σ b=fx l):eO σ nm ⟨sz,ag,bs,z,key⟩ (jk b sz l) [x]=if eW ⟨sz,ag,bs,z,key⟩ [x]∧l.length+1≤cV bs then some (.os nm 0 (l.length+1) sz,cr (σ.set b none) nm (.row (l++[x]) 0)) else none:=by
 cases l with
 | nil =>
  have h0:bP σ b=none:=h;rw [WJ h0];by_cases c:eW ⟨sz,ag,bs,z,key⟩ [x]<;>simp [jk,Ng,c]
 | cons y l =>
  simp only [jk];rw [K2,h];simp only [fx,Lr,ax,aS,dH];by_cases c:eW ⟨sz,ag,bs,z,key⟩ [x]
  ·simp only [c,if_true,true_and,bq,ae,au,eV];rw [bh (by simp)]
  ·simp [c]
theorem wo {b sz:Nat} {l xs:List ah} (h:xs≠[]):jk b sz (l++xs) = .os b 0 (l.length+xs.length) sz:=by
 rw [Dt (by simp [h])];simp
theorem wm {l xs:List ah} (h:xs≠[]):fx (l++xs)=some (.row (l++xs) 0):=Cu (by simp [h])
open Classical in
theorem JN {σ:ai} {nm b sz bs:Nat} {ag:Bool} {z:List ah} {key:KA} {l:List ah} {x y:ah} (h:bP σ b=fx l):eO σ nm ⟨sz,ag,bs,z,key⟩ (jk b sz l) [x,y]=if eW ⟨sz,ag,bs,z,key⟩ [x,y]∧l.length+2≤cV bs then some (.os nm 0 (l.length+2) sz,cr (σ.set b none) nm (.row (l++[x,y]) 0)) else none:=by
 cases l with
 | nil =>
  have h0:bP σ b=none:=h;rw [WJ h0];by_cases c:eW ⟨sz,ag,bs,z,key⟩ [x,y]<;>simp [jk,Ng,c]
 | cons u l =>
  simp only [jk];rw [K2,h];simp only [fx,Lr,ax,aS,dH];by_cases c:eW ⟨sz,ag,bs,z,key⟩ [x,y]
  ·simp only [c,if_true,true_and,bq,ae,au,eV];rw [bh (by simp)]
  ·simp [c]
end Go.Proofs
namespace Go.Proofs
open Go Go.dm
attribute [local go_sem] Nat.reduceAdd Nat.reduceSub Nat.reduceMul Nat.reduceLeDiff Nat.reduceEqDiff Nat.reduceBEq
theorem mixed:Tryz.prog.follows .mixedOrders=true:=by rfl
theorem Yu8 (a b:List Int) (ha:a.length<2 ^ 62):aD Tryz.prog 46 [.ps 1 (ints a), .ps 1 (ints b)] (.bool (decide (a=b))):=by
 refine aD.begin (rs:=[.tmp 4]) (m:=24) 1000 Tryz.func46 rfl rfl rfl (by decide) trivial ?_;simp only [go_sem,iZ];refine ⟨fun eH=>?_,fun heq=>?_⟩
 ·have:a≠b:=fun e=>eH (by rw [e]);simp [this]
 have hlen:a.length=b.length:=by omega
 refine aG.cO (ι:={i:Nat // i≤a.length∧a.take i=b.take i}) 1000 (fun i=>fe 26 [(0, .ps 1 (ints a)),(1, .ps 1 (ints b)),(5, .int .i64 i.1)]) (fun _=>[]) (fun i=>a.length - i.1) ⟨0,by simp⟩ ?_ (fun _=>au _) ?_
 ·simp only [go_sem,dq,br]
 ·rintro ⟨i,hi,aN⟩;simp only [go_sem,iZ];refine ⟨fun bA=>?_,fun rB=>?_⟩
  ·have sc:i<a.length:=by omega
   have BJ:i<b.length:=by omega
   refine aG.draw [] 0 0 mixed rfl rfl (ae _) ?_;simp only [go_sem,da,iZ,aR,s0 sc,s0 BJ];refine ⟨by omega,by omega,?_⟩;refine aG.go 1000 ?_;simp only [go_sem];refine ⟨fun eH=>?_,fun heq=>?_⟩
   ·have:a≠b:=fun e=>eH (by subst e;rfl);refine aG.go 1000 ?_;simp only [go_sem];simp [this]
   ·refine ⟨⟨i+1,by omega,?_⟩,?_,by simp only;omega⟩
    ·rw [c9,c9,aN,av sc,av BJ,heq]
    ·simp only [go_sem,dq];rw [dQ (by omega)];rfl
  ·refine aG.go 1000 ?_;simp only [go_sem];have:i=a.length:=by omega
   subst this;rw [bZ,hlen,bZ] at aN;simp [aN]
theorem NL (t:Tm):t.size<2 ^ 62→aD Tryz.prog 152 [t.aM] (.int .i64 t.size):=by
 induction t using Tm.gN with
 | h h ts ih =>
 intro hs;simp only [Tm.size] at hs;have hlen:=oZ ts;refine aD.begin (rs:=[.tmp 2]) (m:=20) 1000 Tryz.func152 rfl rfl rfl (by decide) trivial ?_;simp only [go_sem,cZ,Tm.head,Tm.args];refine aG.cO (ι:={i:Nat // i≤ts.length}) 1000 (fun i=>fe 21 [(1, .ptr 0 0),(3, .int .i64 (1+Tm.bG (ts.take i.1):Nat)),(4, .int .i64 i.1)]) (fun _=>[some (.var [.int .i64 h, .ps 2 (ts.map Tm.aM)])]) (fun i=>ts.length - i.1) ⟨0,by omega⟩ ?_ (fun _=>by simp) ?_
 ·simp only [go_sem,Tm.bG,bW,br,a_];simp
 ·rintro ⟨i,hi⟩;simp only [go_sem,aj];refine ⟨fun bA=>?_,fun rB=>?_⟩
  ·have aU:i<ts.length:=by omega
   refine ⟨by omega,?_⟩;simp only [go_sem,aR,mC aU,fL,ae];rw [← cZ];have fJ:=w7 ts i aU;refine aq.bS [] (ih i aU (by omega)) (cx _ _ _) (by simp [go_sem,dG]) ?_;simp only [bC,bN,bL,if_true];refine aG.go 1000 ?_;simp only [go_sem];refine ⟨⟨i+1,aU⟩,?_,by simp only;omega⟩;simp only [go_sem,bW,a_];have h1:=Ce ts i aU;have h2:=Ca ts (i+1);rw [dQ (by omega),dQ (by omega),h1];simp;omega
  ·refine aG.go 1000 ?_;simp only [go_sem,Tm.size];have:i=ts.length:=by omega
   subst this;simp
theorem Ylr (t:Tm):t.size<2 ^ 62→aD Tryz.prog 153 [t.aM] (.int .i64 t.depth):=by
 induction t using Tm.gN with
 | h h ts ih =>
 intro hs;simp only [Tm.size] at hs;have hlen:=oZ ts;refine aD.begin (rs:=[.tmp 2]) (m:=21) 1000 Tryz.func153 rfl rfl rfl (by decide) trivial ?_;simp only [go_sem,cZ,Tm.head,Tm.args];refine aG.cO (ι:={i:Nat // i≤ts.length}) 1000 (fun i=>fe 22 [(1, .ptr 0 0),(3, .int .i64 (Tm.fW (ts.take i.1):Nat)),(4, .int .i64 i.1)]) (fun _=>[some (.var [.int .i64 h, .ps 2 (ts.map Tm.aM)])]) (fun i=>ts.length - i.1) ⟨0,by omega⟩ ?_ (fun _=>by simp) ?_
 ·simp only [go_sem,Tm.fW,bW,br,a_]
 ·rintro ⟨i,hi⟩;simp only [go_sem,aj];refine ⟨fun bA=>?_,fun rB=>?_⟩
  ·have aU:i<ts.length:=by omega
   refine ⟨by omega,?_⟩;simp only [go_sem,aR,mC aU,fL,ae];rw [← cZ];have fJ:=w7 ts i aU;refine aq.bS [] (ih i aU (by omega)) (cx _ _ _) (by simp [go_sem,dG]) ?_;simp only [bC,bN,bL,if_true];refine aG.go 1000 ?_;simp only [go_sem];refine ⟨⟨i+1,aU⟩,?_,by simp only;omega⟩;simp only [go_sem,bW,a_];have h1:=Tw ts i aU;rw [dQ (by omega),h1];refine ⟨?_,rfl⟩;congr 1;split<;>omega
  ·refine aG.go 1000 ?_;simp only [go_sem,Tm.depth];have:i=ts.length:=by omega
   subst this;have:=K9 ts;rw [bZ,dQ (by omega)];simp
theorem Zz (n:Int) (l:List Int) (hl:l.length<2 ^ 62):aD Tryz.prog 20 [.int .i64 n, .ps 1 (ints l)] (.bool (decide (n∈l))):=by
 refine aD.begin (rs:=[.tmp 4]) (m:=16) 1000 Tryz.func20 rfl rfl rfl (by decide) trivial ?_;simp only [go_sem];refine aG.cO (ι:={i:Nat // i≤l.length∧n ∉ l.take i}) 1000 (fun i=>fe 18 [(0, .int .i64 n),(1, .ps 1 (ints l)),(5, .int .i64 i.1)]) (fun _=>[]) (fun i=>l.length - i.1) ⟨0,by simp⟩ ?_ (fun _=>au _) ?_
 ·simp only [go_sem,dq,br]
 ·rintro ⟨i,hi,aN⟩;simp only [go_sem,iZ];refine ⟨fun bA=>?_,fun rB=>?_⟩
  ·have sc:i<l.length:=by omega
   simp only [go_sem,aR,s0 sc];refine ⟨by omega,fun he=>?_,fun eH=>?_⟩
   ·refine aG.go 1000 ?_;simp only [go_sem];have:n∈l:=he ▸ aC sc;simp [this]
   ·refine ⟨⟨i+1,by omega,?_⟩,?_,by simp only;omega⟩
    ·rw [c9,av sc];simp only [gK,aY,aL,not_or];exact ⟨aN,fun e=>eH e.symm⟩
    ·simp only [go_sem,dq];rw [dQ (by omega)];rfl
  ·refine aG.go 1000 ?_;simp only [go_sem];have:i=l.length:=by omega
   subst this;rw [bZ] at aN;simp [aN]
theorem Xa (t:Tm):∀ m:Int,0≤m→m<2 ^ 62→aD Tryz.prog 58 [t.aM, .int .i64 m] (.int .i64 (t.tC m)):=by
 induction t using Tm.gN with
 | h h ts ih =>
 intro m tH xg;refine aD.begin (rs:=[.tmp 4]) (m:=29) 1000 Tryz.func58 rfl rfl rfl (by decide) trivial ?_;simp only [go_sem,cZ,Tm.head,Tm.args];refine aG.cO (ι:={p:Nat×Int // p.1≤ts.length∧1≤p.2∧p.2≤m+1∧p.1≤p.2∧Tm.oh (ts.drop p.1) p.2 m=Tm.oh ts 1 m}) 1000 (fun p=>fe 31 [(1, .int .i64 m),(2, .ptr 0 0),(5, .int .i64 p.1.2),(6, .int .i64 p.1.1)]) (fun _=>[some (.var [.int .i64 h, .ps 2 (ts.map Tm.aM)])]) (fun p=>ts.length - p.1.1) ⟨(0,1),by simp;omega⟩ ?_ (fun _=>by simp) ?_
 ·simp only [go_sem,bW,br,a_]
 ·rintro ⟨⟨i,n⟩,hi,h1,h2,h4,h3⟩;simp only at hi h1 h2 h3 h4;by_cases bA:(i:Int)<ts.length
  ·have aU:i<ts.length:=by omega
   by_cases hn:n≤m
   ·simp only [go_sem,aj,bA,hn];refine ⟨by omega,?_⟩;simp only [go_sem,aR,mC aU,fL,ae];rw [← cZ,dQ (by omega)];refine aq.bS [] (ih i aU (m - n) (by omega) (by omega)) (cx _ _ _) (by simp [go_sem,dG]) ?_;simp only [bC,bN,bL,if_true];refine aG.go 1000 ?_;simp only [go_sem];have hb:=Da ts[i] (m - n) (by omega);refine ⟨⟨(i+1,n+ts[i].tC (m - n)),aU,by omega,by omega,by simp only;omega,?_⟩,?_,by simp only;omega⟩
    ·simp only
     rw [← h3,ao aU,Tm.oh,if_pos hn]
    ·simp only [go_sem,bW,a_];rw [dQ (by omega),dQ (by omega)];simp
   ·simp only [go_sem,aj,bA,hn];refine aG.go 1000 ?_;simp only [go_sem];rw [Tm.tC,← h3,Ygd _ _ _ hn]
  ·simp only [go_sem,aj,bA];refine aG.go 1000 ?_;simp only [go_sem];have:i=ts.length:=by omega
   subst this;rw [Tm.tC,← h3,aX,Tm.oh]
theorem Yr5 (t:Tm):t.size<2 ^ 62→aD Tryz.prog 154 [t.aM] (.bool t.good):=by
 induction t using Tm.gN with
 | h h ts ih =>
 intro hs;simp only [Tm.size] at hs;have hlen:=oZ ts;refine aD.begin (rs:=[.tmp 2]) (m:=42) 1000 Tryz.func154 rfl rfl rfl (by decide) trivial ?_;have rest:¬ (h<0∧(0:Int)<ts.length)→¬ h < -256→¬ 1023<h→¬ (8:Int)<ts.length→Tm.good (.mk h ts)=Tm.fH ts:=fun h1 h2 h3 h4=>by
  simp only [Tm.good];have e1:(decide (h<0)&&decide (0<ts.length))=false:=by simp only [db,decide_eq_false_iff_not];omega
  have e2:decide (8<ts.length)=false:=by simp only [decide_eq_false_iff_not];omega
  simp [e1,e2,h2,h3]
 have bad:(h<0∧(0:Int)<ts.length)∨h < -256∨1023<h∨(8:Int)<ts.length→Tm.good (.mk h ts)=false:=fun hb=>by
  simp only [Tm.good,db,dB,bR,aB,decide_eq_true_eq];left;omega
 by_cases c1:h<0∧(0:Int)<ts.length
 ·simp only [go_sem,cZ,Tm.head,Tm.args,aj,c1.1,c1.2,bad (.inl c1)]
 by_cases c2:h < -256
 ·have c3:h<0:=by omega
  have c4:¬ (0:Int)<ts.length:=by omega
  simp only [go_sem,cZ,Tm.head,Tm.args,aj,c2,c3,c4,bad (.inr (.inl c2))]
 by_cases c3 : 1023<h
 ·have c4:¬ h<0:=by omega
  simp only [go_sem,cZ,Tm.head,Tm.args,aj,c2,c3,c4,bad (.inr (.inr (.inl c3)))]
 by_cases c4:(8:Int)<ts.length
 ·have c5:¬ h<0:=by omega
  simp only [go_sem,cZ,Tm.head,Tm.args,aj,c2,c3,c4,c5,bad (.inr (.inr (.inr c4)))]
 have hg:=rest c1 c2 c3 c4;rw [hg];have c56:(h<0∧¬ (0:Int)<ts.length)∨¬ h<0:=by omega
 rcases c56 with ⟨c5,c6⟩ | c5
 case' inl=>simp only [go_sem,cZ,Tm.head,Tm.args,aj,c2,c3,c4,c5,c6]
 case' inr=>simp only [go_sem,cZ,Tm.head,Tm.args,aj,c2,c3,c4,c5]
 all_goals
  refine aG.cO (ι:={i:Nat // i≤ts.length∧Tm.fH (ts.take i)=true}) 1000 (fun i=>fe 43 [(1, .ptr 0 0),(3, .int .i64 i.1)]) (fun _=>[some (.var [.int .i64 h, .ps 2 (ts.map Tm.aM)])]) (fun i=>ts.length - i.1) ⟨0,by simp [Tm.fH]⟩ ?_ (fun _=>by simp) ?_
  ·simp only [go_sem,bW,br,a_]
  ·rintro ⟨i,hi,zd⟩;simp only [go_sem,aj];refine ⟨fun bA=>?_,fun rB=>?_⟩
   ·have aU:i<ts.length:=by omega
    refine ⟨by omega,?_⟩;simp only [go_sem,aR,mC aU,fL,ae];rw [← cZ];have fJ:=w7 ts i aU;refine aq.bS [] (ih i aU (by omega)) (cx _ _ _) (by simp [go_sem,dG]) ?_;simp only [bC,bN,bL,if_true];refine aG.go 1000 ?_;have h1:=Yc4 ts i aU;cases r7:ts[i].good with
    | true =>
     simp only [go_sem];refine ⟨⟨i+1,aU,by rw [h1,zd,r7];rfl⟩,?_,by simp only;omega⟩;simp only [go_sem,bW,a_];rw [dQ (by omega)];simp
    | false =>
     simp only [go_sem];refine aG.go 1000 ?_;simp only [go_sem];have h2:=I4 ts i aU;rw [h2,r7];simp
   ·refine aG.go 1000 ?_;simp only [go_sem];have:i=ts.length:=by omega
    subst this;rw [bZ] at zd;rw [zd]
theorem Ypx (t:Tm) (hs:t.size<2 ^ 62):aD Tryz.prog 125 [t.aM] (.int .i64 t.check):=by
 have hd:=Ld t;refine aD.begin (rs:=[.tmp 2]) (m:=11) 1000 Tryz.func125 rfl rfl rfl (by decide) trivial ?_;simp only [go_sem,cZ,ae];rw [← cZ];refine aq.bS [] (NL t hs) (cx _ _ _) (by simp [go_sem,dG]) ?_;simp only [bC,bN,bL,if_true];refine aG.go 1000 ?_;by_cases c1:(400:Int)<t.size
 ·simp only [go_sem,c1,Tm.check];rw [if_pos (by omega)]
 simp only [go_sem,c1,ae];rw [← cZ];refine aq.bS [] (Ylr t hs) (cx _ _ _) (by simp [go_sem,dG]) ?_;simp only [bC,bN,bL,if_true];refine aG.go 1000 ?_;by_cases c2:(40:Int)<t.depth
 ·simp only [go_sem,c2,Tm.check];rw [if_neg (by omega),if_pos (by omega)]
 simp only [go_sem,c2,ae];rw [← cZ];refine aq.bS [] (Yr5 t hs) (cx _ _ _) (by simp [go_sem,dG]) ?_;simp only [bC,bN,bL,if_true];refine aG.go 1000 ?_;cases c3:t.good <;>
 ·simp only [go_sem,Tm.check];rw [if_neg (by omega),if_neg (by omega),c3];rfl
theorem Yrs (t:Tm):t.fit→t.size<1000000000→aD Tryz.prog 86 [t.aM] (.ps 1 (ints t.vars)):=by
 induction t using Tm.gN with
 | h h ts ih =>
 intro hf hs;simp only [Tm.size] at hs;obtain ⟨CI,D1⟩:=hf;have hlen:=oZ ts;refine aD.begin (rs:=[.tmp 2]) (m:=49) 1000 Tryz.func86 rfl rfl rfl (by decide) (by simp only [go_sem,dq]) ?_;simp only [go_sem,cZ,Tm.head,Tm.args];obtain ⟨o0,FP⟩:∃ o0,(if h<0 then [-1 - h] else ([]:List Int))=o0:=⟨_,rfl⟩
 have Ia:Tm.vars (.mk h ts)=Tm.gw ts o0:=by rw [Tm.vars,FP]
 have apJ:o0.length≤1:=by rw [← FP];split<;>simp
 have Ya:∀ i,(Tm.gw (ts.take i) o0).length≤1+Tm.bG (ts.take i):=fun i=>by
  have:=Gs (ts.take i) o0;omega
 have c1:h<0∨¬ h<0:=by omega
 rcases c1 with c1 | c1
 case' inl =>
  rw [if_pos c1] at FP;have hw:IntKind.i64.wrap (-1 - h) = -1 - h:=dQ (by unfold mE at CI;omega);simp only [go_sem,c1,eW,aL,forall_eq,a_,ae,hw];refine aG.gf (ι:={i:Nat // i≤ts.length}) 1000 (fun i=>fe 50 [(1, .ptr 0 0),(3,jk 1 1 (ints (Tm.gw (ts.take i.1) o0))),(4, .int .i64 i.1)]) (fun i=>[some (.var [.int .i64 h, .ps 2 (ts.map Tm.aM)]),fx (ints (Tm.gw (ts.take i.1) o0))]) (fun i=>ts.length - i.1) ⟨0,by omega⟩ [(1,2),(2,1)] ?_ (fun _=>by simp) ?_
 case' inr =>
  rw [if_neg c1] at FP;simp only [go_sem,c1];refine aG.gf (ι:={i:Nat // i≤ts.length}) 1000 (fun i=>fe 50 [(1, .ptr 0 0),(3,jk 1 1 (ints (Tm.gw (ts.take i.1) o0))),(4, .int .i64 i.1)]) (fun i=>[some (.var [.int .i64 h, .ps 2 (ts.map Tm.aM)]),fx (ints (Tm.gw (ts.take i.1) o0))]) (fun i=>ts.length - i.1) ⟨0,by omega⟩ [] ?_ (fun _=>by simp) ?_
 case inl.refine_1 =>
  subst FP;refine iz rfl ?_;simp only [go_sem,Tm.gw,Gn,Af,Gx,Fk,bW,cK,br,cI,eN]
 case inr.refine_1 =>
  subst FP;refine iz rfl ?_;simp only [go_sem,Tm.gw,Gn,Af,s_,sM,bW,cK,br,cI]
 all_goals
  rintro ⟨i,hi⟩;have hbound:=Ya i;generalize Kx:Tm.gw (ts.take i) o0=o at hbound;simp only [go_sem,aj,Kx];refine ⟨fun bA=>?_,fun rB=>?_⟩
  ·have aU:i<ts.length:=by omega
   refine ⟨by omega,?_⟩;simp only [go_sem,aR,mC aU,fL,ae];rw [← cZ];have fJ:=w7 ts i aU;have AB:=Ce ts i aU;have gx:=Ca ts (i+1);have AF:=JB ts[i];refine aq.bS [] (ih i aU (Fm D1 i aU) (by omega)) (cx _ _ _) (by simp [go_sem,dG]) ?_;rw [je];simp only [ite_self];refine aG.go 1000 ?_;generalize hl:ts[i].vars=l at *
   simp only [go_sem];refine aG.gf (ι:={j:Nat // j≤l.length}) 1000 (fun j=>fe 50 [(1, .ptr 0 0),(3,jk 1 1 (ints (dV o (l.take j.1)))),(4, .int .i64 i),(5, .ps 1 (ints l)),(6, .int .i64 j.1)]) (fun j=>[some (.var [.int .i64 h, .ps 2 (ts.map Tm.aM)]),fx (ints (dV o (l.take j.1)))]) (fun j=>l.length - j.1) ⟨0,by omega⟩ [] ?_ (fun _=>by simp) ?_
   ·refine iz rfl ?_;have e0:dV o []=o:=rfl;cases o with
    | nil=>simp only [go_sem,e0,Af,s_,sM,bW,dq,cK,br,cI]
    | cons x o'=>simp only [go_sem,e0,Gn,Gx,Fk,bW,dq,cK,br,cI,eN]
   ·rintro ⟨j,hj⟩;have apM:=LC (l.take j) o;have yy:(l.take j).length≤l.length:=by rw [cA];omega
    generalize hq:dV o (l.take j)=q at *
    simp only [go_sem,iZ];refine ⟨fun yx=>?_,fun hjg=>?_⟩
    ·have D8:j<l.length:=by omega
     have fP:=Zvs o l j D8;rw [hq] at fP;simp only [go_sem,aR,s0 D8,hq];refine ⟨by omega,?_⟩;have fD:=Zz l[j] q (by omega);refine aq.bS [1] fD ?_ (by simp only [go_sem,dq]) ?_
     ·simp only [go_sem,rr,rv,rO]
     simp only [bC,bN,bL,if_true];refine aG.go 1000 ?_;unfold kU at fP;by_cases hm:l[j]∈q
     ·rw [if_pos hm] at fP;simp only [go_sem,hm];refine ⟨⟨j+1,by omega⟩,[],iz rfl ?_,by simp only;omega⟩;simp only [fP];rw [dQ (by omega)];have l1:=Bh (b:=1) (n:=2) (by omega) 1 (ints q);have l2:=Ag (n:=2) (ints q) (dq q);cases q with
      | nil=>simp only [go_sem,s_,sM,Af,bW,dq,cK,cI,eR,eS]
      | cons x q'=>simp only [go_sem,Gx,Fk,Gn,bW,dq,cK,cI,eN,eR,eS]
     ·rw [if_neg hm] at fP;simp only [go_sem,hm,iZ,aR,s0 D8,vX,eW,aL,forall_eq,a_,ae];refine ⟨by omega,by omega,?_⟩;refine ⟨⟨j+1,by omega⟩,[(1,3),(3,1)],iz rfl ?_,by simp only;omega⟩;simp only [fP];rw [dQ (by omega)];simp only [go_sem,Cp,Fq,Fg,iZ,bW,dq,cK,cI,eN,eR,eS];rw [LY,cK (dq _)];exact ⟨rfl,dq _⟩
    ·have:j=l.length:=by omega
     subst this;rw [bZ] at hq;have sn:=TU ts i aU o0;rw [Kx,hl,hq] at sn;refine aG.go 1000 ?_;simp only [go_sem];refine ⟨⟨i+1,by omega⟩,[],iz rfl ?_,by simp only;omega⟩;simp only [sn];rw [dQ (by omega)];cases q with
     | nil=>simp only [go_sem,s_,sM,Af,bW,dq,cK,cI,eR,eS]
     | cons x q'=>simp only [go_sem,Gx,Fk,Gn,bW,dq,cK,cI,eN,eR,eS]
  ·refine aG.go 1000 ?_;have:i=ts.length:=by omega
   subst this;rw [bZ] at Kx;simp only [go_sem,Ia,Kx,rO]
end Go.Proofs
namespace Go.Proofs
open Go Go.dm
structure Sy where
 name:ByteArray
 arity:Int
 weight:Int
 cd:Bool
def Sy.aM (s:Sy):ah:=.agg [.str s.name, .int .i64 s.arity, .int .i64 s.weight, .bool s.cd]
theorem pU (s:Sy):s.aM.cells=[.str s.name, .int .i64 s.arity, .int .i64 s.weight, .bool s.cd]:=rfl
theorem ZI (s:Sy):s.aM = .agg [.str s.name, .int .i64 s.arity, .int .i64 s.weight, .bool s.cd]:=rfl
def syms (g:List Sy):List ah:=g.map Sy.aM
theorem ld (g:List Sy):(syms g).length=g.length:=by simp [syms]
theorem dy {n:Nat} (g:List Sy):bF n (syms g):=uU fun _ _=>⟨trivial,trivial,trivial,trivial,trivial⟩
theorem qS {g:List Sy} {i:Nat} (h:i<g.length):(syms g).getD i .undef=g[i].aM:=mC h
structure Li where
 neg:Bool
 l:Tm
 r:Tm
def Li.cs (c:Li):List ah:=[.bool c.neg, .int .i64 c.l.head, .ps 2 (c.l.args.map Tm.aM), .int .i64 c.r.head, .ps 2 (c.r.args.map Tm.aM)]
def Li.aM (c:Li):ah:=.agg c.cs
theorem kH (c:Li):c.aM.cells=[.bool c.neg, .int .i64 c.l.head, .ps 2 (c.l.args.map Tm.aM), .int .i64 c.r.head, .ps 2 (c.r.args.map Tm.aM)]:=rfl
def lits (c:List Li):List ah:=c.map Li.aM
theorem fR (c:List Li):(lits c).length=c.length:=by simp [lits]
theorem nt {n:Nat} (c:Li):c.aM.low n:=⟨trivial,trivial,bW _,trivial,bW _,trivial⟩
theorem cy {n:Nat} (c:List Li):bF n (lits c):=uU fun x _=>nt x
theorem tz {c:List Li} {i:Nat} (h:i<c.length):(lits c).getD i .undef=c[i].aM:=mC h
structure Wo where
 size:Int
 rows:List (List Int)
def jh (l:List (List Int)):List ah:=l.map fun r=>.ps 1 (ints r)
def Wo.aM (w:Wo):ah:=.agg [.int .i64 w.size, .ps 1 (jh w.rows)]
theorem ta (w:Wo):w.aM = .agg [.int .i64 w.size, .ps 1 (jh w.rows)]:=rfl
theorem vU (l:List (List Int)):(jh l).length=l.length:=by simp [jh]
theorem rN {n:Nat} (l:List (List Int)):bF n (jh l):=uU fun _ _=>dq _
theorem Jq {l:List (List Int)} {i:Nat} (h:i<l.length):(jh l).getD i .undef = .ps 1 (ints l[i]):=mC h
theorem xb {n:Nat} (w:Wo):w.aM.low n:=⟨trivial,rN _,trivial⟩
def ck (c:List Li):List Tm:=c.flatMap fun l=>[l.l,l.r]
theorem LL (c:List Li) (i:Nat) (h:i<c.length):ck (c.take (i+1))=ck (c.take i)++[c[i].l,c[i].r]:=by
 simp only [ck,c9,av h,gK,List.flatMap_append,List.flatMap_cons,lY,bu]
theorem E5 (c:List Li):(ck c).length=2*c.length:=by
 induction c with
 | nil=>rfl
 | cons a c ih=>simp [ck] at ih ⊢;omega
def lV (g:List Sy):Bool:=decide (g.length≤300)&&g.all fun s=>decide (s.name.size≤100)
def nX:List (List Int)→Int→Int
 | [],n=>n
 | r :: rs,n=>if n≤3000 then nX rs (IntKind.i64.wrap (n+r.length)) else n
def Wo.few (w:Wo):Bool:=decide (w.rows.length≤300)&&decide (nX w.rows 0≤3000)
def pb:List Tm→Int→Int
 | [],n=>n
 | t :: ts,n=>if n≤500 then pb ts (n+t.tC 500) else n
def jj (c:List Li):Bool:=decide (c.length≤40)&&decide (pb (ck c) 0≤500)
theorem Ua:∀ (ts:List Tm) (n:Int),0≤n→n≤1001→0≤pb ts n∧(pb ts n≤500→pb ts n=n+Tm.bG ts)
 | [],n,h,_=>⟨by simp [pb,h],fun _=>by simp [pb,Tm.bG]⟩
 | t :: ts,n,h,h2=>by
  simp only [pb];split
  ·rename_i hn;have hb:=Da t 500 (by omega);obtain ⟨h3,h4⟩:=Ua ts (n+t.tC 500) (by omega) (by omega);refine ⟨h3,fun h5=>?_⟩;have h6:=h4 h5;have h7:=Me t 500 (by omega) (by omega);simp only [Tm.bG];omega
  ·rename_i hn;exact ⟨h,fun h5=>absurd h5 hn⟩
theorem Zvf (rs:List (List Int)) (n:Int) (h:¬ n≤3000):nX rs n=n:=by cases rs<;>simp [nX,h]
theorem EU:∀ a b:List Tm,Tm.bG (a++b)=Tm.bG a+Tm.bG b
 | [],b=>by simp [Tm.bG]
 | t :: a,b=>by simp only [bp,Tm.bG,EU a b];omega
def jL (size:Int) (most:Int):Nat→Int→Int
 | 0,n=>n
 | k+1,n=>if n≤most then jL size most k (IntKind.i64.wrap (n*size)) else n
theorem Uo {size most:Int} (k:Nat) (n:Int) (h:¬ n≤most):jL size most k n=n:=by cases k<;>simp [jL,h]
def dg (c:List Li):List Int:=Tm.gw (ck c) []
def en (w:Wo) (c:List Li) (most:Int):Int:=min (jL w.size most (dg c).length 1) (most+1)
end Go.Proofs
namespace Go.Proofs
open Go Go.dm
attribute [local go_sem] Nat.reduceAdd Nat.reduceSub Nat.reduceMul Nat.reduceLeDiff Nat.reduceEqDiff Nat.reduceBEq
theorem Ybb (g:List Sy):aD Tryz.prog 24 [.ps 4 (syms g)] (.bool (lV g)):=by
 refine aD.begin (rs:=[.tmp 2]) (m:=24) 1000 Tryz.func24 rfl rfl rfl (by decide) trivial ?_;simp only [go_sem];by_cases hg:(g.length:Int)≤300
 ·refine aG.cO (ι:={i:Nat // i≤g.length∧(g.take i).all (fun s=>decide (s.name.size≤100))=true}) 1000 (fun i=>fe 25 [(0, .ps 4 (syms g)),(3, .int .i64 i.1)]) (fun _=>[]) (fun i=>g.length - i.1) ⟨0,by simp⟩ ?_ (fun _=>au _) ?_
  ·simp only [go_sem,dy,br]
  ·rintro ⟨i,hi,aN⟩;by_cases bA:(i:Int)<g.length
   ·have aU:i<g.length:=by omega
    simp only [go_sem,ld,bA,hg,aR,qS aU,pU];refine ⟨by omega,fun pG=>?_,fun jA=>?_⟩
    ·refine aG.go 1000 ?_;simp only [go_sem];have h1:g.all (fun s=>decide (s.name.size≤100))=false:=by
      rw [oG];exact ⟨g[i],aC aU,by simp;omega⟩
     simp [lV,h1]
    ·refine ⟨⟨i+1,aU,?_⟩,?_,by simp only;omega⟩
     ·rw [c9,qx,aN,av aU];simp;omega
     ·simp only [go_sem,dy];rw [dQ (by omega)];rfl
   ·simp only [go_sem,ld,bA];refine aG.go 1000 ?_;simp only [go_sem,ld];have:i=g.length:=by omega
    subst this;rw [bZ] at aN;simp only [lV,aN,oU];congr 1;simp;omega
 ·refine aG.cO (ι:=Unit) 1000 (fun _=>fe 25 [(0, .ps 4 (syms g)),(3, .int .i64 0)]) (fun _=>[]) (fun _=>0) () ?_ (fun _=>au _) ?_
  ·simp only [go_sem,dy]
  ·rintro ⟨⟩;have bA:(0:Int)<g.length:=by omega
   simp only [go_sem,ld,bA,hg];refine aG.go 1000 ?_;simp only [go_sem,ld,hg];have:¬ g.length≤300:=by omega
   simp [lV,this]
theorem Yeg (ts:List Tm) (hl:ts.length<2 ^ 62):aD Tryz.prog 93 [.ps 2 (ts.map Tm.aM)] (.bool (decide (pb ts 0≤500))):=by
 refine aD.begin (rs:=[.tmp 2]) (m:=23) 1000 Tryz.func93 rfl rfl rfl (by decide) trivial ?_;simp only [go_sem];refine aG.cO (ι:={p:Nat×Int // p.1≤ts.length∧0≤p.2∧p.2≤1001∧pb (ts.drop p.1) p.2=pb ts 0}) 1000 (fun p=>fe 24 [(0, .ps 2 (ts.map Tm.aM)),(3, .int .i64 p.1.2),(4, .int .i64 p.1.1)]) (fun _=>[]) (fun p=>ts.length - p.1.1) ⟨(0,0),by simp⟩ ?_ (fun _=>au _) ?_
 ·simp only [go_sem,bW,br]
 ·rintro ⟨⟨i,n⟩,hi,h1,h2,h3⟩;simp only at hi h1 h2 h3;by_cases bA:(i:Int)<ts.length
  ·have aU:i<ts.length:=by omega
   by_cases hn:n≤500
   ·simp only [go_sem,aj,bA,hn,aR,mC aU,fL,ae];refine ⟨by omega,?_⟩;rw [← cZ];refine aq.bS [] (Xa ts[i] 500 (by omega) (by omega)) (cx _ _ _) (by simp [go_sem,dG]) ?_;simp only [bC,bN,bL,if_true];refine aG.go 1000 ?_;simp only [go_sem];have hb:=Da ts[i] 500 (by omega);refine ⟨⟨(i+1,n+ts[i].tC 500),aU,by simp only;omega,by simp only;omega,?_⟩,?_,by simp only;omega⟩
    ·simp only
     rw [← h3,ao aU,pb,if_pos hn]
    ·simp only [go_sem,bW];rw [dQ (by omega),dQ (by omega)];simp
   ·simp only [go_sem,aj,bA,hn];refine aG.go 1000 ?_;simp only [go_sem,hn];have:pb (ts.drop i) n=n:=by cases ts.drop i<;>simp [pb,hn]
    simp [← h3,this,hn]
  ·simp only [go_sem,aj,bA];refine aG.go 1000 ?_;simp only [go_sem];have:i=ts.length:=by omega
   subst this;rw [← h3,aX,pb]
theorem Um (c:List Li) (hc:c.length≤2600000000000):aD Tryz.prog 57 [.ps 5 (lits c)] (.ps 2 ((ck c).map Tm.aM)):=by
 refine aD.begin (rs:=[.tmp 2]) (m:=24) 1000 Tryz.func57 rfl rfl rfl (by decide) (bW _) ?_;simp only [go_sem];refine aG.gf (ι:={i:Nat // i≤c.length}) 1000 (fun i=>fe 25 [(0, .ps 5 (lits c)),(3,jk 0 2 ((ck (c.take i.1)).map Tm.aM)),(4, .int .i64 i.1)]) (fun i=>[fx ((ck (c.take i.1)).map Tm.aM)]) (fun i=>c.length - i.1) ⟨0,by omega⟩ [] ?_ (fun _=>by simp) ?_
 ·refine iz rfl ?_;simp only [go_sem,ck,lY,s_,sM,cy,cK,br]
 ·rintro ⟨i,hi⟩;have Pb:=E5 (c.take i);have pg:(c.take i).length≤c.length:=by rw [cA];omega
  have fP:=fun h=>LL c i h;generalize hq:ck (c.take i)=q at *
  simp only [go_sem,fR,hq];refine ⟨fun bA=>?_,fun rB=>?_⟩
  ·have aU:i<c.length:=by omega
   refine aG.draw [⟨none,[],[1]⟩, .no, .no, .no, .no, .no, .no, .no, .no, .no, .no,⟨some 1,[1],[]⟩,⟨some 2,[0,2],[]⟩] 1 3 mixed rfl rfl (by decide) ?_;simp only [go_sem,da,fR,aR,tz aU,kH,ae,JN,eW,aQ,dW,forall_eq_or_imp,forall_eq,cI,aj];refine ⟨by omega,by omega,by omega,?_⟩;refine aG.go 1000 ?_;simp only [go_sem];refine ⟨⟨i+1,aU⟩,[(0,2),(2,0)],iz rfl ?_,by simp only;omega⟩;simp only [fP aU];rw [dQ (by omega)];have e1:(q++[c[i].l,c[i].r]).map Tm.aM=q.map Tm.aM++[.agg [.int .i64 c[i].l.head, .ps 2 (c[i].l.args.map Tm.aM)], .agg [.int .i64 c[i].r.head, .ps 2 (c[i].r.args.map Tm.aM)]]:=by
    rw [cY,aK,aK,aV,cZ c[i].l,cZ c[i].r]
   have lw:bF 0 ((q++[c[i].l,c[i].r]).map Tm.aM):=bW _;rw [e1] at lw ⊢;rw [wo (by simp),wm (by simp)];simp only [go_sem,cy,cK,cK lw,aj,iO (au 1) lw,eR,eS,a_]
  ·refine aG.go 1000 ?_;have:i=c.length:=by omega
   subst this;rw [bZ] at hq;simp only [go_sem,hq,rO]
theorem Uv (c:List Li) (hc:c.length<1000000):aD Tryz.prog 51 [.ps 5 (lits c)] (.ps 2 ((ck c).map Tm.aM)):=by
 refine aD.begin (rs:=[.tmp 2]) (m:=24) 1000 Tryz.func51 rfl rfl rfl (by decide) (bW _) ?_;simp only [go_sem];refine aG.gf (ι:={i:Nat // i≤c.length}) 1000 (fun i=>fe 25 [(0, .ps 5 (lits c)),(3,jk 0 2 ((ck (c.take i.1)).map Tm.aM)),(4, .int .i64 i.1)]) (fun i=>[fx ((ck (c.take i.1)).map Tm.aM)]) (fun i=>c.length - i.1) ⟨0,by omega⟩ [] ?_ (fun _=>by simp) ?_
 ·refine iz rfl ?_;simp only [go_sem,ck,lY,s_,sM,cy,cK,br]
 ·rintro ⟨i,hi⟩;have Pb:=E5 (c.take i);have pg:(c.take i).length≤c.length:=by rw [cA];omega
  have fP:=fun h=>LL c i h;generalize hq:ck (c.take i)=q at *
  simp only [go_sem,fR,hq];refine ⟨fun bA=>?_,fun rB=>?_⟩
  ·have aU:i<c.length:=by omega
   refine aG.draw [⟨none,[],[1]⟩, .no, .no, .no, .no, .no, .no, .no, .no, .no, .no,⟨some 1,[1],[]⟩,⟨some 2,[0,2],[]⟩] 1 3 mixed rfl rfl (by decide) ?_;simp only [go_sem,da,fR,aR,tz aU,kH,ae,JN,eW,aQ,dW,forall_eq_or_imp,forall_eq,cI,aj];refine ⟨by omega,by omega,by omega,?_⟩;refine aG.go 1000 ?_;simp only [go_sem];refine ⟨⟨i+1,aU⟩,[(0,2),(2,0)],iz rfl ?_,by simp only;omega⟩;simp only [fP aU];rw [dQ (by omega)];have e1:(q++[c[i].l,c[i].r]).map Tm.aM=q.map Tm.aM++[.agg [.int .i64 c[i].l.head, .ps 2 (c[i].l.args.map Tm.aM)], .agg [.int .i64 c[i].r.head, .ps 2 (c[i].r.args.map Tm.aM)]]:=by
    rw [cY,aK,aK,aV,cZ c[i].l,cZ c[i].r]
   have lw:bF 0 ((q++[c[i].l,c[i].r]).map Tm.aM):=bW _;rw [e1] at lw ⊢;rw [wo (by simp),wm (by simp)];simp only [go_sem,cy,cK,cK lw,aj,iO (au 1) lw,eR,eS,a_]
  ·refine aG.go 1000 ?_;have:i=c.length:=by omega
   subst this;rw [bZ] at hq;simp only [go_sem,hq,rO]
theorem Uf (c:List Li):aD Tryz.prog 56 [.ps 5 (lits c)] (.bool (jj c)):=by
 refine aD.begin (rs:=[.tmp 2]) (m:=10) 1000 Tryz.func56 rfl rfl rfl (by decide) trivial ?_;by_cases h:(c.length:Int)≤40
 ·simp only [go_sem,fR,h];refine aq.bS [] (Um c (by omega)) (cx _ _ _) (by simp [go_sem,cy]) ?_;rw [je];simp only [ite_self];refine aG.go 1000 ?_;simp only [go_sem];have hl:=E5 c;refine aq.bS [] (Yeg (ck c) (by omega)) (cx _ _ _) (by simp [go_sem,bW]) ?_;simp only [bC,bN,bL,if_true];refine aG.go 1000 ?_;have:c.length≤40:=by omega
  simp only [go_sem,jj,this]
 ·simp only [go_sem,fR,h];have:¬ c.length≤40:=by omega
  simp [jj,this]
theorem VH (ts:List Tm) (hf:Tm.fits ts) (hs:Tm.bG ts<999999999):aD Tryz.prog 50 [.ps 2 (ts.map Tm.aM)] (.ps 1 (ints (Tm.gw ts []))):=by
 refine aD.begin (rs:=[.tmp 2]) (m:=7) 1000 Tryz.func50 rfl rfl rfl (by decide) (dq _) ?_;simp only [go_sem,ae];rw [FC];refine aq.bS [] (Yrs (Tm.mk 0 ts) ⟨by unfold mE;omega,hf⟩ (by simp only [Tm.size];omega)) (cx _ _ _) (by simp [go_sem,dG]) ?_;rw [je];simp only [ite_self];refine aG.go 1000 ?_;simp only [go_sem,Tm.vars,km]
theorem Zx5 (w:Wo):aD Tryz.prog 14 [w.aM] (.bool w.few):=by
 refine aD.begin (rs:=[.tmp 2]) (m:=37) 1000 Tryz.func14 rfl rfl rfl (by decide) trivial ?_;simp only [go_sem,ta];by_cases hr:(w.rows.length:Int)≤300
 ·have pV:w.rows.length≤300:=by omega
  refine aG.cO (ι:={p:Nat×Int // p.1≤w.rows.length∧nX (w.rows.drop p.1) p.2=nX w.rows 0}) 1000 (fun p=>fe 38 [(1, .ptr 0 0),(3, .int .i64 p.1.2),(4, .int .i64 p.1.1)]) (fun _=>[some (.var [.int .i64 w.size, .ps 1 (jh w.rows)])]) (fun p=>w.rows.length - p.1.1) ⟨(0,0),by simp⟩ ?_ (fun _=>by simp) ?_
  ·simp only [go_sem,rN,br,a_]
  ·rintro ⟨⟨i,n⟩,hi,h3⟩;simp only at hi h3;by_cases bA:(i:Int)<w.rows.length
   ·have aU:i<w.rows.length:=by omega
    by_cases hn:n≤3000
    ·simp only [go_sem,vU,bA,hr,hn,aR,Jq aU,iZ];refine ⟨by omega,⟨(i+1,IntKind.i64.wrap (n+w.rows[i].length)),aU,?_⟩,?_,by simp only;omega⟩
     ·simp only
      rw [← h3,ao aU,nX,if_pos hn]
     ·simp only [go_sem,rN,a_];rw [dQ (by omega)];rfl
    ·simp only [go_sem,vU,bA,hr,hn];refine aG.go 1000 ?_;simp only [go_sem,vU,hr,hn];rw [Zvf _ _ hn] at h3;simp [Wo.few,← h3,hn]
   ·simp only [go_sem,vU,bA];refine aG.go 1000 ?_;have:i=w.rows.length:=by omega
    subst this;rw [aX,nX] at h3;by_cases hn:n≤3000 <;>
    ·simp only [go_sem,vU,hr,hn];simp [Wo.few,← h3,hn,pV]
 ·refine aG.cO (ι:=Unit) 1000 (fun _=>fe 38 [(1, .ptr 0 0),(3, .int .i64 0),(4, .int .i64 0)]) (fun _=>[some (.var [.int .i64 w.size, .ps 1 (jh w.rows)])]) (fun _=>0) () ?_ (fun _=>by simp) ?_
  ·simp only [go_sem,rN,a_]
  ·rintro ⟨⟩;have bA:(0:Int)<w.rows.length:=by omega
   have pV:¬ w.rows.length≤300:=by omega
   simp only [go_sem,vU,bA,hr];refine aG.go 1000 ?_;simp only [go_sem,vU,hr];simp [Wo.few,pV]
theorem Zrk (w:Wo) (c:List Li) (most:Int) (hm : 0≤most∧most<2 ^ 62) (hc:c.length<1000000) (hf:Tm.fits (ck c)) (hs:Tm.bG (ck c)<999999999) :
  aD Tryz.prog 17 [w.aM, .ps 5 (lits c), .int .i64 most] (.int .i64 (en w c most)):=by
 refine aD.begin (rs:=[.tmp 6]) (m:=29) 1000 Tryz.func17 rfl rfl rfl (by decide) trivial ?_;simp only [go_sem,ta];refine aq.bS [] (Uv c hc) (cx _ _ _) (by simp [go_sem,cy]) ?_;rw [je];simp only [ite_self];refine aG.go 1000 ?_;simp only [go_sem];refine aq.bS [] (VH (ck c) hf hs) (cx _ _ _) (by simp [go_sem,bW]) ?_;rw [je];simp only [ite_self];refine aG.go 1000 ?_;have AF:=Gs (ck c) [];have DW:en w c most=min (jL w.size most (Tm.gw (ck c) []).length 1) (most+1):=rfl;rw [DW];generalize Tm.gw (ck c) []=vs at *
 simp only [go_sem];refine aG.cO (ι:={p:Nat×Int // p.1≤vs.length∧jL w.size most (vs.length - p.1) p.2=jL w.size most vs.length 1}) 1000 (fun p=>fe 32 [(2, .int .i64 most),(3, .ptr 0 0),(7, .int .i64 p.1.2),(8, .ps 1 (ints vs)),(9, .int .i64 p.1.1)]) (fun _=>[some (.var [.int .i64 w.size, .ps 1 (jh w.rows)])]) (fun p=>vs.length - p.1.1) ⟨(0,1),by simp⟩ ?_ (fun _=>by simp) ?_
 ·simp only [go_sem,rN,dq,br,a_]
 ·rintro ⟨⟨i,n⟩,hi,h3⟩;simp only at hi h3;have fin:∀ n':Int,n'=jL w.size most vs.length 1→F3 (.int .i64 (min (jL w.size most vs.length 1) (most+1))) (.int .i64 (if IntKind.i64.wrap (most+1)<n' then IntKind.i64.wrap (most+1) else n')) [some (.var [.int .i64 w.size, .ps 1 (jh w.rows)])]:=by
   rintro n' rfl;rw [dQ (by omega)];simp only [go_sem];congr 1;split<;>omega
  by_cases bA:(i:Int)<vs.length
  ·by_cases hn:n≤most
   ·simp only [go_sem,iZ,bA,hn];refine ⟨⟨(i+1,IntKind.i64.wrap (n*w.size)),by simp only;omega,?_⟩,?_,by simp only;omega⟩
    ·simp only
     rw [← h3,show vs.length - i=(vs.length - (i+1))+1 by omega,jL,if_pos hn]
    ·simp only [go_sem,rN,dq,a_];rw [dQ (by simp only [aS] at AF;omega)];simp
   ·simp only [go_sem,iZ,bA,hn];refine aG.go 1000 ?_;rw [Uo _ _ hn] at h3;have:=fin n h3;simp only [go_sem];simpa [go_sem] using this
  ·simp only [go_sem,iZ,bA];refine aG.go 1000 ?_;have:vs.length - i=0:=by omega
   rw [this,jL] at h3;have:=fin n h3;simp only [go_sem];simpa [go_sem] using this
end Go.Proofs
namespace Go.Proofs
open Go Go.dm
theorem Ck (s:ByteArray):(s.toList==ByteArray.toList { data:=#[] })=decide ((s.size:Int)<1):=by
 by_cases h:(s.size:Int)<1
 ·have e:s = { data:=#[] }:=by
   obtain ⟨d⟩:=s;have:d.size=0:=by have:d.size=(ByteArray.mk d).size:=rfl;omega
   rw [Array.size_eq_zero_iff.1 this]
  rw [decide_eq_true h,e];exact beq_self_eq_true _
 ·rw [decide_eq_false h];cases c:(s.toList==ByteArray.toList { data:=#[] }) with
  | false=>rfl
  | true =>
   rw [QE c] at h;exact absurd (by decide) h
def Sy.right (x:Sy):Bool:=!(decide ((x.name.size:Int)<1)||decide (64<(x.name.size:Int))||decide (x.arity<0)||decide (8<x.arity)||decide (x.weight<1)||decide (1000<x.weight))
def Sy.qY:Sy:=⟨⟨#[]⟩,0,0,false⟩
def sI:ByteArray:=⟨#[36,116,114,117,101]⟩
def fresh (g:List Sy) (i:Nat):Bool:=(g.take i).all fun s=>!(s.name.toList==(g.getD i Sy.qY).name.toList)
def jY (g:List Sy) (i:Nat):Bool:=(g.getD i Sy.qY).right&&fresh g i
def isTrue (x:Sy):Bool:=x.name.toList==sI.toList&&(x.arity==0&&(x.weight==1&&x.cd))
def eg (g:List Sy):Bool:=!(decide ((g.length:Int)<1)||decide (256<(g.length:Int)))&&(List.range g.length).all (jY g)&&isTrue (g.getD 0 Sy.qY)
theorem yq {g:List Sy} {i:Nat} (h:i<g.length):g.getD i Sy.qY=g[i]:=by simp [List.getD,h]
theorem La (p:Nat→Bool) (n:Nat):(List.range (n+1)).all p=((List.range n).all p&&p n):=by
 rw [List.range_succ,qx];simp
theorem Lh {p:Nat→Bool} {n i:Nat} (hi:i<n) (h:p i=false):(List.range n).all p=false:=by
 rw [oG];exact ⟨i,by simpa using hi,by simp [h]⟩
theorem yp {x:Sy} (h:(x.name.size:Int)<1∨64<(x.name.size:Int)∨x.arity<0∨8<x.arity∨x.weight<1∨1000<x.weight):x.right=false:=by
 simp only [Sy.right,dB,bR,decide_eq_true_eq];omega
theorem WO {x:Sy} (h:¬ (x.name.size:Int)<1∧¬ 64<(x.name.size:Int)∧¬ x.arity<0∧¬ 8<x.arity∧¬ x.weight<1∧¬ 1000<x.weight):x.right=true:=by
 simp only [Sy.right,bw,bK,decide_eq_false_iff_not];omega
theorem Vu {x:Sy} (h:x.right=true):¬ (x.name.size:Int)<1∧¬ 64<(x.name.size:Int)∧¬ x.arity<0∧¬ 8<x.arity∧¬ x.weight<1∧¬ 1000<x.weight:=by
 simp only [Sy.right,bw,bK,decide_eq_false_iff_not] at h;omega
def iV (g:List Sy) (h:Int):Sy:=g.getD h.toNat Sy.qY
mutual
def Tm.known (g:List Sy):Tm→Bool
 | .mk h ts=>decide (h<0)||(!(decide ((g.length:Int)≤h))&&decide ((ts.length:Int)=(iV g h).arity)&&Tm.d_ g ts)
def Tm.d_ (g:List Sy):List Tm→Bool
 | []=>true
 | t :: ts=>t.known g&&Tm.d_ g ts
end
def Tm.cd (g:List Sy) (t:Tm):Bool:=decide (0≤t.head)&&decide (t.head<(g.length:Int))&&(iV g t.head).cd
mutual
def Tm.fE (g:List Sy):Tm→Bool
 | .mk _ ts=>Tm.eh g ts
def Tm.eh (g:List Sy):List Tm→Bool
 | []=>true
 | t :: ts=>(!t.cd g&&t.fE g)&&Tm.eh g ts
end
def Tm.term (g:List Sy) (t:Tm):Int:=if eg g=false then 1 else if t.check≠0 then t.check else if t.known g=false then 1 else if t.fE g=false then 10 else 0
theorem Lv (g:List Sy):∀ (ts:List Tm) (i:Nat) (hi:i<ts.length),Tm.d_ g ts=(Tm.d_ g (ts.take i)&&(ts[i].known g&&Tm.d_ g (ts.drop (i+1))))
 | t :: ts,0,_=>by simp [Tm.d_]
 | t :: ts,i+1,hi=>by
  simp only [df,Tm.d_,dj,mW];rw [Lv g ts i (by simpa using hi)];simp [nz]
theorem Zwy (g:List Sy) (ts:List Tm) (i:Nat) (hi:i<ts.length):Tm.d_ g (ts.take (i+1))=(Tm.d_ g (ts.take i)&&ts[i].known g):=by
 have h:=Lv g (ts.take (i+1)) i (by simp;omega);rw [h,jG,qC (by omega),List.getElem_take,dP (by rw [cA];omega)];simp [Tm.d_]
theorem Lj (g:List Sy):∀ (ts:List Tm) (i:Nat) (hi:i<ts.length),Tm.eh g ts=(Tm.eh g (ts.take i)&&((!ts[i].cd g&&ts[i].fE g)&&Tm.eh g (ts.drop (i+1))))
 | t :: ts,0,_=>by simp [Tm.eh]
 | t :: ts,i+1,hi=>by
  simp only [df,Tm.eh,dj,mW];rw [Lj g ts i (by simpa using hi)];simp [nz]
theorem Ztf (g:List Sy) (ts:List Tm) (i:Nat) (hi:i<ts.length):Tm.eh g (ts.take (i+1))=(Tm.eh g (ts.take i)&&(!ts[i].cd g&&ts[i].fE g)):=by
 have h:=Lj g (ts.take (i+1)) i (by simp;omega);rw [h,jG,qC (by omega),List.getElem_take,dP (by rw [cA];omega)];simp [Tm.eh]
def Li.check (g:List Sy) (l:Li):Int:=if l.l.term g≠0 then l.l.term g else if l.r.term g≠0 then l.r.term g else
 if (l.l.cd g&&decide (l.r.head≠0))||(!l.l.cd g&&l.r.cd g) then 10 else 0
def dh (g:List Sy):List Li→Int
 | []=>0
 | l :: c=>if l.check g≠0 then l.check g else dh g c
def aZ (g:List Sy) (c:List Li):Int:=if eg g=false then 1 else if 32<(c.length:Int) then 2 else dh g c
theorem SH (g:List Sy) (c:List Li) (i:Nat) (h:i<c.length):dh g (c.drop i)=if c[i].check g≠0 then c[i].check g else dh g (c.drop (i+1)):=by
 rw [ao h,dh]
def qt (size:Int):Nat→Int→Int
 | 0,n=>n
 | k+1,n=>qt size k (IntKind.i64.wrap (n*size))
end Go.Proofs
namespace Go.Proofs
open Go Go.dm
attribute [local go_sem] Nat.reduceAdd Nat.reduceSub Nat.reduceMul Nat.reduceLeDiff Nat.reduceEqDiff Nat.reduceBEq
theorem Na (g:List Sy):aD Tryz.prog 47 [.ps 4 (syms g)] (.bool (eg g)):=by
 refine aD.begin (rs:=[.tmp 2]) (m:=71) 1000 Tryz.func47 rfl rfl rfl (by decide) trivial ?_;by_cases c1:(g.length:Int)<1
 ·simp only [go_sem,ld,c1,eg]
 by_cases c2 : 256<(g.length:Int)
 ·simp only [go_sem,ld,c1,c2,eg]
 simp only [go_sem,ld,c1,c2];have bad:∀ i,i<g.length→jY g i=false→eg g=false:=fun i hi hb=>by
  have:=Lh (p:=jY g) hi hb;simp [eg,this]
 refine aG.gf (ι:={i:Nat // i≤g.length∧(List.range i).all (jY g)=true}) 1000 (fun i=>fe 72 [(0, .ps 4 (syms g)),(3, .int .i64 i.1)]) (fun _=>[]) (fun i=>g.length - i.1) ⟨0,by simp⟩ [] ?_ (fun _=>au _) ?_
 ·refine iz rfl ?_;simp only [go_sem,dy,cK,br]
 ·rintro ⟨i,hi,aN⟩;by_cases bA:(i:Int)<g.length
  ·have aU:i<g.length:=by omega
   have tG:=yq aU;generalize hx:g[i]=x at tG;by_cases d1:(x.name.size:Int)<1
   ·have hb:jY g i=false:=by simp only [jY,tG,yp (.inl d1),cE]
    simp only [go_sem,ld,bA,aR,qS aU,hx,pU,ae,d1];refine ⟨by omega,?_⟩;refine aG.go 1000 ?_;simp only [go_sem,bad i aU hb]
   by_cases d2 : 64<(x.name.size:Int)
   ·have hb:jY g i=false:=by simp only [jY,tG,yp (.inr (.inl d2)),cE]
    simp only [go_sem,ld,bA,aR,qS aU,hx,pU,ae,d1,d2];refine ⟨by omega,?_⟩;refine aG.go 1000 ?_;simp only [go_sem,bad i aU hb]
   by_cases d3:x.arity<0
   ·have hb:jY g i=false:=by simp only [jY,tG,yp (.inr (.inr (.inl d3))),cE]
    simp only [go_sem,ld,bA,aR,qS aU,hx,pU,ae,d1,d2,d3];refine ⟨by omega,?_⟩;refine aG.go 1000 ?_;simp only [go_sem,bad i aU hb]
   by_cases d4 : 8<x.arity
   ·have hb:jY g i=false:=by simp only [jY,tG,yp (.inr (.inr (.inr (.inl d4)))),cE]
    simp only [go_sem,ld,bA,aR,qS aU,hx,pU,ae,d1,d2,d3,d4];refine ⟨by omega,?_⟩;refine aG.go 1000 ?_;simp only [go_sem,bad i aU hb]
   by_cases d5:x.weight<1
   ·have hb:jY g i=false:=by simp only [jY,tG,yp (.inr (.inr (.inr (.inr (.inl d5))))),cE]
    simp only [go_sem,ld,bA,aR,qS aU,hx,pU,ae,d1,d2,d3,d4,d5];refine ⟨by omega,?_⟩;refine aG.go 1000 ?_;simp only [go_sem,bad i aU hb]
   by_cases d6 : 1000<x.weight
   ·have hb:jY g i=false:=by simp only [jY,tG,yp (.inr (.inr (.inr (.inr (.inr (d6)))))),cE]
    simp only [go_sem,ld,bA,aR,qS aU,hx,pU,ae,d1,d2,d3,d4,d5,d6];refine ⟨by omega,?_⟩;refine aG.go 1000 ?_;simp only [go_sem,bad i aU hb]
   have zA:=WO ⟨d1,d2,d3,d4,d5,d6⟩;simp only [go_sem,ld,bA,aR,qS aU,hx,pU,ae,d1,d2,d3,d4,d5,d6];refine ⟨by omega,?_⟩;refine aG.gf (ι:={j:Nat // j≤i∧(g.take j).all (fun s=>!(s.name.toList==x.name.toList))=true}) 1000 (fun j=>fe 72 [(0, .ps 4 (syms g)),(3, .int .i64 i),(4, .ptr 0 0),(5, .int .i64 j.1)]) (fun _=>[some (.var [.str x.name, .int .i64 x.arity, .int .i64 x.weight, .bool x.cd])]) (fun j=>i - j.1) ⟨0,by simp⟩ [] ?_ (fun _=>au _) ?_
   ·refine iz rfl ?_;simp only [go_sem,dy,cK,br,a_]
   ·rintro ⟨j,hj,X2⟩;by_cases CM:(j:Int)<i
    ·have yx:j<g.length:=by omega
     simp only [go_sem,CM];refine aG.draw [] 1 1 mixed rfl rfl (ae _) ?_;simp only [go_sem,da,ld,aR,qS yx,pU,ae];refine ⟨by omega,?_⟩;refine aG.go 1000 ?_;cases he:(g[j].name.toList==x.name.toList) with
     | true =>
      simp only [go_sem];refine aG.go 1000 ?_;have hb:jY g i=false:=by
       simp only [jY,fresh,tG];rw [db];right;rw [oG];exact ⟨g[j],by rw [List.mem_take_iff_getElem];exact ⟨j,by omega,rfl⟩,by simp [he]⟩
      simp only [go_sem];refine aG.go 1000 ?_;simp only [go_sem,bad i aU hb]
     | false =>
      simp only [go_sem];refine ⟨⟨j+1,by omega,?_⟩,[],iz rfl ?_,by simp only;omega⟩
      ·rw [c9,qx,X2,av yx];simp [he]
      ·simp only [go_sem,dy,cK,a_];rw [dQ (by omega)];rfl
    ·simp only [go_sem,CM];refine aG.go 1000 ?_;simp only [go_sem];have xd:j=i:=by omega
     subst xd;have jA:jY g j=true:=by
      simp only [jY,fresh,tG,zA,cG];exact X2
     refine ⟨⟨j+1,aU,by rw [La,aN,jA];rfl⟩,[],iz rfl ?_,by simp only;omega⟩;simp only [go_sem,dy,cK];rw [dQ (by omega)];rfl
  ·simp only [go_sem,ld,bA];have h0 : 0<g.length:=by omega
   have dZ:i=g.length:=by omega
   subst dZ;refine aG.go 1000 ?_;have e0:(syms g).getD 0 .undef=g[0].aM:=qS h0;simp only [go_sem,ld,Int.toNat_zero,e0,pU,ae,NH,ki,fC];refine ⟨by omega,?_⟩;have f1:decide ((g.length:Int)<1)=false:=decide_eq_false c1;have f2:decide (256<(g.length:Int))=false:=decide_eq_false c2;rw [eg,f1,f2,aN,yq h0];simp [isTrue,sI]
theorem ME (g:List Sy) (t:Tm):aD Tryz.prog 85 [.ps 4 (syms g),t.aM] (.bool (t.cd g)):=by
 refine aD.begin (rs:=[.tmp 4]) (m:=21) 1000 Tryz.func85 rfl rfl rfl (by decide) trivial ?_;by_cases c1 : 0≤t.head
 ·by_cases c2:t.head<(g.length:Int)
  ·have hi:t.head.toNat<g.length:=by omega
   simp only [go_sem,cZ,ld,c1,c2,qS hi,pU,ae];have:iV g t.head=g[t.head.toNat]:=yq hi;simp [Tm.cd,c1,c2,this]
  ·simp only [go_sem,cZ,ld,c1,c2,ae,Tm.cd]
 ·simp only [go_sem,cZ,ld,c1,ae,Tm.cd]
theorem Ypy (g:List Sy) (t:Tm):t.size<2 ^ 62→aD Tryz.prog 126 [.ps 4 (syms g),t.aM] (.bool (t.known g)):=by
 induction t using Tm.gN with
 | h h ts ih =>
 intro hs;simp only [Tm.size] at hs;have hlen:=oZ ts;refine aD.begin (rs:=[.tmp 4]) (m:=39) 1000 Tryz.func126 rfl rfl rfl (by decide) trivial ?_;by_cases c1:h<0
 ·simp only [go_sem,cZ,Tm.head,Tm.args,c1,Tm.known,ae]
 simp only [go_sem,cZ,Tm.head,Tm.args,c1,ae];refine aG.draw [] 1 1 mixed rfl rfl (ae _) ?_;by_cases c2:(g.length:Int)≤h
 ·simp only [go_sem,da,ld,c2,ae];refine aG.go 1000 ?_;simp only [go_sem,Tm.known,c1,c2]
 have hi:h.toNat<g.length:=by omega
 have zu:iV g h=g[h.toNat]:=yq hi;have ly : 0≤h∧h<(g.length:Int):=by omega
 by_cases c3:(ts.length:Int)=g[h.toNat].arity
 ·simp only [go_sem,da,ld,c2,ae,aj,qS hi,pU,c3,ly];refine aG.go 1000 ?_;simp only [go_sem];have hk:Tm.known g (.mk h ts)=Tm.d_ g ts:=by simp [Tm.known,c1,c2,zu,c3]
  rw [hk];refine aG.cO (ι:={i:Nat // i≤ts.length∧Tm.d_ g (ts.take i)=true}) 1000 (fun i=>fe 41 [(0, .ps 4 (syms g)),(3, .ptr 0 0),(5, .int .i64 i.1)]) (fun _=>[some (.var [.int .i64 h, .ps 2 (ts.map Tm.aM)])]) (fun i=>ts.length - i.1) ⟨0,by simp [Tm.d_]⟩ ?_ (fun _=>by simp) ?_
  ·simp only [go_sem,dy,bW,br,a_]
  ·rintro ⟨i,dZ,zd⟩;simp only [go_sem,aj];refine ⟨fun bA=>?_,fun rB=>?_⟩
   ·have aU:i<ts.length:=by omega
    refine ⟨by omega,?_⟩;simp only [go_sem,aR,mC aU,fL,ae];rw [← cZ];have fJ:=w7 ts i aU;refine aq.bS [] (ih i aU (by omega)) (cx _ _ _) (by simp [go_sem,dG,dy]) ?_;simp only [bC,bN,bL,if_true];refine aG.go 1000 ?_;have h1:=Zwy g ts i aU;cases r7:ts[i].known g with
    | true =>
     simp only [go_sem];refine ⟨⟨i+1,aU,by rw [h1,zd,r7];rfl⟩,?_,by simp only;omega⟩;simp only [go_sem,dy,bW,a_];rw [dQ (by omega)];simp
    | false =>
     simp only [go_sem];refine aG.go 1000 ?_;simp only [go_sem];have h2:=Lv g ts i aU;rw [h2,r7];simp
   ·refine aG.go 1000 ?_;simp only [go_sem];have:i=ts.length:=by omega
    subst this;rw [bZ] at zd;rw [zd]
 ·simp only [go_sem,da,ld,c2,ae,aj,qS hi,pU,c3,ly];refine aG.go 1000 ?_;simp only [go_sem,Tm.known,c1,c2,zu,c3]
theorem Ygs (g:List Sy) (t:Tm):t.size<2 ^ 62→aD Tryz.prog 127 [.ps 4 (syms g),t.aM] (.bool (t.fE g)):=by
 induction t using Tm.gN with
 | h h ts ih =>
 intro hs;simp only [Tm.size] at hs;have hlen:=oZ ts;refine aD.begin (rs:=[.tmp 4]) (m:=28) 1000 Tryz.func127 rfl rfl rfl (by decide) trivial ?_;simp only [go_sem,cZ,Tm.head,Tm.args];have hk:Tm.fE g (.mk h ts)=Tm.eh g ts:=by simp [Tm.fE]
 rw [hk];refine aG.cO (ι:={i:Nat // i≤ts.length∧Tm.eh g (ts.take i)=true}) 1000 (fun i=>fe 30 [(0, .ps 4 (syms g)),(3, .ptr 0 0),(5, .int .i64 i.1)]) (fun _=>[some (.var [.int .i64 h, .ps 2 (ts.map Tm.aM)])]) (fun i=>ts.length - i.1) ⟨0,by simp [Tm.eh]⟩ ?_ (fun _=>by simp) ?_
 ·simp only [go_sem,dy,bW,br,a_]
 ·rintro ⟨i,dZ,zd⟩;simp only [go_sem,aj];refine ⟨fun bA=>?_,fun rB=>?_⟩
  ·have aU:i<ts.length:=by omega
   refine ⟨by omega,?_⟩;simp only [go_sem,aR,mC aU,fL,ae];rw [← cZ];have fJ:=w7 ts i aU;refine aq.bS [] (ME g ts[i]) (cx _ _ _) (by simp [go_sem,dG,dy]) ?_;simp only [bC,bN,bL,if_true];refine aG.go 1000 ?_;have h1:=Ztf g ts i aU;have h2:=Lj g ts i aU;cases qF:ts[i].cd g with
   | true =>
    simp only [go_sem];refine aG.go 1000 ?_;simp only [go_sem];rw [h2,qF];simp
   | false =>
    simp only [go_sem,aR,mC aU,fL,ae,aj];refine ⟨by omega,?_⟩;rw [← cZ];refine aq.bS [] (ih i aU (by omega)) (cx _ _ _) (by simp [go_sem,dG,dy]) ?_;simp only [bC,bN,bL,if_true];refine aG.go 1000 ?_;cases r7:ts[i].fE g with
    | true =>
     simp only [go_sem];refine ⟨⟨i+1,aU,by rw [h1,zd,qF,r7];rfl⟩,?_,by simp only;omega⟩;simp only [go_sem,dy,bW,a_];rw [dQ (by omega)];simp
    | false =>
     simp only [go_sem];refine aG.go 1000 ?_;simp only [go_sem];rw [h2,r7];simp
  ·refine aG.go 1000 ?_;simp only [go_sem];have:i=ts.length:=by omega
   subst this;rw [bZ] at zd;rw [zd]
theorem QT (g:List Sy) (t:Tm) (hs:t.size<2 ^ 62):aD Tryz.prog 84 [.ps 4 (syms g),t.aM] (.int .i64 (t.term g)):=by
 refine aD.begin (rs:=[.tmp 4]) (m:=20) 1000 Tryz.func84 rfl rfl rfl (by decide) trivial ?_;simp only [go_sem,cZ,ae];refine aq.bS [] (Na g) (cx _ _ _) (by simp [go_sem,dy]) ?_;simp only [bC,bN,bL,if_true];refine aG.go 1000 ?_;cases c1:eg g with
 | false=>simp only [go_sem,Tm.term,c1]
 | true =>
 simp only [go_sem,ae];rw [← cZ];refine aq.bS [] (Ypx t hs) (cx _ _ _) (by simp [go_sem,dG]) ?_;simp only [bC,bN,bL,if_true];refine aG.go 1000 ?_;by_cases c2:t.check=0
 ·simp only [go_sem,c2,ae];rw [← cZ];refine aq.bS [] (Ypy g t hs) (cx _ _ _) (by simp [go_sem,dy,dG]) ?_;simp only [bC,bN,bL,if_true];refine aG.go 1000 ?_;cases c3:t.known g with
  | false=>simp only [go_sem,Tm.term,c1,c2,c3]
  | true =>
  simp only [go_sem,ae];rw [← cZ];refine aq.bS [] (Ygs g t hs) (cx _ _ _) (by simp [go_sem,dy,dG]) ?_;simp only [bC,bN,bL,if_true];refine aG.go 1000 ?_;cases c4:t.fE g<;>simp only [go_sem,Tm.term,c1,c2,c3,c4]
 ·simp only [go_sem,c2,Tm.term,c1]
theorem Zxf (g:List Sy) (l:Li) (hl:l.l.size<2 ^ 62) (hr:l.r.size<2 ^ 62):aD Tryz.prog 49 [.ps 4 (syms g),l.aM] (.int .i64 (l.check g)):=by
 refine aD.begin (rs:=[.tmp 4]) (m:=41) 1000 Tryz.func49 rfl rfl rfl (by decide) trivial ?_;simp only [go_sem,Li.aM,Li.cs,ae];rw [← cZ l.l];refine aq.bS [] (QT g l.l hl) (cx _ _ _) (by simp [go_sem,dy,dG]) ?_;simp only [bC,bN,bL,if_true];refine aG.go 1000 ?_;by_cases c1:l.l.term g=0
 ·simp only [go_sem,c1,ae];rw [← cZ l.r];refine aq.bS [] (QT g l.r hr) (cx _ _ _) (by simp [go_sem,dy,dG]) ?_;simp only [bC,bN,bL,if_true];refine aG.go 1000 ?_;by_cases c2:l.r.term g=0
  ·simp only [go_sem,c2,ae];rw [← cZ l.l];refine aq.bS [] (ME g l.l) (cx _ _ _) (by simp [go_sem,dy,dG]) ?_;simp only [bC,bN,bL,if_true];refine aG.go 1000 ?_;cases c3:l.l.cd g with
   | true =>
    by_cases c4:l.r.head=0 <;>
    ·simp only [go_sem,c4,ae];simp [Li.check,c1,c2,c3,c4]
   | false =>
    simp only [go_sem,ae];rw [← cZ l.r];refine aq.bS [] (ME g l.r) (cx _ _ _) (by simp [go_sem,dy,dG]) ?_;simp only [bC,bN,bL,if_true];refine aG.go 1000 ?_;cases c4:l.r.cd g <;>
    ·simp only [go_sem];simp [Li.check,c1,c2,c3,c4]
  ·simp only [go_sem,c2];simp [Li.check,c1,c2]
 ·simp only [go_sem,c1];simp [Li.check,c1]
theorem Znr (g:List Sy) (c:List Li) (hs:∀ (i:Nat) (h:i<c.length),c[i].l.size<2 ^ 62∧c[i].r.size<2 ^ 62):aD Tryz.prog 16 [.ps 4 (syms g), .ps 5 (lits c)] (.int .i64 (aZ g c)):=by
 refine aD.begin (rs:=[.tmp 4]) (m:=26) 1000 Tryz.func16 rfl rfl rfl (by decide) trivial ?_;simp only [go_sem];refine aq.bS [] (Na g) (cx _ _ _) (by simp [go_sem,dy]) ?_;simp only [bC,bN,bL,if_true];refine aG.go 1000 ?_;cases c1:eg g with
 | false =>
  simp only [go_sem];simp [aZ,c1]
 | true =>
 by_cases c2 : 32<(c.length:Int)
 ·simp only [go_sem,fR,c2];simp [aZ,c1,c2]
 simp only [go_sem,fR,c2];have CD:aZ g c=dh g c:=by simp [aZ,c1,c2]
 rw [CD];refine aG.cO (ι:={i:Nat // i≤c.length∧dh g (c.drop i)=dh g c}) 1000 (fun i=>fe 28 [(0, .ps 4 (syms g)),(1, .ps 5 (lits c)),(5, .int .i64 i.1)]) (fun _=>[]) (fun i=>c.length - i.1) ⟨0,by simp⟩ ?_ (fun _=>au _) ?_
 ·simp only [go_sem,dy,cy,br]
 ·rintro ⟨i,hi,aN⟩;by_cases bA:(i:Int)<c.length
  ·have aU:i<c.length:=by omega
   rw [SH g c i aU] at aN;simp only [go_sem,fR,bA,aR,tz aU,kH,ae];refine ⟨by omega,?_⟩;have fJ:=hs i aU;refine aq.bS [] (Zxf g c[i] fJ.1 fJ.2) (by simp only [Li.aM,Li.cs];exact cx _ _ _) (by simp [go_sem,dy,nt]) ?_;simp only [bC,bN,bL,if_true];refine aG.go 1000 ?_;by_cases c3:c[i].check g=0
   ·simp only [go_sem,c3];rw [if_neg (by simp [c3])] at aN;refine ⟨⟨i+1,aU,aN⟩,?_,by simp only;omega⟩;simp only [go_sem,dy,cy];rw [dQ (by omega)];rfl
   ·simp only [go_sem,c3];rw [if_pos c3] at aN;refine aG.go 1000 ?_;simp only [go_sem,aN]
  ·simp only [go_sem,fR,bA];refine aG.go 1000 ?_;simp only [go_sem];have:i=c.length:=by omega
   subst this;rw [← aN,aX,dh]
end Go.Proofs
namespace Go.Proofs
open Go Go.dm
theorem TN (s:Int) (h1 : 1≤s) (h2:s≤4):∀ (k:Nat) (n:Int),1≤n→n*4 ^ k≤1000000→qt s k n=n*s ^ k∧1≤n*s ^ k∧n*s ^ k≤n*4 ^ k
 | 0,n,h,_=>by simp [qt];omega
 | k+1,n,h,hb=>by
  have e1:n*4 ^ (k+1)=(n*4)*4 ^ k:=by rw [nq];rw [np (4 ^ k) 4,oX]
  have hp:(1:Int)≤4 ^ k:=rK (n:=4) (m:=k) (by omega);have hn4:n*4≤n*4*4 ^ k:=by
   have:=du hp (show 0≤n*4 by omega);omega
  have BP : 1≤n*s∧n*s≤n*4:=by
   constructor
   ·have:=rI h h1 (by omega) (by omega:(0:Int)≤n);omega
   ·exact du h2 (by omega)
  have X7:n*s*4 ^ k≤n*4*4 ^ k:=Int.mul_le_mul_of_nonneg_right BP.2 (by omega);have hw:IntKind.i64.wrap (n*s)=n*s:=dQ (by omega);simp only [qt];rw [hw];obtain ⟨q1,q2,q3⟩:=TN s h1 h2 k (n*s) BP.1 (by omega);have e2:n*s ^ (k+1)=n*s*s ^ k:=by rw [nq,np (s ^ k) s,oX]
  rw [e2,e1];exact ⟨q1,q2,by omega⟩
def qI (size:Int) (most:Int) (a:Int) (r:List Int):Bool:=!(decide (4<a) || !decide ((r.length:Int)=size ^ a.toNat))&&r.all fun x=>!(decide (x<0)||decide (most≤x))
def lC (w:Wo) (x:Sy):Int:=if x.cd then 2 else w.size
def gq (g:List Sy) (w:Wo) (i:Nat):Bool:=qI w.size (lC w (g.getD i Sy.qY)) (g.getD i Sy.qY).arity (w.rows.getD i [])
def dO (g:List Sy) (w:Wo):Bool:=!(!eg g||decide (w.size<1)||decide (4<w.size) || !decide ((w.rows.length:Int)=g.length))&&(List.range g.length).all (gq g w)&&decide ((w.rows.getD 0 []).getD 0 0=1)
theorem Uz (s:Int) (h1 : 1≤s) (h2:s≤4) (k:Nat) (hk:k≤4):qt s k 1=s ^ k∧1≤s ^ k∧s ^ k≤256:=by
 have hb:(1:Int)*4 ^ k≤1000000∧(4:Int) ^ k≤256:=by
  rcases (by omega:k=0∨k=1∨k=2∨k=3∨k=4) with rfl | rfl | rfl | rfl | rfl<;>decide
 obtain ⟨q1,q2,q3⟩:=TN s h1 h2 k 1 (by omega) hb.1;simp only [Int.one_mul] at q1 q2 q3;exact ⟨q1,q2,by omega⟩
theorem WE {g:List Sy} (h:eg g=true) {i:Nat} (hi:i<g.length):g[i].right=true:=by
 simp only [eg,aB] at h;have:=a8.1 h.1.2 i (by simpa using hi);simp only [jY,aB,yq hi] at this;exact this.1
theorem LW {g:List Sy} (h:eg g=true) : 1≤g.length∧g.length≤256:=by
 simp only [eg,aB,bw,bK,decide_eq_false_iff_not] at h;omega
theorem Ycf {g:List Sy} (h:eg g=true):isTrue (g.getD 0 Sy.qY)=true:=by
 simp only [eg,aB] at h;exact h.2
theorem JA {w:Wo} {i:Nat} (h:i<w.rows.length):w.rows.getD i []=w.rows[i]:=by simp [List.getD,h]
theorem Yuq {g:List Sy} {w:Wo} (h:eg g=true) (hw : 1≤w.size) (h0 : 0<g.length) (hr : 0<w.rows.length) (jA:gq g w 0=true) : 0<w.rows[0].length:=by
 simp only [gq,qI,JA hr,aB,bw,bK,dB,decide_eq_true_eq] at jA;have h1:=jA.1.2;have:(0:Int)<w.size ^ (g.getD 0 Sy.qY).arity.toNat:=rK (by omega);omega
theorem JQ {l:List Int} {i:Nat} (h:i<l.length):l.getD i 0=l[i]:=by simp [List.getD,h]
end Go.Proofs
namespace Go.Proofs
open Go Go.dm
attribute [local go_sem] Nat.reduceAdd Nat.reduceSub Nat.reduceMul Nat.reduceLeDiff Nat.reduceEqDiff Nat.reduceBEq
theorem TP (s m:Int) (hm:m<2 ^ 62):aD Tryz.prog 48 [.int .i64 s, .int .i64 m] (.int .i64 (qt s m.toNat 1)):=by
 refine aD.begin (rs:=[.tmp 4]) (m:=14) 1000 Tryz.func48 rfl rfl rfl (by decide) trivial ?_;simp only [go_sem];refine aG.cO (ι:={p:Nat×Int // p.1≤m.toNat∧qt s (m.toNat - p.1) p.2=qt s m.toNat 1}) 1000 (fun p=>fe 16 [(0, .int .i64 s),(1, .int .i64 m),(5, .int .i64 p.1.2),(6, .int .i64 p.1.1)]) (fun _=>[]) (fun p=>m.toNat - p.1.1) ⟨(0,1),by simp⟩ ?_ (fun _=>au _) ?_
 ·simp only [go_sem,br]
 ·rintro ⟨⟨i,n⟩,hi,h3⟩;simp only at hi h3;simp only [go_sem];refine ⟨fun bA=>⟨⟨(i+1,IntKind.i64.wrap (n*s)),by simp only;omega,?_⟩,?_,by simp only;omega⟩,fun rB=>?_⟩
  ·simp only
   rw [← h3,show m.toNat - i=(m.toNat - (i+1))+1 by omega,qt]
  ·simp only [go_sem];rw [dQ (by omega)];simp
  ·refine aG.go 1000 ?_;simp only [go_sem];rw [show m.toNat - i=0 by omega,qt] at h3;rw [h3]
set_option maxRecDepth 20000 in
set_option maxHeartbeats 1600000 in
theorem Zq1 (g:List Sy) (w:Wo):aD Tryz.prog 15 [.ps 4 (syms g),w.aM] (.bool (dO g w)):=by
 refine aD.begin (rs:=[.tmp 4]) (m:=101) 1000 Tryz.func15 rfl rfl rfl (by decide) trivial ?_;simp only [go_sem,ta];refine aq.bS [] (Na g) (cx _ _ _) (by simp [go_sem,dy]) ?_;simp only [bC,bN,bL,if_true];refine aG.go 1000 ?_;cases c1:eg g with
 | false=>simp only [go_sem,dO,c1]
 | true =>
 obtain ⟨sQ,v8⟩:=LW c1;by_cases c2:w.size<1
 ·simp only [go_sem,dO,c1,c2]
 by_cases c3 : 4<w.size
 ·simp only [go_sem,dO,c1,c2,c3]
 by_cases c4:(w.rows.length:Int)=g.length
 case neg=>simp only [go_sem,dO,c1,c2,c3,c4,vU,ld]
 simp only [go_sem,c2,c3,c4,vU,ld];have hw:dO g w=((List.range g.length).all (gq g w)&&decide ((w.rows.getD 0 []).getD 0 0=1)):=by
  simp only [dO,c1,decide_eq_false c2,decide_eq_false c3,decide_eq_true c4];rfl
 rw [hw];have bad:∀ i,i<g.length→gq g w i=false→((List.range g.length).all (gq g w)&&decide ((w.rows.getD 0 []).getD 0 0=1))=false:=fun i hi hb=>by
  rw [Lh (p:=gq g w) hi hb,cE]
 refine aG.cO (ι:={i:Nat // i≤g.length∧(List.range i).all (gq g w)=true}) 1000 (fun i=>fe 103 [(0, .ps 4 (syms g)),(3, .ptr 0 0),(5, .int .i64 i.1)]) (fun _=>[some (.var [.int .i64 w.size, .ps 1 (jh w.rows)])]) (fun i=>g.length - i.1) ⟨0,by simp⟩ ?_ (fun _=>au _) ?_
 ·simp only [go_sem,dy,rN,br,a_]
 ·rintro ⟨i,hi,aN⟩;by_cases bA:(i:Int)<g.length
  ·have aU:i<g.length:=by omega
   have X6:i<w.rows.length:=by omega
   have tG:=yq aU;have FR:=JA X6;have zA:=Vu (WE c1 aU);have mD:gq g w i=qI w.size (lC w g[i]) g[i].arity w.rows[i]:=by simp only [gq,tG,FR]
   have D2:(syms g).getD i .undef=g[i].aM:=qS aU;have wa:(jh w.rows).getD i .undef = .ps 1 (ints w.rows[i]):=Jq X6;generalize g[i]=x at *
   generalize w.rows[i]=r at *
   cases qF:x.cd
   case' false=>simp only [go_sem,ld,bA,aR,D2,pU,qF]
   case' true=>simp only [go_sem,ld,bA,aR,D2,pU,qF]
   all_goals refine ⟨by omega,?_⟩
   all_goals refine aG.draw [] 1 1 mixed rfl rfl (ae _) ?_
   all_goals
    by_cases d1 : 4<x.arity
    ·have hb:gq g w i=false:=by rw [mD,qI,decide_eq_true d1];simp
     simp only [go_sem,da,ld,aR,D2,pU,d1];refine ⟨by omega,?_⟩;refine aG.go 1000 ?_;simp only [go_sem];refine aG.go 1000 ?_;simp only [go_sem,bad i aU hb]
    obtain ⟨p1,p2,p3⟩:=Uz w.size (by omega) (by omega) x.arity.toNat (by omega);simp only [go_sem,da,ld,vU,aR,D2,wa,pU,d1,iZ];refine ⟨by omega,by omega,by omega,?_⟩;refine kG (TP w.size x.arity (by omega)) ?_ ?_ ?_
    ·exact cx _ _ _
    ·simp [go_sem]
    rw [p1];by_cases d2:(r.length:Int)=w.size ^ x.arity.toNat
    case neg =>
     have hb:gq g w i=false:=by rw [mD,qI,decide_eq_false d2];simp
     simp only [go_sem,d2];refine aG.go 1000 ?_;simp only [go_sem];refine aG.go 1000 ?_;simp only [go_sem,bad i aU hb]
    have p4:(r.length:Int)≤256:=by omega
    simp only [go_sem,d2];refine aG.go 1000 ?_;simp only [go_sem];refine aG.cO (ι:={k:Nat // k≤r.length∧(r.take k).all (fun v=>!(decide (v<0)||decide (lC w x≤v)))=true}) 1000 (fun k=>fe 103 [(0, .ps 4 (syms g)),(3, .ptr 0 0),(5, .int .i64 i),(6, .int .i64 (lC w x)),(7, .int .i64 k.1)]) (fun _=>[some (.var [.int .i64 w.size, .ps 1 (jh w.rows)])]) (fun k=>r.length - k.1) ⟨0,by simp⟩ ?_ (fun _=>au _) ?_
    ·simp only [go_sem,dy,rN,br,a_,lC,qF]
    ·rintro ⟨k,hk,Aw⟩;by_cases r_:(k:Int)<r.length
     ·have Ea:k<r.length:=by omega
      have HL:(ints r).getD k .undef = .int .i64 r[k]:=s0 Ea;have Km:∀ (hv:(!(decide (r[k]<0)||decide (lC w x≤r[k])))=false),gq g w i=false:=fun hv=>by
       rw [mD,qI,db];right;rw [oG];exact ⟨r[k],aC Ea,by rw [hv];decide⟩
      have AB:(r.take (k+1)).all (fun v=>!(decide (v<0)||decide (lC w x≤v)))=((r.take k).all (fun v=>!(decide (v<0)||decide (lC w x≤v))) && !(decide (r[k]<0)||decide (lC w x≤r[k]))):=by
       rw [c9,qx,av Ea];simp
      generalize r[k]=v at *
      by_cases d3:v<0
      ·simp only [go_sem,vU,aR,wa,iZ,r_,HL,d3]
       (repeat ((with_reducible refine And.intro ?_ ?_); ·omega))
       refine aG.go 1000 ?_;simp only [go_sem];refine aG.go 1000 ?_;simp only [go_sem,bad i aU (Km (by rw [decide_eq_true d3];rfl))]
      by_cases d4:lC w x≤v
      ·simp only [go_sem,vU,aR,wa,iZ,r_,HL,d3,d4]
       (repeat ((with_reducible refine And.intro ?_ ?_); ·omega))
       refine aG.go 1000 ?_;simp only [go_sem];refine aG.go 1000 ?_;simp only [go_sem,bad i aU (Km (by rw [decide_eq_true d4];simp))]
      simp only [go_sem,vU,aR,wa,iZ,r_,HL,d3,d4]
      (repeat ((with_reducible refine And.intro ?_ ?_); ·omega))
      refine ⟨⟨k+1,by omega,by rw [AB,Aw,decide_eq_false d3,decide_eq_false d4];rfl⟩,?_,by simp only;omega⟩;simp only [go_sem,dy,rN,a_];rw [dQ (by omega)];rfl
     ·simp only [go_sem,vU,aR,wa,iZ,r_]
      (repeat ((with_reducible refine And.intro ?_ ?_); ·omega))
      refine aG.go 1000 ?_;simp only [go_sem];have Ea:k=r.length:=by omega
      subst Ea;rw [bZ] at Aw;have jA:gq g w i=true:=by
       rw [mD,qI,decide_eq_false d1,decide_eq_true d2,Aw];rfl
      refine ⟨⟨i+1,aU,by rw [La,aN,jA];rfl⟩,?_,by simp only;omega⟩;simp only [go_sem,dy,rN,a_];rw [dQ (by omega)];rfl
  ·have dZ:i=g.length:=by omega
   subst dZ;have h0 : 0<g.length:=by omega
   have wa : 0<w.rows.length:=by omega
   have e0:(jh w.rows).getD 0 .undef = .ps 1 (ints w.rows[0]):=Jq wa;have e1:=JA wa;have jA:gq g w 0=true:=a8.1 aN 0 (by simpa using h0);have e2 : 0<w.rows[0].length:=Yuq c1 (by omega) h0 wa jA;have e3:(ints w.rows[0]).getD 0 .undef = .int .i64 w.rows[0][0]:=s0 e2;simp only [go_sem,ld,bA];refine aG.go 1000 ?_;simp only [go_sem,vU,Int.toNat_zero,e0,iZ,e3]
   (repeat ((with_reducible refine And.intro ?_ ?_); ·omega))
   rw [aN,e1,JQ e2];rfl
end Go.Proofs
namespace Go.Proofs
open Go Go.dm
mutual
def Tm.val (w:Wo) (f:Int→Int):Tm→Int
 | .mk h ts=>if h<0 then f (-1 - h) else (w.rows.getD h.toNat []).getD (Tm.nI w f ts 0).toNat 0
def Tm.nI (w:Wo) (f:Int→Int):List Tm→Int→Int
 | [],a=>a
 | t :: ts,a=>Tm.nI w f ts (a*w.size+t.val w f)
end
def Tm.uy (w:Wo) (t:Tm):Prop:=t.head<0∨∀ v∈w.rows.getD t.head.toNat [],0≤v∧v<w.size
mutual
def Tm.okW (w:Wo):Tm→Prop
 | .mk h ts=>h<0∨(h<w.rows.length∧ts.length≤4∧((w.rows.getD h.toNat []).length:Int)=w.size ^ ts.length∧Tm.uw w ts)
def Tm.uw (w:Wo):List Tm→Prop
 | []=>True
 | t :: ts=>(t.okW w∧t.uy w)∧Tm.uw w ts
end
theorem WQ {w:Wo}:∀ {ts:List Tm},Tm.uw w ts→∀ (i:Nat) (hi:i<ts.length),ts[i].okW w∧ts[i].uy w
 | t :: ts,h,0,_=>h.1
 | t :: ts,h,i+1,hi=>WQ h.2 i (by simpa using hi)
theorem VK {w:Wo}:∀ {ts:List Tm},Tm.uw w ts→∀ i,Tm.uw w (ts.take i)
 | [],_,i=>by simp [Tm.uw]
 | t :: ts,h,0=>trivial
 | t :: ts,h,i+1=>⟨h.1,VK h.2 i⟩
theorem Jg {w:Wo} {f:Int→Int} (hw : 1≤w.size) (hf:∀ v,0≤f v∧f v<w.size) (t:Tm) (h:t.uy w) : 0≤t.val w f∧t.val w f<w.size:=by
 obtain ⟨hd,ts⟩:=t;simp only [Tm.val];split
 ·exact hf _
 ·rename_i hn;have h2:∀ v∈w.rows.getD hd.toNat [],0≤v∧v<w.size:=h.resolve_left hn;generalize w.rows.getD hd.toNat []=r at h2 ⊢;generalize (Tm.nI w f ts 0).toNat=k;by_cases hk:k<r.length
  ·rw [JQ hk];exact h2 _ (aC hk)
  ·rw [cq,bt (by omega),eB];omega
theorem Mz {w:Wo} {f:Int→Int} (hw : 1≤w.size) (hf:∀ v,0≤f v∧f v<w.size):∀ (ts:List Tm) (a:Int),Tm.uw w ts→0≤a→0≤Tm.nI w f ts a∧Tm.nI w f ts a<(a+1)*w.size ^ ts.length
 | [],a,_,h=>by simp only [Tm.nI,aS,Int.pow_zero];omega
 | t :: ts,a,ho,h=>by
  obtain ⟨v1,v2⟩:=Jg hw hf t ho.1.2;have hm : 0≤a*w.size:=rJ h (by omega);obtain ⟨p1,p2⟩:=Mz hw hf ts (a*w.size+t.val w f) ho.2 (by omega);refine ⟨p1,Int.lt_of_lt_of_le p2 ?_⟩;have e1:(a+1)*w.size ^ (t :: ts).length=((a+1)*w.size)*w.size ^ ts.length:=by
   rw [ax,nq,np (w.size ^ ts.length),oX]
  rw [e1];refine Int.mul_le_mul_of_nonneg_right ?_ (Int.le_of_lt (rK (by omega)));rw [Int.add_mul,Int.one_mul];omega
theorem Qn {w:Wo} {f:Int→Int}:∀ (ts:List Tm) (i:Nat) (hi:i<ts.length) (a:Int),Tm.nI w f (ts.take (i+1)) a=Tm.nI w f (ts.take i) a*w.size+ts[i].val w f
 | t :: ts,0,_,a=>by simp [Tm.nI]
 | t :: ts,i+1,hi,a=>by
  simp only [df,Tm.nI,dj];exact Qn ts i (by simpa using hi) _
theorem Ydv {s:Int} (h1 : 1≤s) (h2:s≤4) {k:Nat} (hk:k≤4) : 1≤s ^ k∧s ^ k≤256:=(Uz s h1 h2 k hk).2
theorem Yjr {w:Wo} {f:Int→Int} (hw : 1≤w.size) (AG:w.size≤4) (hf:∀ v,0≤f v∧f v<w.size) {ts:List Tm} (ho:Tm.uw w ts) (hl:ts.length≤4) (i:Nat) : 0≤Tm.nI w f (ts.take i) 0∧Tm.nI w f (ts.take i) 0<256:=by
 obtain ⟨p1,p2⟩:=Mz hw hf (ts.take i) 0 (VK ho i) (by omega);have bA:(ts.take i).length≤4:=by rw [cA];omega
 have:=(Ydv hw AG bA).2;omega
mutual
def Tm.dY (p:Int→Prop):Tm→Prop
 | .mk h ts=>(h<0→p (-1 - h))∧Tm.fm p ts
def Tm.fm (p:Int→Prop):List Tm→Prop
 | []=>True
 | t :: ts=>t.dY p∧Tm.fm p ts
end
theorem Vw {p:Int→Prop}:∀ {ts:List Tm},Tm.fm p ts→∀ (i:Nat) (hi:i<ts.length),ts[i].dY p
 | t :: ts,h,0,_=>h.1
 | t :: ts,h,i+1,hi=>Vw h.2 i (by simpa using hi)
theorem Nl {p:Int→Prop}:∀ (ts:List Tm),(∀ (i:Nat) (hi:i<ts.length),ts[i].dY p)→Tm.fm p ts
 | [],_=>trivial
 | t :: ts,h=>⟨h 0 (by simp),Nl ts fun i hi=>h (i+1) (by simpa using hi)⟩
theorem Ykv {o:List Int} {v x:Int}:x∈kU o v↔x∈o∨x=v:=by
 unfold kU;split
 ·constructor
  ·exact .inl
  ·rintro (h | rfl)<;>assumption
 ·simp
theorem LJ:∀ (l o:List Int) (x:Int),x∈dV o l↔x∈o∨x∈l
 | [],o,x=>by simp [dV]
 | v :: l,o,x=>by
  have h:dV o (v :: l)=dV (kU o v) l:=rfl;rw [h,LJ l,Ykv,aQ,or_assoc]
mutual
theorem yQ {p:Int→Prop}:∀ t:Tm,(∀ v∈t.vars,p v)↔t.dY p
 | .mk h ts=>by
  simp only [Tm.vars,Tm.dY];rw [Ms ts];refine and_congr_left fun _=>?_;split
  ·simp_all
  ·rename_i hn;simp [hn]
theorem Ms {p:Int→Prop}:∀ (ts:List Tm) (o:List Int),(∀ v∈Tm.gw ts o,p v)↔(∀ v∈o,p v)∧Tm.fm p ts
 | [],o=>by simp [Tm.gw,Tm.fm]
 | t :: ts,o=>by
  simp only [Tm.gw,Tm.fm];rw [Ms ts,← and_assoc];refine and_congr_left fun _=>?_;rw [← yQ t];simp only [LJ];constructor
  ·exact fun h=>⟨fun v hv=>h v (.inl hv),fun v hv=>h v (.inr hv)⟩
  ·rintro ⟨h1,h2⟩ v (hv | hv)
   ·exact h1 v hv
   ·exact h2 v hv
end
def yD (of:List Int) (v:Int):Int:=if v<of.length then of.getD v.toNat 0 else 0
theorem yL {g:List Sy} {w:Wo} (h:dO g w=true):eg g=true∧1≤w.size∧w.size≤4∧w.rows.length=g.length∧(∀ i,i<g.length→gq g w i=true)∧(w.rows.getD 0 []).getD 0 0=1:=by
 simp only [dO,aB,bw,bK,dB,decide_eq_true_eq,decide_eq_false_iff_not] at h;obtain ⟨⟨⟨⟨⟨h1,h2⟩,h3⟩,h4⟩,h5⟩,h6⟩:=h;refine ⟨h1,by omega,by omega,by omega,fun i hi=>a8.1 h5 i (by simpa using hi),h6⟩
theorem Vd {g:List Sy} {w:Wo} (h:dO g w=true) {hd:Int} (h0:¬ hd<0) (h1:hd<g.length) :
  (iV g hd).arity≤4∧0≤(iV g hd).arity∧((w.rows.getD hd.toNat []).length:Int)=w.size ^ (iV g hd).arity.toNat∧((iV g hd).cd=false→∀ v∈w.rows.getD hd.toNat [],0≤v∧v<w.size):=by
 obtain ⟨q1,q2,q3,q4,q5,q6⟩:=yL h;have hi:hd.toNat<g.length:=by omega
 have hr:=q5 hd.toNat hi;have hs:=Vu (WE q1 hi);have e:iV g hd=g[hd.toNat]:=yq hi;simp only [gq,qI,aB,bw,bK,dB,decide_eq_true_eq,decide_eq_false_iff_not,a8,show g.getD hd.toNat Sy.qY=iV g hd from rfl] at hr
 refine ⟨by omega,by rw [e];omega,hr.1.2,fun ht v hv=>?_⟩;have:=hr.2 v hv;simp only [lC,ht,bd,if_false] at this;omega
theorem Nd {g:List Sy} {w:Wo} (h:dO g w=true) (t:Tm) (hk:t.known g=true) (ht:t.cd g=false):t.uy w:=by
 obtain ⟨hd,ts⟩:=t;by_cases c:hd<0
 ·exact .inl c
 ·simp only [Tm.known,decide_eq_false c,dk,aB,bw,decide_eq_false_iff_not] at hk;simp only [Tm.cd,Tm.head,db,decide_eq_false_iff_not] at ht;refine .inr ((Vd h c (by omega)).2.2.2 ?_);rcases ht with (h' | h') | h'
  ·exact absurd (of_decide_eq_false h') (by omega)
  ·exact absurd (of_decide_eq_false h') (by omega)
  ·exact h'
mutual
theorem KX {g:List Sy} {w:Wo} (h:dO g w=true):∀ t:Tm,t.known g=true→t.fE g=true→t.okW w
 | .mk hd ts,hk,ht=>by
  by_cases c:hd<0
  ·exact .inl c
  ·simp only [Tm.known,decide_eq_false c,dk,aB,bw,decide_eq_false_iff_not,decide_eq_true_eq] at hk;obtain ⟨⟨k1,k2⟩,k3⟩:=hk;have bA:hd<g.length:=by omega
   obtain ⟨f1,f2,f3,_⟩:=Vd h c bA;obtain ⟨_,_,_,q4,_,_⟩:=yL h;refine .inr ⟨by omega,by omega,?_,RL h ts k3 (by simpa [Tm.fE] using ht)⟩;rw [f3,← k2];simp
theorem RL {g:List Sy} {w:Wo} (h:dO g w=true):∀ ts:List Tm,Tm.d_ g ts=true→Tm.eh g ts=true→Tm.uw w ts
 | [],_,_=>trivial
 | t :: ts,hk,ht=>by
  simp only [Tm.d_,Tm.eh,aB,bw] at hk ht;exact ⟨⟨KX h t hk.1 ht.1.2,Nd h t hk.1 ht.1.1⟩,RL h ts hk.2 ht.2⟩
end
theorem mg {g:List Sy} {t:Tm} (h:t.term g=0):t.check=0∧t.known g=true∧t.fE g=true:=by
 unfold Tm.term at h;split at h
 ·omega
 ·split at h
  ·rename_i h2;exact absurd h h2
  ·rename_i h2;split at h
   ·omega
   ·split at h
    ·omega
    ·rename_i h3 h4;exact ⟨by simpa using h2,by simpa using h3,by simpa using h4⟩
theorem Zvd (t:Tm):∀ v∈t.vars,0≤v:=by
 refine (yQ (p:=fun v=>0≤v) t).2 ?_;have key:∀ t:Tm,t.dY (fun v=>0≤v):=by
  intro t
  induction t using Tm.gN with
  | h h ts ih =>
   exact ⟨fun _=>by omega,Nl ts ih⟩
 exact key t
def Li.holds (w:Wo) (f:Int→Int) (l:Li):Bool:=(l.l.val w f==l.r.val w f) != l.neg
def bz (w:Wo) (f:Int→Int) (c:List Li):Bool:=c.any fun l=>l.holds w f
end Go.Proofs
namespace Go.Proofs
open Go Go.dm
attribute [local go_sem] Nat.reduceAdd Nat.reduceSub Nat.reduceMul Nat.reduceLeDiff Nat.reduceEqDiff Nat.reduceBEq
set_option maxRecDepth 10000 in
set_option maxHeartbeats 800000 in
theorem SI (w:Wo) (of:List Int) (f:Int→Int) (hw : 1≤w.size) (AG:w.size≤4) (hf:∀ v,0≤f v∧f v<w.size) (t:Tm) :
  t.fit→t.size<2 ^ 62→t.okW w→t.dY (fun v=>f v=yD of v)→aD Tryz.prog 128 [w.aM, .ps 1 (ints of),t.aM] (.int .i64 (t.val w f)):=by
 induction t using Tm.gN with
 | h h ts ih =>
 intro vq hs ho ha;simp only [Tm.size] at hs;have hlen:=oZ ts;have h64 : -9223372036854775808≤h∧h≤9223372036854775807:=vq.1;refine aD.begin (rs:=[.tmp 6]) (m:=50) 1000 Tryz.func128 rfl rfl rfl (by decide) trivial ?_;by_cases c1:h<0
 ·have e1:Tm.val w f (.mk h ts)=yD of (-1 - h):=by simp only [Tm.val,if_pos c1];exact ha.1 c1
  have e2:IntKind.i64.wrap (-1 - h) = -1 - h:=dQ (by omega);rw [e1];by_cases c2 : -1 - h<(of.length:Int)
  ·have hk:(-1 - h).toNat<of.length:=by omega
   have e3:(ints of).getD (-1 - h).toNat .undef = .int .i64 of[(-1 - h).toNat]:=s0 hk;have e4:yD of (-1 - h)=of[(-1 - h).toNat]:=by rw [yD,if_pos c2,JQ hk]
   rw [e4];simp only [go_sem,ta,cZ,Tm.head,Tm.args,c1,e2,iZ,c2,e3];omega
  ·have e4:yD of (-1 - h)=0:=by rw [yD,if_neg c2]
   rw [e4];simp only [go_sem,ta,cZ,Tm.head,Tm.args,c1,e2,iZ,c2]
 ·have e1:Tm.val w f (.mk h ts)=(w.rows.getD h.toNat []).getD (Tm.nI w f ts 0).toNat 0:=by simp only [Tm.val,if_neg c1]
  obtain ⟨o1,o2,o3,o4⟩:=ho.resolve_left c1;rw [e1];simp only [go_sem,ta,cZ,Tm.head,Tm.args,c1];refine aG.cO (ι:={i:Nat // i≤ts.length}) 1000 (fun i=>fe 53 [(1, .ps 1 (ints of)),(3, .ptr 0 0),(5, .ptr 1 0),(8, .int .i64 (Tm.nI w f (ts.take i.1) 0)),(9, .int .i64 i.1)]) (fun _=>[some (.var [.int .i64 w.size, .ps 1 (jh w.rows)]),some (.var [.int .i64 h, .ps 2 (ts.map Tm.aM)])]) (fun i=>ts.length - i.1) ⟨0,by simp⟩ ?_ (fun _=>au _) ?_
  ·simp only [go_sem,bW,dq,rN,br,rM,Tm.nI];decide
  ·rintro ⟨i,hi⟩;simp only [go_sem,aj];refine ⟨fun bA=>?_,fun rB=>?_⟩
   ·have aU:i<ts.length:=by omega
    obtain ⟨nO,ho2⟩:=WQ o4 i aU;obtain ⟨a1,a2⟩:=Yjr hw AG hf o4 o2 i;obtain ⟨b1,b2⟩:=Jg hw hf _ ho2;have fJ:=w7 ts i aU;have AB:=Qn (f:=f) (w:=w) ts i aU 0;have m1 : 0≤Tm.nI w f (ts.take i) 0*w.size:=rJ a1 (by omega);have m2:Tm.nI w f (ts.take i) 0*w.size≤256*4:=rI (by omega) AG (by omega) (by omega);refine aG.draw [] 2 2 mixed rfl rfl (ae _) ?_;simp only [go_sem,da,aj,aR,mC aU,fL,ae];rw [← cZ]
    (repeat ((with_reducible refine And.intro ?_ ?_); ·omega))
    refine kG (ih i aU (Fm vq.2 i aU) (by omega) nO (Vw ha.2 i aU)) ?_ ?_ ?_
    ·exact cx _ _ _
    ·simp [go_sem,rN,dq,dG,xb]
    simp only [go_sem];refine aG.go 1000 ?_;simp only [go_sem];refine ⟨⟨i+1,aU⟩,?_,by simp only;omega⟩;simp only [go_sem,bW,dq,rN,a_];rw [dQ (n:=Tm.nI w f (ts.take i) 0*w.size) (by omega),dQ (by omega),dQ (by omega),AB];exact ⟨⟨rfl,rfl⟩,by decide⟩
   ·refine aG.go 1000 ?_;have dZ:i=ts.length:=by omega
    subst dZ;rw [bZ];have FT:h.toNat<w.rows.length:=by omega
    have wa:(jh w.rows).getD h.toNat .undef = .ps 1 (ints w.rows[h.toNat]):=Jq FT;have ov:=JA FT;rw [ov] at o3 ⊢;obtain ⟨q1,q2⟩:=Mz hw hf ts 0 o4 (by omega);have hk:(Tm.nI w f ts 0).toNat<w.rows[h.toNat].length:=by omega
    have nP:(ints w.rows[h.toNat]).getD (Tm.nI w f ts 0).toNat .undef = .int .i64 w.rows[h.toNat][(Tm.nI w f ts 0).toNat]:=s0 hk;rw [JQ hk];simp only [go_sem,vU,wa,iZ,nP]
    (repeat ((with_reducible refine And.intro ?_ ?_); ·omega))
    omega
theorem Zwv (w:Wo) (of:List Int) (f:Int→Int) (hw : 1≤w.size) (AG:w.size≤4) (hf:∀ v,0≤f v∧f v<w.size) (l:Li) (h1:l.l.fit) (h2:l.r.fit) (h3:l.l.size<2 ^ 62) (h4:l.r.size<2 ^ 62) (h5:l.l.okW w) (h6:l.r.okW w)
  (h7:l.l.dY (fun v=>f v=yD of v)) (h8:l.r.dY (fun v=>f v=yD of v)):aD Tryz.prog 87 [w.aM, .ps 1 (ints of),l.aM] (.bool (l.holds w f)):=by
 refine aD.begin (rs:=[.tmp 6]) (m:=18) 1000 Tryz.func87 rfl rfl rfl (by decide) trivial ?_;simp only [go_sem,ta,Li.aM,Li.cs];refine aG.draw [] 2 2 mixed rfl rfl (ae _) ?_;simp only [go_sem,da,ae];rw [← cZ];refine kG (SI w of f hw AG hf l.l h1 h3 h5 h7) (cx _ _ _) (by simp [go_sem,xb,dq,dG]) ?_;simp only [go_sem,ae];rw [← cZ];refine kG (SI w of f hw AG hf l.r h2 h4 h6 h8) (cx _ _ _) (by simp [go_sem,xb,dq,dG]) ?_;simp only [go_sem];refine aG.go 1000 ?_;simp only [go_sem];simp only [Li.holds];cases l.neg<;>by_cases c:Tm.val w f l.l=Tm.val w f l.r<;>simp [c]
end Go.Proofs
namespace Go.Proofs
open Go Go.dm
theorem UL {s most:Int} (h1 : 1≤s) (h2:s≤4) (hm:most<2 ^ 40):∀ (k:Nat) (n:Int),1≤n→jL s most k n≤most→jL s most k n=n*s ^ k
 | 0,n,_,_=>by simp [jL]
 | k+1,n,hn,h=>by
  by_cases c:n≤most
  ·simp only [jL,if_pos c] at h ⊢;have b1:n*1≤n*s:=du h1 (by omega);have b2:n*s≤n*4:=du h2 (by omega);rw [dQ (by omega)] at h ⊢;rw [UL h1 h2 hm k (n*s) (by omega) h,nq,np (s ^ k) s,oX]
  ·rw [Uo _ _ c] at h;omega
theorem Mq (t:Tm):t.good=true→t.dY (fun v=>0≤v∧v<256):=by
 induction t using Tm.gN with
 | h h ts ih =>
  intro hg;have v8:=hg;simp only [Tm.good,aB,bw,bK,decide_eq_false_iff_not] at hg;refine ⟨fun hn=>by omega,Nl ts fun i hi=>ih i hi ?_⟩;have:=hg.2;rw [I4 ts i hi,aB,aB] at this;exact this.2.1
theorem LD {t:Tm} (h:t.check=0):t.good=true∧t.size≤400∧t.depth≤40:=by
 unfold Tm.check at h;split at h
 ·omega
 ·split at h
  ·omega
  ·split at h
   ·exact ⟨by assumption,by omega,by omega⟩
   ·omega
theorem SF {g:List Sy}:∀ {c:List Li},dh g c=0→∀ (i:Nat) (h:i<c.length),c[i].check g=0
 | l :: c,h,0,_=>by
  simp only [dh] at h;split at h
  ·assumption
  ·rename_i h2;simpa using h2
 | l :: c,h,i+1,hi=>by
  simp only [dh] at h;split at h
  ·rename_i h2;exact absurd h h2
  ·exact SF h i (by simpa using hi)
theorem Gb {g:List Sy} {l:Li} (h:l.check g=0):l.l.term g=0∧l.r.term g=0:=by
 unfold Li.check at h;split at h
 ·rename_i h2;exact absurd h h2
 ·split at h
  ·rename_i h2;exact absurd h h2
  ·rename_i h2 h3;exact ⟨by simpa using h2,by simpa using h3⟩
theorem SC {g:List Sy} {c:List Li} (h:aZ g c=0):c.length≤32∧∀ (i:Nat) (h:i<c.length),c[i].l.term g=0∧c[i].r.term g=0:=by
 unfold aZ at h;split at h
 ·omega
 ·split at h
  ·omega
  ·exact ⟨by omega,fun i hi=>Gb (SF h i hi)⟩
theorem VL {p:Int→Prop}:∀ (c:List Li),Tm.fm p (ck c)↔∀ (i:Nat) (h:i<c.length),c[i].l.dY p∧c[i].r.dY p
 | []=>by simp [ck,Tm.fm]
 | l :: c=>by
  have e:ck (l :: c)=l.l :: l.r :: ck c:=rfl;rw [e];simp only [Tm.fm];rw [VL c];constructor
  ·rintro ⟨h1,h2,h3⟩ i hi;cases i with
   | zero=>exact ⟨h1,h2⟩
   | succ i=>exact h3 i (by simpa using hi)
  ·intro h;have h0:=h 0 (by simp);exact ⟨h0.1,h0.2,fun i hi=>h (i+1) (by simpa using hi)⟩
theorem Ji {p:Int→Prop} (c:List Li):(∀ v∈dg c,p v)↔∀ (i:Nat) (h:i<c.length),c[i].l.dY p∧c[i].r.dY p:=by
 rw [dg,Ms,← VL];simp
theorem T2:∀ {c:List Li},Tm.fits (ck c)→∀ (i:Nat) (h:i<c.length),c[i].l.fit∧c[i].r.fit
 | l :: c,h,0,_=>⟨h.1,h.2.1⟩
 | l :: c,h,i+1,hi=>T2 (c:=c) h.2.2 i (by simpa using hi)
theorem Tj:∀ {c:List Li} (i:Nat) (h:i<c.length),c[i].l.size≤Tm.bG (ck c)∧c[i].r.size≤Tm.bG (ck c)
 | l :: c,0,_=>by
  have e:ck (l :: c)=l.l :: l.r :: ck c:=rfl;rw [e];simp only [Tm.bG,ez];omega
 | l :: c,i+1,hi=>by
  have e:ck (l :: c)=l.l :: l.r :: ck c:=rfl;have:=Tj (c:=c) i (by simpa using hi);rw [e];simp only [Tm.bG,dj];omega
theorem Yop {g:List Sy} {w:Wo} {c:List Li} (hw:dO g w=true) (h:aZ g c=0) (hf:Tm.fits (ck c)) (i:Nat) (hi:i<c.length):c[i].l.okW w∧c[i].r.okW w:=by
 obtain ⟨h1,h2⟩:=(SC h).2 i hi;obtain ⟨_,k1,t1⟩:=mg h1;obtain ⟨_,k2,t2⟩:=mg h2;exact ⟨KX hw _ k1 t1,KX hw _ k2 t2⟩
theorem Zvp {g:List Sy} {c:List Li} (h:aZ g c=0):∀ v∈dg c,0≤v∧v<256:=by
 rw [Ji (p:=fun v=>0≤v∧v<256)];intro i hi;obtain ⟨h1,h2⟩:=(SC h).2 i hi;exact ⟨Mq _ (LD (mg h1).1).1,Mq _ (LD (mg h2).1).1⟩
theorem Ypq (l:List Int) (i:Nat) (n:Int):(ints l).set i (.int .i64 n)=ints (l.set i n):=by simp [ints,List.map_set]
theorem Yps (n:Nat):List.replicate n (ah.int .i64 0)=ints (List.replicate n 0):=by simp [ints]
theorem Yck {vs:List Int} (h:vs.Nodup) {i:Nat} (hi:i<vs.length):vs[i] ∉ vs.take i:=by
 intro hm;obtain ⟨j,hj,e⟩:=List.mem_take_iff_getElem.1 hm;have:=(List.getElem_inj h (h₀:=by omega) (h₁:=hi)).1 e;omega
end Go.Proofs
namespace Go.Proofs
open Go Go.dm
attribute [local go_sem] Nat.reduceAdd Nat.reduceSub Nat.reduceMul Nat.reduceLeDiff Nat.reduceEqDiff Nat.reduceBEq
def ei {α:Type} (p : α→Bool):List α→Int→Int
 | [],_=>-1
 | a :: l,i=>if p a then i else ei p l (i+1)
theorem Dj {α:Type} (p : α→Bool):∀ (l:List α) (i:Int),0≤i→decide (0≤ei p l i)=l.any p
 | [],i,_=>by simp [ei]
 | a :: l,i,h=>by
  simp only [ei,dC];by_cases c:p a=true
  ·simp [c,h]
  ·rw [dw] at c;simp only [c,bd,if_false,dk];exact Dj p l (i+1) (by omega)
theorem Zxc (σ:ai) (c:ah) (p:Sy→Bool) (l:List Sy) (hl:l.length<2 ^ 62) (hs:bD σ.length σ) (hc:c.low σ.length)
  (hp:∀ (i:Nat) (h:i<l.length),aq Tryz.prog c [l[i].aM] σ (fun r σ'=>r = .bool (p l[i])∧σ' = σ)) :
  aq Tryz.prog (.fn 134 [] []) [.ps 4 (syms l),c] σ (fun r σ'=>r = .int .i64 (ei p l 0)∧σ' = σ):=by
 refine aq.begin (rs:=[.tmp 4]) (m:=17) 1000 Tryz.func134 rfl rfl rfl rfl rfl ?_;simp only [go_sem];refine aG.cO (ι:={i:Nat // i≤l.length∧ei p (l.drop i) i=ei p l 0}) 1000 (fun i=>fe 19 [(0, .ps 4 (syms l)),(1,c),(7, .int .i64 l.length),(8, .int .i64 i.1)]) (fun _=>σ) (fun i=>l.length - i.1) ⟨0,by simp⟩ ?_ (fun _=>ae _) ?_
 ·simp only [go_sem,dy,ld,hc,hs,br];exact f_ σ
 ·rintro ⟨i,hi,aN⟩;by_cases bA:(i:Int)<l.length
  ·have aU:i<l.length:=by omega
   have hd:ei p (l.drop i) i=if p l[i] then (i:Int) else ei p (l.drop (i+1)) ((i:Int)+1):=by
    rw [ao aU];rfl
   simp only [go_sem,bA,ld,aR,qS aU,pU,ae]
   (repeat ((with_reducible refine And.intro ?_ ?_); ·omega))
   refine (hp i aU).mono ?_;rintro r σ' ⟨rfl,rfl⟩;refine aG.go 1000 ?_;cases e:p l[i] with
   | true =>
    rw [hd,e,if_pos rfl] at aN;simp only [go_sem];refine aG.go 1000 ?_;simp only [go_sem,← aN];rw [gC];exact ⟨σ',f_ σ',ae _,hs,trivial,rfl,rfl⟩
   | false =>
    rw [hd,e,if_neg (by decide)] at aN;simp only [go_sem];refine ⟨⟨i+1,aU,aN⟩,?_,by simp only;omega⟩;simp only [go_sem,dy,hc,hs];rw [dQ (by omega)];exact ⟨rfl,f_ σ'⟩
  ·have dZ:i=l.length:=by omega
   subst dZ;rw [aX] at aN;simp only [go_sem,bA];refine aG.go 1000 ?_;simp only [go_sem,← aN];rw [gC];exact ⟨σ,f_ σ,ae _,hs,trivial,rfl,rfl⟩
theorem Znt (σ:ai) (c:ah) (p:Sy→Bool) (l:List Sy) (hl:l.length<2 ^ 62) (hs:bD σ.length σ) (hc:c.low σ.length)
  (hp:∀ (i:Nat) (h:i<l.length),aq Tryz.prog c [l[i].aM] σ (fun r σ'=>r = .bool (p l[i])∧σ' = σ)) :
  aq Tryz.prog (.fn 95 [] []) [.ps 4 (syms l),c] σ (fun r σ'=>r = .bool (l.any p)∧σ' = σ):=by
 refine aq.begin (rs:=[.tmp 4]) (m:=7) 1000 Tryz.func95 rfl rfl rfl rfl rfl ?_;simp only [go_sem];refine (Zxc σ c p l hl hs hc hp).mono ?_;rintro r σ' ⟨rfl,rfl⟩;refine aG.go 1000 ?_;simp only [go_sem];rw [gC,Dj p l 0 (by omega)];exact ⟨σ',f_ σ',ae _,hs,trivial,rfl,rfl⟩
theorem Zvl (x y:Sy):aq Tryz.prog (.fn 96 [] [.ptr 0 0]) [y.aM] [some (.var [.str x.name, .int .i64 x.arity, .int .i64 x.weight, .bool x.cd])]
  (fun r σ'=>r = .bool (y.name.toList==x.name.toList)∧σ'=[some (.var [.str x.name, .int .i64 x.arity, .int .i64 x.weight, .bool x.cd])]):=by
 refine aq.begin (rs:=[.tmp 3]) (m:=7) 1000 Tryz.func96 rfl rfl rfl rfl rfl ?_;simp only [go_sem,ZI];rw [gC];exact ⟨[some (.var [.str x.name, .int .i64 x.arity, .int .i64 x.weight, .bool x.cd])],by simp [go_sem],ae _,by simp [go_sem],trivial,rfl,rfl⟩
theorem Tq (g:List Sy):aD Tryz.prog 61 [.ps 4 (syms g)] (.int .i64 (if eg g then 0 else 1)):=by
 refine aD.begin (rs:=[.tmp 2]) (m:=65) 1000 Tryz.func61 rfl rfl rfl (by decide) trivial ?_;by_cases c1:(g.length:Int)<1
 ·simp only [go_sem,ld,c1,eg]
 by_cases c2 : 256<(g.length:Int)
 ·simp only [go_sem,ld,c1,c2,eg]
 have h0 : 0<g.length:=by omega
 have e0:(syms g).getD 0 .undef=g[0].aM:=qS h0;have f1:decide ((g.length:Int)<1)=false:=decide_eq_false c1;have f2:decide (256<(g.length:Int))=false:=decide_eq_false c2;have Ep:eg g=((List.range g.length).all (jY g)&&isTrue g[0]):=by rw [eg,f1,f2,yq h0];simp
 have bad:∀ i,i<g.length→jY g i=false→eg g=false:=fun i hi hb=>by
  rw [Ep,Lh (p:=jY g) hi hb];rfl
 have hT:(g[0].name.toList==ByteArray.toList { data:=#[36,116,114,117,101] }&&(g[0].arity==0&&(g[0].weight==1&&g[0].cd==true)))=isTrue g[0]:=by simp [isTrue,sI]
 simp only [go_sem,ld,c1,c2,Int.toNat_zero,e0,pU,ae,NH,ki,fC,hT];refine ⟨by omega,fun h=>?_,fun h=>?_⟩
 ·have hf:isTrue g[0]=false:=by simpa using h
  have:eg g=false:=by rw [Ep,hf,iD]
  rw [this];rfl
 have XO:isTrue g[0]=true:=by simpa using h
 simp only [go_sem,XO];refine aG.cO (ι:={i:Nat // i≤g.length∧(List.range i).all (jY g)=true}) 1000 (fun i=>fe 66 [(0, .ps 4 (syms g)),(21, .ps 4 (syms g)),(22, .int .i64 g.length),(23, .int .i64 i.1)]) (fun _=>[]) (fun i=>g.length - i.1) ⟨0,by simp⟩ ?_ (fun _=>au _) ?_
 ·simp only [go_sem,dy,br,ld]
 ·rintro ⟨i,hi,aN⟩;by_cases bA:(i:Int)<g.length
  ·have aU:i<g.length:=by omega
   have tG:=yq aU;have D2:(syms g).getD i .undef=g[i].aM:=qS aU;have rf:List.take i (syms g)=syms (g.take i):=by simp [syms,List.map_take]
   generalize hx:g[i]=x at tG D2;simp only [go_sem,ld,bA,aR,D2,pU,ae]
   (repeat ((with_reducible refine And.intro ?_ ?_); ·omega))
   rw [show List.take (i - 0) (syms g)=syms (g.take i) from rf]
   refine (Znt _ _ (fun y=>y.name.toList==x.name.toList) (g.take i) (by rw [cA];omega) ?_ ?_ ?_).mono ?_
   ·simp [go_sem]
   ·simp [go_sem]
   ·exact fun j hj=>Zvl x _
   rintro r σ' ⟨rfl,rfl⟩;refine aG.go 1000 ?_;have Aq:fresh g i = !(g.take i).any (fun y=>y.name.toList==x.name.toList):=by
    rw [fresh,tG,List.all_eq_not_any_not];simp
   have jA:jY g i=(x.right && !(g.take i).any (fun y=>y.name.toList==x.name.toList)):=by rw [jY,tG,Aq]
   have pG:∀ (hb:x.right=false∨(g.take i).any (fun y=>y.name.toList==x.name.toList)=true),(if eg g=true then (0:Int) else 1)=1:=fun hb=>by
    rw [bad i aU (by rw [jA];rcases hb with h | h<;>simp [h])];rfl
   generalize (g.take i).any (fun y=>y.name.toList==x.name.toList)=tw at *
   by_cases d1:(x.name.size:Int)<1
   ·simp only [go_sem,Ck,d1];refine aG.go 1000 ?_;simp only [go_sem,pG (.inl (yp (.inl d1)))]
   by_cases d2 : 64<(x.name.size:Int)
   ·simp only [go_sem,Ck,d1,d2];refine aG.go 1000 ?_;simp only [go_sem,pG (.inl (yp (.inr (.inl d2))))]
   cases tw with
   | true =>
    simp only [go_sem,Ck,d1,d2];refine aG.go 1000 ?_;simp only [go_sem,pG (.inr rfl)]
   | false =>
   by_cases d3:x.arity<0
   ·simp only [go_sem,Ck,d1,d2,d3];refine aG.go 1000 ?_;simp only [go_sem,pG (.inl (yp (.inr (.inr (.inl d3)))))]
   by_cases d4 : 8<x.arity
   ·simp only [go_sem,Ck,d1,d2,d3,d4];refine aG.go 1000 ?_;simp only [go_sem,pG (.inl (yp (.inr (.inr (.inr (.inl d4))))))]
   by_cases d5:x.weight<1
   ·simp only [go_sem,Ck,d1,d2,d3,d4,d5];refine aG.go 1000 ?_;simp only [go_sem,pG (.inl (yp (.inr (.inr (.inr (.inr (.inl d5)))))))]
   by_cases d6 : 1000<x.weight
   ·simp only [go_sem,Ck,d1,d2,d3,d4,d5,d6];refine aG.go 1000 ?_;simp only [go_sem,pG (.inl (yp (.inr (.inr (.inr (.inr (.inr d6)))))))]
   have zA:=WO ⟨d1,d2,d3,d4,d5,d6⟩;simp only [go_sem,Ck,d1,d2,d3,d4,d5,d6];refine ⟨⟨i+1,aU,by rw [La,aN,jA,zA];rfl⟩,?_,by simp only;omega⟩;simp only [go_sem,dy,ld];rw [dQ (by omega)];rfl
  ·have dZ:i=g.length:=by omega
   simp only [go_sem,bA];subst dZ;refine aG.go 1000 ?_;rw [Ep,aN,XO];simp only [go_sem]
end Go.Proofs
namespace Go.Proofs
open Go Go.dm
mutual
def Tm.pre:Tm→Int→List (Int×Tm)
 | .mk h ts,d=>(d, .mk h ts) :: Tm.my ts (d+1)
def Tm.my:List Tm→Int→List (Int×Tm)
 | [],_=>[]
 | t :: ts,d=>t.pre d++Tm.my ts d
end
mutual
theorem GL:∀ (t:Tm) (d:Int),(t.pre d).length=t.size
 | .mk h ts,d=>by simp only [Tm.pre,ax,Tm.size];rw [M9 ts];omega
theorem M9:∀ (ts:List Tm) (d:Int),(Tm.my ts d).length=Tm.bG ts
 | [],_=>rfl
 | t :: ts,d=>by simp only [Tm.my,az,Tm.bG];rw [GL t,M9 ts]
end
def rem (EO:List (Int×Tm)):List (Int×Tm):=EO.flatMap fun x=>x.2.pre x.1
theorem Yte:rem []=[]:=rfl
theorem JR (x:Int×Tm) (r:List (Int×Tm)):rem (x :: r)=x.2.pre x.1++rem r:=rfl
theorem Yva (t:Tm) (d:Int):rem [(d,t)]=t.pre d:=by rw [JR,Yte,bu]
theorem WT (d:Int) (ts:List Tm) (r:List (Int×Tm)):rem (ts.map (fun t=>(d,t))++r)=Tm.my ts d++rem r:=by
 induction ts with
 | nil=>rfl
 | cons t ts ih =>
  rw [aK,bp,JR,ih,← cU];rfl
theorem NA (EO:List (Int×Tm)):EO.length≤(rem EO).length:=by
 induction EO with
 | nil=>exact ae _
 | cons x r ih=>rw [JR,az,GL,ax];have:=QL x.2;omega
def ll (x:Int×Tm):ah:=.agg [.int .i64 x.2.head, .ps 2 (x.2.args.map Tm.aM), .int .i64 x.1]
theorem Yic (x:Int×Tm):(ll x).cells=[.int .i64 x.2.head, .ps 2 (x.2.args.map Tm.aM), .int .i64 x.1]:=rfl
theorem Sh (x:Int×Tm):ll x = .agg [.int .i64 x.2.head, .ps 2 (x.2.args.map Tm.aM), .int .i64 x.1]:=rfl
theorem GO {n:Nat} (x:Int×Tm):(ll x).low n:=⟨trivial,bW _,trivial,trivial⟩
theorem Cr {n:Nat} (l:List (Int×Tm)):bF n (l.map ll):=uU fun x _=>GO x
theorem tA {n:Nat} {b:List ah}:∀ {a:List ah},bF n a→bF n b→bF n (a++b)
 | [],_,h=>h
 | _ :: _,ha,h=>⟨ha.1,tA ha.2 h⟩
def p8 (T:Int) (x:Int×Tm):Prop:=1≤x.1∧x.1+x.2.size≤T
def jR (t:Tm):Bool:=!(t.head<0&&decide (0<t.args.length)||t.head < -256||decide (1023<t.head)||decide (8<t.args.length))
def gj (l:List (Int×Tm)) (a:Int):Int:=l.foldl (fun m x=>max m x.1) a
theorem Te (l m:List (Int×Tm)) (a:Int):gj (l++m) a=gj m (gj l a):=oH
mutual
theorem QG:∀ (t:Tm) (d a:Int),gj (t.pre d) a=max a (d+t.depth - 1)
 | .mk h ts,d,a=>by
  have e:gj ((Tm.mk h ts).pre d) a=gj (Tm.my ts (d+1)) (max a d):=rfl;rw [e,UE ts (d+1) (max a d) (by omega)];simp only [Tm.depth];omega
theorem UE:∀ (ts:List Tm) (d a:Int),d - 1≤a→gj (Tm.my ts d) a=max a (d+Tm.fW ts - 1)
 | [],d,a,h=>by simp only [Tm.my,gj,List.foldl_nil,Tm.fW];omega
 | t :: ts,d,a,h=>by
  simp only [Tm.my,Te,Tm.fW];rw [QG t d a,UE ts d _ (by omega)];omega
end
mutual
theorem Ws:∀ (t:Tm) (d:Int),(t.pre d).any (fun x=>!jR x.2) = !t.good
 | .mk h ts,d=>by
  simp only [Tm.pre,dC,Tm.good];rw [U4 ts];simp only [jR,Tm.head,Tm.args,Bool.not_and,Bool.not_not];rfl
theorem U4:∀ (ts:List Tm) (d:Int),(Tm.my ts d).any (fun x=>!jR x.2) = !Tm.fH ts
 | [],d=>rfl
 | t :: ts,d=>by
  simp only [Tm.my,List.any_append,Tm.fH];rw [Ws t,U4 ts,Bool.not_and]
end
theorem SL:∀ (l:List (Int×Tm)) (a:Int),0≤a→a<2 ^ 62→(∀ x∈l,x.1<2 ^ 62)→0≤gj l a∧gj l a<2 ^ 62
 | [],a,h0,h1,_=>⟨h0,h1⟩
 | x :: l,a,h0,h1,h=>by
  have hx:=h x (by simp);exact SL l (max a x.1) (by omega) (by omega) fun z hz=>h z (by simp [hz])
theorem V1 {α:Type} {l:List α} {k:Nat} (h:k<l.length):l.take (k+1)=l.take k++[l[k]]:=by
 rw [c9,av h];rfl
theorem Ygh (t:Tm) (d:Int):∀ x∈t.pre d,d≤x.1∧x.1≤d+t.size:=by
 have key:∀ (t:Tm) (d:Int), ∀ x∈t.pre d,d≤x.1∧x.1≤d+t.depth - 1:=by
  intro t
  induction t using Tm.gN with
  | h h ts ih =>
   intro d x hx;simp only [Tm.pre,aQ] at hx;rcases hx with rfl | hx
   ·simp only [Tm.depth];omega
   ·have hs:∀ (us:List Tm) (e:Int),(∀ (i:Nat) (hi:i<us.length) (d:Int) (x:Int×Tm),x∈us[i].pre d→d≤x.1∧x.1≤d+us[i].depth - 1)→∀ x∈Tm.my us e,e≤x.1∧x.1≤e+Tm.fW us - 1:=by
     intro us
     induction us with
     | nil=>intro e _ x hx;simp [Tm.my] at hx
     | cons u us pq =>
      intro e hh x hx;simp only [Tm.my,aY] at hx;simp only [Tm.fW];rcases hx with hx | hx
      ·have:=hh 0 (by simp) e x hx;simp only [ez] at this;omega
      ·have:=pq e (fun i hi=>hh (i+1) (by simpa using hi)) x hx;omega
    have:=hs ts (d+1) (fun i hi d x hx=>ih i hi d x hx) x hx;simp only [Tm.depth];omega
 intro x hx;have:=key t d x hx;have:=Ld t;omega
def uW (o:List Int) (x:Int×Tm):List Int:=if x.2.head<0 then kU o (-1 - x.2.head) else o
def kr (l:List (Int×Tm)) (o:List Int):List Int:=l.foldl uW o
theorem V6 (l m:List (Int×Tm)) (o:List Int):kr (l++m) o=kr m (kr l o):=oH
theorem Yht (o l:List Int) (v:Int):dV o (kU l v)=kU (dV o l) v:=by
 unfold kU;by_cases h:v∈l
 ·rw [if_pos h,if_pos ((LJ l o v).2 (.inr h))]
 ·rw [if_neg h];simp only [dV,oH,qA,List.foldl_nil];rfl
theorem SK:∀ (l2 o l1:List Int),dV o (dV l1 l2)=dV (dV o l1) l2
 | [],_,_=>rfl
 | v :: l2,o,l1=>by
  have h:∀ o,dV o (v :: l2)=dV (kU o v) l2:=fun _=>rfl;rw [h,SK l2,Yht,h]
mutual
theorem WI:∀ (t:Tm) (d:Int) (o:List Int),kr (t.pre d) o=dV o t.vars
 | .mk h ts,d,o=>by
  have e:kr ((Tm.mk h ts).pre d) o=kr (Tm.my ts (d+1)) (if h<0 then kU o (-1 - h) else o):=rfl
  rw [e,V3 ts (d+1) _ (if h<0 then [-1 - h] else []) o ?_]
  ·rfl
  ·split<;>rfl
theorem V3:∀ (ts:List Tm) (d:Int) (o l o0:List Int),dV o0 l=o→kr (Tm.my ts d) o=dV o0 (Tm.gw ts l)
 | [],d,o,l,o0,h=>h.symm
 | t :: ts,d,o,l,o0,h=>by
  simp only [Tm.my,V6,Tm.gw];rw [WI t d o];exact V3 ts d _ _ o0 (by rw [SK,h])
end
theorem Ydl {o:List Int} {v:Int} (h:o.Nodup):(kU o v).Nodup:=by
 unfold kU;split
 ·exact h
 ·rename_i hn;rw [fU];exact ⟨h,by simp,by simp;intro a ha vl;exact hn (vl ▸ ha)⟩
theorem SZ:∀ (l o:List Int),o.Nodup→(dV o l).Nodup
 | [],_,h=>h
 | v :: l,o,h=>SZ l (kU o v) (Ydl h)
theorem SX:∀ (l o:List Int),l.Nodup→(∀ v∈l,v ∉ o)→dV o l=o++l
 | [],o,_,_=>by simp [dV]
 | v :: l,o,h,hd=>by
  have h':dV o (v :: l)=dV (kU o v) l:=rfl;have hv:kU o v=o++[v]:=if_neg (hd v (by simp));rw [h',hv,SX l _ (eT.1 h).2]
  ·simp
  ·intro x hx hm;rcases aY.1 hm with hm | hm
   ·exact hd x (by simp [hx]) hm
   ·rw [aL.1 hm] at hx;exact (eT.1 h).1 hx
mutual
theorem Yba:∀ t:Tm,t.vars.Nodup
 | .mk h ts=>IP ts _ (by split<;>simp)
theorem IP:∀ (ts:List Tm) (o:List Int),o.Nodup→(Tm.gw ts o).Nodup
 | [],_,h=>h
 | t :: ts,o,h=>IP ts _ (SZ _ _ h)
end
theorem Yfy (t:Tm) (d:Int):kr (t.pre d) []=t.vars:=by
 rw [WI,SX _ _ (Yba t) (by simp),bn]
theorem Yjg (l:List (Int×Tm)):∀ o:List Int,(kr l o).length≤o.length+l.length:=by
 induction l with
 | nil=>intro o;simp [kr]
 | cons x l ih =>
  intro o;have:=ih (uW o x);have h2:(uW o x).length≤o.length+1:=by
   unfold uW;split
   ·exact Wq _ _
   ·omega
  have e:kr (x :: l) o=kr l (uW o x):=rfl;rw [e];simp only [ax];omega
mutual
theorem RF:∀ (t:Tm),t.fit→∀ (d:Int), ∀ x∈t.pre d,x.2.fit
 | .mk h ts,hf,d,x,hx=>by
  simp only [Tm.pre,aQ] at hx;rcases hx with rfl | hx
  ·exact hf
  ·exact Qx ts hf.2 _ x hx
theorem Qx:∀ (ts:List Tm),Tm.fits ts→∀ (d:Int), ∀ x∈Tm.my ts d,x.2.fit
 | [],_,d,x,hx=>by simp [Tm.my] at hx
 | t :: ts,hf,d,x,hx=>by
  simp only [Tm.my,aY] at hx;rcases hx with hx | hx
  ·exact RF t hf.1 d x hx
  ·exact Qx ts hf.2 d x hx
end
end Go.Proofs
namespace Go.Proofs
open Go Go.dm
attribute [local go_sem] Nat.reduceAdd Nat.reduceSub Nat.reduceMul Nat.reduceLeDiff Nat.reduceEqDiff Nat.reduceBEq
theorem Zxg (ts:List Tm) (n0:Nat) (kL:ai) (S:Nat→ai) (p:Nat) (y:ah) (h0 : kL.length=n0) (y4 : kL++[none]=S 0) (hlen:∀ i,(S i).length=n0+1) (eJ:∀ i,bP (S i) p=some (.var [.ps 2 (ts.map Tm.aM)])) (hp:p<n0)
  (hs:∀ i,bD (n0+1) (S i)) (ow:bD n0 kL) (oB:y.low n0) (hl:ts.length<2 ^ 62)
  (hy:∀ i (h:i<ts.length),aq Tryz.prog y [.int .i64 ((ts.length:Int) - 1 - i),ts[ts.length - 1 - i].aM] (S i) (fun r σ'=>r = .bool true∧n0+1≤σ'.length∧bD σ'.length σ'∧∃ π:Nat→Nat,(∀ b,b<n0→π b=b)∧(∀ b b',b<n0+1→b'<n0+1→π b = π b'→b=b')∧gW π σ' 0 (S (i+1)))) :
  aq Tryz.prog (.fn 183 [] [.ptr p 0]) [y] kL (fun _ σ'=>σ'=S ts.length):=by
 subst h0;refine aq.mI (rs:=[]) (m:=17) Tryz.func183 rfl rfl rfl rfl rfl ?_;refine aG.pad 1 (ae _) (by simp [go_sem,oB,hp]) ow ?_;rw [show List.replicate 1 (none:Option bO)=[none] from rfl,y4]
 refine aG.go 1000 ?_;simp only [go_sem,eJ,ae,aj];rw [dQ (by omega)];have Eg:bD (kL.length+1) (S 0):=hs 0;refine aG.cO (ι:={i:Nat // i≤ts.length}) 1000 (fun i=>fe 19 [(0,y),(1, .ptr p 0),(3, .int .i64 ((ts.length:Int) - 1 - i.1))]) (fun i=>S i.1) (fun i=>ts.length - i.1) ⟨0,by omega⟩ ?_ (fun i=>by rw [hlen];exact ep _) ?_
 ·simp only [go_sem,hlen,Eg,nG (ep _) oB,br,Int.sub_zero];exact ⟨f_ _,by omega⟩
 ·rintro ⟨i,hi⟩;by_cases bA : 0≤(ts.length:Int) - 1 - i
  ·have aU:i<ts.length:=by omega
   have hb:ts.length - 1 - i<ts.length:=by omega
   have hn:((ts.length:Int) - 1 - i).toNat=ts.length - 1 - i:=by omega
   simp only [go_sem,bA,eJ,ae,aj,hn,mC hb,fL];rw [← cZ]
   (repeat ((with_reducible refine And.intro ?_ ?_); ·omega))
   refine aG.yU (.bool true) trivial (by rw [hlen];exact ep _) ?_ ?_ ?_ ?_ ?_ ?_
   ·rw [hlen];exact nG (ep _) oB
   ·simp [go_sem,dG]
   ·rw [hlen];exact hs i
   ·rw [hlen];simp [go_sem,EZ,E7,Du,oB,hp,bW,dG]
   ·rw [hlen];have oP:=nG (ep _) oB;simp [go_sem,oP,bW,dG];omega
   rw [hlen];refine (hy i aU).mono ?_;rintro r σ' ⟨k1,k2,k3,π,k4,k5,k6⟩;refine ⟨k1,k2,k3,π,S (i+1),hlen _,k4,k5,k6,hs _,?_⟩;refine aG.go 1000 ?_;simp only [go_sem];refine ⟨⟨i+1,aU⟩,?_,by simp only;omega⟩;have Eh:bD (kL.length+1) (S (i+1)):=hs (i+1);simp only [go_sem,hlen,Eh,nG (ep _) oB];rw [dQ (by omega)];exact ⟨by rw [show (ts.length:Int) - 1 - i - 1=ts.length - 1 - ((i+1:Nat):Int) by omega],f_ _,by omega⟩
  ·have dZ:i=ts.length:=by omega
   subst dZ;simp only [go_sem,bA];refine aG.go 1000 ?_;simp only [go_sem];rw [gC];exact ⟨S ts.length,f_ _,by rw [hlen];exact ep _,by rw [hlen];exact hs _,trivial,rfl⟩
theorem Zui (ts:List Tm) (σ:ai) (hs:bD σ.length σ):aq Tryz.prog (.fn 157 [] []) [.ps 2 (ts.map Tm.aM)] σ
  (fun r σ'=>r = .fn 183 [] [.ptr σ.length 0]∧σ' = σ++[some (.var [.ps 2 (ts.map Tm.aM)])]):=by
 refine aq.begin (rs:=[.tmp 2]) (m:=3) 1000 Tryz.func157 rfl rfl rfl rfl rfl ?_;simp only [go_sem];rw [Cq,gC];exact ⟨_,f_ _,by simp,pS (oe (by simp) hs) (by simp [go_sem,bW]),by simp [go_sem],rfl,rfl⟩
theorem Qq (t:Tm) (σ:ai) (hs:bD σ.length σ):aq Tryz.prog (.fn 130 [] []) [t.aM] σ
  (fun r σ'=>r = .fn 156 [] [.ptr σ.length 0]∧σ' = σ++[some (.var [.int .i64 t.head, .ps 2 (t.args.map Tm.aM)])]):=by
 refine aq.begin (rs:=[.tmp 2]) (m:=3) 1000 Tryz.func130 rfl rfl rfl rfl rfl ?_;simp only [go_sem,cZ];rw [Cq,gC];exact ⟨_,f_ _,by simp,pS (oe (by simp) hs) (by simp [go_sem,bW]),by simp [go_sem],rfl,rfl⟩
theorem UB (t:Tm) (fJ:t.size<999999999) (n0:Nat) (yz:n0≤8) (kL:ai) (b0 b1 b2 b3 b4 b5 b6 b7:Nat→Option bO) (p:Nat) (y:ah) (h0 : kL.length=n0)
  (y4 : kL++List.replicate (8 - n0) none=[b0 0,b1 0,b2 0,b3 0,b4 0,b5 0,b6 0,b7 0]) (eJ:bP [b0 0,b1 0,b2 0,b3 0,b4 0,b5 0,b6 0,b7 0] p=some (.var [.int .i64 t.head, .ps 2 (t.args.map Tm.aM)])) (hp:p<n0)
  (hs:∀ k,bD 8 [b0 k,b1 k,b2 k,b3 k,b4 k,b5 k,b6 k,b7 k]) (ow:bD n0 kL) (oB:y.low n0)
  (hy:∀ k (h:k<(t.pre 1).length),aq Tryz.prog y [.int .i64 (t.pre 1)[k].1,(t.pre 1)[k].2.aM] [b0 k,b1 k,b2 k,b3 k,b4 k,b5 k,b6 k,b7 k]
   (fun r σ'=>r = .bool true∧8≤σ'.length∧bD σ'.length σ'∧∃ π:Nat→Nat,(∀ b,b<n0→π b=b)∧(∀ b b',b<8→b'<8→π b = π b'→b=b')∧gW π σ' 0 [b0 (k+1),b1 (k+1),b2 (k+1),b3 (k+1),b4 (k+1),b5 (k+1),b6 (k+1),b7 (k+1)])) :
  aq Tryz.prog (.fn 156 [] [.ptr p 0]) [y] kL (fun _ σ'=>σ'=[b0 t.size,b1 t.size,b2 t.size,b3 t.size,b4 t.size,b5 t.size,b6 t.size,b7 t.size]):=by
 subst h0;refine aq.mI (rs:=[]) (m:=43) Tryz.func156 rfl rfl rfl rfl rfl ?_;refine aG.pad (8 - kL.length) (ae _) (by simp [go_sem,oB,hp]) ow ?_;rw [y4];have En:=GL t 1;refine aG.go 1000 ?_;simp only [go_sem,eJ,ae];refine ⟨by decide,?_⟩;refine aG.gf (ι:={x:List (Int×Tm)×List ah×Nat // x.2.2≤t.size∧(t.pre 1).drop x.2.2=rem x.1∧(∀ z∈x.1,p8 (t.size+1) z)∧bF 0 x.2.1}) 1000 (fun x=>fe 45 [(0,y),(1, .ptr p 0),(3, .ptr 9 0)])
  (fun x=>[b0 x.1.2.2,b1 x.1.2.2,b2 x.1.2.2,b3 x.1.2.2,b4 x.1.2.2,b5 x.1.2.2,b6 x.1.2.2,b7 x.1.2.2,some (.row (x.1.1.reverse.map ll++x.1.2.1) 0),some (.var [.os 8 0 x.1.1.length 3])]) (fun x=>t.size - x.1.2.2)
  ⟨([(1,t)],[],0),au _,by rw [dH];exact (Yva t 1).symm,by simp [p8,Int.add_comm],trivial⟩ [] ?_ (fun _=>by simp;omega) ?_
 ·refine iz (Nk _ _) ⟨?_,?_,?_,?_⟩
  ·have oP:=ry (pi []) _ (fun _ _=>rfl) [y] ⟨oB,trivial⟩;simp only [eK,h_,and_true] at oP;simp only [go_sem,oP]
  ·refine A7 (B:=[b0 0,b1 0,b2 0,b3 0,b4 0,b5 0,b6 0,b7 0]) (hs 0) (fun _ _=>rfl) ?_;simp only [go_sem,oI,lZ,bn,aK,aV,bu,Sh,cK (bW _)]
  ·have oP:=nG (m:=10) (by omega) oB;simp only [go_sem,oP];omega
  ·refine pS (σ:=[b0 0,b1 0,b2 0,b3 0,b4 0,b5 0,b6 0,b7 0]) (oe (b9 8 2) (hs 0)) ?_;simp [go_sem,bW,Sh]
 ·rintro ⟨⟨EO,junk,k⟩,h1,h2,h3,h4⟩;simp only at h1 h2 h3 h4;cases EO with
  | nil =>
   have hk:k=t.size:=by
    have:=congrArg List.length h2;simp only [rem,lY,aS,cz,En] at this;omega
   subst hk;simp only [go_sem,aS,br,km];refine aG.go 1000 ?_;simp only [go_sem];rw [gC];refine ⟨[b0 t.size,b1 t.size,b2 t.size,b3 t.size,b4 t.size,b5 t.size,b6 t.size,b7 t.size],by simp [go_sem],by simpa using yz,hs _,trivial,rfl⟩
  | cons x r =>
   have hlen:((x :: r).reverse.map ll++junk).length=r.length+1+junk.length:=by simp;omega
   have kj:(x :: r).reverse.map ll++junk=r.reverse.map ll++ll x :: junk:=by simp
   have hgx:(r.reverse.map ll++ll x :: junk).getD r.length .undef=ll x:=by simp
   have CP:(r.reverse.map ll++ll x :: junk).length=r.length+1+junk.length:=by rw [← kj,hlen]
   have FT:r.length<1000000000:=by
    have:=congrArg List.length h2;have h5:=NA (x :: r);rw [cz,En] at this;simp only [ax] at h5;omega
   have rh:IntKind.i64.wrap ((r.length:Int)+1 - 1)=r.length:=by rw [dQ (by omega)];omega
   have ou:(0:Int)<r.length+1:=by omega
   simp only [go_sem,ax,kj,eR,eS,ou,rh,CP,aR,hgx,Yic,ae];obtain ⟨d,⟨hd,ts⟩⟩:=x;have hk:k<(t.pre 1).length:=by
    have:=congrArg List.length h2;have h5:=NA ((d,Tm.mk hd ts) :: r);rw [cz] at this;simp only [ax] at h5;omega
   rw [ao hk,JR,Tm.pre,bp,← WT] at h2;obtain ⟨hLk,hdr⟩:=ko h2;have jH:r.length+Tm.bG ts<999999999:=by
    have:=congrArg List.length hdr;rw [cz,WT,az,M9] at this;have:=NA r;omega
   have Hz:p8 (t.size+1) (d,Tm.mk hd ts):=h3 _ (by simp);simp only [p8,Tm.size] at Hz;have xm:=hy k hk;rw [hLk] at xm;simp only [Tm.head,Tm.args,ie];rw [FC];have yx:∀ n,bF n (r.reverse.map ll++ll (d,Tm.mk hd ts) :: junk):=fun n=>tA (Cr _) ⟨GO _,iO (au _) h4⟩
   (repeat ((with_reducible refine And.intro ?_ ?_); ·omega))
   refine aG.rS (σ:=[b0 k,b1 k,b2 k,b3 k,b4 k,b5 k,b6 k,b7 k]) (τ:=[some (.row (r.reverse.map ll++ll (d,Tm.mk hd ts) :: junk) 0),some (.var [.os 8 0 r.length 3]),some (.var [.int .i64 hd, .ps 2 (ts.map Tm.aM), .int .i64 d])]) (.bool true) trivial (by simpa using yz) ?_ ?_ (hs k) ?_ ?_ ?_ ?_ ?_
   ·exact nG yz oB
   ·simp [go_sem,dG]
   ·simp [go_sem,EZ,E7,Du,Ywc,SB,Zr,oB,hp,bW,dG]
   ·simp only [TV,Vh,Yre,Yv9];refine ⟨Yk5 (yx _),?_,?_,trivial⟩
    ·simp [EZ,E7,SB]
    ·simp [EZ,E7,Du,go_sem,bW]
   ·have oP:=nG (m:=11) (by omega) oB;simp [go_sem,oP,bW,dG];omega
   ·exact ⟨yx _,⟨by simp [go_sem],trivial⟩,by simp [go_sem,jK,bO.low,bW],trivial⟩
   refine xm.mono ?_;rintro r' σ' ⟨k1,k2,k3,π,k4,k5,k6⟩;refine ⟨k1,k2,k3,π,[b0 (k+1),b1 (k+1),b2 (k+1),b3 (k+1),b4 (k+1),b5 (k+1),b6 (k+1),b7 (k+1)],rfl,k4,k5,k6,hs _,?_⟩;refine aG.go 1000 ?_;simp only [go_sem];have AA:=oe (m:=11) (by decide) (hs (k+1));simp only [xD,Gt,and_true] at AA;refine (Zui ts _ ?_).mono ?_
   ·simp only [go_sem,xD,AA,yx,bW,yk,and_true,true_and,ax,aS];decide
   rintro _ _ ⟨rfl,rfl⟩;refine aG.go 1000 ?_;simp only [go_sem];refine aG.rangeFunc (fe 45 [(3, .ptr 9 0),(4, .ptr 10 0)]) ?_ ?_ (fun ρ ht wH lH rZ=>?_)
   ·simp only [go_sem]
   ·exact fun b hb=>by cases hb
   simp only [go_sem]
   let S:Nat→ai:=fun i=>match i with
    | 0=>[b0 (k+1),b1 (k+1),b2 (k+1),b3 (k+1),b4 (k+1),b5 (k+1),b6 (k+1),b7 (k+1),some (.row (r.reverse.map ll++ll (d,Tm.mk hd ts) :: junk) 0),some (.var [.os 8 0 r.length 3]),some (.var [.int .i64 hd, .ps 2 (ts.map Tm.aM), .int .i64 d]),some (.var [.ps 2 (ts.map Tm.aM)]),some (.loop (ρ.at .ready)),none]
    | i+1=>[b0 (k+1),b1 (k+1),b2 (k+1),b3 (k+1),b4 (k+1),b5 (k+1),b6 (k+1),b7 (k+1),none,some (.var [.os 13 0 (r.length+(i+1)) 3]),some (.var [.int .i64 hd, .ps 2 (ts.map Tm.aM), .int .i64 d]),some (.var [.ps 2 (ts.map Tm.aM)]),some (.loop (ρ.at .ready)),some (.row (((ts.drop (ts.length - (i+1))).map (fun u=>(d+1,u))++r).reverse.map ll) 0)]
   have y4:S 0=[b0 (k+1),b1 (k+1),b2 (k+1),b3 (k+1),b4 (k+1),b5 (k+1),b6 (k+1),b7 (k+1),some (.row (r.reverse.map ll++ll (d,Tm.mk hd ts) :: junk) 0),some (.var [.os 8 0 r.length 3]),some (.var [.int .i64 hd, .ps 2 (ts.map Tm.aM), .int .i64 d]),some (.var [.ps 2 (ts.map Tm.aM)]),some (.loop (ρ.at .ready)),none]:=rfl;have Hl:∀ i,S (i+1)=[b0 (k+1),b1 (k+1),b2 (k+1),b3 (k+1),b4 (k+1),b5 (k+1),b6 (k+1),b7 (k+1),none,some (.var [.os 13 0 (r.length+(i+1)) 3]),some (.var [.int .i64 hd, .ps 2 (ts.map Tm.aM), .int .i64 d]),some (.var [.ps 2 (ts.map Tm.aM)]),some (.loop (ρ.at .ready)),some (.row (((ts.drop (ts.length - (i+1))).map (fun u=>(d+1,u))++r).reverse.map ll) 0)]:=fun i=>rfl;refine (Zxg ts 13 _ S 11 (.lN 12) rfl rfl (fun i=>by cases i<;>rfl) (fun i=>by cases i<;>rfl) (by decide) (fun i=>?_) ?_ (cN 12) ?_ (fun i hi=>?_)).mono ?_
   ·have jJ:bF 14 ρ.tm:=by rw [ht];simp [go_sem,Bb,Bg]
    have aN:=oe (m:=14) (by decide) (hs (k+1));cases i with
    | zero=>exact pS (σ:=[b0 (k+1),b1 (k+1),b2 (k+1),b3 (k+1),b4 (k+1),b5 (k+1),b6 (k+1),b7 (k+1)]) aN ⟨yx _,⟨by simp [go_sem],trivial⟩,by simp [go_sem,jK,bO.low,bW],by simp [go_sem,jK,bO.low,bW],jJ,trivial,trivial⟩
    | succ i=>exact pS (σ:=[b0 (k+1),b1 (k+1),b2 (k+1),b3 (k+1),b4 (k+1),b5 (k+1),b6 (k+1),b7 (k+1)]) aN ⟨trivial,⟨by simp [go_sem],trivial⟩,by simp [go_sem,jK,bO.low,bW],by simp [go_sem,jK,bO.low,bW],jJ,Cr _,trivial⟩
   ·have jJ:bF 13 ρ.tm:=by rw [ht];simp [go_sem,Bb,Bg]
    have aN:=oe (m:=13) (by decide) (hs (k+1));exact pS (σ:=[b0 (k+1),b1 (k+1),b2 (k+1),b3 (k+1),b4 (k+1),b5 (k+1),b6 (k+1),b7 (k+1)]) aN ⟨yx _,⟨by simp [go_sem],trivial⟩,by simp [go_sem,jK,bO.low,bW],by simp [go_sem,jK,bO.low,bW],jJ,trivial⟩
   ·have:=oZ ts;omega
   ·have Eu:IntKind.i64.wrap (d+1)=d+1:=dQ (by omega);have bA:=oZ ts;have htn:t.size<999999999:=fJ;have hb:ts.length - 1 - i<ts.length:=by omega
    have Hx:ts.drop (ts.length - (i+1))=ts[ts.length - 1 - i] :: ts.drop (ts.length - i):=by
     rw [show ts.length - (i+1)=ts.length - 1 - i by omega,ao hb,show ts.length - 1 - i+1=ts.length - i by omega]
    generalize ts[ts.length - 1 - i]=u at *
    have KC:ah.agg [.int .i64 u.head, .ps 2 (u.args.map Tm.aM), .int .i64 (d+1)]=ll (d+1,u):=rfl;have zC:bF 13 ρ.tm:=by rw [ht];simp [go_sem,Bb,Bg]
    have xe:∀ π:Nat→Nat,(∀ b,b<13→π b=b)→ef π (.loop (ρ.at .ready)) = .loop (ρ.at .ready):=fun π F2=>Bf π 13 F2 _ zC;cases i with
    | zero =>
     have rf:List.take r.length (r.reverse.map ll++ll (d,Tm.mk hd ts) :: junk)=r.reverse.map ll:=by rw [List.take_left' (by simp)]
     refine aq.l9 1000 ht wH lH rZ (by rw [y4];rfl) rfl ?_
     clear_value S
     rw [y4];simp only [go_sem,fL,ae,Eu,eW,aL,forall_eq,CP,rf]
     (repeat ((with_reducible refine And.intro ?_ ?_); ·omega))
     rw [uV];have xh:∀ b,b<13→pi [(13,16),(16,13)] b=b:=by decide
     have gx : [b0 (k+1),b1 (k+1),b2 (k+1),b3 (k+1),b4 (k+1),b5 (k+1),b6 (k+1),b7 (k+1),none,some (.var [.os 16 0 (r.length+1) 3]),some (.var [.int .i64 hd, .ps 2 (ts.map Tm.aM), .int .i64 d]),some (.var [.ps 2 (ts.map Tm.aM)]),some (.loop (ρ.at .ready)),none,none,none,some (.row (r.reverse.map ll++[ll (d+1,u)]) 0)]=([b0 (k+1),b1 (k+1),b2 (k+1),b3 (k+1),b4 (k+1),b5 (k+1),b6 (k+1),b7 (k+1)]++[none,some (.var [.os 16 0 (r.length+1) 3]),some (.var [.int .i64 hd, .ps 2 (ts.map Tm.aM), .int .i64 d]),some (.var [.ps 2 (ts.map Tm.aM)]),some (.loop (ρ.at .ready)),none,none,none,some (.row (r.reverse.map ll++[ll (d+1,u)]) 0)]:ai):=rfl;have vt:bD 17 [b0 (k+1),b1 (k+1),b2 (k+1),b3 (k+1),b4 (k+1),b5 (k+1),b6 (k+1),b7 (k+1),none,some (.var [.os 16 0 (r.length+1) 3]),some (.var [.int .i64 hd, .ps 2 (ts.map Tm.aM), .int .i64 d]),some (.var [.ps 2 (ts.map Tm.aM)]),some (.loop (ρ.at .ready)),none,none,none,some (.row (r.reverse.map ll++[ll (d+1,u)]) 0)]:=by
      rw [gx];exact pS (oe (b9 8 9) (hs (k+1))) ⟨trivial,⟨cN 16,trivial⟩,by simp [go_sem,jK,bO.low,bW],by simp [go_sem,jK,bO.low,bW],iO (b9 13 4) zC,trivial,trivial,trivial,tA (Cr _) ⟨GO _,trivial⟩,trivial⟩
     refine ⟨rfl,[b0 (k+1),b1 (k+1),b2 (k+1),b3 (k+1),b4 (k+1),b5 (k+1),b6 (k+1),b7 (k+1),none,some (.var [.os 16 0 (r.length+1) 3]),some (.var [.int .i64 hd, .ps 2 (ts.map Tm.aM), .int .i64 d]),some (.var [.ps 2 (ts.map Tm.aM)]),some (.loop (ρ.at .ready)),none,none,none,some (.row (r.reverse.map ll++[ll (d+1,u)]) 0)],?_,?_,vt,rfl,?_,vt,pi [(13,16),(16,13)],xh,?_,?_⟩
     ·simp [go_sem,KC]
     ·exact b9 14 3
     ·exact b9 14 3
     ·exact JH (lo:=0) rfl
     ·rw [Hl];refine A7 (B:=[b0 (k+1),b1 (k+1),b2 (k+1),b3 (k+1),b4 (k+1),b5 (k+1),b6 (k+1),b7 (k+1)]) (hs (k+1)) (fun b hb=>xh b (by simp at hb;omega)) ?_;simp only [go_sem,xe _ xh,Nat.reduceEqDiff,if_true,if_false,Nat.reduceAdd,ax,aS,and_true,true_and,cK (bW _),cK (Cr _)];refine ⟨(xe _ xh).symm,?_⟩;rw [show ts.length - 1=ts.length - (0+1) from rfl,Hx]
      simp
    | succ i =>
     have HT:(((ts.drop (ts.length - (i+1))).map (fun u=>(d+1,u))++r).reverse.map ll).length=r.length+(i+1):=by simp;omega
     have PU:List.take (r.length+(i+1)) (((ts.drop (ts.length - (i+1))).map (fun u=>(d+1,u))++r).reverse.map ll)=((ts.drop (ts.length - (i+1))).map (fun u=>(d+1,u))++r).reverse.map ll:=bh (by rw [HT];exact ae _);refine aq.l9 1000 ht wH lH rZ (by rw [Hl];rfl) rfl ?_
     clear_value S
     rw [Hl];simp only [go_sem,fL,ae,Eu,eW,aL,forall_eq,HT,PU]
     (repeat ((with_reducible refine And.intro ?_ ?_); ·omega))
     rw [uV];have xh:∀ b,b<13→pi [(13,16),(16,13)] b=b:=by decide
     have gx : [b0 (k+1),b1 (k+1),b2 (k+1),b3 (k+1),b4 (k+1),b5 (k+1),b6 (k+1),b7 (k+1),none,some (.var [.os 16 0 (r.length+(i+1)+1) 3]),some (.var [.int .i64 hd, .ps 2 (ts.map Tm.aM), .int .i64 d]),some (.var [.ps 2 (ts.map Tm.aM)]),some (.loop (ρ.at .ready)),none,none,none,some (.row (((ts.drop (ts.length - (i+1))).map (fun u=>(d+1,u))++r).reverse.map ll++[ll (d+1,u)]) 0)]=([b0 (k+1),b1 (k+1),b2 (k+1),b3 (k+1),b4 (k+1),b5 (k+1),b6 (k+1),b7 (k+1)]++[none,some (.var [.os 16 0 (r.length+(i+1)+1) 3]),some (.var [.int .i64 hd, .ps 2 (ts.map Tm.aM), .int .i64 d]),some (.var [.ps 2 (ts.map Tm.aM)]),some (.loop (ρ.at .ready)),none,none,none,some (.row (((ts.drop (ts.length - (i+1))).map (fun u=>(d+1,u))++r).reverse.map ll++[ll (d+1,u)]) 0)]:ai):=rfl;have vt:bD 17 [b0 (k+1),b1 (k+1),b2 (k+1),b3 (k+1),b4 (k+1),b5 (k+1),b6 (k+1),b7 (k+1),none,some (.var [.os 16 0 (r.length+(i+1)+1) 3]),some (.var [.int .i64 hd, .ps 2 (ts.map Tm.aM), .int .i64 d]),some (.var [.ps 2 (ts.map Tm.aM)]),some (.loop (ρ.at .ready)),none,none,none,some (.row (((ts.drop (ts.length - (i+1))).map (fun u=>(d+1,u))++r).reverse.map ll++[ll (d+1,u)]) 0)]:=by
      rw [gx];exact pS (oe (b9 8 9) (hs (k+1))) ⟨trivial,⟨cN 16,trivial⟩,by simp [go_sem,jK,bO.low,bW],by simp [go_sem,jK,bO.low,bW],iO (b9 13 4) zC,trivial,trivial,trivial,tA (Cr _) ⟨GO _,trivial⟩,trivial⟩
     refine ⟨rfl,[b0 (k+1),b1 (k+1),b2 (k+1),b3 (k+1),b4 (k+1),b5 (k+1),b6 (k+1),b7 (k+1),none,some (.var [.os 16 0 (r.length+(i+1)+1) 3]),some (.var [.int .i64 hd, .ps 2 (ts.map Tm.aM), .int .i64 d]),some (.var [.ps 2 (ts.map Tm.aM)]),some (.loop (ρ.at .ready)),none,none,none,some (.row (((ts.drop (ts.length - (i+1))).map (fun u=>(d+1,u))++r).reverse.map ll++[ll (d+1,u)]) 0)],?_,?_,vt,rfl,?_,vt,pi [(13,16),(16,13)],xh,?_,?_⟩
     ·simp [go_sem,KC]
     ·exact b9 14 3
     ·exact b9 14 3
     ·exact JH (lo:=0) rfl
     ·rw [Hl];refine A7 (B:=[b0 (k+1),b1 (k+1),b2 (k+1),b3 (k+1),b4 (k+1),b5 (k+1),b6 (k+1),b7 (k+1)]) (hs (k+1)) (fun b hb=>xh b (by simp at hb;omega)) ?_;simp only [go_sem,xe _ xh,Nat.reduceEqDiff,if_true,if_false,Nat.reduceAdd,ax,aS,and_true,true_and,cK (bW _),cK (Cr _)];refine ⟨by rw [fN],(xe _ xh).symm,?_⟩;rw [Hx];simp
   rintro r' jq rfl;rw [Dv];refine ⟨.ready,?_,?_⟩
   ·cases ts.length<;>rfl
   rw [Fj];refine aG.go 1000 ?_;have OJ:∀ z∈ts.map (fun u=>(d+1,u))++r,p8 (t.size+1) z:=by
    intro z hz;rcases aY.1 hz with hz | hz
    ·obtain ⟨u,hu,rfl⟩:=cB.1 hz;obtain ⟨j,hj,rfl⟩:=e9.1 hu;have:=w7 ts j hj;simp only [p8];omega
    ·exact h3 z (by simp [hz])
   cases hN:ts.length with
   | zero =>
    obtain rfl:=iE.1 hN;rw [y4];simp only [go_sem];refine ⟨⟨(r,ll (d,Tm.mk hd []) :: junk,k+1),by simp only;omega,by simp only;rw [hdr];rfl,fun z hz=>h3 z (by simp at hz;simp [hz]),⟨GO _,h4⟩⟩,[],iz (Nk _ _) ⟨?_,?_,?_,?_⟩,by simp only;omega⟩
    ·have oP:=ry (pi []) _ (fun _ _=>rfl) [y] ⟨oB,trivial⟩;simp only [eK,h_,and_true] at oP;simp only [go_sem,oP]
    ·refine A7 (B:=[b0 (k+1),b1 (k+1),b2 (k+1),b3 (k+1),b4 (k+1),b5 (k+1),b6 (k+1),b7 (k+1)]) (hs (k+1)) (fun _ _=>rfl) ?_;simp only [go_sem,cK (yx 0)]
    ·have oP:=nG (m:=10) (by omega) oB;simp only [go_sem,oP];omega
    ·refine pS (σ:=[b0 (k+1),b1 (k+1),b2 (k+1),b3 (k+1),b4 (k+1),b5 (k+1),b6 (k+1),b7 (k+1)]) (oe (b9 8 2) (hs (k+1))) ?_;exact ⟨yx _,⟨by simp [go_sem],trivial⟩,trivial⟩
   | succ N =>
    rw [Hl];have OH:ts.drop (ts.length - (N+1))=ts:=by rw [hN,eV,dH]
    simp only [go_sem,OH];refine ⟨⟨(ts.map (fun u=>(d+1,u))++r,[],k+1),by simp only;omega,hdr,OJ,trivial⟩,[(8,13),(13,8)],iz (Ytj yz rfl) ⟨?_,?_,?_,?_⟩,by simp only;omega⟩
    ·have oP:=ry (pi [(8,13),(13,8)]) 8 (by decide) [y] ⟨nG yz oB,trivial⟩;simp only [eK,h_,and_true] at oP;simp only [go_sem,oP];rw [if_neg (by omega),if_neg (by omega)]
    ·refine A7 (B:=[b0 (k+1),b1 (k+1),b2 (k+1),b3 (k+1),b4 (k+1),b5 (k+1),b6 (k+1),b7 (k+1)]) (hs (k+1)) (fun b hb=>by simp only [ax,aS] at hb;revert b;decide) ?_;simp only [go_sem,cK (Cr _),bu];simp only [az,aj,hN];rw [Nat.add_comm]
    ·have oP:=nG (m:=10) (by omega) oB;simp only [go_sem,oP];omega
    ·refine pS (σ:=[b0 (k+1),b1 (k+1),b2 (k+1),b3 (k+1),b4 (k+1),b5 (k+1),b6 (k+1),b7 (k+1)]) (oe (b9 8 2) (hs (k+1))) ?_;exact ⟨tA (Cr _) trivial,⟨by simp [go_sem],trivial⟩,trivial⟩
theorem Dd (t:Tm) (fJ:t.size<999999999):aD Tryz.prog 90 [t.aM] (.int .i64 t.check):=by
 refine aD.begin (rs:=[.tmp 2]) (m:=52) 1000 Tryz.func90 rfl rfl rfl (by decide) trivial ?_;simp only [go_sem,cZ,ae];rw [← cZ];refine (Qq t _ ?_).mono ?_
 ·simp [go_sem,bW]
 rintro _ _ ⟨rfl,rfl⟩;refine aG.go 1000 ?_;simp only [go_sem];refine aG.rangeFunc (fe 53 [(3, .ptr 1 0),(4, .ptr 2 0),(5, .ptr 3 0)]) ?_ ?_ (fun ρ ht wH lH rZ=>?_)
 ·simp only [go_sem]
 ·exact fun b hb=>by cases hb
 simp only [go_sem];have En:=GL t 1;have OJ:=QG t 1 0;have r7:=Ws t 1;have XS:=Ygh t 1;have jJ:bF 6 ρ.tm:=by rw [ht];simp [go_sem,Bb,Bg]
 have gx:∀ k,bD 8 [some (.var [.int .i64 t.head, .ps 2 (t.args.map Tm.aM)]),some (.var [.int .i64 (k:Nat)]),some (.var [.int .i64 (gj ((t.pre 1).take k) 0)]),some (.var [.bool (((t.pre 1).take k).any fun x=>!jR x.2)]),some (.var [.int .i64 t.head, .ps 2 (t.args.map Tm.aM)]),some (.loop (ρ.at .ready)),none,none] :=
  fun k=>⟨⟨trivial,bW _,trivial⟩,⟨trivial,trivial⟩,⟨trivial,trivial⟩,⟨trivial,trivial⟩,⟨trivial,bW _,trivial⟩,iO (by decide) jJ,trivial,trivial,trivial⟩
 refine (UB t fJ 6 (by decide) _ (fun _=>some (.var [.int .i64 t.head, .ps 2 (t.args.map Tm.aM)])) (fun k=>some (.var [.int .i64 (k:Nat)])) (fun k=>some (.var [.int .i64 (gj ((t.pre 1).take k) 0)]))
  (fun k=>some (.var [.bool (((t.pre 1).take k).any fun x=>!jR x.2)])) (fun _=>some (.var [.int .i64 t.head, .ps 2 (t.args.map Tm.aM)])) (fun _=>some (.loop (ρ.at .ready))) (fun _=>none) (fun _=>none) 4 (.lN 5) rfl rfl rfl (by decide) gx ?_ (cN 5) (fun k hk=>?_)).mono ?_
 ·exact ⟨⟨trivial,bW _,trivial⟩,⟨trivial,trivial⟩,⟨trivial,trivial⟩,⟨trivial,trivial⟩,⟨trivial,bW _,trivial⟩,jJ,trivial⟩
 ·have rf:=V1 hk;have Km:=XS _ (aC hk);have Kt : 0≤gj ((t.pre 1).take k) 0∧gj ((t.pre 1).take k) 0<2 ^ 62:=SL _ 0 (by omega) (by omega) fun x hx=>by have:=XS x (jF hx);omega
  have xg:gj ((t.pre 1).take (k+1)) 0=max (gj ((t.pre 1).take k) 0) (t.pre 1)[k].1:=by rw [rf,Te];rfl
  have sQ:((t.pre 1).take (k+1)).any (fun x=>!jR x.2)=(((t.pre 1).take k).any (fun x=>!jR x.2) || !jR (t.pre 1)[k].2):=by rw [rf,List.any_append];simp
  refine aq.stay rfl (gx (k+1)) ?_;rw [xg,sQ];generalize (t.pre 1)[k]=x at *
  generalize gj ((t.pre 1).take k) 0=mx at *
  generalize ((t.pre 1).take k).any (fun x=>!jR x.2)=wr at *
  obtain ⟨d,u⟩:=x;simp only at Km;have q_:(if mx<d then d else mx)=max mx d:=by omega
  refine aq.l9 1000 ht wH lH rZ rfl rfl ?_;simp only [go_sem,fL,ae,aj];have wG : -9223372036854775808≤(k:Int)+1∧(k:Int)+1≤9223372036854775807:=by omega
  have wF:((k+1:Nat):Int)=(k:Int)+1:=rfl;have wK:∀ X,bD 8 [some (.var [.int .i64 t.head, .ps 2 (t.args.map Tm.aM)]),some (.var [.int .i64 (k+1:Nat)]),some (.var [.int .i64 (max mx d)]),some (.var [.bool X]),some (.var [.int .i64 t.head, .ps 2 (t.args.map Tm.aM)]),some (.loop (ρ.at .ready)),none,none]:=fun X=>⟨⟨trivial,bW _,trivial⟩,⟨trivial,trivial⟩,⟨trivial,trivial⟩,⟨trivial,trivial⟩,⟨trivial,bW _,trivial⟩,iO (by decide) jJ,trivial,trivial,trivial⟩;refine aG.go 1000 ?_;refine aG.draw [.no, .no,⟨none,[],[1]⟩,⟨none,[],[1]⟩,⟨none,[],[1]⟩,⟨none,[1],[]⟩,⟨none,[2],[]⟩] 9 9 mixed rfl rfl (by decide) ?_;simp only [go_sem,da,q_];refine aG.go 1000 ?_;have Au:jR u = !(u.head<0&&decide ((0:Int)<u.args.length)||u.head < -256||decide (1023<u.head)||decide ((8:Int)<u.args.length)):=by
   simp only [jR,Int.natCast_pos,show (8:Int)<u.args.length↔8<u.args.length by omega]
  cases wr with
  | true =>
   simp only [go_sem,q_,aj,dQ wG];rw [uV];refine ⟨rfl,[some (.var [.int .i64 t.head, .ps 2 (t.args.map Tm.aM)]),some (.var [.int .i64 (k+1:Nat)]),some (.var [.int .i64 (max mx d)]),some (.var [.bool true]),some (.var [.int .i64 t.head, .ps 2 (t.args.map Tm.aM)]),some (.loop (ρ.at .ready)),none,none],by simp [go_sem,wF],ae _,wK _,rfl,?_⟩;rfl
  | false =>
   by_cases d1:u.head<0
   ·by_cases d2:(0:Int)<u.args.length
    ·simp only [go_sem,q_,d1,d2,aj,dQ wG];rw [uV];refine ⟨rfl,[some (.var [.int .i64 t.head, .ps 2 (t.args.map Tm.aM)]),some (.var [.int .i64 (k+1:Nat)]),some (.var [.int .i64 (max mx d)]),some (.var [.bool true]),some (.var [.int .i64 t.head, .ps 2 (t.args.map Tm.aM)]),some (.loop (ρ.at .ready)),none,none],by simp [go_sem,wF],ae _,wK _,rfl,?_⟩;rw [Au,decide_eq_true d1,decide_eq_true d2];rfl
    by_cases d3:u.head < -256
    ·simp only [go_sem,q_,d1,d2,d3,aj,dQ wG];rw [uV];refine ⟨rfl,[some (.var [.int .i64 t.head, .ps 2 (t.args.map Tm.aM)]),some (.var [.int .i64 (k+1:Nat)]),some (.var [.int .i64 (max mx d)]),some (.var [.bool true]),some (.var [.int .i64 t.head, .ps 2 (t.args.map Tm.aM)]),some (.loop (ρ.at .ready)),none,none],by simp [go_sem,wF],ae _,wK _,rfl,?_⟩;rw [Au,decide_eq_true d1,decide_eq_false d2,decide_eq_true d3];rfl
    have d4:¬ 1023<u.head:=by omega
    have d5:¬ (8:Int)<u.args.length:=by omega
    simp only [go_sem,q_,d1,d2,d3,d4,d5,aj,dQ wG];rw [uV];refine ⟨rfl,[some (.var [.int .i64 t.head, .ps 2 (t.args.map Tm.aM)]),some (.var [.int .i64 (k+1:Nat)]),some (.var [.int .i64 (max mx d)]),some (.var [.bool false]),some (.var [.int .i64 t.head, .ps 2 (t.args.map Tm.aM)]),some (.loop (ρ.at .ready)),none,none],by simp [go_sem,wF],ae _,wK _,rfl,?_⟩;rw [Au,decide_eq_true d1,decide_eq_false d2,decide_eq_false d3,decide_eq_false d4,decide_eq_false d5];rfl
   have d3:¬ u.head < -256:=by omega
   by_cases d4 : 1023<u.head
   ·simp only [go_sem,q_,d1,d3,d4,aj,dQ wG];rw [uV];refine ⟨rfl,[some (.var [.int .i64 t.head, .ps 2 (t.args.map Tm.aM)]),some (.var [.int .i64 (k+1:Nat)]),some (.var [.int .i64 (max mx d)]),some (.var [.bool true]),some (.var [.int .i64 t.head, .ps 2 (t.args.map Tm.aM)]),some (.loop (ρ.at .ready)),none,none],by simp [go_sem,wF],ae _,wK _,rfl,?_⟩;rw [Au,decide_eq_false d1,decide_eq_false d3,decide_eq_true d4];rfl
   by_cases d5:(8:Int)<u.args.length
   ·simp only [go_sem,q_,d1,d3,d4,d5,aj,dQ wG];rw [uV];refine ⟨rfl,[some (.var [.int .i64 t.head, .ps 2 (t.args.map Tm.aM)]),some (.var [.int .i64 (k+1:Nat)]),some (.var [.int .i64 (max mx d)]),some (.var [.bool true]),some (.var [.int .i64 t.head, .ps 2 (t.args.map Tm.aM)]),some (.loop (ρ.at .ready)),none,none],by simp [go_sem,wF],ae _,wK _,rfl,?_⟩;rw [Au,decide_eq_false d1,decide_eq_false d3,decide_eq_false d4,decide_eq_true d5];rfl
   simp only [go_sem,q_,d1,d3,d4,d5,aj,dQ wG];rw [uV];refine ⟨rfl,[some (.var [.int .i64 t.head, .ps 2 (t.args.map Tm.aM)]),some (.var [.int .i64 (k+1:Nat)]),some (.var [.int .i64 (max mx d)]),some (.var [.bool false]),some (.var [.int .i64 t.head, .ps 2 (t.args.map Tm.aM)]),some (.loop (ρ.at .ready)),none,none],by simp [go_sem,wF],ae _,wK _,rfl,?_⟩;rw [Au,decide_eq_false d1,decide_eq_false d3,decide_eq_false d4,decide_eq_false d5];rfl
 rintro r' jq rfl;rw [Dv];refine ⟨.ready,rfl,?_⟩;rw [Fj];rw [← En,bZ,OJ,r7,En];refine aG.go 1000 ?_;simp only [go_sem];have hdd : 1≤t.depth:=by cases t;simp only [Tm.depth];omega
 unfold Tm.check;refine ⟨fun h=>by rw [if_pos (by omega)],fun h=>⟨fun h'=>by rw [if_neg (by omega),if_pos (by omega)],fun h'=>⟨fun hg=>?_,fun hg=>?_⟩⟩⟩<;>rw [if_neg (by omega),if_neg (by omega)]
 ·rw [if_neg (by simpa using hg)]
 ·rw [if_pos (by simpa using hg)]
theorem Zx9 (l:List Int) (v:Int) (hl:l.length<2 ^ 62):aD Tryz.prog 143 [.ps 1 (ints l), .int .i64 v] (.int .i64 (ei (fun x=>decide (v=x)) l 0)):=by
 refine aD.begin (rs:=[.tmp 4]) (m:=17) 1000 Tryz.func143 rfl rfl rfl (by decide) trivial ?_;simp only [go_sem];refine aG.cO (ι:={i:Nat // i≤l.length∧ei (fun x=>decide (v=x)) (l.drop i) i=ei (fun x=>decide (v=x)) l 0}) 1000 (fun i=>fe 19 [(0, .ps 1 (ints l)),(1, .int .i64 v),(7, .int .i64 l.length),(8, .int .i64 i.1)]) (fun _=>[]) (fun i=>l.length - i.1) ⟨0,by simp⟩ ?_ (fun _=>au _) ?_
 ·simp only [go_sem,dq,iZ,br]
 ·rintro ⟨i,hi,aN⟩;by_cases bA:(i:Int)<l.length
  ·have aU:i<l.length:=by omega
   have hd:ei (fun x=>decide (v=x)) (l.drop i) i=if decide (v=l[i])=true then (i:Int) else ei (fun x=>decide (v=x)) (l.drop (i+1)) ((i:Int)+1):=by
    rw [ao aU];rfl
   by_cases e:v=l[i]
   ·rw [hd,if_pos (by simp [← e])] at aN;simp only [go_sem,bA,iZ,aR,s0 aU,← e]
    (repeat ((with_reducible refine And.intro ?_ ?_); ·omega))
    refine aG.go 1000 ?_;simp only [go_sem];rw [aN]
   ·rw [hd,if_neg (by simp [e])] at aN;simp only [go_sem,bA,iZ,aR,s0 aU,e]
    (repeat ((with_reducible refine And.intro ?_ ?_); ·omega))
    refine ⟨⟨i+1,aU,aN⟩,?_,by simp only;omega⟩;simp only [go_sem,dq];rw [dQ (by omega)];trivial
  ·have dZ:i=l.length:=by omega
   subst dZ;rw [aX] at aN;simp only [go_sem,bA];refine aG.go 1000 ?_;simp only [go_sem,← aN];trivial
theorem IE (l:List Int) (v:Int) (hl:l.length<2 ^ 62):aD Tryz.prog 110 [.ps 1 (ints l), .int .i64 v] (.bool (decide (v∈l))):=by
 refine aD.begin (rs:=[.tmp 4]) (m:=7) 1000 Tryz.func110 rfl rfl rfl (by decide) trivial ?_;simp only [go_sem];refine aq.bS [] (Zx9 l v hl) (cx _ _ _) (by simp [go_sem,dq]) ?_;simp only [bC,bN,bL,if_true];refine aG.go 1000 ?_;simp only [go_sem,Dj _ l 0 (oF 0)];congr 1;rw [dU];simp
theorem W3 (t:Tm) (vq:t.fit) (fJ:t.size<999999999):aD Tryz.prog 162 [t.aM] (.ps 1 (ints t.vars)):=by
 refine aD.begin (rs:=[.tmp 2]) (m:=26) 1000 Tryz.func162 rfl rfl rfl (by decide) (dq _) ?_;simp only [go_sem,cZ,ae];rw [← cZ];refine (Qq t _ ?_).mono ?_
 ·simp [go_sem,bW]
 rintro _ _ ⟨rfl,rfl⟩;refine aG.go 1000 ?_;simp only [go_sem];refine aG.rangeFunc (fe 27 [(3, .ptr 1 0)]) ?_ ?_ (fun ρ ht wH lH rZ=>?_)
 ·simp only [go_sem]
 ·exact fun b hb=>by cases hb
 simp only [go_sem];have En:=GL t 1;have PW:=Yfy t 1;have jJ:bF 4 ρ.tm:=by rw [ht];simp [go_sem,Bb,Bg]
 have gx:∀ l:List Int,bD 8 [some (.var [.int .i64 t.head, .ps 2 (t.args.map Tm.aM)]),some (.var [jk 4 1 (ints l)]),some (.var [.int .i64 t.head, .ps 2 (t.args.map Tm.aM)]),some (.loop (ρ.at .ready)),fx (ints l),none,none,none] :=
  fun l=>⟨⟨trivial,bW _,trivial⟩,⟨Bh (by decide) 1 _,trivial⟩,⟨trivial,bW _,trivial⟩,iO (by decide) jJ,Ag _ (dq _),trivial,trivial,trivial,trivial⟩
 refine (UB t fJ 4 (by decide) _ (fun _=>some (.var [.int .i64 t.head, .ps 2 (t.args.map Tm.aM)])) (fun k=>some (.var [jk 4 1 (ints (kr ((t.pre 1).take k) []))])) (fun _=>some (.var [.int .i64 t.head, .ps 2 (t.args.map Tm.aM)])) (fun _=>some (.loop (ρ.at .ready)))
  (fun k=>fx (ints (kr ((t.pre 1).take k) []))) (fun _=>none) (fun _=>none) (fun _=>none) 2 (.lN 3) rfl rfl rfl (by decide) (fun k=>gx _) ?_ (cN 3) (fun k hk=>?_)).mono ?_
 ·exact ⟨⟨trivial,bW _,trivial⟩,⟨trivial,trivial⟩,⟨trivial,bW _,trivial⟩,jJ,trivial⟩
 ·have vp:kr ((t.pre 1).take (k+1)) []=uW (kr ((t.pre 1).take k) []) (t.pre 1)[k]:=by rw [V1 hk,V6];rfl
  have hlen:=Yjg ((t.pre 1).take k) [];rw [cA] at hlen;have FI:(t.pre 1)[k].2.fit:=RF t vq 1 _ (aC hk);rw [vp];generalize (t.pre 1)[k]=x at *
  generalize kr ((t.pre 1).take k) []=o at *
  obtain ⟨d,u⟩:=x;simp only at FI;have CI : -9223372036854775808≤u.head∧u.head≤9223372036854775807:=by obtain ⟨h,ts⟩:=u;exact FI.1
  have uL:IntKind.i64.wrap (-1 - u.head) = -1 - u.head:=dQ (by omega);have Ya:o.length<999999999:=by simp only [aS] at hlen;omega
  by_cases c1:u.head<0
  ·have Ax : 0≤-1 - u.head:=by omega
   have vl:uW o (d,u)=kU o (-1 - u.head):=if_pos c1;rw [vl];generalize hv : -1 - u.head=v at *
   by_cases c2:v∈o
   ·have hn:kU o v=o:=if_pos c2;rw [hn];refine aq.stay rfl (gx _) ?_;refine aq.l9 1000 ht wH lH rZ rfl rfl ?_;simp only [go_sem,fL,ae,aj,hv,uL,Ax];refine aq.bS [4] (IE o v (by omega)) ?_ (by simp [go_sem,dq]) ?_
    ·simp only [go_sem,rr,rv,rO]
    simp only [bC,bN,bL,if_true];refine aG.go 1000 ?_;simp only [go_sem,c2];rw [uV];exact ⟨rfl,[some (.var [.int .i64 t.head, .ps 2 (t.args.map Tm.aM)]),some (.var [jk 4 1 (ints o)]),some (.var [.int .i64 t.head, .ps 2 (t.args.map Tm.aM)]),some (.loop (ρ.at .ready)),fx (ints o),none,none,none],by simp [go_sem],ae _,gx _,rfl,rfl⟩
   ·have hn:kU o v=o++[v]:=if_neg c2;have xh:∀ b,b<4→pi [(4,10),(10,4)] b=b:=by decide
    rw [hn];refine aq.move [(4,10),(10,4)] (S':=[some (.var [.int .i64 t.head, .ps 2 (t.args.map Tm.aM)]),some (.var [.os 10 0 (o.length+1) 1]),some (.var [.int .i64 t.head, .ps 2 (t.args.map Tm.aM)]),some (.loop (ρ.at .ready)),none,none,none,none,none,none,some (.row (ints o++[.int .i64 v]) 0)]) ?_ ?_ rfl ?_ ?_
    ·exact b9 8 3
    ·exact ⟨⟨trivial,bW _,trivial⟩,⟨cN 10,trivial⟩,⟨trivial,bW _,trivial⟩,iO (b9 4 7) jJ,trivial,trivial,trivial,trivial,trivial,trivial,tA (dq _) ⟨trivial,trivial⟩,trivial⟩
    ·have uJ:=Bf (pi [(4,10),(10,4)]) 4 xh (.loop (ρ.at .ready)) jJ;simp only [Cp,Fq,Fg,I7,IZ,Mg,uJ];simp [go_sem,cK (bW _),cK (dq _),cK (tA (dq o) (show bF 0 [ah.int .i64 v] from ⟨trivial,trivial⟩)),iZ]
    refine aq.l9 1000 ht wH lH rZ rfl rfl ?_;simp only [go_sem,fL,ae,aj,hv,uL,Ax];refine aq.bS [4] (IE o v (by omega)) ?_ (by simp [go_sem,dq]) ?_
    ·simp only [go_sem,rr,rv,rO]
    simp only [bC,bN,bL,if_true];refine aG.go 1000 ?_;simp only [go_sem,c2,eW,aL,forall_eq,a_,vX,iZ];refine ⟨by omega,?_⟩;rw [uV];exact ⟨rfl,[some (.var [.int .i64 t.head, .ps 2 (t.args.map Tm.aM)]),some (.var [.os 10 0 (o.length+1) 1]),some (.var [.int .i64 t.head, .ps 2 (t.args.map Tm.aM)]),some (.loop (ρ.at .ready)),none,none,none,none,none,none,some (.row (ints o++[.int .i64 v]) 0)],by simp [go_sem],b9 8 3,⟨⟨trivial,bW _,trivial⟩,⟨cN 10,trivial⟩,⟨trivial,bW _,trivial⟩,iO (b9 4 7) jJ,trivial,trivial,trivial,trivial,trivial,trivial,tA (dq _) (show bF 11 [ah.int .i64 v] from ⟨trivial,trivial⟩),trivial⟩,rfl,rfl⟩
  ·have hn:uW o (d,u)=o:=if_neg c1;rw [hn];refine aq.stay rfl (gx _) ?_;refine aq.l9 1000 ht wH lH rZ rfl rfl ?_;have Ax:¬ 0≤-1 - u.head:=by omega
   simp only [go_sem,fL,ae,aj,uL,Ax];rw [uV];exact ⟨rfl,[some (.var [.int .i64 t.head, .ps 2 (t.args.map Tm.aM)]),some (.var [jk 4 1 (ints o)]),some (.var [.int .i64 t.head, .ps 2 (t.args.map Tm.aM)]),some (.loop (ρ.at .ready)),fx (ints o),none,none,none],by simp [go_sem],ae _,gx _,rfl,rfl⟩
 rintro r' jq rfl;rw [Dv];refine ⟨.ready,rfl,?_⟩;rw [Fj];rw [← En,bZ,PW];refine aG.go 1000 ?_;simp only [go_sem];rw [rO rfl rfl];trivial
end Go.Proofs
namespace Go.Proofs
open Go Go.dm
mutual
def Tm.walk {ι:Type} (step : ι→Tm→Bool→ι):Tm→Bool→ι→ι
 | .mk h ts,top,x=>Tm.walks step ts (step x (.mk h ts) top)
def Tm.walks {ι:Type} (step : ι→Tm→Bool→ι):List Tm→ι→ι
 | [],x=>x
 | t :: ts,x=>Tm.walks step ts (t.walk step false x)
end
theorem T0 {ι:Type} (step : ι→Tm→Bool→ι):∀ (ts:List Tm) (i:Nat) (hi:i<ts.length) (x : ι),Tm.walks step (ts.take (i+1)) x=ts[i].walk step false (Tm.walks step (ts.take i) x)
 | t :: ts,0,_,x=>by simp [Tm.walks]
 | t :: ts,i+1,hi,x=>by
  simp only [df,Tm.walks,dj];exact T0 step ts i (by simpa using hi) _
def k_ (g:List Sy) (x:Bool×Bool) (t:Tm) (top:Bool):Bool×Bool :=
 if t.head<0 then x else if (g.length:Int)≤t.head∨¬ (t.args.length:Int)=(iV g t.head).arity then (true,x.2) else if (iV g t.head).cd=true∧top=false then (x.1,true) else x
def kg (g:List Sy) (t:Tm):Bool:=decide (t.head<0)||(!(decide ((g.length:Int)≤t.head))&&decide ((t.args.length:Int)=(iV g t.head).arity))
theorem Zuf (g:List Sy) (h:Int) (ts:List Tm):kg g (.mk h ts)=(decide (h<0)||(!(decide ((g.length:Int)≤h))&&decide ((ts.length:Int)=(iV g h).arity))):=rfl
theorem Ywb (g:List Sy) (x:Bool×Bool) (t:Tm) (top:Bool):(k_ g x t top).1=(x.1 || !kg g t):=by
 unfold k_ kg;by_cases c1:t.head<0
 ·simp [c1]
 ·by_cases c2:(g.length:Int)≤t.head
  ·simp [c1,c2]
  ·by_cases c3:(t.args.length:Int)=(iV g t.head).arity
   ·rw [if_neg c1,if_neg (by simp [c2,c3])];split<;>simp [c1,c2,c3]
   ·simp [c1,c2,c3]
theorem Wy {h:Int} {ts:List Tm} (hg:(Tm.mk h ts).good=true) (c:h<0):ts=[]:=by
 simp only [Tm.good,aB,bw,bK,db,decide_eq_false_iff_not] at hg;rcases hg.1.1.1.1 with h' | h'
 ·exact absurd c h'
 ·exact iE.1 (by omega)
theorem U0 {h:Int} {ts:List Tm} (hg:(Tm.mk h ts).good=true):Tm.fH ts=true:=by
 simp only [Tm.good,aB] at hg;exact hg.2
mutual
theorem R3 (g:List Sy):∀ (t:Tm) (top:Bool) (x:Bool×Bool),t.good=true→(t.walk (k_ g) top x).1=(x.1 || !t.known g)
 | .mk h ts,top,x,hg=>by
  simp only [Tm.walk,Tm.known];rw [RY g ts _ (U0 hg),Ywb,Zuf];by_cases c1:h<0
  ·have:=Wy hg c1;subst this;simp [c1,Tm.d_]
  ·have e1:decide (h<0)=false:=decide_eq_false c1;rw [e1];simp only [dk,Bool.not_and,oV]
theorem RY (g:List Sy):∀ (ts:List Tm) (x:Bool×Bool),Tm.fH ts=true→(Tm.walks (k_ g) ts x).1=(x.1 || !Tm.d_ g ts)
 | [],x,_=>by simp [Tm.walks,Tm.d_]
 | t :: ts,x,hg=>by
  simp only [Tm.fH,aB] at hg;simp only [Tm.walks,Tm.d_];rw [RY g ts _ hg.2,R3 g t _ _ hg.1,Bool.not_and,oV]
end
theorem Yzd (g:List Sy) (x:Bool×Bool) (t:Tm) (top:Bool) (hk:kg g t=true):(k_ g x t top).2=(x.2||(!top&&t.cd g)):=by
 unfold k_;unfold kg at hk;by_cases c1:t.head<0
 ·simp [c1,Tm.cd,show ¬ 0≤t.head by omega]
 ·simp only [decide_eq_false c1,dk,aB,bw,decide_eq_false_iff_not,decide_eq_true_eq] at hk;rw [if_neg c1,if_neg (by simp only [hk.2,not_true_eq_false,or_false];exact hk.1)];have h0 : 0≤t.head:=by omega
  have h1:t.head<(g.length:Int):=by omega
  cases ht:(iV g t.head).cd<;>cases top<;>simp [Tm.cd,h0,h1,ht]
mutual
theorem R5 (g:List Sy):∀ (t:Tm) (top:Bool) (x:Bool×Bool),t.good=true→t.known g=true→(t.walk (k_ g) top x).2=(x.2||((!top&&t.cd g) || !t.fE g))
 | .mk h ts,top,x,hg,hk=>by
  have hh:kg g (.mk h ts)=true:=by
   simp only [Tm.known,bR,aB] at hk;simp only [kg,Tm.head,Tm.args,bR,aB];exact hk.imp id And.left
  have O7:Tm.d_ g ts=true:=by
   by_cases c1:h<0
   ·rw [Wy hg c1];rfl
   ·simp only [Tm.known,decide_eq_false c1,dk,aB] at hk;exact hk.2
  simp only [Tm.walk,Tm.fE];rw [QP g ts _ (U0 hg) O7,Yzd g x _ top hh,oV]
theorem QP (g:List Sy):∀ (ts:List Tm) (x:Bool×Bool),Tm.fH ts=true→Tm.d_ g ts=true→(Tm.walks (k_ g) ts x).2=(x.2 || !Tm.eh g ts)
 | [],x,_,_=>by simp [Tm.walks,Tm.eh]
 | t :: ts,x,hg,hk=>by
  simp only [Tm.fH,Tm.d_,aB] at hg hk;simp only [Tm.walks,Tm.eh];rw [QP g ts _ hg.2 hk.2,R5 g t _ _ hg.1 hk.1];cases t.cd g<;>cases t.fE g<;>cases x.2<;>simp
end
end Go.Proofs
namespace Go.Proofs
open Go Go.dm
attribute [local go_sem] Nat.reduceAdd Nat.reduceSub Nat.reduceMul Nat.reduceLeDiff Nat.reduceEqDiff Nat.reduceBEq
theorem Ysk {ι:Type} (b0 b1 b2 b3 b4 b5 b6 b7 : ι→Option bO) (step : ι→Tm→Bool→ι) (c:ah) (hs:∀ x,bD 8 [b0 x,b1 x,b2 x,b3 x,b4 x,b5 x,b6 x,b7 x]) (hc:c.low 8)
  (hy:∀ x t top,aq Tryz.prog c [t.aM, .bool top] [b0 x,b1 x,b2 x,b3 x,b4 x,b5 x,b6 x,b7 x] (fun _ σ'=>σ'=[b0 (step x t top),b1 (step x t top),b2 (step x t top),b3 (step x t top),b4 (step x t top),b5 (step x t top),b6 (step x t top),b7 (step x t top)])) (t:Tm) :
  t.size<2 ^ 62→∀ top x,aq Tryz.prog (.fn 159 [] []) [t.aM, .bool top,c] [b0 x,b1 x,b2 x,b3 x,b4 x,b5 x,b6 x,b7 x]
   (fun r σ'=>r = .dT []∧σ'=[b0 (t.walk step top x),b1 (t.walk step top x),b2 (t.walk step top x),b3 (t.walk step top x),b4 (t.walk step top x),b5 (t.walk step top x),b6 (t.walk step top x),b7 (t.walk step top x)]):=by
 induction t using Tm.gN with
 | h h ts ih =>
 intro fJ top x;simp only [Tm.size] at fJ;have hlen:=oZ ts;have Hs:=nG (m:=9) (by decide) hc;refine aq.begin (rs:=[]) (m:=20) 1000 Tryz.func159 rfl rfl rfl rfl rfl ?_;simp only [go_sem,cZ,Tm.head,Tm.args,ae];rw [FC];refine aq.tail (σ:=[b0 x,b1 x,b2 x,b3 x,b4 x,b5 x,b6 x,b7 x]) (τ:=[some (.var [.int .i64 h, .ps 2 (ts.map Tm.aM)])]) hc (by simp [go_sem,dG]) (hs x) ?_;refine (hy x (.mk h ts) top).mono ?_;rintro r σ' rfl;refine ⟨rfl,?_⟩;refine aG.go 1000 ?_;simp only [go_sem,aj];generalize zz:step x (.mk h ts) top=x1;have hend:Tm.walk step (.mk h ts) top x=Tm.walks step ts x1:=by rw [← zz];rfl
 rw [hend];refine aG.cO (ι:={i:Nat // i≤ts.length}) 1000 (fun i=>fe 23 [(2,c),(13, .ps 2 (ts.map Tm.aM)),(14, .int .i64 ts.length),(15, .int .i64 i.1)]) (fun i=>[b0 (Tm.walks step (ts.take i.1) x1),b1 (Tm.walks step (ts.take i.1) x1),b2 (Tm.walks step (ts.take i.1) x1),b3 (Tm.walks step (ts.take i.1) x1),b4 (Tm.walks step (ts.take i.1) x1),b5 (Tm.walks step (ts.take i.1) x1),b6 (Tm.walks step (ts.take i.1) x1),b7 (Tm.walks step (ts.take i.1) x1),some (.var [.int .i64 h, .ps 2 (ts.map Tm.aM)])]) (fun i=>ts.length - i.1) ⟨0,by omega⟩ ?_ (fun _=>b9 8 1) ?_
 ·have h9:=oe (m:=9) (by decide) (hs x1);simp only [xD,Gt,and_true] at h9;simp only [go_sem,Hs,bW,xD,h9,rM,Tm.walks,yk,br]
 ·rintro ⟨i,hi⟩;by_cases bA:(i:Int)<ts.length
  ·have aU:i<ts.length:=by omega
   have H9:=w7 ts i aU;have AB:=T0 step ts i aU x1;simp only [go_sem,bA,aj,aR,mC aU,fL,ae];rw [← cZ]
   (repeat ((with_reducible refine And.intro ?_ ?_); ·omega))
   refine aq.tail (σ:=[b0 (Tm.walks step (ts.take i) x1),b1 (Tm.walks step (ts.take i) x1),b2 (Tm.walks step (ts.take i) x1),b3 (Tm.walks step (ts.take i) x1),b4 (Tm.walks step (ts.take i) x1),b5 (Tm.walks step (ts.take i) x1),b6 (Tm.walks step (ts.take i) x1),b7 (Tm.walks step (ts.take i) x1)]) (τ:=[some (.var [.int .i64 h, .ps 2 (ts.map Tm.aM)]),some (.var [.int .i64 ts[i].head, .ps 2 (ts[i].args.map Tm.aM)])]) ⟨trivial,trivial⟩ (by simp [go_sem,dG,hc]) (hs _) ?_;refine (ih i aU (by omega) false _).mono ?_;rintro r' jq ⟨rfl,rfl⟩;refine ⟨rfl,?_⟩;rw [← AB];refine aG.go 1000 ?_;simp only [go_sem];refine ⟨⟨i+1,aU⟩,?_,by simp only;omega⟩;have h9:=oe (m:=9) (by decide) (hs (Tm.walks step (ts.take (i+1)) x1));simp only [xD,Gt,and_true] at h9;simp only [go_sem,Hs,bW,xD,h9,yk];rw [dQ (by omega)];rfl
  ·have dZ:i=ts.length:=by omega
   subst dZ;simp only [go_sem,bA,bZ];refine aG.go 1000 ?_;simp only [go_sem];rw [gC];exact ⟨[b0 (Tm.walks step ts x1),b1 (Tm.walks step ts x1),b2 (Tm.walks step ts x1),b3 (Tm.walks step ts x1),b4 (Tm.walks step ts x1),b5 (Tm.walks step ts x1),b6 (Tm.walks step ts x1),b7 (Tm.walks step ts x1)],by simp [go_sem],ae _,hs _,trivial,rfl,rfl⟩
theorem Ymf (g:List Sy) (b1:Option bO) (rX:jK 8 b1) (x:Bool×Bool) (t:Tm) (top:Bool):aq Tryz.prog (.fn 160 [] [.ptr 0 0, .ptr 2 0, .ptr 3 0]) [t.aM, .bool top] [some (.var [.ps 4 (syms g)]),b1,some (.var [.bool x.1]),some (.var [.bool x.2]),none,none,none,none]
  (fun _ σ'=>σ'=[some (.var [.ps 4 (syms g)]),b1,some (.var [.bool (k_ g x t top).1]),some (.var [.bool (k_ g x t top).2]),none,none,none,none]):=by
 obtain ⟨un,mx⟩:=x;have ky:∀ u m,bD 8 [some (.var [.ps 4 (syms g)]),b1,some (.var [.bool u]),some (.var [.bool m]),none,none,none,none]:=fun u m=>⟨⟨dy g,trivial⟩,rX,⟨trivial,trivial⟩,⟨trivial,trivial⟩,trivial,trivial,trivial,trivial,trivial⟩;refine aq.begin (rs:=[]) (m:=35) 1000 Tryz.func160 rfl rfl rfl rfl rfl ?_;by_cases c1:t.head<0
 ·have sq:k_ g (un,mx) t top=(un,mx):=if_pos c1;simp only [go_sem,cZ,c1];rw [gC];exact ⟨[some (.var [.ps 4 (syms g)]),b1,some (.var [.bool un]),some (.var [.bool mx]),none,none,none,none],by simp [go_sem],ae _,ky _ _,trivial,by rw [sq]⟩
 simp only [go_sem,cZ,c1];refine aG.draw [] 9 9 mixed rfl rfl (ae _) ?_;by_cases c2:(g.length:Int)≤t.head
 ·have sq:k_ g (un,mx) t top=(true,mx):=by rw [k_,if_neg c1,if_pos (.inl c2)]
  simp only [go_sem,da,ld,c2];refine aG.go 1000 ?_;simp only [go_sem];rw [gC];exact ⟨[some (.var [.ps 4 (syms g)]),b1,some (.var [.bool true]),some (.var [.bool mx]),none,none,none,none],by simp [go_sem],ae _,ky _ _,trivial,by rw [sq]⟩
 have hi:t.head.toNat<g.length:=by omega
 have zu:iV g t.head=g[t.head.toNat]:=yq hi;by_cases c3:(t.args.length:Int)=g[t.head.toNat].arity
 ·simp only [go_sem,da,ld,c2,aj,qS hi,pU,c3,ae]
  (repeat ((with_reducible refine And.intro ?_ ?_); ·omega))
  refine aG.go 1000 ?_;cases ht:g[t.head.toNat].cd with
  | false =>
   have sq:k_ g (un,mx) t top=(un,mx):=by rw [k_,if_neg c1,if_neg (by rw [zu];simp only [c3,not_true_eq_false,or_false];exact c2),if_neg (by rw [zu,ht];simp)]
   simp only [go_sem,ld,qS hi,pU,ht]
   (repeat ((with_reducible refine And.intro ?_ ?_); ·omega))
   rw [gC];exact ⟨[some (.var [.ps 4 (syms g)]),b1,some (.var [.bool un]),some (.var [.bool mx]),none,none,none,none],by simp [go_sem],ae _,ky _ _,trivial,by rw [sq]⟩
  | true =>
   cases top with
   | false =>
    have sq:k_ g (un,mx) t false=(un,true):=by rw [k_,if_neg c1,if_neg (by rw [zu];simp only [c3,not_true_eq_false,or_false];exact c2),if_pos (by rw [zu,ht];simp)]
    simp only [go_sem,ld,qS hi,pU,ht]
    (repeat ((with_reducible refine And.intro ?_ ?_); ·omega))
    rw [gC];exact ⟨[some (.var [.ps 4 (syms g)]),b1,some (.var [.bool un]),some (.var [.bool true]),none,none,none,none],by simp [go_sem],ae _,ky _ _,trivial,by rw [sq]⟩
   | true =>
    have sq:k_ g (un,mx) t true=(un,mx):=by rw [k_,if_neg c1,if_neg (by rw [zu];simp only [c3,not_true_eq_false,or_false];exact c2),if_neg (by simp)]
    simp only [go_sem,ld,qS hi,pU,ht]
    (repeat ((with_reducible refine And.intro ?_ ?_); ·omega))
    rw [gC];exact ⟨[some (.var [.ps 4 (syms g)]),b1,some (.var [.bool un]),some (.var [.bool mx]),none,none,none,none],by simp [go_sem],ae _,ky _ _,trivial,by rw [sq]⟩
 ·have sq:k_ g (un,mx) t top=(true,mx):=by rw [k_,if_neg c1,if_pos (.inr (by rw [zu];exact c3))]
  simp only [go_sem,da,ld,c2,aj,qS hi,pU,c3,ae]
  (repeat ((with_reducible refine And.intro ?_ ?_); ·omega))
  refine aG.go 1000 ?_;simp only [go_sem];rw [gC];exact ⟨[some (.var [.ps 4 (syms g)]),b1,some (.var [.bool true]),some (.var [.bool mx]),none,none,none,none],by simp [go_sem],ae _,ky _ _,trivial,by rw [sq]⟩
theorem MJ (g:List Sy) (t:Tm) (fJ:t.size<999999999):aD Tryz.prog 135 [.ps 4 (syms g),t.aM] (.int .i64 (t.term g)):=by
 refine aD.begin (rs:=[.tmp 4]) (m:=24) 1000 Tryz.func135 rfl rfl rfl (by decide) trivial ?_;simp only [go_sem,cZ,ae];refine aq.bS [] (Tq g) (cx _ _ _) (by simp [go_sem,dy]) ?_;simp only [bC,bN,bL,if_true];refine aG.go 1000 ?_;cases c1:eg g with
 | false=>simp only [go_sem,Tm.term,c1,Int.reduceEq]
 | true =>
 simp only [go_sem,ae];rw [← cZ];refine aq.bS [] (Dd t fJ) (cx _ _ _) (by simp [go_sem,dG]) ?_;simp only [bC,bN,bL,if_true];refine aG.go 1000 ?_;by_cases c2:t.check=0
 case neg=>simp only [go_sem,c2,Tm.term,c1]
 simp only [go_sem,c2,ae];rw [← cZ];have r7:=(LD c2).1;have rX:jK 8 (some (.var [.int .i64 t.head, .ps 2 (t.args.map Tm.aM)])):=⟨trivial,bW _,trivial⟩;refine aq.pad 4 ?_;refine (Ysk (ι:=Bool×Bool) (fun _=>some (.var [.ps 4 (syms g)])) (fun _=>some (.var [.int .i64 t.head, .ps 2 (t.args.map Tm.aM)])) (fun x=>some (.var [.bool x.1])) (fun x=>some (.var [.bool x.2])) (fun _=>none) (fun _=>none) (fun _=>none) (fun _=>none)
  (k_ g) (.fn 160 [] [.ptr 0 0, .ptr 2 0, .ptr 3 0]) (fun x=>⟨⟨dy g,trivial⟩,rX,⟨trivial,trivial⟩,⟨trivial,trivial⟩,trivial,trivial,trivial,trivial,trivial⟩) (by simp [go_sem]) (fun x t top=>Ymf g _ rX x t top) t (by omega) true (false,false)).mono ?_
 rintro r σ' ⟨rfl,rfl⟩;rw [gC];refine ⟨[some (.var [.ps 4 (syms g)]),some (.var [.int .i64 t.head, .ps 2 (t.args.map Tm.aM)]),some (.var [.bool (t.walk (k_ g) true (false,false)).1]),some (.var [.bool (t.walk (k_ g) true (false,false)).2])],by simp [go_sem],ae _,⟨⟨dy g,trivial⟩,⟨trivial,bW _,trivial⟩,⟨trivial,trivial⟩,⟨trivial,trivial⟩,trivial⟩,trivial,?_⟩;rw [R3 g t true _ r7];refine aG.go 1000 ?_;cases c3:t.known g with
 | false =>
  simp only [go_sem];simp [Tm.term,c1,c2,c3]
 | true =>
  rw [R5 g t true _ r7 c3];cases c4:t.fE g with
  | false =>
   simp only [go_sem];simp [Tm.term,c1,c2,c3,c4]
  | true =>
   simp only [go_sem];simp [Tm.term,c1,c2,c3,c4]
end Go.Proofs
