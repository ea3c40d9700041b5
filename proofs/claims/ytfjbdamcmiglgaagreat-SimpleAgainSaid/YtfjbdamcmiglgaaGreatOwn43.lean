/- Part 43 of my own framework and of the walks of functions: Tl, Ty, Ma, Pa, Pb, Pc, Mb, Pd, Pe, Mc, Pf, Pg, Md, Ph, Me, Pi, Mf, Pj, Pk, Pl, Mg, Pm, Pn, Po, Mh, Pp, Pq, Pr, Ps, Sa, AcsR, AcsS, AcsT, AcsU. -/
import Derived.Test.YtfjbdamcmiglgaaGreatOwn42
import Derived.Test.YtfjbdamcmiglgaaGreatProg
import Derived.KernelRfl
abbrev dD:=@Bool.eq_iff_iff
abbrev du:=@Bool.false_or
abbrev fh:=@Bool.not_eq_false'
abbrev ct:=@Bool.or_eq_false_iff
abbrev qI:=@Int.le_refl
abbrev lW:=@Int.lt_irrefl
abbrev mh:=@Int.natCast_add
abbrev mj:=@Int.natCast_one
abbrev cM:=@Int.natCast_zero
abbrev cd:=@Int.toNat_natCast
abbrev eh:=@List.any_cons
abbrev cT:=@List.any_eq_true
abbrev mR:=@List.any_nil
abbrev j9:=@List.cons.inj
abbrev ao:=@List.drop_eq_getElem_cons
abbrev aV:=@List.drop_length
abbrev oU:=@List.flatMap_nil
abbrev iG:=@List.getElem_cons_succ
abbrev eN:=@List.getElem_cons_zero
abbrev ic:=@List.length_eq_zero_iff
abbrev cD:=@List.map_append
abbrev lX:=@List.mem_iff_getElem
abbrev lZ:=@List.mem_of_mem_take
abbrev gO:=@List.nodup_append
abbrev dR:=@List.not_mem_nil
abbrev nZ:=@List.reverse_cons
abbrev eO:=@List.take_add_one
abbrev dt:=@List.take_length
abbrev bd:=@List.take_of_length_le
abbrev eW:=@List.take_succ_cons
abbrev dN:=@Nat.le_succ
abbrev cq:=@Nat.zero_lt_one
abbrev eo:=@Nat.zero_lt_two
set_option linter.unusedVariables false
set_option linter.unusedSectionVars false
set_option linter.unusedSimpArgs false
namespace Go.Proofs
open Go Go.c8
@[go_sem] theorem aok:aF Tryz.prog 1=some ⟨1,false,8,[.az], .func⟩:=by kernel_rfl
@[go_sem] theorem ty1:bL Tryz.prog 1=some ⟨⟨1,false,8,[.az], .func⟩,[],none,none⟩:=by kernel_rfl
@[go_sem] theorem aol:aF Tryz.prog 2=some ⟨1,false,8,[.int .i64 0],(.int .i64)⟩:=by kernel_rfl
@[go_sem] theorem ty2:bL Tryz.prog 2=some ⟨⟨1,false,8,[.int .i64 0],(.int .i64)⟩,[],none,none⟩:=by kernel_rfl
@[go_sem] theorem aom:aF Tryz.prog 3=some ⟨1,false,8,[.int .i64 0],(.int .i64)⟩:=by kernel_rfl
@[go_sem] theorem ty3:bL Tryz.prog 3=some ⟨⟨1,false,8,[.int .i64 0],(.int .i64)⟩,[],none,none⟩:=by kernel_rfl
@[go_sem] theorem aon:aF Tryz.prog 4=some ⟨1,false,1,[.bool false], .bool⟩:=by kernel_rfl
@[go_sem] theorem ty4:bL Tryz.prog 4=some ⟨⟨1,false,1,[.bool false], .bool⟩,[],none,none⟩:=by kernel_rfl
@[go_sem] theorem aoo:aF Tryz.prog 5=some ⟨1,false,1,[.int .u8 0],(.int .u8)⟩:=by kernel_rfl
@[go_sem] theorem ty5:bL Tryz.prog 5=some ⟨⟨1,false,1,[.int .u8 0],(.int .u8)⟩,[],none,none⟩:=by kernel_rfl
@[go_sem] theorem aop:aF Tryz.prog 6=some ⟨1,false,1,[.int .u8 0],(.int .u8)⟩:=by kernel_rfl
@[go_sem] theorem ty6:bL Tryz.prog 6=some ⟨⟨1,false,1,[.int .u8 0],(.int .u8)⟩,[],none,none⟩:=by kernel_rfl
@[go_sem] theorem aoq:aF Tryz.prog 7=some ⟨4,true,24,[.int .i64 0, .int .i64 0, .bool false, .int .u8 0], .struct⟩:=by kernel_rfl
@[go_sem] theorem ty7:bL Tryz.prog 7=some ⟨⟨4,true,24,[.int .i64 0, .int .i64 0, .bool false, .int .u8 0], .struct⟩,[(0,some ⟨1,false,8,[.int .i64 0],(.int .i64)⟩),(1,some ⟨1,false,8,[.int .i64 0],(.int .i64)⟩),(2,some ⟨1,false,1,[.bool false], .bool⟩),(3,some ⟨1,false,1,[.int .u8 0],(.int .u8)⟩)],none,none⟩:=by kernel_rfl
@[go_sem] theorem amK:uj Tryz.prog 7 [(.int .i64),(.int .i64), .bool,(.int .u8)]=true:=by kernel_rfl
@[go_sem] theorem aor:aF Tryz.prog 8=some ⟨4,true,24,[.int .i64 0, .int .i64 0, .bool false, .int .u8 0], .struct⟩:=by kernel_rfl
@[go_sem] theorem ty8:bL Tryz.prog 8=some ⟨⟨4,true,24,[.int .i64 0, .int .i64 0, .bool false, .int .u8 0], .struct⟩,[(0,some ⟨1,false,8,[.int .i64 0],(.int .i64)⟩),(1,some ⟨1,false,8,[.int .i64 0],(.int .i64)⟩),(2,some ⟨1,false,1,[.bool false], .bool⟩),(3,some ⟨1,false,1,[.int .u8 0],(.int .u8)⟩)],none,none⟩:=by kernel_rfl
@[go_sem] theorem amL:uj Tryz.prog 8 [(.int .i64),(.int .i64), .bool,(.int .u8)]=true:=by kernel_rfl
@[go_sem] theorem aos:aF Tryz.prog 9=some ⟨1,false,16,[.str ⟨#[]⟩], .str⟩:=by kernel_rfl
@[go_sem] theorem ty9:bL Tryz.prog 9=some ⟨⟨1,false,16,[.str ⟨#[]⟩], .str⟩,[],none,none⟩:=by kernel_rfl
@[go_sem] theorem Xkf:aF Tryz.prog 10=some ⟨1,false,16,[.str ⟨#[]⟩], .str⟩:=by kernel_rfl
@[go_sem] theorem aox:bL Tryz.prog 10=some ⟨⟨1,false,16,[.str ⟨#[]⟩], .str⟩,[],none,none⟩:=by kernel_rfl
@[go_sem] theorem Xp4:aF Tryz.prog 11=some ⟨1,false,16,[.str ⟨#[]⟩], .str⟩:=by kernel_rfl
@[go_sem] theorem aoy:bL Tryz.prog 11=some ⟨⟨1,false,16,[.str ⟨#[]⟩], .str⟩,[],none,none⟩:=by kernel_rfl
@[go_sem] theorem Xmc:aF Tryz.prog 12=some ⟨1,false,8,[.int .u64 0],(.int .u64)⟩:=by kernel_rfl
@[go_sem] theorem aoz:bL Tryz.prog 12=some ⟨⟨1,false,8,[.int .u64 0],(.int .u64)⟩,[],none,none⟩:=by kernel_rfl
@[go_sem] theorem Xov:aF Tryz.prog 13=some ⟨2,true,24,[.str ⟨#[]⟩, .int .u64 0], .struct⟩:=by kernel_rfl
@[go_sem] theorem aoA:bL Tryz.prog 13=some ⟨⟨2,true,24,[.str ⟨#[]⟩, .int .u64 0], .struct⟩,[(0,some ⟨1,false,16,[.str ⟨#[]⟩], .str⟩),(1,some ⟨1,false,8,[.int .u64 0],(.int .u64)⟩)],none,none⟩:=by kernel_rfl
@[go_sem] theorem Xim:aF Tryz.prog 14=some ⟨2,true,24,[.str ⟨#[]⟩, .int .u64 0], .struct⟩:=by kernel_rfl
@[go_sem] theorem aoB:bL Tryz.prog 14=some ⟨⟨2,true,24,[.str ⟨#[]⟩, .int .u64 0], .struct⟩,[(0,some ⟨1,false,16,[.str ⟨#[]⟩], .str⟩),(1,some ⟨1,false,8,[.int .u64 0],(.int .u64)⟩)],none,none⟩:=by kernel_rfl
@[go_sem] theorem Xko:aF Tryz.prog 15=some ⟨1,false,8,[.bN], .ptr⟩:=by kernel_rfl
@[go_sem] theorem aoC:bL Tryz.prog 15=some ⟨⟨1,false,8,[.bN], .ptr⟩,[],none,none⟩:=by kernel_rfl
@[go_sem] theorem Xos:aF Tryz.prog 16=some ⟨1,false,8,[.bN], .ptr⟩:=by kernel_rfl
@[go_sem] theorem aoD:bL Tryz.prog 16=some ⟨⟨1,false,8,[.bN], .ptr⟩,[],none,none⟩:=by kernel_rfl
@[go_sem] theorem Xjj:aF Tryz.prog 17=some ⟨1,false,8,[.bN], .ptr⟩:=by kernel_rfl
@[go_sem] theorem aoE:bL Tryz.prog 17=some ⟨⟨1,false,8,[.bN], .ptr⟩,[],none,none⟩:=by kernel_rfl
@[go_sem] theorem Xlx:aF Tryz.prog 18=some ⟨1,true,8,[.bN], .struct⟩:=by kernel_rfl
@[go_sem] theorem aoF:bL Tryz.prog 18=some ⟨⟨1,true,8,[.bN], .struct⟩,[(0,some ⟨1,false,8,[.bN], .ptr⟩)],none,none⟩:=by kernel_rfl
@[go_sem] theorem Xir:aF Tryz.prog 19=some ⟨1,true,8,[.bN], .struct⟩:=by kernel_rfl
@[go_sem] theorem aoG:bL Tryz.prog 19=some ⟨⟨1,true,8,[.bN], .struct⟩,[(0,some ⟨1,false,8,[.bN], .ptr⟩)],none,none⟩:=by kernel_rfl
@[go_sem] theorem Xlv:aF Tryz.prog 20=some ⟨1,false,16,[.fR], .iface⟩:=by kernel_rfl
@[go_sem] theorem aoH:bL Tryz.prog 20=some ⟨⟨1,false,16,[.fR], .iface⟩,[],none,none⟩:=by kernel_rfl
@[go_sem] theorem Xod:aF Tryz.prog 21=some ⟨1,false,4,[.int .i32 0],(.int .i32)⟩:=by kernel_rfl
@[go_sem] theorem aoI:bL Tryz.prog 21=some ⟨⟨1,false,4,[.int .i32 0],(.int .i32)⟩,[],none,none⟩:=by kernel_rfl
@[go_sem] theorem Xps:aF Tryz.prog 22=some ⟨1,false,24,[.aU], .slice⟩:=by kernel_rfl
@[go_sem] theorem aoJ:bL Tryz.prog 22=some ⟨⟨1,false,24,[.aU], .slice⟩,[],some ⟨4,true,40,[.str ⟨#[]⟩, .int .i64 0, .int .i64 0, .bool false], .struct⟩,none⟩:=by kernel_rfl
@[go_sem] theorem Xm7:aF Tryz.prog 23=some ⟨1,false,24,[.aU], .slice⟩:=by kernel_rfl
@[go_sem] theorem aoK:bL Tryz.prog 23=some ⟨⟨1,false,24,[.aU], .slice⟩,[],some ⟨1,false,24,[.aU], .slice⟩,none⟩:=by kernel_rfl
@[go_sem] theorem XR:aF Tryz.prog 24=some ⟨1,false,24,[.aU], .slice⟩:=by kernel_rfl
@[go_sem] theorem aoL:bL Tryz.prog 24=some ⟨⟨1,false,24,[.aU], .slice⟩,[],some ⟨5,true,72,[.bool false, .int .i64 0, .aU, .int .i64 0, .aU], .struct⟩,none⟩:=by kernel_rfl
@[go_sem] theorem Xo1:aF Tryz.prog 25=some ⟨1,false,8,[.az], .func⟩:=by kernel_rfl
@[go_sem] theorem aoM:bL Tryz.prog 25=some ⟨⟨1,false,8,[.az], .func⟩,[],none,none⟩:=by kernel_rfl
@[go_sem] theorem Xlp:aF Tryz.prog 26=some ⟨1,false,24,[.aU], .slice⟩:=by kernel_rfl
@[go_sem] theorem aoN:bL Tryz.prog 26=some ⟨⟨1,false,24,[.aU], .slice⟩,[],some ⟨1,false,8,[.int .i64 0],(.int .i64)⟩,none⟩:=by kernel_rfl
@[go_sem] theorem Xmq:aF Tryz.prog 27=some ⟨4,true,64,[.aU, .aU, .int .i64 0, .int .i64 0], .struct⟩:=by kernel_rfl
@[go_sem] theorem aoO:bL Tryz.prog 27=some ⟨⟨4,true,64,[.aU, .aU, .int .i64 0, .int .i64 0], .struct⟩,[(0,some ⟨1,false,24,[.aU], .slice⟩),(1,some ⟨1,false,24,[.aU], .slice⟩),(2,some ⟨1,false,8,[.int .i64 0],(.int .i64)⟩),(3,some ⟨1,false,8,[.int .i64 0],(.int .i64)⟩)],none,none⟩:=by kernel_rfl
@[go_sem] theorem Xj3:aF Tryz.prog 28=some ⟨4,true,64,[.aU, .aU, .int .i64 0, .int .i64 0], .struct⟩:=by kernel_rfl
@[go_sem] theorem aoP:bL Tryz.prog 28=some ⟨⟨4,true,64,[.aU, .aU, .int .i64 0, .int .i64 0], .struct⟩,[(0,some ⟨1,false,24,[.aU], .slice⟩),(1,some ⟨1,false,24,[.aU], .slice⟩),(2,some ⟨1,false,8,[.int .i64 0],(.int .i64)⟩),(3,some ⟨1,false,8,[.int .i64 0],(.int .i64)⟩)],none,none⟩:=by kernel_rfl
@[go_sem] theorem Xme:aF Tryz.prog 29=some ⟨1,false,8,[.int .i64 0],(.int .i64)⟩:=by kernel_rfl
@[go_sem] theorem aoQ:bL Tryz.prog 29=some ⟨⟨1,false,8,[.int .i64 0],(.int .i64)⟩,[],none,none⟩:=by kernel_rfl
@[go_sem] theorem Xnk:aF Tryz.prog 31=some ⟨1,false,8,[.az], .func⟩:=by kernel_rfl
@[go_sem] theorem aoR:bL Tryz.prog 31=some ⟨⟨1,false,8,[.az], .func⟩,[],none,none⟩:=by kernel_rfl
@[go_sem] theorem Xpo:aF Tryz.prog 33=some ⟨1,false,8,[.az], .func⟩:=by kernel_rfl
@[go_sem] theorem aoS:bL Tryz.prog 33=some ⟨⟨1,false,8,[.az], .func⟩,[],none,none⟩:=by kernel_rfl
@[go_sem] theorem Xjg:aF Tryz.prog 34=some ⟨1,false,8,[.az], .func⟩:=by kernel_rfl
@[go_sem] theorem aoT:bL Tryz.prog 34=some ⟨⟨1,false,8,[.az], .func⟩,[],none,none⟩:=by kernel_rfl
@[go_sem] theorem Xlb:aF Tryz.prog 35=some ⟨1,false,8,[.az], .func⟩:=by kernel_rfl
@[go_sem] theorem aoU:bL Tryz.prog 35=some ⟨⟨1,false,8,[.az], .func⟩,[],none,none⟩:=by kernel_rfl
@[go_sem] theorem Xl7:aF Tryz.prog 36=some ⟨1,false,24,[.aU], .slice⟩:=by kernel_rfl
@[go_sem] theorem aoV:bL Tryz.prog 36=some ⟨⟨1,false,24,[.aU], .slice⟩,[],some ⟨1,false,24,[.aU], .slice⟩,none⟩:=by kernel_rfl
@[go_sem] theorem Xjk:aF Tryz.prog 37=some ⟨2,true,32,[.int .i64 0, .aU], .struct⟩:=by kernel_rfl
@[go_sem] theorem aoW:bL Tryz.prog 37=some ⟨⟨2,true,32,[.int .i64 0, .aU], .struct⟩,[(0,some ⟨1,false,8,[.int .i64 0],(.int .i64)⟩),(1,some ⟨1,false,24,[.aU], .slice⟩)],none,none⟩:=by kernel_rfl
@[go_sem] theorem Xlj:aF Tryz.prog 38=some ⟨2,true,32,[.int .i64 0, .aU], .struct⟩:=by kernel_rfl
@[go_sem] theorem aoX:bL Tryz.prog 38=some ⟨⟨2,true,32,[.int .i64 0, .aU], .struct⟩,[(0,some ⟨1,false,8,[.int .i64 0],(.int .i64)⟩),(1,some ⟨1,false,24,[.aU], .slice⟩)],none,none⟩:=by kernel_rfl
@[go_sem] theorem Xpu:aF Tryz.prog 39=some ⟨1,false,8,[.az], .func⟩:=by kernel_rfl
@[go_sem] theorem aoY:bL Tryz.prog 39=some ⟨⟨1,false,8,[.az], .func⟩,[],none,none⟩:=by kernel_rfl
@[go_sem] theorem Xoy:aF Tryz.prog 40=some ⟨1,false,8,[.az], .func⟩:=by kernel_rfl
@[go_sem] theorem aoZ:bL Tryz.prog 40=some ⟨⟨1,false,8,[.az], .func⟩,[],none,none⟩:=by kernel_rfl
@[go_sem] theorem Xnb:aF Tryz.prog 41=some ⟨1,false,8,[.az], .func⟩:=by kernel_rfl
@[go_sem] theorem ao0:bL Tryz.prog 41=some ⟨⟨1,false,8,[.az], .func⟩,[],none,none⟩:=by kernel_rfl
@[go_sem] theorem Xnx:aF Tryz.prog 42=some ⟨1,false,8,[.az], .func⟩:=by kernel_rfl
@[go_sem] theorem ao1:bL Tryz.prog 42=some ⟨⟨1,false,8,[.az], .func⟩,[],none,none⟩:=by kernel_rfl
@[go_sem] theorem Xiy:aF Tryz.prog 43=some ⟨1,false,8,[.az], .func⟩:=by kernel_rfl
@[go_sem] theorem ao2:bL Tryz.prog 43=some ⟨⟨1,false,8,[.az], .func⟩,[],none,none⟩:=by kernel_rfl
@[go_sem] theorem Xo2:aF Tryz.prog 44=some ⟨1,false,8,[.az], .func⟩:=by kernel_rfl
@[go_sem] theorem ao3:bL Tryz.prog 44=some ⟨⟨1,false,8,[.az], .func⟩,[],none,none⟩:=by kernel_rfl
@[go_sem] theorem Xkz:aF Tryz.prog 45=some ⟨1,false,8,[.az], .func⟩:=by kernel_rfl
@[go_sem] theorem ao4:bL Tryz.prog 45=some ⟨⟨1,false,8,[.az], .func⟩,[],none,none⟩:=by kernel_rfl
@[go_sem] theorem Xkv:aF Tryz.prog 46=some ⟨1,false,8,[.az], .func⟩:=by kernel_rfl
@[go_sem] theorem ao5:bL Tryz.prog 46=some ⟨⟨1,false,8,[.az], .func⟩,[],none,none⟩:=by kernel_rfl
@[go_sem] theorem Xjl:aF Tryz.prog 47=some ⟨1,false,8,[.az], .func⟩:=by kernel_rfl
@[go_sem] theorem ao6:bL Tryz.prog 47=some ⟨⟨1,false,8,[.az], .func⟩,[],none,none⟩:=by kernel_rfl
@[go_sem] theorem Xn9:aF Tryz.prog 48=some ⟨1,false,8,[.az], .func⟩:=by kernel_rfl
@[go_sem] theorem ao7:bL Tryz.prog 48=some ⟨⟨1,false,8,[.az], .func⟩,[],none,none⟩:=by kernel_rfl
@[go_sem] theorem Xk6:aF Tryz.prog 49=some ⟨1,false,8,[.az], .func⟩:=by kernel_rfl
@[go_sem] theorem ao8:bL Tryz.prog 49=some ⟨⟨1,false,8,[.az], .func⟩,[],none,none⟩:=by kernel_rfl
@[go_sem] theorem Xlm:aF Tryz.prog 50=some ⟨1,false,8,[.az], .func⟩:=by kernel_rfl
@[go_sem] theorem ao9:bL Tryz.prog 50=some ⟨⟨1,false,8,[.az], .func⟩,[],none,none⟩:=by kernel_rfl
@[go_sem] theorem Xml:aF Tryz.prog 51=some ⟨1,false,8,[.az], .func⟩:=by kernel_rfl
@[go_sem] theorem ao_:bL Tryz.prog 51=some ⟨⟨1,false,8,[.az], .func⟩,[],none,none⟩:=by kernel_rfl
@[go_sem] theorem Xlw:aF Tryz.prog 52=some ⟨1,false,8,[.az], .func⟩:=by kernel_rfl
@[go_sem] theorem apa:bL Tryz.prog 52=some ⟨⟨1,false,8,[.az], .func⟩,[],none,none⟩:=by kernel_rfl
@[go_sem] theorem Xo5:aF Tryz.prog 53=some ⟨1,false,8,[.bN], .ptr⟩:=by kernel_rfl
@[go_sem] theorem apb:bL Tryz.prog 53=some ⟨⟨1,false,8,[.bN], .ptr⟩,[],none,none⟩:=by kernel_rfl
@[go_sem] theorem Xmf:aF Tryz.prog 54=some ⟨1,false,8,[.az], .func⟩:=by kernel_rfl
@[go_sem] theorem apc:bL Tryz.prog 54=some ⟨⟨1,false,8,[.az], .func⟩,[],none,none⟩:=by kernel_rfl
@[go_sem] theorem Xnl:aF Tryz.prog 55=some ⟨7,true,120,[.aU, .aU, .aU, .aU, .int .i64 0, .int .i64 0, .int .i64 0], .struct⟩:=by kernel_rfl
@[go_sem] theorem apd:bL Tryz.prog 55=some ⟨⟨7,true,120,[.aU, .aU, .aU, .aU, .int .i64 0, .int .i64 0, .int .i64 0], .struct⟩,[(0,some ⟨1,false,24,[.aU], .slice⟩),(1,some ⟨1,false,24,[.aU], .slice⟩),(2,some ⟨1,false,24,[.aU], .slice⟩),(3,some ⟨1,false,24,[.aU], .slice⟩),(4,some ⟨1,false,8,[.int .i64 0],(.int .i64)⟩),(5,some ⟨1,false,8,[.int .i64 0],(.int .i64)⟩),(6,some ⟨1,false,8,[.int .i64 0],(.int .i64)⟩)],none,none⟩:=by kernel_rfl
@[go_sem] theorem Xn1:aF Tryz.prog 56=some ⟨7,true,120,[.aU, .aU, .aU, .aU, .int .i64 0, .int .i64 0, .int .i64 0], .struct⟩:=by kernel_rfl
@[go_sem] theorem ape:bL Tryz.prog 56=some ⟨⟨7,true,120,[.aU, .aU, .aU, .aU, .int .i64 0, .int .i64 0, .int .i64 0], .struct⟩,[(0,some ⟨1,false,24,[.aU], .slice⟩),(1,some ⟨1,false,24,[.aU], .slice⟩),(2,some ⟨1,false,24,[.aU], .slice⟩),(3,some ⟨1,false,24,[.aU], .slice⟩),(4,some ⟨1,false,8,[.int .i64 0],(.int .i64)⟩),(5,some ⟨1,false,8,[.int .i64 0],(.int .i64)⟩),(6,some ⟨1,false,8,[.int .i64 0],(.int .i64)⟩)],none,none⟩:=by kernel_rfl
@[go_sem] theorem Xnu:aF Tryz.prog 57=some ⟨1,false,8,[.az], .func⟩:=by kernel_rfl
@[go_sem] theorem apf:bL Tryz.prog 57=some ⟨⟨1,false,8,[.az], .func⟩,[],none,none⟩:=by kernel_rfl
@[go_sem] theorem Xnq:aF Tryz.prog 58=some ⟨1,false,24,[.aU], .slice⟩:=by kernel_rfl
@[go_sem] theorem apg:bL Tryz.prog 58=some ⟨⟨1,false,24,[.aU], .slice⟩,[],some ⟨1,false,8,[.az], .func⟩,none⟩:=by kernel_rfl
@[go_sem] theorem Xix:aF Tryz.prog 60=some ⟨1,false,8,[.az], .func⟩:=by kernel_rfl
@[go_sem] theorem aph:bL Tryz.prog 60=some ⟨⟨1,false,8,[.az], .func⟩,[],none,none⟩:=by kernel_rfl
@[go_sem] theorem Xmi:aF Tryz.prog 61=some ⟨1,false,8,[.az], .func⟩:=by kernel_rfl
@[go_sem] theorem apj:bL Tryz.prog 61=some ⟨⟨1,false,8,[.az], .func⟩,[],none,none⟩:=by kernel_rfl
@[go_sem] theorem Xlq:aF Tryz.prog 63=some ⟨1,false,8,[.az], .func⟩:=by kernel_rfl
@[go_sem] theorem apk:bL Tryz.prog 63=some ⟨⟨1,false,8,[.az], .func⟩,[],none,none⟩:=by kernel_rfl
@[go_sem] theorem Xpt:aF Tryz.prog 64=some ⟨1,false,8,[.az], .func⟩:=by kernel_rfl
@[go_sem] theorem apl:bL Tryz.prog 64=some ⟨⟨1,false,8,[.az], .func⟩,[],none,none⟩:=by kernel_rfl
@[go_sem] theorem Xid:aF Tryz.prog 66=some ⟨1,false,8,[.az], .func⟩:=by kernel_rfl
@[go_sem] theorem apm:bL Tryz.prog 66=some ⟨⟨1,false,8,[.az], .func⟩,[],none,none⟩:=by kernel_rfl
@[go_sem] theorem Xpv:aF Tryz.prog 67=some ⟨1,false,8,[.az], .func⟩:=by kernel_rfl
@[go_sem] theorem apn:bL Tryz.prog 67=some ⟨⟨1,false,8,[.az], .func⟩,[],none,none⟩:=by kernel_rfl
@[go_sem] theorem Xpd:aF Tryz.prog 68=some ⟨1,false,24,[.aU], .slice⟩:=by kernel_rfl
@[go_sem] theorem apo:bL Tryz.prog 68=some ⟨⟨1,false,24,[.aU], .slice⟩,[],some ⟨2,true,32,[.int .i64 0, .aU], .struct⟩,none⟩:=by kernel_rfl
@[go_sem] theorem Xny:aF Tryz.prog 69=some ⟨2,true,32,[.int .i64 0, .aU], .struct⟩:=by kernel_rfl
@[go_sem] theorem apq:bL Tryz.prog 69=some ⟨⟨2,true,32,[.int .i64 0, .aU], .struct⟩,[(0,some ⟨1,false,8,[.int .i64 0],(.int .i64)⟩),(1,some ⟨1,false,24,[.aU], .slice⟩)],none,none⟩:=by kernel_rfl
@[go_sem] theorem Xj1:aF Tryz.prog 70=some ⟨2,true,32,[.int .i64 0, .aU], .struct⟩:=by kernel_rfl
@[go_sem] theorem apr:bL Tryz.prog 70=some ⟨⟨2,true,32,[.int .i64 0, .aU], .struct⟩,[(0,some ⟨1,false,8,[.int .i64 0],(.int .i64)⟩),(1,some ⟨1,false,24,[.aU], .slice⟩)],none,none⟩:=by kernel_rfl
@[go_sem] theorem Xjq:aF Tryz.prog 71=some ⟨1,false,8,[.az], .func⟩:=by kernel_rfl
@[go_sem] theorem aps:bL Tryz.prog 71=some ⟨⟨1,false,8,[.az], .func⟩,[],none,none⟩:=by kernel_rfl
@[go_sem] theorem Xng:aF Tryz.prog 72=some ⟨1,false,8,[.az], .func⟩:=by kernel_rfl
@[go_sem] theorem apt:bL Tryz.prog 72=some ⟨⟨1,false,8,[.az], .func⟩,[],none,none⟩:=by kernel_rfl
@[go_sem] theorem Xm8:aF Tryz.prog 73=some ⟨5,true,72,[.bool false, .int .i64 0, .aU, .int .i64 0, .aU], .struct⟩:=by kernel_rfl
@[go_sem] theorem apu:bL Tryz.prog 73=some ⟨⟨5,true,72,[.bool false, .int .i64 0, .aU, .int .i64 0, .aU], .struct⟩,[(0,some ⟨1,false,1,[.bool false], .bool⟩),(1,some ⟨2,true,32,[.int .i64 0, .aU], .struct⟩),(3,some ⟨2,true,32,[.int .i64 0, .aU], .struct⟩)],none,none⟩:=by kernel_rfl
@[go_sem] theorem Xjb:aF Tryz.prog 74=some ⟨5,true,72,[.bool false, .int .i64 0, .aU, .int .i64 0, .aU], .struct⟩:=by kernel_rfl
@[go_sem] theorem apv:bL Tryz.prog 74=some ⟨⟨5,true,72,[.bool false, .int .i64 0, .aU, .int .i64 0, .aU], .struct⟩,[(0,some ⟨1,false,1,[.bool false], .bool⟩),(1,some ⟨2,true,32,[.int .i64 0, .aU], .struct⟩),(3,some ⟨2,true,32,[.int .i64 0, .aU], .struct⟩)],none,none⟩:=by kernel_rfl
@[go_sem] theorem Xl4:aF Tryz.prog 75=some ⟨1,false,8,[.az], .func⟩:=by kernel_rfl
@[go_sem] theorem apw:bL Tryz.prog 75=some ⟨⟨1,false,8,[.az], .func⟩,[],none,none⟩:=by kernel_rfl
@[go_sem] theorem Xjp:aF Tryz.prog 76=some ⟨1,false,8,[.az], .func⟩:=by kernel_rfl
@[go_sem] theorem apx:bL Tryz.prog 76=some ⟨⟨1,false,8,[.az], .func⟩,[],none,none⟩:=by kernel_rfl
@[go_sem] theorem Xk8:aF Tryz.prog 77=some ⟨1,false,8,[.az], .func⟩:=by kernel_rfl
@[go_sem] theorem apy:bL Tryz.prog 77=some ⟨⟨1,false,8,[.az], .func⟩,[],none,none⟩:=by kernel_rfl
@[go_sem] theorem Xlc:aF Tryz.prog 78=some ⟨4,true,40,[.str ⟨#[]⟩, .int .i64 0, .int .i64 0, .bool false], .struct⟩:=by kernel_rfl
@[go_sem] theorem apz:bL Tryz.prog 78=some ⟨⟨4,true,40,[.str ⟨#[]⟩, .int .i64 0, .int .i64 0, .bool false], .struct⟩,[(0,some ⟨1,false,16,[.str ⟨#[]⟩], .str⟩),(1,some ⟨1,false,8,[.int .i64 0],(.int .i64)⟩),(2,some ⟨1,false,8,[.int .i64 0],(.int .i64)⟩),(3,some ⟨1,false,1,[.bool false], .bool⟩)],none,none⟩:=by kernel_rfl
@[go_sem] theorem Xn3:uj Tryz.prog 78 [.str,(.int .i64),(.int .i64), .bool]=true:=by kernel_rfl
@[go_sem] theorem Xik:aF Tryz.prog 79=some ⟨4,true,40,[.str ⟨#[]⟩, .int .i64 0, .int .i64 0, .bool false], .struct⟩:=by kernel_rfl
@[go_sem] theorem apA:bL Tryz.prog 79=some ⟨⟨4,true,40,[.str ⟨#[]⟩, .int .i64 0, .int .i64 0, .bool false], .struct⟩,[(0,some ⟨1,false,16,[.str ⟨#[]⟩], .str⟩),(1,some ⟨1,false,8,[.int .i64 0],(.int .i64)⟩),(2,some ⟨1,false,8,[.int .i64 0],(.int .i64)⟩),(3,some ⟨1,false,1,[.bool false], .bool⟩)],none,none⟩:=by kernel_rfl
@[go_sem] theorem Xjo:uj Tryz.prog 79 [.str,(.int .i64),(.int .i64), .bool]=true:=by kernel_rfl
@[go_sem] theorem Xj8:aF Tryz.prog 80=some ⟨1,false,8,[.az], .func⟩:=by kernel_rfl
@[go_sem] theorem apB:bL Tryz.prog 80=some ⟨⟨1,false,8,[.az], .func⟩,[],none,none⟩:=by kernel_rfl
@[go_sem] theorem Xms:aF Tryz.prog 81=some ⟨1,false,8,[.az], .func⟩:=by kernel_rfl
@[go_sem] theorem apC:bL Tryz.prog 81=some ⟨⟨1,false,8,[.az], .func⟩,[],none,none⟩:=by kernel_rfl
@[go_sem] theorem Xls:aF Tryz.prog 82=some ⟨1,false,8,[.az], .func⟩:=by kernel_rfl
@[go_sem] theorem apD:bL Tryz.prog 82=some ⟨⟨1,false,8,[.az], .func⟩,[],none,none⟩:=by kernel_rfl
@[go_sem] theorem Xie:aF Tryz.prog 83=some ⟨1,false,8,[.az], .func⟩:=by kernel_rfl
@[go_sem] theorem apE:bL Tryz.prog 83=some ⟨⟨1,false,8,[.az], .func⟩,[],none,none⟩:=by kernel_rfl
@[go_sem] theorem Xif:aF Tryz.prog 84=some ⟨1,false,8,[.az], .func⟩:=by kernel_rfl
@[go_sem] theorem apF:bL Tryz.prog 84=some ⟨⟨1,false,8,[.az], .func⟩,[],none,none⟩:=by kernel_rfl
@[go_sem] theorem Xii:aF Tryz.prog 85=some ⟨1,false,8,[.az], .func⟩:=by kernel_rfl
@[go_sem] theorem apG:bL Tryz.prog 85=some ⟨⟨1,false,8,[.az], .func⟩,[],none,none⟩:=by kernel_rfl
@[go_sem] theorem Xo0:aF Tryz.prog 86=some ⟨1,false,8,[.az], .func⟩:=by kernel_rfl
@[go_sem] theorem apH:bL Tryz.prog 86=some ⟨⟨1,false,8,[.az], .func⟩,[],none,none⟩:=by kernel_rfl
@[go_sem] theorem Xp9:aF Tryz.prog 87=some ⟨1,false,8,[.bN], .ptr⟩:=by kernel_rfl
@[go_sem] theorem apI:bL Tryz.prog 87=some ⟨⟨1,false,8,[.bN], .ptr⟩,[],none,none⟩:=by kernel_rfl
@[go_sem] theorem Xj6:aF Tryz.prog 88=some ⟨1,false,24,[.aU], .slice⟩:=by kernel_rfl
@[go_sem] theorem apJ:bL Tryz.prog 88=some ⟨⟨1,false,24,[.aU], .slice⟩,[],some ⟨1,false,1,[.bool false], .bool⟩,none⟩:=by kernel_rfl
@[go_sem] theorem Xoz:aF Tryz.prog 89=some ⟨2,true,48,[.aU, .aU], .struct⟩:=by kernel_rfl
@[go_sem] theorem apK:bL Tryz.prog 89=some ⟨⟨2,true,48,[.aU, .aU], .struct⟩,[(0,some ⟨1,false,24,[.aU], .slice⟩),(1,some ⟨1,false,24,[.aU], .slice⟩)],none,none⟩:=by kernel_rfl
@[go_sem] theorem Xob:aF Tryz.prog 90=some ⟨2,true,48,[.aU, .aU], .struct⟩:=by kernel_rfl
@[go_sem] theorem apL:bL Tryz.prog 90=some ⟨⟨2,true,48,[.aU, .aU], .struct⟩,[(0,some ⟨1,false,24,[.aU], .slice⟩),(1,some ⟨1,false,24,[.aU], .slice⟩)],none,none⟩:=by kernel_rfl
@[go_sem] theorem Xox:aF Tryz.prog 91=some ⟨1,false,8,[.az], .func⟩:=by kernel_rfl
@[go_sem] theorem apM:bL Tryz.prog 91=some ⟨⟨1,false,8,[.az], .func⟩,[],none,none⟩:=by kernel_rfl
@[go_sem] theorem Xm4:aF Tryz.prog 92=some ⟨1,false,8,[.cC], .map⟩:=by kernel_rfl
@[go_sem] theorem apN:bL Tryz.prog 92=some ⟨⟨1,false,8,[.cC], .map⟩,[],some ⟨2,true,32,[.int .i64 0, .aU], .struct⟩,some ⟨1,false,8,[.int .i64 0],(.int .i64)⟩⟩:=by kernel_rfl
@[go_sem] theorem Xpr:aF Tryz.prog 93=some ⟨1,false,8,[.cC], .map⟩:=by kernel_rfl
@[go_sem] theorem apO:bL Tryz.prog 93=some ⟨⟨1,false,8,[.cC], .map⟩,[],some ⟨2,true,32,[.int .i64 0, .aU], .struct⟩,some ⟨1,false,8,[.int .i64 0],(.int .i64)⟩⟩:=by kernel_rfl
@[go_sem] theorem Xj0:aF Tryz.prog 94=some ⟨1,false,8,[.az], .func⟩:=by kernel_rfl
@[go_sem] theorem apP:bL Tryz.prog 94=some ⟨⟨1,false,8,[.az], .func⟩,[],none,none⟩:=by kernel_rfl
@[go_sem] theorem Xmp:aF Tryz.prog 95=some ⟨1,false,8,[.az], .func⟩:=by kernel_rfl
@[go_sem] theorem apQ:bL Tryz.prog 95=some ⟨⟨1,false,8,[.az], .func⟩,[],none,none⟩:=by kernel_rfl
@[go_sem] theorem Xn0:aF Tryz.prog 96=some ⟨1,false,8,[.az], .func⟩:=by kernel_rfl
@[go_sem] theorem apR:bL Tryz.prog 96=some ⟨⟨1,false,8,[.az], .func⟩,[],none,none⟩:=by kernel_rfl
@[go_sem] theorem Xm3:aF Tryz.prog 97=some ⟨1,false,8,[.az], .func⟩:=by kernel_rfl
@[go_sem] theorem apS:bL Tryz.prog 97=some ⟨⟨1,false,8,[.az], .func⟩,[],none,none⟩:=by kernel_rfl
@[go_sem] theorem Xo7:aF Tryz.prog 98=some ⟨1,false,8,[.az], .func⟩:=by kernel_rfl
@[go_sem] theorem apT:bL Tryz.prog 98=some ⟨⟨1,false,8,[.az], .func⟩,[],none,none⟩:=by kernel_rfl
@[go_sem] theorem Xjv:aF Tryz.prog 99=some ⟨1,false,8,[.az], .func⟩:=by kernel_rfl
@[go_sem] theorem apU:bL Tryz.prog 99=some ⟨⟨1,false,8,[.az], .func⟩,[],none,none⟩:=by kernel_rfl
@[go_sem] theorem Xga:aF Tryz.prog 100=some ⟨1,false,8,[.az], .func⟩:=by kernel_rfl
@[go_sem] theorem Xk5:bL Tryz.prog 100=some ⟨⟨1,false,8,[.az], .func⟩,[],none,none⟩:=by kernel_rfl
@[go_sem] theorem Xfp:aF Tryz.prog 102=some ⟨1,false,8,[.az], .func⟩:=by kernel_rfl
@[go_sem] theorem Xp1:bL Tryz.prog 102=some ⟨⟨1,false,8,[.az], .func⟩,[],none,none⟩:=by kernel_rfl
@[go_sem] theorem Xdf:aF Tryz.prog 103=some ⟨1,false,8,[.az], .func⟩:=by kernel_rfl
@[go_sem] theorem Xpi:bL Tryz.prog 103=some ⟨⟨1,false,8,[.az], .func⟩,[],none,none⟩:=by kernel_rfl
@[go_sem] theorem Xgj:aF Tryz.prog 105=some ⟨1,false,8,[.az], .func⟩:=by kernel_rfl
@[go_sem] theorem Xj5:bL Tryz.prog 105=some ⟨⟨1,false,8,[.az], .func⟩,[],none,none⟩:=by kernel_rfl
@[go_sem] theorem Xed:aF Tryz.prog 106=some ⟨1,false,8,[.az], .func⟩:=by kernel_rfl
@[go_sem] theorem Xlg:bL Tryz.prog 106=some ⟨⟨1,false,8,[.az], .func⟩,[],none,none⟩:=by kernel_rfl
@[go_sem] theorem Xfr:aF Tryz.prog 108=some ⟨1,false,8,[.az], .func⟩:=by kernel_rfl
@[go_sem] theorem Xkq:bL Tryz.prog 108=some ⟨⟨1,false,8,[.az], .func⟩,[],none,none⟩:=by kernel_rfl
@[go_sem] theorem Xf4:aF Tryz.prog 109=some ⟨1,false,8,[.az], .func⟩:=by kernel_rfl
@[go_sem] theorem Xiv:bL Tryz.prog 109=some ⟨⟨1,false,8,[.az], .func⟩,[],none,none⟩:=by kernel_rfl
@[go_sem] theorem Xfo:aF Tryz.prog 110=some ⟨1,false,8,[.az], .func⟩:=by kernel_rfl
@[go_sem] theorem Xi8:bL Tryz.prog 110=some ⟨⟨1,false,8,[.az], .func⟩,[],none,none⟩:=by kernel_rfl
@[go_sem] theorem Xhr:aF Tryz.prog 111=some ⟨1,false,8,[.az], .func⟩:=by kernel_rfl
@[go_sem] theorem Xp7:bL Tryz.prog 111=some ⟨⟨1,false,8,[.az], .func⟩,[],none,none⟩:=by kernel_rfl
@[go_sem] theorem Xeh:aF Tryz.prog 112=some ⟨1,false,8,[.az], .func⟩:=by kernel_rfl
@[go_sem] theorem Xl6:bL Tryz.prog 112=some ⟨⟨1,false,8,[.az], .func⟩,[],none,none⟩:=by kernel_rfl
@[go_sem] theorem Xhu:aF Tryz.prog 113=some ⟨1,false,8,[.az], .func⟩:=by kernel_rfl
@[go_sem] theorem Xlr:bL Tryz.prog 113=some ⟨⟨1,false,8,[.az], .func⟩,[],none,none⟩:=by kernel_rfl
@[go_sem] theorem Xhp:aF Tryz.prog 114=some ⟨1,false,8,[.az], .func⟩:=by kernel_rfl
@[go_sem] theorem Xnw:bL Tryz.prog 114=some ⟨⟨1,false,8,[.az], .func⟩,[],none,none⟩:=by kernel_rfl
@[go_sem] theorem Xez:aF Tryz.prog 115=some ⟨1,false,8,[.az], .func⟩:=by kernel_rfl
@[go_sem] theorem Xn4:bL Tryz.prog 115=some ⟨⟨1,false,8,[.az], .func⟩,[],none,none⟩:=by kernel_rfl
@[go_sem] theorem Xfv:aF Tryz.prog 116=some ⟨1,false,8,[.az], .func⟩:=by kernel_rfl
@[go_sem] theorem Xju:bL Tryz.prog 116=some ⟨⟨1,false,8,[.az], .func⟩,[],none,none⟩:=by kernel_rfl
@[go_sem] theorem Xhk:aF Tryz.prog 117=some ⟨1,false,8,[.az], .func⟩:=by kernel_rfl
@[go_sem] theorem Xks:bL Tryz.prog 117=some ⟨⟨1,false,8,[.az], .func⟩,[],none,none⟩:=by kernel_rfl
@[go_sem] theorem Xdq:aF Tryz.prog 118=some ⟨1,false,8,[.az], .func⟩:=by kernel_rfl
@[go_sem] theorem Xmv:bL Tryz.prog 118=some ⟨⟨1,false,8,[.az], .func⟩,[],none,none⟩:=by kernel_rfl
@[go_sem] theorem Xel:aF Tryz.prog 119=some ⟨1,false,8,[.az], .func⟩:=by kernel_rfl
@[go_sem] theorem Xkh:bL Tryz.prog 119=some ⟨⟨1,false,8,[.az], .func⟩,[],none,none⟩:=by kernel_rfl
@[go_sem] theorem Xdi:aF Tryz.prog 120=some ⟨1,false,8,[.az], .func⟩:=by kernel_rfl
@[go_sem] theorem Xn5:bL Tryz.prog 120=some ⟨⟨1,false,8,[.az], .func⟩,[],none,none⟩:=by kernel_rfl
@[go_sem] theorem Xes:aF Tryz.prog 121=some ⟨1,false,8,[.az], .func⟩:=by kernel_rfl
@[go_sem] theorem Xnn:bL Tryz.prog 121=some ⟨⟨1,false,8,[.az], .func⟩,[],none,none⟩:=by kernel_rfl
@[go_sem] theorem Xfk:aF Tryz.prog 122=some ⟨6,true,96,[.aU, .bool false, .int .i64 0, .aU, .int .i64 0, .aU], .struct⟩:=by kernel_rfl
@[go_sem] theorem Xm9:bL Tryz.prog 122=some ⟨⟨6,true,96,[.aU, .bool false, .int .i64 0, .aU, .int .i64 0, .aU], .struct⟩,[(0,some ⟨1,false,24,[.aU], .slice⟩),(1,some ⟨5,true,72,[.bool false, .int .i64 0, .aU, .int .i64 0, .aU], .struct⟩)],none,none⟩:=by kernel_rfl
@[go_sem] theorem Xgf:aF Tryz.prog 123=some ⟨6,true,96,[.aU, .bool false, .int .i64 0, .aU, .int .i64 0, .aU], .struct⟩:=by kernel_rfl
@[go_sem] theorem Xoq:bL Tryz.prog 123=some ⟨⟨6,true,96,[.aU, .bool false, .int .i64 0, .aU, .int .i64 0, .aU], .struct⟩,[(0,some ⟨1,false,24,[.aU], .slice⟩),(1,some ⟨5,true,72,[.bool false, .int .i64 0, .aU, .int .i64 0, .aU], .struct⟩)],none,none⟩:=by kernel_rfl
@[go_sem] theorem Xet:aF Tryz.prog 124=some ⟨1,false,8,[.az], .func⟩:=by kernel_rfl
@[go_sem] theorem Xio:bL Tryz.prog 124=some ⟨⟨1,false,8,[.az], .func⟩,[],none,none⟩:=by kernel_rfl
@[go_sem] theorem Xef:aF Tryz.prog 125=some ⟨1,false,8,[.az], .func⟩:=by kernel_rfl
@[go_sem] theorem Xp3:bL Tryz.prog 125=some ⟨⟨1,false,8,[.az], .func⟩,[],none,none⟩:=by kernel_rfl
@[go_sem] theorem Xd7:aF Tryz.prog 126=some ⟨1,false,8,[.az], .func⟩:=by kernel_rfl
@[go_sem] theorem Xna:bL Tryz.prog 126=some ⟨⟨1,false,8,[.az], .func⟩,[],none,none⟩:=by kernel_rfl
@[go_sem] theorem Xeq:aF Tryz.prog 127=some ⟨1,false,8,[.az], .func⟩:=by kernel_rfl
@[go_sem] theorem Xka:bL Tryz.prog 127=some ⟨⟨1,false,8,[.az], .func⟩,[],none,none⟩:=by kernel_rfl
@[go_sem] theorem Xhm:aF Tryz.prog 128=some ⟨1,false,24,[.aU], .slice⟩:=by kernel_rfl
@[go_sem] theorem Xjd:bL Tryz.prog 128=some ⟨⟨1,false,24,[.aU], .slice⟩,[],some ⟨5,true,72,[.int .i64 0, .aU, .int .i64 0, .aU, .int .i64 0], .struct⟩,none⟩:=by kernel_rfl
@[go_sem] theorem Xf1:aF Tryz.prog 129=some ⟨1,false,8,[.az], .func⟩:=by kernel_rfl
@[go_sem] theorem Xo8:bL Tryz.prog 129=some ⟨⟨1,false,8,[.az], .func⟩,[],none,none⟩:=by kernel_rfl
@[go_sem] theorem Xd6:aF Tryz.prog 130=some ⟨1,false,8,[.az], .func⟩:=by kernel_rfl
@[go_sem] theorem Xor:bL Tryz.prog 130=some ⟨⟨1,false,8,[.az], .func⟩,[],none,none⟩:=by kernel_rfl
@[go_sem] theorem Xdr:aF Tryz.prog 131=some ⟨1,false,8,[.az], .func⟩:=by kernel_rfl
@[go_sem] theorem Xmd:bL Tryz.prog 131=some ⟨⟨1,false,8,[.az], .func⟩,[],none,none⟩:=by kernel_rfl
@[go_sem] theorem Xg5:aF Tryz.prog 132=some ⟨1,false,8,[.az], .func⟩:=by kernel_rfl
@[go_sem] theorem Xln:bL Tryz.prog 132=some ⟨⟨1,false,8,[.az], .func⟩,[],none,none⟩:=by kernel_rfl
@[go_sem] theorem Xdh:aF Tryz.prog 133=some ⟨1,false,8,[.az], .func⟩:=by kernel_rfl
@[go_sem] theorem Xkn:bL Tryz.prog 133=some ⟨⟨1,false,8,[.az], .func⟩,[],none,none⟩:=by kernel_rfl
@[go_sem] theorem Xff:aF Tryz.prog 134=some ⟨1,false,8,[.cC], .map⟩:=by kernel_rfl
@[go_sem] theorem Xok:bL Tryz.prog 134=some ⟨⟨1,false,8,[.cC], .map⟩,[],some ⟨1,false,8,[.int .i64 0],(.int .i64)⟩,some ⟨1,false,8,[.int .i64 0],(.int .i64)⟩⟩:=by kernel_rfl
@[go_sem] theorem Xhi:aF Tryz.prog 136=some ⟨1,false,8,[.az], .func⟩:=by kernel_rfl
@[go_sem] theorem Xja:bL Tryz.prog 136=some ⟨⟨1,false,8,[.az], .func⟩,[],none,none⟩:=by kernel_rfl
@[go_sem] theorem Xej:aF Tryz.prog 137=some ⟨1,true,8,[.az], .struct⟩:=by kernel_rfl
@[go_sem] theorem Xje:bL Tryz.prog 137=some ⟨⟨1,true,8,[.az], .struct⟩,[(0,some ⟨1,false,8,[.az], .func⟩)],none,none⟩:=by kernel_rfl
@[go_sem] theorem Xcq:aF Tryz.prog 138=some ⟨1,true,8,[.az], .struct⟩:=by kernel_rfl
@[go_sem] theorem Xm2:bL Tryz.prog 138=some ⟨⟨1,true,8,[.az], .struct⟩,[(0,some ⟨1,false,8,[.az], .func⟩)],none,none⟩:=by kernel_rfl
@[go_sem] theorem Xew:aF Tryz.prog 139=some ⟨1,false,8,[.az], .func⟩:=by kernel_rfl
@[go_sem] theorem Xky:bL Tryz.prog 139=some ⟨⟨1,false,8,[.az], .func⟩,[],none,none⟩:=by kernel_rfl
@[go_sem] theorem Xgr:aF Tryz.prog 140=some ⟨1,false,8,[.az], .func⟩:=by kernel_rfl
@[go_sem] theorem Xpg:bL Tryz.prog 140=some ⟨⟨1,false,8,[.az], .func⟩,[],none,none⟩:=by kernel_rfl
@[go_sem] theorem Xen:aF Tryz.prog 141=some ⟨1,false,24,[.aU], .slice⟩:=by kernel_rfl
@[go_sem] theorem Xkb:bL Tryz.prog 141=some ⟨⟨1,false,24,[.aU], .slice⟩,[],some ⟨3,true,40,[.int .i64 0, .int .i64 0, .aU], .struct⟩,none⟩:=by kernel_rfl
@[go_sem] theorem Xdl:aF Tryz.prog 142=some ⟨1,false,8,[.az], .func⟩:=by kernel_rfl
@[go_sem] theorem Xit:bL Tryz.prog 142=some ⟨⟨1,false,8,[.az], .func⟩,[],none,none⟩:=by kernel_rfl
@[go_sem] theorem Xgy:aF Tryz.prog 143=some ⟨1,false,8,[.az], .func⟩:=by kernel_rfl
@[go_sem] theorem Xle:bL Tryz.prog 143=some ⟨⟨1,false,8,[.az], .func⟩,[],none,none⟩:=by kernel_rfl
@[go_sem] theorem Xh4:aF Tryz.prog 144=some ⟨1,false,8,[.az], .func⟩:=by kernel_rfl
@[go_sem] theorem Xl1:bL Tryz.prog 144=some ⟨⟨1,false,8,[.az], .func⟩,[],none,none⟩:=by kernel_rfl
@[go_sem] theorem Xhq:aF Tryz.prog 145=some ⟨1,false,8,[.az], .func⟩:=by kernel_rfl
@[go_sem] theorem Xpa:bL Tryz.prog 145=some ⟨⟨1,false,8,[.az], .func⟩,[],none,none⟩:=by kernel_rfl
@[go_sem] theorem Xi0:aF Tryz.prog 146=some ⟨1,false,8,[.az], .func⟩:=by kernel_rfl
@[go_sem] theorem Xpn:bL Tryz.prog 146=some ⟨⟨1,false,8,[.az], .func⟩,[],none,none⟩:=by kernel_rfl
@[go_sem] theorem Xdk:aF Tryz.prog 147=some ⟨1,false,8,[.az], .func⟩:=by kernel_rfl
@[go_sem] theorem Xo9:bL Tryz.prog 147=some ⟨⟨1,false,8,[.az], .func⟩,[],none,none⟩:=by kernel_rfl
@[go_sem] theorem Xfu:aF Tryz.prog 148=some ⟨1,false,8,[.az], .func⟩:=by kernel_rfl
@[go_sem] theorem Xmz:bL Tryz.prog 148=some ⟨⟨1,false,8,[.az], .func⟩,[],none,none⟩:=by kernel_rfl
@[go_sem] theorem Xho:aF Tryz.prog 149=some ⟨1,false,8,[.az], .func⟩:=by kernel_rfl
@[go_sem] theorem Xnm:bL Tryz.prog 149=some ⟨⟨1,false,8,[.az], .func⟩,[],none,none⟩:=by kernel_rfl
@[go_sem] theorem Xd3:aF Tryz.prog 150=some ⟨1,false,8,[.az], .func⟩:=by kernel_rfl
@[go_sem] theorem Xog:bL Tryz.prog 150=some ⟨⟨1,false,8,[.az], .func⟩,[],none,none⟩:=by kernel_rfl
@[go_sem] theorem Xeo:aF Tryz.prog 151=some ⟨1,false,8,[.az], .func⟩:=by kernel_rfl
@[go_sem] theorem Xnc:bL Tryz.prog 151=some ⟨⟨1,false,8,[.az], .func⟩,[],none,none⟩:=by kernel_rfl
@[go_sem] theorem Xe4:aF Tryz.prog 152=some ⟨1,false,8,[.az], .func⟩:=by kernel_rfl
@[go_sem] theorem Xjm:bL Tryz.prog 152=some ⟨⟨1,false,8,[.az], .func⟩,[],none,none⟩:=by kernel_rfl
@[go_sem] theorem Xei:aF Tryz.prog 153=some ⟨4,true,64,[.int .i64 0, .aU, .int .i64 0, .aU],(.array 2)⟩:=by kernel_rfl
@[go_sem] theorem Xkr:bL Tryz.prog 153=some ⟨⟨4,true,64,[.int .i64 0, .aU, .int .i64 0, .aU],(.array 2)⟩,[],some ⟨2,true,32,[.int .i64 0, .aU], .struct⟩,none⟩:=by kernel_rfl
@[go_sem] theorem Xg2:aF Tryz.prog 154=some ⟨1,false,24,[.aU], .slice⟩:=by kernel_rfl
@[go_sem] theorem Xkd:bL Tryz.prog 154=some ⟨⟨1,false,24,[.aU], .slice⟩,[],some ⟨4,true,64,[.int .i64 0, .aU, .int .i64 0, .aU],(.array 2)⟩,none⟩:=by kernel_rfl
@[go_sem] theorem Xfn:aF Tryz.prog 155=some ⟨1,false,8,[.az], .func⟩:=by kernel_rfl
@[go_sem] theorem Xmk:bL Tryz.prog 155=some ⟨⟨1,false,8,[.az], .func⟩,[],none,none⟩:=by kernel_rfl
@[go_sem] theorem Xfg:aF Tryz.prog 156=some ⟨1,false,8,[.az], .func⟩:=by kernel_rfl
@[go_sem] theorem Xi7:bL Tryz.prog 156=some ⟨⟨1,false,8,[.az], .func⟩,[],none,none⟩:=by kernel_rfl
@[go_sem] theorem Xeg:aF Tryz.prog 157=some ⟨1,false,8,[.az], .func⟩:=by kernel_rfl
@[go_sem] theorem Xl0:bL Tryz.prog 157=some ⟨⟨1,false,8,[.az], .func⟩,[],none,none⟩:=by kernel_rfl
@[go_sem] theorem Xex:aF Tryz.prog 158=some ⟨1,false,24,[.aU], .slice⟩:=by kernel_rfl
@[go_sem] theorem Xmr:bL Tryz.prog 158=some ⟨⟨1,false,24,[.aU], .slice⟩,[],some ⟨1,false,8,[.az], .func⟩,none⟩:=by kernel_rfl
@[go_sem] theorem Xg4:aF Tryz.prog 159=some ⟨1,false,8,[.az], .func⟩:=by kernel_rfl
@[go_sem] theorem Xk0:bL Tryz.prog 159=some ⟨⟨1,false,8,[.az], .func⟩,[],none,none⟩:=by kernel_rfl
@[go_sem] theorem Xf3:aF Tryz.prog 160=some ⟨5,true,72,[.int .i64 0, .aU, .int .i64 0, .aU, .int .i64 0], .struct⟩:=by kernel_rfl
@[go_sem] theorem Xjw:bL Tryz.prog 160=some ⟨⟨5,true,72,[.int .i64 0, .aU, .int .i64 0, .aU, .int .i64 0], .struct⟩,[(0,some ⟨2,true,32,[.int .i64 0, .aU], .struct⟩),(2,some ⟨2,true,32,[.int .i64 0, .aU], .struct⟩),(4,some ⟨1,false,8,[.int .i64 0],(.int .i64)⟩)],none,none⟩:=by kernel_rfl
@[go_sem] theorem Xhh:aF Tryz.prog 161=some ⟨5,true,72,[.int .i64 0, .aU, .int .i64 0, .aU, .int .i64 0], .struct⟩:=by kernel_rfl
@[go_sem] theorem Xm6:bL Tryz.prog 161=some ⟨⟨5,true,72,[.int .i64 0, .aU, .int .i64 0, .aU, .int .i64 0], .struct⟩,[(0,some ⟨2,true,32,[.int .i64 0, .aU], .struct⟩),(2,some ⟨2,true,32,[.int .i64 0, .aU], .struct⟩),(4,some ⟨1,false,8,[.int .i64 0],(.int .i64)⟩)],none,none⟩:=by kernel_rfl
@[go_sem] theorem Xdy:aF Tryz.prog 162=some ⟨1,false,8,[.az], .func⟩:=by kernel_rfl
@[go_sem] theorem Xou:bL Tryz.prog 162=some ⟨⟨1,false,8,[.az], .func⟩,[],none,none⟩:=by kernel_rfl
@[go_sem] theorem Xf0:aF Tryz.prog 163=some ⟨1,false,8,[.az], .func⟩:=by kernel_rfl
@[go_sem] theorem Xjt:bL Tryz.prog 163=some ⟨⟨1,false,8,[.az], .func⟩,[],none,none⟩:=by kernel_rfl
@[go_sem] theorem Xe1:aF Tryz.prog 164=some ⟨1,false,8,[.az], .func⟩:=by kernel_rfl
@[go_sem] theorem Xld:bL Tryz.prog 164=some ⟨⟨1,false,8,[.az], .func⟩,[],none,none⟩:=by kernel_rfl
@[go_sem] theorem Xfy:aF Tryz.prog 165=some ⟨1,false,8,[.az], .func⟩:=by kernel_rfl
@[go_sem] theorem Xoo:bL Tryz.prog 165=some ⟨⟨1,false,8,[.az], .func⟩,[],none,none⟩:=by kernel_rfl
@[go_sem] theorem Xdp:aF Tryz.prog 166=some ⟨1,false,8,[.az], .func⟩:=by kernel_rfl
@[go_sem] theorem Xp5:bL Tryz.prog 166=some ⟨⟨1,false,8,[.az], .func⟩,[],none,none⟩:=by kernel_rfl
@[go_sem] theorem Xgm:aF Tryz.prog 167=some ⟨5,true,72,[.int .i64 0, .bool false, .aU, .int .i64 0, .aU], .struct⟩:=by kernel_rfl
@[go_sem] theorem Xoh:bL Tryz.prog 167=some ⟨⟨5,true,72,[.int .i64 0, .bool false, .aU, .int .i64 0, .aU], .struct⟩,[(0,some ⟨1,false,8,[.int .i64 0],(.int .i64)⟩),(1,some ⟨1,false,1,[.bool false], .bool⟩),(2,some ⟨1,false,24,[.aU], .slice⟩),(3,some ⟨2,true,32,[.int .i64 0, .aU], .struct⟩)],none,none⟩:=by kernel_rfl
@[go_sem] theorem Xgg:aF Tryz.prog 168=some ⟨5,true,72,[.int .i64 0, .bool false, .aU, .int .i64 0, .aU], .struct⟩:=by kernel_rfl
@[go_sem] theorem Xki:bL Tryz.prog 168=some ⟨⟨5,true,72,[.int .i64 0, .bool false, .aU, .int .i64 0, .aU], .struct⟩,[(0,some ⟨1,false,8,[.int .i64 0],(.int .i64)⟩),(1,some ⟨1,false,1,[.bool false], .bool⟩),(2,some ⟨1,false,24,[.aU], .slice⟩),(3,some ⟨2,true,32,[.int .i64 0, .aU], .struct⟩)],none,none⟩:=by kernel_rfl
@[go_sem] theorem Xhd:aF Tryz.prog 170=some ⟨1,false,8,[.az], .func⟩:=by kernel_rfl
@[go_sem] theorem Xly:bL Tryz.prog 170=some ⟨⟨1,false,8,[.az], .func⟩,[],none,none⟩:=by kernel_rfl
@[go_sem] theorem Xd4:aF Tryz.prog 171=some ⟨1,false,8,[.az], .func⟩:=by kernel_rfl
@[go_sem] theorem Xow:bL Tryz.prog 171=some ⟨⟨1,false,8,[.az], .func⟩,[],none,none⟩:=by kernel_rfl
@[go_sem] theorem Xd5:aF Tryz.prog 172=some ⟨1,false,8,[.az], .func⟩:=by kernel_rfl
@[go_sem] theorem Xk2:bL Tryz.prog 172=some ⟨⟨1,false,8,[.az], .func⟩,[],none,none⟩:=by kernel_rfl
@[go_sem] theorem Xh8:aF Tryz.prog 173=some ⟨1,false,8,[.az], .func⟩:=by kernel_rfl
@[go_sem] theorem Xpw:bL Tryz.prog 173=some ⟨⟨1,false,8,[.az], .func⟩,[],none,none⟩:=by kernel_rfl
@[go_sem] theorem Xds:aF Tryz.prog 174=some ⟨1,false,8,[.az], .func⟩:=by kernel_rfl
@[go_sem] theorem Xlz:bL Tryz.prog 174=some ⟨⟨1,false,8,[.az], .func⟩,[],none,none⟩:=by kernel_rfl
@[go_sem] theorem Xdz:aF Tryz.prog 175=some ⟨3,true,40,[.int .i64 0, .int .i64 0, .aU], .struct⟩:=by kernel_rfl
@[go_sem] theorem Xp6:bL Tryz.prog 175=some ⟨⟨3,true,40,[.int .i64 0, .int .i64 0, .aU], .struct⟩,[(0,some ⟨1,false,8,[.int .i64 0],(.int .i64)⟩),(1,some ⟨2,true,32,[.int .i64 0, .aU], .struct⟩)],none,none⟩:=by kernel_rfl
@[go_sem] theorem Xhx:aF Tryz.prog 176=some ⟨3,true,40,[.int .i64 0, .int .i64 0, .aU], .struct⟩:=by kernel_rfl
@[go_sem] theorem Xkj:bL Tryz.prog 176=some ⟨⟨3,true,40,[.int .i64 0, .int .i64 0, .aU], .struct⟩,[(0,some ⟨1,false,8,[.int .i64 0],(.int .i64)⟩),(1,some ⟨2,true,32,[.int .i64 0, .aU], .struct⟩)],none,none⟩:=by kernel_rfl
@[go_sem] theorem Xhc:aF Tryz.prog 178=some ⟨1,false,8,[.az], .func⟩:=by kernel_rfl
@[go_sem] theorem Xk1:bL Tryz.prog 178=some ⟨⟨1,false,8,[.az], .func⟩,[],none,none⟩:=by kernel_rfl
@[go_sem] theorem Xev:aF Tryz.prog 179=some ⟨1,false,8,[.az], .func⟩:=by kernel_rfl
@[go_sem] theorem Xl3:bL Tryz.prog 179=some ⟨⟨1,false,8,[.az], .func⟩,[],none,none⟩:=by kernel_rfl
@[go_sem] theorem Xgd:aF Tryz.prog 180=some ⟨1,false,8,[.az], .func⟩:=by kernel_rfl
@[go_sem] theorem Xoe:bL Tryz.prog 180=some ⟨⟨1,false,8,[.az], .func⟩,[],none,none⟩:=by kernel_rfl
@[go_sem] theorem Xdd:aF Tryz.prog 181=some ⟨1,false,24,[.aU], .slice⟩:=by kernel_rfl
@[go_sem] theorem Xpc:bL Tryz.prog 181=some ⟨⟨1,false,24,[.aU], .slice⟩,[],some ⟨1,false,24,[.aU], .slice⟩,none⟩:=by kernel_rfl
@[go_sem] theorem Xg8:aF Tryz.prog 182=some ⟨1,false,8,[.az], .func⟩:=by kernel_rfl
@[go_sem] theorem Xnp:bL Tryz.prog 182=some ⟨⟨1,false,8,[.az], .func⟩,[],none,none⟩:=by kernel_rfl
@[go_sem] theorem Xde:aF Tryz.prog 183=some ⟨1,false,8,[.az], .func⟩:=by kernel_rfl
@[go_sem] theorem Xjx:bL Tryz.prog 183=some ⟨⟨1,false,8,[.az], .func⟩,[],none,none⟩:=by kernel_rfl
@[go_sem] theorem Xdt:aF Tryz.prog 184=some ⟨1,false,8,[.az], .func⟩:=by kernel_rfl
@[go_sem] theorem Xmg:bL Tryz.prog 184=some ⟨⟨1,false,8,[.az], .func⟩,[],none,none⟩:=by kernel_rfl
@[go_sem] theorem Xgi:aF Tryz.prog 185=some ⟨3,true,40,[.int .i64 0, .aU, .int .i64 0], .struct⟩:=by kernel_rfl
@[go_sem] theorem Xop:bL Tryz.prog 185=some ⟨⟨3,true,40,[.int .i64 0, .aU, .int .i64 0], .struct⟩,[(0,some ⟨2,true,32,[.int .i64 0, .aU], .struct⟩),(2,some ⟨1,false,8,[.int .i64 0],(.int .i64)⟩)],none,none⟩:=by kernel_rfl
@[go_sem] theorem Xgb:aF Tryz.prog 186=some ⟨3,true,40,[.int .i64 0, .aU, .int .i64 0], .struct⟩:=by kernel_rfl
@[go_sem] theorem Xj4:bL Tryz.prog 186=some ⟨⟨3,true,40,[.int .i64 0, .aU, .int .i64 0], .struct⟩,[(0,some ⟨2,true,32,[.int .i64 0, .aU], .struct⟩),(2,some ⟨1,false,8,[.int .i64 0],(.int .i64)⟩)],none,none⟩:=by kernel_rfl
@[go_sem] theorem Xep:aF Tryz.prog 187=some ⟨1,false,24,[.aU], .slice⟩:=by kernel_rfl
@[go_sem] theorem Xk7:bL Tryz.prog 187=some ⟨⟨1,false,24,[.aU], .slice⟩,[],some ⟨3,true,40,[.int .i64 0, .aU, .int .i64 0], .struct⟩,none⟩:=by kernel_rfl
@[go_sem] theorem Xht:aF Tryz.prog 188=some ⟨1,false,8,[.az], .func⟩:=by kernel_rfl
@[go_sem] theorem Xku:bL Tryz.prog 188=some ⟨⟨1,false,8,[.az], .func⟩,[],none,none⟩:=by kernel_rfl
@[go_sem] theorem Xhj:aF Tryz.prog 189=some ⟨1,false,8,[.az], .func⟩:=by kernel_rfl
@[go_sem] theorem Xj9:bL Tryz.prog 189=some ⟨⟨1,false,8,[.az], .func⟩,[],none,none⟩:=by kernel_rfl
@[go_sem] theorem Xdw:aF Tryz.prog 190=some ⟨1,false,8,[.az], .func⟩:=by kernel_rfl
@[go_sem] theorem Xon:bL Tryz.prog 190=some ⟨⟨1,false,8,[.az], .func⟩,[],none,none⟩:=by kernel_rfl
@[go_sem] theorem Xe0:aF Tryz.prog 191=some ⟨1,false,8,[.az], .func⟩:=by kernel_rfl
@[go_sem] theorem Xk4:bL Tryz.prog 191=some ⟨⟨1,false,8,[.az], .func⟩,[],none,none⟩:=by kernel_rfl
@[go_sem] theorem Xhb:aF Tryz.prog 192=some ⟨1,false,8,[.az], .func⟩:=by kernel_rfl
@[go_sem] theorem Xmt:bL Tryz.prog 192=some ⟨⟨1,false,8,[.az], .func⟩,[],none,none⟩:=by kernel_rfl
@[go_sem] theorem Xgz:aF Tryz.prog 193=some ⟨1,false,8,[.az], .func⟩:=by kernel_rfl
@[go_sem] theorem Xm5:bL Tryz.prog 193=some ⟨⟨1,false,8,[.az], .func⟩,[],none,none⟩:=by kernel_rfl
@[go_sem] theorem Xh9:aF Tryz.prog 194=some ⟨1,false,8,[.az], .func⟩:=by kernel_rfl
@[go_sem] theorem Xnt:bL Tryz.prog 194=some ⟨⟨1,false,8,[.az], .func⟩,[],none,none⟩:=by kernel_rfl
@[go_sem] theorem Xgs:aF Tryz.prog 195=some ⟨1,false,8,[.az], .func⟩:=by kernel_rfl
@[go_sem] theorem Xiz:bL Tryz.prog 195=some ⟨⟨1,false,8,[.az], .func⟩,[],none,none⟩:=by kernel_rfl
@[go_sem] theorem Xfx:aF Tryz.prog 196=some ⟨1,false,8,[.az], .func⟩:=by kernel_rfl
@[go_sem] theorem Xn6:bL Tryz.prog 196=some ⟨⟨1,false,8,[.az], .func⟩,[],none,none⟩:=by kernel_rfl
@[go_sem] theorem Xgt:aF Tryz.prog 198=some ⟨1,false,8,[.az], .func⟩:=by kernel_rfl
@[go_sem] theorem Xkl:bL Tryz.prog 198=some ⟨⟨1,false,8,[.az], .func⟩,[],none,none⟩:=by kernel_rfl
@[go_sem] theorem Xg0:aF Tryz.prog 200=some ⟨1,false,8,[.az], .func⟩:=by kernel_rfl
@[go_sem] theorem Xkm:bL Tryz.prog 200=some ⟨⟨1,false,8,[.az], .func⟩,[],none,none⟩:=by kernel_rfl
@[go_sem] theorem Xh6:aF Tryz.prog 202=some ⟨1,false,8,[.az], .func⟩:=by kernel_rfl
@[go_sem] theorem Xn8:bL Tryz.prog 202=some ⟨⟨1,false,8,[.az], .func⟩,[],none,none⟩:=by kernel_rfl
@[go_sem] theorem Xi6:aF Tryz.prog 203=some ⟨1,false,8,[.az], .func⟩:=by kernel_rfl
@[go_sem] theorem Xih:bL Tryz.prog 203=some ⟨⟨1,false,8,[.az], .func⟩,[],none,none⟩:=by kernel_rfl
@[go_sem] theorem Xcv:aF Tryz.prog 204=some ⟨1,false,8,[.bN], .ptr⟩:=by kernel_rfl
@[go_sem] theorem Xke:bL Tryz.prog 204=some ⟨⟨1,false,8,[.bN], .ptr⟩,[],none,none⟩:=by kernel_rfl
@[go_sem] theorem Xgq:aF Tryz.prog 205=some ⟨1,false,8,[.az], .func⟩:=by kernel_rfl
@[go_sem] theorem Xjz:bL Tryz.prog 205=some ⟨⟨1,false,8,[.az], .func⟩,[],none,none⟩:=by kernel_rfl
@[go_sem] theorem Xhw:aF Tryz.prog 206=some ⟨1,false,8,[.az], .func⟩:=by kernel_rfl
@[go_sem] theorem Xkt:bL Tryz.prog 206=some ⟨⟨1,false,8,[.az], .func⟩,[],none,none⟩:=by kernel_rfl
@[go_sem] theorem Xfq:aF Tryz.prog 207=some ⟨1,false,8,[.az], .func⟩:=by kernel_rfl
@[go_sem] theorem Xpm:bL Tryz.prog 207=some ⟨⟨1,false,8,[.az], .func⟩,[],none,none⟩:=by kernel_rfl
@[go_sem] theorem Xhl:aF Tryz.prog 208=some ⟨1,false,8,[.az], .func⟩:=by kernel_rfl
@[go_sem] theorem Xnj:bL Tryz.prog 208=some ⟨⟨1,false,8,[.az], .func⟩,[],none,none⟩:=by kernel_rfl
@[go_sem] theorem Xfh:aF Tryz.prog 209=some ⟨1,false,8,[.az], .func⟩:=by kernel_rfl
@[go_sem] theorem Xiq:bL Tryz.prog 209=some ⟨⟨1,false,8,[.az], .func⟩,[],none,none⟩:=by kernel_rfl
@[go_sem] theorem Xgl:aF Tryz.prog 210=some ⟨1,false,8,[.az], .func⟩:=by kernel_rfl
@[go_sem] theorem Xl5:bL Tryz.prog 210=some ⟨⟨1,false,8,[.az], .func⟩,[],none,none⟩:=by kernel_rfl
@[go_sem] theorem Xhs:aF Tryz.prog 212=some ⟨1,false,8,[.az], .func⟩:=by kernel_rfl
@[go_sem] theorem Xig:bL Tryz.prog 212=some ⟨⟨1,false,8,[.az], .func⟩,[],none,none⟩:=by kernel_rfl
@[go_sem] theorem Xfj:aF Tryz.prog 213=some ⟨1,false,8,[.az], .func⟩:=by kernel_rfl
@[go_sem] theorem Xjy:bL Tryz.prog 213=some ⟨⟨1,false,8,[.az], .func⟩,[],none,none⟩:=by kernel_rfl
@[go_sem] theorem Xi4:aF Tryz.prog 214=some ⟨1,false,8,[.az], .func⟩:=by kernel_rfl
@[go_sem] theorem Xmw:bL Tryz.prog 214=some ⟨⟨1,false,8,[.az], .func⟩,[],none,none⟩:=by kernel_rfl
@[go_sem] theorem Xgn:aF Tryz.prog 215=some ⟨1,false,8,[.az], .func⟩:=by kernel_rfl
@[go_sem] theorem Xo4:bL Tryz.prog 215=some ⟨⟨1,false,8,[.az], .func⟩,[],none,none⟩:=by kernel_rfl
@[go_sem] theorem Xd2:aF Tryz.prog 216=some ⟨1,false,8,[.az], .func⟩:=by kernel_rfl
@[go_sem] theorem Xi9:bL Tryz.prog 216=some ⟨⟨1,false,8,[.az], .func⟩,[],none,none⟩:=by kernel_rfl
@[go_sem] theorem Xdj:aF Tryz.prog 217=some ⟨1,false,8,[.az], .func⟩:=by kernel_rfl
@[go_sem] theorem Xkw:bL Tryz.prog 217=some ⟨⟨1,false,8,[.az], .func⟩,[],none,none⟩:=by kernel_rfl
@[go_sem] theorem Xi5:aF Tryz.prog 218=some ⟨1,false,8,[.az], .func⟩:=by kernel_rfl
@[go_sem] theorem Xl8:bL Tryz.prog 218=some ⟨⟨1,false,8,[.az], .func⟩,[],none,none⟩:=by kernel_rfl
@[go_sem] theorem Xe3:aF Tryz.prog 219=some ⟨1,false,8,[.az], .func⟩:=by kernel_rfl
@[go_sem] theorem Xnr:bL Tryz.prog 219=some ⟨⟨1,false,8,[.az], .func⟩,[],none,none⟩:=by kernel_rfl
@[go_sem] theorem Xe5:aF Tryz.prog 220=some ⟨1,false,8,[.az], .func⟩:=by kernel_rfl
@[go_sem] theorem Xkp:bL Tryz.prog 220=some ⟨⟨1,false,8,[.az], .func⟩,[],none,none⟩:=by kernel_rfl
@[go_sem] theorem Xf8:aF Tryz.prog 221=some ⟨1,false,8,[.cC], .map⟩:=by kernel_rfl
@[go_sem] theorem Xne:bL Tryz.prog 221=some ⟨⟨1,false,8,[.cC], .map⟩,[],some ⟨2,true,32,[.int .i64 0, .aU], .struct⟩,some ⟨1,false,8,[.int .i64 0],(.int .i64)⟩⟩:=by kernel_rfl
@[go_sem] theorem Xd8:aF Tryz.prog 222=some ⟨1,false,8,[.az], .func⟩:=by kernel_rfl
@[go_sem] theorem Xof:bL Tryz.prog 222=some ⟨⟨1,false,8,[.az], .func⟩,[],none,none⟩:=by kernel_rfl
@[go_sem] theorem Xfl:aF Tryz.prog 223=some ⟨1,false,8,[.az], .func⟩:=by kernel_rfl
@[go_sem] theorem Xoc:bL Tryz.prog 223=some ⟨⟨1,false,8,[.az], .func⟩,[],none,none⟩:=by kernel_rfl
@[go_sem] theorem Xh3:aF Tryz.prog 224=some ⟨1,false,8,[.az], .func⟩:=by kernel_rfl
@[go_sem] theorem Xlu:bL Tryz.prog 224=some ⟨⟨1,false,8,[.az], .func⟩,[],none,none⟩:=by kernel_rfl
@[go_sem] theorem Xd1:aF Tryz.prog 225=some ⟨1,false,8,[.az], .func⟩:=by kernel_rfl
@[go_sem] theorem Xlf:bL Tryz.prog 225=some ⟨⟨1,false,8,[.az], .func⟩,[],none,none⟩:=by kernel_rfl
@[go_sem] theorem Xgv:aF Tryz.prog 226=some ⟨1,false,8,[.az], .func⟩:=by kernel_rfl
@[go_sem] theorem Xl2:bL Tryz.prog 226=some ⟨⟨1,false,8,[.az], .func⟩,[],none,none⟩:=by kernel_rfl
@[go_sem] theorem Xdc:aF Tryz.prog 227=some ⟨1,false,8,[.az], .func⟩:=by kernel_rfl
@[go_sem] theorem Xli:bL Tryz.prog 227=some ⟨⟨1,false,8,[.az], .func⟩,[],none,none⟩:=by kernel_rfl
@[go_sem] theorem Xh1:aF Tryz.prog 228=some ⟨1,false,8,[.bN], .ptr⟩:=by kernel_rfl
@[go_sem] theorem Xpb:bL Tryz.prog 228=some ⟨⟨1,false,8,[.bN], .ptr⟩,[],none,none⟩:=by kernel_rfl
@[go_sem] theorem Xey:aF Tryz.prog 229=some ⟨1,false,8,[.az], .func⟩:=by kernel_rfl
@[go_sem] theorem Xk3:bL Tryz.prog 229=some ⟨⟨1,false,8,[.az], .func⟩,[],none,none⟩:=by kernel_rfl
@[go_sem] theorem Xg7:aF Tryz.prog 230=some ⟨1,false,8,[.az], .func⟩:=by kernel_rfl
@[go_sem] theorem Xmo:bL Tryz.prog 230=some ⟨⟨1,false,8,[.az], .func⟩,[],none,none⟩:=by kernel_rfl
@[go_sem] theorem Xcu:aF Tryz.prog 231=some ⟨1,false,8,[.az], .func⟩:=by kernel_rfl
@[go_sem] theorem Xlh:bL Tryz.prog 231=some ⟨⟨1,false,8,[.az], .func⟩,[],none,none⟩:=by kernel_rfl
@[go_sem] theorem Xfb:aF Tryz.prog 232=some ⟨1,false,8,[.az], .func⟩:=by kernel_rfl
@[go_sem] theorem Xlo:bL Tryz.prog 232=some ⟨⟨1,false,8,[.az], .func⟩,[],none,none⟩:=by kernel_rfl
@[go_sem] theorem Xf5:aF Tryz.prog 233=some ⟨1,false,8,[.az], .func⟩:=by kernel_rfl
@[go_sem] theorem Xpj:bL Tryz.prog 233=some ⟨⟨1,false,8,[.az], .func⟩,[],none,none⟩:=by kernel_rfl
@[go_sem] theorem Xd0:aF Tryz.prog 234=some ⟨1,false,8,[.az], .func⟩:=by kernel_rfl
@[go_sem] theorem Xmx:bL Tryz.prog 234=some ⟨⟨1,false,8,[.az], .func⟩,[],none,none⟩:=by kernel_rfl
@[go_sem] theorem Xe6:aF Tryz.prog 235=some ⟨1,false,8,[.az], .func⟩:=by kernel_rfl
@[go_sem] theorem Xij:bL Tryz.prog 235=some ⟨⟨1,false,8,[.az], .func⟩,[],none,none⟩:=by kernel_rfl
@[go_sem] theorem Xfi:aF Tryz.prog 236=some ⟨1,false,8,[.az], .func⟩:=by kernel_rfl
@[go_sem] theorem Xmb:bL Tryz.prog 236=some ⟨⟨1,false,8,[.az], .func⟩,[],none,none⟩:=by kernel_rfl
@[go_sem] theorem Xcr:aF Tryz.prog 237=some ⟨1,false,8,[.az], .func⟩:=by kernel_rfl
@[go_sem] theorem Xpl:bL Tryz.prog 237=some ⟨⟨1,false,8,[.az], .func⟩,[],none,none⟩:=by kernel_rfl
@[go_sem] theorem Xeu:aF Tryz.prog 238=some ⟨1,false,8,[.az], .func⟩:=by kernel_rfl
@[go_sem] theorem Xkc:bL Tryz.prog 238=some ⟨⟨1,false,8,[.az], .func⟩,[],none,none⟩:=by kernel_rfl
@[go_sem] theorem Xek:aF Tryz.prog 239=some ⟨1,false,8,[.az], .func⟩:=by kernel_rfl
@[go_sem] theorem Xin:bL Tryz.prog 239=some ⟨⟨1,false,8,[.az], .func⟩,[],none,none⟩:=by kernel_rfl
@[go_sem] theorem Xgu:aF Tryz.prog 240=some ⟨1,false,8,[.az], .func⟩:=by kernel_rfl
@[go_sem] theorem Xp0:bL Tryz.prog 240=some ⟨⟨1,false,8,[.az], .func⟩,[],none,none⟩:=by kernel_rfl
@[go_sem] theorem Xcw:aF Tryz.prog 241=some ⟨1,false,8,[.az], .func⟩:=by kernel_rfl
@[go_sem] theorem Xnf:bL Tryz.prog 241=some ⟨⟨1,false,8,[.az], .func⟩,[],none,none⟩:=by kernel_rfl
@[go_sem] theorem Xcs:aF Tryz.prog 242=some ⟨1,false,8,[.bN], .ptr⟩:=by kernel_rfl
@[go_sem] theorem Xkk:bL Tryz.prog 242=some ⟨⟨1,false,8,[.bN], .ptr⟩,[],none,none⟩:=by kernel_rfl
@[go_sem] theorem Xec:aF Tryz.prog 243=some ⟨2,true,16,[.int .i64 0, .cC], .struct⟩:=by kernel_rfl
@[go_sem] theorem Xj2:bL Tryz.prog 243=some ⟨⟨2,true,16,[.int .i64 0, .cC], .struct⟩,[(0,some ⟨1,false,8,[.int .i64 0],(.int .i64)⟩),(1,some ⟨1,false,8,[.cC], .map⟩)],none,none⟩:=by kernel_rfl
@[go_sem] theorem Xi3:aF Tryz.prog 244=some ⟨2,true,16,[.int .i64 0, .cC], .struct⟩:=by kernel_rfl
@[go_sem] theorem Xph:bL Tryz.prog 244=some ⟨⟨2,true,16,[.int .i64 0, .cC], .struct⟩,[(0,some ⟨1,false,8,[.int .i64 0],(.int .i64)⟩),(1,some ⟨1,false,8,[.cC], .map⟩)],none,none⟩:=by kernel_rfl
@[go_sem] theorem Xi1:aF Tryz.prog 245=some ⟨1,false,8,[.az], .func⟩:=by kernel_rfl
@[go_sem] theorem Xji:bL Tryz.prog 245=some ⟨⟨1,false,8,[.az], .func⟩,[],none,none⟩:=by kernel_rfl
@[go_sem] theorem Xgh:aF Tryz.prog 246=some ⟨1,false,8,[.az], .func⟩:=by kernel_rfl
@[go_sem] theorem Xmy:bL Tryz.prog 246=some ⟨⟨1,false,8,[.az], .func⟩,[],none,none⟩:=by kernel_rfl
@[go_sem] theorem Xe7:aF Tryz.prog 247=some ⟨1,false,8,[.az], .func⟩:=by kernel_rfl
@[go_sem] theorem Xm0:bL Tryz.prog 247=some ⟨⟨1,false,8,[.az], .func⟩,[],none,none⟩:=by kernel_rfl
@[go_sem] theorem Xf2:aF Tryz.prog 248=some ⟨1,false,8,[.az], .func⟩:=by kernel_rfl
@[go_sem] theorem Xpe:bL Tryz.prog 248=some ⟨⟨1,false,8,[.az], .func⟩,[],none,none⟩:=by kernel_rfl
@[go_sem] theorem Xft:aF Tryz.prog 249=some ⟨1,false,8,[.az], .func⟩:=by kernel_rfl
@[go_sem] theorem Xla:bL Tryz.prog 249=some ⟨⟨1,false,8,[.az], .func⟩,[],none,none⟩:=by kernel_rfl
@[go_sem] theorem Xha:aF Tryz.prog 250=some ⟨1,false,8,[.az], .func⟩:=by kernel_rfl
@[go_sem] theorem Xiu:bL Tryz.prog 250=some ⟨⟨1,false,8,[.az], .func⟩,[],none,none⟩:=by kernel_rfl
@[go_sem] theorem Xdg:aF Tryz.prog 251=some ⟨1,false,8,[.az], .func⟩:=by kernel_rfl
@[go_sem] theorem Xma:bL Tryz.prog 251=some ⟨⟨1,false,8,[.az], .func⟩,[],none,none⟩:=by kernel_rfl
@[go_sem] theorem Xhe:aF Tryz.prog 252=some ⟨1,false,8,[.az], .func⟩:=by kernel_rfl
@[go_sem] theorem Xni:bL Tryz.prog 252=some ⟨⟨1,false,8,[.az], .func⟩,[],none,none⟩:=by kernel_rfl
@[go_sem] theorem Xfw:aF Tryz.prog 253=some ⟨1,false,8,[.az], .func⟩:=by kernel_rfl
@[go_sem] theorem Xjn:bL Tryz.prog 253=some ⟨⟨1,false,8,[.az], .func⟩,[],none,none⟩:=by kernel_rfl
@[go_sem] theorem Xer:aF Tryz.prog 255=some ⟨1,false,8,[.az], .func⟩:=by kernel_rfl
@[go_sem] theorem Xjf:bL Tryz.prog 255=some ⟨⟨1,false,8,[.az], .func⟩,[],none,none⟩:=by kernel_rfl
@[go_sem] theorem Xcx:aF Tryz.prog 256=some ⟨1,false,8,[.az], .func⟩:=by kernel_rfl
@[go_sem] theorem Xns:bL Tryz.prog 256=some ⟨⟨1,false,8,[.az], .func⟩,[],none,none⟩:=by kernel_rfl
@[go_sem] theorem Xdb:aF Tryz.prog 257=some ⟨1,false,8,[.az], .func⟩:=by kernel_rfl
@[go_sem] theorem Xnh:bL Tryz.prog 257=some ⟨⟨1,false,8,[.az], .func⟩,[],none,none⟩:=by kernel_rfl
@[go_sem] theorem Xea:aF Tryz.prog 258=some ⟨1,false,8,[.az], .func⟩:=by kernel_rfl
@[go_sem] theorem Xpq:bL Tryz.prog 258=some ⟨⟨1,false,8,[.az], .func⟩,[],none,none⟩:=by kernel_rfl
@[go_sem] theorem Xg3:aF Tryz.prog 259=some ⟨1,false,8,[.az], .func⟩:=by kernel_rfl
@[go_sem] theorem Xn7:bL Tryz.prog 259=some ⟨⟨1,false,8,[.az], .func⟩,[],none,none⟩:=by kernel_rfl
@[go_sem] theorem Xcy:aF Tryz.prog 260=some ⟨1,false,8,[.az], .func⟩:=by kernel_rfl
@[go_sem] theorem Xkg:bL Tryz.prog 260=some ⟨⟨1,false,8,[.az], .func⟩,[],none,none⟩:=by kernel_rfl
@[go_sem] theorem Xda:aF Tryz.prog 261=some ⟨1,false,8,[.az], .func⟩:=by kernel_rfl
@[go_sem] theorem Xnz:bL Tryz.prog 261=some ⟨⟨1,false,8,[.az], .func⟩,[],none,none⟩:=by kernel_rfl
@[go_sem] theorem Xdo:aF Tryz.prog 262=some ⟨1,false,8,[.az], .func⟩:=by kernel_rfl
@[go_sem] theorem Xom:bL Tryz.prog 262=some ⟨⟨1,false,8,[.az], .func⟩,[],none,none⟩:=by kernel_rfl
@[go_sem] theorem Xge:aF Tryz.prog 263=some ⟨1,false,8,[.az], .func⟩:=by kernel_rfl
@[go_sem] theorem Xib:bL Tryz.prog 263=some ⟨⟨1,false,8,[.az], .func⟩,[],none,none⟩:=by kernel_rfl
@[go_sem] theorem Xgk:aF Tryz.prog 264=some ⟨1,false,8,[.az], .func⟩:=by kernel_rfl
@[go_sem] theorem Xpp:bL Tryz.prog 264=some ⟨⟨1,false,8,[.az], .func⟩,[],none,none⟩:=by kernel_rfl
@[go_sem] theorem Xee:aF Tryz.prog 265=some ⟨1,false,8,[.int .u64 0],(.int .u64)⟩:=by kernel_rfl
@[go_sem] theorem Xo6:bL Tryz.prog 265=some ⟨⟨1,false,8,[.int .u64 0],(.int .u64)⟩,[],none,none⟩:=by kernel_rfl
@[go_sem] theorem Xgp:aF Tryz.prog 266=some ⟨1,false,24,[.aU], .slice⟩:=by kernel_rfl
@[go_sem] theorem Xic:bL Tryz.prog 266=some ⟨⟨1,false,24,[.aU], .slice⟩,[],some ⟨1,false,24,[.aU], .slice⟩,none⟩:=by kernel_rfl
@[go_sem] theorem Xgx:aF Tryz.prog 267=some ⟨1,false,8,[.az], .func⟩:=by kernel_rfl
@[go_sem] theorem Xnd:bL Tryz.prog 267=some ⟨⟨1,false,8,[.az], .func⟩,[],none,none⟩:=by kernel_rfl
@[go_sem] theorem Xhz:aF Tryz.prog 268=some ⟨1,false,8,[.az], .func⟩:=by kernel_rfl
@[go_sem] theorem Xjr:bL Tryz.prog 268=some ⟨⟨1,false,8,[.az], .func⟩,[],none,none⟩:=by kernel_rfl
@[go_sem] theorem Xfs:aF Tryz.prog 269=some ⟨1,false,8,[.az], .func⟩:=by kernel_rfl
@[go_sem] theorem Xj7:bL Tryz.prog 269=some ⟨⟨1,false,8,[.az], .func⟩,[],none,none⟩:=by kernel_rfl
@[go_sem] theorem Xf7:aF Tryz.prog 270=some ⟨1,false,8,[.az], .func⟩:=by kernel_rfl
@[go_sem] theorem Xm1:bL Tryz.prog 270=some ⟨⟨1,false,8,[.az], .func⟩,[],none,none⟩:=by kernel_rfl
@[go_sem] theorem Xf6:aF Tryz.prog 271=some ⟨1,false,8,[.int .i64 0],(.int .i64)⟩:=by kernel_rfl
@[go_sem] theorem Xmu:bL Tryz.prog 271=some ⟨⟨1,false,8,[.int .i64 0],(.int .i64)⟩,[],none,none⟩:=by kernel_rfl
@[go_sem] theorem Xdm:aF Tryz.prog 273=some ⟨1,false,8,[.az], .func⟩:=by kernel_rfl
@[go_sem] theorem Xoa:bL Tryz.prog 273=some ⟨⟨1,false,8,[.az], .func⟩,[],none,none⟩:=by kernel_rfl
@[go_sem] theorem Xdv:aF Tryz.prog 274=some ⟨1,false,8,[.az], .func⟩:=by kernel_rfl
@[go_sem] theorem Xia:bL Tryz.prog 274=some ⟨⟨1,false,8,[.az], .func⟩,[],none,none⟩:=by kernel_rfl
@[go_sem] theorem Xgo:aF Tryz.prog 275=some ⟨1,false,8,[.az], .func⟩:=by kernel_rfl
@[go_sem] theorem Xpk:bL Tryz.prog 275=some ⟨⟨1,false,8,[.az], .func⟩,[],none,none⟩:=by kernel_rfl
@[go_sem] theorem Xgc:aF Tryz.prog 276=some ⟨1,false,8,[.az], .func⟩:=by kernel_rfl
@[go_sem] theorem Xpx:bL Tryz.prog 276=some ⟨⟨1,false,8,[.az], .func⟩,[],none,none⟩:=by kernel_rfl
@[go_sem] theorem Xfm:aF Tryz.prog 277=some ⟨1,false,8,[.az], .func⟩:=by kernel_rfl
@[go_sem] theorem Xlt:bL Tryz.prog 277=some ⟨⟨1,false,8,[.az], .func⟩,[],none,none⟩:=by kernel_rfl
@[go_sem] theorem Xgw:aF Tryz.prog 278=some ⟨1,false,8,[.az], .func⟩:=by kernel_rfl
@[go_sem] theorem Xll:bL Tryz.prog 278=some ⟨⟨1,false,8,[.az], .func⟩,[],none,none⟩:=by kernel_rfl
@[go_sem] theorem Xhf:aF Tryz.prog 279=some ⟨1,false,4,[.int .u32 0],(.int .u32)⟩:=by kernel_rfl
@[go_sem] theorem Xol:bL Tryz.prog 279=some ⟨⟨1,false,4,[.int .u32 0],(.int .u32)⟩,[],none,none⟩:=by kernel_rfl
@[go_sem] theorem Xd9:aF Tryz.prog 280=some ⟨1,false,8,[.az], .func⟩:=by kernel_rfl
@[go_sem] theorem Xpf:bL Tryz.prog 280=some ⟨⟨1,false,8,[.az], .func⟩,[],none,none⟩:=by kernel_rfl
@[go_sem] theorem Xct:aF Tryz.prog 281=some ⟨1,false,8,[.int .u64 0],(.int .u64)⟩:=by kernel_rfl
@[go_sem] theorem Xp2:bL Tryz.prog 281=some ⟨⟨1,false,8,[.int .u64 0],(.int .u64)⟩,[],none,none⟩:=by kernel_rfl
@[go_sem] theorem Xdn:aF Tryz.prog 282=some ⟨1,false,8,[.int .u64 0],(.int .u64)⟩:=by kernel_rfl
@[go_sem] theorem Xip:bL Tryz.prog 282=some ⟨⟨1,false,8,[.int .u64 0],(.int .u64)⟩,[],none,none⟩:=by kernel_rfl
@[go_sem] theorem Xe2:aF Tryz.prog 283=some ⟨1,false,8,[.az], .func⟩:=by kernel_rfl
@[go_sem] theorem Xo3:bL Tryz.prog 283=some ⟨⟨1,false,8,[.az], .func⟩,[],none,none⟩:=by kernel_rfl
@[go_sem] theorem Xe8:aF Tryz.prog 284=some ⟨1,false,8,[.az], .func⟩:=by kernel_rfl
@[go_sem] theorem Xot:bL Tryz.prog 284=some ⟨⟨1,false,8,[.az], .func⟩,[],none,none⟩:=by kernel_rfl
@[go_sem] theorem Xe9:aF Tryz.prog 285=some ⟨1,false,8,[.az], .func⟩:=by kernel_rfl
@[go_sem] theorem Xk9:bL Tryz.prog 285=some ⟨⟨1,false,8,[.az], .func⟩,[],none,none⟩:=by kernel_rfl
@[go_sem] theorem Xeb:aF Tryz.prog 286=some ⟨1,false,8,[.bN], .ptr⟩:=by kernel_rfl
@[go_sem] theorem Xmm:bL Tryz.prog 286=some ⟨⟨1,false,8,[.bN], .ptr⟩,[],none,none⟩:=by kernel_rfl
@[go_sem] theorem Xf9:aF Tryz.prog 287=some ⟨1,false,8,[.az], .func⟩:=by kernel_rfl
@[go_sem] theorem Xoj:bL Tryz.prog 287=some ⟨⟨1,false,8,[.az], .func⟩,[],none,none⟩:=by kernel_rfl
@[go_sem] theorem Xdx:aF Tryz.prog 288=some ⟨1,false,8,[.bN], .ptr⟩:=by kernel_rfl
@[go_sem] theorem Xjs:bL Tryz.prog 288=some ⟨⟨1,false,8,[.bN], .ptr⟩,[],none,none⟩:=by kernel_rfl
@[go_sem] theorem Xhv:aF Tryz.prog 290=some ⟨1,false,8,[.az], .func⟩:=by kernel_rfl
@[go_sem] theorem Xn2:bL Tryz.prog 290=some ⟨⟨1,false,8,[.az], .func⟩,[],none,none⟩:=by kernel_rfl
@[go_sem] theorem Xem:aF Tryz.prog 291=some ⟨1,false,8,[.az], .func⟩:=by kernel_rfl
@[go_sem] theorem Xjh:bL Tryz.prog 291=some ⟨⟨1,false,8,[.az], .func⟩,[],none,none⟩:=by kernel_rfl
@[go_sem] theorem Xfc:aF Tryz.prog 292=some ⟨4,true,40,[.bN, .bN, .bN, .str ⟨#[]⟩], .struct⟩:=by kernel_rfl
@[go_sem] theorem Xl9:bL Tryz.prog 292=some ⟨⟨4,true,40,[.bN, .bN, .bN, .str ⟨#[]⟩], .struct⟩,[(0,some ⟨1,false,8,[.bN], .ptr⟩),(1,some ⟨1,false,8,[.bN], .ptr⟩),(2,some ⟨1,false,8,[.bN], .ptr⟩),(3,some ⟨1,false,16,[.str ⟨#[]⟩], .str⟩)],none,none⟩:=by kernel_rfl
@[go_sem] theorem Xhn:aF Tryz.prog 293=some ⟨4,true,40,[.bN, .bN, .bN, .str ⟨#[]⟩], .struct⟩:=by kernel_rfl
@[go_sem] theorem Xil:bL Tryz.prog 293=some ⟨⟨4,true,40,[.bN, .bN, .bN, .str ⟨#[]⟩], .struct⟩,[(0,some ⟨1,false,8,[.bN], .ptr⟩),(1,some ⟨1,false,8,[.bN], .ptr⟩),(2,some ⟨1,false,8,[.bN], .ptr⟩),(3,some ⟨1,false,16,[.str ⟨#[]⟩], .str⟩)],none,none⟩:=by kernel_rfl
@[go_sem] theorem Xi2:aF Tryz.prog 294=some ⟨0,true,0,[],(.array 0)⟩:=by kernel_rfl
@[go_sem] theorem Xjc:bL Tryz.prog 294=some ⟨⟨0,true,0,[],(.array 0)⟩,[],some ⟨1,false,8,[.bN], .ptr⟩,none⟩:=by kernel_rfl
@[go_sem] theorem Xfa:aF Tryz.prog 295=some ⟨0,true,0,[], .struct⟩:=by kernel_rfl
@[go_sem] theorem Xoi:bL Tryz.prog 295=some ⟨⟨0,true,0,[], .struct⟩,[(0,some ⟨0,true,0,[],(.array 0)⟩)],none,none⟩:=by kernel_rfl
@[go_sem] theorem Xg9:aF Tryz.prog 296=some ⟨0,true,0,[], .struct⟩:=by kernel_rfl
@[go_sem] theorem Xiw:bL Tryz.prog 296=some ⟨⟨0,true,0,[], .struct⟩,[(0,some ⟨0,true,0,[],(.array 0)⟩)],none,none⟩:=by kernel_rfl
@[go_sem] theorem Xcp:aF Tryz.prog 297=some ⟨1,false,1,[.int .u8 0],(.int .u8)⟩:=by kernel_rfl
@[go_sem] theorem Xis:bL Tryz.prog 297=some ⟨⟨1,false,1,[.int .u8 0],(.int .u8)⟩,[],none,none⟩:=by kernel_rfl
@[go_sem] theorem Xh5:aF Tryz.prog 298=some ⟨1,false,1,[.int .u8 0],(.int .u8)⟩:=by kernel_rfl
@[go_sem] theorem Xnv:bL Tryz.prog 298=some ⟨⟨1,false,1,[.int .u8 0],(.int .u8)⟩,[],none,none⟩:=by kernel_rfl
@[go_sem] theorem Xcz:aF Tryz.prog 299=some ⟨1,false,8,[.az], .func⟩:=by kernel_rfl
@[go_sem] theorem Xmn:bL Tryz.prog 299=some ⟨⟨1,false,8,[.az], .func⟩,[],none,none⟩:=by kernel_rfl
@[go_sem] theorem Xh2:aF Tryz.prog 300=some ⟨1,false,8,[.bN], .ptr⟩:=by kernel_rfl
@[go_sem] theorem Xmh:bL Tryz.prog 300=some ⟨⟨1,false,8,[.bN], .ptr⟩,[],none,none⟩:=by kernel_rfl
@[go_sem] theorem Xdu:aF Tryz.prog 301=some ⟨1,false,4,[.int .i32 0],(.int .i32)⟩:=by kernel_rfl
@[go_sem] theorem Xp8:bL Tryz.prog 301=some ⟨⟨1,false,4,[.int .i32 0],(.int .i32)⟩,[],none,none⟩:=by kernel_rfl
@[go_sem] theorem Xg6:aF Tryz.prog 302=some ⟨1,false,4,[.int .i32 0],(.int .i32)⟩:=by kernel_rfl
@[go_sem] theorem Xkx:bL Tryz.prog 302=some ⟨⟨1,false,4,[.int .i32 0],(.int .i32)⟩,[],none,none⟩:=by kernel_rfl
@[go_sem] theorem Xfd:aF Tryz.prog 303=some ⟨11,true,48,[.int .u64 0, .int .u64 0, .int .u32 0, .int .u8 0, .int .u8 0, .int .u8 0, .int .u8 0, .az, .bN, .int .i32 0, .int .i32 0], .struct⟩:=by kernel_rfl
@[go_sem] theorem Xno:bL Tryz.prog 303=some ⟨⟨11,true,48,[.int .u64 0, .int .u64 0, .int .u32 0, .int .u8 0, .int .u8 0, .int .u8 0, .int .u8 0, .az, .bN, .int .i32 0, .int .i32 0], .struct⟩,[(0,some ⟨1,false,8,[.int .u64 0],(.int .u64)⟩),(1,some ⟨1,false,8,[.int .u64 0],(.int .u64)⟩),(2,some ⟨1,false,4,[.int .u32 0],(.int .u32)⟩),(3,some ⟨1,false,1,[.int .u8 0],(.int .u8)⟩),(4,some ⟨1,false,1,[.int .u8 0],(.int .u8)⟩),(5,some ⟨1,false,1,[.int .u8 0],(.int .u8)⟩),(6,some ⟨1,false,1,[.int .u8 0],(.int .u8)⟩),(7,some ⟨1,false,8,[.az], .func⟩),(8,some ⟨1,false,8,[.bN], .ptr⟩),(9,some ⟨1,false,4,[.int .i32 0],(.int .i32)⟩),(10,some ⟨1,false,4,[.int .i32 0],(.int .i32)⟩)],none,none⟩:=by kernel_rfl
@[go_sem] theorem Xh7:aF Tryz.prog 304=some ⟨11,true,48,[.int .u64 0, .int .u64 0, .int .u32 0, .int .u8 0, .int .u8 0, .int .u8 0, .int .u8 0, .az, .bN, .int .i32 0, .int .i32 0], .struct⟩:=by kernel_rfl
@[go_sem] theorem Xlk:bL Tryz.prog 304=some ⟨⟨11,true,48,[.int .u64 0, .int .u64 0, .int .u32 0, .int .u8 0, .int .u8 0, .int .u8 0, .int .u8 0, .az, .bN, .int .i32 0, .int .i32 0], .struct⟩,[(0,some ⟨1,false,8,[.int .u64 0],(.int .u64)⟩),(1,some ⟨1,false,8,[.int .u64 0],(.int .u64)⟩),(2,some ⟨1,false,4,[.int .u32 0],(.int .u32)⟩),(3,some ⟨1,false,1,[.int .u8 0],(.int .u8)⟩),(4,some ⟨1,false,1,[.int .u8 0],(.int .u8)⟩),(5,some ⟨1,false,1,[.int .u8 0],(.int .u8)⟩),(6,some ⟨1,false,1,[.int .u8 0],(.int .u8)⟩),(7,some ⟨1,false,8,[.az], .func⟩),(8,some ⟨1,false,8,[.bN], .ptr⟩),(9,some ⟨1,false,4,[.int .i32 0],(.int .i32)⟩),(10,some ⟨1,false,4,[.int .i32 0],(.int .i32)⟩)],none,none⟩:=by kernel_rfl
@[go_sem] theorem Xfe:aF Tryz.prog 305=some ⟨1,false,8,[.bN], .other⟩:=by kernel_rfl
@[go_sem] theorem Xmj:bL Tryz.prog 305=some ⟨⟨1,false,8,[.bN], .other⟩,[],none,none⟩:=by kernel_rfl
inductive Tm where
 | mk (head:Int) (args:List Tm)
def Tm.head:Tm→Int | .mk h _=>h
def Tm.args:Tm→List Tm | .mk _ l=>l
mutual
def Tm.aO:Tm→ae
 | .mk h ts=>.agg [.int .i64 h, .ps 2 (Tm.y_ ts)]
def Tm.y_:List Tm→List ae
 | []=>[]
 | t :: ts=>t.aO :: Tm.y_ ts
end
theorem OE:∀ ts,Tm.y_ ts=ts.map Tm.aO
 | []=>rfl
 | t :: ts=>by simp [Tm.y_,OE ts]
theorem dh (t:Tm):t.aO = .agg [.int .i64 t.head, .ps 2 (t.args.map Tm.aO)]:=by cases t;simp [Tm.aO,OE,Tm.head,Tm.args]
theorem fJ (t:Tm):t.aO.cells=[.int .i64 t.head, .ps 2 (t.args.map Tm.aO)]:=by rw [dh];rfl
theorem F4 (h:Int) (ts:List Tm):ae.agg [.int .i64 h, .ps 2 (ts.map Tm.aO)]=(Tm.mk h ts).aO:=by rw [dh];rfl
theorem uT {α:Type} {n:Nat} {f : α→ae}:∀ {l:List α},(∀ x∈l,(f x).low n)→bz n (l.map f)
 | [],_=>trivial
 | a :: l,h=>⟨h a (by simp),uT fun x hx=>h x (by simp [hx])⟩
mutual
theorem Lf:∀ t:Tm,t.aO.low 0
 | .mk h ts=>by simp only [Tm.aO,ae.low,bz,and_true,true_and];exact TG ts
theorem TG:∀ ts:List Tm,bz 0 (Tm.y_ ts)
 | []=>trivial
 | t :: ts=>⟨Lf t,TG ts⟩
end
theorem dH {n:Nat} (t:Tm):t.aO.low n:=m_ (av n) (Lf t)
theorem bR {n:Nat} (ts:List Tm):bz n (ts.map Tm.aO):=uT fun x _=>dH x
theorem n6 {α:Type} {f : α→ae} {l:List α} {i:Nat} (h:i<l.length):(l.map f).getD i .undef=f l[i]:=by simp [List.getD,h]
def ints (l:List Int):List ae:=l.map (.int .i64)
theorem lF (l:List Int):(ints l).length=l.length:=by simp [ints]
theorem dB {n:Nat}:∀ l:List Int,bz n (ints l)
 | []=>trivial
 | _ :: l=>⟨trivial,dB l⟩
theorem xy {l:List Int} {i:Nat} (h:i<l.length):(ints l).getD i .undef = .int .i64 l[i]:=by simp [ints,List.getD,h]
theorem FJ:ints []=[]:=rfl
theorem TH (l:List Int) (n:Int):ints l++[.int .i64 n]=ints (l++[n]):=by simp [ints]
theorem eC {n:Int} (h : -9223372036854775808≤n∧n≤9223372036854775807):IntKind.i64.wrap n=n:=by rw [IntKind.wrap_i64];omega
def ov (n:Int):Prop:=-9223372036854775808≤n∧n≤9223372036854775807
mutual
def Tm.size:Tm→Nat
 | .mk _ ts=>1+Tm.bF ts
def Tm.bF:List Tm→Nat
 | []=>0
 | t :: ts=>t.size+Tm.bF ts
end
mutual
def Tm.depth:Tm→Nat
 | .mk _ ts=>Tm.iH ts+1
def Tm.iH:List Tm→Nat
 | []=>0
 | t :: ts=>max t.depth (Tm.iH ts)
end
theorem Ci:∀ (ts:List Tm) (i:Nat) (hi:i<ts.length),Tm.bF (ts.take (i+1))=Tm.bF (ts.take i)+Tm.size ts[i]
 | t :: ts,0,_=>by simp [Tm.bF]
 | t :: ts,i+1,hi=>by
  simp only [eW,Tm.bF,iG]
  rw [Ci ts i (by simpa using hi)];omega
theorem Bg:∀ (ts:List Tm) (i:Nat) (hi:i<ts.length),Tm.size ts[i]≤Tm.bF ts
 | t :: ts,0,_=>by simp only [eN,Tm.bF];omega
 | t :: ts,i+1,hi=>by
  have:=Bg ts i (by simpa using hi)
  simp only [iG,Tm.bF];omega
theorem Ce:∀ (ts:List Tm) (i:Nat),Tm.bF (ts.take i)≤Tm.bF ts
 | [],i=>by simp
 | t :: ts,0=>by simp [Tm.bF]
 | t :: ts,i+1=>by have:=Ce ts i;simp only [eW,Tm.bF];omega
theorem UJ (t:Tm) : 1≤t.size:=by cases t;simp only [Tm.size];omega
theorem qh:∀ ts:List Tm,ts.length≤Tm.bF ts
 | []=>by simp [Tm.bF]
 | t :: ts=>by have:=qh ts;have:=UJ t;simp only [ax,Tm.bF];omega
mutual
theorem QW:∀ t:Tm,t.depth≤t.size
 | .mk _ ts=>by have:=QP ts;simp only [Tm.depth,Tm.size];omega
theorem QP:∀ ts:List Tm,Tm.iH ts≤Tm.bF ts
 | []=>by simp [Tm.iH,Tm.bF]
 | t :: ts=>by have:=QW t;have:=QP ts;simp only [Tm.iH,Tm.bF];omega
end
theorem Tm.lb {p:Tm→Prop} (h:∀ hd ts,(∀ (i:Nat) (hi:i<ts.length),p ts[i])→p (.mk hd ts)):∀ t,p t:=by
 have key:∀ n (t:Tm),t.size=n→p t:=by
  intro n
  induction n using Nat.strongRecOn with
  | _ n ih =>
   intro t ht
   match t,ht with
   | .mk hd ts,ht =>
    refine h hd ts fun i hi=>ih _ ?_ ts[i] rfl
    have:=Bg ts i hi
    simp only [Tm.size] at ht
    omega
 exact fun t=>key _ t rfl
mutual
def Tm.sq:Tm→Int→Int
 | .mk _ ts,m=>Tm.nN ts 1 m
def Tm.nN:List Tm→Int→Int→Int
 | [],n,_=>n
 | t :: ts,n,m=>if n≤m then Tm.nN ts (n+t.sq (m - n)) m else n
end
mutual
theorem Ch:∀ (t:Tm) (m:Int),0≤m→1≤t.sq m∧t.sq m≤m+1
 | .mk _ ts,m,h=>by simp only [Tm.sq];exact Ke ts 1 m (by omega) (by omega)
theorem Ke:∀ (ts:List Tm) (n m:Int),1≤n→n≤m+1→n≤Tm.nN ts n m∧Tm.nN ts n m≤m+1
 | [],n,m,h1,h2=>by simp only [Tm.nN];omega
 | t :: ts,n,m,h1,h2=>by
  simp only [Tm.nN]
  split
  ·have:=Ch t (m - n) (by omega)
   have:=Ke ts (n+t.sq (m - n)) m (by omega) (by omega)
   omega
  ·omega
end
mutual
theorem K9:∀ (t:Tm) (m:Int),0≤m→t.sq m≤m→t.sq m=t.size
 | .mk _ ts,m,h0,h=>by
  simp only [Tm.sq] at h ⊢
  have:=RT ts 1 m (by omega) (by omega) h
  simp only [Tm.size];omega
theorem RT:∀ (ts:List Tm) (n m:Int),1≤n→n≤m+1→Tm.nN ts n m≤m→Tm.nN ts n m=n+Tm.bF ts
 | [],n,m,_,_,_=>by simp [Tm.nN,Tm.bF]
 | t :: ts,n,m,h1,h2,h=>by
  simp only [Tm.nN] at h ⊢
  split at h
  ·rename_i hn
   rw [if_pos hn]
   have hb:=Ch t (m - n) (by omega)
   have uZ:=Ke ts (n+t.sq (m - n)) m (by omega) (by omega)
   have h3:=RT ts (n+t.sq (m - n)) m (by omega) (by omega) h
   have h4:=K9 t (m - n) (by omega) (by omega)
   simp only [Tm.bF];omega
  ·omega
end
theorem Yhu (ts:List Tm) (n m:Int) (h:¬ n≤m):Tm.nN ts n m=n:=by cases ts<;>simp [Tm.nN,h]
mutual
def Tm.good:Tm→Bool
 | .mk h ts=>!(h<0&&decide (0<ts.length)||h < -256||decide (1023<h)||decide (8<ts.length))&&Tm.eH ts
def Tm.eH:List Tm→Bool
 | []=>true
 | t :: ts=>t.good&&Tm.eH ts
end
theorem R4:∀ (ts:List Tm) (i:Nat) (hi:i<ts.length),Tm.eH ts=(Tm.eH (ts.take i)&&(ts[i].good&&Tm.eH (ts.drop (i+1))))
 | t :: ts,0,_=>by simp [Tm.eH]
 | t :: ts,i+1,hi=>by
  simp only [eW,Tm.eH,iG,List.drop_succ_cons]
  rw [R4 ts i (by simpa using hi)];simp [Bool.and_assoc]
def Tm.check (t:Tm):Int:=if 400<t.size then 2 else if 40<t.depth then 7 else if t.good then 0 else 1
def lp (o:List Int) (v:Int):List Int:=if v∈o then o else o++[v]
def eG (o l:List Int):List Int:=l.foldl lp o
mutual
def Tm.vars:Tm→List Int
 | .mk h ts=>Tm.nD ts (if h<0 then [-1 - h] else [])
def Tm.nD:List Tm→List Int→List Int
 | [],o=>o
 | t :: ts,o=>Tm.nD ts (eG o t.vars)
end
theorem Vi (o:List Int) (v:Int):(lp o v).length≤o.length+1:=by unfold lp;split<;>simp
theorem R_:∀ (l o:List Int),(eG o l).length≤o.length+l.length
 | [],o=>by simp [eG]
 | v :: l,o=>by
  have h:eG o (v :: l)=eG (lp o v) l:=rfl
  rw [h]
  have:=R_ l (lp o v)
  have:=Vi o v
  simp only [ax];omega
mutual
theorem Lm:∀ t:Tm,t.vars.length≤t.size
 | .mk h ts=>by
  have:=Tl ts (if h<0 then [-1 - h] else [])
  have h2:(if h<0 then [-1 - h] else ([]:List Int)).length≤1:=by split<;>simp
  simp only [Tm.vars,Tm.size];omega
theorem Tl:∀ (ts:List Tm) (o:List Int),(Tm.nD ts o).length≤o.length+Tm.bF ts
 | [],o=>by simp [Tm.nD,Tm.bF]
 | t :: ts,o=>by
  have h1:=Tl ts (eG o t.vars)
  have h2:=R_ t.vars o
  have h3:=Lm t
  simp only [Tm.nD,Tm.bF];omega
end
def jo (b:Nat) (sz:Nat):List ae→ae
 | []=>.aU
 | x :: l=>.os b 0 (l.length+1) sz
def e9:List ae→Option bE
 | []=>none
 | x :: l=>some (.row (x :: l) 0)
mutual
def Tm.fit:Tm→Prop
 | .mk h ts=>ov h∧Tm.fits ts
def Tm.fits:List Tm→Prop
 | []=>True
 | t :: ts=>t.fit∧Tm.fits ts
end
theorem IP:∀ {ts:List Tm},Tm.fits ts→∀ (i:Nat) (hi:i<ts.length),ts[i].fit
 | t :: ts,h,0,_=>h.1
 | t :: ts,h,i+1,hi=>IP h.2 i (by simpa using hi)
theorem uW (b sz:Nat):jo b sz [] = .aU:=rfl
theorem Ylk (b sz:Nat) (x:ae) (l:List ae):jo b sz (x :: l) = .os b 0 (l.length+1) sz:=rfl
theorem tY:e9 []=none:=rfl
theorem U5 (x:ae) (l:List ae):e9 (x :: l)=some (.row (x :: l) 0):=rfl
theorem Bz {b n:Nat} (h:b<n) (sz:Nat):∀ l:List ae,(jo b sz l).low n
 | []=>trivial
 | _ :: _=>h
theorem Aa {n:Nat}:∀ l:List ae,bz n l→jw n (e9 l)
 | [],_=>trivial
 | _ :: _,h=>h
theorem CF {b sz:Nat} {l:List ae} (h:l≠[]):jo b sz l = .os b 0 l.length sz:=by cases l;exact absurd rfl h;rfl
theorem BA {l:List ae} (h:l≠[]):e9 l=some (.row l 0):=by cases l;exact absurd rfl h;rfl
theorem Fz (b sz:Nat) (l:List ae) (x:ae):jo b sz (l++[x]) = .os b 0 (l.length+1) sz:=by
 rw [CF (by simp)];simp
theorem FL (l:List ae) (x:ae):e9 (l++[x])=some (.row (l++[x]) 0):=BA (by simp)
theorem Cs (l:List Int) (n:Int):ints (l++[n])=ints l++[.int .i64 n]:=(TH l n).symm
theorem sn {F:Nat→Bool} {σ:ai} {b sz:Nat} {l:List ae} (hF:F b=true) (h:bH σ b=e9 l):pT F σ (.ps sz l) (jo b sz l)=True:=by
 cases l with
 | nil=>simp [jo,pT]
 | cons x l =>
  simp only [jo,QJ,h,e9,Sh,hF,dn,ax]
  simp [cJ]
theorem Vq {σ:ai} {b:Nat} (h:bH σ b=none) : σ.set b none = σ:=by
 apply bQ
 intro c
 by_cases e:b=c
 ·subst e
  rw [oV]
  simp only [bH] at h
  cases hc : σ[b]? with
  | none=>rfl
  | some x=>rw [hc] at h;simp at h;subst h;rfl
 ·rw [bM e]
open Classical in
theorem vl {σ:ai} {nm b sz bs:Nat} {ag:Bool} {z:List ae} {key:KA} {l:List ae} {x:ae} (h:bH σ b=e9 l):ei σ nm ⟨sz,ag,bs,z,key⟩ (jo b sz l) [x]=if eQ ⟨sz,ag,bs,z,key⟩ [x]∧l.length+1≤cL bs then some (.os nm 0 (l.length+1) sz,b_ (σ.set b none) nm (.row (l++[x]) 0)) else none:=by
 cases l with
 | nil =>
  have h0:bH σ b=none:=h
  rw [Vq h0]
  by_cases c:eQ ⟨sz,ag,bs,z,key⟩ [x]<;>simp [jo,La,c]
 | cons y l =>
  simp only [jo]
  rw [JY,h]
  simp only [e9,Kh,ax,aS,dn]
  by_cases c:eQ ⟨sz,ag,bs,z,key⟩ [x]
  ·simp only [c,if_true,true_and,bp,ah,av,en]
   rw [bd (by simp)]
  ·simp [c]
theorem wo {b sz:Nat} {l xs:List ae} (h:xs≠[]):jo b sz (l++xs) = .os b 0 (l.length+xs.length) sz:=by
 rw [CF (by simp [h])];simp
theorem wq {l xs:List ae} (h:xs≠[]):e9 (l++xs)=some (.row (l++xs) 0):=BA (by simp [h])
open Classical in
theorem LN {σ:ai} {nm b sz bs:Nat} {ag:Bool} {z:List ae} {key:KA} {l:List ae} {x y:ae} (h:bH σ b=e9 l):ei σ nm ⟨sz,ag,bs,z,key⟩ (jo b sz l) [x,y]=if eQ ⟨sz,ag,bs,z,key⟩ [x,y]∧l.length+2≤cL bs then some (.os nm 0 (l.length+2) sz,b_ (σ.set b none) nm (.row (l++[x,y]) 0)) else none:=by
 cases l with
 | nil =>
  have h0:bH σ b=none:=h
  rw [Vq h0]
  by_cases c:eQ ⟨sz,ag,bs,z,key⟩ [x,y]<;>simp [jo,La,c]
 | cons u l =>
  simp only [jo]
  rw [JY,h]
  simp only [e9,Kh,ax,aS,dn]
  by_cases c:eQ ⟨sz,ag,bs,z,key⟩ [x,y]
  ·simp only [c,if_true,true_and,bp,ah,av,en]
   rw [bd (by simp)]
  ·simp [c]
end Go.Proofs
namespace Go.Proofs
open Go Go.c8
attribute [local go_sem] Nat.reduceAdd Nat.reduceSub Nat.reduceMul Nat.reduceLeDiff Nat.reduceEqDiff Nat.reduceBEq
theorem mixed:Tryz.prog.follows .mixedOrders=true:=by rfl
theorem Ypy (a b:List Int) (ha:a.length<2 ^ 62):aJ Tryz.prog 46 [.ps 1 (ints a), .ps 1 (ints b)] (.bool (decide (a=b))):=by
 refine aJ.begin (rs:=[.tmp 4]) (m:=24) 1000 Tryz.func46 rfl rfl rfl (by decide) trivial ?_
 simp only [go_sem,lF]
 refine ⟨fun ep=>?_,fun heq=>?_⟩
 ·have:a≠b:=fun e=>ep (by rw [e])
  simp [this]
 have hlen:a.length=b.length:=by omega
 refine aK.dc (ι:={i:Nat // i≤a.length∧a.take i=b.take i}) 1000 (fun i=>f_ 26 [(0, .ps 1 (ints a)),(1, .ps 1 (ints b)),(5, .int .i64 i.1)]) (fun _=>[]) (fun i=>a.length - i.1) ⟨0,by simp⟩ ?_ (fun _=>av _) ?_
 ·simp only [go_sem,dB,cM]
 ·rintro ⟨i,hi,aQ⟩
  simp only [go_sem,lF]
  refine ⟨fun bG=>?_,fun vH=>?_⟩
  ·have sZ:i<a.length:=by omega
   have AO:i<b.length:=by omega
   refine aK.draw [] 0 0 mixed rfl rfl (ah _) ?_
   simp only [go_sem,dC,lF,cd,xy sZ,xy AO]
   refine ⟨by omega,by omega,?_⟩
   refine aK.go 1000 ?_
   simp only [go_sem]
   refine ⟨fun ep=>?_,fun heq=>?_⟩
   ·have:a≠b:=fun e=>ep (by subst e;rfl)
    refine aK.go 1000 ?_
    simp only [go_sem]
    simp [this]
   ·refine ⟨⟨i+1,by omega,?_⟩,?_,by simp only;omega⟩
    ·rw [eO,eO,aQ,aA sZ,aA AO,heq]
    ·simp only [go_sem,dB]
     rw [eC (by omega)];rfl
  ·refine aK.go 1000 ?_
   simp only [go_sem]
   have:i=a.length:=by omega
   subst this
   rw [dt,hlen,dt] at aQ
   simp [aQ]
theorem OI (t:Tm):t.size<2 ^ 62→aJ Tryz.prog 152 [t.aO] (.int .i64 t.size):=by
 induction t using Tm.lb with
 | h h ts ih =>
 intro hs
 simp only [Tm.size] at hs
 have hlen:=qh ts
 refine aJ.begin (rs:=[.tmp 2]) (m:=20) 1000 Tryz.func152 rfl rfl rfl (by decide) trivial ?_
 simp only [go_sem,dh,Tm.head,Tm.args]
 refine aK.dc (ι:={i:Nat // i≤ts.length}) 1000 (fun i=>f_ 21 [(1, .ptr 0 0),(3, .int .i64 (1+Tm.bF (ts.take i.1):Nat)),(4, .int .i64 i.1)]) (fun _=>[some (.var [.int .i64 h, .ps 2 (ts.map Tm.aO)])]) (fun i=>ts.length - i.1) ⟨0,by omega⟩ ?_ (fun _=>by simp) ?_
 ·simp only [go_sem,Tm.bF,bR,cM,cq]
  simp
 ·rintro ⟨i,hi⟩
  simp only [go_sem,ak]
  refine ⟨fun bG=>?_,fun vH=>?_⟩
  ·have aZ:i<ts.length:=by omega
   refine ⟨by omega,?_⟩
   simp only [go_sem,cd,n6 aZ,fJ,ah]
   rw [← dh]
   have fH:=Bg ts i aZ
   refine aq.bV [] (ih i aZ (by omega)) (cJ _ _ _) (by simp [go_sem,dH]) ?_
   simp only [bP,bY,bX,if_true]
   refine aK.go 1000 ?_
   simp only [go_sem]
   refine ⟨⟨i+1,aZ⟩,?_,by simp only;omega⟩
   simp only [go_sem,bR,cq]
   have h1:=Ci ts i aZ
   have h2:=Ce ts (i+1)
   rw [eC (by omega),eC (by omega),h1]
   simp;omega
  ·refine aK.go 1000 ?_
   simp only [go_sem,Tm.size]
   have:i=ts.length:=by omega
   subst this
   simp
theorem UR (t:Tm):∀ m:Int,0≤m→m<2 ^ 62→aJ Tryz.prog 58 [t.aO, .int .i64 m] (.int .i64 (t.sq m)):=by
 induction t using Tm.lb with
 | h h ts ih =>
 intro m sw wy
 refine aJ.begin (rs:=[.tmp 4]) (m:=29) 1000 Tryz.func58 rfl rfl rfl (by decide) trivial ?_
 simp only [go_sem,dh,Tm.head,Tm.args]
 refine aK.dc (ι:={p:Nat×Int // p.1≤ts.length∧1≤p.2∧p.2≤m+1∧p.1≤p.2∧Tm.nN (ts.drop p.1) p.2 m=Tm.nN ts 1 m}) 1000 (fun p=>f_ 31 [(1, .int .i64 m),(2, .ptr 0 0),(5, .int .i64 p.1.2),(6, .int .i64 p.1.1)]) (fun _=>[some (.var [.int .i64 h, .ps 2 (ts.map Tm.aO)])]) (fun p=>ts.length - p.1.1) ⟨(0,1),by simp;omega⟩ ?_ (fun _=>by simp) ?_
 ·simp only [go_sem,bR,cM,cq]
 ·rintro ⟨⟨i,n⟩,hi,h1,h2,h4,h3⟩
  simp only at hi h1 h2 h3 h4
  by_cases bG:(i:Int)<ts.length
  ·have aZ:i<ts.length:=by omega
   by_cases hn:n≤m
   ·simp only [go_sem,ak,bG,hn]
    refine ⟨by omega,?_⟩
    simp only [go_sem,cd,n6 aZ,fJ,ah]
    rw [← dh,eC (by omega)]
    refine aq.bV [] (ih i aZ (m - n) (by omega) (by omega)) (cJ _ _ _) (by simp [go_sem,dH]) ?_
    simp only [bP,bY,bX,if_true]
    refine aK.go 1000 ?_
    simp only [go_sem]
    have hb:=Ch ts[i] (m - n) (by omega)
    refine ⟨⟨(i+1,n+ts[i].sq (m - n)),aZ,by omega,by omega,by simp only;omega,?_⟩,?_,by simp only;omega⟩
    ·simp only
     rw [← h3,ao aZ,Tm.nN,if_pos hn]
    ·simp only [go_sem,bR,cq]
     rw [eC (by omega),eC (by omega)]
     simp
   ·simp only [go_sem,ak,bG,hn]
    refine aK.go 1000 ?_
    simp only [go_sem]
    rw [Tm.sq,← h3,Yhu _ _ _ hn]
  ·simp only [go_sem,ak,bG]
   refine aK.go 1000 ?_
   simp only [go_sem]
   have:i=ts.length:=by omega
   subst this
   rw [Tm.sq,← h3,aV,Tm.nN]
end Go.Proofs
namespace Go.Proofs
open Go Go.c8
structure Sy where
 name:ByteArray
 arity:Int
 weight:Int
 cE:Bool
def Sy.aO (s:Sy):ae:=.agg [.str s.name, .int .i64 s.arity, .int .i64 s.weight, .bool s.cE]
theorem xu (s:Sy):s.aO.cells=[.str s.name, .int .i64 s.arity, .int .i64 s.weight, .bool s.cE]:=rfl
theorem Xt (s:Sy):s.aO = .agg [.str s.name, .int .i64 s.arity, .int .i64 s.weight, .bool s.cE]:=rfl
def syms (g:List Sy):List ae:=g.map Sy.aO
theorem rK (g:List Sy):(syms g).length=g.length:=by simp [syms]
theorem dK {n:Nat} (g:List Sy):bz n (syms g):=uT fun _ _=>⟨trivial,trivial,trivial,trivial,trivial⟩
theorem xx {g:List Sy} {i:Nat} (h:i<g.length):(syms g).getD i .undef=g[i].aO:=n6 h
structure Li where
 neg:Bool
 l:Tm
 r:Tm
def Li.cs (c:Li):List ae:=[.bool c.neg, .int .i64 c.l.head, .ps 2 (c.l.args.map Tm.aO), .int .i64 c.r.head, .ps 2 (c.r.args.map Tm.aO)]
def Li.aO (c:Li):ae:=.agg c.cs
theorem kL (c:Li):c.aO.cells=[.bool c.neg, .int .i64 c.l.head, .ps 2 (c.l.args.map Tm.aO), .int .i64 c.r.head, .ps 2 (c.r.args.map Tm.aO)]:=rfl
def lits (c:List Li):List ae:=c.map Li.aO
theorem gj (c:List Li):(lits c).length=c.length:=by simp [lits]
theorem na {n:Nat} (c:Li):c.aO.low n:=⟨trivial,trivial,bR _,trivial,bR _,trivial⟩
theorem cz {n:Nat} (c:List Li):bz n (lits c):=uT fun x _=>na x
theorem tV {c:List Li} {i:Nat} (h:i<c.length):(lits c).getD i .undef=c[i].aO:=n6 h
structure Wo where
 size:Int
 rows:List (List Int)
def cP (c:List Li):List Tm:=c.flatMap fun l=>[l.l,l.r]
theorem RU (c:List Li) (i:Nat) (h:i<c.length):cP (c.take (i+1))=cP (c.take i)++[c[i].l,c[i].r]:=by
 simp only [cP,eO,aA h,Option.toList_some,List.flatMap_append,List.flatMap_cons,oU,bq]
theorem Fk (c:List Li):(cP c).length=2*c.length:=by
 induction c with
 | nil=>rfl
 | cons a c ih=>simp [cP] at ih ⊢;omega
def lM (g:List Sy):Bool:=decide (g.length≤300)&&g.all fun s=>decide (s.name.size≤100)
def oF:List Tm→Int→Int
 | [],n=>n
 | t :: ts,n=>if n≤500 then oF ts (n+t.sq 500) else n
def iR (c:List Li):Bool:=decide (c.length≤40)&&decide (oF (cP c) 0≤500)
theorem Sw:∀ (ts:List Tm) (n:Int),0≤n→n≤1001→0≤oF ts n∧(oF ts n≤500→oF ts n=n+Tm.bF ts)
 | [],n,h,_=>⟨by simp [oF,h],fun _=>by simp [oF,Tm.bF]⟩
 | t :: ts,n,h,h2=>by
  simp only [oF]
  split
  ·rename_i hn
   have hb:=Ch t 500 (by omega)
   obtain ⟨h3,h4⟩:=Sw ts (n+t.sq 500) (by omega) (by omega)
   refine ⟨h3,fun h5=>?_⟩
   have h6:=h4 h5
   have h7:=K9 t 500 (by omega) (by omega)
   simp only [Tm.bF];omega
  ·rename_i hn
   exact ⟨h,fun h5=>absurd h5 hn⟩
theorem D2:∀ a b:List Tm,Tm.bF (a++b)=Tm.bF a+Tm.bF b
 | [],b=>by simp [Tm.bF]
 | t :: a,b=>by simp only [bn,Tm.bF,D2 a b];omega
end Go.Proofs
namespace Go.Proofs
open Go Go.c8
attribute [local go_sem] Nat.reduceAdd Nat.reduceSub Nat.reduceMul Nat.reduceLeDiff Nat.reduceEqDiff Nat.reduceBEq
theorem Zz9 (g:List Sy):aJ Tryz.prog 24 [.ps 4 (syms g)] (.bool (lM g)):=by
 refine aJ.begin (rs:=[.tmp 2]) (m:=24) 1000 Tryz.func24 rfl rfl rfl (by decide) trivial ?_
 simp only [go_sem]
 by_cases hg:(g.length:Int)≤300
 ·refine aK.dc (ι:={i:Nat // i≤g.length∧(g.take i).all (fun s=>decide (s.name.size≤100))=true}) 1000 (fun i=>f_ 25 [(0, .ps 4 (syms g)),(3, .int .i64 i.1)]) (fun _=>[]) (fun i=>g.length - i.1) ⟨0,by simp⟩ ?_ (fun _=>av _) ?_
  ·simp only [go_sem,dK,cM]
  ·rintro ⟨i,hi,aQ⟩
   by_cases bG:(i:Int)<g.length
   ·have aZ:i<g.length:=by omega
    simp only [go_sem,rK,bG,hg,cd,xx aZ,xu]
    refine ⟨by omega,fun pa=>?_,fun ju=>?_⟩
    ·refine aK.go 1000 ?_
     simp only [go_sem]
     have h1:g.all (fun s=>decide (s.name.size≤100))=false:=by
      rw [List.all_eq_false]
      exact ⟨g[i],aE aZ,by simp;omega⟩
     simp [lM,h1]
    ·refine ⟨⟨i+1,aZ,?_⟩,?_,by simp only;omega⟩
     ·rw [eO,List.all_append,aQ,aA aZ]
      simp;omega
     ·simp only [go_sem,dK]
      rw [eC (by omega)];rfl
   ·simp only [go_sem,rK,bG]
    refine aK.go 1000 ?_
    simp only [go_sem,rK]
    have:i=g.length:=by omega
    subst this
    rw [dt] at aQ
    simp only [lM,aQ,ot]
    congr 1
    simp;omega
 ·refine aK.dc (ι:=Unit) 1000 (fun _=>f_ 25 [(0, .ps 4 (syms g)),(3, .int .i64 0)]) (fun _=>[]) (fun _=>0) () ?_ (fun _=>av _) ?_
  ·simp only [go_sem,dK]
  ·rintro ⟨⟩
   have bG:(0:Int)<g.length:=by omega
   simp only [go_sem,rK,bG,hg]
   refine aK.go 1000 ?_
   simp only [go_sem,rK,hg]
   have:¬ g.length≤300:=by omega
   simp [lM,this]
theorem Yh0 (ts:List Tm) (hl:ts.length<2 ^ 62):aJ Tryz.prog 93 [.ps 2 (ts.map Tm.aO)] (.bool (decide (oF ts 0≤500))):=by
 refine aJ.begin (rs:=[.tmp 2]) (m:=23) 1000 Tryz.func93 rfl rfl rfl (by decide) trivial ?_
 simp only [go_sem]
 refine aK.dc (ι:={p:Nat×Int // p.1≤ts.length∧0≤p.2∧p.2≤1001∧oF (ts.drop p.1) p.2=oF ts 0}) 1000 (fun p=>f_ 24 [(0, .ps 2 (ts.map Tm.aO)),(3, .int .i64 p.1.2),(4, .int .i64 p.1.1)]) (fun _=>[]) (fun p=>ts.length - p.1.1) ⟨(0,0),by simp⟩ ?_ (fun _=>av _) ?_
 ·simp only [go_sem,bR,cM]
 ·rintro ⟨⟨i,n⟩,hi,h1,h2,h3⟩
  simp only at hi h1 h2 h3
  by_cases bG:(i:Int)<ts.length
  ·have aZ:i<ts.length:=by omega
   by_cases hn:n≤500
   ·simp only [go_sem,ak,bG,hn,cd,n6 aZ,fJ,ah]
    refine ⟨by omega,?_⟩
    rw [← dh]
    refine aq.bV [] (UR ts[i] 500 (by omega) (by omega)) (cJ _ _ _) (by simp [go_sem,dH]) ?_
    simp only [bP,bY,bX,if_true]
    refine aK.go 1000 ?_
    simp only [go_sem]
    have hb:=Ch ts[i] 500 (by omega)
    refine ⟨⟨(i+1,n+ts[i].sq 500),aZ,by simp only;omega,by simp only;omega,?_⟩,?_,by simp only;omega⟩
    ·simp only
     rw [← h3,ao aZ,oF,if_pos hn]
    ·simp only [go_sem,bR]
     rw [eC (by omega),eC (by omega)]
     simp
   ·simp only [go_sem,ak,bG,hn]
    refine aK.go 1000 ?_
    simp only [go_sem,hn]
    have:oF (ts.drop i) n=n:=by cases ts.drop i<;>simp [oF,hn]
    simp [← h3,this,hn]
  ·simp only [go_sem,ak,bG]
   refine aK.go 1000 ?_
   simp only [go_sem]
   have:i=ts.length:=by omega
   subst this
   rw [← h3,aV,oF]
theorem R7 (c:List Li) (hc:c.length≤2600000000000):aJ Tryz.prog 57 [.ps 5 (lits c)] (.ps 2 ((cP c).map Tm.aO)):=by
 refine aJ.begin (rs:=[.tmp 2]) (m:=24) 1000 Tryz.func57 rfl rfl rfl (by decide) (bR _) ?_
 simp only [go_sem]
 refine aK.im (ι:={i:Nat // i≤c.length}) 1000 (fun i=>f_ 25 [(0, .ps 5 (lits c)),(3,jo 0 2 ((cP (c.take i.1)).map Tm.aO)),(4, .int .i64 i.1)]) (fun i=>[e9 ((cP (c.take i.1)).map Tm.aO)]) (fun i=>c.length - i.1) ⟨0,by omega⟩ [] ?_ (fun _=>by simp) ?_
 ·refine jb rfl ?_
  simp only [go_sem,cP,oU,uW,tY,cz,cI,cM]
 ·rintro ⟨i,hi⟩
  have WH:=Fk (c.take i)
  have pf:(c.take i).length≤c.length:=by rw [cY];omega
  have iE:=fun h=>RU c i h
  generalize hq:cP (c.take i)=q at *
  simp only [go_sem,gj,hq]
  refine ⟨fun bG=>?_,fun vH=>?_⟩
  ·have aZ:i<c.length:=by omega
   refine aK.draw [⟨none,[],[1]⟩, .no, .no, .no, .no, .no, .no, .no, .no, .no, .no,⟨some 1,[1],[]⟩,⟨some 2,[0,2],[]⟩] 1 3 mixed rfl rfl (by decide) ?_
   simp only [go_sem,dC,gj,cd,tV aZ,kL,ah,LN,eQ,aR,dR,forall_eq_or_imp,forall_eq,eo,ak]
   refine ⟨by omega,by omega,by omega,?_⟩
   refine aK.go 1000 ?_
   simp only [go_sem]
   refine ⟨⟨i+1,aZ⟩,[(0,2),(2,0)],jb rfl ?_,by simp only;omega⟩
   simp only [iE aZ]
   rw [eC (by omega)]
   have e1:(q++[c[i].l,c[i].r]).map Tm.aO=q.map Tm.aO++[.agg [.int .i64 c[i].l.head, .ps 2 (c[i].l.args.map Tm.aO)], .agg [.int .i64 c[i].r.head, .ps 2 (c[i].r.args.map Tm.aO)]]:=by
    rw [cD,aB,aB,aP,dh c[i].l,dh c[i].r]
   have lw:bz 0 ((q++[c[i].l,c[i].r]).map Tm.aO):=bR _
   rw [e1] at lw ⊢
   rw [wo (by simp),wq (by simp)]
   simp only [go_sem,cz,cI,cI lw,ak,iC (av 1) lw,mh,mj,cq]
  ·refine aK.go 1000 ?_
   have:i=c.length:=by omega
   subst this
   rw [dt] at hq
   simp only [go_sem,hq,sn]
theorem Sj (c:List Li):aJ Tryz.prog 56 [.ps 5 (lits c)] (.bool (iR c)):=by
 refine aJ.begin (rs:=[.tmp 2]) (m:=10) 1000 Tryz.func56 rfl rfl rfl (by decide) trivial ?_
 by_cases h:(c.length:Int)≤40
 ·simp only [go_sem,gj,h]
  refine aq.bV [] (R7 c (by omega)) (cJ _ _ _) (by simp [go_sem,cz]) ?_
  rw [jj]
  simp only [ite_self]
  refine aK.go 1000 ?_
  simp only [go_sem]
  have hl:=Fk c
  refine aq.bV [] (Yh0 (cP c) (by omega)) (cJ _ _ _) (by simp [go_sem,bR]) ?_
  simp only [bP,bY,bX,if_true]
  refine aK.go 1000 ?_
  have:c.length≤40:=by omega
  simp only [go_sem,iR,this]
 ·simp only [go_sem,gj,h]
  have:¬ c.length≤40:=by omega
  simp [iR,this]
end Go.Proofs
namespace Go.Proofs
open Go Go.c8
theorem Bm (s:ByteArray):(s.toList==ByteArray.toList { data:=#[] })=decide ((s.size:Int)<1):=by
 by_cases h:(s.size:Int)<1
 ·have e:s = { data:=#[] }:=by
   obtain ⟨d⟩:=s
   have:d.size=0:=by have:d.size=(ByteArray.mk d).size:=rfl;omega
   rw [Array.size_eq_zero_iff.1 this]
  rw [decide_eq_true h,e];exact beq_self_eq_true _
 ·rw [decide_eq_false h]
  cases c:(s.toList==ByteArray.toList { data:=#[] }) with
  | false=>rfl
  | true =>
   rw [UF c] at h
   exact absurd (by decide) h
def Sy.right (x:Sy):Bool:=!(decide ((x.name.size:Int)<1)||decide (64<(x.name.size:Int))||decide (x.arity<0)||decide (8<x.arity)||decide (x.weight<1)||decide (1000<x.weight))
def Sy.uh:Sy:=⟨⟨#[]⟩,0,0,false⟩
def uN:ByteArray:=⟨#[36,116,114,117,101]⟩
def fresh (g:List Sy) (i:Nat):Bool:=(g.take i).all fun s=>!(s.name.toList==(g.getD i Sy.uh).name.toList)
def uI (g:List Sy) (i:Nat):Bool:=(g.getD i Sy.uh).right&&fresh g i
def isTrue (x:Sy):Bool:=x.name.toList==uN.toList&&(x.arity==0&&(x.weight==1&&x.cE))
def gw (g:List Sy):Bool:=!(decide ((g.length:Int)<1)||decide (256<(g.length:Int)))&&(List.range g.length).all (uI g)&&isTrue (g.getD 0 Sy.uh)
theorem FW {g:List Sy} {i:Nat} (h:i<g.length):g.getD i Sy.uh=g[i]:=by simp [List.getD,h]
theorem Zmx (p:Nat→Bool) (n:Nat):(List.range (n+1)).all p=((List.range n).all p&&p n):=by
 rw [List.range_succ,List.all_append];simp
theorem Zt2 {p:Nat→Bool} {n i:Nat} (hi:i<n) (h:p i=false):(List.range n).all p=false:=by
 rw [List.all_eq_false];exact ⟨i,by simpa using hi,by simp [h]⟩
theorem Ey {x:Sy} (h:(x.name.size:Int)<1∨64<(x.name.size:Int)∨x.arity<0∨8<x.arity∨x.weight<1∨1000<x.weight):x.right=false:=by
 simp only [Sy.right,fh,b9,decide_eq_true_eq];omega
theorem Ylc {x:Sy} (h:¬ (x.name.size:Int)<1∧¬ 64<(x.name.size:Int)∧¬ x.arity<0∧¬ 8<x.arity∧¬ x.weight<1∧¬ 1000<x.weight):x.right=true:=by
 simp only [Sy.right,bU,ct,decide_eq_false_iff_not];omega
def lL (g:List Sy) (h:Int):Sy:=g.getD h.toNat Sy.uh
mutual
def Tm.known (g:List Sy):Tm→Bool
 | .mk h ts=>decide (h<0)||(!(decide ((g.length:Int)≤h))&&decide ((ts.length:Int)=(lL g h).arity)&&Tm.gW g ts)
def Tm.gW (g:List Sy):List Tm→Bool
 | []=>true
 | t :: ts=>t.known g&&Tm.gW g ts
end
def Tm.cE (g:List Sy) (t:Tm):Bool:=decide (0≤t.head)&&decide (t.head<(g.length:Int))&&(lL g t.head).cE
mutual
def Tm.jD (g:List Sy):Tm→Bool
 | .mk _ ts=>Tm.jE g ts
def Tm.jE (g:List Sy):List Tm→Bool
 | []=>true
 | t :: ts=>(!t.cE g&&t.jD g)&&Tm.jE g ts
end
def Tm.term (g:List Sy) (t:Tm):Int:=if gw g=false then 1 else if t.check≠0 then t.check else if t.known g=false then 1 else if t.jD g=false then 10 else 0
def Li.check (g:List Sy) (l:Li):Int:=if l.l.term g≠0 then l.l.term g else if l.r.term g≠0 then l.r.term g else
 if (l.l.cE g&&decide (l.r.head≠0))||(!l.l.cE g&&l.r.cE g) then 10 else 0
def dF (g:List Sy):List Li→Int
 | []=>0
 | l :: c=>if l.check g≠0 then l.check g else dF g c
def bf (g:List Sy) (c:List Li):Int:=if gw g=false then 1 else if 32<(c.length:Int) then 2 else dF g c
theorem Zmp (g:List Sy) (c:List Li) (i:Nat) (h:i<c.length):dF g (c.drop i)=if c[i].check g≠0 then c[i].check g else dF g (c.drop (i+1)):=by
 rw [ao h,dF]
end Go.Proofs
namespace Go.Proofs
open Go Go.c8
attribute [local go_sem] Nat.reduceAdd Nat.reduceSub Nat.reduceMul Nat.reduceLeDiff Nat.reduceEqDiff Nat.reduceBEq
end Go.Proofs
namespace Go.Proofs
open Go Go.c8
theorem Tg {g:List Sy} (h:gw g=true) : 1≤g.length∧g.length≤256:=by
 simp only [gw,aC,bU,ct,decide_eq_false_iff_not] at h
 omega
theorem Zzx {g:List Sy} (h:gw g=true):isTrue (g.getD 0 Sy.uh)=true:=by
 simp only [gw,aC] at h;exact h.2
end Go.Proofs
namespace Go.Proofs
open Go Go.c8
attribute [local go_sem] Nat.reduceAdd Nat.reduceSub Nat.reduceMul Nat.reduceLeDiff Nat.reduceEqDiff Nat.reduceBEq
end Go.Proofs
namespace Go.Proofs
open Go Go.c8
mutual
def Tm.val (w:Wo) (f:Int→Int):Tm→Int
 | .mk h ts=>if h<0 then f (-1 - h) else (w.rows.getD h.toNat []).getD (Tm.VW w f ts 0).toNat 0
def Tm.VW (w:Wo) (f:Int→Int):List Tm→Int→Int
 | [],a=>a
 | t :: ts,a=>Tm.VW w f ts (a*w.size+t.val w f)
end
def Tm.DY (w:Wo) (t:Tm):Prop:=t.head<0∨∀ v∈w.rows.getD t.head.toNat [],0≤v∧v<w.size
mutual
def Tm.okW (w:Wo):Tm→Prop
 | .mk h ts=>h<0∨(h<w.rows.length∧ts.length≤4∧((w.rows.getD h.toNat []).length:Int)=w.size ^ ts.length∧Tm.Hu w ts)
def Tm.Hu (w:Wo):List Tm→Prop
 | []=>True
 | t :: ts=>(t.okW w∧t.DY w)∧Tm.Hu w ts
end
mutual
def Tm.dj (p:Int→Prop):Tm→Prop
 | .mk h ts=>(h<0→p (-1 - h))∧Tm.fA p ts
def Tm.fA (p:Int→Prop):List Tm→Prop
 | []=>True
 | t :: ts=>t.dj p∧Tm.fA p ts
end
theorem Lh {p:Int→Prop}:∀ (ts:List Tm),(∀ (i:Nat) (hi:i<ts.length),ts[i].dj p)→Tm.fA p ts
 | [],_=>trivial
 | t :: ts,h=>⟨h 0 (by simp),Lh ts fun i hi=>h (i+1) (by simpa using hi)⟩
theorem Ykp {o:List Int} {v x:Int}:x∈lp o v↔x∈o∨x=v:=by
 unfold lp;split
 ·constructor
  ·exact .inl
  ·rintro (h | rfl)<;>assumption
 ·simp
theorem Kz:∀ (l o:List Int) (x:Int),x∈eG o l↔x∈o∨x∈l
 | [],o,x=>by simp [eG]
 | v :: l,o,x=>by
  have h:eG o (v :: l)=eG (lp o v) l:=rfl
  rw [h,Kz l,Ykp,aR,or_assoc]
mutual
theorem zm {p:Int→Prop}:∀ t:Tm,(∀ v∈t.vars,p v)↔t.dj p
 | .mk h ts=>by
  simp only [Tm.vars,Tm.dj]
  rw [S6 ts]
  refine and_congr_left fun _=>?_
  split
  ·simp_all
  ·rename_i hn;simp [hn]
theorem S6 {p:Int→Prop}:∀ (ts:List Tm) (o:List Int),(∀ v∈Tm.nD ts o,p v)↔(∀ v∈o,p v)∧Tm.fA p ts
 | [],o=>by simp [Tm.nD,Tm.fA]
 | t :: ts,o=>by
  simp only [Tm.nD,Tm.fA]
  rw [S6 ts,← and_assoc]
  refine and_congr_left fun _=>?_
  rw [← zm t]
  simp only [Kz]
  constructor
  ·exact fun h=>⟨fun v hv=>h v (.inl hv),fun v hv=>h v (.inr hv)⟩
  ·rintro ⟨h1,h2⟩ v (hv | hv)
   ·exact h1 v hv
   ·exact h2 v hv
end
theorem mW {g:List Sy} {t:Tm} (h:t.term g=0):t.check=0∧t.known g=true∧t.jD g=true:=by
 unfold Tm.term at h
 split at h
 ·omega
 ·split at h
  ·rename_i h2;exact absurd h h2
  ·rename_i h2
   split at h
   ·omega
   ·split at h
    ·omega
    ·rename_i h3 h4
     exact ⟨by simpa using h2,by simpa using h3,by simpa using h4⟩
theorem Zvr (t:Tm):∀ v∈t.vars,0≤v:=by
 refine (zm (p:=fun v=>0≤v) t).2 ?_
 have key:∀ t:Tm,t.dj (fun v=>0≤v):=by
  intro t
  induction t using Tm.lb with
  | h h ts ih =>
   exact ⟨fun _=>by omega,Lh ts ih⟩
 exact key t
end Go.Proofs
namespace Go.Proofs
open Go Go.c8
attribute [local go_sem] Nat.reduceAdd Nat.reduceSub Nat.reduceMul Nat.reduceLeDiff Nat.reduceEqDiff Nat.reduceBEq
end Go.Proofs
namespace Go.Proofs
open Go Go.c8
theorem Yf6 (t:Tm):t.good=true→t.dj (fun v=>0≤v∧v<256):=by
 induction t using Tm.lb with
 | h h ts ih =>
  intro hg
  have vG:=hg
  simp only [Tm.good,aC,bU,ct,decide_eq_false_iff_not] at hg
  refine ⟨fun hn=>by omega,Lh ts fun i hi=>ih i hi ?_⟩
  have:=hg.2
  rw [R4 ts i hi,aC,aC] at this
  exact this.2.1
theorem Y4 {t:Tm} (h:t.check=0):t.good=true∧t.size≤400∧t.depth≤40:=by
 unfold Tm.check at h
 split at h
 ·omega
 ·split at h
  ·omega
  ·split at h
   ·exact ⟨by assumption,by omega,by omega⟩
   ·omega
end Go.Proofs
namespace Go.Proofs
open Go Go.c8
attribute [local go_sem] Nat.reduceAdd Nat.reduceSub Nat.reduceMul Nat.reduceLeDiff Nat.reduceEqDiff Nat.reduceBEq
def dJ {α:Type} (p : α→Bool):List α→Int→Int
 | [],_=>-1
 | a :: l,i=>if p a then i else dJ p l (i+1)
theorem Cq {α:Type} (p : α→Bool):∀ (l:List α) (i:Int),0≤i→decide (0≤dJ p l i)=l.any p
 | [],i,_=>by simp [dJ]
 | a :: l,i,h=>by
  simp only [dJ,eh]
  by_cases c:p a=true
  ·simp [c,h]
  ·rw [df] at c
   simp only [c,a_,if_false,du];exact Cq p l (i+1) (by omega)
theorem Zvh (σ:ai) (c:ae) (p:Sy→Bool) (l:List Sy) (hl:l.length<2 ^ 62) (hs:bw σ.length σ) (hc:c.low σ.length)
  (hp:∀ (i:Nat) (h:i<l.length),aq Tryz.prog c [l[i].aO] σ (fun r σ'=>r = .bool (p l[i])∧σ' = σ)) :
  aq Tryz.prog (.fn 134 [] []) [.ps 4 (syms l),c] σ (fun r σ'=>r = .int .i64 (dJ p l 0)∧σ' = σ):=by
 refine aq.begin (rs:=[.tmp 4]) (m:=17) 1000 Tryz.func134 rfl rfl rfl rfl rfl ?_
 simp only [go_sem]
 refine aK.dc (ι:={i:Nat // i≤l.length∧dJ p (l.drop i) i=dJ p l 0}) 1000 (fun i=>f_ 19 [(0, .ps 4 (syms l)),(1,c),(7, .int .i64 l.length),(8, .int .i64 i.1)]) (fun _=>σ) (fun i=>l.length - i.1) ⟨0,by simp⟩ ?_ (fun _=>ah _) ?_
 ·simp only [go_sem,dK,rK,hc,hs,cM]
  exact fN σ
 ·rintro ⟨i,hi,aQ⟩
  by_cases bG:(i:Int)<l.length
  ·have aZ:i<l.length:=by omega
   have hd:dJ p (l.drop i) i=if p l[i] then (i:Int) else dJ p (l.drop (i+1)) ((i:Int)+1):=by
    rw [ao aZ];rfl
   simp only [go_sem,bG,rK,cd,xx aZ,xu,ah]
   (repeat ((with_reducible refine And.intro ?_ ?_); ·omega))
   refine (hp i aZ).mono ?_
   rintro r σ' ⟨rfl,rfl⟩
   refine aK.go 1000 ?_
   cases e:p l[i] with
   | true =>
    rw [hd,e,if_pos rfl] at aQ
    simp only [go_sem]
    refine aK.go 1000 ?_
    simp only [go_sem,← aQ]
    rw [fY];exact ⟨σ',fN σ',ah _,hs,trivial,rfl,rfl⟩
   | false =>
    rw [hd,e,if_neg (by decide)] at aQ
    simp only [go_sem]
    refine ⟨⟨i+1,aZ,aQ⟩,?_,by simp only;omega⟩
    simp only [go_sem,dK,hc,hs]
    rw [eC (by omega)];exact ⟨rfl,fN σ'⟩
  ·have dV:i=l.length:=by omega
   subst dV
   rw [aV] at aQ
   simp only [go_sem,bG]
   refine aK.go 1000 ?_
   simp only [go_sem,← aQ]
   rw [fY];exact ⟨σ,fN σ,ah _,hs,trivial,rfl,rfl⟩
theorem Zms (σ:ai) (c:ae) (p:Sy→Bool) (l:List Sy) (hl:l.length<2 ^ 62) (hs:bw σ.length σ) (hc:c.low σ.length)
  (hp:∀ (i:Nat) (h:i<l.length),aq Tryz.prog c [l[i].aO] σ (fun r σ'=>r = .bool (p l[i])∧σ' = σ)) :
  aq Tryz.prog (.fn 95 [] []) [.ps 4 (syms l),c] σ (fun r σ'=>r = .bool (l.any p)∧σ' = σ):=by
 refine aq.begin (rs:=[.tmp 4]) (m:=7) 1000 Tryz.func95 rfl rfl rfl rfl rfl ?_
 simp only [go_sem]
 refine (Zvh σ c p l hl hs hc hp).mono ?_
 rintro r σ' ⟨rfl,rfl⟩
 refine aK.go 1000 ?_
 simp only [go_sem]
 rw [fY,Cq p l 0 (by omega)];exact ⟨σ',fN σ',ah _,hs,trivial,rfl,rfl⟩
theorem Ztu (x y:Sy):aq Tryz.prog (.fn 96 [] [.ptr 0 0]) [y.aO] [some (.var [.str x.name, .int .i64 x.arity, .int .i64 x.weight, .bool x.cE])]
  (fun r σ'=>r = .bool (y.name.toList==x.name.toList)∧σ'=[some (.var [.str x.name, .int .i64 x.arity, .int .i64 x.weight, .bool x.cE])]):=by
 refine aq.begin (rs:=[.tmp 3]) (m:=7) 1000 Tryz.func96 rfl rfl rfl rfl rfl ?_
 simp only [go_sem,Xt]
 rw [fY]
 exact ⟨[some (.var [.str x.name, .int .i64 x.arity, .int .i64 x.weight, .bool x.cE])],by simp [go_sem],ah _,by simp [go_sem],trivial,rfl,rfl⟩
theorem Rn (g:List Sy):aJ Tryz.prog 61 [.ps 4 (syms g)] (.int .i64 (if gw g then 0 else 1)):=by
 refine aJ.begin (rs:=[.tmp 2]) (m:=65) 1000 Tryz.func61 rfl rfl rfl (by decide) trivial ?_
 by_cases c1:(g.length:Int)<1
 ·simp only [go_sem,rK,c1,gw]
 by_cases c2 : 256<(g.length:Int)
 ·simp only [go_sem,rK,c1,c2,gw]
 have h0 : 0<g.length:=by omega
 have e0:(syms g).getD 0 .undef=g[0].aO:=xx h0
 have f1:decide ((g.length:Int)<1)=false:=decide_eq_false c1
 have f2:decide (256<(g.length:Int))=false:=decide_eq_false c2
 have Dw:gw g=((List.range g.length).all (uI g)&&isTrue g[0]):=by rw [gw,f1,f2,FW h0];simp
 have bad:∀ i,i<g.length→uI g i=false→gw g=false:=fun i hi hb=>by
  rw [Dw,Zt2 (p:=uI g) hi hb];rfl
 have hT:(g[0].name.toList==ByteArray.toList { data:=#[36,116,114,117,101] }&&(g[0].arity==0&&(g[0].weight==1&&g[0].cE==true)))=isTrue g[0]:=by simp [isTrue,uN]
 simp only [go_sem,rK,c1,c2,Int.toNat_zero,e0,xu,ah,PL,kC,fq,hT]
 refine ⟨by omega,fun h=>?_,fun h=>?_⟩
 ·have hf:isTrue g[0]=false:=by simpa using h
  have:gw g=false:=by rw [Dw,hf,ib]
  rw [this];rfl
 have Wm:isTrue g[0]=true:=by simpa using h
 simp only [go_sem,Wm]
 refine aK.dc (ι:={i:Nat // i≤g.length∧(List.range i).all (uI g)=true}) 1000 (fun i=>f_ 66 [(0, .ps 4 (syms g)),(21, .ps 4 (syms g)),(22, .int .i64 g.length),(23, .int .i64 i.1)]) (fun _=>[]) (fun i=>g.length - i.1) ⟨0,by simp⟩ ?_ (fun _=>av _) ?_
 ·simp only [go_sem,dK,cM,rK]
 ·rintro ⟨i,hi,aQ⟩
  by_cases bG:(i:Int)<g.length
  ·have aZ:i<g.length:=by omega
   have yp:=FW aZ
   have Ww:(syms g).getD i .undef=g[i].aO:=xx aZ
   have sC:List.take i (syms g)=syms (g.take i):=by simp [syms,List.map_take]
   generalize hx:g[i]=x at yp Ww
   simp only [go_sem,rK,bG,cd,Ww,xu,ah]
   (repeat ((with_reducible refine And.intro ?_ ?_); ·omega))
   rw [show List.take (i - 0) (syms g)=syms (g.take i) from sC]
   refine (Zms _ _ (fun y=>y.name.toList==x.name.toList) (g.take i) (by rw [cY];omega) ?_ ?_ ?_).mono ?_
   ·simp [go_sem]
   ·simp [go_sem]
   ·exact fun j hj=>Ztu x _
   rintro r σ' ⟨rfl,rfl⟩
   refine aK.go 1000 ?_
   have zy:fresh g i = !(g.take i).any (fun y=>y.name.toList==x.name.toList):=by
    rw [fresh,yp,List.all_eq_not_any_not];simp
   have ju:uI g i=(x.right && !(g.take i).any (fun y=>y.name.toList==x.name.toList)):=by rw [uI,yp,zy]
   have pa:∀ (hb:x.right=false∨(g.take i).any (fun y=>y.name.toList==x.name.toList)=true),(if gw g=true then (0:Int) else 1)=1:=fun hb=>by
    rw [bad i aZ (by rw [ju];rcases hb with h | h<;>simp [h])];rfl
   generalize (g.take i).any (fun y=>y.name.toList==x.name.toList)=tw at *
   by_cases d1:(x.name.size:Int)<1
   ·simp only [go_sem,Bm,d1]
    refine aK.go 1000 ?_
    simp only [go_sem,pa (.inl (Ey (.inl d1)))]
   by_cases d2 : 64<(x.name.size:Int)
   ·simp only [go_sem,Bm,d1,d2]
    refine aK.go 1000 ?_
    simp only [go_sem,pa (.inl (Ey (.inr (.inl d2))))]
   cases tw with
   | true =>
    simp only [go_sem,Bm,d1,d2]
    refine aK.go 1000 ?_
    simp only [go_sem,pa (.inr rfl)]
   | false =>
   by_cases d3:x.arity<0
   ·simp only [go_sem,Bm,d1,d2,d3]
    refine aK.go 1000 ?_
    simp only [go_sem,pa (.inl (Ey (.inr (.inr (.inl d3)))))]
   by_cases d4 : 8<x.arity
   ·simp only [go_sem,Bm,d1,d2,d3,d4]
    refine aK.go 1000 ?_
    simp only [go_sem,pa (.inl (Ey (.inr (.inr (.inr (.inl d4))))))]
   by_cases d5:x.weight<1
   ·simp only [go_sem,Bm,d1,d2,d3,d4,d5]
    refine aK.go 1000 ?_
    simp only [go_sem,pa (.inl (Ey (.inr (.inr (.inr (.inr (.inl d5)))))))]
   by_cases d6 : 1000<x.weight
   ·simp only [go_sem,Bm,d1,d2,d3,d4,d5,d6]
    refine aK.go 1000 ?_
    simp only [go_sem,pa (.inl (Ey (.inr (.inr (.inr (.inr (.inr d6)))))))]
   have BZ:=Ylc ⟨d1,d2,d3,d4,d5,d6⟩
   simp only [go_sem,Bm,d1,d2,d3,d4,d5,d6]
   refine ⟨⟨i+1,aZ,by rw [Zmx,aQ,ju,BZ];rfl⟩,?_,by simp only;omega⟩
   simp only [go_sem,dK,rK]
   rw [eC (by omega)];rfl
  ·have dV:i=g.length:=by omega
   simp only [go_sem,bG]
   subst dV
   refine aK.go 1000 ?_
   rw [Dw,aQ,Wm]
   simp only [go_sem]
end Go.Proofs
namespace Go.Proofs
open Go Go.c8
mutual
def Tm.pre:Tm→Int→List (Int×Tm)
 | .mk h ts,d=>(d, .mk h ts) :: Tm.me ts (d+1)
def Tm.me:List Tm→Int→List (Int×Tm)
 | [],_=>[]
 | t :: ts,d=>t.pre d++Tm.me ts d
end
mutual
theorem FU:∀ (t:Tm) (d:Int),(t.pre d).length=t.size
 | .mk h ts,d=>by simp only [Tm.pre,ax,Tm.size];rw [Lv ts];omega
theorem Lv:∀ (ts:List Tm) (d:Int),(Tm.me ts d).length=Tm.bF ts
 | [],_=>rfl
 | t :: ts,d=>by simp only [Tm.me,ay,Tm.bF];rw [FU t,Lv ts]
end
def rem (DX:List (Int×Tm)):List (Int×Tm):=DX.flatMap fun x=>x.2.pre x.1
theorem Yqe:rem []=[]:=rfl
theorem IQ (x:Int×Tm) (r:List (Int×Tm)):rem (x :: r)=x.2.pre x.1++rem r:=rfl
theorem Ypi (t:Tm) (d:Int):rem [(d,t)]=t.pre d:=by rw [IQ,Yqe,bq]
theorem VQ (d:Int) (ts:List Tm) (r:List (Int×Tm)):rem (ts.map (fun t=>(d,t))++r)=Tm.me ts d++rem r:=by
 induction ts with
 | nil=>rfl
 | cons t ts ih =>
  rw [aB,bn,IQ,ih,← cx];rfl
theorem L4 (DX:List (Int×Tm)):DX.length≤(rem DX).length:=by
 induction DX with
 | nil=>exact ah _
 | cons x r ih=>rw [IQ,ay,FU,ax];have:=UJ x.2;omega
def kQ (x:Int×Tm):ae:=.agg [.int .i64 x.2.head, .ps 2 (x.2.args.map Tm.aO), .int .i64 x.1]
theorem Yhv (x:Int×Tm):(kQ x).cells=[.int .i64 x.2.head, .ps 2 (x.2.args.map Tm.aO), .int .i64 x.1]:=rfl
theorem Qo (x:Int×Tm):kQ x = .agg [.int .i64 x.2.head, .ps 2 (x.2.args.map Tm.aO), .int .i64 x.1]:=rfl
theorem FQ {n:Nat} (x:Int×Tm):(kQ x).low n:=⟨trivial,bR _,trivial,trivial⟩
theorem Bx {n:Nat} (l:List (Int×Tm)):bz n (l.map kQ):=uT fun x _=>FQ x
theorem sl {n:Nat} {b:List ae}:∀ {a:List ae},bz n a→bz n b→bz n (a++b)
 | [],_,h=>h
 | _ :: _,ha,h=>⟨ha.1,sl ha.2 h⟩
def pG (T:Int) (x:Int×Tm):Prop:=1≤x.1∧x.1+x.2.size≤T
def jG (t:Tm):Bool:=!(t.head<0&&decide (0<t.args.length)||t.head < -256||decide (1023<t.head)||decide (8<t.args.length))
def fQ (l:List (Int×Tm)) (a:Int):Int:=l.foldl (fun m x=>max m x.1) a
theorem RE (l m:List (Int×Tm)) (a:Int):fQ (l++m) a=fQ m (fQ l a):=List.foldl_append
mutual
theorem Um:∀ (t:Tm) (d a:Int),fQ (t.pre d) a=max a (d+t.depth - 1)
 | .mk h ts,d,a=>by
  have e:fQ ((Tm.mk h ts).pre d) a=fQ (Tm.me ts (d+1)) (max a d):=rfl
  rw [e,To ts (d+1) (max a d) (by omega)]
  simp only [Tm.depth];omega
theorem To:∀ (ts:List Tm) (d a:Int),d - 1≤a→fQ (Tm.me ts d) a=max a (d+Tm.iH ts - 1)
 | [],d,a,h=>by simp only [Tm.me,fQ,List.foldl_nil,Tm.iH];omega
 | t :: ts,d,a,h=>by
  simp only [Tm.me,RE,Tm.iH]
  rw [Um t d a,To ts d _ (by omega)];omega
end
mutual
theorem VM:∀ (t:Tm) (d:Int),(t.pre d).any (fun x=>!jG x.2) = !t.good
 | .mk h ts,d=>by
  simp only [Tm.pre,eh,Tm.good]
  rw [TQ ts]
  simp only [jG,Tm.head,Tm.args,Bool.not_and,Bool.not_not]
  rfl
theorem TQ:∀ (ts:List Tm) (d:Int),(Tm.me ts d).any (fun x=>!jG x.2) = !Tm.eH ts
 | [],d=>rfl
 | t :: ts,d=>by
  simp only [Tm.me,List.any_append,Tm.eH]
  rw [VM t,TQ ts,Bool.not_and]
end
theorem QV:∀ (l:List (Int×Tm)) (a:Int),0≤a→a<2 ^ 62→(∀ x∈l,x.1<2 ^ 62)→0≤fQ l a∧fQ l a<2 ^ 62
 | [],a,h0,h1,_=>⟨h0,h1⟩
 | x :: l,a,h0,h1,h=>by
  have hx:=h x (by simp)
  exact QV l (max a x.1) (by omega) (by omega) fun z hz=>h z (by simp [hz])
theorem Ua {α:Type} {l:List α} {k:Nat} (h:k<l.length):l.take (k+1)=l.take k++[l[k]]:=by
 rw [eO,aA h];rfl
theorem Yih (t:Tm) (d:Int):∀ x∈t.pre d,d≤x.1∧x.1≤d+t.size:=by
 have key:∀ (t:Tm) (d:Int), ∀ x∈t.pre d,d≤x.1∧x.1≤d+t.depth - 1:=by
  intro t
  induction t using Tm.lb with
  | h h ts ih =>
   intro d x hx
   simp only [Tm.pre,aR] at hx
   rcases hx with rfl | hx
   ·simp only [Tm.depth];omega
   ·have hs:∀ (us:List Tm) (e:Int),(∀ (i:Nat) (hi:i<us.length) (d:Int) (x:Int×Tm),x∈us[i].pre d→d≤x.1∧x.1≤d+us[i].depth - 1)→∀ x∈Tm.me us e,e≤x.1∧x.1≤e+Tm.iH us - 1:=by
     intro us
     induction us with
     | nil=>intro e _ x hx;simp [Tm.me] at hx
     | cons u us oP =>
      intro e hh x hx
      simp only [Tm.me,aW] at hx
      simp only [Tm.iH]
      rcases hx with hx | hx
      ·have:=hh 0 (by simp) e x hx;simp only [eN] at this;omega
      ·have:=oP e (fun i hi=>hh (i+1) (by simpa using hi)) x hx;omega
    have:=hs ts (d+1) (fun i hi d x hx=>ih i hi d x hx) x hx
    simp only [Tm.depth];omega
 intro x hx
 have:=key t d x hx
 have:=QW t
 omega
def ua (o:List Int) (x:Int×Tm):List Int:=if x.2.head<0 then lp o (-1 - x.2.head) else o
def ka (l:List (Int×Tm)) (o:List Int):List Int:=l.foldl ua o
theorem Ty (l m:List (Int×Tm)) (o:List Int):ka (l++m) o=ka m (ka l o):=List.foldl_append
theorem Yi3 (o l:List Int) (v:Int):eG o (lp l v)=lp (eG o l) v:=by
 unfold lp
 by_cases h:v∈l
 ·rw [if_pos h,if_pos ((Kz l o v).2 (.inr h))]
 ·rw [if_neg h]
  simp only [eG,List.foldl_append,List.foldl_cons,List.foldl_nil];rfl
theorem QS:∀ (l2 o l1:List Int),eG o (eG l1 l2)=eG (eG o l1) l2
 | [],_,_=>rfl
 | v :: l2,o,l1=>by
  have h:∀ o,eG o (v :: l2)=eG (lp o v) l2:=fun _=>rfl
  rw [h,QS l2,Yi3,h]
mutual
theorem VO:∀ (t:Tm) (d:Int) (o:List Int),ka (t.pre d) o=eG o t.vars
 | .mk h ts,d,o=>by
  have e:ka ((Tm.mk h ts).pre d) o=ka (Tm.me ts (d+1)) (if h<0 then lp o (-1 - h) else o):=rfl
  rw [e,T1 ts (d+1) _ (if h<0 then [-1 - h] else []) o ?_]
  ·rfl
  ·split<;>rfl
theorem T1:∀ (ts:List Tm) (d:Int) (o l o0:List Int),eG o0 l=o→ka (Tm.me ts d) o=eG o0 (Tm.nD ts l)
 | [],d,o,l,o0,h=>h.symm
 | t :: ts,d,o,l,o0,h=>by
  simp only [Tm.me,Ty,Tm.nD]
  rw [VO t d o]
  exact T1 ts d _ _ o0 (by rw [QS,h])
end
theorem Yg {o:List Int} {v:Int} (h:o.Nodup):(lp o v).Nodup:=by
 unfold lp;split
 ·exact h
 ·rename_i hn;rw [gO];exact ⟨h,by simp,by simp;intro a ha uv;exact hn (uv ▸ ha)⟩
theorem Q5:∀ (l o:List Int),o.Nodup→(eG o l).Nodup
 | [],_,h=>h
 | v :: l,o,h=>Q5 l (lp o v) (Yg h)
theorem Rb:∀ (l o:List Int),l.Nodup→(∀ v∈l,v ∉ o)→eG o l=o++l
 | [],o,_,_=>by simp [eG]
 | v :: l,o,h,hd=>by
  have h':eG o (v :: l)=eG (lp o v) l:=rfl
  have hv:lp o v=o++[v]:=if_neg (hd v (by simp))
  rw [h',hv,Rb l _ (eY.1 h).2]
  ·simp
  ·intro x hx hm
   rcases aW.1 hm with hm | hm
   ·exact hd x (by simp [hx]) hm
   ·rw [aM.1 hm] at hx;exact (eY.1 h).1 hx
mutual
theorem YY:∀ t:Tm,t.vars.Nodup
 | .mk h ts=>Rw ts _ (by split<;>simp)
theorem Rw:∀ (ts:List Tm) (o:List Int),o.Nodup→(Tm.nD ts o).Nodup
 | [],_,h=>h
 | t :: ts,o,h=>Rw ts _ (Q5 _ _ h)
end
theorem Zm (t:Tm) (d:Int):ka (t.pre d) []=t.vars:=by
 rw [VO,Rb _ _ (YY t) (by simp),bh]
theorem Yh4 (l:List (Int×Tm)):∀ o:List Int,(ka l o).length≤o.length+l.length:=by
 induction l with
 | nil=>intro o;simp [ka]
 | cons x l ih =>
  intro o
  have:=ih (ua o x)
  have h2:(ua o x).length≤o.length+1:=by
   unfold ua;split
   ·exact Vi _ _
   ·omega
  have e:ka (x :: l) o=ka l (ua o x):=rfl
  rw [e];simp only [ax];omega
mutual
theorem Pm:∀ (t:Tm),t.fit→∀ (d:Int), ∀ x∈t.pre d,x.2.fit
 | .mk h ts,hf,d,x,hx=>by
  simp only [Tm.pre,aR] at hx
  rcases hx with rfl | hx
  ·exact hf
  ·exact Vd ts hf.2 _ x hx
theorem Vd:∀ (ts:List Tm),Tm.fits ts→∀ (d:Int), ∀ x∈Tm.me ts d,x.2.fit
 | [],_,d,x,hx=>by simp [Tm.me] at hx
 | t :: ts,hf,d,x,hx=>by
  simp only [Tm.me,aW] at hx
  rcases hx with hx | hx
  ·exact Pm t hf.1 d x hx
  ·exact Vd ts hf.2 d x hx
end
end Go.Proofs
namespace Go.Proofs
open Go Go.c8
attribute [local go_sem] Nat.reduceAdd Nat.reduceSub Nat.reduceMul Nat.reduceLeDiff Nat.reduceEqDiff Nat.reduceBEq
theorem Zul (ts:List Tm) (n0:Nat) (ku:ai) (S:Nat→ai) (p:Nat) (y:ae) (h0 : ku.length=n0) (yf : ku++[none]=S 0) (hlen:∀ i,(S i).length=n0+1) (eL:∀ i,bH (S i) p=some (.var [.ps 2 (ts.map Tm.aO)])) (hp:p<n0)
  (hs:∀ i,bw (n0+1) (S i)) (nT:bw n0 ku) (nV:y.low n0) (hl:ts.length<2 ^ 62)
  (hy:∀ i (h:i<ts.length),aq Tryz.prog y [.int .i64 ((ts.length:Int) - 1 - i),ts[ts.length - 1 - i].aO] (S i) (fun r σ'=>r = .bool true∧n0+1≤σ'.length∧bw σ'.length σ'∧∃ π:Nat→Nat,(∀ b,b<n0→π b=b)∧(∀ b b',b<n0+1→b'<n0+1→π b = π b'→b=b')∧gE π σ' 0 (S (i+1)))) :
  aq Tryz.prog (.fn 183 [] [.ptr p 0]) [y] ku (fun _ σ'=>σ'=S ts.length):=by
 subst h0
 refine aq.mq (rs:=[]) (m:=17) Tryz.func183 rfl rfl rfl rfl rfl ?_
 refine aK.pad 1 (ah _) (by simp [go_sem,nV,hp]) nT ?_
 rw [show List.replicate 1 (none:Option bE)=[none] from rfl,yf]
 refine aK.go 1000 ?_
 simp only [go_sem,eL,ah,ak]
 rw [eC (by omega)]
 have Dk:bw (ku.length+1) (S 0):=hs 0
 refine aK.dc (ι:={i:Nat // i≤ts.length}) 1000 (fun i=>f_ 19 [(0,y),(1, .ptr p 0),(3, .int .i64 ((ts.length:Int) - 1 - i.1))]) (fun i=>S i.1) (fun i=>ts.length - i.1) ⟨0,by omega⟩ ?_ (fun i=>by rw [hlen];exact dN _) ?_
 ·simp only [go_sem,hlen,Dk,m_ (dN _) nV,cM,Int.sub_zero]
  exact ⟨fN _,by omega⟩
 ·rintro ⟨i,hi⟩
  by_cases bG : 0≤(ts.length:Int) - 1 - i
  ·have aZ:i<ts.length:=by omega
   have hb:ts.length - 1 - i<ts.length:=by omega
   have hn:((ts.length:Int) - 1 - i).toNat=ts.length - 1 - i:=by omega
   simp only [go_sem,bG,eL,ah,ak,hn,n6 hb,fJ]
   rw [← dh]
   (repeat ((with_reducible refine And.intro ?_ ?_); ·omega))
   refine aK.xX (.bool true) trivial (by rw [hlen];exact dN _) ?_ ?_ ?_ ?_ ?_ ?_
   ·rw [hlen];exact m_ (dN _) nV
   ·simp [go_sem,dH]
   ·rw [hlen];exact hs i
   ·rw [hlen]
    simp [go_sem,D8,Ea,CB,nV,hp,bR,dH]
   ·rw [hlen]
    have og:=m_ (dN _) nV
    simp [go_sem,og,bR,dH];omega
   rw [hlen]
   refine (hy i aZ).mono ?_
   rintro r σ' ⟨k1,k2,k3,π,k4,k5,k6⟩
   refine ⟨k1,k2,k3,π,S (i+1),hlen _,k4,k5,k6,hs _,?_⟩
   refine aK.go 1000 ?_
   simp only [go_sem]
   refine ⟨⟨i+1,aZ⟩,?_,by simp only;omega⟩
   have Dl:bw (ku.length+1) (S (i+1)):=hs (i+1)
   simp only [go_sem,hlen,Dl,m_ (dN _) nV]
   rw [eC (by omega)]
   exact ⟨by rw [show (ts.length:Int) - 1 - i - 1=ts.length - 1 - ((i+1:Nat):Int) by omega],fN _,by omega⟩
  ·have dV:i=ts.length:=by omega
   subst dV
   simp only [go_sem,bG]
   refine aK.go 1000 ?_
   simp only [go_sem]
   rw [fY]
   exact ⟨S ts.length,fN _,by rw [hlen];exact dN _,by rw [hlen];exact hs _,trivial,rfl⟩
theorem Zrj (ts:List Tm) (σ:ai) (hs:bw σ.length σ):aq Tryz.prog (.fn 157 [] []) [.ps 2 (ts.map Tm.aO)] σ
  (fun r σ'=>r = .fn 183 [] [.ptr σ.length 0]∧σ' = σ++[some (.var [.ps 2 (ts.map Tm.aO)])]):=by
 refine aq.begin (rs:=[.tmp 2]) (m:=3) 1000 Tryz.func157 rfl rfl rfl rfl rfl ?_
 simp only [go_sem]
 rw [Bu,fY]
 exact ⟨_,fN _,by simp,py (nL (by simp) hs) (by simp [go_sem,bR]),by simp [go_sem],rfl,rfl⟩
theorem Vu (t:Tm) (σ:ai) (hs:bw σ.length σ):aq Tryz.prog (.fn 130 [] []) [t.aO] σ
  (fun r σ'=>r = .fn 156 [] [.ptr σ.length 0]∧σ' = σ++[some (.var [.int .i64 t.head, .ps 2 (t.args.map Tm.aO)])]):=by
 refine aq.begin (rs:=[.tmp 2]) (m:=3) 1000 Tryz.func130 rfl rfl rfl rfl rfl ?_
 simp only [go_sem,dh]
 rw [Bu,fY]
 exact ⟨_,fN _,by simp,py (nL (by simp) hs) (by simp [go_sem,bR]),by simp [go_sem],rfl,rfl⟩
theorem TN (t:Tm) (fH:t.size<999999999) (n0:Nat) (xG:n0≤8) (ku:ai) (b0 b1 b2 b3 b4 b5 b6 b7:Nat→Option bE) (p:Nat) (y:ae) (h0 : ku.length=n0)
  (yf : ku++List.replicate (8 - n0) none=[b0 0,b1 0,b2 0,b3 0,b4 0,b5 0,b6 0,b7 0]) (eL:bH [b0 0,b1 0,b2 0,b3 0,b4 0,b5 0,b6 0,b7 0] p=some (.var [.int .i64 t.head, .ps 2 (t.args.map Tm.aO)])) (hp:p<n0)
  (hs:∀ k,bw 8 [b0 k,b1 k,b2 k,b3 k,b4 k,b5 k,b6 k,b7 k]) (nT:bw n0 ku) (nV:y.low n0)
  (hy:∀ k (h:k<(t.pre 1).length),aq Tryz.prog y [.int .i64 (t.pre 1)[k].1,(t.pre 1)[k].2.aO] [b0 k,b1 k,b2 k,b3 k,b4 k,b5 k,b6 k,b7 k]
   (fun r σ'=>r = .bool true∧8≤σ'.length∧bw σ'.length σ'∧∃ π:Nat→Nat,(∀ b,b<n0→π b=b)∧(∀ b b',b<8→b'<8→π b = π b'→b=b')∧gE π σ' 0 [b0 (k+1),b1 (k+1),b2 (k+1),b3 (k+1),b4 (k+1),b5 (k+1),b6 (k+1),b7 (k+1)])) :
  aq Tryz.prog (.fn 156 [] [.ptr p 0]) [y] ku (fun _ σ'=>σ'=[b0 t.size,b1 t.size,b2 t.size,b3 t.size,b4 t.size,b5 t.size,b6 t.size,b7 t.size]):=by
 subst h0
 refine aq.mq (rs:=[]) (m:=43) Tryz.func156 rfl rfl rfl rfl rfl ?_
 refine aK.pad (8 - ku.length) (ah _) (by simp [go_sem,nV,hp]) nT ?_
 rw [yf]
 have Du:=FU t 1
 refine aK.go 1000 ?_
 simp only [go_sem,eL,ah]
 refine ⟨by decide,?_⟩
 refine aK.im (ι:={x:List (Int×Tm)×List ae×Nat // x.2.2≤t.size∧(t.pre 1).drop x.2.2=rem x.1∧(∀ z∈x.1,pG (t.size+1) z)∧bz 0 x.2.1}) 1000 (fun x=>f_ 45 [(0,y),(1, .ptr p 0),(3, .ptr 9 0)])
  (fun x=>[b0 x.1.2.2,b1 x.1.2.2,b2 x.1.2.2,b3 x.1.2.2,b4 x.1.2.2,b5 x.1.2.2,b6 x.1.2.2,b7 x.1.2.2,some (.row (x.1.1.reverse.map kQ++x.1.2.1) 0),some (.var [.os 8 0 x.1.1.length 3])]) (fun x=>t.size - x.1.2.2)
  ⟨([(1,t)],[],0),av _,by rw [dn];exact (Ypi t 1).symm,by simp [pG,Int.add_comm],trivial⟩ [] ?_ (fun _=>by simp;omega) ?_
 ·refine jb (LL _ _) ⟨?_,?_,?_,?_⟩
  ·have og:=qx (pi []) _ (fun _ _=>rfl) [y] ⟨nV,trivial⟩
   simp only [d_,gJ,and_true] at og
   simp only [go_sem,og]
  ·refine z7 (B:=[b0 0,b1 0,b2 0,b3 0,b4 0,b5 0,b6 0,b7 0]) (hs 0) (fun _ _=>rfl) ?_
   simp only [go_sem,nZ,lR,bh,aB,aP,bq,Qo,cI (bR _)]
  ·have og:=m_ (m:=10) (by omega) nV
   simp only [go_sem,og]
   omega
  ·refine py (σ:=[b0 0,b1 0,b2 0,b3 0,b4 0,b5 0,b6 0,b7 0]) (nL (bO 8 2) (hs 0)) ?_
   simp [go_sem,bR,Qo]
 ·rintro ⟨⟨DX,junk,k⟩,h1,h2,h3,h4⟩
  simp only at h1 h2 h3 h4
  cases DX with
  | nil =>
   have hk:k=t.size:=by
    have:=congrArg List.length h2
    simp only [rem,oU,aS,cj,Du] at this;omega
   subst hk
   simp only [go_sem,aS,cM,lW]
   refine aK.go 1000 ?_
   simp only [go_sem]
   rw [fY]
   refine ⟨[b0 t.size,b1 t.size,b2 t.size,b3 t.size,b4 t.size,b5 t.size,b6 t.size,b7 t.size],by simp [go_sem],by simpa using xG,hs _,trivial,rfl⟩
  | cons x r =>
   have hlen:((x :: r).reverse.map kQ++junk).length=r.length+1+junk.length:=by simp;omega
   have oO:(x :: r).reverse.map kQ++junk=r.reverse.map kQ++kQ x :: junk:=by simp
   have hgx:(r.reverse.map kQ++kQ x :: junk).getD r.length .undef=kQ x:=by simp
   have BT:(r.reverse.map kQ++kQ x :: junk).length=r.length+1+junk.length:=by rw [← oO,hlen]
   have NU:r.length<1000000000:=by
    have:=congrArg List.length h2
    have h5:=L4 (x :: r)
    rw [cj,Du] at this
    simp only [ax] at h5;omega
   have r7:IntKind.i64.wrap ((r.length:Int)+1 - 1)=r.length:=by rw [eC (by omega)];omega
   have nq:(0:Int)<r.length+1:=by omega
   simp only [go_sem,ax,oO,mh,mj,nq,r7,BT,cd,hgx,Yhv,ah]
   obtain ⟨d,⟨hd,ts⟩⟩:=x
   have hk:k<(t.pre 1).length:=by
    have:=congrArg List.length h2
    have h5:=L4 ((d,Tm.mk hd ts) :: r)
    rw [cj] at this
    simp only [ax] at h5;omega
   rw [ao hk,IQ,Tm.pre,bn,← VQ] at h2
   obtain ⟨hLk,hdr⟩:=j9 h2
   have jr:r.length+Tm.bF ts<999999999:=by
    have:=congrArg List.length hdr
    rw [cj,VQ,ay,Lv] at this
    have:=L4 r
    omega
   have GC:pG (t.size+1) (d,Tm.mk hd ts):=h3 _ (by simp)
   simp only [pG,Tm.size] at GC
   have wE:=hy k hk
   rw [hLk] at wE
   simp only [Tm.head,Tm.args,gR]
   rw [F4]
   have BQ:∀ n,bz n (r.reverse.map kQ++kQ (d,Tm.mk hd ts) :: junk):=fun n=>sl (Bx _) ⟨FQ _,iC (av _) h4⟩
   (repeat ((with_reducible refine And.intro ?_ ?_); ·omega))
   refine aK.qO (σ:=[b0 k,b1 k,b2 k,b3 k,b4 k,b5 k,b6 k,b7 k]) (τ:=[some (.row (r.reverse.map kQ++kQ (d,Tm.mk hd ts) :: junk) 0),some (.var [.os 8 0 r.length 3]),some (.var [.int .i64 hd, .ps 2 (ts.map Tm.aO), .int .i64 d])]) (.bool true) trivial (by simpa using xG) ?_ ?_ (hs k) ?_ ?_ ?_ ?_ ?_
   ·exact m_ xG nV
   ·simp [go_sem,dH]
   ·simp [go_sem,D8,Ea,CB,Yx7,QK,XX,nV,hp,bR,dH]
   ·simp only [Sd,Tt,Yps,Yqh]
    refine ⟨ZA (BQ _),?_,?_,trivial⟩
    ·simp [D8,Ea,QK]
    ·simp [D8,Ea,CB,go_sem,bR]
   ·have og:=m_ (m:=11) (by omega) nV
    simp [go_sem,og,bR,dH];omega
   ·exact ⟨BQ _,⟨by simp [go_sem],trivial⟩,by simp [go_sem,jw,bE.low,bR],trivial⟩
   refine wE.mono ?_
   rintro r' σ' ⟨k1,k2,k3,π,k4,k5,k6⟩
   refine ⟨k1,k2,k3,π,[b0 (k+1),b1 (k+1),b2 (k+1),b3 (k+1),b4 (k+1),b5 (k+1),b6 (k+1),b7 (k+1)],rfl,k4,k5,k6,hs _,?_⟩
   refine aK.go 1000 ?_
   simp only [go_sem]
   have zG:=nL (m:=11) (by decide) (hs (k+1))
   simp only [wQ,Fv,and_true] at zG
   refine (Zrj ts _ ?_).mono ?_
   ·simp only [go_sem,wQ,zG,BQ,bR,xp,and_true,true_and,ax,aS];decide
   rintro _ _ ⟨rfl,rfl⟩
   refine aK.go 1000 ?_
   simp only [go_sem]
   refine aK.rangeFunc (f_ 45 [(3, .ptr 9 0),(4, .ptr 10 0)]) ?_ ?_ (fun ρ ht vM lj qV=>?_)
   ·simp only [go_sem]
   ·exact fun b hb=>by cases hb
   simp only [go_sem]
   let S:Nat→ai:=fun i=>match i with
    | 0=>[b0 (k+1),b1 (k+1),b2 (k+1),b3 (k+1),b4 (k+1),b5 (k+1),b6 (k+1),b7 (k+1),some (.row (r.reverse.map kQ++kQ (d,Tm.mk hd ts) :: junk) 0),some (.var [.os 8 0 r.length 3]),some (.var [.int .i64 hd, .ps 2 (ts.map Tm.aO), .int .i64 d]),some (.var [.ps 2 (ts.map Tm.aO)]),some (.loop (ρ.at .ready)),none]
    | i+1=>[b0 (k+1),b1 (k+1),b2 (k+1),b3 (k+1),b4 (k+1),b5 (k+1),b6 (k+1),b7 (k+1),none,some (.var [.os 13 0 (r.length+(i+1)) 3]),some (.var [.int .i64 hd, .ps 2 (ts.map Tm.aO), .int .i64 d]),some (.var [.ps 2 (ts.map Tm.aO)]),some (.loop (ρ.at .ready)),some (.row (((ts.drop (ts.length - (i+1))).map (fun u=>(d+1,u))++r).reverse.map kQ) 0)]
   have yf:S 0=[b0 (k+1),b1 (k+1),b2 (k+1),b3 (k+1),b4 (k+1),b5 (k+1),b6 (k+1),b7 (k+1),some (.row (r.reverse.map kQ++kQ (d,Tm.mk hd ts) :: junk) 0),some (.var [.os 8 0 r.length 3]),some (.var [.int .i64 hd, .ps 2 (ts.map Tm.aO), .int .i64 d]),some (.var [.ps 2 (ts.map Tm.aO)]),some (.loop (ρ.at .ready)),none]:=rfl
   have Gn:∀ i,S (i+1)=[b0 (k+1),b1 (k+1),b2 (k+1),b3 (k+1),b4 (k+1),b5 (k+1),b6 (k+1),b7 (k+1),none,some (.var [.os 13 0 (r.length+(i+1)) 3]),some (.var [.int .i64 hd, .ps 2 (ts.map Tm.aO), .int .i64 d]),some (.var [.ps 2 (ts.map Tm.aO)]),some (.loop (ρ.at .ready)),some (.row (((ts.drop (ts.length - (i+1))).map (fun u=>(d+1,u))++r).reverse.map kQ) 0)]:=fun i=>rfl
   refine (Zul ts 13 _ S 11 (.lz 12) rfl rfl (fun i=>by cases i<;>rfl) (fun i=>by cases i<;>rfl) (by decide) (fun i=>?_) ?_ (cG 12) ?_ (fun i hi=>?_)).mono ?_
   ·have jv:bz 14 ρ.tm:=by rw [ht];simp [go_sem,Ad,Aj]
    have aQ:=nL (m:=14) (by decide) (hs (k+1))
    cases i with
    | zero=>exact py (σ:=[b0 (k+1),b1 (k+1),b2 (k+1),b3 (k+1),b4 (k+1),b5 (k+1),b6 (k+1),b7 (k+1)]) aQ ⟨BQ _,⟨by simp [go_sem],trivial⟩,by simp [go_sem,jw,bE.low,bR],by simp [go_sem,jw,bE.low,bR],jv,trivial,trivial⟩
    | succ i=>exact py (σ:=[b0 (k+1),b1 (k+1),b2 (k+1),b3 (k+1),b4 (k+1),b5 (k+1),b6 (k+1),b7 (k+1)]) aQ ⟨trivial,⟨by simp [go_sem],trivial⟩,by simp [go_sem,jw,bE.low,bR],by simp [go_sem,jw,bE.low,bR],jv,Bx _,trivial⟩
   ·have jv:bz 13 ρ.tm:=by rw [ht];simp [go_sem,Ad,Aj]
    have aQ:=nL (m:=13) (by decide) (hs (k+1))
    exact py (σ:=[b0 (k+1),b1 (k+1),b2 (k+1),b3 (k+1),b4 (k+1),b5 (k+1),b6 (k+1),b7 (k+1)]) aQ ⟨BQ _,⟨by simp [go_sem],trivial⟩,by simp [go_sem,jw,bE.low,bR],by simp [go_sem,jw,bE.low,bR],jv,trivial⟩
   ·have:=qh ts
    omega
   ·have EW:IntKind.i64.wrap (d+1)=d+1:=eC (by omega)
    have bG:=qh ts
    have htn:t.size<999999999:=fH
    have hb:ts.length - 1 - i<ts.length:=by omega
    have Gy:ts.drop (ts.length - (i+1))=ts[ts.length - 1 - i] :: ts.drop (ts.length - i):=by
     rw [show ts.length - (i+1)=ts.length - 1 - i by omega,ao hb,show ts.length - 1 - i+1=ts.length - i by omega]
    generalize ts[ts.length - 1 - i]=u at *
    have JE:ae.agg [.int .i64 u.head, .ps 2 (u.args.map Tm.aO), .int .i64 (d+1)]=kQ (d+1,u):=rfl
    have yM:bz 13 ρ.tm:=by rw [ht];simp [go_sem,Ad,Aj]
    have wx:∀ π:Nat→Nat,(∀ b,b<13→π b=b)→dI π (.loop (ρ.at .ready)) = .loop (ρ.at .ready):=fun π E1=>Bv π 13 E1 _ yM
    cases i with
    | zero =>
     have sC:List.take r.length (r.reverse.map kQ++kQ (d,Tm.mk hd ts) :: junk)=r.reverse.map kQ:=by rw [List.take_left' (by simp)]
     refine aq.lV 1000 ht vM lj qV (by rw [yf];rfl) rfl ?_
     clear_value S
     rw [yf]
     simp only [go_sem,fJ,ah,EW,eQ,aM,forall_eq,BT,sC]
     (repeat ((with_reducible refine And.intro ?_ ?_); ·omega))
     rw [tZ]
     have wz:∀ b,b<13→pi [(13,16),(16,13)] b=b:=by decide
     have fT : [b0 (k+1),b1 (k+1),b2 (k+1),b3 (k+1),b4 (k+1),b5 (k+1),b6 (k+1),b7 (k+1),none,some (.var [.os 16 0 (r.length+1) 3]),some (.var [.int .i64 hd, .ps 2 (ts.map Tm.aO), .int .i64 d]),some (.var [.ps 2 (ts.map Tm.aO)]),some (.loop (ρ.at .ready)),none,none,none,some (.row (r.reverse.map kQ++[kQ (d+1,u)]) 0)]=([b0 (k+1),b1 (k+1),b2 (k+1),b3 (k+1),b4 (k+1),b5 (k+1),b6 (k+1),b7 (k+1)]++[none,some (.var [.os 16 0 (r.length+1) 3]),some (.var [.int .i64 hd, .ps 2 (ts.map Tm.aO), .int .i64 d]),some (.var [.ps 2 (ts.map Tm.aO)]),some (.loop (ρ.at .ready)),none,none,none,some (.row (r.reverse.map kQ++[kQ (d+1,u)]) 0)]:ai):=rfl
     have uy:bw 17 [b0 (k+1),b1 (k+1),b2 (k+1),b3 (k+1),b4 (k+1),b5 (k+1),b6 (k+1),b7 (k+1),none,some (.var [.os 16 0 (r.length+1) 3]),some (.var [.int .i64 hd, .ps 2 (ts.map Tm.aO), .int .i64 d]),some (.var [.ps 2 (ts.map Tm.aO)]),some (.loop (ρ.at .ready)),none,none,none,some (.row (r.reverse.map kQ++[kQ (d+1,u)]) 0)]:=by
      rw [fT]
      exact py (nL (bO 8 9) (hs (k+1))) ⟨trivial,⟨cG 16,trivial⟩,by simp [go_sem,jw,bE.low,bR],by simp [go_sem,jw,bE.low,bR],iC (bO 13 4) yM,trivial,trivial,trivial,sl (Bx _) ⟨FQ _,trivial⟩,trivial⟩
     refine ⟨rfl,[b0 (k+1),b1 (k+1),b2 (k+1),b3 (k+1),b4 (k+1),b5 (k+1),b6 (k+1),b7 (k+1),none,some (.var [.os 16 0 (r.length+1) 3]),some (.var [.int .i64 hd, .ps 2 (ts.map Tm.aO), .int .i64 d]),some (.var [.ps 2 (ts.map Tm.aO)]),some (.loop (ρ.at .ready)),none,none,none,some (.row (r.reverse.map kQ++[kQ (d+1,u)]) 0)],?_,?_,uy,rfl,?_,uy,pi [(13,16),(16,13)],wz,?_,?_⟩
     ·simp [go_sem,JE]
     ·exact bO 14 3
     ·exact bO 14 3
     ·exact IX (lo:=0) rfl
     ·rw [Gn]
      refine z7 (B:=[b0 (k+1),b1 (k+1),b2 (k+1),b3 (k+1),b4 (k+1),b5 (k+1),b6 (k+1),b7 (k+1)]) (hs (k+1)) (fun b hb=>wz b (by simp at hb;omega)) ?_
      simp only [go_sem,wx _ wz,Nat.reduceEqDiff,if_true,if_false,Nat.reduceAdd,ax,aS,and_true,true_and,cI (bR _),cI (Bx _)]
      refine ⟨(wx _ wz).symm,?_⟩
      rw [show ts.length - 1=ts.length - (0+1) from rfl,Gy]
      simp
    | succ i =>
     have G0:(((ts.drop (ts.length - (i+1))).map (fun u=>(d+1,u))++r).reverse.map kQ).length=r.length+(i+1):=by simp;omega
     have N7:List.take (r.length+(i+1)) (((ts.drop (ts.length - (i+1))).map (fun u=>(d+1,u))++r).reverse.map kQ)=((ts.drop (ts.length - (i+1))).map (fun u=>(d+1,u))++r).reverse.map kQ:=bd (by rw [G0];exact ah _)
     refine aq.lV 1000 ht vM lj qV (by rw [Gn];rfl) rfl ?_
     clear_value S
     rw [Gn]
     simp only [go_sem,fJ,ah,EW,eQ,aM,forall_eq,G0,N7]
     (repeat ((with_reducible refine And.intro ?_ ?_); ·omega))
     rw [tZ]
     have wz:∀ b,b<13→pi [(13,16),(16,13)] b=b:=by decide
     have fT : [b0 (k+1),b1 (k+1),b2 (k+1),b3 (k+1),b4 (k+1),b5 (k+1),b6 (k+1),b7 (k+1),none,some (.var [.os 16 0 (r.length+(i+1)+1) 3]),some (.var [.int .i64 hd, .ps 2 (ts.map Tm.aO), .int .i64 d]),some (.var [.ps 2 (ts.map Tm.aO)]),some (.loop (ρ.at .ready)),none,none,none,some (.row (((ts.drop (ts.length - (i+1))).map (fun u=>(d+1,u))++r).reverse.map kQ++[kQ (d+1,u)]) 0)]=([b0 (k+1),b1 (k+1),b2 (k+1),b3 (k+1),b4 (k+1),b5 (k+1),b6 (k+1),b7 (k+1)]++[none,some (.var [.os 16 0 (r.length+(i+1)+1) 3]),some (.var [.int .i64 hd, .ps 2 (ts.map Tm.aO), .int .i64 d]),some (.var [.ps 2 (ts.map Tm.aO)]),some (.loop (ρ.at .ready)),none,none,none,some (.row (((ts.drop (ts.length - (i+1))).map (fun u=>(d+1,u))++r).reverse.map kQ++[kQ (d+1,u)]) 0)]:ai):=rfl
     have uy:bw 17 [b0 (k+1),b1 (k+1),b2 (k+1),b3 (k+1),b4 (k+1),b5 (k+1),b6 (k+1),b7 (k+1),none,some (.var [.os 16 0 (r.length+(i+1)+1) 3]),some (.var [.int .i64 hd, .ps 2 (ts.map Tm.aO), .int .i64 d]),some (.var [.ps 2 (ts.map Tm.aO)]),some (.loop (ρ.at .ready)),none,none,none,some (.row (((ts.drop (ts.length - (i+1))).map (fun u=>(d+1,u))++r).reverse.map kQ++[kQ (d+1,u)]) 0)]:=by
      rw [fT]
      exact py (nL (bO 8 9) (hs (k+1))) ⟨trivial,⟨cG 16,trivial⟩,by simp [go_sem,jw,bE.low,bR],by simp [go_sem,jw,bE.low,bR],iC (bO 13 4) yM,trivial,trivial,trivial,sl (Bx _) ⟨FQ _,trivial⟩,trivial⟩
     refine ⟨rfl,[b0 (k+1),b1 (k+1),b2 (k+1),b3 (k+1),b4 (k+1),b5 (k+1),b6 (k+1),b7 (k+1),none,some (.var [.os 16 0 (r.length+(i+1)+1) 3]),some (.var [.int .i64 hd, .ps 2 (ts.map Tm.aO), .int .i64 d]),some (.var [.ps 2 (ts.map Tm.aO)]),some (.loop (ρ.at .ready)),none,none,none,some (.row (((ts.drop (ts.length - (i+1))).map (fun u=>(d+1,u))++r).reverse.map kQ++[kQ (d+1,u)]) 0)],?_,?_,uy,rfl,?_,uy,pi [(13,16),(16,13)],wz,?_,?_⟩
     ·simp [go_sem,JE]
     ·exact bO 14 3
     ·exact bO 14 3
     ·exact IX (lo:=0) rfl
     ·rw [Gn]
      refine z7 (B:=[b0 (k+1),b1 (k+1),b2 (k+1),b3 (k+1),b4 (k+1),b5 (k+1),b6 (k+1),b7 (k+1)]) (hs (k+1)) (fun b hb=>wz b (by simp at hb;omega)) ?_
      simp only [go_sem,wx _ wz,Nat.reduceEqDiff,if_true,if_false,Nat.reduceAdd,ax,aS,and_true,true_and,cI (bR _),cI (Bx _)]
      refine ⟨by rw [fw],(wx _ wz).symm,?_⟩
      rw [Gy]
      simp
   rintro r' iZ rfl
   rw [CG]
   refine ⟨.ready,?_,?_⟩
   ·cases ts.length<;>rfl
   rw [Ej]
   refine aK.go 1000 ?_
   have M9:∀ z∈ts.map (fun u=>(d+1,u))++r,pG (t.size+1) z:=by
    intro z hz
    rcases aW.1 hz with hz | hz
    ·obtain ⟨u,hu,rfl⟩:=bZ.1 hz
     obtain ⟨j,hj,rfl⟩:=lX.1 hu
     have:=Bg ts j hj
     simp only [pG];omega
    ·exact h3 z (by simp [hz])
   cases hN:ts.length with
   | zero =>
    obtain rfl:=ic.1 hN
    rw [yf]
    simp only [go_sem]
    refine ⟨⟨(r,kQ (d,Tm.mk hd []) :: junk,k+1),by simp only;omega,by simp only;rw [hdr];rfl,fun z hz=>h3 z (by simp at hz;simp [hz]),⟨FQ _,h4⟩⟩,[],jb (LL _ _) ⟨?_,?_,?_,?_⟩,by simp only;omega⟩
    ·have og:=qx (pi []) _ (fun _ _=>rfl) [y] ⟨nV,trivial⟩
     simp only [d_,gJ,and_true] at og
     simp only [go_sem,og]
    ·refine z7 (B:=[b0 (k+1),b1 (k+1),b2 (k+1),b3 (k+1),b4 (k+1),b5 (k+1),b6 (k+1),b7 (k+1)]) (hs (k+1)) (fun _ _=>rfl) ?_
     simp only [go_sem,cI (BQ 0)]
    ·have og:=m_ (m:=10) (by omega) nV
     simp only [go_sem,og]
     omega
    ·refine py (σ:=[b0 (k+1),b1 (k+1),b2 (k+1),b3 (k+1),b4 (k+1),b5 (k+1),b6 (k+1),b7 (k+1)]) (nL (bO 8 2) (hs (k+1))) ?_
     exact ⟨BQ _,⟨by simp [go_sem],trivial⟩,trivial⟩
   | succ N =>
    rw [Gn]
    have hd0:ts.drop (ts.length - (N+1))=ts:=by rw [hN,en,dn]
    simp only [go_sem,hd0]
    refine ⟨⟨(ts.map (fun u=>(d+1,u))++r,[],k+1),by simp only;omega,hdr,M9,trivial⟩,[(8,13),(13,8)],jb (Yqu xG rfl) ⟨?_,?_,?_,?_⟩,by simp only;omega⟩
    ·have og:=qx (pi [(8,13),(13,8)]) 8 (by decide) [y] ⟨m_ xG nV,trivial⟩
     simp only [d_,gJ,and_true] at og
     simp only [go_sem,og]
     rw [if_neg (by omega),if_neg (by omega)]
    ·refine z7 (B:=[b0 (k+1),b1 (k+1),b2 (k+1),b3 (k+1),b4 (k+1),b5 (k+1),b6 (k+1),b7 (k+1)]) (hs (k+1)) (fun b hb=>by simp only [ax,aS] at hb;revert b;decide) ?_
     simp only [go_sem,cI (Bx _),bq]
     simp only [ay,ak,hN]
     rw [Nat.add_comm]
    ·have og:=m_ (m:=10) (by omega) nV
     simp only [go_sem,og]
     omega
    ·refine py (σ:=[b0 (k+1),b1 (k+1),b2 (k+1),b3 (k+1),b4 (k+1),b5 (k+1),b6 (k+1),b7 (k+1)]) (nL (bO 8 2) (hs (k+1))) ?_
     exact ⟨sl (Bx _) trivial,⟨by simp [go_sem],trivial⟩,trivial⟩
theorem Cm (t:Tm) (fH:t.size<999999999):aJ Tryz.prog 90 [t.aO] (.int .i64 t.check):=by
 refine aJ.begin (rs:=[.tmp 2]) (m:=52) 1000 Tryz.func90 rfl rfl rfl (by decide) trivial ?_
 simp only [go_sem,dh,ah]
 rw [← dh]
 refine (Vu t _ ?_).mono ?_
 ·simp [go_sem,bR]
 rintro _ _ ⟨rfl,rfl⟩
 refine aK.go 1000 ?_
 simp only [go_sem]
 refine aK.rangeFunc (f_ 53 [(3, .ptr 1 0),(4, .ptr 2 0),(5, .ptr 3 0)]) ?_ ?_ (fun ρ ht vM lj qV=>?_)
 ·simp only [go_sem]
 ·exact fun b hb=>by cases hb
 simp only [go_sem]
 have Du:=FU t 1
 have M9:=Um t 1 0
 have tE:=VM t 1
 have Wq:=Yih t 1
 have jv:bz 6 ρ.tm:=by rw [ht];simp [go_sem,Ad,Aj]
 have fT:∀ k,bw 8 [some (.var [.int .i64 t.head, .ps 2 (t.args.map Tm.aO)]),some (.var [.int .i64 (k:Nat)]),some (.var [.int .i64 (fQ ((t.pre 1).take k) 0)]),some (.var [.bool (((t.pre 1).take k).any fun x=>!jG x.2)]),some (.var [.int .i64 t.head, .ps 2 (t.args.map Tm.aO)]),some (.loop (ρ.at .ready)),none,none] :=
  fun k=>⟨⟨trivial,bR _,trivial⟩,⟨trivial,trivial⟩,⟨trivial,trivial⟩,⟨trivial,trivial⟩,⟨trivial,bR _,trivial⟩,iC (by decide) jv,trivial,trivial,trivial⟩
 refine (TN t fH 6 (by decide) _ (fun _=>some (.var [.int .i64 t.head, .ps 2 (t.args.map Tm.aO)])) (fun k=>some (.var [.int .i64 (k:Nat)])) (fun k=>some (.var [.int .i64 (fQ ((t.pre 1).take k) 0)]))
  (fun k=>some (.var [.bool (((t.pre 1).take k).any fun x=>!jG x.2)])) (fun _=>some (.var [.int .i64 t.head, .ps 2 (t.args.map Tm.aO)])) (fun _=>some (.loop (ρ.at .ready))) (fun _=>none) (fun _=>none) 4 (.lz 5) rfl rfl rfl (by decide) fT ?_ (cG 5) (fun k hk=>?_)).mono ?_
 ·exact ⟨⟨trivial,bR _,trivial⟩,⟨trivial,trivial⟩,⟨trivial,trivial⟩,⟨trivial,trivial⟩,⟨trivial,bR _,trivial⟩,jv,trivial⟩
 ·have sC:=Ua hk
  have hbk:=Wq _ (aE hk)
  have JB : 0≤fQ ((t.pre 1).take k) 0∧fQ ((t.pre 1).take k) 0<2 ^ 62:=QV _ 0 (by omega) (by omega) fun x hx=>by have:=Wq x (lZ hx);omega
  have wy:fQ ((t.pre 1).take (k+1)) 0=max (fQ ((t.pre 1).take k) 0) (t.pre 1)[k].1:=by rw [sC,RE];rfl
  have rZ:((t.pre 1).take (k+1)).any (fun x=>!jG x.2)=(((t.pre 1).take k).any (fun x=>!jG x.2) || !jG (t.pre 1)[k].2):=by rw [sC,List.any_append];simp
  refine aq.stay rfl (fT (k+1)) ?_
  rw [wy,rZ]
  generalize (t.pre 1)[k]=x at *
  generalize fQ ((t.pre 1).take k) 0=mx at *
  generalize ((t.pre 1).take k).any (fun x=>!jG x.2)=wr at *
  obtain ⟨d,u⟩:=x
  simp only at hbk
  have qm:(if mx<d then d else mx)=max mx d:=by omega
  refine aq.lV 1000 ht vM lj qV rfl rfl ?_
  simp only [go_sem,fJ,ah,ak]
  have vL : -9223372036854775808≤(k:Int)+1∧(k:Int)+1≤9223372036854775807:=by omega
  have vK:((k+1:Nat):Int)=(k:Int)+1:=rfl
  have vO:∀ X,bw 8 [some (.var [.int .i64 t.head, .ps 2 (t.args.map Tm.aO)]),some (.var [.int .i64 (k+1:Nat)]),some (.var [.int .i64 (max mx d)]),some (.var [.bool X]),some (.var [.int .i64 t.head, .ps 2 (t.args.map Tm.aO)]),some (.loop (ρ.at .ready)),none,none]:=fun X=>⟨⟨trivial,bR _,trivial⟩,⟨trivial,trivial⟩,⟨trivial,trivial⟩,⟨trivial,trivial⟩,⟨trivial,bR _,trivial⟩,iC (by decide) jv,trivial,trivial,trivial⟩
  refine aK.go 1000 ?_
  refine aK.draw [.no, .no,⟨none,[],[1]⟩,⟨none,[],[1]⟩,⟨none,[],[1]⟩,⟨none,[1],[]⟩,⟨none,[2],[]⟩] 9 9 mixed rfl rfl (by decide) ?_
  simp only [go_sem,dC,qm]
  refine aK.go 1000 ?_
  have zB:jG u = !(u.head<0&&decide ((0:Int)<u.args.length)||u.head < -256||decide (1023<u.head)||decide ((8:Int)<u.args.length)):=by
   simp only [jG,Int.natCast_pos,show (8:Int)<u.args.length↔8<u.args.length by omega]
  cases wr with
  | true =>
   simp only [go_sem,qm,ak,eC vL]
   rw [tZ]
   refine ⟨rfl,[some (.var [.int .i64 t.head, .ps 2 (t.args.map Tm.aO)]),some (.var [.int .i64 (k+1:Nat)]),some (.var [.int .i64 (max mx d)]),some (.var [.bool true]),some (.var [.int .i64 t.head, .ps 2 (t.args.map Tm.aO)]),some (.loop (ρ.at .ready)),none,none],by simp [go_sem,vK],ah _,vO _,rfl,?_⟩
   rfl
  | false =>
   by_cases d1:u.head<0
   ·by_cases d2:(0:Int)<u.args.length
    ·simp only [go_sem,qm,d1,d2,ak,eC vL]
     rw [tZ]
     refine ⟨rfl,[some (.var [.int .i64 t.head, .ps 2 (t.args.map Tm.aO)]),some (.var [.int .i64 (k+1:Nat)]),some (.var [.int .i64 (max mx d)]),some (.var [.bool true]),some (.var [.int .i64 t.head, .ps 2 (t.args.map Tm.aO)]),some (.loop (ρ.at .ready)),none,none],by simp [go_sem,vK],ah _,vO _,rfl,?_⟩
     rw [zB,decide_eq_true d1,decide_eq_true d2];rfl
    by_cases d3:u.head < -256
    ·simp only [go_sem,qm,d1,d2,d3,ak,eC vL]
     rw [tZ]
     refine ⟨rfl,[some (.var [.int .i64 t.head, .ps 2 (t.args.map Tm.aO)]),some (.var [.int .i64 (k+1:Nat)]),some (.var [.int .i64 (max mx d)]),some (.var [.bool true]),some (.var [.int .i64 t.head, .ps 2 (t.args.map Tm.aO)]),some (.loop (ρ.at .ready)),none,none],by simp [go_sem,vK],ah _,vO _,rfl,?_⟩
     rw [zB,decide_eq_true d1,decide_eq_false d2,decide_eq_true d3];rfl
    have d4:¬ 1023<u.head:=by omega
    have d5:¬ (8:Int)<u.args.length:=by omega
    simp only [go_sem,qm,d1,d2,d3,d4,d5,ak,eC vL]
    rw [tZ]
    refine ⟨rfl,[some (.var [.int .i64 t.head, .ps 2 (t.args.map Tm.aO)]),some (.var [.int .i64 (k+1:Nat)]),some (.var [.int .i64 (max mx d)]),some (.var [.bool false]),some (.var [.int .i64 t.head, .ps 2 (t.args.map Tm.aO)]),some (.loop (ρ.at .ready)),none,none],by simp [go_sem,vK],ah _,vO _,rfl,?_⟩
    rw [zB,decide_eq_true d1,decide_eq_false d2,decide_eq_false d3,decide_eq_false d4,decide_eq_false d5];rfl
   have d3:¬ u.head < -256:=by omega
   by_cases d4 : 1023<u.head
   ·simp only [go_sem,qm,d1,d3,d4,ak,eC vL]
    rw [tZ]
    refine ⟨rfl,[some (.var [.int .i64 t.head, .ps 2 (t.args.map Tm.aO)]),some (.var [.int .i64 (k+1:Nat)]),some (.var [.int .i64 (max mx d)]),some (.var [.bool true]),some (.var [.int .i64 t.head, .ps 2 (t.args.map Tm.aO)]),some (.loop (ρ.at .ready)),none,none],by simp [go_sem,vK],ah _,vO _,rfl,?_⟩
    rw [zB,decide_eq_false d1,decide_eq_false d3,decide_eq_true d4];rfl
   by_cases d5:(8:Int)<u.args.length
   ·simp only [go_sem,qm,d1,d3,d4,d5,ak,eC vL]
    rw [tZ]
    refine ⟨rfl,[some (.var [.int .i64 t.head, .ps 2 (t.args.map Tm.aO)]),some (.var [.int .i64 (k+1:Nat)]),some (.var [.int .i64 (max mx d)]),some (.var [.bool true]),some (.var [.int .i64 t.head, .ps 2 (t.args.map Tm.aO)]),some (.loop (ρ.at .ready)),none,none],by simp [go_sem,vK],ah _,vO _,rfl,?_⟩
    rw [zB,decide_eq_false d1,decide_eq_false d3,decide_eq_false d4,decide_eq_true d5];rfl
   simp only [go_sem,qm,d1,d3,d4,d5,ak,eC vL]
   rw [tZ]
   refine ⟨rfl,[some (.var [.int .i64 t.head, .ps 2 (t.args.map Tm.aO)]),some (.var [.int .i64 (k+1:Nat)]),some (.var [.int .i64 (max mx d)]),some (.var [.bool false]),some (.var [.int .i64 t.head, .ps 2 (t.args.map Tm.aO)]),some (.loop (ρ.at .ready)),none,none],by simp [go_sem,vK],ah _,vO _,rfl,?_⟩
   rw [zB,decide_eq_false d1,decide_eq_false d3,decide_eq_false d4,decide_eq_false d5];rfl
 rintro r' iZ rfl
 rw [CG]
 refine ⟨.ready,rfl,?_⟩
 rw [Ej]
 rw [← Du,dt,M9,tE,Du]
 refine aK.go 1000 ?_
 simp only [go_sem]
 have hdd : 1≤t.depth:=by cases t;simp only [Tm.depth];omega
 unfold Tm.check
 refine ⟨fun h=>by rw [if_pos (by omega)],fun h=>⟨fun h'=>by rw [if_neg (by omega),if_pos (by omega)],fun h'=>⟨fun hg=>?_,fun hg=>?_⟩⟩⟩<;>rw [if_neg (by omega),if_neg (by omega)]
 ·rw [if_neg (by simpa using hg)]
 ·rw [if_pos (by simpa using hg)]
theorem Zvy (l:List Int) (v:Int) (hl:l.length<2 ^ 62):aJ Tryz.prog 143 [.ps 1 (ints l), .int .i64 v] (.int .i64 (dJ (fun x=>decide (v=x)) l 0)):=by
 refine aJ.begin (rs:=[.tmp 4]) (m:=17) 1000 Tryz.func143 rfl rfl rfl (by decide) trivial ?_
 simp only [go_sem]
 refine aK.dc (ι:={i:Nat // i≤l.length∧dJ (fun x=>decide (v=x)) (l.drop i) i=dJ (fun x=>decide (v=x)) l 0}) 1000 (fun i=>f_ 19 [(0, .ps 1 (ints l)),(1, .int .i64 v),(7, .int .i64 l.length),(8, .int .i64 i.1)]) (fun _=>[]) (fun i=>l.length - i.1) ⟨0,by simp⟩ ?_ (fun _=>av _) ?_
 ·simp only [go_sem,dB,lF,cM]
 ·rintro ⟨i,hi,aQ⟩
  by_cases bG:(i:Int)<l.length
  ·have aZ:i<l.length:=by omega
   have hd:dJ (fun x=>decide (v=x)) (l.drop i) i=if decide (v=l[i])=true then (i:Int) else dJ (fun x=>decide (v=x)) (l.drop (i+1)) ((i:Int)+1):=by
    rw [ao aZ];rfl
   by_cases e:v=l[i]
   ·rw [hd,if_pos (by simp [← e])] at aQ
    simp only [go_sem,bG,lF,cd,xy aZ,← e]
    (repeat ((with_reducible refine And.intro ?_ ?_); ·omega))
    refine aK.go 1000 ?_
    simp only [go_sem]
    rw [aQ]
   ·rw [hd,if_neg (by simp [e])] at aQ
    simp only [go_sem,bG,lF,cd,xy aZ,e]
    (repeat ((with_reducible refine And.intro ?_ ?_); ·omega))
    refine ⟨⟨i+1,aZ,aQ⟩,?_,by simp only;omega⟩
    simp only [go_sem,dB]
    rw [eC (by omega)];trivial
  ·have dV:i=l.length:=by omega
   subst dV
   rw [aV] at aQ
   simp only [go_sem,bG]
   refine aK.go 1000 ?_
   simp only [go_sem,← aQ]
   trivial
theorem HJ (l:List Int) (v:Int) (hl:l.length<2 ^ 62):aJ Tryz.prog 110 [.ps 1 (ints l), .int .i64 v] (.bool (decide (v∈l))):=by
 refine aJ.begin (rs:=[.tmp 4]) (m:=7) 1000 Tryz.func110 rfl rfl rfl (by decide) trivial ?_
 simp only [go_sem]
 refine aq.bV [] (Zvy l v hl) (cJ _ _ _) (by simp [go_sem,dB]) ?_;simp only [bP,bY,bX,if_true];refine aK.go 1000 ?_
 simp only [go_sem,Cq _ l 0 (qI 0)]
 congr 1
 rw [dD];simp
theorem Uj (t:Tm) (yn:t.fit) (fH:t.size<999999999):aJ Tryz.prog 162 [t.aO] (.ps 1 (ints t.vars)):=by
 refine aJ.begin (rs:=[.tmp 2]) (m:=26) 1000 Tryz.func162 rfl rfl rfl (by decide) (dB _) ?_
 simp only [go_sem,dh,ah]
 rw [← dh]
 refine (Vu t _ ?_).mono ?_
 ·simp [go_sem,bR]
 rintro _ _ ⟨rfl,rfl⟩
 refine aK.go 1000 ?_
 simp only [go_sem]
 refine aK.rangeFunc (f_ 27 [(3, .ptr 1 0)]) ?_ ?_ (fun ρ ht vM lj qV=>?_)
 ·simp only [go_sem]
 ·exact fun b hb=>by cases hb
 simp only [go_sem]
 have Du:=FU t 1
 have N_:=Zm t 1
 have jv:bz 4 ρ.tm:=by rw [ht];simp [go_sem,Ad,Aj]
 have fT:∀ l:List Int,bw 8 [some (.var [.int .i64 t.head, .ps 2 (t.args.map Tm.aO)]),some (.var [jo 4 1 (ints l)]),some (.var [.int .i64 t.head, .ps 2 (t.args.map Tm.aO)]),some (.loop (ρ.at .ready)),e9 (ints l),none,none,none] :=
  fun l=>⟨⟨trivial,bR _,trivial⟩,⟨Bz (by decide) 1 _,trivial⟩,⟨trivial,bR _,trivial⟩,iC (by decide) jv,Aa _ (dB _),trivial,trivial,trivial,trivial⟩
 refine (TN t fH 4 (by decide) _ (fun _=>some (.var [.int .i64 t.head, .ps 2 (t.args.map Tm.aO)])) (fun k=>some (.var [jo 4 1 (ints (ka ((t.pre 1).take k) []))])) (fun _=>some (.var [.int .i64 t.head, .ps 2 (t.args.map Tm.aO)])) (fun _=>some (.loop (ρ.at .ready)))
  (fun k=>e9 (ints (ka ((t.pre 1).take k) []))) (fun _=>none) (fun _=>none) (fun _=>none) 2 (.lz 3) rfl rfl rfl (by decide) (fun k=>fT _) ?_ (cG 3) (fun k hk=>?_)).mono ?_
 ·exact ⟨⟨trivial,bR _,trivial⟩,⟨trivial,trivial⟩,⟨trivial,bR _,trivial⟩,jv,trivial⟩
 ·have vE:ka ((t.pre 1).take (k+1)) []=ua (ka ((t.pre 1).take k) []) (t.pre 1)[k]:=by rw [Ua hk,Ty];rfl
  have hlen:=Yh4 ((t.pre 1).take k) []
  rw [cY] at hlen
  have EI:(t.pre 1)[k].2.fit:=Pm t yn 1 _ (aE hk)
  rw [vE]
  generalize (t.pre 1)[k]=x at *
  generalize ka ((t.pre 1).take k) []=o at *
  obtain ⟨d,u⟩:=x
  simp only at EI
  have EH : -9223372036854775808≤u.head∧u.head≤9223372036854775807:=by obtain ⟨h,ts⟩:=u;exact EI.1
  have tI:IntKind.i64.wrap (-1 - u.head) = -1 - u.head:=eC (by omega)
  have hol:o.length<999999999:=by simp only [aS] at hlen;omega
  by_cases c1:u.head<0
  ·have zE : 0≤-1 - u.head:=by omega
   have uv:ua o (d,u)=lp o (-1 - u.head):=if_pos c1
   rw [uv]
   generalize hv : -1 - u.head=v at *
   by_cases c2:v∈o
   ·have hn:lp o v=o:=if_pos c2
    rw [hn]
    refine aq.stay rfl (fT _) ?_
    refine aq.lV 1000 ht vM lj qV rfl rfl ?_
    simp only [go_sem,fJ,ah,ak,hv,tI,zE]
    refine aq.bV [4] (HJ o v (by omega)) ?_ (by simp [go_sem,dB]) ?_
    ·simp only [go_sem,rH,rI,sn]
    simp only [bP,bY,bX,if_true]
    refine aK.go 1000 ?_
    simp only [go_sem,c2]
    rw [tZ]
    exact ⟨rfl,[some (.var [.int .i64 t.head, .ps 2 (t.args.map Tm.aO)]),some (.var [jo 4 1 (ints o)]),some (.var [.int .i64 t.head, .ps 2 (t.args.map Tm.aO)]),some (.loop (ρ.at .ready)),e9 (ints o),none,none,none],by simp [go_sem],ah _,fT _,rfl,rfl⟩
   ·have hn:lp o v=o++[v]:=if_neg c2
    have wz:∀ b,b<4→pi [(4,10),(10,4)] b=b:=by decide
    rw [hn]
    refine aq.move [(4,10),(10,4)] (S':=[some (.var [.int .i64 t.head, .ps 2 (t.args.map Tm.aO)]),some (.var [.os 10 0 (o.length+1) 1]),some (.var [.int .i64 t.head, .ps 2 (t.args.map Tm.aO)]),some (.loop (ρ.at .ready)),none,none,none,none,none,none,some (.row (ints o++[.int .i64 v]) 0)]) ?_ ?_ rfl ?_ ?_
    ·exact bO 8 3
    ·exact ⟨⟨trivial,bR _,trivial⟩,⟨cG 10,trivial⟩,⟨trivial,bR _,trivial⟩,iC (bO 4 7) jv,trivial,trivial,trivial,trivial,trivial,trivial,sl (dB _) ⟨trivial,trivial⟩,trivial⟩
    ·have tG:=Bv (pi [(4,10),(10,4)]) 4 wz (.loop (ρ.at .ready)) jv
     simp only [Cs,Fz,FL,HY,H3,KG,tG]
     simp [go_sem,cI (bR _),cI (dB _),cI (sl (dB o) (show bz 0 [ae.int .i64 v] from ⟨trivial,trivial⟩)),lF]
    refine aq.lV 1000 ht vM lj qV rfl rfl ?_
    simp only [go_sem,fJ,ah,ak,hv,tI,zE]
    refine aq.bV [4] (HJ o v (by omega)) ?_ (by simp [go_sem,dB]) ?_
    ·simp only [go_sem,rH,rI,sn]
    simp only [bP,bY,bX,if_true]
    refine aK.go 1000 ?_
    simp only [go_sem,c2,eQ,aM,forall_eq,cq,vl,lF]
    refine ⟨by omega,?_⟩
    rw [tZ]
    exact ⟨rfl,[some (.var [.int .i64 t.head, .ps 2 (t.args.map Tm.aO)]),some (.var [.os 10 0 (o.length+1) 1]),some (.var [.int .i64 t.head, .ps 2 (t.args.map Tm.aO)]),some (.loop (ρ.at .ready)),none,none,none,none,none,none,some (.row (ints o++[.int .i64 v]) 0)],by simp [go_sem],bO 8 3,⟨⟨trivial,bR _,trivial⟩,⟨cG 10,trivial⟩,⟨trivial,bR _,trivial⟩,iC (bO 4 7) jv,trivial,trivial,trivial,trivial,trivial,trivial,sl (dB _) (show bz 11 [ae.int .i64 v] from ⟨trivial,trivial⟩),trivial⟩,rfl,rfl⟩
  ·have hn:ua o (d,u)=o:=if_neg c1
   rw [hn]
   refine aq.stay rfl (fT _) ?_
   refine aq.lV 1000 ht vM lj qV rfl rfl ?_
   have zE:¬ 0≤-1 - u.head:=by omega
   simp only [go_sem,fJ,ah,ak,tI,zE]
   rw [tZ]
   exact ⟨rfl,[some (.var [.int .i64 t.head, .ps 2 (t.args.map Tm.aO)]),some (.var [jo 4 1 (ints o)]),some (.var [.int .i64 t.head, .ps 2 (t.args.map Tm.aO)]),some (.loop (ρ.at .ready)),e9 (ints o),none,none,none],by simp [go_sem],ah _,fT _,rfl,rfl⟩
 rintro r' iZ rfl
 rw [CG]
 refine ⟨.ready,rfl,?_⟩
 rw [Ej]
 rw [← Du,dt,N_]
 refine aK.go 1000 ?_
 simp only [go_sem]
 rw [sn rfl rfl];trivial
end Go.Proofs
namespace Go.Proofs
open Go Go.c8
mutual
def Tm.walk {ι:Type} (step : ι→Tm→Bool→ι):Tm→Bool→ι→ι
 | .mk h ts,top,x=>Tm.walks step ts (step x (.mk h ts) top)
def Tm.walks {ι:Type} (step : ι→Tm→Bool→ι):List Tm→ι→ι
 | [],x=>x
 | t :: ts,x=>Tm.walks step ts (t.walk step false x)
end
theorem Sl {ι:Type} (step : ι→Tm→Bool→ι):∀ (ts:List Tm) (i:Nat) (hi:i<ts.length) (x : ι),Tm.walks step (ts.take (i+1)) x=ts[i].walk step false (Tm.walks step (ts.take i) x)
 | t :: ts,0,_,x=>by simp [Tm.walks]
 | t :: ts,i+1,hi,x=>by
  simp only [eW,Tm.walks,iG]
  exact Sl step ts i (by simpa using hi) _
def kJ (g:List Sy) (x:Bool×Bool) (t:Tm) (top:Bool):Bool×Bool :=
 if t.head<0 then x else if (g.length:Int)≤t.head∨¬ (t.args.length:Int)=(lL g t.head).arity then (true,x.2) else if (lL g t.head).cE=true∧top=false then (x.1,true) else x
def j4 (g:List Sy) (t:Tm):Bool:=decide (t.head<0)||(!(decide ((g.length:Int)≤t.head))&&decide ((t.args.length:Int)=(lL g t.head).arity))
theorem Zt0 (g:List Sy) (h:Int) (ts:List Tm):j4 g (.mk h ts)=(decide (h<0)||(!(decide ((g.length:Int)≤h))&&decide ((ts.length:Int)=(lL g h).arity))):=rfl
theorem Yxx (g:List Sy) (x:Bool×Bool) (t:Tm) (top:Bool):(kJ g x t top).1=(x.1 || !j4 g t):=by
 unfold kJ j4
 by_cases c1:t.head<0
 ·simp [c1]
 ·by_cases c2:(g.length:Int)≤t.head
  ·simp [c1,c2]
  ·by_cases c3:(t.args.length:Int)=(lL g t.head).arity
   ·rw [if_neg c1,if_neg (by simp [c2,c3])]
    split<;>simp [c1,c2,c3]
   ·simp [c1,c2,c3]
theorem VK {h:Int} {ts:List Tm} (hg:(Tm.mk h ts).good=true) (c:h<0):ts=[]:=by
 simp only [Tm.good,aC,bU,ct,fb,decide_eq_false_iff_not] at hg
 rcases hg.1.1.1.1 with h' | h'
 ·exact absurd c h'
 ·exact ic.1 (by omega)
theorem Ub {h:Int} {ts:List Tm} (hg:(Tm.mk h ts).good=true):Tm.eH ts=true:=by
 simp only [Tm.good,aC] at hg;exact hg.2
mutual
theorem Qr (g:List Sy):∀ (t:Tm) (top:Bool) (x:Bool×Bool),t.good=true→(t.walk (kJ g) top x).1=(x.1 || !t.known g)
 | .mk h ts,top,x,hg=>by
  simp only [Tm.walk,Tm.known]
  rw [OP g ts _ (Ub hg),Yxx,Zt0]
  by_cases c1:h<0
  ·have:=VK hg c1
   subst this
   simp [c1,Tm.gW]
  ·have e1:decide (h<0)=false:=decide_eq_false c1
   rw [e1]
   simp only [du,Bool.not_and,Bool.or_assoc]
theorem OP (g:List Sy):∀ (ts:List Tm) (x:Bool×Bool),Tm.eH ts=true→(Tm.walks (kJ g) ts x).1=(x.1 || !Tm.gW g ts)
 | [],x,_=>by simp [Tm.walks,Tm.gW]
 | t :: ts,x,hg=>by
  simp only [Tm.eH,aC] at hg
  simp only [Tm.walks,Tm.gW]
  rw [OP g ts _ hg.2,Qr g t _ _ hg.1,Bool.not_and,Bool.or_assoc]
end
theorem Yzo (g:List Sy) (x:Bool×Bool) (t:Tm) (top:Bool) (hk:j4 g t=true):(kJ g x t top).2=(x.2||(!top&&t.cE g)):=by
 unfold kJ
 unfold j4 at hk
 by_cases c1:t.head<0
 ·simp [c1,Tm.cE,show ¬ 0≤t.head by omega]
 ·simp only [decide_eq_false c1,du,aC,bU,decide_eq_false_iff_not,decide_eq_true_eq] at hk
  rw [if_neg c1,if_neg (by simp only [hk.2,not_true_eq_false,or_false];exact hk.1)]
  have h0 : 0≤t.head:=by omega
  have h1:t.head<(g.length:Int):=by omega
  cases ht:(lL g t.head).cE<;>cases top<;>simp [Tm.cE,h0,h1,ht]
mutual
theorem QG (g:List Sy):∀ (t:Tm) (top:Bool) (x:Bool×Bool),t.good=true→t.known g=true→(t.walk (kJ g) top x).2=(x.2||((!top&&t.cE g) || !t.jD g))
 | .mk h ts,top,x,hg,hk=>by
  have hh:j4 g (.mk h ts)=true:=by
   simp only [Tm.known,b9,aC] at hk
   simp only [j4,Tm.head,Tm.args,b9,aC]
   exact hk.imp id And.left
  have Nt:Tm.gW g ts=true:=by
   by_cases c1:h<0
   ·rw [VK hg c1];rfl
   ·simp only [Tm.known,decide_eq_false c1,du,aC] at hk;exact hk.2
  simp only [Tm.walk,Tm.jD]
  rw [PK g ts _ (Ub hg) Nt,Yzo g x _ top hh,Bool.or_assoc]
theorem PK (g:List Sy):∀ (ts:List Tm) (x:Bool×Bool),Tm.eH ts=true→Tm.gW g ts=true→(Tm.walks (kJ g) ts x).2=(x.2 || !Tm.jE g ts)
 | [],x,_,_=>by simp [Tm.walks,Tm.jE]
 | t :: ts,x,hg,hk=>by
  simp only [Tm.eH,Tm.gW,aC] at hg hk
  simp only [Tm.walks,Tm.jE]
  rw [PK g ts _ hg.2 hk.2,QG g t _ _ hg.1 hk.1]
  cases t.cE g<;>cases t.jD g<;>cases x.2<;>simp
end
end Go.Proofs
namespace Go.Proofs
open Go Go.c8
attribute [local go_sem] Nat.reduceAdd Nat.reduceSub Nat.reduceMul Nat.reduceLeDiff Nat.reduceEqDiff Nat.reduceBEq
theorem Ysj {ι:Type} (b0 b1 b2 b3 b4 b5 b6 b7 : ι→Option bE) (step : ι→Tm→Bool→ι) (c:ae) (hs:∀ x,bw 8 [b0 x,b1 x,b2 x,b3 x,b4 x,b5 x,b6 x,b7 x]) (hc:c.low 8)
  (hy:∀ x t top,aq Tryz.prog c [t.aO, .bool top] [b0 x,b1 x,b2 x,b3 x,b4 x,b5 x,b6 x,b7 x] (fun _ σ'=>σ'=[b0 (step x t top),b1 (step x t top),b2 (step x t top),b3 (step x t top),b4 (step x t top),b5 (step x t top),b6 (step x t top),b7 (step x t top)])) (t:Tm) :
  t.size<2 ^ 62→∀ top x,aq Tryz.prog (.fn 159 [] []) [t.aO, .bool top,c] [b0 x,b1 x,b2 x,b3 x,b4 x,b5 x,b6 x,b7 x]
   (fun r σ'=>r = .dA []∧σ'=[b0 (t.walk step top x),b1 (t.walk step top x),b2 (t.walk step top x),b3 (t.walk step top x),b4 (t.walk step top x),b5 (t.walk step top x),b6 (t.walk step top x),b7 (t.walk step top x)]):=by
 induction t using Tm.lb with
 | h h ts ih =>
 intro fH top x
 simp only [Tm.size] at fH
 have hlen:=qh ts
 have Gu:=m_ (m:=9) (by decide) hc
 refine aq.begin (rs:=[]) (m:=20) 1000 Tryz.func159 rfl rfl rfl rfl rfl ?_
 simp only [go_sem,dh,Tm.head,Tm.args,ah]
 rw [F4]
 refine aq.tail (σ:=[b0 x,b1 x,b2 x,b3 x,b4 x,b5 x,b6 x,b7 x]) (τ:=[some (.var [.int .i64 h, .ps 2 (ts.map Tm.aO)])]) hc (by simp [go_sem,dH]) (hs x) ?_
 refine (hy x (.mk h ts) top).mono ?_
 rintro r σ' rfl
 refine ⟨rfl,?_⟩
 refine aK.go 1000 ?_
 simp only [go_sem,ak]
 generalize yK:step x (.mk h ts) top=x1
 have hend:Tm.walk step (.mk h ts) top x=Tm.walks step ts x1:=by rw [← yK];rfl
 rw [hend]
 refine aK.dc (ι:={i:Nat // i≤ts.length}) 1000 (fun i=>f_ 23 [(2,c),(13, .ps 2 (ts.map Tm.aO)),(14, .int .i64 ts.length),(15, .int .i64 i.1)]) (fun i=>[b0 (Tm.walks step (ts.take i.1) x1),b1 (Tm.walks step (ts.take i.1) x1),b2 (Tm.walks step (ts.take i.1) x1),b3 (Tm.walks step (ts.take i.1) x1),b4 (Tm.walks step (ts.take i.1) x1),b5 (Tm.walks step (ts.take i.1) x1),b6 (Tm.walks step (ts.take i.1) x1),b7 (Tm.walks step (ts.take i.1) x1),some (.var [.int .i64 h, .ps 2 (ts.map Tm.aO)])]) (fun i=>ts.length - i.1) ⟨0,by omega⟩ ?_ (fun _=>bO 8 1) ?_
 ·have h9:=nL (m:=9) (by decide) (hs x1)
  simp only [wQ,Fv,and_true] at h9
  simp only [go_sem,Gu,bR,wQ,h9,List.take_zero,Tm.walks,xp,cM]
 ·rintro ⟨i,hi⟩
  by_cases bG:(i:Int)<ts.length
  ·have aZ:i<ts.length:=by omega
   have Hf:=Bg ts i aZ
   have Hd:=Sl step ts i aZ x1
   simp only [go_sem,bG,ak,cd,n6 aZ,fJ,ah]
   rw [← dh]
   (repeat ((with_reducible refine And.intro ?_ ?_); ·omega))
   refine aq.tail (σ:=[b0 (Tm.walks step (ts.take i) x1),b1 (Tm.walks step (ts.take i) x1),b2 (Tm.walks step (ts.take i) x1),b3 (Tm.walks step (ts.take i) x1),b4 (Tm.walks step (ts.take i) x1),b5 (Tm.walks step (ts.take i) x1),b6 (Tm.walks step (ts.take i) x1),b7 (Tm.walks step (ts.take i) x1)]) (τ:=[some (.var [.int .i64 h, .ps 2 (ts.map Tm.aO)]),some (.var [.int .i64 ts[i].head, .ps 2 (ts[i].args.map Tm.aO)])]) ⟨trivial,trivial⟩ (by simp [go_sem,dH,hc]) (hs _) ?_
   refine (ih i aZ (by omega) false _).mono ?_
   rintro r' iZ ⟨rfl,rfl⟩
   refine ⟨rfl,?_⟩
   rw [← Hd]
   refine aK.go 1000 ?_
   simp only [go_sem]
   refine ⟨⟨i+1,aZ⟩,?_,by simp only;omega⟩
   have h9:=nL (m:=9) (by decide) (hs (Tm.walks step (ts.take (i+1)) x1))
   simp only [wQ,Fv,and_true] at h9
   simp only [go_sem,Gu,bR,wQ,h9,xp]
   rw [eC (by omega)];rfl
  ·have dV:i=ts.length:=by omega
   subst dV
   simp only [go_sem,bG,dt]
   refine aK.go 1000 ?_
   simp only [go_sem]
   rw [fY]
   exact ⟨[b0 (Tm.walks step ts x1),b1 (Tm.walks step ts x1),b2 (Tm.walks step ts x1),b3 (Tm.walks step ts x1),b4 (Tm.walks step ts x1),b5 (Tm.walks step ts x1),b6 (Tm.walks step ts x1),b7 (Tm.walks step ts x1)],by simp [go_sem],ah _,hs _,trivial,rfl,rfl⟩
theorem Ym7 (g:List Sy) (b1:Option bE) (qS:jw 8 b1) (x:Bool×Bool) (t:Tm) (top:Bool):aq Tryz.prog (.fn 160 [] [.ptr 0 0, .ptr 2 0, .ptr 3 0]) [t.aO, .bool top] [some (.var [.ps 4 (syms g)]),b1,some (.var [.bool x.1]),some (.var [.bool x.2]),none,none,none,none]
  (fun _ σ'=>σ'=[some (.var [.ps 4 (syms g)]),b1,some (.var [.bool (kJ g x t top).1]),some (.var [.bool (kJ g x t top).2]),none,none,none,none]):=by
 obtain ⟨un,mx⟩:=x
 have ke:∀ u m,bw 8 [some (.var [.ps 4 (syms g)]),b1,some (.var [.bool u]),some (.var [.bool m]),none,none,none,none]:=fun u m=>⟨⟨dK g,trivial⟩,qS,⟨trivial,trivial⟩,⟨trivial,trivial⟩,trivial,trivial,trivial,trivial,trivial⟩
 refine aq.begin (rs:=[]) (m:=35) 1000 Tryz.func160 rfl rfl rfl rfl rfl ?_
 by_cases c1:t.head<0
 ·have rk:kJ g (un,mx) t top=(un,mx):=if_pos c1
  simp only [go_sem,dh,c1]
  rw [fY]
  exact ⟨[some (.var [.ps 4 (syms g)]),b1,some (.var [.bool un]),some (.var [.bool mx]),none,none,none,none],by simp [go_sem],ah _,ke _ _,trivial,by rw [rk]⟩
 simp only [go_sem,dh,c1]
 refine aK.draw [] 9 9 mixed rfl rfl (ah _) ?_
 by_cases c2:(g.length:Int)≤t.head
 ·have rk:kJ g (un,mx) t top=(true,mx):=by rw [kJ,if_neg c1,if_pos (.inl c2)]
  simp only [go_sem,dC,rK,c2]
  refine aK.go 1000 ?_
  simp only [go_sem]
  rw [fY]
  exact ⟨[some (.var [.ps 4 (syms g)]),b1,some (.var [.bool true]),some (.var [.bool mx]),none,none,none,none],by simp [go_sem],ah _,ke _ _,trivial,by rw [rk]⟩
 have hi:t.head.toNat<g.length:=by omega
 have BW:lL g t.head=g[t.head.toNat]:=FW hi
 by_cases c3:(t.args.length:Int)=g[t.head.toNat].arity
 ·simp only [go_sem,dC,rK,c2,ak,xx hi,xu,c3,ah]
  (repeat ((with_reducible refine And.intro ?_ ?_); ·omega))
  refine aK.go 1000 ?_
  cases ht:g[t.head.toNat].cE with
  | false =>
   have rk:kJ g (un,mx) t top=(un,mx):=by rw [kJ,if_neg c1,if_neg (by rw [BW];simp only [c3,not_true_eq_false,or_false];exact c2),if_neg (by rw [BW,ht];simp)]
   simp only [go_sem,rK,xx hi,xu,ht]
   (repeat ((with_reducible refine And.intro ?_ ?_); ·omega))
   rw [fY]
   exact ⟨[some (.var [.ps 4 (syms g)]),b1,some (.var [.bool un]),some (.var [.bool mx]),none,none,none,none],by simp [go_sem],ah _,ke _ _,trivial,by rw [rk]⟩
  | true =>
   cases top with
   | false =>
    have rk:kJ g (un,mx) t false=(un,true):=by rw [kJ,if_neg c1,if_neg (by rw [BW];simp only [c3,not_true_eq_false,or_false];exact c2),if_pos (by rw [BW,ht];simp)]
    simp only [go_sem,rK,xx hi,xu,ht]
    (repeat ((with_reducible refine And.intro ?_ ?_); ·omega))
    rw [fY]
    exact ⟨[some (.var [.ps 4 (syms g)]),b1,some (.var [.bool un]),some (.var [.bool true]),none,none,none,none],by simp [go_sem],ah _,ke _ _,trivial,by rw [rk]⟩
   | true =>
    have rk:kJ g (un,mx) t true=(un,mx):=by rw [kJ,if_neg c1,if_neg (by rw [BW];simp only [c3,not_true_eq_false,or_false];exact c2),if_neg (by simp)]
    simp only [go_sem,rK,xx hi,xu,ht]
    (repeat ((with_reducible refine And.intro ?_ ?_); ·omega))
    rw [fY]
    exact ⟨[some (.var [.ps 4 (syms g)]),b1,some (.var [.bool un]),some (.var [.bool mx]),none,none,none,none],by simp [go_sem],ah _,ke _ _,trivial,by rw [rk]⟩
 ·have rk:kJ g (un,mx) t top=(true,mx):=by rw [kJ,if_neg c1,if_pos (.inr (by rw [BW];exact c3))]
  simp only [go_sem,dC,rK,c2,ak,xx hi,xu,c3,ah]
  (repeat ((with_reducible refine And.intro ?_ ?_); ·omega))
  refine aK.go 1000 ?_
  simp only [go_sem]
  rw [fY]
  exact ⟨[some (.var [.ps 4 (syms g)]),b1,some (.var [.bool true]),some (.var [.bool mx]),none,none,none,none],by simp [go_sem],ah _,ke _ _,trivial,by rw [rk]⟩
theorem LK (g:List Sy) (t:Tm) (fH:t.size<999999999):aJ Tryz.prog 135 [.ps 4 (syms g),t.aO] (.int .i64 (t.term g)):=by
 refine aJ.begin (rs:=[.tmp 4]) (m:=24) 1000 Tryz.func135 rfl rfl rfl (by decide) trivial ?_
 simp only [go_sem,dh,ah]
 refine aq.bV [] (Rn g) (cJ _ _ _) (by simp [go_sem,dK]) ?_;simp only [bP,bY,bX,if_true];refine aK.go 1000 ?_
 cases c1:gw g with
 | false=>simp only [go_sem,Tm.term,c1,Int.reduceEq]
 | true =>
 simp only [go_sem,ah]
 rw [← dh]
 refine aq.bV [] (Cm t fH) (cJ _ _ _) (by simp [go_sem,dH]) ?_;simp only [bP,bY,bX,if_true];refine aK.go 1000 ?_
 by_cases c2:t.check=0
 case neg=>simp only [go_sem,c2,Tm.term,c1]
 simp only [go_sem,c2,ah]
 rw [← dh]
 have tE:=(Y4 c2).1
 have qS:jw 8 (some (.var [.int .i64 t.head, .ps 2 (t.args.map Tm.aO)])):=⟨trivial,bR _,trivial⟩
 refine aq.pad 4 ?_
 refine (Ysj (ι:=Bool×Bool) (fun _=>some (.var [.ps 4 (syms g)])) (fun _=>some (.var [.int .i64 t.head, .ps 2 (t.args.map Tm.aO)])) (fun x=>some (.var [.bool x.1])) (fun x=>some (.var [.bool x.2])) (fun _=>none) (fun _=>none) (fun _=>none) (fun _=>none)
  (kJ g) (.fn 160 [] [.ptr 0 0, .ptr 2 0, .ptr 3 0]) (fun x=>⟨⟨dK g,trivial⟩,qS,⟨trivial,trivial⟩,⟨trivial,trivial⟩,trivial,trivial,trivial,trivial,trivial⟩) (by simp [go_sem]) (fun x t top=>Ym7 g _ qS x t top) t (by omega) true (false,false)).mono ?_
 rintro r σ' ⟨rfl,rfl⟩
 rw [fY]
 refine ⟨[some (.var [.ps 4 (syms g)]),some (.var [.int .i64 t.head, .ps 2 (t.args.map Tm.aO)]),some (.var [.bool (t.walk (kJ g) true (false,false)).1]),some (.var [.bool (t.walk (kJ g) true (false,false)).2])],by simp [go_sem],ah _,⟨⟨dK g,trivial⟩,⟨trivial,bR _,trivial⟩,⟨trivial,trivial⟩,⟨trivial,trivial⟩,trivial⟩,trivial,?_⟩
 rw [Qr g t true _ tE]
 refine aK.go 1000 ?_
 cases c3:t.known g with
 | false =>
  simp only [go_sem]
  simp [Tm.term,c1,c2,c3]
 | true =>
  rw [QG g t true _ tE c3]
  cases c4:t.jD g with
  | false =>
   simp only [go_sem]
   simp [Tm.term,c1,c2,c3,c4]
  | true =>
   simp only [go_sem]
   simp [Tm.term,c1,c2,c3,c4]
def rz (g:List Sy) (l:Li):ae:=.agg [.ps 4 (syms g), .bool l.neg, .int .i64 l.l.head, .ps 2 (l.l.args.map Tm.aO), .int .i64 l.r.head, .ps 2 (l.r.args.map Tm.aO)]
theorem xr (g:List Sy) (l:Li):rz g l = .agg [.ps 4 (syms g), .bool l.neg, .int .i64 l.l.head, .ps 2 (l.l.args.map Tm.aO), .int .i64 l.r.head, .ps 2 (l.r.args.map Tm.aO)]:=rfl
theorem Eb {n:Nat} (g:List Sy) (l:Li):(rz g l).low n:=⟨dK _,trivial,trivial,bR _,trivial,bR _,trivial⟩
theorem Ypw (g:List Sy) (l:Li) (fH:l.l.size<999999999):aJ Tryz.prog 98 [rz g l] (.int .i64 (l.l.term g)):=by
 refine aJ.begin (rs:=[.tmp 2]) (m:=8) 1000 Tryz.func98 rfl rfl rfl (by decide) trivial ?_
 simp only [go_sem,xr,ah]
 rw [← dh]
 refine aq.bV [] (LK g l.l fH) (cJ _ _ _) (by simp [go_sem,dK,dH]) ?_;simp only [bP,bY,bX,if_true];refine aK.go 1000 ?_
 simp only [go_sem]
theorem ZY (g:List Sy) (l:Li) (fH:l.r.size<999999999):aJ Tryz.prog 99 [rz g l] (.int .i64 (l.r.term g)):=by
 refine aJ.begin (rs:=[.tmp 2]) (m:=8) 1000 Tryz.func99 rfl rfl rfl (by decide) trivial ?_
 simp only [go_sem,xr,ah]
 rw [← dh]
 refine aq.bV [] (LK g l.r fH) (cJ _ _ _) (by simp [go_sem,dK,dH]) ?_;simp only [bP,bY,bX,if_true];refine aK.go 1000 ?_
 simp only [go_sem]
theorem Tq (g:List Sy) (l:Li) (t:Tm) (h:t.head<g.length):aJ Tryz.prog 136 [rz g l,t.aO] (.bool (t.cE g)):=by
 refine aJ.begin (rs:=[.tmp 4]) (m:=15) 1000 Tryz.func136 rfl rfl rfl (by decide) trivial ?_
 by_cases c1 : 0≤t.head
 ·have hi:t.head.toNat<g.length:=by omega
  have BW:lL g t.head=g[t.head.toNat]:=FW hi
  simp only [go_sem,xr,dh,c1,rK,xx hi,xu]
  refine ⟨by omega,?_⟩
  simp [Tm.cE,c1,h,BW]
 ·simp only [go_sem,xr,dh,c1,Tm.cE]
def Li.sorts (g:List Sy) (l:Li):Int:=if (l.l.cE g&&decide (l.r.head≠0))||(!l.l.cE g&&l.r.cE g) then 10 else 0
theorem Yjm (g:List Sy) (l:Li) (h1:l.l.head<g.length) (h2:l.r.head<g.length):aJ Tryz.prog 100 [rz g l] (.int .i64 (l.sorts g)):=by
 refine aJ.begin (rs:=[.tmp 2]) (m:=27) 1000 Tryz.func100 rfl rfl rfl (by decide) trivial ?_
 simp only [go_sem,xr,ah]
 rw [← dh,← xr]
 refine aq.bV [] (Tq g l l.l h1) (cJ _ _ _) (by simp [go_sem,Eb,dH]) ?_;simp only [bP,bY,bX,if_true];refine aK.go 1000 ?_
 cases c1:l.l.cE g with
 | true =>
  by_cases c2:l.r.head=0
  ·simp only [go_sem,c2]
   simp [Li.sorts,c1,c2]
  ·simp only [go_sem,c2]
   simp [Li.sorts,c1,c2]
 | false =>
  simp only [go_sem,ah]
  rw [← dh,← xr]
  refine aq.bV [] (Tq g l l.r h2) (cJ _ _ _) (by simp [go_sem,Eb,dH]) ?_;simp only [bP,bY,bX,if_true];refine aK.go 1000 ?_
  cases c2:l.r.cE g <;>
  ·simp only [go_sem]
   simp [Li.sorts,c1,c2]
theorem HG (g:List Sy) (l:Li):l.check g=if l.l.term g≠0 then l.l.term g else if l.r.term g≠0 then l.r.term g else l.sorts g:=rfl
theorem Pv {g:List Sy} {t:Tm} (h:t.known g=true) (hg : 1≤g.length):t.head<g.length:=by
 obtain ⟨hd,ts⟩:=t
 simp only [Tm.head]
 by_cases c:hd<0
 ·omega
 ·simp only [Tm.known,decide_eq_false c,du,aC,bU,decide_eq_false_iff_not] at h
  omega
theorem Ynr {g:List Sy} {t:Tm} (h:t.term g=0):gw g=true:=by
 unfold Tm.term at h
 split at h
 ·omega
 ·rename_i h2;simpa using h2
theorem Yiq (g:List Sy) (l:Li) (hl:l.l.size<999999999) (hr:l.r.size<999999999):aJ Tryz.prog 97 [rz g l, .ps 1 [.fn 98 [] [], .fn 99 [] [], .fn 100 [] []]] (.int .i64 (l.check g)):=by
 refine aJ.begin (rs:=[.tmp 4]) (m:=19) 1000 Tryz.func97 rfl rfl rfl (by decide) trivial ?_
 simp only [go_sem,xr]
 refine aK.dc (ι:={i:Nat // i≤3∧(1≤i→l.l.term g=0)∧(2≤i→l.r.term g=0)∧(3≤i→l.sorts g=0)}) 1000 (fun i=>f_ 21 [(2, .ptr 0 0),(8, .ps 1 [.fn 98 [] [], .fn 99 [] [], .fn 100 [] []]),(9, .int .i64 ((3:Nat):Int)),(10, .int .i64 i.1)])
  (fun _=>[some (.var [.ps 4 (syms g), .bool l.neg, .int .i64 l.l.head, .ps 2 (l.l.args.map Tm.aO), .int .i64 l.r.head, .ps 2 (l.r.args.map Tm.aO)])]) (fun i=>3 - i.1) ⟨0,by omega,by omega,by omega,by omega⟩ ?_ (fun _=>av _) ?_
 ·simp only [go_sem,dK,bR,cM,cq]
 ·rintro ⟨i,hi,h1,h2,h3⟩
  have n0:((0:Nat):Int)=0:=rfl
  have n1:((1:Nat):Int)=1:=rfl
  have n2:((2:Nat):Int)=2:=rfl
  have n3:((3:Nat):Int)=3:=rfl
  rcases (by omega:i=0∨i=1∨i=2∨i=3) with rfl | rfl | rfl | rfl
  ·simp only [go_sem,n0,n1,n2,n3,Int.reduceLT,Int.reduceLE,ax,aS,Int.reduceToNat,bm,bC,ah]
   rw [← xr]
   refine aq.bV [] (Ypw g l hl) (cJ _ _ _) (by simp [go_sem,Eb]) ?_;simp only [bP,bY,bX,if_true];refine aK.go 1000 ?_
   by_cases c:l.l.term g=0
   ·simp only [go_sem,c]
    refine ⟨⟨1,by omega,fun _=>c,by omega,by omega⟩,?_,by simp only;omega⟩
    simp only [go_sem,dK,bR,cq]
    rfl
   ·simp only [go_sem,c]
    refine aK.go 1000 ?_
    simp only [go_sem]
    rw [HG,if_pos c]
  ·simp only [go_sem,n0,n1,n2,n3,Int.reduceLT,Int.reduceLE,ax,aS,Int.reduceToNat,bm,bC,ah]
   rw [← xr]
   refine aq.bV [] (ZY g l hr) (cJ _ _ _) (by simp [go_sem,Eb]) ?_;simp only [bP,bY,bX,if_true];refine aK.go 1000 ?_
   by_cases c:l.r.term g=0
   ·simp only [go_sem,c]
    refine ⟨⟨2,by omega,fun _=>h1 (by omega),fun _=>c,by omega⟩,?_,by simp only;omega⟩
    simp only [go_sem,dK,bR,cq]
    rfl
   ·simp only [go_sem,c]
    refine aK.go 1000 ?_
    simp only [go_sem]
    rw [HG,if_neg (by simp [h1 (by omega)]),if_pos c]
  ·have t1:=h1 (by omega)
   have t2:=h2 (by omega)
   have hg:=(Tg (Ynr t1)).1
   simp only [go_sem,n0,n1,n2,n3,Int.reduceLT,Int.reduceLE,ax,aS,Int.reduceToNat,bm,bC,ah]
   rw [← xr]
   refine aq.bV [] (Yjm g l (Pv (mW t1).2.1 hg) (Pv (mW t2).2.1 hg)) (cJ _ _ _) (by simp [go_sem,Eb]) ?_;simp only [bP,bY,bX,if_true];refine aK.go 1000 ?_
   by_cases c:l.sorts g=0
   ·simp only [go_sem,c]
    refine ⟨⟨3,by omega,fun _=>t1,fun _=>t2,fun _=>c⟩,?_,by simp only;omega⟩
    simp only [go_sem,dK,bR,cq]
    rfl
   ·simp only [go_sem,c]
    refine aK.go 1000 ?_
    simp only [go_sem]
    rw [HG,if_neg (by simp [t1]),if_neg (by simp [t2])]
  ·simp only [go_sem,n0,n1,n2,n3,Int.reduceLT]
   refine aK.go 1000 ?_
   simp only [go_sem]
   rw [HG,if_neg (by simp [h1 (by omega)]),if_neg (by simp [h2 (by omega)]),h3 (by omega)]
theorem KZ (g:List Sy) (l:Li) (hl:l.l.size<999999999) (hr:l.r.size<999999999):aJ Tryz.prog 62 [.ps 4 (syms g),l.aO] (.int .i64 (l.check g)):=by
 refine aJ.begin (rs:=[.tmp 4]) (m:=8) 1000 Tryz.func62 rfl rfl rfl (by decide) trivial ?_
 simp only [go_sem,Li.aO,Li.cs]
 refine ⟨rfl,rfl,rfl,by decide,?_⟩
 rw [← xr]
 refine aq.bV [1] (Yiq g l hl hr) ?_ (by simp [go_sem,Eb]) ?_
 ·simp only [go_sem,rH,rI]
 simp only [bP,bY,bX,if_true]
 refine aK.go 1000 ?_
 simp only [go_sem]
theorem Fu (g:List Sy) (c:List Li) (hs:∀ (i:Nat) (h:i<c.length),c[i].l.size<999999999∧c[i].r.size<999999999):aJ Tryz.prog 28 [.ps 4 (syms g), .ps 5 (lits c)] (.int .i64 (bf g c)):=by
 refine aJ.begin (rs:=[.tmp 4]) (m:=28) 1000 Tryz.func28 rfl rfl rfl (by decide) trivial ?_
 simp only [go_sem]
 refine aq.bV [] (Rn g) (cJ _ _ _) (by simp [go_sem,dK]) ?_;simp only [bP,bY,bX,if_true];refine aK.go 1000 ?_
 cases c1:gw g with
 | false =>
  simp only [go_sem,Int.reduceEq]
  simp [bf,c1]
 | true =>
 by_cases c2 : 32<(c.length:Int)
 ·simp only [go_sem,gj,c2]
  simp [bf,c1,c2]
 simp only [go_sem,gj,c2]
 have Jw:bf g c=dF g c:=by simp [bf,c1,c2]
 rw [Jw]
 refine aK.dc (ι:={i:Nat // i≤c.length∧dF g (c.drop i)=dF g c}) 1000 (fun i=>f_ 30 [(0, .ps 4 (syms g)),(17, .ps 5 (lits c)),(18, .int .i64 c.length),(19, .int .i64 i.1)]) (fun _=>[]) (fun i=>c.length - i.1) ⟨0,by simp⟩ ?_ (fun _=>av _) ?_
 ·simp only [go_sem,dK,cz,gj,cM]
 ·rintro ⟨i,hi,aQ⟩
  by_cases bG:(i:Int)<c.length
  ·have aZ:i<c.length:=by omega
   rw [Zmp g c i aZ] at aQ
   simp only [go_sem,gj,bG,cd,tV aZ,kL,ah]
   refine ⟨by omega,?_⟩
   have fH:=hs i aZ
   refine aq.bV [] (KZ g c[i] fH.1 fH.2) (by simp only [Li.aO,Li.cs];exact cJ _ _ _) (by simp [go_sem,dK,na]) ?_
   simp only [bP,bY,bX,if_true]
   refine aK.go 1000 ?_
   by_cases c3:c[i].check g=0
   ·simp only [go_sem,c3]
    rw [if_neg (by simp [c3])] at aQ
    refine ⟨⟨i+1,aZ,aQ⟩,?_,by simp only;omega⟩
    simp only [go_sem,dK,cz]
    rw [eC (by omega)];rfl
   ·simp only [go_sem,c3]
    rw [if_pos c3] at aQ
    refine aK.go 1000 ?_
    simp only [go_sem,aQ]
  ·simp only [go_sem,gj,bG]
   refine aK.go 1000 ?_
   simp only [go_sem]
   have:i=c.length:=by omega
   subst this
   rw [← aQ,aV,dF]
theorem Yh5 (c:List Li) (hc:c.length<1000000):aJ Tryz.prog 74 [.ps 5 (lits c)] (.ps 2 ((cP c).map Tm.aO)):=by
 refine aJ.begin (rs:=[.tmp 2]) (m:=20) 1000 Tryz.func74 rfl rfl rfl (by decide) (bR _) ?_
 simp only [go_sem,gj]
 refine aK.im (ι:={i:Nat // i≤c.length}) 1000 (fun i=>f_ 21 [(3,jo 0 2 ((cP (c.take i.1)).map Tm.aO)),(6, .ps 5 (lits c)),(7, .int .i64 c.length),(8, .int .i64 i.1)]) (fun i=>[e9 ((cP (c.take i.1)).map Tm.aO)]) (fun i=>c.length - i.1) ⟨0,by omega⟩ [] ?_ (fun _=>by simp) ?_
 ·refine jb rfl ?_
  simp only [go_sem,cP,oU,uW,tY,cz,cI,cM]
 ·rintro ⟨i,hi⟩
  have WH:=Fk (c.take i)
  have pf:(c.take i).length≤c.length:=by rw [cY];omega
  have iE:=fun h=>RU c i h
  generalize hq:cP (c.take i)=q at *
  by_cases bG:(i:Int)<c.length
  ·have aZ:i<c.length:=by omega
   simp only [go_sem,gj,bG,hq,cd,tV aZ,kL,ah,LN,eQ,aR,dR,forall_eq_or_imp,forall_eq,eo,ak]
   refine ⟨by omega,by omega,⟨i+1,aZ⟩,[(0,3),(3,0)],jb rfl ?_,by simp only;omega⟩
   simp only [iE aZ]
   rw [eC (by omega)]
   have e1:(q++[c[i].l,c[i].r]).map Tm.aO=q.map Tm.aO++[.agg [.int .i64 c[i].l.head, .ps 2 (c[i].l.args.map Tm.aO)], .agg [.int .i64 c[i].r.head, .ps 2 (c[i].r.args.map Tm.aO)]]:=by
    rw [cD,aB,aB,aP,dh c[i].l,dh c[i].r]
   have lw:bz 0 ((q++[c[i].l,c[i].r]).map Tm.aO):=bR _
   rw [e1] at lw ⊢
   rw [wo (by simp),wq (by simp)]
   simp only [go_sem,cz,cI,cI lw,ak,iC (av 1) lw,mh,mj,cq]
  ·simp only [go_sem,bG]
   refine aK.go 1000 ?_
   have:i=c.length:=by omega
   subst this
   rw [dt] at hq
   simp only [go_sem,hq,sn]
end Go.Proofs
namespace Go.Proofs
open Go Go.c8
attribute [local go_sem] Nat.reduceAdd Nat.reduceSub Nat.reduceMul Nat.reduceLeDiff Nat.reduceEqDiff Nat.reduceBEq Nat.reduceLT Nat.le_refl Int.natCast_zero Nat.sub_zero List.length_map Int.toNat_natCast Int.natCast_one Int.reduceEq Int.reduceLT Int.reduceLE Int.reduceNe Int.sub_zero Int.zero_add Int.toNat_one
def j7 (p:Int→Bool) (vs:List Int) (seen:List Nat):Bool:=seen.any fun i=>p (vs.getD i 0)
theorem OX (p q:Nat→Bool) (h:∀ x,p x=true→q x=true):∀ l:List Nat,(l.filter p).length≤(l.filter q).length
 | []=>ah _
 | x :: l=>by
  have:=OX p q h l
  simp only [List.filter_cons]
  cases hp:p x with
  | true=>simp [h x hp];omega
  | false=>cases hq:q x<;>simp<;>omega
theorem Pn (p q:Nat→Bool) (h:∀ x,p x=true→q x=true):∀ (l:List Nat) (i:Nat),i∈l→q i=true→p i=false→(l.filter p).length<(l.filter q).length
 | x :: l,i,hi,h1,h2=>by
  have hle:=OX p q h l
  simp only [List.filter_cons]
  rcases aR.1 hi with rfl | hi
  ·simp [h1,h2];omega
  ·have:=Pn p q h l i hi h1 h2
   cases hp:p x with
   | true=>simp [h x hp];omega
   | false=>cases hq:q x<;>simp<;>omega
def tv (n:Nat) (seen:List Nat):Nat:=((List.range n).filter fun j=>!seen.contains j).length
theorem Tb {n j:Nat} {seen:List Nat} (hj:j<n) (hn:j ∉ seen):tv n (seen++[j])<tv n seen :=
 Pn _ _ (fun x hx=>by
  simp only [bU,← df,qf] at hx ⊢
  exact fun h=>hx (aW.2 (.inl h))) _ j (cA.2 hj) (by simpa using hn) (by simp)
theorem Yl8 (w:Int) (ks:List ae) (vs:List Int) (h:ks.length=vs.length) (hk:bz 0 ks):aJ Tryz.prog 228 [.pp [.int .i64 w, .pm ks (ints vs)]] (.dA [.bool (vs.any fun n=>decide (0<n)), .bool (vs.any fun n=>decide (n<0))]):=by
 refine aJ.begin (rs:=[.tmp 2, .tmp 3]) (m:=28) 1000 Tryz.func228 rfl rfl rfl (by decide) ⟨trivial,trivial,trivial⟩ ?_
 simp only [go_sem]
 refine aK.dc (ι:={seen:List Nat // ∀ i∈seen,i<ks.length}) 1000 (fun x=>f_ 29 [(2, .bool false),(3, .bool false),(4, .bool (j7 (fun n=>decide (0<n)) vs x.1)),(5, .bool (j7 (fun n=>decide (n<0)) vs x.1)),(12, .it 0)])
  (fun x=>[some (.lu ks (ints vs) x.1)]) (fun x=>tv ks.length x.1) ⟨[],fun i hi=>by cases hi⟩ ?_ (fun _=>av _) ?_
 ·simp only [go_sem,j7,mR]
  exact ⟨iC (av 1) hk,dB _⟩
 ·rintro ⟨seen,hs⟩
  simp only [go_sem]
  refine ⟨0,ks,ints vs,seen,rfl,rfl,fun j hj hn=>?_,fun e8=>?_⟩
  ·have WD:j<vs.length:=by omega
   have Hc:∀ i∈seen++[j],i<ks.length:=fun i hi=>by
    rcases aW.1 hi with hi | hi
    ·exact hs i hi
    ·rw [aM.1 hi];exact hj
   have sU:∀ p:Int→Bool,j7 p vs (seen++[j])=(j7 p vs seen||p (vs.getD j 0)):=fun p=>by simp [j7]
   have hg:(ints vs).getD j .undef = .int .i64 (vs.getD j 0):=by
    rw [xy WD];simp [List.getD,aA WD]
   generalize vs.getD j 0=v at sU hg
   have h1:=sU fun n=>decide (0<n)
   have h2:=sU fun n=>decide (n<0)
   generalize ha:j7 (fun n=>decide (0<n)) vs seen=a at h1
   generalize hb:j7 (fun n=>decide (n<0)) vs seen=b at h2
   cases a<;>cases b<;>(
    refine aK.go 1000 ?_
    simp only [go_sem,hg,ha,hb]
    refine ⟨⟨seen++[j],Hc⟩,?_,Tb hj hn⟩
    simp only [go_sem,h1,h2,dB,hk,iC (av 1) hk]
    first | done | exact ⟨fN _,by decide⟩ | exact fN _ | decide | trace_state)
  ·have gB:∀ p:Int→Bool,j7 p vs seen=vs.any p:=fun p=>by
    rw [dD,j7,cT,cT]
    constructor
    ·rintro ⟨i,hi,hp⟩
     have WA:i<vs.length:=by have:=hs i hi;omega
     exact ⟨vs[i],aE WA,by simpa [List.getD,aA WA] using hp⟩
    ·rintro ⟨x,hx,hp⟩
     obtain ⟨i,hi,rfl⟩:=lX.1 hx
     exact ⟨i,e8 i (by omega),by simpa [List.getD,aA hi] using hp⟩
   refine aK.go 1000 ?_
   simp only [go_sem]
   refine aK.go 1000 ?_
   simp only [go_sem,gB]
def mP (n:Int) (more less:Bool):Int:=if 0<n∧less=false then 1 else if n<0∧more=false then -1 else 2
theorem Yq7 (w n:Int) (ks:List ae) (vs:List Int) (h:ks.length=vs.length) (hk:bz 0 ks):aJ Tryz.prog 213 [.pp [.int .i64 w, .pm ks (ints vs)], .int .i64 n] (.int .i64 (mP n (vs.any fun n=>decide (0<n)) (vs.any fun n=>decide (n<0)))):=by
 refine aJ.begin (rs:=[.tmp 4]) (m:=24) 1000 Tryz.func213 rfl rfl rfl (by decide) trivial ?_
 have hS:=Yl8 w ks vs h hk
 generalize (vs.any fun n=>decide (0<n))=a at *
 generalize (vs.any fun n=>decide (n<0))=b at *
 simp only [go_sem]
 refine aq.bV [] hS (cJ _ _ _) ⟨⟨trivial,⟨hk,dB _⟩,trivial⟩,trivial⟩ ?_
 rw [jj]
 simp only [ite_self]
 refine aK.go 1000 ?_
 by_cases c1 : 0<n
 ·have c2:¬ n<0:=by omega
  cases b
  ·simp only [go_sem,c1,c2]
   simp [mP,c1]
  ·simp only [go_sem,c1,c2]
   simp [mP,c1,c2]
 ·by_cases c2:n<0
  ·cases a
   ·simp only [go_sem,c1,c2]
    simp [mP,c1,c2]
   ·simp only [go_sem,c1,c2]
    simp [mP,c1,c2]
  ·simp only [go_sem,c1,c2]
   simp [mP,c1,c2]
end Go.Proofs
namespace Go.c8
open Go
section
variable {P:Program} {F:Frame→List Frame→Sem Next→World→Value→World→Prop} {σ:ai}
def za (K:ae→ai→Prop) (n:Nat) (r0:ae) (σ':ai):Prop :=
 ∃ r lO,pT (fun b=>decide (n≤b)) σ' r r0∧iy lO σ'∧lO.length=n∧bw n lO∧r.low 0∧K r lO
theorem bT.tree {g:FuncId} {args:List ae} {K:ae→ai→Prop} (h:g_ P F g args σ (za K σ.length)):g_ P F g args σ K:=by
 intro X base β w vs h1 h2 h3 fr cs h4
 obtain ⟨r0,σ',β',v,w',⟨r,lO,k1,k2,k3,k4,k5,k6⟩,g1,g2,g3,g4,g5⟩:=h X base β w vs h1 h2 h3 fr cs h4
 have hf:=zX (fun b=>decide (σ.length≤b)) σ'
 have eL:∀ b,b < σ.length→(fZ (fun b=>decide (σ.length≤b)) 0 σ')[b]? = σ'[b]?:=fun b hb=>by
  rw [En,bp]
  have:decide (σ.length≤b)=false:=by simp;omega
  rw [this]
  cases σ'[b]?<;>rfl
 generalize yN:fZ (fun b=>decide (σ.length≤b)) 0 σ' = ll at hf eL
 have BU:=g1.oH hf.oH
 have qA:=(FP BU hf r k1).1 v (g2.mono (Bo hf.oH) (fun _ _ h=>h))
 have hle:xI lO ll:=fun b x hb=>by
  have mA:b < σ.length:=by have:=(aI.1 hb).1;omega
  rw [eL b mA];exact vj k2 b x hb
 have hs:=BU.drop hle k3 (qL k4)
 have rj:=bS.drop qA hle k3 (m_ (av _) k5)
 exact ⟨r,lO,_,v,w',k6,hs,rj,g3.drop (vj k2) k3 (ah _),by omega,g5⟩
end
section
variable {P:Program} {lo:Ctx} {Q:cb→St→Prop} {ops:Array Oper}
end
section
variable {P:Program} {σ:ai}
end
section
variable {P:Program}
theorem FT {B x:bE} {b:Nat}:([some B]:ai)[b]? = some (some x)↔b=0∧B=x:=by
 cases b with
 | zero=>simp
 | succ b=>simp
end
def dz (sz:Nat):ae:=if sz=1 then .undef else .agg (List.replicate sz .undef)
theorem ZH (sz:Nat):(dz sz).cells.length=sz:=by
 unfold dz;split
 ·rename_i h;rw [h];rfl
 ·simp [ae.cells]
theorem Yfm (sz j:Nat):(dz sz).cells.getD j .undef = .undef:=by
 unfold dz;split
 ·cases j<;>simp [ae.cells]
 ·simp only [ae.cells,dp,db];split<;>rfl
def sc:ae→ae
 | .oc b off n _ sz=>.os b off n sz
 | a=>a
section
variable {P:Program} {X:Nat→Nat→Prop} {base:Nat} {σ:ai} {β β':Env} {w w':World}
theorem Vr {M:Nat→Nat→Prop} {v:Value} {a:ae} (h:bS w M β v a):bS w M β v (sc a):=by
 cases a with
 | oc b off n c sz=>cases h with
  | sI a h=>exact .sJ a h
  | oc h1 h2 h3=>exact .os h1 h2 h3
 | _=>exact h
theorem z6 {b:Nat} {x y:bE} (hb:bH σ b=some x) (hm:∀ L o,y.mut L o↔x.mut L o) {g o:Nat}:ja (b_ σ b y) β g o↔ja σ β g o:=by
 have nn:=j_ hb
 have bG:b < σ.length:=(aI.1 nn).1
 have il:b_ σ b y = σ.set b (some y):=by unfold b_;rw [if_pos bG]
 constructor
 ·rintro ⟨c,z,L,m1,m2,m3,m4⟩
  rw [il,dX] at m1
  split at m1
  ·rename_i e;subst e
   cases m1
   exact ⟨b,x,L,nn,m2,m3,(hm _ _).1 m4⟩
  ·exact ⟨c,z,L,m1,m2,m3,m4⟩
 ·rintro ⟨c,z,L,m1,m2,m3,m4⟩
  by_cases e:b=c
  ·subst e
   rw [nn] at m1
   cases m1
   exact ⟨b,y,L,by rw [il,dX,if_pos rfl,if_pos bG],m2,m3,(hm _ _).2 m4⟩
  ·exact ⟨c,z,L,by rw [il,dX,if_neg e];exact m1,m2,m3,m4⟩
theorem D9 {b:Nat} {x y:bE} (hb:bH σ b=some x):(b_ σ b y).length = σ.length:=by
 have nn:=j_ hb
 have bG:b < σ.length:=(aI.1 nn).1
 unfold b_;rw [if_pos bG,bg]
theorem cH.uK (hr:cH X base σ β w) {b:Nat} {x y:bE} (hb:bH σ b=some x) (hm:∀ L o,y.mut L o↔x.mut L o) (ju:∀ M L,β b=some L→gp w M β L x→gp w M β L y):cH X base (b_ σ b y) β w:=by
 have nn:=j_ hb
 have bG:b < σ.length:=(aI.1 nn).1
 have il:b_ σ b y = σ.set b (some y):=by unfold b_;rw [if_pos bG]
 have hM:MT X (b_ σ b y) β=MT X σ β:=funext fun g=>funext fun o=>propext (by unfold MT;rw [z6 hb hm])
 have eL:∀ c z,(b_ σ b y)[c]? = some (some z)→(c=b∧z=y)∨σ[c]? = some (some z):=fun c z h=>by
  rw [il,dX] at h
  split at h
  ·rename_i e;subst e;cases h;exact .inl ⟨rfl,rfl⟩
  ·exact .inr h
 have uE:∀ c z,(b_ σ b y)[c]? = some (some z)→∃ z',σ[c]? = some (some z'):=fun c z h=>by
  rcases eL c z h with ⟨rfl,rfl⟩ | h
  ·exact ⟨x,nn⟩
  ·exact ⟨z,h⟩
 refine ⟨fun c hc=>hr.nO c (by rw [D9 hb] at hc;exact hc),fun c z hc=>?_,fun c c' z z' L L' h1 h2 h3 h4 h5=>?_,hr.size,hr.qd,hr.gl⟩
 ·rw [hM]
  rcases eL c z hc with ⟨rfl,rfl⟩ | h
  ·obtain ⟨L,q1,q2,q3,q4⟩:=hr.cg c x nn
   exact ⟨L,q1,q2,q3,ju _ L q1 q4⟩
  ·exact hr.cg c z h
 ·obtain ⟨u,hu⟩:=uE c z h1
  obtain ⟨u',u0⟩:=uE c' z' h2
  exact hr.inj c c' u u' L L' hu u0 h3 h4 h5
theorem Ext.uK {b lo:Nat} {x y:bE} (hb:bH σ b=some x) (hm:∀ L o,y.mut L o↔x.mut L o) {σ':ai} (h:Ext lo (b_ σ b y) β w σ' β' w'):Ext lo σ β w σ' β' w' :=
 ⟨h.os,h.tape,h.output,h.size,fun g o v hc hn=>h.cell g o v hc fun hx=>hn ((z6 hb hm).1 hx),fun g hg hn=>h.block g hg fun o hx=>hn o ((z6 hb hm).1 hx),fun g o hx=>(h.iL g o hx).imp (z6 hb hm).1 fun h=>h,h.env⟩
theorem bT.sS {F:Frame→List Frame→Sem Next→World→Value→World→Prop} {g:FuncId} {args pre post:List ae} {K:ae→ai→Prop} {b off n sz fz:Nat} {es:List ae} (ha:args=pre++.os b off n sz :: post) (hb:bH σ b=some (.row es fz)) (hl:es.length=off+n) (hn : 0<n)
  (h:∀ c,n≤c→g_ P F g (pre++.oc b off n c sz :: post) (b_ σ b (.row (es++List.replicate (c - n) (dz sz)) fz)) K):g_ P F g args σ K:=by
 subst ha
 intro X base β w vs h1 h2 h3 fr cs h4
 have hk:=h3 pre.length (by simp)
 rw [tz,if_neg (iQ _),en,bm] at hk
 rcases hk.ru with ⟨rfl,_⟩ | ⟨L,cap,hL,jI,jr,yn,hv⟩
 ·exact absurd hn (iQ _)
 have hm:∀ L o,(bE.row (es++List.replicate (cap - n) (dz sz)) fz).mut L o↔(bE.row es fz).mut L o:=fun _ _=>Iff.rfl
 have hM:MT X (b_ σ b (.row (es++List.replicate (cap - n) (dz sz)) fz)) β=MT X σ β:=funext fun g=>funext fun o=>propext (by unfold MT;rw [z6 hb hm])
 have hr:=h1.uK hb hm (fun M L' hL' ju=>by
  obtain rfl:=aN (hL.symm.trans hL')
  obtain ⟨c,e,g1,g2,g3,g4,g5⟩:=ju
  refine ⟨c,e,g1,g2,by simp only [ay,bA];omega,fun i hi=>?_,fun i j hi hj=>?_⟩
  ·rw [tz]
   split
   ·exact g4 i (by assumption)
   ·simp only [ay,bA] at hi
    rw [show (List.replicate (cap - n) (dz sz)).getD (i - es.length) ae.undef=dz sz by simp [List.getD,show i - es.length<cap - n by omega],ZH,jI]
  ·rw [tz]
   split
   ·exact g5 i j (by assumption) hj
   ·simp only [ay,bA] at hi
    rw [show (List.replicate (cap - n) (dz sz)).getD (i - es.length) ae.undef=dz sz by simp [List.getD,show i - es.length<cap - n by omega],Yfm]
    exact .undef _)
 obtain ⟨r,σ',β',v,w',q,g1,g2,g3,g4,g5⟩:=h cap jr X base β w vs hr (by simpa using h2) (fun k hk=>by
  have eE:k<(pre++.os b off n sz :: post).length:=by simpa using hk
  have:=h3 k eE
  rw [hM]
  by_cases e:k=pre.length
  ·subst e
   rw [tz,if_neg (iQ _),en,bm] at this ⊢
   rw [hv,← jI];exact .oc hL jr yn
  ·rw [tz] at this ⊢
   split
   ·rename_i bG;rw [if_pos bG] at this;exact this
   ·rename_i bG;rw [if_neg bG] at this
    obtain ⟨m,hm⟩:∃ m,k - pre.length=m+1:=⟨k - pre.length - 1,by omega⟩
    rw [hm,bC] at this ⊢;exact this) fr cs h4
 exact ⟨r,σ',β',v,w',q,g1,g2,by rw [D9 hb] at g3;exact g3.uK hb hm,by rw [D9 hb] at g4;exact g4,g5⟩
def y7 (K:ae→ai→Prop) (b:Nat) (r:ae) (σ':ai):Prop:=∃ es fz m,bH σ' b=some (.row es fz)∧K (sc r) (b_ σ' b (.row (es.take m) fz))
theorem bT.short {F:Frame→List Frame→Sem Next→World→Value→World→Prop} {g:FuncId} {args:List ae} {K:ae→ai→Prop} (b:Nat)
  (h:g_ P F g args σ (y7 K b)):g_ P F g args σ K:=by
 intro X base β w vs h1 h2 h3 fr cs h4
 obtain ⟨r,σ',β',v,w',⟨es,fz,m,hb,q⟩,g1,g2,g3,g4,g5⟩:=h X base β w vs h1 h2 h3 fr cs h4
 have hm:∀ L o,(bE.row (es.take m) fz).mut L o↔(bE.row es fz).mut L o:=fun _ _=>Iff.rfl
 have hM:MT X (b_ σ' b (.row (es.take m) fz)) β'=MT X σ' β':=funext fun g=>funext fun o=>propext (by unfold MT;rw [z6 hb hm])
 refine ⟨sc r,_,β',v,w',q,g1.uK hb hm (fun M L hL ju=>?_),by rw [hM];exact Vr g2,⟨g3.os,g3.tape,g3.output,g3.size,g3.cell,g3.block,fun g o hx=>g3.iL g o ((z6 hb hm).1 hx),g3.env⟩,by rw [D9 hb];exact g4,g5⟩
 obtain ⟨c,e,k1,k2,k3,k4,k5⟩:=ju
 have hg:∀ i,i<(es.take m).length→(es.take m).getD i ae.undef=es.getD i .undef:=fun i hi=>by
  rw [cY] at hi
  simp [List.getD,show i<m by omega]
 have hl:(es.take m).length≤es.length:=by rw [cY];omega
 exact ⟨c,e,k1,k2,by omega,fun i hi=>by rw [hg i hi];exact k4 i (by omega),fun i j hi hj=>by rw [hg i hi];exact k5 i j (by omega) hj⟩
theorem bT.oC {g:FuncId} {fn:Func} {c:Code} {args:List ae} {K:ae→ai→Prop} {m:Nat} {rs:List ResultVar} (n:Nat) (hf:P.funcs[g]? = some fn) (hb:fn.body=some c) (hr:fn.results.toList=rs) (hm:fn.ntmps - args.length=m)
  (eI : (fn.name == "runtime.NumGoroutine") = false)
  (h:dZ P ⟨σ.length,none⟩ (qv P rs (mJ K σ.length)) n [.code c] .normal (args++List.replicate m .undef) σ):bT P g args σ K:=bT.drop (bT.start n hf hb hr hm eI h)
theorem Je {K:ae→ai→Prop} {b:Nat} {r:ae} {σ':ai}:y7 K b r σ' = ∃ es fz m,bH σ' b=some (.row es fz)∧K (sc r) (b_ σ' b (.row (es.take m) fz)):=rfl
end
end Go.c8
